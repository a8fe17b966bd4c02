import Derived.Test.YtjfgjnlocadpbaaGreatDoorC7
set_option linter.unusedVariables false
set_option linter.unusedSimpArgs false
set_option linter.unnecessarySimpa false
section
set_option maxRecDepth 100000
namespace Go.Proofs.YtjfgjnlocadpbaaGreatDoor
open Go.Mach
theorem test_get (q : Nat) (h : q < 6) : window [AV.str ⟨#[61, 61]⟩, .str ⟨#[33, 61]⟩, .str ⟨#[60]⟩, .str ⟨#[60, 61]⟩, .str ⟨#[62]⟩, .str ⟨#[62, 61]⟩] q 1 = some [.str (tSix.getD q ⟨#[]⟩)] := by
  match q, h with
  | 0, _ => rfl
  | 1, _ => rfl
  | 2, _ => rfl
  | 3, _ => rfl
  | 4, _ => rfl
  | 5, _ => rfl
theorem two_get (q : Nat) (h : q < 2) : window [AV.str ⟨#[43]⟩, .str ⟨#[45]⟩] q 1 = some [.str (if q = 0 then ⟨#[43]⟩ else ⟨#[45]⟩)] := by
  match q, h with
  | 0, _ => rfl
  | 1, _ => rfl
theorem two_getT (a b : GT) (q : Nat) (h : q < 2) : window (cT a ++ cT b) (q * 7) 7 = some (cT (if q = 0 then a else b)) := by
  match q, h with
  | 0, _ => rfl
  | 1, _ => rfl
theorem close1_two {σ : Heap} {k fz : Nat} {e : Bool} (a b : GT) (h : σ[k]? = some (.cells (cT a ++ cT b) fz e)) : close1 σ (.sl k 0 2 7 true) = some (.isl (GT.encs [a, b]) false, frz σ k 14) := by
  refine close1_of0 ?_
  have hc2 : ¬ (2 : Nat) = 0 := by decide
  have hw : window (cT a ++ cT b) 0 14 = some (cT a ++ cT b) := rfl
  simp only [close0, if_neg hc2, h, Nat.reduceMul, Nat.zero_add, hw, Option.bind_some]
  have h14 : ((cT a ++ cT b).all AV.clo1) = true := rfl
  rw [if_pos h14]
  have hch : chunk 7 true 2 ((cT a ++ cT b).map AV.nrm) = some (GT.encs [a, b]) := by simp [GT.encs, GT.enc_eq a, GT.enc_eq b]
  rw [hch]; rfl
theorem close0_two {σ : Heap} {k fz : Nat} {e : Bool} (a b : GT) (h : σ[k]? = some (.cells (cT a ++ cT b) fz e)) : close0 σ (.sl k 0 2 7 true) = some (.isl (GT.encs [a, b]) false, frz σ k 14) := by
  have hc2 : ¬ (2 : Nat) = 0 := by decide
  have hw : window (cT a ++ cT b) 0 14 = some (cT a ++ cT b) := rfl
  simp only [close0, if_neg hc2, h, Nat.reduceMul, Nat.zero_add, hw, Option.bind_some]
  have h14 : ((cT a ++ cT b).all AV.clo1) = true := rfl
  rw [if_pos h14]
  have hch : chunk 7 true 2 ((cT a ++ cT b).map AV.nrm) = some (GT.encs [a, b]) := by simp [GT.encs, GT.enc_eq a, GT.enc_eq b]
  rw [hch]; rfl
theorem close1_opT {σ : Heap} {k m fz fm : Nat} {e em : Bool} (nm : ByteArray) (a b : GT) (h : σ[k]? = some (.cells (opC nm (.sl m 0 2 7 true)) fz e)) (hm : σ[m]? = some (.cells (cT a ++ cT b) fm em)) (hne : k ≠ m) :
    ∃ σ', close1 σ (.sl k 0 1 7 true) = some (.isl (GT.encs [opT nm a b]) false, σ') := by
  have h2 : close0 σ (.sl k 0 1 7 true) = none := by
    have hc2 : ¬ (1 : Nat) = 0 := by decide
    have hw : window (opC nm (.sl m 0 2 7 true)) 0 7 = some (opC nm (.sl m 0 2 7 true)) := rfl
    simp only [close0, if_neg hc2, h, Nat.one_mul, hw, Option.bind_some]
    rfl
  have hfz : (frz σ k 7)[m]? = some (.cells (cT a ++ cT b) fm em) := by
    simp only [frz, h]; rw [List.getElem?_set_ne hne]; exact hm
  have i1 : ∀ c (σ : Heap) k n, closeUp c σ (AV.int k n) = some (.int k n, σ) := fun _ _ _ _ => rfl
  have s1 : ∀ c (σ : Heap) n, closeUp c σ (AV.str n) = some (.str n, σ) := fun _ _ _ => rfl
  have l1 : ∀ c (σ : Heap) n b, closeUp c σ (AV.isl n b) = some (.isl n false, σ) := fun _ _ _ _ => rfl
  have i0 : ∀ (σ : Heap) k n, close0 σ (AV.int k n) = some (.int k n, σ) := fun _ _ _ => rfl
  have s0 : ∀ (σ : Heap) n, close0 σ (AV.str n) = some (.str n, σ) := fun _ _ => rfl
  have l0 : ∀ (σ : Heap) n b, close0 σ (AV.isl n b) = some (.isl n false, σ) := fun _ _ _ => rfl
  have hw : window (opC nm (.sl m 0 2 7 true)) 0 7 = some (opC nm (.sl m 0 2 7 true)) := rfl
  have hw2 : window (cT a ++ cT b) 0 14 = some (cT a ++ cT b) := rfl
  have hb := close0_two a b hfz
  have hU : ∀ c, (∀ (σ : Heap) n, c σ (AV.str n) = some (.str n, σ)) → (∀ (σ : Heap) k n, c σ (AV.int k n) = some (.int k n, σ)) → (∀ (σ : Heap) n b, c σ (AV.isl n b) = some (.isl n false, σ)) →
      (∃ σ', c (frz σ k 7) (.sl m 0 2 7 true) = some (.isl (GT.encs [a, b]) false, σ')) → ∃ σ', closeUp c σ (.sl k 0 1 7 true) = some (.isl (GT.encs [opT nm a b]) false, σ') := by
    rintro c c1 c2 c3 ⟨σ', c4⟩
    refine ⟨σ', ?_⟩
    simp only [closeUp, h, Nat.one_mul, Nat.zero_add, hw, Option.bind_some, closeLW, c1, c2, c3, c4, Option.map_some]
    simp [AV.clo1, chunk, mk, GT.encs, opT, GT.enc_eq]
  have hlen14 : ((cT a ++ cT b).all AV.clo1) = true := rfl
  have up : ∀ c (τ : Heap) fm em, τ[m]? = some (.cells (cT a ++ cT b) fm em) → (∀ (σ : Heap) n, c σ (AV.str n) = some (.str n, σ)) → (∀ (σ : Heap) k n, c σ (AV.int k n) = some (.int k n, σ)) → (∀ (σ : Heap) n b, c σ (AV.isl n b) = some (.isl n false, σ)) →
      closeUp c τ (.sl m 0 2 7 true) = some (.isl (GT.encs [a, b]) false, frz τ m 14) := by
    intro c τ fm em hτ c1 c2 c3
    have hlw : ∀ τ', closeLW c τ' (cT a ++ cT b) = some (cT a ++ cT b, τ') := fun τ' => by simp [closeLW, c1, c2, c3]
    have hch : chunk 7 true 2 (cT a ++ cT b) = some (GT.encs [a, b]) := by simp [GT.encs, GT.enc_eq a, GT.enc_eq b, chunk, mk]
    simp only [closeUp, hτ, Nat.reduceMul, Nat.zero_add, hw2, Option.bind_some, hlw, hlen14, if_true, hch, Option.map_some]
  unfold close1
  rw [h2]
  exact hU _ (s1 _) (i1 _) (l1 _) ⟨_, up _ _ _ _ hfz (s1 _) (i1 _) (l1 _)⟩
theorem close_ex {σ : Heap} {x y : AV} {F : AV × Heap → Option (AV × Heap)} {r : AV} (h : ∃ σ', close1 σ x = some (y, σ')) (hF : ∀ σ', ∃ z, F (y, σ') = some (r, z)) : ∃ z, (close1 σ x).bind F = some (r, z) := by
  obtain ⟨σ', h⟩ := h
  rw [h]; exact hF σ'
theorem lit6_ok (x : GRaw) (hx : x.ok) : pureT T c29 [x.enc] = some (litR x).enc := by
  have hA := callAtom6 x hx
  have h8 := pick6_8 x.kind hx.1
  have hl8 := pickN_lt (c := x.kind) (n := 8) (by omega)
  unfold litR
  apply pure_enter (by simp [c29])
  by_cases c4 : pickN x.kind 8 < 4
  · have : pickN x.kind 8 = 0 ∨ pickN x.kind 8 = 1 ∨ pickN x.kind 8 = 2 ∨ pickN x.kind 8 = 3 := by omega
    rw [if_pos c4]
    rcases this with h | h | h | h <;> (rw [h] at h8; simp [c29, hA, ← GRaw.enc_eq, h8, setRun, GL.enc_eq])
  · by_cases c5 : pickN x.kind 8 = 4
    · rw [if_neg c4, if_pos c5]
      rw [c5] at h8
      simp [c29, hA, ← GRaw.enc_eq, h8, setRun, GL.enc_eq]
    · by_cases c7 : pickN x.kind 8 < 7
      · rw [if_neg c4, if_neg c5, if_pos c7]
        have p6 := pick6_6 x.name hx.2.1
        have q6 := pickN_lt (c := x.name) (n := 6) (by omega)
        have q6' : (pickN x.name 6 : Int) < 6 := by omega
        have g6 := test_get _ q6
        have v0 := callV6 x.n0 hx.2.2.1
        have v1 := callV6 x.n1 hx.2.2.2.1
        have p4 := pick6_4 x.n2 hx.2.2.2.2.1
        have p2 := pick6_2 x.n3 hx.2.2.2.2.2
        have q2 := pickN_lt (c := x.n3) (n := 2) (by omega)
        have q2' : (pickN x.n3 2 : Int) < 2 := by omega
        have hnu := callNum6 (pickN x.n2 4)
        have hg2 := two_getT (numT (pickN x.n2 4)) (vT x.n1) _ q2
        simp only [cT, List.cons_append, List.nil_append] at hg2
        have : pickN x.kind 8 = 5 ∨ pickN x.kind 8 = 6 := by omega
        rcases this with h | h <;> (rw [h] at h8; simp [c29, hA, ← GRaw.enc_eq, h8, setRun, GL.enc_eq, p6, q6', g6, mk, v0, v1, p4, p2, q2', hnu, hg2]; rw [close1_two (vT x.n0) _ rfl]; simp)
      · rw [if_neg c4, if_neg c5, if_neg c7]
        have h : pickN x.kind 8 = 7 := by omega
        rw [h] at h8
        have v0 := callV6 x.n0 hx.2.2.1
        have v1 := callV6 x.n1 hx.2.2.2.1
        have v2 := callV6 x.n2 hx.2.2.2.2.1
        have p2 := pick6_2 x.n3 hx.2.2.2.2.2
        have hq : GV.i64ok (x.n3.tdiv 2) := tdiv_ok hx.2.2.2.2.2 2 (by omega)
        have hwm : IntKind.i64.wrap (x.n3.tdiv 2) = x.n3.tdiv 2 := wr64 hq.1 hq.2
        have p2b := pick6_2 _ hq
        have q2 := pickN_lt (c := x.n3) (n := 2) (by omega)
        have q2' : (pickN x.n3 2 : Int) < 2 := by omega
        have q3 := pickN_lt (c := x.n3.tdiv 2) (n := 2) (by omega)
        have q3' : (pickN (x.n3.tdiv 2) 2 : Int) < 2 := by omega
        have g2 := two_get _ q2
        have hnu := callNum6 1
        have hfd : fieldV 1 1 false (vT x.n0).enc = some (.str (vName (pickN x.n0 6))) := by rw [GT.enc_eq]; rfl
        have hg2 := two_getT (numT 1) (vT x.n2) _ q3
        simp only [cT, List.cons_append, List.nil_append] at hg2
        simp [c29, hA, ← GRaw.enc_eq, h8, setRun, GL.enc_eq, v0, v1, v2, p2, p2b, hwm, q2', q3', g2, mk, hnu, hg2, hfd]
        refine close_ex (close1_opT (if pickN x.n3 2 = 0 then ⟨#[43]⟩ else ⟨#[45]⟩) (vT x.n1) (if pickN (x.n3.tdiv 2) 2 = 0 then numT 1 else vT x.n2) rfl rfl (by decide)) fun σ' => ?_
        simp [opT]
theorem callLit6 (x : GRaw) (hx : x.ok) (bs : Nat) (σ : Heap) : callT T 29 [x.enc] bs σ = some ((litR x).enc, σ) := call_clean rfl rfl rfl (by simp) (lit6_ok x hx)
end Go.Proofs.YtjfgjnlocadpbaaGreatDoor
end
section
set_option maxRecDepth 100000
namespace Go.Proofs.YtjfgjnlocadpbaaGreatDoor
open Go.Mach
theorem agg_get (q : Nat) (h : q < 3) : window [AV.str ⟨#[109, 105, 110]⟩, .str ⟨#[109, 97, 120]⟩, .str ⟨#[99, 111, 117, 110, 116]⟩] q 1 = some [.str (aggN q)] := by
  match q, h with
  | 0, _ => rfl
  | 1, _ => rfl
  | 2, _ => rfl
abbrev RT : ACode := sndC (sndC (sndC (sndC (sndC (sndC (sndC c13.body))))))
theorem rule_tail6 (h : GRaw) (hh : h.ok) (lab : ByteArray) (body : List GL) (lst : AV) (f : FR) (σ : Heap) (h4 : f 4 = .ptr 0 0) (h5 : f 5 = .ptr 2 0) (h6 : f 6 = .ptr 3 0) (hN : 4 ≤ σ.length)
    (c0 : ∃ a b c d e g, σ[0]? = some (.cells [a, b, c, d, e, g] 0 false)) (c2 : σ[2]? = some (.cells [.str lab, .str (relR h).name, .isl (GT.encs (atomR h)) false, .str ⟨#[]⟩, .int .i64 0, lst] 0 false))
    (c3 : σ[3]? = some (.cells h.enc.cells 0 false)) (hL : LX 4 3 σ (body.map GL.enc) lst) :
    wpK T 0 88 [.code RT] f σ (endP 88 [.cell 4 6 true] (GR.enc ⟨lab, (relR h).name, atomR h, if aggR h = true then aggN (pickN (h.kind.tdiv 5) 3) else ⟨#[]⟩, if aggR h = true then 1 else 0, body⟩)) := by
  obtain ⟨a, b, c, d, e, g, c0⟩ := c0
  have p5 := pick6_5 h.kind hh.1
  have hq : GV.i64ok (h.kind.tdiv 5) := tdiv_ok hh.1 5 (by omega)
  have hwm : IntKind.i64.wrap (h.kind.tdiv 5) = h.kind.tdiv 5 := wr64 hq.1 hq.2
  have p3 := pick6_3 _ hq
  have q3 := pickN_lt (c := h.kind.tdiv 5) (n := 3) (by omega)
  have q3' : (pickN (h.kind.tdiv 5) 3 : Int) < 3 := by omega
  have g3 := agg_get _ q3
  have hs0 : ∀ o, (σ.set 0 o)[0]? = some o := fun o => list_set_at (by omega)
  have hcl : ∀ o, ∃ σ', close1 (σ.set 0 o) lst = some (.isl (body.map GL.enc) false, σ') := fun o => by
    obtain ⟨σ', h1, _⟩ := (hL.keep (τ := σ.set 0 o) fun i o hi ho => by rw [List.getElem?_set_ne (by omega)]; exact ho).close
    exact ⟨σ', close1_of0 h1⟩
  have ga3 : ∀ o, (σ ++ [o])[3]? = some (.cells [.int .i64 h.kind, .int .i64 h.name, .int .i64 h.n0, .int .i64 h.n1, .int .i64 h.n2, .int .i64 h.n3] 0 false) := fun o => by rw [List.getElem?_append_left (by omega)]; exact c3
  have ga2 : ∀ o, (σ ++ [o])[2]? = some (.cells [.str lab, .str (relR h).name, .isl (GT.encs (atomR h)) false, .str ⟨#[]⟩, .int .i64 0, lst] 0 false) := fun o => by rw [List.getElem?_append_left (by omega)]; exact c2
  have hs2 : ∀ o o', ((σ ++ [o]).set 2 o')[2]? = some o' := fun o o' => list_set_at (by simp; omega)
  have ga0 : ∀ o o' h, ((σ ++ [o]).set 2 o')[0]'h = .cells [a, b, c, d, e, g] 0 false := fun o o' h => Option.some_inj.1 ((List.getElem?_eq_getElem h).symm.trans (by rw [List.getElem?_set_ne (by decide), List.getElem?_append_left (by omega)]; exact c0))
  have ga0' : ∀ o o', ((σ ++ [o]).set 2 o')[0]? = some (.cells [a, b, c, d, e, g] 0 false) := fun o o' => by rw [List.getElem?_set_ne (by decide), List.getElem?_append_left (by omega)]; exact c0
  have hs20 : ∀ o o' o'', (((σ ++ [o]).set 2 o').set 0 o'')[0]? = some o'' := fun o o' o'' => list_set_at (by simp)
  have hcl2 : ∀ o o' o'', ∃ σ', close1 (((σ ++ [o]).set 2 o').set 0 o'') lst = some (.isl (body.map GL.enc) false, σ') := fun o o' o'' => by
    obtain ⟨σ', h1, _⟩ := (hL.keep (τ := ((σ ++ [o]).set 2 o').set 0 o'') fun i q hi ho => by
      rw [List.getElem?_set_ne (by omega), List.getElem?_set_ne (by omega), List.getElem?_append_left (List.getElem?_eq_some_iff.1 ho).1]; exact ho).close
    exact ⟨σ', close1_of0 h1⟩
  by_cases k4 : pickN h.kind 5 = 4
  · rw [k4] at p5
    by_cases k1 : 1 < (atomR h).length
    · have k1' : (1 : Int) < ((atomR h).length : Int) := by omega
      have e1 : (atomR h)[1]? = some (atomR h)[1] := List.getElem?_eq_getElem k1
      by_cases k2 : (atomR h)[1].kind = 1
      · have ha : aggR h = true := by unfold aggR; rw [e1]; simp [k4, k2]
        simp [RT, c13, sndC, h4, h5, h6, c0, c2, c3, p5, k1', k1, e1, k2, hwm, p3, q3', g3, mk, setRun, ha, ga2, ga3, hs2, ga0, ga0', hs20]
        refine close_ex (hcl2 _ _ _) fun σ' => ?_
        simp [GR.enc_eq]
      · have ha : aggR h = false := by unfold aggR; rw [e1]; simp [k4, k2]
        simp [RT, c13, sndC, h4, h5, h6, c0, c2, c3, p5, k1', k1, e1, k2, setRun, ha, hs0]
        refine close_ex (hcl _) fun σ' => ?_
        simp [GR.enc_eq]
    · have k1' : ¬ (1 : Int) < ((atomR h).length : Int) := by omega
      have ha : aggR h = false := by unfold aggR; rw [List.getElem?_eq_none (by omega)]; simp
      simp [RT, c13, sndC, h4, h5, h6, c0, c2, c3, p5, k1', setRun, ha, hs0]
      refine close_ex (hcl _) fun σ' => ?_
      simp [GR.enc_eq]
  · have k4' : ¬ (pickN h.kind 5 : Int) = 4 := by omega
    have ha : aggR h = false := by unfold aggR; simp [k4]
    simp [RT, c13, sndC, h4, h5, h6, c0, c2, c3, p5, k4, k4', setRun, ha, hs0]
    refine close_ex (hcl _) fun σ' => ?_
    simp [GR.enc_eq]
theorem pickN_small (n : Nat) (h : n < 26) : pickN n 26 = n := by
  unfold pickN; rw [if_neg (by omega)]; simp; omega
theorem body_take (l : List GRaw) (h : 1 < l.length) : bodyR l = (((l.take 5).drop 1)).map litR := by
  unfold bodyR; rw [if_neg (by omega)]
abbrev RL : ACode := sndC (sndC (sndC (sndC (sndC c13.body))))
theorem rule_loop6 (l : List GRaw) (hl : ∀ x ∈ l, x.ok) (hlen : l.length ≤ 100000000000) (h : GRaw) (hh : h.ok) (lab : ByteArray) (f : FR) (σ : Heap) (h0 : f 0 = .isl (l.map GRaw.enc) false) (h4 : f 4 = .ptr 0 0) (h5 : f 5 = .ptr 2 0) (h6 : f 6 = .ptr 3 0) (hN : 4 ≤ σ.length)
    (c0 : ∃ a b c d e g, σ[0]? = some (.cells [a, b, c, d, e, g] 0 false)) (c2 : σ[2]? = some (.cells [.str lab, .str (relR h).name, .isl (GT.encs (atomR h)) false, .str ⟨#[]⟩, .int .i64 0, .isl [] true] 0 false))
    (c3 : σ[3]? = some (.cells h.enc.cells 0 false)) :
    wpK T 0 88 [.code RL] f σ (endP 88 [.cell 4 6 true] (GR.enc ⟨lab, (relR h).name, atomR h, if aggR h = true then aggN (pickN (h.kind.tdiv 5) 3) else ⟨#[]⟩, if aggR h = true then 1 else 0, bodyR l⟩)) := by
  have tail := rule_tail6 h hh lab (bodyR l)
  have hL0 : ∀ bs σ, callT T 29 [.agg [.int .i64 0, .int .i64 0, .int .i64 0, .int .i64 0, .int .i64 0, .int .i64 0]] bs σ = some ((litR .zero).enc, σ) := callLit6 .zero GRaw.zero_ok
  have hb : RL = .seq (fstC RL) (.seq (fstC (sndC RL)) RT) := rfl
  rw [hb]
  generalize RT = K at tail
  generalize GR.enc ⟨lab, (relR h).name, atomR h, if aggR h = true then aggN (pickN (h.kind.tdiv 5) 3) else ⟨#[]⟩, if aggR h = true then 1 else 0, bodyR l⟩ = res at *
  have fin : ∀ (v : GL) (es : List GL) (σ σ' : Heap) x' (es' : List AV), es' = (es ++ [v]).map GL.enc → LX 4 3 σ' es' x' → 4 ≤ σ.length → σ.length + 1 ≤ σ'.length → (∀ i, i < 4 → σ'[i]? = σ[i]?) → ∀ o, LX 4 3 (σ'.set 2 o) ((es ++ [v]).map GL.enc) x' := fun v es σ σ' x' es' he hL' h4 hl' hk' o => by
    subst he
    exact hL'.keep fun i o hi ho => by rw [List.getElem?_set_ne (by omega)]; exact ho
  simp [RL, c13, sndC, fstC]
  refine W_for T 0 88 (min l.length 5 - 1) (fun i f σ => f 0 = .isl (l.map GRaw.enc) false ∧ f 4 = .ptr 0 0 ∧ f 5 = .ptr 2 0 ∧ f 6 = .ptr 3 0 ∧ f 7 = .int .i64 ((i : Int) + 1) ∧ 4 ≤ σ.length ∧ (∃ a b c d e g, σ[0]? = some (.cells [a, b, c, d, e, g] 0 false)) ∧
    σ[3]? = some (.cells h.enc.cells 0 false) ∧ ∃ lst, σ[2]? = some (.cells [.str lab, .str (relR h).name, .isl (GT.encs (atomR h)) false, .str ⟨#[]⟩, .int .i64 0, lst] 0 false) ∧ LX 4 3 σ (((((l.take 5).drop 1).take i).map litR).map GL.enc) lst) ?_ _ _ ?_
  · rintro i f σ hi ⟨h0, h4, h5, h6, h7, hN, c0, c3, lst, c2, hL⟩
    by_cases hlt : i + 1 < min l.length 5
    · have hlt1 : i + 1 < l.length := by omega
      have hlt2 : (i : Int) + 1 < (l.length : Int) := by omega
      have hlt3 : (i : Int) + 1 < 5 := by omega
      have h0i : 0 ≤ (i : Int) + 1 := by omega
      have hw : IntKind.i64.wrap ((i : Int) + 1 + 1) = (i : Int) + 1 + 1 := wr64 (by omega) (by omega)
      have e1 : l[i + 1]? = some l[i + 1] := List.getElem?_eq_getElem hlt1
      have hc := callLit6 l[i + 1] (hl _ (List.getElem_mem hlt1))
      have htk : (((l.take 5).drop 1).take (i + 1)).map litR = (((l.take 5).drop 1).take i).map litR ++ [litR l[i + 1]] := by
        have hd : i < ((l.take 5).drop 1).length := by simp; omega
        rw [List.take_succ_eq_append_getElem hd, List.map_append]
        have : ((l.take 5).drop 1)[i] = l[i + 1] := by simp [Nat.add_comm]
        rw [this]; rfl
      have hal : ((((l.take 5).drop 1).take i).map litR).length ≤ 5 := by simp; omega
      rw [htk]
      generalize (((l.take 5).drop 1).take i).map litR = es at *
      simp [h0, h4, h5, h6, h7, hlt2, hlt3, hlt1, h0i, c2, e1, hc, ← GRaw.enc_eq, setRun, -appendA_ag]
      refine stW_app1 (N := 4) hL rfl rfl (by omega) (by omega) hN (by simp; omega) fun x' σ' hL' hlen' hk' => ?_
      simp [h0, h4, h5, h6, h7, hw, hk', c0, c3, c2, hL'.solid, hL'.cells, setRun]
      refine ⟨by omega, by omega, x', list_set_at (by omega), ?_⟩
      have := fin (litR l[i + 1]) es σ σ' x' _ (by rw [List.map_append]; rfl) hL' hN (by omega) hk' (.cells [.str lab, .str (relR h).name, .isl (GT.encs (atomR h)) false, .str ⟨#[]⟩, .int .i64 0, x'] 0 false)
      rwa [List.map_append] at this
    · have he : i = min l.length 5 - 1 := by omega
      have htk : ((l.take 5).drop 1).take i = (l.take 5).drop 1 := List.take_of_length_le (by simp; omega)
      rw [htk] at hL
      by_cases hl1 : l.length ≤ 1
      · have hnil : (l.take 5).drop 1 = [] := List.drop_eq_nil_of_le (by simp; omega)
        have hbd : bodyR l = [litR .zero] := by unfold bodyR; rw [if_pos hl1]
        rw [hnil] at hL
        have hlt2 : ¬ ((i : Int) + 1 < (l.length : Int)) := by omega
        have hlv := hL.len
        simp [h0, h4, h5, h6, h7, hlt2, c2, hlv, hL0, setRun, -appendA_ag]
        refine stW_app1 (N := 4) hL rfl rfl (by omega) (by omega) hN (by simp) fun x' σ' hL' hlen' hk' => ?_
        obtain ⟨a, b, c, d, e, g, c0⟩ := c0
        simp [h0, h4, h5, h6, h7, hk', c0, c3, c2, hL'.solid, hL'.cells, setRun]
        refine tail x' _ _ (by simp [h4]) (by simp [h5]) (by simp [h6]) (by simp; omega) ⟨a, b, c, d, e, g, by rw [List.getElem?_set_ne (by decide), hk' 0 (by omega)]; exact c0⟩ (list_set_at (by omega)) (by rw [List.getElem?_set_ne (by decide), hk' 3 (by omega)]; exact c3) ?_
        rw [hbd]
        exact fin (litR .zero) [] σ σ' x' _ rfl hL' hN (by omega) hk' _
      · have hbd := body_take l (by omega)
        rw [← hbd] at hL
        have hbl := bodyR_len l
        have hlv := hL.len
        have hne : ¬ ((bodyR l).length : Int) = 0 := by omega
        have hne2 : ¬ bodyR l = [] := fun e => by rw [e] at hbl; simp at hbl
        by_cases h5l : (i : Int) + 1 < (l.length : Int)
        · have hlt3 : ¬ (i : Int) + 1 < 5 := by omega
          simp [h0, h4, h5, h6, h7, h5l, hlt3, c2, hlv, hne, hne2]
          exact tail lst _ σ (by simp [h4]) (by simp [h5]) (by simp [h6]) hN c0 c2 c3 hL
        · simp [h0, h4, h5, h6, h7, h5l, c2, hlv, hne, hne2]
          exact tail lst _ σ (by simp [h4]) (by simp [h5]) (by simp [h6]) hN c0 c2 c3 hL
  · simp [h0, h4, h5, h6, c2, c3, hN, c0]
    exact .inl ⟨rfl, rfl⟩
theorem rule6_ok (l : List GRaw) (hl : ∀ x ∈ l, x.ok) (hlen : l.length ≤ 100000000000) (n : Nat) (hn : n < 26) : pureT T c13 [.isl (l.map GRaw.enc) false, .int .i64 (n : Int)] = some (ruleR l n).enc := by
  have hp := pick6_26 (n : Int) (by unfold GV.i64ok; omega)
  rw [pickN_small n hn] at hp
  have hho : (headR l).ok := by
    cases l with
    | nil => exact GRaw.zero_ok
    | cons x l => exact hl x (by simp)
  have loop := rule_loop6 l hl hlen (headR l) hho (⟨#[114]⟩ ++ ⟨#[UInt8.ofNat (97 + n)]⟩)
  have hw97 : IntKind.i64.wrap (97 + (n : Int)) = 97 + (n : Int) := wr64 (by omega) (by omega)
  have hu8 : IntKind.u8.wrap (97 + (n : Int)) = 97 + (n : Int) := wru8 (by omega) (by omega)
  have hb2 : ∀ o : AObj, b2sV [o, .cells [.int .u8 (97 + (n : Int))] 0 false] (.sl 1 0 1 1 false) = some (.str ⟨#[UInt8.ofNat (97 + n)]⟩) := fun o =>
    b2s_bv (l := [UInt8.ofNat (97 + n)]) (fz := 0) (ext := false) (by simp [bv]; omega) (by simp)
  have hs1 : (⟨#[114]⟩ : ByteArray).size = 1 := rfl
  have hs2 : (⟨#[UInt8.ofNat (97 + n)]⟩ : ByteArray).size = 1 := rfl
  unfold ruleR
  generalize UInt8.ofNat (97 + n) = lb at *
  apply pure_enter (by simp [c13])
  show wpK T 0 88 [.code c13.body] _ [] (endP 88 [.cell 4 6 true] _)
  have hb : c13.body = .seq (fstC c13.body) (.seq (fstC (sndC c13.body)) (.seq (fstC (sndC (sndC c13.body))) (.seq (fstC (sndC (sndC (sndC c13.body)))) (.seq (fstC (sndC (sndC (sndC (sndC c13.body))))) RL)))) := rfl
  rw [hb]
  generalize RL = K at loop
  cases l with
  | nil =>
    have hA : ∀ bs σ, callT T 28 [.agg [.int .i64 0, .int .i64 0, .int .i64 0, .int .i64 0, .int .i64 0, .int .i64 0]] bs σ = some (.tup [.str (relR .zero).name, .isl (GT.encs (atomR .zero)) false], σ) := callAtom6 .zero GRaw.zero_ok
    simp [c13, sndC, fstC, hp, hw97, hu8, setRun, hb2, hs1, hs2, hA]
    refine loop _ _ (by simp) (by simp) (by simp) (by simp) (by simp) ⟨_, _, _, _, _, _, rfl⟩ (by simp [headR]) (by simp [headR, GRaw.zero])
  | cons x l =>
    have hA := callAtom6 x (hl x (by simp))
    simp [c13, sndC, fstC, hp, hw97, hu8, setRun, hb2, hs1, hs2, hA, ← GRaw.enc_eq]
    refine loop _ _ (by simp) (by simp) (by simp) (by simp) (by simp) ⟨_, _, _, _, _, _, rfl⟩ (by simp [headR]) (by simp [headR, GRaw.zero])
theorem callRule6R (l : List GRaw) (hl : ∀ x ∈ l, x.ok) (hlen : l.length ≤ 100000000000) (n : Nat) (hn : n < 26) (bs : Nat) (σ : Heap) : callT T 13 [.isl (l.map GRaw.enc) false, .int .i64 (n : Int)] bs σ = some ((ruleR l n).enc, σ) := call_clean rfl rfl rfl (by simp) (rule6_ok l hl hlen n hn)
end Go.Proofs.YtjfgjnlocadpbaaGreatDoor
end
section
set_option maxRecDepth 100000
namespace Go.Proofs.YtjfgjnlocadpbaaGreatDoor
open Go.Mach
abbrev PF : ACode := sndC (sndC (sndC c9.body))
theorem prog_facts (rs : List GR) (facts : List GRaw) (hf : ∀ x ∈ facts, x.ok) (hlen : facts.length ≤ 100000000000) (lst : AV) (f : FR) (σ : Heap) (h1 : f 1 = .isl (facts.map GRaw.enc) false) (h4 : f 4 = .ptr 0 0) (h5 : f 5 = .ptr 1 0) (hN : 2 ≤ σ.length)
    (c0 : ∃ a b c, σ[0]? = some (.cells [a, b, c] 0 false)) (c1 : σ[1]? = some (.cells [.isl (relsD.map GD.enc) false, .isl [] true, lst] 0 false)) (hL : LX 2 6 σ (rs.map GR.enc) lst) :
    wpK T 0 52 [.code PF] f σ (endP 52 [.cell 4 3 true] (GP.enc ⟨relsD, (facts.take 12).map factR, rs⟩)) := by
  simp [PF, c9, sndC]
  refine W_for T 0 52 (min facts.length 12) (fun i f σ => f 1 = .isl (facts.map GRaw.enc) false ∧ f 4 = .ptr 0 0 ∧ f 5 = .ptr 1 0 ∧ f 7 = .int .i64 (i : Int) ∧ 2 ≤ σ.length ∧ (∃ a b c, σ[0]? = some (.cells [a, b, c] 0 false)) ∧
    ∃ ls, σ[1]? = some (.cells [.isl (relsD.map GD.enc) false, ls, lst] 0 false) ∧ LX 2 6 σ (rs.map GR.enc) lst ∧ LX 2 2 σ (((facts.take i).map factR).map GU.enc) ls) ?_ _ _ ?_
  · rintro i f σ hi ⟨h1, h4, h5, h7, hN, ⟨a, b, c, c0⟩, ls, c1, hL, hM⟩
    by_cases hlt : i < min facts.length 12
    · have hlt1 : i < facts.length := by omega
      have hlt2 : (i : Int) < (facts.length : Int) := by omega
      have hlt3 : (i : Int) < 12 := by omega
      have hw : IntKind.i64.wrap ((i : Int) + 1) = (i : Int) + 1 := wr64 (by omega) (by omega)
      have e1 : facts[i]? = some facts[i] := List.getElem?_eq_getElem hlt1
      have hc := callFact6 facts[i] (hf _ (List.getElem_mem hlt1))
      have htk : (facts.take (i + 1)).map factR = (facts.take i).map factR ++ [factR facts[i]] := by
        rw [List.take_succ_eq_append_getElem hlt1, List.map_append]; rfl
      have hal : ((facts.take i).map factR).length ≤ 12 := by simp; omega
      rw [htk]
      generalize (facts.take i).map factR = es at *
      simp [h1, h4, h5, h7, hlt2, hlt3, hlt1, c1, e1, hc, ← GRaw.enc_eq, setRun, -appendA_ag]
      refine stW_app1K (N := 2) hM rfl rfl (by omega) (by omega) hN (by simp; omega) fun x' σ' hL' hlen' hk' hoth => ?_
      have hL2 := hoth 6 _ _ (by decide) hL
      simp [h1, h4, h5, h7, hw, hk', c0, c1, hL'.solid, hL'.cells, setRun]
      have kp : ∀ {sz es y} o, LX 2 sz σ' es y → LX 2 sz (σ'.set 1 o) es y := fun o h => h.keep fun i q hi ho => by rw [List.getElem?_set_ne (by omega)]; exact ho
      refine ⟨by omega, by omega, x', list_set_at (by omega), kp _ hL2, ?_⟩
      have := kp (.cells [.isl (relsD.map GD.enc) false, x', lst] 0 false) hL'
      exact this
    · have he : i = min facts.length 12 := by omega
      have htk : facts.take i = facts.take 12 := by
        by_cases h : facts.length ≤ 12
        · rw [List.take_of_length_le (by omega), List.take_of_length_le h]
        · have : i = 12 := by omega
          rw [this]
      rw [htk] at hM
      have hs0 : ∀ o, (σ.set 0 o)[0]? = some o := fun o => list_set_at (by omega)
      have kp : ∀ {sz es y} o, LX 2 sz σ es y → LX 2 sz (σ.set 0 o) es y := fun o h => h.keep fun i q hi ho => by rw [List.getElem?_set_ne (by omega)]; exact ho
      have hcl : ∀ o, ∃ σ', close1 (σ.set 0 o) ls = some (.isl (((facts.take 12).map factR).map GU.enc) false, σ') ∧ ∃ σ'', close1 σ' lst = some (.isl (rs.map GR.enc) false, σ'') := fun o => by
        obtain ⟨σ1, k1, _, _, k3⟩ := (kp o hM).close
        obtain ⟨σ2, k4, _⟩ := (k3 _ _ _ _ (kp o hL)).close
        exact ⟨σ1, close1_of0 k1, σ2, close1_of0 k4⟩
      have ht12 : List.take 12 (List.map factR facts) = (facts.take 12).map factR := by rw [List.map_take]
      by_cases h12 : (i : Int) < (facts.length : Int)
      · have hlt3 : ¬ (i : Int) < 12 := by omega
        simp [h1, h4, h5, h7, h12, hlt3, c1, c0, hs0]
        obtain ⟨σ1, k1, σ2, k2⟩ := hcl (AObj.cells [AV.isl (List.map GD.enc relsD) false, ls, lst] 0 false)
        simp [k1, k2, GP.enc_eq]
      · simp [h1, h4, h5, h7, h12, c1, c0, hs0]
        obtain ⟨σ1, k1, σ2, k2⟩ := hcl (AObj.cells [AV.isl (List.map GD.enc relsD) false, ls, lst] 0 false)
        simp [k1, k2, GP.enc_eq]
  · simp [h1, h4, h5, c1, hN, c0, hL]
    exact .inl ⟨rfl, rfl⟩
theorem rulesR_snoc (rules : List (List GRaw)) (i : Nat) (h : i < rules.length) : ((rules.take (i + 1)).zipIdx).map (fun p => ruleR p.1 p.2) = ((rules.take i).zipIdx).map (fun p => ruleR p.1 p.2) ++ [ruleR rules[i] i] := by
  rw [List.take_succ_eq_append_getElem h, List.zipIdx_append, List.map_append]
  have : (rules.take i).length = i := by simp; omega
  simp [this]
theorem prog6_ok (rules : List (List GRaw)) (facts : List GRaw) (hr : ∀ l ∈ rules, (∀ x ∈ l, x.ok) ∧ l.length ≤ 100000000000) (hrl : rules.length ≤ 100000000000) (hf : ∀ x ∈ facts, x.ok) (hlen : facts.length ≤ 100000000000) :
    pureT T c9 [.isl (encRR rules) false, .isl (facts.map GRaw.enc) false] = some (progR rules facts).enc := by
  have tail := prog_facts (rulesR rules) facts hf hlen
  unfold progR
  apply pure_enter (by simp [c9])
  show wpK T 0 52 [.code c9.body] _ [] (endP 52 [.cell 4 3 true] _)
  have hb : c9.body = .seq (fstC c9.body) (.seq (fstC (sndC c9.body)) (.seq (fstC (sndC (sndC c9.body))) PF)) := rfl
  rw [hb]
  generalize PF = K at tail
  generalize GP.enc ⟨relsD, (facts.take 12).map factR, rulesR rules⟩ = res at *
  simp [c9, sndC, fstC, callRelations6, setRun]
  refine W_for T 0 52 (min rules.length 6) (fun i f σ => f 0 = .isl (encRR rules) false ∧ f 1 = .isl (facts.map GRaw.enc) false ∧ f 4 = .ptr 0 0 ∧ f 5 = .ptr 1 0 ∧ f 6 = .int .i64 (i : Int) ∧ 2 ≤ σ.length ∧ (∃ a b c, σ[0]? = some (.cells [a, b, c] 0 false)) ∧
    ∃ ls, σ[1]? = some (.cells [.isl (relsD.map GD.enc) false, .isl [] true, ls] 0 false) ∧ LX 2 6 σ ((((rules.take i).zipIdx).map fun p => ruleR p.1 p.2).map GR.enc) ls) ?_ _ _ ?_
  · rintro i f σ hi ⟨h0, h1, h4, h5, h6, hN, ⟨a, b, c, c0⟩, ls, c1, hL⟩
    by_cases hlt : i < min rules.length 6
    · have hlt1 : i < rules.length := by omega
      have hlt2 : (i : Int) < (rules.length : Int) := by omega
      have hlt3 : (i : Int) < 6 := by omega
      have hw : IntKind.i64.wrap ((i : Int) + 1) = (i : Int) + 1 := wr64 (by omega) (by omega)
      have e1 : rules[i]? = some rules[i] := List.getElem?_eq_getElem hlt1
      have hc := callRule6R rules[i] (hr _ (List.getElem_mem hlt1)).1 (hr _ (List.getElem_mem hlt1)).2 i (by omega)
      have htk := rulesR_snoc rules i hlt1
      have hal : (((rules.take i).zipIdx).map fun p => ruleR p.1 p.2).length ≤ 6 := by simp; omega
      rw [htk]
      generalize (((rules.take i).zipIdx).map fun p => ruleR p.1 p.2) = es at *
      simp [h0, h1, h4, h5, h6, hlt2, hlt3, hlt1, c1, e1, hc, setRun, -appendA_ag]
      refine stW_app1 (N := 2) hL rfl rfl (by omega) (by omega) hN (by simp; omega) fun x' σ' hL' hlen' hk' => ?_
      simp [h0, h1, h4, h5, h6, hw, hk', c0, c1, hL'.solid, hL'.cells, setRun]
      have kp : ∀ {sz es y} o, LX 2 sz σ' es y → LX 2 sz (σ'.set 1 o) es y := fun o h => h.keep fun i q hi ho => by rw [List.getElem?_set_ne (by omega)]; exact ho
      refine ⟨by omega, by omega, x', list_set_at (by omega), ?_⟩
      have := kp (.cells [.isl (relsD.map GD.enc) false, .isl [] true, x'] 0 false) hL'
      exact this
    · have he : i = min rules.length 6 := by omega
      have htk : rules.take i = rules.take 6 := by
        by_cases h : rules.length ≤ 6
        · rw [List.take_of_length_le (by omega), List.take_of_length_le h]
        · have : i = 6 := by omega
          rw [this]
      rw [htk] at hL
      by_cases h12 : (i : Int) < (rules.length : Int)
      · have hlt3 : ¬ (i : Int) < 6 := by omega
        simp [h0, h1, h4, h5, h6, h12, hlt3]
        refine tail ls _ σ ?_ ?_ ?_ hN ⟨a, b, c, c0⟩ c1 hL <;> simp [h1, h4, h5]
      · simp [h0, h1, h4, h5, h6, h12]
        refine tail ls _ σ ?_ ?_ ?_ hN ⟨a, b, c, c0⟩ c1 hL <;> simp [h1, h4, h5]
  · simp
    exact .inl ⟨rfl, rfl⟩
theorem callProg6 (rules : List (List GRaw)) (facts : List GRaw) (hr : ∀ l ∈ rules, (∀ x ∈ l, x.ok) ∧ l.length ≤ 100000000000) (hrl : rules.length ≤ 100000000000) (hf : ∀ x ∈ facts, x.ok) (hlen : facts.length ≤ 100000000000) (bs : Nat) (σ : Heap) :
    callT T 9 [.isl (encRR rules) false, .isl (facts.map GRaw.enc) false] bs σ = some ((progR rules facts).enc, σ) := call_clean rfl rfl rfl (by simp) (prog6_ok rules facts hr hrl hf hlen)
end Go.Proofs.YtjfgjnlocadpbaaGreatDoor
end
section
namespace Go.Proofs.YtjfgjnlocadpbaaGreatDoor
open Go.Mach
theorem bulkAs_le {α : Type} (enc : α → AV) (c : Nat) : ∀ l : List α, (∀ x ∈ l, bulkA (enc x) ≤ c) → bulkAs (l.map enc) ≤ c * l.length
  | [], _ => by simp [bulkAs]
  | x :: l, h => by
    have h1 := bulkAs_le enc c l fun y hy => h y (by simp [hy])
    have h2 := h x (by simp)
    simp only [List.map_cons, bulkAs, List.length_cons, Nat.mul_add]; omega
theorem tsizes_le (c : Nat) (l : List GT) (h : ∀ t ∈ l, t.size ≤ c) : GT.sizes l ≤ c * l.length := by
  rw [← GT.bulk_encs, GT.encs_map]
  exact bulkAs_le GT.enc c l fun t ht => by rw [GT.bulk_enc]; exact h t ht
theorem gsizes_le (c : Nat) (l : List GV) (h : ∀ t ∈ l, t.size ≤ c) : GV.sizes l ≤ c * l.length := by
  rw [← GV.bulk_encs, GV.encs_map]
  exact bulkAs_le GV.enc c l fun t ht => by rw [GV.bulk_enc]; exact h t ht
theorem vTn_size : ∀ n, n < 6 → (vTn n).size ≤ 40 := by decide +kernel
theorem vT_size (c : Int) : (vT c).size ≤ 40 := vTn_size _ (pickN_lt (by omega))
theorem numT_size (n : Int) : (numT n).size ≤ 40 := by
  have h0 : (ByteArray.mk #[]).size = 0 := rfl
  simp [numT, GT.size, GT.sizes, GV.size, GV.sizes, h0]
theorem addrT_size : ∀ n, n < 3 → (addrT n).size ≤ 40 := by decide +kernel
theorem sumT_size : ∀ n, n < 6 → (sumT n).size ≤ 40 := by decide +kernel
theorem argR_size (k : Int) : (argR k).size ≤ 40 := by
  unfold argR
  split
  · exact numT_size _
  split
  · exact addrT_size _ (pickN_lt (by omega))
  split
  · exact sumT_size _ (pickN_lt (by omega))
  · exact vT_size k
theorem atomR_size (x : GRaw) : GT.sizes (atomR x) ≤ 120 := by
  obtain ⟨_, h2, _⟩ := rel_arity x
  have := tsizes_le 40 (atomR x) (fun t ht => by
    obtain ⟨i, _, rfl⟩ := List.mem_map.1 ht
    split
    · exact vT_size _
    · exact argR_size _)
  have hl : (atomR x).length = (relR x).arity.toNat := by simp [atomR]
  rw [hl] at this; omega
theorem relR_size (x : GRaw) : (relR x).name.size ≤ 4 := by
  obtain ⟨n, hn, _, e⟩ := rel_cases x
  rw [e]
  match n, hn with
  | 0, _ => decide
  | 1, _ => decide
  | 2, _ => decide
  | 3, _ => decide
  | 4, _ => decide
  | 5, _ => decide
theorem tSix_size : ∀ n, n < 6 → (tSix.getD n ⟨#[]⟩).size ≤ 4 := by decide +kernel
theorem vName_size : ∀ n, n < 6 → (vName n).size ≤ 4 := by decide +kernel
theorem litR_size (x : GRaw) : (litR x).size ≤ 200 := by
  have h1 := atomR_size x
  have h2 := relR_size x
  unfold litR
  split
  · simp only [GL.size, GL.enc, bulkA, bulkAs, GT.bulk_encs]; omega
  split
  · simp only [GL.size, GL.enc, bulkA, bulkAs, GT.bulk_encs]; omega
  split
  · have h3 := tSix_size _ (pickN_lt (c := x.name) (n := 6) (by omega))
    have h4 : GT.sizes [vT x.n0, if pickN x.n3 2 = 0 then numT (pickN x.n2 4) else vT x.n1] ≤ 80 := tsizes_le 40 _ fun t ht => by
      simp only [List.mem_cons, List.not_mem_nil, or_false] at ht
      rcases ht with rfl | rfl
      · exact vT_size _
      · split
        · exact numT_size _
        · exact vT_size _
    simp only [GL.size, GL.enc, bulkA, bulkAs, GT.bulk_encs]; omega
  · have h3 := vName_size _ (pickN_lt (c := x.n0) (n := 6) (by omega))
    have h4 : GT.sizes [vT x.n1, if pickN (x.n3.tdiv 2) 2 = 0 then numT 1 else vT x.n2] ≤ 80 := tsizes_le 40 _ fun t ht => by
      simp only [List.mem_cons, List.not_mem_nil, or_false] at ht
      rcases ht with rfl | rfl
      · exact vT_size _
      · split
        · exact numT_size _
        · exact vT_size _
    have h5 : (if pickN x.n3 2 = 0 then (⟨#[43]⟩ : ByteArray) else ⟨#[45]⟩).size ≤ 1 := by split <;> decide
    have h0 : (ByteArray.mk #[]).size = 0 := rfl
    simp only [GL.size, GL.enc, bulkA, bulkAs, GT.bulk_encs, GT.sizes, GT.size, GV.size, GV.sizes, h0] at h4 ⊢; omega
theorem aggN_size (n : Nat) : (aggN n).size ≤ 5 := by
  unfold aggN
  split
  · decide
  split <;> decide
theorem ruleR_size (l : List GRaw) (n : Nat) : (ruleR l n).size ≤ 1000 := by
  have h1 := atomR_size (headR l)
  have h2 := relR_size (headR l)
  have h3 := aggN_size (pickN ((headR l).kind.tdiv 5) 3)
  have h4 : bulkAs ((bodyR l).map GL.enc) ≤ 200 * (bodyR l).length := bulkAs_le GL.enc 200 _ fun y hy => by
    obtain ⟨x, rfl⟩ := bodyR_mem l hy
    exact litR_size x
  have h5 := (bodyR_len l).2
  have h6 : ((⟨#[114]⟩ : ByteArray) ++ ⟨#[UInt8.ofNat (97 + n)]⟩).size = 2 := by rw [ByteArray.size_append]; rfl
  have h7 : (if aggR (headR l) = true then aggN (pickN ((headR l).kind.tdiv 5) 3) else ⟨#[]⟩).size ≤ 5 := by
    split
    · exact h3
    · decide
  simp only [ruleR, GR.size, GR.enc, bulkA, bulkAs, GT.bulk_encs, h6]; omega
theorem addrV_size : ∀ n, n < 4 → (addrV n).size ≤ 40 := by decide +kernel
theorem factR_size (x : GRaw) : (factR x).size ≤ 200 := by
  obtain ⟨_, h2, _⟩ := rel_arity x
  have h1 := relR_size x
  have h0 : (ByteArray.mk #[]).size = 0 := rfl
  have := gsizes_le 40 (factR x).args (fun t ht => by
    obtain ⟨i, _, rfl⟩ := List.mem_map.1 ht
    unfold fargR
    split
    · exact addrV_size _ (pickN_lt (by omega))
    · simp [numV, GV.size, GV.sizes, h0])
  have hl := fargs_len x
  rw [hl] at this
  have e1 : (factR x).name = (relR x).name := rfl
  simp only [GU.size, GU.enc, bulkA, bulkAs, GV.bulk_encs, e1]; omega
theorem GP.size_le (p : GP) (a b c : Nat) (h1 : ∀ x ∈ p.decls, x.size ≤ a) (h2 : ∀ x ∈ p.facts, x.size ≤ b) (h3 : ∀ x ∈ p.rules, x.size ≤ c) : p.size ≤ a * p.decls.length + b * p.facts.length + c * p.rules.length + 4 := by
  have k1 := bulkAs_le GD.enc a p.decls h1
  have k2 := bulkAs_le GU.enc b p.facts h2
  have k3 := bulkAs_le GR.enc c p.rules h3
  simp only [GP.size, GP.enc, bulkA, bulkAs]; omega
theorem relsD_size : ∀ x ∈ relsD, x.size ≤ 20 := by decide +kernel
theorem rulesR_size (rules : List (List GRaw)) : ∀ x ∈ rulesR rules, x.size ≤ 1000 := fun x hx => by
  obtain ⟨p, _, rfl⟩ := List.mem_map.1 hx
  exact ruleR_size _ _
theorem facts_size (facts : List GRaw) : ∀ x ∈ (facts.take 12).map factR, x.size ≤ 200 := fun x hx => by
  obtain ⟨p, _, rfl⟩ := List.mem_map.1 hx
  exact factR_size _
end Go.Proofs.YtjfgjnlocadpbaaGreatDoor
end
section
set_option maxRecDepth 100000
namespace Go.Proofs.YtjfgjnlocadpbaaGreatDoor
open Go.Mach
theorem rulesR_B (rules : List (List GRaw)) : (rulesR rules).all ruleB = true ∧ (rulesR rules).length ≤ 6 := by
  constructor
  · rw [List.all_eq_true]; intro v hv
    obtain ⟨x, hx, rfl⟩ := List.mem_map.1 hv
    have := List.snd_lt_of_mem_zipIdx hx
    refine ruleR_B _ _ ?_
    simp at this; omega
  · simp [rulesR]; omega
theorem facts_B (facts : List GRaw) : ((facts.take 12).map factR).all tupB = true ∧ ((facts.take 12).map factR).length ≤ 12 := by
  constructor
  · rw [List.all_eq_true]; intro v hv
    obtain ⟨x, _, rfl⟩ := List.mem_map.1 hv
    exact tupB_R x
  · simp; omega
theorem check_rules6 (facts : List GRaw) (rs : List GR) (hr : rs.all ruleB = true) (hl : rs.length ≤ 64) : checkP ⟨relsD, (facts.take 12).map factR, rs⟩ = firstP ⟨relsD, [], []⟩ rs 0 := by
  rw [check_rawR rfl ?_ (facts_good rfl _)]
  · exact first_congr (p := ⟨relsD, (facts.take 12).map factR, rs⟩) (q := ⟨relsD, [], []⟩) rfl rs 0
  · obtain ⟨h1, h2⟩ := facts_B facts
    have h4 : relsD.length = 6 := rfl
    simp only [progB, h1, hr, relsD_B, h4, Bool.and_true, decide_eq_true_eq]
    omega
theorem raw_prog (rules : List (List GRaw)) (facts : List GRaw) (hr : RawsOk rules) (hf : FactsOk facts) : ∃ fs rs, rs.length ≤ 6 ∧ fs.length ≤ 12 ∧ rs = rulesR rules ∧ fs = (facts.take 12).map factR ∧
    (∀ bs σ, callT T 9 [.isl (encRR rules) false, .isl (facts.map GRaw.enc) false] bs σ = some (.agg [.isl (relsD.map GD.enc) false, .isl (fs.map GU.enc) false, .isl (rs.map GR.enc) false], σ)) ∧
    ∀ rs' : List GR, (∀ r ∈ rs', r ∈ rs) → rs'.length ≤ 64 → checkP ⟨relsD, fs, rs'⟩ = firstP ⟨relsD, [], []⟩ rs' 0 ∧ (GP.mk relsD fs rs').size ≤ 1000000000 := by
  refine ⟨_, _, (rulesR_B rules).2, (facts_B facts).2, rfl, rfl, fun bs σ => callProg6 rules facts hr.1 hr.2 hf.1 hf.2 bs σ, fun rs' h1 h2 => ⟨check_rules6 facts rs' ?_ h2, ?_⟩⟩
  · rw [List.all_eq_true]
    exact fun r hr' => List.all_eq_true.1 (rulesR_B rules).1 r (h1 r hr')
  · have := GP.size_le ⟨relsD, (facts.take 12).map factR, rs'⟩ 20 200 1000 relsD_size (facts_size facts) fun r hr' => rulesR_size rules r (h1 r hr')
    have e1 : relsD.length = 6 := rfl
    have e2 := (facts_B facts).2
    simp only [e1] at this
    omega
end Go.Proofs.YtjfgjnlocadpbaaGreatDoor
end
section
set_option maxRecDepth 100000
namespace Go.Proofs.YtjfgjnlocadpbaaGreatDoor
open Go.Mach
def bN (n : ByteArray) : ByteArray := ⟨#[78]⟩ ++ n
mutual
def turnT : GT → GT
  | .mk k n v l => if k = 1 then .mk 1 (bN n) (.mk 0 0 ⟨#[]⟩ []) [] else .mk k n v (turnL l)
def turnL : List GT → List GT
  | [] => []
  | t :: l => turnT t :: turnL l
end
theorem turnL_map : ∀ l : List GT, turnL l = l.map turnT
  | [] => rfl
  | t :: l => by simp only [turnL, List.map_cons, turnL_map l]
theorem turnT_eq (t : GT) : turnT t = if t.kind = 1 then .mk 1 (bN t.name) (.mk 0 0 ⟨#[]⟩ []) [] else .mk t.kind t.name t.value (turnL t.args) := by cases t; rfl
def turnG (x : GL) : GL := ⟨x.kind, if x.kind = 4 then bN x.name else x.name, turnL x.args⟩
def turnR (r : GR) : GR := ⟨r.label, r.head, turnL r.args, r.agg, r.pos, r.body.map turnG⟩
theorem bN_inj {a b : ByteArray} (h : bN a = bN b) : a = b := by
  have h1 : (bN a).data.toList = (bN b).data.toList := by rw [h]
  simp only [bN, ByteArray.data_append, Array.toList_append, List.append_cancel_left_eq] at h1
  cases a; cases b
  simp only at h1
  congr 1
  exact Array.toList_inj.1 h1
theorem memB_turn (m : ByteArray) (b : List ByteArray) : memB (bN m) (b.map bN) = memB m b := by
  have : memB (bN m) (b.map bN) = true ↔ memB m b = true := by
    rw [memB_iff, memB_iff]
    constructor
    · intro h
      obtain ⟨x, hx, e⟩ := List.mem_map.1 h
      rw [← bN_inj e]; exact hx
    · exact fun h => List.mem_map.2 ⟨m, h, rfl⟩
  cases h1 : memB (bN m) (b.map bN) <;> cases h2 : memB m b <;> simp_all
theorem addB_turn (b : List ByteArray) (n : ByteArray) : addB (b.map bN) (bN n) = (addB b n).map bN := by
  unfold addB
  rw [memB_turn]
  split
  · rfl
  · rw [List.map_append]; rfl
mutual
theorem vs1_turn : ∀ t : GT, vs1 (turnT t) = (vs1 t).map bN
  | .mk k n v l => by
    by_cases h : k = 1
    · simp [turnT, vs1, h]
    · simp only [turnT, vs1, if_neg h]
      exact vsL_turn l
theorem vsL_turn : ∀ l : List GT, vsL (turnL l) = (vsL l).map bN
  | [] => rfl
  | t :: l => by simp only [turnL, vsL, List.map_append, vs1_turn t, vsL_turn l]
end
theorem kind_turn (t : GT) : (turnT t).kind = t.kind := by
  rw [turnT_eq]
  split
  · rename_i h; rw [h]
  · rfl
theorem name_turn (t : GT) (h : t.kind = 1) : (turnT t).name = bN t.name := by rw [turnT_eq, if_pos h]
theorem vTn_RT : ∀ n, n < 6 → termR 8 (turnT (vTn n)) = true := by decide +kernel
theorem numT_RT : ∀ n : Nat, n < 6 → termR 8 (turnT (numT n)) = true := by decide +kernel
theorem addrT_RT : ∀ n, n < 3 → termR 8 (turnT (addrT n)) = true := by decide +kernel
theorem sumT_RT : ∀ n, n < 6 → termR 8 (turnT (sumT n)) = true := by decide +kernel
theorem vT_RT (c : Int) : termR 8 (turnT (vT c)) = true := vTn_RT _ (pickN_lt (by omega))
theorem argR_RT (k : Int) : termR 8 (turnT (argR k)) = true := by
  unfold argR
  split
  · exact numT_RT _ (Nat.lt_of_lt_of_le (pickN_lt (by omega)) (by omega))
  split
  · exact addrT_RT _ (pickN_lt (by omega))
  split
  · exact sumT_RT _ (pickN_lt (by omega))
  · exact vT_RT k
theorem atom_argsBT (x : GRaw) : argsB (turnL (atomR x)) = true := by
  obtain ⟨h1, h2, _⟩ := rel_arity x
  unfold argsB atomR
  have h3 : (turnL (argsR x (relR x).arity.toNat)).all (termR 8) = true := by
    rw [turnL_map, List.all_map, List.all_eq_true]
    intro t ht
    obtain ⟨i, _, rfl⟩ := List.mem_map.1 ht
    simp only [Function.comp]
    split
    · exact vT_RT _
    · exact argR_RT _
  have h4 : headOK (turnL (argsR x (relR x).arity.toNat)) = true := by
    obtain ⟨m, hm⟩ : ∃ m, (relR x).arity.toNat = m + 1 := ⟨_, (Nat.succ_pred_eq_of_pos h1).symm⟩
    rw [hm, argsR_succ]; rfl
  have h5 : (turnL (argsR x (relR x).arity.toNat)).length = (relR x).arity.toNat := by rw [turnL_map]; simp
  rw [h3, h4, h5]
  simp; omega
theorem vName_OKT : ∀ n, n < 6 → varOK (bN (vName n)) = true := by decide +kernel
theorem opT_RT : ∀ a, a < 6 → ∀ b, b < 6 → ∀ o, o < 2 → termR 8 (turnT (.mk 4 (if o = 0 then ⟨#[43]⟩ else ⟨#[45]⟩) (.mk 0 0 ⟨#[]⟩ []) [vTn a, vTn b])) = true := by decide +kernel
theorem opN_RT : ∀ a, a < 6 → ∀ o, o < 2 → termR 8 (turnT (.mk 4 (if o = 0 then ⟨#[43]⟩ else ⟨#[45]⟩) (.mk 0 0 ⟨#[]⟩ []) [vTn a, numT 1])) = true := by decide +kernel
theorem litR_BT (x : GRaw) : litB (turnG (litR x)) = true := by
  unfold litR
  split
  · simp [litB, turnG, rel_OK, atom_argsBT]
  split
  · simp [litB, turnG, rel_OK, atom_argsBT]
  split
  · have h1 := tSix_OK _ (pickN_lt (c := x.name) (n := 6) (by omega))
    have h2 := numT_RT (pickN x.n2 4) (Nat.lt_of_lt_of_le (pickN_lt (by omega)) (by omega))
    have h3 : termR 8 (turnT (if pickN x.n3 2 = 0 then numT (pickN x.n2 4) else vT x.n1)) = true := by
      split
      · exact h2
      · exact vT_RT _
    generalize tSix.getD (pickN x.name 6) ⟨#[]⟩ = o at *
    simp [litB, turnG, turnL, h1, vT_RT, h3]
  · have h1 := vName_OKT _ (pickN_lt (c := x.n0) (n := 6) (by omega))
    have h3 : termR 8 (turnT (.mk 4 (if pickN x.n3 2 = 0 then ⟨#[43]⟩ else ⟨#[45]⟩) (.mk 0 0 ⟨#[]⟩ []) [vT x.n1, if pickN (x.n3.tdiv 2) 2 = 0 then numT 1 else vT x.n2])) = true := by
      split
      · rename_i h
        split
        · exact opN_RT _ (pickN_lt (c := x.n1) (by omega)) 0 (by omega)
        · exact opT_RT _ (pickN_lt (c := x.n1) (by omega)) _ (pickN_lt (c := x.n2) (by omega)) 0 (by omega)
      · split
        · exact opN_RT _ (pickN_lt (c := x.n1) (by omega)) 1 (by omega)
        · exact opT_RT _ (pickN_lt (c := x.n1) (by omega)) _ (pickN_lt (c := x.n2) (by omega)) 1 (by omega)
    simp [litB, turnG, turnL, h1, h3]
theorem ruleR_BT (l : List GRaw) (n : Nat) (hn : n < 26) : ruleB (turnR (ruleR l n)) = true := by
  have hb := ruleR_B l n hn
  unfold ruleB at hb
  simp only [Bool.and_eq_true] at hb
  obtain ⟨⟨⟨⟨⟨b1, b2⟩, b3⟩, b4⟩, b5⟩, b6⟩ := hb
  have h2 : ((ruleR l n).body.map turnG).all litB = true := by
    rw [List.all_map, List.all_eq_true]; intro y hy
    obtain ⟨x, rfl⟩ := bodyR_mem l hy
    exact litR_BT x
  have h3 : aggB (turnR (ruleR l n)) = true := by
    unfold aggB at b6 ⊢
    have e1 : (turnR (ruleR l n)).agg = (ruleR l n).agg := rfl
    have e2 : (turnR (ruleR l n)).pos = (ruleR l n).pos := rfl
    have e3 : (turnR (ruleR l n)).args = turnL (ruleR l n).args := rfl
    have e4 : (turnL (ruleR l n).args).length = (ruleR l n).args.length := by rw [turnL_map]; simp
    have e5 : ∀ i, ((turnL (ruleR l n).args)[i]?).map GT.kind = ((ruleR l n).args[i]?).map GT.kind := fun i => by
      rw [turnL_map, List.getElem?_map, Option.map_map]
      congr 1
      funext t; exact kind_turn t
    rw [e1, e2, e3, e4, e5]; exact b6
  have b3' : argsB (turnR (ruleR l n)).args = true := atom_argsBT (headR l)
  have b4' : decide (1 ≤ (turnR (ruleR l n)).body.length ∧ (turnR (ruleR l n)).body.length ≤ 8) = true := by
    simp only [turnR, List.length_map]; exact b4
  have h2' : (turnR (ruleR l n)).body.all litB = true := h2
  unfold ruleB
  rw [h3, h2', b3', b4']
  have e1 : (turnR (ruleR l n)).label = (ruleR l n).label := rfl
  have e2 : (turnR (ruleR l n)).head = (ruleR l n).head := rfl
  rw [e1, e2, b1, b2]; rfl
end Go.Proofs.YtjfgjnlocadpbaaGreatDoor
end
section
namespace Go.Proofs.YtjfgjnlocadpbaaGreatDoor
open Go.Mach
structure IsRaw (P : Program) (tR tA tI : TypeId) : Prop where
  fs : ∃ fs : Array Field, P.underlying tR = some (.struct fs) ∧ fs.toList.map (·.type) = [tI, tI, tA]
  arr : P.underlying tA = some (.array 4 tI)
  int : P.underlying tI = some (.int .i64)
theorem asRaw {P : Program} {tR tA tI : TypeId} (hT : IsRaw P tR tA tI) {x : AV} (h : TyA P tR x) : ∃ v : GRaw, x = v.enc ∧ v.ok := by
  have e1 : IntKind.i64.min = -9223372036854775808 := by decide
  have e2 : IntKind.i64.max = 9223372036854775807 := by decide
  obtain ⟨fs0, hf0, hts⟩ := hT.fs
  obtain ⟨vs, rfl, hl, hv⟩ := h.asStruct hf0
  have hlen : vs.length = 3 := by rw [hl, ← List.length_map (f := (·.type)), hts]; rfl
  match vs, hlen with
  | [x0, x1, x2], _ =>
    obtain ⟨y0, rfl, p0, q0⟩ := (field_ty hts hv (i := 0) rfl rfl).asInt hT.int
    obtain ⟨y1, rfl, p1, q1⟩ := (field_ty hts hv (i := 1) rfl rfl).asInt hT.int
    obtain ⟨ws, rfl, hwl, hw⟩ := (field_ty hts hv (i := 2) rfl rfl).asArray hT.arr
    match ws, hwl with
    | [w0, w1, w2, w3], _ =>
      obtain ⟨z0, rfl, a0, b0⟩ := (hw w0 (by simp)).asInt hT.int
      obtain ⟨z1, rfl, a1, b1⟩ := (hw w1 (by simp)).asInt hT.int
      obtain ⟨z2, rfl, a2, b2⟩ := (hw w2 (by simp)).asInt hT.int
      obtain ⟨z3, rfl, a3, b3⟩ := (hw w3 (by simp)).asInt hT.int
      rw [e1] at p0 p1 a0 a1 a2 a3; rw [e2] at q0 q1 b0 b1 b2 b3
      exact ⟨⟨y0, y1, z0, z1, z2, z3⟩, by simp [GRaw.enc, flat], ⟨p0, q0⟩, ⟨p1, q1⟩, ⟨a0, b0⟩, ⟨a1, b1⟩, ⟨a2, b2⟩, ⟨a3, b3⟩⟩
theorem argRaws {P : Program} {tL tR tA tI : TypeId} (hT : IsRaw P tR tA tI) (hL : P.underlying tL = some (.slice tR)) {x : AV} (h : TyA P tL x) (hb : bulkA x ≤ 1048576) : ∃ l : List GRaw, x = .isl (l.map GRaw.enc) false ∧ FactsOk l := by
  obtain ⟨es, rfl, hes⟩ := h.asSlice hL
  obtain ⟨l, rfl, hl⟩ := list_enc GRaw.enc GRaw.ok es fun z hz => asRaw hT (hes z hz)
  have := bulk_len (l.map GRaw.enc)
  simp only [bulkA, List.length_map] at hb this
  exact ⟨l, rfl, hl, by omega⟩
theorem argRR {P : Program} {tLL tL tR tA tI : TypeId} (hT : IsRaw P tR tA tI) (hL : P.underlying tL = some (.slice tR)) (hLL : P.underlying tLL = some (.slice tL)) {x : AV} (h : TyA P tLL x) (hb : bulkA x ≤ 1048576) : ∃ l : List (List GRaw), x = .isl (encRR l) false ∧ RawsOk l := by
  obtain ⟨es, rfl, hes⟩ := h.asSlice hLL
  simp only [bulkA] at hb
  obtain ⟨l, rfl, hl⟩ := list_enc (fun l : List GRaw => AV.isl (l.map GRaw.enc) false) FactsOk es fun z hz => by
    have := bulk_mem hz
    exact argRaws hT hL (hes z hz) (by omega)
  have := bulk_len (l.map fun l : List GRaw => AV.isl (l.map GRaw.enc) false)
  simp only [List.length_map] at this
  exact ⟨l, rfl, fun y hy => hl y hy, by omega⟩
theorem tyRaw : IsRaw Tryz.prog 66 64 3 := ⟨fieldTys_some (by kernel_rfl), by kernel_rfl, by kernel_rfl⟩
theorem argF6 {x : AV} (h : TyA Tryz.prog 48 x) (hb : bulkA x ≤ 1048576) : ∃ l : List GRaw, x = .isl (l.map GRaw.enc) false ∧ FactsOk l := argRaws tyRaw (by kernel_rfl) h hb
theorem argR6 {x : AV} (h : TyA Tryz.prog 22 x) (hb : bulkA x ≤ 1048576) : ∃ l : List (List GRaw), x = .isl (encRR l) false ∧ RawsOk l := argRR (tL := 48) tyRaw (by kernel_rfl) (by kernel_rfl) h hb
end Go.Proofs.YtjfgjnlocadpbaaGreatDoor
end
section
namespace Go.Proofs.YtjfgjnlocadpbaaGreatDoor
open Go.Mach
structure GPl where
  from' : ByteArray
  to : ByteArray
  head : ByteArray
abbrev nilB : ByteArray := ⟨#[]⟩
def nilPl : GPl := ⟨nilB, nilB, nilB⟩
def GPl.enc (p : GPl) : AV := .agg [.str p.from', .str p.to, .str p.head]
abbrev sLink : ByteArray := ⟨#[108, 105, 110, 107]⟩
structure RS where
  all : List ByteArray
  links : List ((ByteArray × ByteArray) × Int)
  atoms : Nat
def lookW (m : List ((ByteArray × ByteArray) × Int)) (a b : ByteArray) : Option Int := (m.find? fun p => decide (p.1.1 = a ∧ p.1.2 = b)).map (·.2)
def linkL (l : GL) : Bool := decide (l.name = sLink) && decide ((l.args[1]?).map GT.kind = some 1)
def arg1 (l : GL) : ByteArray := ((l.args[1]?).map GT.name).getD nilB
def setW (m : List ((ByteArray × ByteArray) × Int)) (a b : ByteArray) (i : Int) : List ((ByteArray × ByteArray) × Int) := if (lookW m a b).isSome = true then m else m ++ [((a, b), i)]
def stepR (s : RS) (l : GL) (a : GT) (i : Nat) : RS :=
  if l.kind = 2 then ⟨addB s.all a.name, s.links, s.atoms⟩
  else ⟨addB s.all a.name, if linkL l = true then setW s.links a.name (arg1 l) i else s.links, s.atoms + 1⟩
def readGo : List GL → Nat → RS → Option RS
  | [], _, s => some s
  | l :: ls, i, s => if l.kind = 1 ∨ l.kind = 2 then (match l.args with
      | [] => none
      | a :: _ => if a.kind = 1 then readGo ls (i + 1) (stepR s l a i) else none) else readGo ls (i + 1) s
def readP (body : List GL) : Option RS := match readGo body 0 ⟨[], [], 0⟩ with
  | some s => if 0 < s.atoms then some s else none
  | none => none
def oneP (s : RS) (a head : ByteArray) : Option GPl := if head = a ∨ (lookW s.links a head).isSome = true then some ⟨a, nilB, head⟩ else none
def twoP (s : RS) (a b head : ByteArray) : Option GPl := match lookW s.links a b, lookW s.links b a with
  | none, none => none
  | some _, none => if head = a ∨ head = b then some ⟨a, b, head⟩ else none
  | none, some _ => if head = a ∨ head = b then some ⟨b, a, head⟩ else none
  | some i, some k => if head = a ∨ head = b then some (if k < i then ⟨b, a, head⟩ else ⟨a, b, head⟩) else none
def placeQ (s : RS) (head : ByteArray) : Option GPl := match s.all with
  | [a] => oneP s a head
  | [a, b] => twoP s a b head
  | _ => none
def headK (r : GR) : Int := ((r.args[0]?).map GT.kind).getD 0
def headN (r : GR) : ByteArray := ((r.args[0]?).map GT.name).getD nilB
def aggOk (r : GR) (p : GPl) : Bool := decide (r.agg = nilB) || (decide (p.to = nilB) && decide (p.head = p.from'))
def placeP (r : GR) : Option GPl :=
  if ruleB r = true ∧ r.head ≠ sLink ∧ headK r = 1 then (match readP r.body with
    | none => none
    | some s => match placeQ s (headN r) with
      | none => none
      | some p => if aggOk r p = true then some p else none) else none
theorem mem_addB7 (b : List ByteArray) (n m : ByteArray) : m ∈ addB b n ↔ m ∈ b ∨ m = n := by
  unfold addB
  split
  · rename_i h
    have := (memB_iff n b).1 h
    constructor
    · exact .inl
    · rintro (h | rfl)
      · exact h
      · exact this
  · simp
theorem nodup_addB7 {b : List ByteArray} (h : b.Nodup) (n : ByteArray) : (addB b n).Nodup := by
  unfold addB
  split
  · exact h
  · rename_i hn
    rw [List.nodup_append]
    refine ⟨h, by simp, fun x hx y hy e => ?_⟩
    simp at hy; subst hy e
    exact hn ((memB_iff x b).2 hx)
theorem lookW_set (m : List ((ByteArray × ByteArray) × Int)) (a b c d : ByteArray) (i : Int) : lookW (setW m a b i) c d = if (lookW m c d).isSome = true then lookW m c d else if a = c ∧ b = d then some i else none := by
  unfold setW
  split
  · rename_i h
    split
    · rfl
    · rename_i h2
      split
      · rename_i e; obtain ⟨rfl, rfl⟩ := e; exact absurd h h2
      · cases h3 : lookW m c d with
        | none => rfl
        | some _ => rw [h3] at h2; simp at h2
  · rename_i h
    unfold lookW
    rw [List.find?_append]
    cases h3 : m.find? fun p => decide (p.1.1 = c ∧ p.1.2 = d) with
    | some q => simp
    | none =>
      simp only [Option.none_or, Option.map_none, Option.isSome_none, Bool.false_eq_true, if_false, List.find?_cons, List.find?_nil]
      by_cases e : a = c ∧ b = d
      · simp [e]
      · simp [e]
theorem lookW_some {m : List ((ByteArray × ByteArray) × Int)} {a b c d : ByteArray} {i : Int} : (lookW (setW m a b i) c d).isSome = true ↔ (lookW m c d).isSome = true ∨ (a = c ∧ b = d) := by
  rw [lookW_set]
  split
  · rename_i h; simp [h]
  · rename_i h
    split
    · rename_i e; simp [e]
    · rename_i e; simp [h, e]
def linkOf (l : GL) (a b : ByteArray) : Prop := l.kind = 1 ∧ linkL l = true ∧ (∃ t, l.args[0]? = some t ∧ t.name = a) ∧ arg1 l = b
theorem read_spec : ∀ (ls : List GL) (i : Nat) (s t : RS), readGo ls i s = some t →
    (∀ m, m ∈ t.all ↔ m ∈ s.all ∨ ∃ l ∈ ls, (l.kind = 1 ∨ l.kind = 2) ∧ ∃ x, l.args[0]? = some x ∧ x.name = m) ∧
    (∀ l ∈ ls, l.kind = 1 ∨ l.kind = 2 → ∃ x, l.args[0]? = some x ∧ x.kind = 1) ∧
    (∀ a b, (lookW t.links a b).isSome = true ↔ (lookW s.links a b).isSome = true ∨ ∃ l ∈ ls, linkOf l a b) ∧ (s.all.Nodup → t.all.Nodup)
  | [], i, s, t, h => by
    injection h with h; subst h
    simp
  | l :: ls, i, s, t, h => by
    simp only [readGo] at h
    by_cases hk : l.kind = 1 ∨ l.kind = 2
    · rw [if_pos hk] at h
      cases ha : l.args with
      | nil => rw [ha] at h; cases h
      | cons a as' =>
        rw [ha] at h
        simp only at h
        by_cases hv : a.kind = 1
        · rw [if_pos hv] at h
          obtain ⟨h1, h2, h3, h4⟩ := read_spec ls (i + 1) _ t h
          have hall : (stepR s l a i).all = addB s.all a.name := by unfold stepR; split <;> rfl
          have hl0 : l.args[0]? = some a := by rw [ha]; rfl
          refine ⟨fun m => ?_, fun x hx => ?_, fun c d => ?_, fun hn => h4 ?_⟩
          · rw [h1, hall, mem_addB7]
            constructor
            · rintro ((h | rfl) | ⟨x, hx, h⟩)
              · exact .inl h
              · exact .inr ⟨l, by simp, hk, a, hl0, rfl⟩
              · exact .inr ⟨x, by simp [hx], h⟩
            · rintro (h | ⟨x, hx, hxk, y, hy, rfl⟩)
              · exact .inl (.inl h)
              · rcases List.mem_cons.1 hx with rfl | hx
                · rw [hl0] at hy; injection hy with hy; subst hy; exact .inl (.inr rfl)
                · exact .inr ⟨x, hx, hxk, y, hy, rfl⟩
          · rcases List.mem_cons.1 hx with rfl | hx
            · exact fun _ => ⟨a, hl0, hv⟩
            · exact h2 x hx
          · rw [h3]
            have hs : (lookW (stepR s l a i).links c d).isSome = true ↔ (lookW s.links c d).isSome = true ∨ linkOf l c d := by
              unfold stepR
              by_cases hk2 : l.kind = 2
              · rw [if_pos hk2]
                constructor
                · exact .inl
                · rintro (h | ⟨h, _⟩)
                  · exact h
                  · omega
              · rw [if_neg hk2]
                have hk1 : l.kind = 1 := by rcases hk with h | h; exact h; exact absurd h hk2
                simp only
                by_cases hll : linkL l = true
                · rw [if_pos hll, lookW_some]
                  constructor
                  · rintro (h | ⟨rfl, rfl⟩)
                    · exact .inl h
                    · exact .inr ⟨hk1, hll, ⟨a, hl0, rfl⟩, rfl⟩
                  · rintro (h | ⟨_, _, ⟨y, hy, rfl⟩, rfl⟩)
                    · exact .inl h
                    · rw [hl0] at hy; injection hy with hy; subst hy; exact .inr ⟨rfl, rfl⟩
                · rw [if_neg hll]
                  constructor
                  · exact .inl
                  · rintro (h | ⟨_, h, _⟩)
                    · exact h
                    · exact absurd h hll
            rw [hs]
            constructor
            · rintro ((h | h) | ⟨x, hx, h⟩)
              · exact .inl h
              · exact .inr ⟨l, by simp, h⟩
              · exact .inr ⟨x, by simp [hx], h⟩
            · rintro (hq | ⟨x, hx, hq⟩)
              · exact .inl (.inl hq)
              · rcases List.mem_cons.1 hx with rfl | hx
                · exact .inl (.inr hq)
                · exact .inr ⟨x, hx, hq⟩
          · rw [hall]; exact nodup_addB7 hn a.name
        · rw [if_neg hv] at h; cases h
    · rw [if_neg hk] at h
      obtain ⟨h1, h2, h3, h4⟩ := read_spec ls (i + 1) s t h
      refine ⟨fun m => ?_, fun x hx => ?_, fun c d => ?_, h4⟩
      · rw [h1]
        constructor
        · rintro (h | ⟨x, hx, h⟩)
          · exact .inl h
          · exact .inr ⟨x, by simp [hx], h⟩
        · rintro (h | ⟨x, hx, hxk, h⟩)
          · exact .inl h
          · rcases List.mem_cons.1 hx with rfl | hx
            · exact absurd hxk hk
            · exact .inr ⟨x, hx, hxk, h⟩
      · rcases List.mem_cons.1 hx with rfl | hx
        · exact fun h => absurd h hk
        · exact h2 x hx
      · rw [h3]
        constructor
        · rintro (h | ⟨x, hx, h⟩)
          · exact .inl h
          · exact .inr ⟨x, by simp [hx], h⟩
        · rintro (hq | ⟨x, hx, hq⟩)
          · exact .inl hq
          · rcases List.mem_cons.1 hx with rfl | hx
            · exact absurd (.inl hq.1) hk
            · exact .inr ⟨x, hx, hq⟩
end Go.Proofs.YtjfgjnlocadpbaaGreatDoor
end
section
namespace Go.Proofs.YtjfgjnlocadpbaaGreatDoor
open Go.Mach
def link1 (a b : ByteArray) (l : GL) : Bool := decide (l.kind = 1) && decide (l.name = sLink) && decide (1 < l.args.length) && decide ((l.args[0]?).map GT.name = some a) && decide ((l.args[1]?).map GT.kind = some 1) && decide ((l.args[1]?).map GT.name = some b)
def linkedB (body : List GL) (a b : ByteArray) : Bool := body.any (link1 a b)
theorem link1_iff (a b : ByteArray) (l : GL) : link1 a b l = true ↔ linkOf l a b := by
  unfold link1 linkOf linkL arg1
  simp only [Bool.and_eq_true, decide_eq_true_eq]
  constructor
  · rintro ⟨⟨⟨⟨⟨h1, h2⟩, h3⟩, h4⟩, h5⟩, h6⟩
    refine ⟨h1, ⟨h2, h5⟩, ?_, by rw [h6]; rfl⟩
    obtain ⟨t, ht, e⟩ := Option.map_eq_some_iff.1 h4
    exact ⟨t, ht, e⟩
  · rintro ⟨h1, ⟨h2, h5⟩, ⟨t, ht, e⟩, h6⟩
    obtain ⟨y, hy, _⟩ := Option.map_eq_some_iff.1 h5
    have h3 := (List.getElem?_eq_some_iff.1 hy).1
    refine ⟨⟨⟨⟨⟨h1, h2⟩, h3⟩, by rw [ht, ← e]; rfl⟩, h5⟩, ?_⟩
    rw [hy] at h6 ⊢
    simp at h6 ⊢
    exact h6
theorem linked_iff (body : List GL) (a b : ByteArray) : linkedB body a b = true ↔ ∃ l ∈ body, linkOf l a b := by
  unfold linkedB
  rw [List.any_eq_true]
  constructor
  · rintro ⟨l, h1, h2⟩; exact ⟨l, h1, (link1_iff a b l).1 h2⟩
  · rintro ⟨l, h1, h2⟩; exact ⟨l, h1, (link1_iff a b l).2 h2⟩
theorem var_ne {t : GT} (h : termR 8 t = true) (hk : t.kind = 1) : t.name ≠ nilB := by
  intro e
  have : termR 8 t = termB t (t.args.all (termR 7)) := rfl
  rw [this] at h
  unfold termB at h
  rw [if_pos hk, e] at h
  simp only [Bool.and_eq_true] at h
  exact absurd h.2 (by decide)
theorem lit_names {l : GL} (h : litB l = true) (hk : l.kind = 1 ∨ l.kind = 2) : (∃ t, l.args[0]? = some t) ∧ ∀ t ∈ l.args, t.kind = 1 → t.name ≠ nilB := by
  unfold litB at h
  rw [if_pos hk] at h
  simp only [Bool.and_eq_true, argsB] at h
  obtain ⟨_, ⟨h1, h2⟩, h3⟩ := h
  refine ⟨?_, fun t ht htk => var_ne (List.all_eq_true.1 h2 t ht) htk⟩
  cases ha : l.args with
  | nil => rw [ha] at h3; cases h3
  | cons a as' => exact ⟨a, rfl⟩
theorem readP_spec {body : List GL} {s : RS} (h : readP body = some s) : (∀ m, m ∈ s.all ↔ ∃ l ∈ body, (l.kind = 1 ∨ l.kind = 2) ∧ ∃ x, l.args[0]? = some x ∧ x.name = m) ∧
    (∀ l ∈ body, l.kind = 1 ∨ l.kind = 2 → ∃ x, l.args[0]? = some x ∧ x.kind = 1) ∧ (∀ a b, (lookW s.links a b).isSome = true ↔ linkedB body a b = true) ∧ s.all.Nodup := by
  unfold readP at h
  cases hg : readGo body 0 ⟨[], [], 0⟩ with
  | none => rw [hg] at h; cases h
  | some t =>
    rw [hg] at h
    simp only at h
    split at h
    · injection h with h; subst h
      obtain ⟨h1, h2, h3, h4⟩ := read_spec body 0 _ _ hg
      refine ⟨fun m => ?_, h2, fun a b => ?_, h4 List.nodup_nil⟩
      · rw [h1]; simp
      · rw [h3, linked_iff]
        constructor
        · rintro (h | h)
          · cases h
          · exact h
        · exact .inr
    · cases h
def atB (p : GPl) (l : GL) : Bool := decide (0 < l.args.length) && decide ((l.args[0]?).map GT.kind = some 1) && (decide ((l.args[0]?).map GT.name = some p.from') || (decide (p.to ≠ nilB) && decide ((l.args[0]?).map GT.name = some p.to)))
theorem atB_of {p : GPl} {l : GL} {x : GT} (hx : l.args[0]? = some x) (hk : x.kind = 1) (hn : x.name = p.from' ∨ (p.to ≠ nilB ∧ x.name = p.to)) : atB p l = true := by
  have h0 := (List.getElem?_eq_some_iff.1 hx).1
  unfold atB
  rw [hx]
  have e1 : (some x).map GT.kind = some 1 := by rw [Option.map_some, hk]
  have e2 : (some x).map GT.name = some x.name := rfl
  rw [e1, e2]
  simp only [h0, decide_true, Bool.true_and, Bool.or_eq_true, Bool.and_eq_true, decide_eq_true_eq, Option.some.injEq]
  exact hn
structure PlaceOk (r : GR) (p : GPl) : Prop where
  at' : ∀ l ∈ r.body, l.kind = 1 ∨ l.kind = 2 → atB p l = true
  ne : p.from' ≠ p.to
  head : headN r = p.head
  two : p.to ≠ nilB → linkedB r.body p.from' p.to = true ∧ (p.head = p.from' ∨ p.head = p.to)
  one : p.to = nilB → p.head ≠ p.from' → linkedB r.body p.from' p.head = true
  agg : r.agg ≠ nilB → p.to = nilB ∧ p.head = p.from'
theorem place_cases {r : GR} {p : GPl} (h : placeP r = some p) : ruleB r = true ∧ r.head ≠ sLink ∧ headK r = 1 ∧ ∃ s, readP r.body = some s ∧ placeQ s (headN r) = some p ∧ aggOk r p = true := by
  unfold placeP at h
  split at h
  · rename_i hc
    obtain ⟨h1, h2, h3⟩ := hc
    refine ⟨h1, h2, h3, ?_⟩
    cases hr : readP r.body with
    | none => rw [hr] at h; cases h
    | some s =>
      rw [hr] at h
      simp only at h
      cases hq : placeQ s (headN r) with
      | none => rw [hq] at h; cases h
      | some q =>
        rw [hq] at h
        simp only at h
        split at h
        · rename_i ha
          injection h with h; subst h
          exact ⟨s, rfl, hq, ha⟩
        · cases h
  · cases h
theorem place_ok {r : GR} {p : GPl} (h : placeP r = some p) : PlaceOk r p := by
  obtain ⟨hb, _, _, s, hr, hq, ha⟩ := place_cases h
  obtain ⟨h1, h2, h3, h4⟩ := readP_spec hr
  have hlit : ∀ l ∈ r.body, litB l = true := by
    unfold ruleB at hb
    simp only [Bool.and_eq_true] at hb
    exact List.all_eq_true.1 hb.1.2
  have hne : ∀ m ∈ s.all, m ≠ nilB := fun m hm => by
    obtain ⟨l, hl, hk, x, hx, rfl⟩ := (h1 m).1 hm
    obtain ⟨y, hy, hyk⟩ := h2 l hl hk
    rw [hx] at hy; injection hy with hy; subst hy
    exact (lit_names (hlit l hl) hk).2 x (List.mem_of_getElem? hx) hyk
  have hat : ∀ l ∈ r.body, l.kind = 1 ∨ l.kind = 2 → ∃ x, l.args[0]? = some x ∧ x.kind = 1 ∧ x.name ∈ s.all := fun l hl hk => by
    obtain ⟨x, hx, hxk⟩ := h2 l hl hk
    exact ⟨x, hx, hxk, (h1 _).2 ⟨l, hl, hk, x, hx, rfl⟩⟩
  have hagg : r.agg ≠ nilB → p.to = nilB ∧ p.head = p.from' := fun hg => by
    unfold aggOk at ha
    simp only [Bool.or_eq_true, Bool.and_eq_true, decide_eq_true_eq] at ha
    rcases ha with h | h
    · exact absurd h hg
    · exact h
  unfold placeQ at hq
  split at hq
  · rename_i a hall
    have hma : a ≠ nilB := hne a (by rw [hall]; simp)
    unfold oneP at hq
    split at hq
    · rename_i hc
      injection hq with hq; subst hq
      refine ⟨fun l hl hk => ?_, hma, rfl, fun h => absurd rfl h, fun _ hh => ?_, hagg⟩
      · obtain ⟨x, hx, hxk, hxm⟩ := hat l hl hk
        rw [hall] at hxm
        simp at hxm
        exact atB_of hx hxk (.inl hxm)
      · rcases hc with h | h
        · exact absurd h hh
        · exact (h3 _ _).1 h
    · cases hq
  · rename_i a b hall
    have hma : a ≠ nilB := hne a (by rw [hall]; simp)
    have hmb : b ≠ nilB := hne b (by rw [hall]; simp)
    have hab : a ≠ b := by rw [hall] at h4; simp at h4; exact h4
    have key : ∀ c d, (c = a ∧ d = b) ∨ (c = b ∧ d = a) → (lookW s.links c d).isSome = true → (headN r = a ∨ headN r = b) → p = ⟨c, d, headN r⟩ → PlaceOk r p := fun c d hcd hl hh e => by
      subst e
      refine ⟨fun l hl hk => ?_, ?_, rfl, fun _ => ⟨(h3 _ _).1 hl, ?_⟩, fun h => ?_, hagg⟩
      · obtain ⟨x, hx, hxk, hxm⟩ := hat l hl hk
        rw [hall] at hxm
        have hx2 := (List.getElem?_eq_some_iff.1 hx).1
        simp at hxm
        have hd : d ≠ nilB := by rcases hcd with ⟨_, rfl⟩ | ⟨_, rfl⟩; exact hmb; exact hma
        refine atB_of hx hxk ?_
        rcases hcd with ⟨rfl, rfl⟩ | ⟨rfl, rfl⟩ <;> rcases hxm with e | e
        · exact .inl e
        · exact .inr ⟨hd, e⟩
        · exact .inr ⟨hd, e⟩
        · exact .inl e
      · rcases hcd with ⟨rfl, rfl⟩ | ⟨rfl, rfl⟩
        · exact hab
        · exact fun e => hab e.symm
      · rcases hcd with ⟨rfl, rfl⟩ | ⟨rfl, rfl⟩
        · exact hh
        · exact hh.symm
      · rcases hcd with ⟨_, rfl⟩ | ⟨_, rfl⟩
        · exact absurd h hmb
        · exact absurd h hma
    unfold twoP at hq
    cases e1 : lookW s.links a b with
    | none =>
      cases e2 : lookW s.links b a with
      | none => rw [e1, e2] at hq; cases hq
      | some k =>
        rw [e1, e2] at hq
        simp only at hq
        split at hq
        · rename_i hh
          injection hq with hq
          exact key b a (.inr ⟨rfl, rfl⟩) (by rw [e2]; rfl) hh hq.symm
        · cases hq
    | some i =>
      cases e2 : lookW s.links b a with
      | none =>
        rw [e1, e2] at hq
        simp only at hq
        split at hq
        · rename_i hh
          injection hq with hq
          exact key a b (.inl ⟨rfl, rfl⟩) (by rw [e1]; rfl) hh hq.symm
        · cases hq
      | some k =>
        rw [e1, e2] at hq
        simp only at hq
        split at hq
        · rename_i hh
          injection hq with hq
          split at hq
          · exact key b a (.inr ⟨rfl, rfl⟩) (by rw [e2]; rfl) hh hq.symm
          · exact key a b (.inl ⟨rfl, rfl⟩) (by rw [e1]; rfl) hh hq.symm
        · cases hq
  · cases hq
end Go.Proofs.YtjfgjnlocadpbaaGreatDoor
end
section
namespace Go.Proofs.YtjfgjnlocadpbaaGreatDoor
open Go.Mach
def mapS (s : RS) : RS := ⟨s.all.map bN, s.links.map fun p => ((bN p.1.1, bN p.1.2), p.2), s.atoms⟩
def turnPl (p : GPl) : GPl := ⟨bN p.from', if p.to = nilB then nilB else bN p.to, bN p.head⟩
theorem bN_iff (a b : ByteArray) : bN a = bN b ↔ a = b := ⟨bN_inj, fun h => by rw [h]⟩
theorem bN_ne (a : ByteArray) : bN a ≠ nilB := fun h => by
  have h1 : (bN a).size = a.size + 1 := by
    have : (⟨#[78]⟩ : ByteArray).size = 1 := rfl
    simp only [bN, ByteArray.size_append, this]; omega
  rw [h] at h1
  have : nilB.size = 0 := rfl
  omega
theorem lookW_map (m : List ((ByteArray × ByteArray) × Int)) (a b : ByteArray) : lookW (m.map fun p => ((bN p.1.1, bN p.1.2), p.2)) (bN a) (bN b) = lookW m a b := by
  unfold lookW
  rw [List.find?_map, Option.map_map]
  have : ((fun p : (ByteArray × ByteArray) × Int => decide (p.1.1 = bN a ∧ p.1.2 = bN b)) ∘ fun p : (ByteArray × ByteArray) × Int => ((bN p.1.1, bN p.1.2), p.2)) = fun p : (ByteArray × ByteArray) × Int => decide (p.1.1 = a ∧ p.1.2 = b) := by
    funext p; simp [bN_iff]
  rw [this]; rfl
theorem setW_map (m : List ((ByteArray × ByteArray) × Int)) (a b : ByteArray) (i : Int) : setW (m.map fun p => ((bN p.1.1, bN p.1.2), p.2)) (bN a) (bN b) i = (setW m a b i).map fun p => ((bN p.1.1, bN p.1.2), p.2) := by
  unfold setW
  rw [lookW_map]
  split
  · rfl
  · rw [List.map_append]; rfl
theorem get_turn (l : List GT) (i : Nat) : (turnL l)[i]? = (l[i]?).map turnT := by rw [turnL_map, List.getElem?_map]
theorem linkL_turn {l : GL} (h : l.kind = 1) : linkL (turnG l) = linkL l := by
  unfold linkL
  have e1 : (turnG l).name = l.name := by simp [turnG, h]
  have e2 : (turnG l).args = turnL l.args := rfl
  rw [e1, e2, get_turn, Option.map_map]
  have : GT.kind ∘ turnT = GT.kind := by funext t; exact kind_turn t
  rw [this]
theorem arg1_turn {l : GL} (h : linkL l = true) : arg1 (turnG l) = bN (arg1 l) := by
  unfold linkL at h
  simp only [Bool.and_eq_true, decide_eq_true_eq] at h
  obtain ⟨t, ht, hk⟩ := Option.map_eq_some_iff.1 h.2
  have e2 : (turnG l).args = turnL l.args := rfl
  unfold arg1
  rw [e2, get_turn, ht]
  simp [name_turn t hk]
theorem step_turn (s : RS) (l : GL) (a : GT) (i : Nat) (hk : l.kind = 1 ∨ l.kind = 2) (ha : a.kind = 1) : stepR (mapS s) (turnG l) (turnT a) i = mapS (stepR s l a i) := by
  unfold stepR
  have e1 : (turnG l).kind = l.kind := rfl
  rw [e1, name_turn a ha]
  have hadd : addB (mapS s).all (bN a.name) = (addB s.all a.name).map bN := addB_turn _ _
  by_cases h2 : l.kind = 2
  · simp only [if_pos h2, hadd]; rfl
  · have h1 : l.kind = 1 := by rcases hk with h | h; exact h; exact absurd h h2
    simp only [if_neg h2, hadd, linkL_turn h1]
    by_cases hl : linkL l = true
    · simp only [hl, if_true, arg1_turn hl, mapS, setW_map]
    · simp only [hl, Bool.false_eq_true, if_false]; rfl
theorem read_turn : ∀ (ls : List GL) (i : Nat) (s : RS), readGo (ls.map turnG) i (mapS s) = (readGo ls i s).map mapS
  | [], i, s => rfl
  | l :: ls, i, s => by
    simp only [List.map_cons, readGo]
    have e1 : (turnG l).kind = l.kind := rfl
    have e2 : (turnG l).args = turnL l.args := rfl
    rw [e1, e2]
    by_cases hk : l.kind = 1 ∨ l.kind = 2
    · simp only [if_pos hk]
      cases ha : l.args with
      | nil => rfl
      | cons a as' =>
        simp only [turnL, kind_turn]
        by_cases hv : a.kind = 1
        · simp only [if_pos hv, step_turn s l a i hk hv]
          exact read_turn ls (i + 1) _
        · simp only [if_neg hv]; rfl
    · simp only [if_neg hk]
      exact read_turn ls (i + 1) s
theorem readP_turn (body : List GL) : readP (body.map turnG) = (readP body).map mapS := by
  unfold readP
  have h := read_turn body 0 ⟨[], [], 0⟩
  have e : mapS ⟨[], [], 0⟩ = ⟨[], [], 0⟩ := rfl
  rw [e] at h
  rw [h]
  cases readGo body 0 ⟨[], [], 0⟩ with
  | none => rfl
  | some s =>
    simp only [Option.map_some]
    have : (mapS s).atoms = s.atoms := rfl
    rw [this]
    split <;> rfl
theorem placeQ_turn (s : RS) (head : ByteArray) (hne : ∀ m ∈ s.all, m ≠ nilB) : placeQ (mapS s) (bN head) = (placeQ s head).map turnPl := by
  unfold placeQ
  have e : (mapS s).all = s.all.map bN := rfl
  rw [e]
  match hall : s.all with
  | [] => rfl
  | [a] =>
    simp only [List.map_cons, List.map_nil, oneP]
    have e2 : (mapS s).links = s.links.map fun p => ((bN p.1.1, bN p.1.2), p.2) := rfl
    rw [e2, lookW_map]
    simp only [bN_iff]
    split
    · simp [turnPl]
    · rfl
  | [a, b] =>
    have ha : a ≠ nilB := hne a (by rw [hall]; simp)
    have hb : b ≠ nilB := hne b (by rw [hall]; simp)
    simp only [List.map_cons, List.map_nil, twoP]
    have e2 : (mapS s).links = s.links.map fun p => ((bN p.1.1, bN p.1.2), p.2) := rfl
    rw [e2, lookW_map, lookW_map]
    simp only [bN_iff]
    cases lookW s.links a b with
    | none =>
      cases lookW s.links b a with
      | none => rfl
      | some k =>
        simp only
        split
        · simp [turnPl, ha]
        · rfl
    | some i =>
      cases lookW s.links b a with
      | none =>
        simp only
        split
        · simp [turnPl, hb]
        · rfl
      | some k =>
        simp only
        split
        · split
          · simp [turnPl, ha]
          · simp [turnPl, hb]
        · rfl
  | _ :: _ :: _ :: _ => rfl
theorem aggOk_turn (r : GR) (p : GPl) : aggOk (turnR r) (turnPl p) = aggOk r p := by
  unfold aggOk turnPl
  have e : (turnR r).agg = r.agg := rfl
  rw [e]
  have h1 : (if p.to = nilB then nilB else bN p.to) = nilB ↔ p.to = nilB := by
    split
    · rename_i h; simp [h]
    · rename_i h; exact ⟨fun h2 => absurd h2 (bN_ne _), fun h2 => absurd h2 h⟩
  simp only [h1, bN_iff]
theorem names_ne {r : GR} (hb : ruleB r = true) {s : RS} (hr : readP r.body = some s) : ∀ m ∈ s.all, m ≠ nilB := fun m hm => by
  obtain ⟨h1, h2, _, _⟩ := readP_spec hr
  unfold ruleB at hb
  simp only [Bool.and_eq_true] at hb
  obtain ⟨l, hl, hk, x, hx, rfl⟩ := (h1 m).1 hm
  obtain ⟨y, hy, hyk⟩ := h2 l hl hk
  rw [hx] at hy; injection hy with hy; subst hy
  exact (lit_names (List.all_eq_true.1 hb.1.2 l hl) hk).2 x (List.mem_of_getElem? hx) hyk
theorem place_turn (r : GR) (h1 : ruleB r = true) (h2 : ruleB (turnR r) = true) : placeP (turnR r) = (placeP r).map turnPl := by
  unfold placeP
  have e1 : (turnR r).head = r.head := rfl
  have e2 : headK (turnR r) = headK r := by
    unfold headK
    have : (turnR r).args = turnL r.args := rfl
    rw [this, get_turn, Option.map_map]
    have : GT.kind ∘ turnT = GT.kind := by funext t; exact kind_turn t
    rw [this]
  have e4 : (turnR r).body = r.body.map turnG := rfl
  rw [e1, e2, h1, h2, e4, readP_turn]
  by_cases hc : r.head ≠ sLink ∧ headK r = 1
  · have e3 : headN (turnR r) = bN (headN r) := by
      have : (turnR r).args = turnL r.args := rfl
      unfold headN
      rw [this, get_turn]
      have hk := hc.2
      unfold headK at hk
      cases h0 : r.args[0]? with
      | none => rw [h0] at hk; simp at hk
      | some t =>
        rw [h0] at hk
        simp only [Option.map_some, Option.getD_some] at hk ⊢
        exact name_turn t hk
    rw [e3]
    simp only [true_and, if_pos hc]
    cases hr : readP r.body with
    | none => rfl
    | some s =>
      simp only [Option.map_some, placeQ_turn s (headN r) (names_ne h1 hr)]
      cases placeQ s (headN r) with
      | none => rfl
      | some p =>
        simp only [Option.map_some, aggOk_turn]
        split <;> rfl
  · simp only [true_and, if_neg hc]; rfl
theorem read_more : ∀ (ls : List GL) (x : GL) (i : Nat) (s : RS), readGo (ls ++ [x]) i s = (readGo ls i s).bind (readGo [x] (i + ls.length))
  | [], x, i, s => rfl
  | l :: ls, x, i, s => by
    simp only [List.cons_append, readGo]
    have e : i + (l :: ls).length = (i + 1) + ls.length := by simp only [List.length_cons]; omega
    rw [e]
    split
    · cases l.args with
      | nil => rfl
      | cons a as' =>
        simp only
        split
        · exact read_more ls x (i + 1) _
        · rfl
    · exact read_more ls x (i + 1) s
theorem from_mem {s : RS} {head : ByteArray} {p : GPl} (h : placeQ s head = some p) : p.from' ∈ s.all := by
  unfold placeQ at h
  split at h
  · rename_i a hall
    rw [hall]
    unfold oneP at h
    split at h
    · injection h with h; subst h; simp
    · cases h
  · rename_i a b hall
    rw [hall]
    unfold twoP at h
    split at h
    · cases h
    · split at h
      · injection h with h; subst h; simp
      · cases h
    · split at h
      · injection h with h; subst h; simp
      · cases h
    · split at h
      · injection h with h; subst h
        split <;> simp
      · cases h
  · cases h
def moreR (r : GR) (x : GL) : GR := { r with body := r.body ++ [x] }
theorem more_B {r : GR} {x : GL} (h : ruleB r = true) (hx : litB x = true) (hl : r.body.length < 8) : ruleB (moreR r x) = true := by
  unfold ruleB at h ⊢
  simp only [Bool.and_eq_true] at h
  obtain ⟨⟨⟨⟨⟨b1, b2⟩, b3⟩, b4⟩, b5⟩, b6⟩ := h
  have e1 : (moreR r x).label = r.label := rfl
  have e2 : (moreR r x).head = r.head := rfl
  have e3 : (moreR r x).args = r.args := rfl
  have e4 : (moreR r x).body = r.body ++ [x] := rfl
  have e6 : aggB (moreR r x) = true := b6
  have e7 : decide (1 ≤ (r.body ++ [x]).length ∧ (r.body ++ [x]).length ≤ 8) = true := by simp; omega
  rw [e1, e2, e3, e4, e6, e7, b1, b2, b3, List.all_append, b5]
  simp [hx]
theorem place_more {r : GR} {p : GPl} {x : GL} (h : placeP r = some p) (hb : ruleB (moreR r x) = true) (hx : ∀ s i, readP r.body = some s → p.from' ∈ s.all → ∃ n, readGo [x] i s = some ⟨s.all, s.links, n⟩ ∧ s.atoms ≤ n) : placeP (moreR r x) = some p := by
  obtain ⟨h1, h2, h3, s, hr, hq, ha⟩ := place_cases h
  have hr2 : ∃ n, readP (r.body ++ [x]) = some ⟨s.all, s.links, n⟩ := by
    unfold readP at hr ⊢
    rw [read_more]
    cases hg : readGo r.body 0 ⟨[], [], 0⟩ with
    | none => rw [hg] at hr; cases hr
    | some t =>
      rw [hg] at hr
      simp only at hr
      split at hr
      · rename_i hat
        injection hr with hr; subst hr
        obtain ⟨n, hn, hle⟩ := hx t (0 + r.body.length) (by unfold readP; rw [hg]; simp only [if_pos hat]) (from_mem hq)
        refine ⟨n, ?_⟩
        simp only [Option.bind_some, hn]
        rw [if_pos (by omega)]
      · cases hr
  obtain ⟨n, hr2⟩ := hr2
  have hc : ruleB (moreR r x) = true ∧ (moreR r x).head ≠ sLink ∧ headK (moreR r x) = 1 := ⟨hb, h2, h3⟩
  unfold placeP
  rw [if_pos hc]
  have e4 : (moreR r x).body = r.body ++ [x] := rfl
  have e5 : headN (moreR r x) = headN r := rfl
  have e6 : placeQ ⟨s.all, s.links, n⟩ (headN r) = some p := hq
  have e7 : aggOk (moreR r x) p = true := ha
  rw [e4, hr2, e5]
  simp only [e6, e7, if_true]
theorem place_other {r : GR} {p : GPl} {x : GL} {a : GT} {o : ByteArray} (h : placeP r = some p) (hk : x.kind = 1) (hxa : x.args = [a]) (hak : a.kind = 1) (han : a.name = o) (hnl : x.name ≠ sLink)
    (ho : ∀ l ∈ r.body, (l.kind = 1 ∨ l.kind = 2) → ∀ t ∈ l.args, t.kind = 1 → t.name ≠ o) : placeP (moreR r x) = none := by
  obtain ⟨h1, h2, h3, s, hr, hq, ha⟩ := place_cases h
  obtain ⟨q1, q2, q3, q4⟩ := readP_spec hr
  have hno : o ∉ s.all := fun hm => by
    obtain ⟨l, hl, hlk, y, hy, e⟩ := (q1 o).1 hm
    obtain ⟨z, hz, hzk⟩ := q2 l hl hlk
    rw [hy] at hz; injection hz with hz; subst hz
    exact ho l hl hlk y (List.mem_of_getElem? hy) hzk e
  have hmem : memB o s.all = false := by
    cases hm : memB o s.all with
    | false => rfl
    | true => exact absurd ((memB_iff _ _).1 hm) hno
  have hadd : addB s.all o = s.all ++ [o] := by unfold addB; rw [hmem]; rfl
  have hll : linkL x = false := by unfold linkL; rw [decide_eq_false hnl]; rfl
  have hstep : ∀ i, readGo [x] i s = some ⟨s.all ++ [o], s.links, s.atoms + 1⟩ := fun i => by
    simp only [readGo, hk, true_or, if_true, hxa, hak, stepR, han, hadd, hll, Bool.false_eq_true, if_false]
    rfl
  have hr2 : readP (r.body ++ [x]) = some ⟨s.all ++ [o], s.links, s.atoms + 1⟩ := by
    unfold readP at hr ⊢
    rw [read_more]
    cases hg : readGo r.body 0 ⟨[], [], 0⟩ with
    | none => rw [hg] at hr; cases hr
    | some t =>
      rw [hg] at hr
      simp only at hr
      split at hr
      · injection hr with hr; subst hr
        simp only [Option.bind_some, hstep]
        rw [if_pos (by omega)]
      · cases hr
  have hno1 : ∀ c, lookW s.links c o = none := fun c => by
    cases hl : lookW s.links c o with
    | none => rfl
    | some v =>
      exfalso
      have := (q3 c o).1 (by rw [hl]; rfl)
      obtain ⟨l, hl, hk, hll, _, e⟩ := (linked_iff _ _ _).1 this
      unfold linkL at hll
      simp only [Bool.and_eq_true, decide_eq_true_eq] at hll
      obtain ⟨t, ht, htk⟩ := Option.map_eq_some_iff.1 hll.2
      unfold arg1 at e
      rw [ht] at e
      exact ho l hl (.inl hk) t (List.mem_of_getElem? ht) htk e
  have hno2 : ∀ c, lookW s.links o c = none := fun c => by
    cases hl : lookW s.links o c with
    | none => rfl
    | some v =>
      exfalso
      have := (q3 o c).1 (by rw [hl]; rfl)
      obtain ⟨l, hl, hk, _, ⟨t, ht, e⟩, _⟩ := (linked_iff _ _ _).1 this
      obtain ⟨z, hz, hzk⟩ := q2 l hl (.inl hk)
      rw [ht] at hz; injection hz with hz; subst hz
      exact ho l hl (.inl hk) t (List.mem_of_getElem? ht) hzk e
  have hq2 : placeQ ⟨s.all ++ [o], s.links, s.atoms + 1⟩ (headN r) = none := by
    unfold placeQ at hq ⊢
    split at hq
    · rename_i b hall
      simp only [hall, List.cons_append, List.nil_append, twoP, hno1, hno2]
    · rename_i b c hall
      simp only [hall, List.cons_append, List.nil_append]
    · cases hq
  unfold placeP
  have e4 : (moreR r x).body = r.body ++ [x] := rfl
  have e5 : headN (moreR r x) = headN r := rfl
  split
  · rw [e4, hr2, e5]
    simp only [hq2]
  · rfl
end Go.Proofs.YtjfgjnlocadpbaaGreatDoor
end
section
namespace Go.Proofs.YtjfgjnlocadpbaaGreatDoor
open Go.Mach
abbrev kW (a b : ByteArray) : AV := .agg [.str a, .str b]
def encW (m : List ((ByteArray × ByteArray) × Int)) : List (AV × AV) := m.map fun p => (kW p.1.1 p.1.2, .int .i64 p.2)
def idxW (a b : ByteArray) : List ((ByteArray × ByteArray) × Int) → Nat
  | [] => 0
  | p :: m => if a = p.1.1 ∧ b = p.1.2 then 0 else idxW a b m + 1
theorem mfind_w (a b : ByteArray) : ∀ (m : List ((ByteArray × ByteArray) × Int)) (i : Nat), mfind true [2, 2] [.str a, .str b] i (encW m) = some ((lookW m a b).map fun v => (i + idxW a b m, .int .i64 v))
  | [], i => rfl
  | p :: m, i => by
    have ih := mfind_w a b m (i + 1)
    simp only [encW, List.map_cons, mfind, keyC, if_true, Option.bind_some, eqcs_str, eqcs_nil, Option.map_some, Bool.and_true] at ih ⊢
    by_cases h : a = p.1.1 ∧ b = p.1.2
    · obtain ⟨h1, h2⟩ := h
      simp [lookW, List.find?_cons, idxW, h1, h2]
    · have hl : lookW (p :: m) a b = lookW m a b := by
        unfold lookW
        rw [List.find?_cons]
        have : decide (p.1.1 = a ∧ p.1.2 = b) = false := decide_eq_false fun e => h ⟨e.1.symm, e.2.symm⟩
        rw [this]
      have hd : (decide (a = p.1.1) && decide (b = p.1.2)) = false := by
        rw [← Bool.not_eq_true, Bool.and_eq_true, decide_eq_true_eq, decide_eq_true_eq]; exact h
      rw [hd, hl]
      simp only [ih, idxW, if_neg h]
      congr 2
      funext v
      congr 1
      omega
theorem mlook_w {σ : Heap} {id : Nat} {m : List ((ByteArray × ByteArray) × Int)} (h : σ[id]? = some (.mp (encW m))) (a b : ByteArray) : mlookA σ true [2, 2] (.int .i64 0) true (.map id) (kW a b) = some (.tup [.int .i64 ((lookW m a b).getD 0), .bool (lookW m a b).isSome]) := by
  simp only [mlookA, keyC, if_true, Option.bind_some, eqcs_str, eqcs_nil, Option.map_some, Option.isSome_some, mapOf, h, mfind_w]
  cases lookW m a b <;> simp [lookV]
theorem mset_w {σ : Heap} {id : Nat} {m : List ((ByteArray × ByteArray) × Int)} (h : σ[id]? = some (.mp (encW m))) (a b : ByteArray) (i : Int) (hn : lookW m a b = none) : msetA σ true [2, 2] (.map id) (kW a b) (.int .i64 i) = some (σ.set id (.mp (encW (setW m a b i)))) := by
  have hcl : closeA σ (.int .i64 i) = some (.int .i64 i, σ) := by simp
  have hk : (kW a b).clo = true := rfl
  simp only [msetA, keyC, if_true, Option.bind_some, eqcs_str, eqcs_nil, Option.map_some, Option.isSome_some, true_and, hk, hcl, h, mfind_w, hn, Option.map_none]
  have hs : setW m a b i = m ++ [((a, b), i)] := by unfold setW; rw [hn]; rfl
  rw [hs]
  simp [encW, AV.clo, AV.clo1]
end Go.Proofs.YtjfgjnlocadpbaaGreatDoor
end
section
set_option maxRecDepth 100000
namespace Go.Proofs.YtjfgjnlocadpbaaGreatDoor
open Go.Mach
abbrev plA (j : Nat) (l : List ByteArray) (k : Nat) (n : Int) : AV := .agg [.own j (l.map .str), .map k, .int .i64 n]
theorem has7 {σ : Heap} {k : Nat} {m : List ((ByteArray × ByteArray) × Int)} (hk : σ[k]? = some (.mp (encW m))) (j : Nat) (l : List ByteArray) (n : Int) (a b : ByteArray) (bs : Nat) :
    callT T 49 [plA j l k n, .str a, .str b] bs σ = some (.bool (lookW m a b).isSome, σ) := by
  have hkl : k < σ.length := (List.getElem?_eq_some_iff.1 hk).1
  have hk2 : ∀ o, (σ ++ [o])[k]? = some (.mp (encW m)) := fun o => by rw [List.getElem?_append_left hkl]; exact hk
  refine heap_enter (args' := [plA j l k n, .str a, .str b]) (σ1 := σ) (af := c49) rfl rfl (by simp [c49]) (by simp [c49]) rfl ?_
  simp [c49, baseA, setRun, mlook_w (hk2 _), res1, dropA_gc, refLt, refLt2_bool]
theorem one7 {σ : Heap} {k : Nat} {m : List ((ByteArray × ByteArray) × Int)} (hk : σ[k]? = some (.mp (encW m))) (j : Nat) (a head : ByteArray) (n : Int) (bs : Nat) :
    callT T 25 [plA j [a] k n, .str head] bs σ = some (.tup [.agg [.str a, .str nilB, .str head], .bool (decide (head = a) || (lookW m a head).isSome)], σ) := by
  have hkl : k < σ.length := (List.getElem?_eq_some_iff.1 hk).1
  have hk2 : ∀ o o', (σ ++ [o, o'])[k]? = some (.mp (encW m)) := fun o o' => by rw [List.getElem?_append_left hkl]; exact hk
  have hh := fun o o' => has7 (hk2 o o') j [a] n a head
  simp only [plA, List.map_cons, List.map_nil] at hh
  refine heap_enter (args' := [plA j [a] k n, .str head]) (σ1 := σ) (af := c25) rfl rfl (by simp [c25]) (by simp [c25]) rfl ?_
  by_cases he : head = a
  · simp [c25, baseA, setRun, he, res1, dropA_gc, refLt]
    exact ⟨rfl, refLt2_bool _ _⟩
  · simp [c25, baseA, setRun, he, hh, res1, dropA_gc, refLt]
    exact ⟨rfl, refLt2_bool _ _⟩
theorem con7 (l : List ByteArray) (s : ByteArray) (hl : l.length ≤ 100000000000) (j : Nat) (bs : Nat) (σ : Heap) : callT T 48 [.own j (l.map .str), .str s] bs σ = some (.bool (memB s l), σ) := by
  have h := conS_ok l s hl
  have := call_pure (T := T) (f := 48) (bs := bs) (σ := σ) (σ' := σ) (args := [.own j (l.map .str), .str s]) rfl rfl rfl (by simp [closeT, closeA, close1, close0]) (by simp) h
  exact this
theorem two7 {σ : Heap} {k : Nat} {m : List ((ByteArray × ByteArray) × Int)} (hk : σ[k]? = some (.mp (encW m))) (j : Nat) (a b head : ByteArray) (n : Int) (bs : Nat) :
    callT T 26 [plA j [a, b] k n, .str head] bs σ = some (match lookW m a b, lookW m b a with
      | none, none => .tup [.agg [.str nilB, .str nilB, .str nilB], .bool false]
      | some _, none => .tup [.agg [.str a, .str b, .str head], .bool (memB head [a, b])]
      | none, some _ => .tup [.agg [.str b, .str a, .str head], .bool (memB head [a, b])]
      | some i, some q => if q < i then .tup [.agg [.str b, .str a, .str head], .bool (memB head [a, b])] else .tup [.agg [.str a, .str b, .str head], .bool (memB head [a, b])], σ) := by
  have hkl : k < σ.length := (List.getElem?_eq_some_iff.1 hk).1
  have hk2 : ∀ l, (σ ++ l)[k]? = some (.mp (encW m)) := fun l => by rw [List.getElem?_append_left hkl]; exact hk
  have hc := con7 [a, b] head (by simp) j
  simp only [List.map_cons, List.map_nil] at hc
  refine heap_enter (args' := [plA j [a, b] k n, .str head]) (σ1 := σ) (af := c26) rfl rfl (by simp [c26]) (by simp [c26]) rfl ?_
  cases e1 : lookW m a b with
  | none =>
    cases e2 : lookW m b a with
    | none =>
      simp [c26, baseA, setRun, mlook_w (hk2 _), e1, e2, res1, dropA_gc, refLt]
      exact ⟨rfl, refLt2_bool _ _⟩
    | some q =>
      simp [c26, baseA, setRun, mlook_w (hk2 _), e1, e2, hc, res1, dropA_gc, refLt]
      exact ⟨rfl, refLt2_bool _ _⟩
  | some i =>
    cases e2 : lookW m b a with
    | none =>
      simp [c26, baseA, setRun, mlook_w (hk2 _), e1, e2, hc, res1, dropA_gc, refLt]
      exact ⟨rfl, refLt2_bool _ _⟩
    | some q =>
      by_cases hq : q < i
      · simp [c26, baseA, setRun, mlook_w (hk2 _), e1, e2, hc, hq, res1, dropA_gc, refLt]
        exact ⟨rfl, refLt2_bool _ _⟩
      · simp [c26, baseA, setRun, mlook_w (hk2 _), e1, e2, hc, hq, res1, dropA_gc, refLt]
        exact ⟨rfl, refLt2_bool _ _⟩
theorem conLO {N : Nat} {σ : Heap} {l : List ByteArray} {x : AV} (h : LO N 1 false σ (l.map .str) x) (s : ByteArray) (hl : l.length ≤ 100000000000) (bs : Nat) (τ : Heap) : callT T 48 [x, .str s] bs τ = some (.bool (memB s l), τ) := by
  have h1 := h.closeA τ
  have := call_pure (T := T) (f := 48) (bs := bs) (σ := τ) (σ' := τ) (args := [x, .str s]) (args' := [.isl (l.map .str) false, .str s]) rfl rfl rfl (by simp [closeT, h1, close1, close0]) (by simp) (conS_ok l s hl)
  exact this
def ReadQ (σ : Heap) (o : Option RS) (r : AV × Heap) : Prop :=
  σ.length + 2 ≤ r.2.length ∧ (∀ m, m < σ.length → r.2[m]? = σ[m]?) ∧ (match o with
    | none => ∃ x n, r.1 = .tup [.agg [x, .map (σ.length + 1), .int .i64 n], .bool false] ∧ x.cells = [x] ∧ x.solid = true
    | some s => ∃ x, r.1 = .tup [.agg [x, .map (σ.length + 1), .int .i64 (s.atoms : Int)], .bool (decide (0 < s.atoms))] ∧ LO (σ.length + 2) 1 false r.2 (s.all.map .str) x ∧ r.2[σ.length + 1]? = some (.mp (encW s.links)))
structure ReadI (σ : Heap) (body : List GL) (i : Nat) (f : FR) (τ : Heap) : Prop where
  h2 : f 2 = .ptr σ.length 0
  h12 : f 12 = .isl (body.map GL.enc) false
  h13 : f 13 = .int .i64 (body.length : Int)
  h14 : f 14 = .int .i64 (i : Int)
  len : σ.length + 2 ≤ τ.length
  frame : ∀ m, m < σ.length → τ[m]? = σ[m]?
  st : ∃ s x, readGo body 0 ⟨[], [], 0⟩ = readGo (body.drop i) i s ∧ s.atoms ≤ i ∧ s.all.length ≤ i ∧ τ[σ.length]? = some (.cells [x, .map (σ.length + 1), .int .i64 (s.atoms : Int)] 0 false) ∧ τ[σ.length + 1]? = some (.mp (encW s.links)) ∧ LO (σ.length + 2) 1 false τ (s.all.map .str) x
theorem step2 {s : RS} {l : GL} {a : GT} {i : Nat} (h : l.kind = 2) : stepR s l a i = ⟨addB s.all a.name, s.links, s.atoms⟩ := by unfold stepR; rw [if_pos h]
theorem step1n {s : RS} {l : GL} {a : GT} {i : Nat} (h : l.kind = 1) (hl : linkL l = false) : stepR s l a i = ⟨addB s.all a.name, s.links, s.atoms + 1⟩ := by unfold stepR; rw [if_neg (by omega), hl]; rfl
theorem step1l {s : RS} {l : GL} {a : GT} {i : Nat} (h : l.kind = 1) (hl : linkL l = true) : stepR s l a i = ⟨addB s.all a.name, setW s.links a.name (arg1 l) i, s.atoms + 1⟩ := by unfold stepR; rw [if_neg (by omega), hl]; rfl
set_option maxHeartbeats 4000000 in
theorem read7 (body : List GL) (ha : ∀ l ∈ body, l.kind = 1 ∨ l.kind = 2 → l.args ≠ []) (hb : body.length ≤ 100000000) (bs : Nat) (σ : Heap) (hbs : bs ≤ σ.length) :
    ∃ r, callT T 24 [.isl (body.map GL.enc) false] bs σ = some r ∧ ReadQ σ (readGo body 0 ⟨[], [], 0⟩) r := by
  refine heap_enterE (args' := [.isl (body.map GL.enc) false]) (σ1 := σ) (af := c24) rfl rfl (by simp [c24]) (by simp [c24]) (by simp [closeArgs, c24]) ?_
  have hbs1 : bs ≤ σ.length + 1 := by omega
  simp [c24, baseA, hbs, hbs1]
  refine W_for T bs 98 body.length (ReadI σ body) ?_ _ _ ?_
  · rintro i f τ hi ⟨h2, h12, h13, h14, hN, hall, s, x, hgo, hat, hal, cp, cm, hO⟩
    rw [hgo]
    have i0 : σ.length < τ.length := by omega
    have i1 : σ.length + 1 < τ.length := by omega
    have ix : x.cells = [x] := hO.cells
    have iy : x.solid = true := hO.solid
    have mlW : ∀ (τ' : Heap) (h : τ'[σ.length + 1]? = some (.mp (encW s.links))) (a b : ByteArray), mlookA τ' true [2, 2] (.int .i64 0) true (.map (σ.length + 1)) (kW a b) = some (.tup [.int .i64 ((lookW s.links a b).getD 0), .bool (lookW s.links a b).isSome]) := fun τ' h a b => mlook_w h a b
    have msW : ∀ (τ' : Heap) (h : τ'[σ.length + 1]? = some (.mp (encW s.links))) (a b : ByteArray) (hn : lookW s.links a b = none), msetA τ' true [2, 2] (.map (σ.length + 1)) (kW a b) (.int .i64 i) = some (τ'.set (σ.length + 1) (.mp (encW (setW s.links a b i)))) := fun τ' h a b hn => mset_w h a b i hn
    by_cases hlt : i < body.length
    · have hw : IntKind.i64.wrap ((i : Int) + 1) = (i : Int) + 1 := wr64 (by omega) (by omega)
      have e1 : body[i]? = some body[i] := List.getElem?_eq_getElem hlt
      rw [List.drop_eq_getElem_cons hlt] at hgo ⊢
      simp only [readGo] at hgo ⊢
      have hbody := List.getElem_mem hlt
      have ha' := ha _ hbody
      generalize hl : body[i] = l at *
      by_cases hk : l.kind = 1 ∨ l.kind = 2
      · simp only [if_pos hk] at hgo ⊢
        cases hargs : l.args with
        | nil => exact absurd hargs (ha' hk)
        | cons a rest =>
          simp only [hargs] at hgo ⊢
          have hal1 : (addB s.all a.name).length ≤ i + 1 := by
            unfold addB
            split
            · omega
            · simp; omega
          have hcon := fun bs τ' => conLO hO a.name (by omega) bs τ'
          have e0 : GT.encs (a :: rest) = a.enc :: GT.encs rest := rfl
          by_cases hav : a.kind = 1
          · simp only [if_pos hav] at hgo ⊢
            have hwa : IntKind.i64.wrap ((s.atoms : Int) + 1) = (s.atoms : Int) + 1 := wr64 (by omega) (by omega)
            rcases hk with hk | hk
            · by_cases hm : memB a.name s.all = true
              · have hadd : addB s.all a.name = s.all := by unfold addB; rw [if_pos hm]
                rw [hadd] at hal1
                by_cases hln : l.name = sLink
                · cases hrest : rest with
                  | nil =>
                    have hll : linkL l = false := by unfold linkL; rw [hargs, hrest]; simp
                    rw [step1n hk hll, hadd] at hgo ⊢
                    simp [h2, h12, h13, h14, hlt, hw, setRun, e1, hk, hav, e0, hcon, cp, cm, i0, i1, hbs, hbs1, hargs, hwa, ix, iy, hm, hln, hrest, -appendA_s, -getElem?_pos, List.getElem?_append_left, List.getElem?_append_right, List.getElem?_set_ne, list_set_at, List.getElem?_cons_zero, List.getElem?_cons_succ]
                    refine ⟨by simp [h2], by simp [h12], by simp [h13], by simp, by simp; omega, fun m hm => ?_, _, x, hgo, by simp only; omega, hal1, ?_, ?_, ?_⟩
                    · simp [-getElem?_pos, List.getElem?_append_left, List.getElem?_append_right, List.getElem?_set_ne, list_set_at, List.getElem?_cons_zero, List.getElem?_cons_succ, (show m < τ.length by omega), (show σ.length ≠ m by omega), (show σ.length + 1 ≠ m by omega)]
                      exact hall m hm
                    · simp [-getElem?_pos, List.getElem?_append_left, List.getElem?_append_right, List.getElem?_set_ne, list_set_at, List.getElem?_cons_zero, List.getElem?_cons_succ, i0, i1, cp, cm]
                    · simp [-getElem?_pos, List.getElem?_append_left, List.getElem?_append_right, List.getElem?_set_ne, list_set_at, List.getElem?_cons_zero, List.getElem?_cons_succ, i0, i1, cp, cm]
                    · refine hO.keep fun m o hm ho => ?_
                      have hml := (List.getElem?_eq_some_iff.1 ho).1
                      simp [-getElem?_pos, List.getElem?_append_left, List.getElem?_append_right, List.getElem?_set_ne, list_set_at, List.getElem?_cons_zero, List.getElem?_cons_succ, hml, (show σ.length ≠ m by omega), (show σ.length + 1 ≠ m by omega)]
                      exact ho
                  | cons b rest' =>
                    have e3 : GT.encs (b :: rest') = b.enc :: GT.encs rest' := rfl
                    have hl2 : (1 : Int) < (rest'.length : Int) + 1 + 1 := by omega
                    by_cases hbk : b.kind = 1
                    · have hll : linkL l = true := by unfold linkL; rw [hargs, hrest, hln]; simp [hbk]
                      have har : arg1 l = b.name := by unfold arg1; rw [hargs, hrest]; rfl
                      rw [step1l hk hll, har, hadd] at hgo ⊢
                      cases hlook : lookW s.links a.name b.name with
                      | some v =>
                        have hset : setW s.links a.name b.name i = s.links := by unfold setW; rw [hlook]; rfl
                        rw [hset] at hgo ⊢
                        simp [h2, h12, h13, h14, hlt, hw, setRun, e1, hk, hav, e0, hcon, cp, cm, i0, i1, hbs, hbs1, hargs, hwa, ix, iy, hm, hln, hrest, hbk, e3, hl2, hlook, mlW, -appendA_s, -getElem?_pos, List.getElem?_append_left, List.getElem?_append_right, List.getElem?_set_ne, list_set_at, List.getElem?_cons_zero, List.getElem?_cons_succ]
                        refine ⟨by simp [h2], by simp [h12], by simp [h13], by simp, by simp; omega, fun m hm => ?_, _, x, hgo, by simp only; omega, hal1, ?_, ?_, ?_⟩
                        · simp [-getElem?_pos, List.getElem?_append_left, List.getElem?_append_right, List.getElem?_set_ne, list_set_at, List.getElem?_cons_zero, List.getElem?_cons_succ, (show m < τ.length by omega), (show σ.length ≠ m by omega), (show σ.length + 1 ≠ m by omega)]
                          exact hall m hm
                        · simp [-getElem?_pos, List.getElem?_append_left, List.getElem?_append_right, List.getElem?_set_ne, list_set_at, List.getElem?_cons_zero, List.getElem?_cons_succ, i0, i1, cp, cm]
                        · simp [-getElem?_pos, List.getElem?_append_left, List.getElem?_append_right, List.getElem?_set_ne, list_set_at, List.getElem?_cons_zero, List.getElem?_cons_succ, i0, i1, cp, cm]
                        · refine hO.keep fun m o hm ho => ?_
                          have hml := (List.getElem?_eq_some_iff.1 ho).1
                          simp [-getElem?_pos, List.getElem?_append_left, List.getElem?_append_right, List.getElem?_set_ne, list_set_at, List.getElem?_cons_zero, List.getElem?_cons_succ, hml, (show σ.length ≠ m by omega), (show σ.length + 1 ≠ m by omega)]
                          exact ho
                      | none =>
                        simp [h2, h12, h13, h14, hlt, hw, setRun, e1, hk, hav, e0, hcon, cp, cm, i0, i1, hbs, hbs1, hargs, hwa, ix, iy, hm, hln, hrest, hbk, e3, hl2, hlook, mlW, msW, -appendA_s, -getElem?_pos, List.getElem?_append_left, List.getElem?_append_right, List.getElem?_set_ne, list_set_at, List.getElem?_cons_zero, List.getElem?_cons_succ]
                        refine ⟨by simp [h2], by simp [h12], by simp [h13], by simp, by simp; omega, fun m hm => ?_, _, x, hgo, by simp only; omega, hal1, ?_, ?_, ?_⟩
                        · simp [-getElem?_pos, List.getElem?_append_left, List.getElem?_append_right, List.getElem?_set_ne, list_set_at, List.getElem?_cons_zero, List.getElem?_cons_succ, (show m < τ.length by omega), (show σ.length ≠ m by omega), (show σ.length + 1 ≠ m by omega)]
                          exact hall m hm
                        · simp [-getElem?_pos, List.getElem?_append_left, List.getElem?_append_right, List.getElem?_set_ne, list_set_at, List.getElem?_cons_zero, List.getElem?_cons_succ, i0, i1, cp, cm]
                        · simp [-getElem?_pos, List.getElem?_append_left, List.getElem?_append_right, List.getElem?_set_ne, list_set_at, List.getElem?_cons_zero, List.getElem?_cons_succ, i0, i1, cp, cm]
                        · refine hO.keep fun m o hm ho => ?_
                          have hml := (List.getElem?_eq_some_iff.1 ho).1
                          simp [-getElem?_pos, List.getElem?_append_left, List.getElem?_append_right, List.getElem?_set_ne, list_set_at, List.getElem?_cons_zero, List.getElem?_cons_succ, hml, (show σ.length ≠ m by omega), (show σ.length + 1 ≠ m by omega)]
                          exact ho
                    · have hll : linkL l = false := by unfold linkL; rw [hargs, hrest]; simp [hbk]
                      rw [step1n hk hll, hadd] at hgo ⊢
                      simp [h2, h12, h13, h14, hlt, hw, setRun, e1, hk, hav, e0, hcon, cp, cm, i0, i1, hbs, hbs1, hargs, hwa, ix, iy, hm, hln, hrest, hbk, e3, hl2, -appendA_s, -getElem?_pos, List.getElem?_append_left, List.getElem?_append_right, List.getElem?_set_ne, list_set_at, List.getElem?_cons_zero, List.getElem?_cons_succ]
                      refine ⟨by simp [h2], by simp [h12], by simp [h13], by simp, by simp; omega, fun m hm => ?_, _, x, hgo, by simp only; omega, hal1, ?_, ?_, ?_⟩
                      · simp [-getElem?_pos, List.getElem?_append_left, List.getElem?_append_right, List.getElem?_set_ne, list_set_at, List.getElem?_cons_zero, List.getElem?_cons_succ, (show m < τ.length by omega), (show σ.length ≠ m by omega), (show σ.length + 1 ≠ m by omega)]
                        exact hall m hm
                      · simp [-getElem?_pos, List.getElem?_append_left, List.getElem?_append_right, List.getElem?_set_ne, list_set_at, List.getElem?_cons_zero, List.getElem?_cons_succ, i0, i1, cp, cm]
                      · simp [-getElem?_pos, List.getElem?_append_left, List.getElem?_append_right, List.getElem?_set_ne, list_set_at, List.getElem?_cons_zero, List.getElem?_cons_succ, i0, i1, cp, cm]
                      · refine hO.keep fun m o hm ho => ?_
                        have hml := (List.getElem?_eq_some_iff.1 ho).1
                        simp [-getElem?_pos, List.getElem?_append_left, List.getElem?_append_right, List.getElem?_set_ne, list_set_at, List.getElem?_cons_zero, List.getElem?_cons_succ, hml, (show σ.length ≠ m by omega), (show σ.length + 1 ≠ m by omega)]
                        exact ho
                · have hll : linkL l = false := by unfold linkL; rw [decide_eq_false hln]; rfl
                  rw [step1n hk hll, hadd] at hgo ⊢
                  simp [h2, h12, h13, h14, hlt, hw, setRun, e1, hk, hav, e0, hcon, cp, cm, i0, i1, hbs, hbs1, hargs, hwa, ix, iy, hm, hln, -appendA_s, -getElem?_pos, List.getElem?_append_left, List.getElem?_append_right, List.getElem?_set_ne, list_set_at, List.getElem?_cons_zero, List.getElem?_cons_succ]
                  refine ⟨by simp [h2], by simp [h12], by simp [h13], by simp, by simp; omega, fun m hm => ?_, _, x, hgo, by simp only; omega, hal1, ?_, ?_, ?_⟩
                  · simp [-getElem?_pos, List.getElem?_append_left, List.getElem?_append_right, List.getElem?_set_ne, list_set_at, List.getElem?_cons_zero, List.getElem?_cons_succ, (show m < τ.length by omega), (show σ.length ≠ m by omega), (show σ.length + 1 ≠ m by omega)]
                    exact hall m hm
                  · simp [-getElem?_pos, List.getElem?_append_left, List.getElem?_append_right, List.getElem?_set_ne, list_set_at, List.getElem?_cons_zero, List.getElem?_cons_succ, i0, i1, cp, cm]
                  · simp [-getElem?_pos, List.getElem?_append_left, List.getElem?_append_right, List.getElem?_set_ne, list_set_at, List.getElem?_cons_zero, List.getElem?_cons_succ, i0, i1, cp, cm]
                  · refine hO.keep fun m o hm ho => ?_
                    have hml := (List.getElem?_eq_some_iff.1 ho).1
                    simp [-getElem?_pos, List.getElem?_append_left, List.getElem?_append_right, List.getElem?_set_ne, list_set_at, List.getElem?_cons_zero, List.getElem?_cons_succ, hml, (show σ.length ≠ m by omega), (show σ.length + 1 ≠ m by omega)]
                    exact ho
              · have hm' : memB a.name s.all = false := by simpa using hm
                have hadd : addB s.all a.name = s.all ++ [a.name] := by unfold addB; rw [if_neg hm]
                simp [h2, h12, h13, h14, hlt, hw, setRun, e1, hk, hav, e0, hcon, cp, cm, i0, i1, hbs, hbs1, hargs, hwa, ix, iy, hm', -appendA_s, -getElem?_pos, List.getElem?_append_left, List.getElem?_append_right, List.getElem?_set_ne, list_set_at, List.getElem?_cons_zero, List.getElem?_cons_succ]
                refine stW_s3 (N := σ.length + 2) hO rfl rfl rfl (by omega) hN (by simp; omega) fun x1 τ1 hO1 l1 q3 q4 => ?_
                have np1 : σ.length ≠ τ.length := by omega
                have np2 : σ.length ≠ τ.length + 1 := by omega
                have np3 : σ.length + 1 ≠ τ.length := by omega
                have np4 : σ.length + 1 ≠ τ.length + 1 := by omega
                have j0 : σ.length < τ1.length := by omega
                have j1 : σ.length + 1 < τ1.length := by omega
                have ix1 : x1.cells = [x1] := hO1.cells
                have iy1 : x1.solid = true := hO1.solid
                have dp : τ1[σ.length]? = _ := (q3 _ (by omega)).trans cp
                have dm : τ1[σ.length + 1]? = _ := (q3 _ (by omega)).trans cm
                have dl : τ1[τ.length]? = some (.cells [.int .i64 1, .str l.name, .isl (a.enc :: GT.encs rest) false] 0 false) := q4 τ.length _ (by simp) (fun _ _ e => by cases e)
                have da : τ1[τ.length + 1]? = some (.cells [.int .i64 1, .str a.name, .int .i64 a.value.kind, .int .i64 a.value.num, .str a.value.text, .isl (GV.encs a.value.items) false, .isl (GT.encs a.args) false] 0 false) := q4 (τ.length + 1) _ (by simp) (fun _ _ e => by cases e)
                rw [show s.all.map AV.str ++ [.str a.name] = (addB s.all a.name).map .str by rw [hadd, List.map_append]; rfl] at hO1
                by_cases hln : l.name = sLink
                · cases hrest : rest with
                  | nil =>
                    have hll : linkL l = false := by unfold linkL; rw [hargs, hrest]; simp
                    rw [step1n hk hll] at hgo ⊢
                    simp [h2, h12, h13, h14, hlt, hw, setRun, e1, hk, hav, e0, dp, dm, dl, da, j0, j1, np1, np2, np3, np4, hbs, hbs1, hargs, hwa, ix1, iy1, hm', hln, hrest, -appendA_s, -getElem?_pos, List.getElem?_append_left, List.getElem?_append_right, List.getElem?_set_ne, list_set_at, List.getElem?_cons_zero, List.getElem?_cons_succ]
                    refine ⟨by simp [h2], by simp [h12], by simp [h13], by simp, by simp; omega, fun m hm => ?_, _, x1, hgo, by simp only; omega, hal1, ?_, ?_, ?_⟩
                    · simp [-getElem?_pos, List.getElem?_append_left, List.getElem?_append_right, List.getElem?_set_ne, list_set_at, List.getElem?_cons_zero, List.getElem?_cons_succ, (show m < τ1.length by omega), (show σ.length ≠ m by omega), (show σ.length + 1 ≠ m by omega)]
                      exact (q3 m (by omega)).trans (hall m hm)
                    · simp [-getElem?_pos, List.getElem?_append_left, List.getElem?_append_right, List.getElem?_set_ne, list_set_at, List.getElem?_cons_zero, List.getElem?_cons_succ, j0, j1, dp, dm]
                    · simp [-getElem?_pos, List.getElem?_append_left, List.getElem?_append_right, List.getElem?_set_ne, list_set_at, List.getElem?_cons_zero, List.getElem?_cons_succ, j0, j1, dp, dm]
                    · refine hO1.keep fun m o hm ho => ?_
                      have hml := (List.getElem?_eq_some_iff.1 ho).1
                      simp [-getElem?_pos, List.getElem?_append_left, List.getElem?_append_right, List.getElem?_set_ne, list_set_at, List.getElem?_cons_zero, List.getElem?_cons_succ, hml, (show σ.length ≠ m by omega), (show σ.length + 1 ≠ m by omega)]
                      exact ho
                  | cons b rest' =>
                    have e3 : GT.encs (b :: rest') = b.enc :: GT.encs rest' := rfl
                    have hl2 : (1 : Int) < (rest'.length : Int) + 1 + 1 := by omega
                    by_cases hbk : b.kind = 1
                    · have hll : linkL l = true := by unfold linkL; rw [hargs, hrest, hln]; simp [hbk]
                      have har : arg1 l = b.name := by unfold arg1; rw [hargs, hrest]; rfl
                      rw [step1l hk hll, har] at hgo ⊢
                      cases hlook : lookW s.links a.name b.name with
                      | some v =>
                        have hset : setW s.links a.name b.name i = s.links := by unfold setW; rw [hlook]; rfl
                        rw [hset] at hgo ⊢
                        simp [h2, h12, h13, h14, hlt, hw, setRun, e1, hk, hav, e0, dp, dm, dl, da, j0, j1, np1, np2, np3, np4, hbs, hbs1, hargs, hwa, ix1, iy1, hm', hln, hrest, hbk, e3, hl2, hlook, mlW, -appendA_s, -getElem?_pos, List.getElem?_append_left, List.getElem?_append_right, List.getElem?_set_ne, list_set_at, List.getElem?_cons_zero, List.getElem?_cons_succ]
                        refine ⟨by simp [h2], by simp [h12], by simp [h13], by simp, by simp; omega, fun m hm => ?_, _, x1, hgo, by simp only; omega, hal1, ?_, ?_, ?_⟩
                        · simp [-getElem?_pos, List.getElem?_append_left, List.getElem?_append_right, List.getElem?_set_ne, list_set_at, List.getElem?_cons_zero, List.getElem?_cons_succ, (show m < τ1.length by omega), (show σ.length ≠ m by omega), (show σ.length + 1 ≠ m by omega)]
                          exact (q3 m (by omega)).trans (hall m hm)
                        · simp [-getElem?_pos, List.getElem?_append_left, List.getElem?_append_right, List.getElem?_set_ne, list_set_at, List.getElem?_cons_zero, List.getElem?_cons_succ, j0, j1, dp, dm]
                        · simp [-getElem?_pos, List.getElem?_append_left, List.getElem?_append_right, List.getElem?_set_ne, list_set_at, List.getElem?_cons_zero, List.getElem?_cons_succ, j0, j1, dp, dm]
                        · refine hO1.keep fun m o hm ho => ?_
                          have hml := (List.getElem?_eq_some_iff.1 ho).1
                          simp [-getElem?_pos, List.getElem?_append_left, List.getElem?_append_right, List.getElem?_set_ne, list_set_at, List.getElem?_cons_zero, List.getElem?_cons_succ, hml, (show σ.length ≠ m by omega), (show σ.length + 1 ≠ m by omega)]
                          exact ho
                      | none =>
                        simp [h2, h12, h13, h14, hlt, hw, setRun, e1, hk, hav, e0, dp, dm, dl, da, j0, j1, np1, np2, np3, np4, hbs, hbs1, hargs, hwa, ix1, iy1, hm', hln, hrest, hbk, e3, hl2, hlook, mlW, msW, -appendA_s, -getElem?_pos, List.getElem?_append_left, List.getElem?_append_right, List.getElem?_set_ne, list_set_at, List.getElem?_cons_zero, List.getElem?_cons_succ]
                        refine ⟨by simp [h2], by simp [h12], by simp [h13], by simp, by simp; omega, fun m hm => ?_, _, x1, hgo, by simp only; omega, hal1, ?_, ?_, ?_⟩
                        · simp [-getElem?_pos, List.getElem?_append_left, List.getElem?_append_right, List.getElem?_set_ne, list_set_at, List.getElem?_cons_zero, List.getElem?_cons_succ, (show m < τ1.length by omega), (show σ.length ≠ m by omega), (show σ.length + 1 ≠ m by omega)]
                          exact (q3 m (by omega)).trans (hall m hm)
                        · simp [-getElem?_pos, List.getElem?_append_left, List.getElem?_append_right, List.getElem?_set_ne, list_set_at, List.getElem?_cons_zero, List.getElem?_cons_succ, j0, j1, dp, dm]
                        · simp [-getElem?_pos, List.getElem?_append_left, List.getElem?_append_right, List.getElem?_set_ne, list_set_at, List.getElem?_cons_zero, List.getElem?_cons_succ, j0, j1, dp, dm]
                        · refine hO1.keep fun m o hm ho => ?_
                          have hml := (List.getElem?_eq_some_iff.1 ho).1
                          simp [-getElem?_pos, List.getElem?_append_left, List.getElem?_append_right, List.getElem?_set_ne, list_set_at, List.getElem?_cons_zero, List.getElem?_cons_succ, hml, (show σ.length ≠ m by omega), (show σ.length + 1 ≠ m by omega)]
                          exact ho
                    · have hll : linkL l = false := by unfold linkL; rw [hargs, hrest]; simp [hbk]
                      rw [step1n hk hll] at hgo ⊢
                      simp [h2, h12, h13, h14, hlt, hw, setRun, e1, hk, hav, e0, dp, dm, dl, da, j0, j1, np1, np2, np3, np4, hbs, hbs1, hargs, hwa, ix1, iy1, hm', hln, hrest, hbk, e3, hl2, -appendA_s, -getElem?_pos, List.getElem?_append_left, List.getElem?_append_right, List.getElem?_set_ne, list_set_at, List.getElem?_cons_zero, List.getElem?_cons_succ]
                      refine ⟨by simp [h2], by simp [h12], by simp [h13], by simp, by simp; omega, fun m hm => ?_, _, x1, hgo, by simp only; omega, hal1, ?_, ?_, ?_⟩
                      · simp [-getElem?_pos, List.getElem?_append_left, List.getElem?_append_right, List.getElem?_set_ne, list_set_at, List.getElem?_cons_zero, List.getElem?_cons_succ, (show m < τ1.length by omega), (show σ.length ≠ m by omega), (show σ.length + 1 ≠ m by omega)]
                        exact (q3 m (by omega)).trans (hall m hm)
                      · simp [-getElem?_pos, List.getElem?_append_left, List.getElem?_append_right, List.getElem?_set_ne, list_set_at, List.getElem?_cons_zero, List.getElem?_cons_succ, j0, j1, dp, dm]
                      · simp [-getElem?_pos, List.getElem?_append_left, List.getElem?_append_right, List.getElem?_set_ne, list_set_at, List.getElem?_cons_zero, List.getElem?_cons_succ, j0, j1, dp, dm]
                      · refine hO1.keep fun m o hm ho => ?_
                        have hml := (List.getElem?_eq_some_iff.1 ho).1
                        simp [-getElem?_pos, List.getElem?_append_left, List.getElem?_append_right, List.getElem?_set_ne, list_set_at, List.getElem?_cons_zero, List.getElem?_cons_succ, hml, (show σ.length ≠ m by omega), (show σ.length + 1 ≠ m by omega)]
                        exact ho
                · have hll : linkL l = false := by unfold linkL; rw [decide_eq_false hln]; rfl
                  rw [step1n hk hll] at hgo ⊢
                  simp [h2, h12, h13, h14, hlt, hw, setRun, e1, hk, hav, e0, dp, dm, dl, da, j0, j1, np1, np2, np3, np4, hbs, hbs1, hargs, hwa, ix1, iy1, hm', hln, -appendA_s, -getElem?_pos, List.getElem?_append_left, List.getElem?_append_right, List.getElem?_set_ne, list_set_at, List.getElem?_cons_zero, List.getElem?_cons_succ]
                  refine ⟨by simp [h2], by simp [h12], by simp [h13], by simp, by simp; omega, fun m hm => ?_, _, x1, hgo, by simp only; omega, hal1, ?_, ?_, ?_⟩
                  · simp [-getElem?_pos, List.getElem?_append_left, List.getElem?_append_right, List.getElem?_set_ne, list_set_at, List.getElem?_cons_zero, List.getElem?_cons_succ, (show m < τ1.length by omega), (show σ.length ≠ m by omega), (show σ.length + 1 ≠ m by omega)]
                    exact (q3 m (by omega)).trans (hall m hm)
                  · simp [-getElem?_pos, List.getElem?_append_left, List.getElem?_append_right, List.getElem?_set_ne, list_set_at, List.getElem?_cons_zero, List.getElem?_cons_succ, j0, j1, dp, dm]
                  · simp [-getElem?_pos, List.getElem?_append_left, List.getElem?_append_right, List.getElem?_set_ne, list_set_at, List.getElem?_cons_zero, List.getElem?_cons_succ, j0, j1, dp, dm]
                  · refine hO1.keep fun m o hm ho => ?_
                    have hml := (List.getElem?_eq_some_iff.1 ho).1
                    simp [-getElem?_pos, List.getElem?_append_left, List.getElem?_append_right, List.getElem?_set_ne, list_set_at, List.getElem?_cons_zero, List.getElem?_cons_succ, hml, (show σ.length ≠ m by omega), (show σ.length + 1 ≠ m by omega)]
                    exact ho
            · by_cases hm : memB a.name s.all = true
              · have hadd : addB s.all a.name = s.all := by unfold addB; rw [if_pos hm]
                rw [hadd] at hal1
                rw [step2 hk, hadd] at hgo ⊢
                simp [h2, h12, h13, h14, hlt, hw, setRun, e1, hk, hav, e0, hcon, cp, cm, i0, i1, hbs, hbs1, hargs, hwa, ix, iy, hm, -appendA_s, -getElem?_pos, List.getElem?_append_left, List.getElem?_append_right, List.getElem?_set_ne, list_set_at, List.getElem?_cons_zero, List.getElem?_cons_succ]
                refine ⟨by simp [h2], by simp [h12], by simp [h13], by simp, by simp; omega, fun m hm => ?_, _, x, hgo, by simp only; omega, hal1, ?_, ?_, ?_⟩
                · simp [-getElem?_pos, List.getElem?_append_left, List.getElem?_append_right, List.getElem?_set_ne, list_set_at, List.getElem?_cons_zero, List.getElem?_cons_succ, (show m < τ.length by omega), (show σ.length ≠ m by omega), (show σ.length + 1 ≠ m by omega)]
                  exact hall m hm
                · simp [-getElem?_pos, List.getElem?_append_left, List.getElem?_append_right, List.getElem?_set_ne, list_set_at, List.getElem?_cons_zero, List.getElem?_cons_succ, i0, i1, cp, cm]
                · simp [-getElem?_pos, List.getElem?_append_left, List.getElem?_append_right, List.getElem?_set_ne, list_set_at, List.getElem?_cons_zero, List.getElem?_cons_succ, i0, i1, cp, cm]
                · refine hO.keep fun m o hm ho => ?_
                  have hml := (List.getElem?_eq_some_iff.1 ho).1
                  simp [-getElem?_pos, List.getElem?_append_left, List.getElem?_append_right, List.getElem?_set_ne, list_set_at, List.getElem?_cons_zero, List.getElem?_cons_succ, hml, (show σ.length ≠ m by omega), (show σ.length + 1 ≠ m by omega)]
                  exact ho
              · have hm' : memB a.name s.all = false := by simpa using hm
                have hadd : addB s.all a.name = s.all ++ [a.name] := by unfold addB; rw [if_neg hm]
                simp [h2, h12, h13, h14, hlt, hw, setRun, e1, hk, hav, e0, hcon, cp, cm, i0, i1, hbs, hbs1, hargs, hwa, ix, iy, hm', -appendA_s, -getElem?_pos, List.getElem?_append_left, List.getElem?_append_right, List.getElem?_set_ne, list_set_at, List.getElem?_cons_zero, List.getElem?_cons_succ]
                refine stW_s3 (N := σ.length + 2) hO rfl rfl rfl (by omega) hN (by simp; omega) fun x1 τ1 hO1 l1 q3 q4 => ?_
                have np1 : σ.length ≠ τ.length := by omega
                have np2 : σ.length ≠ τ.length + 1 := by omega
                have np3 : σ.length + 1 ≠ τ.length := by omega
                have np4 : σ.length + 1 ≠ τ.length + 1 := by omega
                have j0 : σ.length < τ1.length := by omega
                have j1 : σ.length + 1 < τ1.length := by omega
                have ix1 : x1.cells = [x1] := hO1.cells
                have iy1 : x1.solid = true := hO1.solid
                have dp : τ1[σ.length]? = _ := (q3 _ (by omega)).trans cp
                have dm : τ1[σ.length + 1]? = _ := (q3 _ (by omega)).trans cm
                have dl : τ1[τ.length]? = some (.cells [.int .i64 2, .str l.name, .isl (a.enc :: GT.encs rest) false] 0 false) := q4 τ.length _ (by simp) (fun _ _ e => by cases e)
                have da : τ1[τ.length + 1]? = some (.cells [.int .i64 1, .str a.name, .int .i64 a.value.kind, .int .i64 a.value.num, .str a.value.text, .isl (GV.encs a.value.items) false, .isl (GT.encs a.args) false] 0 false) := q4 (τ.length + 1) _ (by simp) (fun _ _ e => by cases e)
                rw [show s.all.map AV.str ++ [.str a.name] = (addB s.all a.name).map .str by rw [hadd, List.map_append]; rfl] at hO1
                rw [step2 hk] at hgo ⊢
                simp [h2, h12, h13, h14, hlt, hw, setRun, hk, dp, dm, dl, da, j0, j1, np1, np2, np3, np4, hbs, hbs1, ix1, iy1, -appendA_s, -getElem?_pos, List.getElem?_append_left, List.getElem?_append_right, List.getElem?_set_ne, list_set_at, List.getElem?_cons_zero, List.getElem?_cons_succ]
                refine ⟨by simp [h2], by simp [h12], by simp [h13], by simp, by simp; omega, fun m hm => ?_, _, x1, hgo, by simp only; omega, hal1, ?_, ?_, ?_⟩
                · simp [-getElem?_pos, List.getElem?_append_left, List.getElem?_append_right, List.getElem?_set_ne, list_set_at, List.getElem?_cons_zero, List.getElem?_cons_succ, (show m < τ1.length by omega), (show σ.length ≠ m by omega), (show σ.length + 1 ≠ m by omega)]
                  exact (q3 m (by omega)).trans (hall m hm)
                · simp [-getElem?_pos, List.getElem?_append_left, List.getElem?_append_right, List.getElem?_set_ne, list_set_at, List.getElem?_cons_zero, List.getElem?_cons_succ, j0, j1, dp, dm]
                · simp [-getElem?_pos, List.getElem?_append_left, List.getElem?_append_right, List.getElem?_set_ne, list_set_at, List.getElem?_cons_zero, List.getElem?_cons_succ, j0, j1, dp, dm]
                · refine hO1.keep fun m o hm ho => ?_
                  have hml := (List.getElem?_eq_some_iff.1 ho).1
                  simp [-getElem?_pos, List.getElem?_append_left, List.getElem?_append_right, List.getElem?_set_ne, list_set_at, List.getElem?_cons_zero, List.getElem?_cons_succ, hml, (show σ.length ≠ m by omega), (show σ.length + 1 ≠ m by omega)]
                  exact ho
          · simp only [if_neg hav] at hgo ⊢
            rcases hk with hk | hk <;> simp [h2, h12, h13, h14, hlt, hw, setRun, e1, hk, hav, e0, hargs, cp, cm, i0, i1, hbs, hbs1, ix, iy, -getElem?_pos, List.getElem?_append_left, List.getElem?_append_right, List.getElem?_set_ne, list_set_at, List.getElem?_cons_zero, List.getElem?_cons_succ]
            all_goals
              refine ⟨by simp; omega, fun m hm => ?_, x, _, rfl, ix, iy⟩
              have hm1 : m < τ.length := by omega
              simp [-getElem?_pos, List.getElem?_append_left, List.getElem?_append_right, List.getElem?_set_ne, list_set_at, List.getElem?_cons_zero, List.getElem?_cons_succ, hm1, (show σ.length ≠ m by omega)]
              exact hall m hm
      · simp only [if_neg hk] at hgo ⊢
        have k1 : ¬ l.kind = 1 := fun e => hk (.inl e)
        have k2 : ¬ l.kind = 2 := fun e => hk (.inr e)
        simp [h2, h12, h13, h14, hlt, hw, k1, k2, setRun, e1, i0, i1, -getElem?_pos, List.getElem?_append_left, List.getElem?_append_right, List.getElem?_set_ne, list_set_at, List.getElem?_cons_zero, List.getElem?_cons_succ]
        refine ⟨by simp [h2], by simp [h12], by simp [h13], by simp, by simp; omega, fun m hm => ?_, s, x, hgo, by omega, by omega, ?_, ?_, ?_⟩
        · rw [List.getElem?_append_left (by omega)]; exact hall m hm
        · rw [List.getElem?_append_left (by omega)]; exact cp
        · rw [List.getElem?_append_left (by omega)]; exact cm
        · exact hO.keep fun m o _ ho => by rw [List.getElem?_append_left (List.getElem?_eq_some_iff.1 ho).1]; exact ho
    · have he : i = body.length := by omega
      subst he
      rw [List.drop_length]
      simp [h2, h12, h13, h14, cp, i0, hbs, ix, iy, setRun, readGo, -getElem?_pos, List.getElem?_append_left, List.getElem?_append_right, List.getElem?_set_ne, list_set_at, List.getElem?_cons_zero, List.getElem?_cons_succ]
      have hfr : ∀ o m, m < σ.length → (τ.set σ.length o)[m]? = σ[m]? := fun o m hm => by rw [List.getElem?_set_ne (by omega)]; exact hall m hm
      have hOk : ∀ o, LO (σ.length + 2) 1 false (τ.set σ.length o) (s.all.map .str) x := fun o => hO.keep fun m q hm ho => by rw [List.getElem?_set_ne (by omega)]; exact ho
      have hmk : ∀ o, (τ.set σ.length o)[σ.length + 1]? = some (.mp (encW s.links)) := fun o => by rw [List.getElem?_set_ne (by omega)]; exact cm
      refine ⟨fun h0 => ⟨by simp; omega, hfr _, x, by simp [h0], hOk _, hmk _⟩, fun h0 => ⟨by simp; omega, hfr _, x, by simp [h0], hOk _, hmk _⟩⟩
  · refine ⟨by simp, by simp, by simp, by simp, by simp, fun m hm => ?_, ⟨[], [], 0⟩, .isl [] true, rfl, Nat.le_refl _, Nat.le_refl _, ?_, ?_, .inl ⟨rfl, rfl⟩⟩
    · rw [List.getElem?_append_left hm]
    · simp
    · simp [encW]
end Go.Proofs.YtjfgjnlocadpbaaGreatDoor
end
section
set_option maxRecDepth 100000
namespace Go.Proofs.YtjfgjnlocadpbaaGreatDoor
open Go.Mach
theorem text_empty (r : GR) : textRule r = nilB ↔ ¬ ruleB r = true := by
  unfold textRule
  split
  · rename_i h
    constructor
    · intro e
      exfalso
      have h1 : (S (shRule r)).data.toList = nilB.data.toList := by rw [e]
      have h2 : (S (shRule r)).data.toList = shRule r := by simp [S]
      rw [h2] at h1
      unfold shRule at h1
      simp at h1
    · exact fun e => absurd h e
  · rename_i h
    exact ⟨fun _ => h, fun _ => rfl⟩
theorem lit_args {l : GL} (h : litB l = true) (hk : l.kind = 1 ∨ l.kind = 2) : l.args ≠ [] := by
  obtain ⟨⟨t, ht⟩, _⟩ := lit_names h hk
  intro e; rw [e] at ht; cases ht
def resPl (o : Option GPl) : AV := .tup [(o.getD nilPl).enc, .bool o.isSome]
set_option maxHeartbeats 4000000 in
theorem place7 (r : GR) (hs : r.size ≤ 100000000) : pureT T c10 [r.enc] = some (resPl (placeP r)) := by
  have hsay := sayRule r (by omega)
  have hte := text_empty r
  have hbl := GR.body_len r
  simp only [GR.enc_eq] at hsay
  apply pure_enter (by simp [c10])
  by_cases hb : ruleB r = true
  · have ht : ¬ textRule r = nilB := fun e => hte.1 e hb
    have hlit : ∀ l ∈ r.body, litB l = true := by
      unfold ruleB at hb
      simp only [Bool.and_eq_true] at hb
      exact List.all_eq_true.1 hb.1.2
    have hargs : ∃ a rest, r.args = a :: rest := by
      unfold ruleB argsB at hb
      simp only [Bool.and_eq_true, decide_eq_true_eq] at hb
      cases h : r.args with
      | nil => rw [h] at hb; simp at hb
      | cons a rest => exact ⟨a, rest, rfl⟩
    obtain ⟨a, rest, har⟩ := hargs
    have e0 : GT.encs (a :: rest) = a.enc :: GT.encs rest := rfl
    rw [har, e0] at hsay
    by_cases hh : r.head = sLink
    · have hp : placeP r = none := by unfold placeP; rw [if_neg (fun h => h.2.1 hh)]
      rw [hp]
      simp [c10, har, e0, hsay, ht, eq_true hh, setRun, resPl, nilPl, GPl.enc]
    · by_cases hk : a.kind = 1
      · have hc : ruleB r = true ∧ r.head ≠ sLink ∧ headK r = 1 := ⟨hb, hh, by unfold headK; rw [har]; simp [hk]⟩
        have hn : headN r = a.name := by unfold headN; rw [har]; rfl
        obtain ⟨⟨v, σ1⟩, hcall, hl1, hfr, hq⟩ := read7 r.body (fun l hl hk => lit_args (hlit l hl) hk) (by omega) 0 [.cells [.str r.label, .str r.head, .isl (a.enc :: GT.encs rest) false, .str r.agg, .int .i64 r.pos, .isl (r.body.map GL.enc) false] 0 false, .cells [.str nilB, .str nilB, .str nilB] 0 false] (by omega)
        simp at hl1
        simp only at hfr hq
        have f0 : σ1[0]? = some (.cells [.str r.label, .str r.head, .isl (a.enc :: GT.encs rest) false, .str r.agg, .int .i64 r.pos, .isl (r.body.map GL.enc) false] 0 false) := by rw [hfr 0 (by simp)]; rfl
        have f1 : σ1[1]? = some (.cells [.str nilB, .str nilB, .str nilB] 0 false) := by rw [hfr 1 (by simp)]; rfl
        have n0 : 0 < σ1.length := by omega
        have n1 : 1 < σ1.length := by omega
        cases hg : readGo r.body 0 ⟨[], [], 0⟩ with
        | none =>
          have hp : placeP r = none := by unfold placeP readP; rw [if_pos hc, hg]
          rw [hp]
          rw [hg] at hq
          obtain ⟨x, n, hv, hx1, hx2⟩ := hq
          subst hv
          simp [c10, hsay, ht, hh, hk, har, e0, hcall, setRun, resPl, nilPl, GPl.enc, hx1, hx2, -getElem?_pos, List.getElem?_append_left, List.getElem?_append_right, List.getElem?_set_ne, list_set_at, List.getElem?_cons_zero, List.getElem?_cons_succ, n0, n1, f0, f1]
          done
        | some s =>
          rw [hg] at hq
          obtain ⟨x, hv, hO, hm⟩ := hq
          subst hv
          have n3 : 3 < σ1.length := by omega
          have hm3 : σ1[3]? = some (.mp (encW s.links)) := hm
          have hm4 : ∀ o : AObj, (σ1 ++ [o])[3]? = some (.mp (encW s.links)) := fun o => by rw [List.getElem?_append_left n3]; exact hm3
          by_cases hat : 0 < s.atoms
          · have hrp : readP r.body = some s := by unfold readP; rw [hg]; simp only [if_pos hat]
            have hpl : placeP r = match placeQ s a.name with
                | none => none
                | some p => if aggOk r p = true then some p else none := by unfold placeP; rw [if_pos hc, hrp, hn] <;> rfl
            rcases hO with ⟨hnil, rfl⟩ | ⟨j, rfl, _, _, _⟩
            · have hall : s.all = [] := by simpa using hnil
              have hq0 : placeQ s a.name = none := by unfold placeQ; rw [hall]
              rw [hq0] at hpl
              rw [hpl]
              simp [c10, hsay, ht, hh, hk, har, e0, hcall, setRun, n0, n1, f0, f1, -getElem?_pos, List.getElem?_append_left, List.getElem?_append_right, List.getElem?_set_ne, list_set_at, List.getElem?_cons_zero, List.getElem?_cons_succ, hat, resPl, nilPl, GPl.enc]
            · match hall : s.all with
              | [] =>
                have hq0 : placeQ s a.name = none := by unfold placeQ; rw [hall]
                rw [hq0] at hpl
                rw [hpl]
                simp [c10, hsay, ht, hh, hk, har, e0, hcall, setRun, n0, n1, f0, f1, -getElem?_pos, List.getElem?_append_left, List.getElem?_append_right, List.getElem?_set_ne, list_set_at, List.getElem?_cons_zero, List.getElem?_cons_succ, hat, hall, resPl, nilPl, GPl.enc]
              | [b] =>
                have hone := fun o bs => one7 (hm4 o) j b a.name (s.atoms : Int) bs
                simp only [plA, List.map_cons, List.map_nil] at hone
                have hq0 : placeQ s a.name = oneP s b a.name := by unfold placeQ; rw [hall]
                rw [hq0] at hpl
                unfold oneP at hpl
                by_cases hok : a.name = b ∨ (lookW s.links b a.name).isSome = true
                · rw [if_pos hok] at hpl
                  have hok' : (decide (a.name = b) || (lookW s.links b a.name).isSome) = true := by simpa using hok
                  rw [hok'] at hone
                  by_cases hag : r.agg = nilB
                  · have hpl2 : placeP r = some ⟨b, nilB, a.name⟩ := by rw [hpl]; simp [aggOk, hag]
                    rw [hpl2]
                    simp [c10, hsay, ht, hh, hk, har, e0, hcall, setRun, n0, n1, f0, f1, -getElem?_pos, List.getElem?_append_left, List.getElem?_append_right, List.getElem?_set_ne, list_set_at, List.getElem?_cons_zero, List.getElem?_cons_succ, hat, hall, hone, eq_true hag, resPl, GPl.enc]
                    done
                  · by_cases hhb : a.name = b
                    · have hpl2 : placeP r = some ⟨b, nilB, a.name⟩ := by rw [hpl]; simp [aggOk, hag, hhb]
                      rw [hpl2]
                      simp [c10, hsay, ht, hh, hk, har, e0, hcall, setRun, n0, n1, f0, f1, -getElem?_pos, List.getElem?_append_left, List.getElem?_append_right, List.getElem?_set_ne, list_set_at, List.getElem?_cons_zero, List.getElem?_cons_succ, hat, hall, hone, hag, eq_true hhb, resPl, GPl.enc]
                      done
                    · have hpl2 : placeP r = none := by rw [hpl]; simp [aggOk, hag, hhb]
                      rw [hpl2]
                      simp [c10, hsay, ht, hh, hk, har, e0, hcall, setRun, n0, n1, f0, f1, -getElem?_pos, List.getElem?_append_left, List.getElem?_append_right, List.getElem?_set_ne, list_set_at, List.getElem?_cons_zero, List.getElem?_cons_succ, hat, hall, hone, hag, hhb, resPl, nilPl, GPl.enc]
                      done
                · rw [if_neg hok] at hpl
                  have hok' : (decide (a.name = b) || (lookW s.links b a.name).isSome) = false := by
                    cases h : (decide (a.name = b) || (lookW s.links b a.name).isSome) with
                    | false => rfl
                    | true => exact absurd (by simpa using h) hok
                  rw [hok'] at hone
                  rw [hpl]
                  simp [c10, hsay, ht, hh, hk, har, e0, hcall, setRun, n0, n1, f0, f1, -getElem?_pos, List.getElem?_append_left, List.getElem?_append_right, List.getElem?_set_ne, list_set_at, List.getElem?_cons_zero, List.getElem?_cons_succ, hat, hall, hone, resPl, nilPl, GPl.enc]
                  done
              | [b, c] =>
                have hne := names_ne hb hrp
                have htw := fun o bs => two7 (hm4 o) j b c a.name (s.atoms : Int) bs
                simp only [plA, List.map_cons, List.map_nil] at htw
                have hq0 : placeQ s a.name = twoP s b c a.name := by unfold placeQ; rw [hall]
                rw [hq0] at hpl
                unfold twoP at hpl
                cases e1 : lookW s.links b c with
                | none =>
                  cases e2 : lookW s.links c b with
                  | none =>
                    rw [e1, e2] at hpl
                    simp only [e1, e2] at htw
                    rw [hpl]
                    simp [c10, hsay, ht, hh, hk, har, e0, hcall, setRun, n0, n1, f0, f1, -getElem?_pos, List.getElem?_append_left, List.getElem?_append_right, List.getElem?_set_ne, list_set_at, List.getElem?_cons_zero, List.getElem?_cons_succ, hat, hall, htw, resPl, nilPl, GPl.enc]
                  | some q =>
                    rw [e1, e2] at hpl
                    simp only [e1, e2] at htw
                    simp only at hpl
                    have hnt : ¬ b = nilB := hne b (by rw [hall]; simp)
                    by_cases hmem : a.name = b ∨ a.name = c
                    · have hmb : memB a.name [b, c] = true := by unfold memB; simpa using hmem
                      rw [hmb] at htw
                      rw [if_pos hmem] at hpl
                      by_cases hag : r.agg = nilB
                      · have hpl2 : placeP r = some ⟨c, b, a.name⟩ := by rw [hpl]; simp [aggOk, hag]
                        rw [hpl2]
                        simp [c10, hsay, ht, hh, hk, har, e0, hcall, setRun, n0, n1, f0, f1, -getElem?_pos, List.getElem?_append_left, List.getElem?_append_right, List.getElem?_set_ne, list_set_at, List.getElem?_cons_zero, List.getElem?_cons_succ, hat, hall, htw, eq_true hag, resPl, GPl.enc]
                      · have hpl2 : placeP r = none := by rw [hpl]; simp [aggOk, hag, hnt]
                        rw [hpl2]
                        simp [c10, hsay, ht, hh, hk, har, e0, hcall, setRun, n0, n1, f0, f1, -getElem?_pos, List.getElem?_append_left, List.getElem?_append_right, List.getElem?_set_ne, list_set_at, List.getElem?_cons_zero, List.getElem?_cons_succ, hat, hall, htw, hag, hnt, resPl, nilPl, GPl.enc]
                    · have hmb : memB a.name [b, c] = false := by
                        cases h : memB a.name [b, c] with
                        | false => rfl
                        | true => exact absurd (by unfold memB at h; simpa using h) hmem
                      rw [hmb] at htw
                      rw [if_neg hmem] at hpl
                      rw [hpl]
                      simp [c10, hsay, ht, hh, hk, har, e0, hcall, setRun, n0, n1, f0, f1, -getElem?_pos, List.getElem?_append_left, List.getElem?_append_right, List.getElem?_set_ne, list_set_at, List.getElem?_cons_zero, List.getElem?_cons_succ, hat, hall, htw, resPl, nilPl, GPl.enc]
                | some i =>
                  cases e2 : lookW s.links c b with
                  | none =>
                    rw [e1, e2] at hpl
                    simp only [e1, e2] at htw
                    simp only at hpl
                    have hnt : ¬ c = nilB := hne c (by rw [hall]; simp)
                    by_cases hmem : a.name = b ∨ a.name = c
                    · have hmb : memB a.name [b, c] = true := by unfold memB; simpa using hmem
                      rw [hmb] at htw
                      rw [if_pos hmem] at hpl
                      by_cases hag : r.agg = nilB
                      · have hpl2 : placeP r = some ⟨b, c, a.name⟩ := by rw [hpl]; simp [aggOk, hag]
                        rw [hpl2]
                        simp [c10, hsay, ht, hh, hk, har, e0, hcall, setRun, n0, n1, f0, f1, -getElem?_pos, List.getElem?_append_left, List.getElem?_append_right, List.getElem?_set_ne, list_set_at, List.getElem?_cons_zero, List.getElem?_cons_succ, hat, hall, htw, eq_true hag, resPl, GPl.enc]
                      · have hpl2 : placeP r = none := by rw [hpl]; simp [aggOk, hag, hnt]
                        rw [hpl2]
                        simp [c10, hsay, ht, hh, hk, har, e0, hcall, setRun, n0, n1, f0, f1, -getElem?_pos, List.getElem?_append_left, List.getElem?_append_right, List.getElem?_set_ne, list_set_at, List.getElem?_cons_zero, List.getElem?_cons_succ, hat, hall, htw, hag, hnt, resPl, nilPl, GPl.enc]
                    · have hmb : memB a.name [b, c] = false := by
                        cases h : memB a.name [b, c] with
                        | false => rfl
                        | true => exact absurd (by unfold memB at h; simpa using h) hmem
                      rw [hmb] at htw
                      rw [if_neg hmem] at hpl
                      rw [hpl]
                      simp [c10, hsay, ht, hh, hk, har, e0, hcall, setRun, n0, n1, f0, f1, -getElem?_pos, List.getElem?_append_left, List.getElem?_append_right, List.getElem?_set_ne, list_set_at, List.getElem?_cons_zero, List.getElem?_cons_succ, hat, hall, htw, resPl, nilPl, GPl.enc]
                  | some q =>
                    rw [e1, e2] at hpl
                    simp only [e1, e2] at htw
                    simp only at hpl
                    by_cases hqi : q < i
                    · simp only [if_pos hqi] at htw hpl
                      have hnt : ¬ b = nilB := hne b (by rw [hall]; simp)
                      by_cases hmem : a.name = b ∨ a.name = c
                      · have hmb : memB a.name [b, c] = true := by unfold memB; simpa using hmem
                        rw [hmb] at htw
                        rw [if_pos hmem] at hpl
                        by_cases hag : r.agg = nilB
                        · have hpl2 : placeP r = some ⟨c, b, a.name⟩ := by rw [hpl]; simp [aggOk, hag]
                          rw [hpl2]
                          simp [c10, hsay, ht, hh, hk, har, e0, hcall, setRun, n0, n1, f0, f1, -getElem?_pos, List.getElem?_append_left, List.getElem?_append_right, List.getElem?_set_ne, list_set_at, List.getElem?_cons_zero, List.getElem?_cons_succ, hat, hall, htw, eq_true hag, resPl, GPl.enc]
                        · have hpl2 : placeP r = none := by rw [hpl]; simp [aggOk, hag, hnt]
                          rw [hpl2]
                          simp [c10, hsay, ht, hh, hk, har, e0, hcall, setRun, n0, n1, f0, f1, -getElem?_pos, List.getElem?_append_left, List.getElem?_append_right, List.getElem?_set_ne, list_set_at, List.getElem?_cons_zero, List.getElem?_cons_succ, hat, hall, htw, hag, hnt, resPl, nilPl, GPl.enc]
                      · have hmb : memB a.name [b, c] = false := by
                          cases h : memB a.name [b, c] with
                          | false => rfl
                          | true => exact absurd (by unfold memB at h; simpa using h) hmem
                        rw [hmb] at htw
                        rw [if_neg hmem] at hpl
                        rw [hpl]
                        simp [c10, hsay, ht, hh, hk, har, e0, hcall, setRun, n0, n1, f0, f1, -getElem?_pos, List.getElem?_append_left, List.getElem?_append_right, List.getElem?_set_ne, list_set_at, List.getElem?_cons_zero, List.getElem?_cons_succ, hat, hall, htw, resPl, nilPl, GPl.enc]
                    · simp only [if_neg hqi] at htw hpl
                      have hnt : ¬ c = nilB := hne c (by rw [hall]; simp)
                      by_cases hmem : a.name = b ∨ a.name = c
                      · have hmb : memB a.name [b, c] = true := by unfold memB; simpa using hmem
                        rw [hmb] at htw
                        rw [if_pos hmem] at hpl
                        by_cases hag : r.agg = nilB
                        · have hpl2 : placeP r = some ⟨b, c, a.name⟩ := by rw [hpl]; simp [aggOk, hag]
                          rw [hpl2]
                          simp [c10, hsay, ht, hh, hk, har, e0, hcall, setRun, n0, n1, f0, f1, -getElem?_pos, List.getElem?_append_left, List.getElem?_append_right, List.getElem?_set_ne, list_set_at, List.getElem?_cons_zero, List.getElem?_cons_succ, hat, hall, htw, eq_true hag, resPl, GPl.enc]
                        · have hpl2 : placeP r = none := by rw [hpl]; simp [aggOk, hag, hnt]
                          rw [hpl2]
                          simp [c10, hsay, ht, hh, hk, har, e0, hcall, setRun, n0, n1, f0, f1, -getElem?_pos, List.getElem?_append_left, List.getElem?_append_right, List.getElem?_set_ne, list_set_at, List.getElem?_cons_zero, List.getElem?_cons_succ, hat, hall, htw, hag, hnt, resPl, nilPl, GPl.enc]
                      · have hmb : memB a.name [b, c] = false := by
                          cases h : memB a.name [b, c] with
                          | false => rfl
                          | true => exact absurd (by unfold memB at h; simpa using h) hmem
                        rw [hmb] at htw
                        rw [if_neg hmem] at hpl
                        rw [hpl]
                        simp [c10, hsay, ht, hh, hk, har, e0, hcall, setRun, n0, n1, f0, f1, -getElem?_pos, List.getElem?_append_left, List.getElem?_append_right, List.getElem?_set_ne, list_set_at, List.getElem?_cons_zero, List.getElem?_cons_succ, hat, hall, htw, resPl, nilPl, GPl.enc]
              | b :: c :: d :: rest2 =>
                have hq0 : placeQ s a.name = none := by unfold placeQ; rw [hall]
                rw [hq0] at hpl
                rw [hpl]
                have l1 : ¬ ((rest2.length : Int) + 1 + 1 + 1 = 1) := by omega
                have l2 : ¬ ((rest2.length : Int) + 1 + 1 + 1 = 2) := by omega
                simp [c10, hsay, ht, hh, hk, har, e0, hcall, setRun, n0, n1, f0, f1, -getElem?_pos, List.getElem?_append_left, List.getElem?_append_right, List.getElem?_set_ne, list_set_at, List.getElem?_cons_zero, List.getElem?_cons_succ, hat, hall, l1, l2, resPl, nilPl, GPl.enc]
                done
          · have hrp : readP r.body = none := by unfold readP; rw [hg]; simp only [if_neg hat]
            have hpl : placeP r = none := by unfold placeP; rw [if_pos hc, hrp]
            rw [hpl]
            simp [c10, hsay, ht, hh, hk, har, e0, hcall, setRun, n0, n1, f0, f1, -getElem?_pos, List.getElem?_append_left, List.getElem?_append_right, List.getElem?_set_ne, list_set_at, List.getElem?_cons_zero, List.getElem?_cons_succ, hat, hO.solid, hO.cells, resPl, nilPl, GPl.enc]
      · have hp : placeP r = none := by unfold placeP; rw [if_neg (fun h => hk (by have := h.2.2; unfold headK at this; rw [har] at this; simpa using this))]
        rw [hp]
        simp [c10, hsay, ht, hh, hk, har, e0, setRun, resPl, nilPl, GPl.enc]
  · have ht : textRule r = nilB := hte.2 hb
    have hp : placeP r = none := by unfold placeP; rw [if_neg (fun h => hb h.1)]
    rw [hp]
    simp [c10, hsay, ht, setRun, resPl, nilPl, GPl.enc]
end Go.Proofs.YtjfgjnlocadpbaaGreatDoor
end
section
set_option maxRecDepth 100000
namespace Go.Proofs.YtjfgjnlocadpbaaGreatDoor
open Go.Mach
theorem callPlace (r : GR) (hs : r.size ≤ 100000000) (bs : Nat) (σ : Heap) : callT T 10 [r.enc] bs σ = some (resPl (placeP r), σ) := call_clean rfl rfl rfl (by simp) (place7 r hs)
theorem awake7_eval : evalFn T 300 8 [] 0 [] = some (.bool true, []) := by kernel_rfl
theorem awake7_ok : pureT T c8 [] = some (.bool true) := pureT_of_call rfl rfl rfl rfl (callT_of_eval awake7_eval)
theorem callAwake7 (bs : Nat) (σ : Heap) : callT T 8 [] bs σ = some (.bool true, σ) := call_clean rfl rfl rfl rfl awake7_ok
theorem linked7 (body : List GL) (a b : ByteArray) (hb : body.length ≤ 100000000) : pureT T c12 [.isl (body.map GL.enc) false, .str a, .str b] = some (.bool (linkedB body a b)) := by
  apply pure_enter (by simp [c12])
  simp [c12]
  refine W_for T 0 59 body.length (fun i f σ => f 0 = .isl (body.map GL.enc) false ∧ f 1 = .str a ∧ f 2 = .str b ∧ f 7 = .int .i64 (i : Int) ∧ linkedB body a b = linkedB (body.drop i) a b) ?_ _ _ ?_
  · rintro i f σ hi ⟨h0, h1, h2, h7, hg⟩
    by_cases hlt : i < body.length
    · have hw : IntKind.i64.wrap ((i : Int) + 1) = (i : Int) + 1 := wr64 (by omega) (by omega)
      have e1 : body[i]? = some body[i] := List.getElem?_eq_getElem hlt
      rw [List.drop_eq_getElem_cons hlt] at hg
      have hc : linkedB (body[i] :: body.drop (i + 1)) a b = (link1 a b body[i] || linkedB (body.drop (i + 1)) a b) := rfl
      rw [hc] at hg
      by_cases hl : link1 a b body[i] = true
      · rw [hl, Bool.true_or] at hg
        have hl' := hl
        unfold link1 at hl
        simp only [Bool.and_eq_true, decide_eq_true_eq] at hl
        obtain ⟨⟨⟨⟨⟨k1, k2⟩, k3⟩, k4⟩, k5⟩, k6⟩ := hl
        match hargs : body[i].args with
        | [] => rw [hargs] at k3; simp at k3
        | [x] => rw [hargs] at k3; simp at k3
        | x :: y :: rest =>
          rw [hargs] at k4 k5 k6
          simp at k4 k5 k6
          have e3 : GT.encs (x :: y :: rest) = x.enc :: y.enc :: GT.encs rest := rfl
          have hl2 : (1 : Int) < (rest.length : Int) + 1 + 1 := by omega
          simp [h0, h1, h2, h7, hlt, e1, setRun, k1, k2, hargs, e3, hl2, k4, k5, k6, hg]
      · have hl' : link1 a b body[i] = false := by simpa using hl
        rw [hl', Bool.false_or] at hg
        have fin : ∀ P : Prop, P → True := fun _ _ => trivial
        by_cases k1 : body[i].kind = 1
        · by_cases k2 : body[i].name = sLink
          · match hargs : body[i].args with
            | [] => simp [h0, h1, h2, h7, hlt, e1, setRun, k1, k2, hargs, hw, hg]
            | [x] => simp [h0, h1, h2, h7, hlt, e1, setRun, k1, k2, hargs, hw, hg]
            | x :: y :: rest =>
              have e3 : GT.encs (x :: y :: rest) = x.enc :: y.enc :: GT.encs rest := rfl
              have hl2 : (1 : Int) < (rest.length : Int) + 1 + 1 := by omega
              by_cases k4 : x.name = a
              · by_cases k5 : y.kind = 1
                · by_cases k6 : y.name = b
                  · exfalso
                    apply hl
                    unfold link1
                    rw [hargs]
                    simp [k1, k2, k4, k5, k6]
                  · simp [h0, h1, h2, h7, hlt, e1, setRun, k1, k2, hargs, e3, hl2, k4, k5, k6, hw, hg]
                · simp [h0, h1, h2, h7, hlt, e1, setRun, k1, k2, hargs, e3, hl2, k4, k5, hw, hg]
              · simp [h0, h1, h2, h7, hlt, e1, setRun, k1, k2, hargs, e3, hl2, k4, hw, hg]
          · simp [h0, h1, h2, h7, hlt, e1, setRun, k1, k2, hw, hg]
        · simp [h0, h1, h2, h7, hlt, e1, setRun, k1, hw, hg]
    · have he : i = body.length := by omega
      subst he
      rw [List.drop_length] at hg
      have hg' : linkedB body a b = false := hg
      simp [h0, h1, h2, h7, hg']
  · simp
theorem callLinked (body : List GL) (a b : ByteArray) (hb : body.length ≤ 100000000) (bs : Nat) (σ : Heap) : callT T 12 [.isl (body.map GL.enc) false, .str a, .str b] bs σ = some (.bool (sym (linkedB body a b)), σ) := call_clean rfl rfl rfl (by simp) (linked7 body a b hb)
theorem at7 (l : GL) (p : GPl) : pureT T c11 [l.enc, p.enc] = some (.bool (atB p l)) := by
  apply pure_enter (by simp [c11])
  match hargs : l.args with
  | [] =>
    have : atB p l = false := by unfold atB; rw [hargs]; rfl
    rw [this]
    simp [c11, hargs, GPl.enc, GL.enc_eq]
  | x :: rest =>
    have e3 : GT.encs (x :: rest) = x.enc :: GT.encs rest := rfl
    have h0 : (0 : Int) < (rest.length : Int) + 1 := by omega
    have ha : atB p l = (decide (x.kind = 1) && (decide (x.name = p.from') || (decide (p.to ≠ nilB) && decide (x.name = p.to)))) := by unfold atB; rw [hargs]; simp
    rw [ha]
    by_cases k1 : x.kind = 1
    · by_cases k2 : x.name = p.from'
      · simp [c11, hargs, GPl.enc, GL.enc_eq, e3, h0, k1, k2]
      · by_cases k3 : p.to = nilB
        · simp [c11, hargs, GPl.enc, GL.enc_eq, e3, h0, k1, k2, k3]
        · by_cases k4 : x.name = p.to
          · simp [c11, hargs, GPl.enc, GL.enc_eq, e3, h0, k1, k2, k3, k4]
          · simp [c11, hargs, GPl.enc, GL.enc_eq, e3, h0, k1, k2, k3, k4]
    · simp [c11, hargs, GPl.enc, GL.enc_eq, e3, h0, k1]
end Go.Proofs.YtjfgjnlocadpbaaGreatDoor
end
section
set_option maxRecDepth 100000
namespace Go.Proofs.YtjfgjnlocadpbaaGreatDoor
open Go.Mach
theorem callAt (l : GL) (p : GPl) (bs : Nat) (σ : Heap) : callT T 11 [l.enc, p.enc] bs σ = some (.bool (sym (atB p l)), σ) := call_clean rfl rfl rfl (by simp [GPl.enc]) (at7 l p)
def lostB (r : GR) : Bool := (placeP r).isNone
def checkL (p : GP) : Int × Int := if (checkP p).1 ≠ 0 then checkP p else if 0 ≤ idxG lostB p.rules then (70, idxG lostB p.rules) else (0, -1)
theorem lost7 (r : GR) (hs : r.size ≤ 100000000) : pureT T c37 [r.enc] = some (.bool (lostB r)) := by
  have hp := callPlace r hs
  apply pure_enter (by simp [c37])
  unfold lostB
  simp only [GR.enc_eq] at hp
  cases h : placeP r with
  | none => rw [h] at hp; simp [c37, hp, resPl, nilPl, GPl.enc, setRun]
  | some q => rw [h] at hp; simp [c37, hp, resPl, GPl.enc, setRun]
theorem callLost (r : GR) (hs : r.size ≤ 100000000) (bs : Nat) (σ : Heap) : callT T 37 [r.enc] bs σ = some (.bool (lostB r), σ) := call_clean rfl rfl rfl (by simp) (lost7 r hs)
theorem check7 (p : GP) (hp : p.size ≤ 1000000000) (hr : ∀ r ∈ p.rules, r.size ≤ 100000000) (hl : p.rules.length ≤ 100000000) : pureT T c16 [p.enc] = some (res2 (checkL p)) := by
  have hck := callCheck p hp
  have hi := fun σ => idxRule lostB p.rules 37 [] (by omega) σ fun x hx bs => callLost x (hr x hx) bs σ
  simp only [GP.enc_eq] at hck
  obtain ⟨⟨e, n⟩, hen⟩ : ∃ x, checkP p = x := ⟨_, rfl⟩
  rw [hen] at hck
  unfold checkL
  rw [hen]
  apply pure_enter (by simp [c16])
  by_cases h0 : e = 0
  · by_cases h1 : 0 ≤ idxG lostB p.rules
    · simp [c16, hck, hi, h0, h1, setRun, GP.enc_eq]
    · simp [c16, hck, hi, h0, h1, setRun, GP.enc_eq]
  · simp [c16, hck, hi, h0, setRun, GP.enc_eq]
theorem callCheckL (p : GP) (hp : p.size ≤ 1000000000) (hr : ∀ r ∈ p.rules, r.size ≤ 100000000) (hl : p.rules.length ≤ 100000000) (bs : Nat) (σ : Heap) : callT T 16 [p.enc] bs σ = some (res2 (checkL p), σ) := call_clean rfl rfl rfl (by simp) (check7 p hp hr hl)
theorem idx_at {l : List GR} {i : Nat} (hi : i < l.length) (h : ∀ j, (hj : j < l.length) → j < i → lostB l[j] = false) (hp : lostB l[i] = true) : idxG lostB l = (i : Int) := by
  unfold idxG; rw [idxG_drop lostB l i hi h hp]
theorem idx_none {l : List GR} (h : ∀ j, (hj : j < l.length) → lostB l[j] = false) : idxG lostB l = -1 := by
  unfold idxG
  have : l.findIdx? lostB = none := by
    rw [List.findIdx?_eq_none_iff]
    intro x hx
    obtain ⟨j, hj, rfl⟩ := List.getElem_of_mem hx
    exact h j hj
  rw [this]
set_option maxHeartbeats 1000000 in
theorem locateChecks_ok (rules : List (List GRaw)) (facts : List GRaw) (hr : RawsOk rules) (hf : FactsOk facts) : pureT T c7 [.isl (encRR rules) false, .isl (facts.map GRaw.enc) false] = some (.bool true) := by
  obtain ⟨fs, rs, h6, h12, hrs, _, hP, hC⟩ := raw_prog rules facts hr hf
  obtain ⟨hc1, hs1⟩ := hC rs (fun _ h => h) (by omega)
  have hsz : ∀ r ∈ rs, r.size ≤ 100000000 := fun r h => by
    have := rulesR_size rules r (by rw [← hrs]; exact h)
    omega
  have hck := callCheck _ hs1
  have hkl := callCheckL _ hs1 hsz (by show rs.length ≤ _; omega)
  simp only [GP.enc_eq] at hck hkl
  obtain ⟨⟨e, n⟩, hen⟩ : ∃ x, checkP (GP.mk relsD fs rs) = x := ⟨_, rfl⟩
  rw [hen] at hck
  apply pure_enter (by simp [c7])
  by_cases h0 : e = 0
  · have hL : checkL (GP.mk relsD fs rs) = if 0 ≤ idxG lostB rs then (70, idxG lostB rs) else (0, -1) := by
      unfold checkL; rw [hen, h0]; simp
    obtain ⟨⟨g, m⟩, hgm⟩ : ∃ x, checkL (GP.mk relsD fs rs) = x := ⟨_, rfl⟩
    rw [hgm] at hkl hL
    simp [c7, callAwake7, hP, setRun, hck, hkl, h0]
    refine W_for T 0 78 rs.length (fun i f σ => f 5 = .bool true ∧ f 6 = .ptr 0 0 ∧ f 9 = .int .i64 g ∧ f 10 = .int .i64 m ∧ f 11 = .int .i64 (i : Int) ∧ σ[0]? = some (.cells [.isl (relsD.map GD.enc) false, .isl (fs.map GU.enc) false, .isl (rs.map GR.enc) false] 0 false) ∧ ∀ j, (hj : j < rs.length) → j < i → lostB rs[j] = false) ?_ _ _ ?_
    · rintro i f σ hi ⟨k5, k6, k9, k10, k11, z0, hall⟩
      have i0 : 0 < σ.length := (List.getElem?_eq_some_iff.1 z0).1
      by_cases hlt : i < rs.length
      · have e1 : rs[i]? = some rs[i] := List.getElem?_eq_getElem hlt
        have hpl := callPlace rs[i] (hsz _ (List.getElem_mem hlt))
        have hw : IntKind.i64.wrap ((i : Int) + 1) = (i : Int) + 1 := wr64 (by omega) (by omega)
        cases hq : placeP rs[i] with
        | none =>
          have hlo : lostB rs[i] = true := by unfold lostB; rw [hq]; rfl
          have hix := idx_at hlt hall hlo
          rw [hix, if_pos (by omega)] at hL
          injection hL with l1 l2
          rw [hq] at hpl
          simp [k5, k6, k9, k10, k11, z0, hlt, e1, hpl, resPl, nilPl, GPl.enc, setRun, ← GR.enc_eq, l1, l2]
        | some q =>
          have hlo : lostB rs[i] = false := by unfold lostB; rw [hq]; rfl
          rw [hq] at hpl
          simp [k5, k6, k9, k10, k11, z0, hlt, e1, hpl, resPl, GPl.enc, setRun, ← GR.enc_eq, hw, i0, -getElem?_pos, List.getElem?_append_left, List.getElem?_cons_zero, List.getElem?_cons_succ]
          intro j hj hji
          by_cases ej : j = i
          · subst ej; exact hlo
          · exact hall j hj (by omega)
      · have he : i = rs.length := by omega
        rw [idx_none fun j hj => hall j hj (by omega), if_neg (by omega)] at hL
        injection hL with l1 l2
        simp [k5, k6, k9, k10, k11, z0, he, setRun, l1, l2]
    · simp
  · have hL : checkL (GP.mk relsD fs rs) = (e, n) := by
      unfold checkL; rw [hen]; simp [h0]
    rw [hL] at hkl
    simp [c7, callAwake7, hP, setRun, hck, hkl, h0]
end Go.Proofs.YtjfgjnlocadpbaaGreatDoor
end
section
set_option maxRecDepth 100000
namespace Go.Proofs.YtjfgjnlocadpbaaGreatDoor
open Go.Mach
mutual
def turnU : GT → GT
  | .mk k n v l => .mk k (if k = 1 then bN n else n) v (turnM l)
def turnM : List GT → List GT
  | [] => []
  | t :: l => turnU t :: turnM l
end
theorem turnM_map : ∀ l : List GT, turnM l = l.map turnU
  | [] => rfl
  | t :: l => by simp only [turnM, List.map_cons, turnM_map l]
theorem turnU_eq (t : GT) : turnU t = .mk t.kind (if t.kind = 1 then bN t.name else t.name) t.value (turnM t.args) := by cases t; rfl
mutual
def plainV : GT → Bool
  | .mk k n v l => if k = 1 then decide (v = .mk 0 0 ⟨#[]⟩ []) && l.isEmpty else plainVs l
def plainVs : List GT → Bool
  | [] => true
  | t :: l => plainV t && plainVs l
end
mutual
theorem turnU_plain : ∀ t : GT, plainV t = true → turnU t = turnT t
  | .mk k n v l, h => by
    by_cases hk : k = 1
    · simp only [plainV, if_pos hk, Bool.and_eq_true, decide_eq_true_eq, List.isEmpty_iff] at h
      obtain ⟨rfl, rfl⟩ := h
      subst hk
      rfl
    · simp only [plainV, if_neg hk] at h
      simp only [turnU, turnT, if_neg hk, turnM_plain l h]
theorem turnM_plain : ∀ l : List GT, plainVs l = true → turnM l = turnL l
  | [], _ => rfl
  | t :: l, h => by
    simp only [plainVs, Bool.and_eq_true] at h
    simp only [turnM, turnL, turnU_plain t h.1, turnM_plain l h.2]
end
theorem plainVs_all (l : List GT) : plainVs l = l.all plainV := by
  induction l with
  | nil => rfl
  | cons t l ih => simp only [plainVs, List.all_cons, ih]
set_option maxHeartbeats 4000000 in
theorem turned7_ok : ∀ (k : Nat) (l : List GT), GT.sizes l ≤ k → k ≤ 100000000 → pureT T c14 [.isl (GT.encs l) false] = some (.isl (GT.encs (turnM l)) false) := by
  intro k
  induction k using Nat.strongRecOn with
  | ind k ih =>
    intro l hl hk
    have hlen := GT.len_sizes l
    have hT : ∀ t ∈ l, ∀ bs σ, callT T 14 [.isl (GT.encs t.args) false] bs σ = some (.isl (GT.encs (turnM t.args)) false, σ) := fun t ht bs σ => by
      have hm := GT.sizes_mem ht
      have ha := GT.args_le t
      exact call_clean rfl rfl rfl (by simp) (ih (GT.sizes t.args) (by omega) t.args (Nat.le_refl _) (by omega))
    rw [turnM_map]
    apply pure_enter (by simp [c14])
    simp [c14]
    refine W_for T 0 32 l.length (fun i f σ => f 0 = .isl (GT.encs l) false ∧ f 4 = .int .i64 (i : Int) ∧ LX 0 7 σ (GT.encs ((l.take i).map turnU)) (f 3)) ?_ _ _ ?_
    · rintro i f σ hi ⟨h0, h4, hL⟩
      by_cases hlt : i < l.length
      · have hw : IntKind.i64.wrap ((i : Int) + 1) = (i : Int) + 1 := wr64 (by omega) (by omega)
        have e1 : l[i]? = some l[i] := List.getElem?_eq_getElem hlt
        have hc := hT l[i] (List.getElem_mem hlt)
        have hn := GT.name_le l[i]
        have hm := GT.sizes_mem (List.getElem_mem hlt)
        have hb1 : (⟨#[78]⟩ : ByteArray).size = 1 := rfl
        have hb3 : (1 : Int) + (l[i].name.size : Int) ≤ 9223372036854775807 := by omega
        have htk : (l.take (i + 1)).map turnU = (l.take i).map turnU ++ [turnU l[i]] := by rw [List.take_succ_eq_append_getElem hlt, List.map_append]; rfl
        have hel : (GT.encs ((l.take i).map turnU)).length ≤ 1000000000 := by simp; omega
        rw [htk, turnU_eq l[i]]
        generalize (l.take i).map turnU = es at *
        by_cases hk1 : l[i].kind = 1
        · simp [h0, h4, hlt, e1, hc, setRun, hk1, hb1, hb3, GT.enc_eq, -appendA_ag, -getElem?_pos, List.getElem?_append_left, List.getElem?_append_right, List.getElem?_set_ne, list_set_at, List.getElem?_cons_zero, List.getElem?_cons_succ]
          refine stW_app2 (N := 0) (sz := 7) (bytes := 104) hL rfl rfl (by omega) (by omega) (Nat.zero_le _) hel fun x' σ' hL' hlen' hk' => ?_
          simp [h0, h4, hw]
          exact LX.snocT _ hL'
        · simp [h0, h4, hlt, e1, hc, setRun, hk1, GT.enc_eq, -appendA_ag, -getElem?_pos, List.getElem?_append_left, List.getElem?_append_right, List.getElem?_set_ne, list_set_at, List.getElem?_cons_zero, List.getElem?_cons_succ]
          refine stW_app2 (N := 0) (sz := 7) (bytes := 104) hL rfl rfl (by omega) (by omega) (Nat.zero_le _) hel fun x' σ' hL' hlen' hk' => ?_
          simp [h0, h4, hw]
          exact LX.snocT _ hL'
      · have he : i = l.length := by omega
        subst he
        rw [List.take_length] at hL
        obtain ⟨σ', hcl, _⟩ := hL.closeA
        have hr : closeR σ (f 3) = some (.isl (GT.encs (l.map turnU)) false, σ') := by
          rcases hL with ⟨h1, h2⟩ | ⟨k, cs, fz, h2, _⟩ | ⟨k, h2, _⟩ <;> rw [h2] at hcl ⊢ <;> exact hcl
        simp [h0, h4, hr, endP, res1]
    · simp
      exact .inl ⟨rfl, rfl⟩
theorem callTurned7 (l : List GT) (h : GT.sizes l ≤ 100000000) (hp : l.all plainV = true) (bs : Nat) (σ : Heap) : callT T 14 [.isl (GT.encs l) false] bs σ = some (.isl (GT.encs (turnL l)) false, σ) := by
  rw [← turnM_plain l (by rw [plainVs_all]; exact hp)]
  exact call_clean rfl rfl rfl (by simp) (turned7_ok _ l (Nat.le_refl _) h)
theorem vTn_P : ∀ n, n < 6 → plainV (vTn n) = true := by decide +kernel
theorem numT_P : ∀ n : Nat, n < 6 → plainV (numT n) = true := by decide +kernel
theorem addrT_P : ∀ n, n < 3 → plainV (addrT n) = true := by decide +kernel
theorem sumT_P : ∀ n, n < 6 → plainV (sumT n) = true := by decide +kernel
theorem opT_P : ∀ a, a < 6 → ∀ b, b < 6 → ∀ o, o < 2 → plainV (.mk 4 (if o = 0 then ⟨#[43]⟩ else ⟨#[45]⟩) (.mk 0 0 ⟨#[]⟩ []) [vTn a, vTn b]) = true := by decide +kernel
theorem opN_P : ∀ a, a < 6 → ∀ o, o < 2 → plainV (.mk 4 (if o = 0 then ⟨#[43]⟩ else ⟨#[45]⟩) (.mk 0 0 ⟨#[]⟩ []) [vTn a, numT 1]) = true := by decide +kernel
theorem vT_P (c : Int) : plainV (vT c) = true := vTn_P _ (pickN_lt (by omega))
theorem argR_P (k : Int) : plainV (argR k) = true := by
  unfold argR
  split
  · exact numT_P _ (Nat.lt_of_lt_of_le (pickN_lt (by omega)) (by omega))
  split
  · exact addrT_P _ (pickN_lt (by omega))
  split
  · exact sumT_P _ (pickN_lt (by omega))
  · exact vT_P k
theorem atomR_P (x : GRaw) : (atomR x).all plainV = true := by
  unfold atomR argsR
  rw [List.all_eq_true]
  intro t ht
  obtain ⟨i, _, rfl⟩ := List.mem_map.1 ht
  split
  · exact vT_P _
  · exact argR_P _
theorem litR_P (x : GRaw) : (litR x).args.all plainV = true := by
  unfold litR
  split
  · exact atomR_P x
  split
  · exact atomR_P x
  split
  · have h2 := numT_P (pickN x.n2 4) (Nat.lt_of_lt_of_le (pickN_lt (by omega)) (by omega))
    have h3 : plainV (if pickN x.n3 2 = 0 then numT (pickN x.n2 4) else vT x.n1) = true := by
      split
      · exact h2
      · exact vT_P _
    simp [vT_P, h3]
  · have h3 : plainV (.mk 4 (if pickN x.n3 2 = 0 then ⟨#[43]⟩ else ⟨#[45]⟩) (.mk 0 0 ⟨#[]⟩ []) [vT x.n1, if pickN (x.n3.tdiv 2) 2 = 0 then numT 1 else vT x.n2]) = true := by
      split
      · split
        · exact opN_P _ (pickN_lt (c := x.n1) (by omega)) 0 (by omega)
        · exact opT_P _ (pickN_lt (c := x.n1) (by omega)) _ (pickN_lt (c := x.n2) (by omega)) 0 (by omega)
      · split
        · exact opN_P _ (pickN_lt (c := x.n1) (by omega)) 1 (by omega)
        · exact opT_P _ (pickN_lt (c := x.n1) (by omega)) _ (pickN_lt (c := x.n2) (by omega)) 1 (by omega)
    simp [h3]
end Go.Proofs.YtjfgjnlocadpbaaGreatDoor
end
section
set_option maxRecDepth 100000
namespace Go.Proofs.YtjfgjnlocadpbaaGreatDoor
open Go.Mach
theorem args_of_B {r : GR} (hb : ruleB r = true) : ∃ a rest, r.args = a :: rest := by
  unfold ruleB argsB at hb
  simp only [Bool.and_eq_true, decide_eq_true_eq] at hb
  cases h : r.args with
  | nil => rw [h] at hb; simp at hb
  | cons a rest => exact ⟨a, rest, rfl⟩
theorem callProg0 (rules : List (List GRaw)) (hr : RawsOk rules) (bs : Nat) (σ : Heap) : callT T 9 [.isl (encRR rules) false, .isl [] true] bs σ = some ((progR rules []).enc, σ) := by
  rw [call_pure (T := T) (f := 9) (bs := bs) (σ := σ) (σ' := σ) (args' := [.isl (encRR rules) false, .isl (([] : List GRaw).map GRaw.enc) false]) rfl rfl rfl rfl (by simp) (prog6_ok rules [] hr.1 hr.2 (by simp) (by simp)), ite_self]
set_option maxHeartbeats 4000000 in
theorem locateReads_ok (rules : List (List GRaw)) (hr : RawsOk rules) : pureT T c3 [.isl (encRR rules) false] = some (.bool true) := by
  have hP := callProg0 rules hr
  have h6 := (rulesR_B rules).2
  have hsz : ∀ r ∈ rulesR rules, r.size ≤ 100000000 := fun r h => by
    have := rulesR_size rules r h
    omega
  unfold progR at hP
  generalize rulesR rules = rs at *
  simp only [GP.enc_eq, List.map_nil, List.take_nil] at hP
  apply pure_enter (by simp [c3])
  simp [c3, callAwake7, hP, setRun]
  refine W_for T 0 146 rs.length (fun i f σ => f 3 = .bool true ∧ f 4 = .ptr 0 0 ∧ f 5 = .int .i64 (i : Int) ∧ σ[0]? = some (.cells [.isl (relsD.map GD.enc) false, .isl [] false, .isl (rs.map GR.enc) false] 0 false)) ?_ _ _ ?_
  · rintro i f σ hi ⟨k3, k4, k5, z0⟩
    have i0 : 0 < σ.length := (List.getElem?_eq_some_iff.1 z0).1
    by_cases hlt : i < rs.length
    · have e1 : rs[i]? = some rs[i] := List.getElem?_eq_getElem hlt
      have hpl := callPlace rs[i] (hsz _ (List.getElem_mem hlt))
      have hw : IntKind.i64.wrap ((i : Int) + 1) = (i : Int) + 1 := wr64 (by omega) (by omega)
      have hbl := GR.body_len rs[i]
      have hss := hsz _ (List.getElem_mem hlt)
      obtain ⟨r, hrr⟩ : ∃ r, rs[i] = r := ⟨_, rfl⟩
      rw [hrr] at e1 hpl hbl hss
      simp only [GR.enc_eq] at hpl
      cases hq : placeP r with
      | none =>
        rw [hq] at hpl
        simp [k3, k4, k5, z0, hlt, hrr, e1, hpl, resPl, nilPl, GPl.enc, setRun, GR.enc_eq, hw, i0, eqagV, -getElem?_pos, List.getElem?_append_left, List.getElem?_append_right, List.getElem?_cons_zero, List.getElem?_cons_succ]
      | some q =>
        have ok := place_ok hq
        obtain ⟨a, rest, har⟩ := args_of_B (place_cases hq).1
        have hna : a.name = q.head := by
          have := ok.head
          unfold headN at this; rw [har] at this
          simpa using this
        have e3 : GT.encs (a :: rest) = a.enc :: GT.encs rest := rfl
        rw [hq, har, e3] at hpl
        simp [k3, k4, k5, z0, hlt, hrr, e1, hpl, har, e3, resPl, nilPl, GPl.enc, setRun, GR.enc_eq, hw, i0, eqagV, -getElem?_pos, List.getElem?_append_left, List.getElem?_append_right, List.getElem?_cons_zero, List.getElem?_cons_succ]
        obtain ⟨m, hm⟩ : ∃ m, σ.length = m := ⟨_, rfl⟩
        rw [hm]
        refine W_for T 0 146 r.body.length (fun k f τ => f 3 = .bool true ∧ f 4 = .ptr 0 0 ∧ f 5 = .int .i64 (i : Int) ∧ f 6 = .ptr m 0 ∧ f 7 = .ptr (m + 1) 0 ∧ f 9 = .int .i64 (k : Int) ∧ m + 2 ≤ τ.length ∧ τ[0]? = some (.cells [.isl (relsD.map GD.enc) false, .isl [] false, .isl (rs.map GR.enc) false] 0 false) ∧ τ[m]? = some (.cells [.str r.label, .str r.head, .isl (a.enc :: GT.encs rest) false, .str r.agg, .int .i64 r.pos, .isl (r.body.map GL.enc) false] 0 false) ∧ τ[m + 1]? = some (.cells [.str q.from', .str q.to, .str q.head] 0 false)) ?_ _ _ ?_
        · rintro k f τ hk ⟨g3, g4, g5, g6, g7, g9, gl, y0, ym, yx⟩
          have j0 : 0 < τ.length := by omega
          have jm : m < τ.length := by omega
          have jx : m + 1 < τ.length := by omega
          by_cases hlk : k < r.body.length
          · have e4 : r.body[k]? = some r.body[k] := List.getElem?_eq_getElem hlk
            have hwk : IntKind.i64.wrap ((k : Int) + 1) = (k : Int) + 1 := wr64 (by omega) (by omega)
            have hat := callAt r.body[k] q
            have hok := ok.at' r.body[k] (List.getElem_mem hlk)
            simp only [GL.enc_eq, GPl.enc] at hat
            by_cases hkd : r.body[k].kind = 1
            · rw [hok (.inl hkd)] at hat
              rw [hkd] at hat
              simp [g3, g4, g5, g6, g7, g9, y0, ym, yx, hlk, e4, hkd, hat, setRun, GL.enc_eq, hwk, j0, jm, jx, -getElem?_pos, List.getElem?_append_left, List.getElem?_append_right, List.getElem?_cons_zero, List.getElem?_cons_succ]
              omega
            · by_cases hkd2 : r.body[k].kind = 2
              · rw [hok (.inr hkd2)] at hat
                rw [hkd2] at hat
                simp [g3, g4, g5, g6, g7, g9, y0, ym, yx, hlk, e4, hkd2, hat, setRun, GL.enc_eq, hwk, j0, jm, jx, -getElem?_pos, List.getElem?_append_left, List.getElem?_append_right, List.getElem?_cons_zero, List.getElem?_cons_succ]
                omega
              · simp [g3, g4, g5, g6, g7, g9, y0, ym, yx, hlk, e4, hkd, hkd2, hat, setRun, GL.enc_eq, hwk, j0, jm, jx, -getElem?_pos, List.getElem?_append_left, List.getElem?_append_right, List.getElem?_cons_zero, List.getElem?_cons_succ]
                omega
          · have he : k = r.body.length := by omega
            subst he
            have hne := ok.ne
            have hL1 := callLinked r.body q.from' q.to (by omega)
            have hL2 := callLinked r.body q.from' q.head (by omega)
            by_cases hto : q.to = nilB
            · rw [hto] at hne
              by_cases hhf : q.head = q.from'
              · by_cases hag : r.agg = nilB
                · simp [g3, g4, g5, g6, g7, g9, y0, ym, yx, hna, hto, hhf, hag, hne, setRun, GT.enc_eq, hw, j0, jm, jx, -getElem?_pos, List.getElem?_append_left, List.getElem?_append_right, List.getElem?_cons_zero, List.getElem?_cons_succ]
                · simp [g3, g4, g5, g6, g7, g9, y0, ym, yx, hna, hto, hhf, hag, hne, setRun, GT.enc_eq, hw, j0, jm, jx, -getElem?_pos, List.getElem?_append_left, List.getElem?_append_right, List.getElem?_cons_zero, List.getElem?_cons_succ]
              · have hli := ok.one hto hhf
                rw [hli] at hL2
                have hag : r.agg = nilB := Classical.byContradiction fun h => hhf (ok.agg h).2
                simp [g3, g4, g5, g6, g7, g9, y0, ym, yx, hna, hto, hhf, hag, hne, hL2, sym, setRun, GT.enc_eq, hw, j0, jm, jx, -getElem?_pos, List.getElem?_append_left, List.getElem?_append_right, List.getElem?_cons_zero, List.getElem?_cons_succ]
            · obtain ⟨hli, hhd⟩ := ok.two hto
              rw [hli] at hL1
              have hag : r.agg = nilB := Classical.byContradiction fun h => hto (ok.agg h).1
              by_cases hhf : q.head = q.from'
              · simp [g3, g4, g5, g6, g7, g9, y0, ym, yx, hna, hto, hhf, hag, hne, hL1, sym, setRun, GT.enc_eq, hw, j0, jm, jx, -getElem?_pos, List.getElem?_append_left, List.getElem?_append_right, List.getElem?_cons_zero, List.getElem?_cons_succ]
              · have hht : q.head = q.to := hhd.resolve_left hhf
                have hhf' : ¬ q.to = q.from' := fun e => hhf (hht.trans e)
                simp [g3, g4, g5, g6, g7, g9, y0, ym, yx, hna, hto, hht, hhf', hag, hne, hL1, sym, setRun, GT.enc_eq, hw, j0, jm, jx, -getElem?_pos, List.getElem?_append_left, List.getElem?_append_right, List.getElem?_cons_zero, List.getElem?_cons_succ]
        · have hm0 : 0 < m := by omega
          simp [k3, k4, k5, z0, hm, hm0, -getElem?_pos, List.getElem?_append_left, List.getElem?_append_right, List.getElem?_cons_zero, List.getElem?_cons_succ]
    · have he : i = rs.length := by omega
      simp [k3, k4, k5, z0, he, setRun]
  · simp
end Go.Proofs.YtjfgjnlocadpbaaGreatDoor
end
section
set_option maxRecDepth 100000
namespace Go.Proofs.YtjfgjnlocadpbaaGreatDoor
open Go.Mach
theorem bN_size (n : ByteArray) : (bN n).size = n.size + 1 := by
  have : (⟨#[78]⟩ : ByteArray).size = 1 := rfl
  simp only [bN, ByteArray.size_append, this]; omega
mutual
theorem turnT_size : ∀ t : GT, (turnT t).size ≤ 2 * t.size
  | .mk k n v l => by
    have h0 : (ByteArray.mk #[]).size = 0 := rfl
    have h5 : 5 ≤ v.size := by cases v; simp only [GV.size]; omega
    have h1 := turnL_size l
    by_cases h : k = 1
    · simp only [turnT, if_pos h, GT.size, GT.sizes, GV.size, GV.sizes, bN_size, h0]; omega
    · simp only [turnT, if_neg h, GT.size]; omega
theorem turnL_size : ∀ l : List GT, GT.sizes (turnL l) ≤ 2 * GT.sizes l
  | [] => by simp [turnL, GT.sizes]
  | t :: l => by
    have h1 := turnT_size t
    have h2 := turnL_size l
    simp only [turnL, GT.sizes]; omega
end
theorem turnG_size (x : GL) : (turnG x).size ≤ 2 * x.size := by
  have h1 := turnL_size x.args
  have h2 : (if x.kind = 4 then bN x.name else x.name).size ≤ x.name.size + 1 := by
    split
    · rw [bN_size]; omega
    · omega
  simp only [turnG, GL.size, GL.enc, bulkA, bulkAs, GT.bulk_encs]; omega
theorem turnR_size (r : GR) : (turnR r).size ≤ 2 * r.size := by
  have h1 := turnL_size r.args
  have h2 : ∀ l : List GL, bulkAs ((l.map turnG).map GL.enc) ≤ 2 * bulkAs (l.map GL.enc) := fun l => by
    induction l with
    | nil => simp [bulkAs]
    | cons x l ih =>
      have := turnG_size x
      simp only [GL.size] at this
      simp only [List.map_cons, bulkAs] at ih ⊢; omega
  have := h2 r.body
  simp only [turnR, GR.size, GR.enc, bulkA, bulkAs, GT.bulk_encs]; omega
theorem place_sizes {r : GR} {p : GPl} (h : placeP r = some p) (hs : r.size ≤ 100000000) : p.from'.size ≤ 100000000 ∧ p.to.size ≤ 100000000 ∧ p.head.size ≤ 100000000 := by
  have ok := place_ok h
  obtain ⟨_, _, _, s, hr, hq, _⟩ := place_cases h
  have hm : ∀ l ∈ r.body, ∀ x ∈ l.args, x.name.size ≤ 100000000 := fun l hl x hx => by
    have h1 := GR.body_mem r hl
    have h2 := GL.args_le l
    have h3 := GT.sizes_mem hx
    have h4 := GT.name_le x
    omega
  have hf : p.from'.size ≤ 100000000 := by
    obtain ⟨l, hl, _, x, hx, e⟩ := ((readP_spec hr).1 p.from').1 (from_mem hq)
    rw [← e]
    exact hm l hl x (List.mem_of_getElem? hx)
  have ht : p.to.size ≤ 100000000 := by
    by_cases hto : p.to = nilB
    · rw [hto]; show (0 : Nat) ≤ _; omega
    · obtain ⟨l, hl, hk⟩ := (linked_iff r.body p.from' p.to).1 (ok.two hto).1
      obtain ⟨_, h2, _, h4⟩ := hk
      unfold linkL at h2
      unfold arg1 at h4
      simp only [Bool.and_eq_true, decide_eq_true_eq] at h2
      obtain ⟨y, hy, _⟩ := Option.map_eq_some_iff.1 h2.2
      rw [hy] at h4
      rw [← h4]
      exact hm l hl y (List.mem_of_getElem? hy)
  refine ⟨hf, ht, ?_⟩
  have := ok.head
  rw [← this]
  unfold headN
  cases h0 : r.args[0]? with
  | none => show (0 : Nat) ≤ _; omega
  | some x =>
    have h2 := GR.args_le r
    have h3 := GT.sizes_mem (List.mem_of_getElem? h0)
    have h4 := GT.name_le x
    show x.name.size ≤ _
    omega
theorem callPlaceI (r : GR) (hs : r.size ≤ 100000000) {σ : Heap} {a b c d e y : AV} (hd : closeA σ (.agg [a, b, c, d, e, y]) = some (r.enc, σ)) (bs : Nat) : callT T 10 [.agg [a, b, c, d, e, y]] bs σ = some (resPl (placeP r), σ) := by
  rw [call_pure (T := T) (f := 10) (bs := bs) (σ := σ) (σ' := σ) (args' := [r.enc]) rfl rfl rfl (show closeT σ [.agg [a, b, c, d, e, y]] = some ([r.enc], σ) by unfold closeT; rw [hd]; rfl) (by simp) (place7 r hs), ite_self]
set_option maxHeartbeats 4000000 in
theorem locateNames_ok (raws : List GRaw) (hl : FactsOk raws) : pureT T c5 [.isl (raws.map GRaw.enc) false] = some (.bool true) := by
  have hR := callRule6R raws hl.1 hl.2 0 (by omega)
  have hsz := ruleR_size raws 0
  have hb1 := ruleR_B raws 0 (by omega)
  have hb2 := ruleR_BT raws 0 (by omega)
  have hp1 : (ruleR raws 0).args.all plainV = true := atomR_P (headR raws)
  have hp2 : ∀ l ∈ (ruleR raws 0).body, l.args.all plainV = true := fun l hl => by
    obtain ⟨x, rfl⟩ := bodyR_mem raws hl
    exact litR_P x
  have hq := place_turn _ hb1 hb2
  generalize ruleR raws 0 = r at *
  have hsz2 := turnR_size r
  have hpl := callPlace r (by omega)
  have hbl := GR.body_len r
  have hra := GR.args_le r
  have htu := callTurned7 r.args (by omega) hp1
  simp only [GR.enc_eq] at hR hpl
  have hc0 : ((0 : Nat) : Int) = 0 := rfl
  rw [hc0] at hR
  apply pure_enter (by simp [c5])
  simp [c5, callAwake7, hR, htu, setRun]
  refine W_for T 0 96 r.body.length (fun j f τ => f 3 = .bool true ∧ f 4 = .ptr 0 0 ∧ f 5 = .ptr 1 0 ∧ f 6 = .int .i64 (j : Int) ∧ 2 ≤ τ.length ∧
      τ[0]? = some (.cells [.str r.label, .str r.head, .isl (GT.encs r.args) false, .str r.agg, .int .i64 r.pos, .isl (r.body.map GL.enc) false] 0 false) ∧
      (∃ y, τ[1]? = some (.cells [.str r.label, .str r.head, .isl (GT.encs (turnL r.args)) false, .str r.agg, .int .i64 r.pos, y] 0 false) ∧ LO 2 3 true τ (((r.body.take j).map turnG).map GL.enc) y)) ?_ _ _ ?_
  · rintro j f τ hj ⟨h3, h4, h5, h6, hM, ca, y, cb, hO⟩
    by_cases hjl : j < r.body.length
    · have hwj : IntKind.i64.wrap ((j : Int) + 1) = (j : Int) + 1 := wr64 (by omega) (by omega)
      have e2 : r.body[j]? = some r.body[j] := List.getElem?_eq_getElem hjl
      have hbs := GR.body_mem r (List.getElem_mem hjl)
      have hba := GL.args_le r.body[j]
      have hbn := GL.name_le r.body[j]
      have htb := callTurned7 r.body[j].args (by omega) (hp2 _ (List.getElem_mem hjl))
      have htk2 : ((r.body.take (j + 1)).map turnG).map GL.enc = ((r.body.take j).map turnG).map GL.enc ++ [(turnG r.body[j]).enc] := by
        rw [List.take_succ_eq_append_getElem hjl, List.map_append, List.map_append]; rfl
      have hel2 : (((r.body.take j).map turnG).map GL.enc).length ≤ 1000000000 := by simp; omega
      have ga : ∀ o, (τ ++ [o])[1]? = some (.cells [.str r.label, .str r.head, .isl (GT.encs (turnL r.args)) false, .str r.agg, .int .i64 r.pos, y] 0 false) := fun o => by rw [List.getElem?_append_left (by omega)]; exact cb
      rw [htk2]
      generalize ((r.body.take j).map turnG).map GL.enc = es2 at *
      by_cases hk : r.body[j].kind = 4
      · have hs78 : (⟨#[78]⟩ : ByteArray).size = 1 := rfl
        have hn78 : (1 : Int) + (r.body[j].name.size : Int) ≤ 9223372036854775807 := by omega
        simp [h3, h4, h5, h6, ca, cb, hjl, e2, setRun, hk, hs78, hn78, ga, htb, -appendA_ag]
        refine stW_app2M (N := 2) hO.toLX rfl rfl (by omega) (by omega) hM hel2 fun x' σ' hL' hlen' hk' _ _ => ?_
        have gb : σ'[1]? = some (.cells [.str r.label, .str r.head, .isl (GT.encs (turnL r.args)) false, .str r.agg, .int .i64 r.pos, y] 0 false) := by rw [hk' _ (by omega)]; exact cb
        simp [h3, h4, h5, h6, gb, hwj, hjl, hL'.solid, hL'.cells, setRun]
        refine ⟨by omega, ?_, x', list_set_at (by omega), ?_⟩
        · first | (rw [List.getElem?_set_ne (by omega), hk' _ (by omega)]; exact ca) | (rw [hk' _ (by omega)]; exact ca)
        · have := hL'.keep (τ := σ'.set 1 (.cells [.str r.label, .str r.head, .isl (GT.encs (turnL r.args)) false, .str r.agg, .int .i64 r.pos, x'] 0 false)) fun i o hi ho => by rw [List.getElem?_set_ne (by omega)]; exact ho
          first | exact this | simpa [turnG, hk, GL.enc_eq, AV.nrm, bN] using this
      · simp [h3, h4, h5, h6, ca, cb, hjl, e2, setRun, hk, ga, htb, -appendA_ag]
        refine stW_app2M (N := 2) hO.toLX rfl rfl (by omega) (by omega) hM hel2 fun x' σ' hL' hlen' hk' _ _ => ?_
        have gb : σ'[1]? = some (.cells [.str r.label, .str r.head, .isl (GT.encs (turnL r.args)) false, .str r.agg, .int .i64 r.pos, y] 0 false) := by rw [hk' _ (by omega)]; exact cb
        simp [h3, h4, h5, h6, gb, hwj, hjl, hL'.solid, hL'.cells, setRun]
        refine ⟨by omega, ?_, x', list_set_at (by omega), ?_⟩
        · first | (rw [List.getElem?_set_ne (by omega), hk' _ (by omega)]; exact ca) | (rw [hk' _ (by omega)]; exact ca)
        · have := hL'.keep (τ := σ'.set 1 (.cells [.str r.label, .str r.head, .isl (GT.encs (turnL r.args)) false, .str r.agg, .int .i64 r.pos, x'] 0 false)) fun i o hi ho => by rw [List.getElem?_set_ne (by omega)]; exact ho
          first | exact this | simpa [turnG, hk, GL.enc_eq, AV.nrm, bN] using this
    · have he : j = r.body.length := by omega
      subst he
      rw [List.take_length] at hO
      have j0 : 0 < τ.length := by omega
      have j1 : 1 < τ.length := by omega
      have hpt : ∀ bs σ, callT T 10 [.agg [.str r.label, .str r.head, .isl (GT.encs (turnL r.args)) false, .str r.agg, .int .i64 r.pos, y]] bs σ = some (resPl (placeP (turnR r)), σ) := fun bs σ =>
        callPlaceI (turnR r) (by omega) (by simp [closeA, closeL, hO.close1, GR.enc_eq, turnR]) bs
      cases hpp : placeP r with
      | none =>
        rw [hpp] at hpl hq
        rw [hq] at hpt
        simp [h3, h4, h5, h6, ca, cb, hpl, hpt, hO.solid, hO.cells, resPl, nilPl, GPl.enc, setRun, j0, j1, -appendA_ag, -getElem?_pos, List.getElem?_append_left, List.getElem?_append_right, List.getElem?_set_ne, list_set_at, List.getElem?_cons_zero, List.getElem?_cons_succ]
      | some p =>
        obtain ⟨s1, s2, s3⟩ := place_sizes hpp (by omega)
        rw [hpp] at hpl hq
        rw [hq] at hpt
        have hs78 : (⟨#[78]⟩ : ByteArray).size = 1 := rfl
        have n1 : (1 : Int) + (p.from'.size : Int) ≤ 9223372036854775807 := by omega
        have n2 : (1 : Int) + (p.to.size : Int) ≤ 9223372036854775807 := by omega
        have n3 : (1 : Int) + (p.head.size : Int) ≤ 9223372036854775807 := by omega
        by_cases hto : p.to = nilB
        · simp [h3, h4, h5, h6, ca, cb, hpl, hpt, hO.solid, hO.cells, resPl, turnPl, bN, hto, hs78, n1, n2, n3, GPl.enc, setRun, eqagV, j0, j1, -appendA_ag, -getElem?_pos, List.getElem?_append_left, List.getElem?_append_right, List.getElem?_set_ne, list_set_at, List.getElem?_cons_zero, List.getElem?_cons_succ]
        · simp [h3, h4, h5, h6, ca, cb, hpl, hpt, hO.solid, hO.cells, resPl, turnPl, bN, hto, hs78, n1, n2, n3, GPl.enc, setRun, eqagV, j0, j1, -appendA_ag, -getElem?_pos, List.getElem?_append_left, List.getElem?_append_right, List.getElem?_set_ne, list_set_at, List.getElem?_cons_zero, List.getElem?_cons_succ]
  · simp
    exact .inl ⟨rfl, rfl⟩
end Go.Proofs.YtjfgjnlocadpbaaGreatDoor
end
