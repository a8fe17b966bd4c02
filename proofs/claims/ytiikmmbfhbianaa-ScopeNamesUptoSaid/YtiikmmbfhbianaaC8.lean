import Derived.Test.YtiikmmbfhbianaaC7
section
set_option linter.unusedVariables false
set_option linter.unusedSimpArgs false
set_option linter.unnecessarySimpa false
set_option maxRecDepth 100000
namespace Go.Proofs.Ytiikmmbfhbianaa
open Go.Mach
theorem bN_size (n : ByteArray) : (bN n).size = n.size + 1 := by
  have : (⟨#[78]⟩ : ByteArray).size = 1 := rfl
  simp only [bN, ByteArray.size_append, this]; omega
mutual
theorem turnT_size : ∀ t : GT, (turnT t).size ≤ 2 * t.size
  | .mk k n v l => by
    have h0 : (ByteArray.mk #[]).size = 0 := rfl
    have h5 : 5 ≤ v.size := by cases v; simp only [GV.size]; omega
    have h1 := turnL_size l
    by_cases h : k = 1
    · simp only [turnT, if_pos h, GT.size, GT.sizes, GV.size, GV.sizes, bN_size, h0]; omega
    · simp only [turnT, if_neg h, GT.size]; omega
theorem turnL_size : ∀ l : List GT, GT.sizes (turnL l) ≤ 2 * GT.sizes l
  | [] => by simp [turnL, GT.sizes]
  | t :: l => by
    have h1 := turnT_size t
    have h2 := turnL_size l
    simp only [turnL, GT.sizes]; omega
end
theorem turnG_size (x : GL) : (turnG x).size ≤ 2 * x.size := by
  have h1 := turnL_size x.args
  have h2 : (if x.kind = 4 then bN x.name else x.name).size ≤ x.name.size + 1 := by
    split
    · rw [bN_size]; omega
    · omega
  simp only [turnG, GL.size, GL.enc, bulkA, bulkAs, GT.bulk_encs]; omega
theorem turnR_size (r : GR) : (turnR r).size ≤ 2 * r.size := by
  have h1 := turnL_size r.args
  have h2 : ∀ l : List GL, bulkAs ((l.map turnG).map GL.enc) ≤ 2 * bulkAs (l.map GL.enc) := fun l => by
    induction l with
    | nil => simp [bulkAs]
    | cons x l ih =>
      have := turnG_size x
      simp only [GL.size] at this
      simp only [List.map_cons, bulkAs] at ih ⊢; omega
  have := h2 r.body
  simp only [turnR, GR.size, GR.enc, bulkA, bulkAs, GT.bulk_encs]; omega
set_option maxHeartbeats 2000000 in
theorem scopeNames_ok (rules : List (List GRaw)) (facts : List GRaw) (hr : RawsOk rules) (hf : FactsOk facts) : pureT T c4 [.isl (encRR rules) false, .isl (facts.map GRaw.enc) false] = some (.bool true) := by
  obtain ⟨fs, rs, h6, h12, ers, efs, hP, hC⟩ := raw_prog rules facts hr hf
  obtain ⟨hc1, hs1⟩ := hC rs (fun _ h => h) (by omega)
  have hck := callCheck _ hs1
  rw [hc1] at hck
  simp only [GP.enc_eq] at hck
  have hsz : ∀ r ∈ rs, r.size ≤ 1000 := fun r h => rulesR_size rules r (by rw [← ers]; exact h)
  have hq1 : (rs.map turnR).all ruleB = true := by
    rw [List.all_map, List.all_eq_true]; intro r h
    rw [ers] at h
    obtain ⟨x, hx, rfl⟩ := List.mem_map.1 h
    have := List.snd_lt_of_mem_zipIdx hx
    exact ruleR_BT _ _ (by simp at this; omega)
  have hc2 : checkP ⟨relsD, fs, rs.map turnR⟩ = firstP ⟨relsD, [], []⟩ rs 0 := by
    rw [efs, check_rules6 facts _ hq1 (by simp; omega), first_turn]
  have hs2 : (GP.mk relsD fs (rs.map turnR)).size ≤ 1000000000 := by
    have := GP.size_le ⟨relsD, fs, rs.map turnR⟩ 20 200 2000 relsD_size (by rw [efs]; exact facts_size facts) fun r hr' => by
      obtain ⟨x, hx, rfl⟩ := List.mem_map.1 hr'
      have := turnR_size x
      have := hsz x hx
      omega
    have e1 : relsD.length = 6 := rfl
    simp only [e1, List.length_map] at this
    omega
  generalize firstP ⟨relsD, [], []⟩ rs 0 = en at *
  obtain ⟨e, n⟩ := en
  clear efs ers hC hc1 hq1
  apply pure_enter (by simp [c4])
  simp [c4, callAwake6, hP, setRun]
  refine W_for T 0 106 rs.length (fun i f σ => f 4 = .bool false ∧ f 5 = .bool true ∧ f 6 = .ptr 0 0 ∧ f 7 = .ptr 1 0 ∧ f 8 = .int .i64 (i : Int) ∧ 2 ≤ σ.length ∧ σ[0]? = some (.cells [.isl (relsD.map GD.enc) false, .isl (fs.map GU.enc) false, .isl (rs.map GR.enc) false] 0 false) ∧
    ∃ x, σ[1]? = some (.cells [.isl (relsD.map GD.enc) false, .isl (fs.map GU.enc) false, x] 0 false) ∧ LX 2 6 σ (((rs.take i).map turnR).map GR.enc) x) ?_ _ _ ?_
  · rintro i f σ hi ⟨h4, h5, h6', h7, h8, hN, c0, x, c1, hL⟩
    by_cases hlt : i < rs.length
    · have hw : IntKind.i64.wrap ((i : Int) + 1) = (i : Int) + 1 := wr64 (by omega) (by omega)
      have e1 : rs[i]? = some rs[i] := List.getElem?_eq_getElem hlt
      have htk : ((rs.take (i + 1)).map turnR).map GR.enc = ((rs.take i).map turnR).map GR.enc ++ [(turnR rs[i]).enc] := by
        rw [List.take_succ_eq_append_getElem hlt, List.map_append, List.map_append]; rfl
      have hel : (((rs.take i).map turnR).map GR.enc).length ≤ 1000000000 := by simp; omega
      have hrs := hsz _ (List.getElem_mem hlt)
      rw [htk]
      generalize ((rs.take i).map turnR).map GR.enc = es at *
      have hra := GR.args_le rs[i]
      have htu := callTurned rs[i].args (by omega)
      have hbl := GR.body_len rs[i]
      have hi0 : ∀ o, (σ ++ o)[1]? = some (.cells [.isl (relsD.map GD.enc) false, .isl (fs.map GU.enc) false, x] 0 false) := fun o => by rw [List.getElem?_append_left (by omega)]; exact c1
      simp [h4, h5, h6', h7, h8, c0, hlt, e1, setRun, htu]
      refine W_for T 0 106 rs[i].body.length (fun j f τ => f 4 = .bool false ∧ f 5 = .bool true ∧ f 6 = .ptr 0 0 ∧ f 7 = .ptr 1 0 ∧ f 8 = .int .i64 (i : Int) ∧ f 9 = .ptr σ.length 0 ∧ f 10 = .ptr (σ.length + 1) 0 ∧ f 11 = .int .i64 (j : Int) ∧ σ.length + 2 ≤ τ.length ∧
        τ[σ.length]? = some (.cells [.str rs[i].label, .str rs[i].head, .isl (GT.encs rs[i].args) false, .str rs[i].agg, .int .i64 rs[i].pos, .isl (rs[i].body.map GL.enc) false] 0 false) ∧
        (∃ y, τ[σ.length + 1]? = some (.cells [.str rs[i].label, .str rs[i].head, .isl (GT.encs (turnL rs[i].args)) false, .str rs[i].agg, .int .i64 rs[i].pos, y] 0 false) ∧ LO (σ.length + 2) 3 true τ (((rs[i].body.take j).map turnG).map GL.enc) y) ∧ ∀ m, m < σ.length → τ[m]? = σ[m]?) ?_ _ _ ?_
      · rintro j f τ hj ⟨h4, h5, h6', h7, h8, h9, h10, h11, hM, ca, ⟨y, cb, hO⟩, hall⟩
        have t0 : τ[0]? = some (.cells [.isl (relsD.map GD.enc) false, .isl (fs.map GU.enc) false, .isl (rs.map GR.enc) false] 0 false) := by rw [hall 0 (by omega)]; exact c0
        have t1 : τ[1]? = some (.cells [.isl (relsD.map GD.enc) false, .isl (fs.map GU.enc) false, x] 0 false) := by rw [hall 1 (by omega)]; exact c1
        by_cases hjl : j < rs[i].body.length
        · have hwj : IntKind.i64.wrap ((j : Int) + 1) = (j : Int) + 1 := wr64 (by omega) (by omega)
          have e2 : rs[i].body[j]? = some rs[i].body[j] := List.getElem?_eq_getElem hjl
          have hbs := GR.body_mem rs[i] (List.getElem_mem hjl)
          have hba := GL.args_le rs[i].body[j]
          have hbn := GL.name_le rs[i].body[j]
          have htb := callTurned rs[i].body[j].args (by omega)
          have htk2 : ((rs[i].body.take (j + 1)).map turnG).map GL.enc = ((rs[i].body.take j).map turnG).map GL.enc ++ [(turnG rs[i].body[j]).enc] := by
            rw [List.take_succ_eq_append_getElem hjl, List.map_append, List.map_append]; rfl
          have hel2 : (((rs[i].body.take j).map turnG).map GL.enc).length ≤ 1000000000 := by simp; omega
          have ga : ∀ o, (τ ++ [o])[σ.length + 1]? = some (.cells [.str rs[i].label, .str rs[i].head, .isl (GT.encs (turnL rs[i].args)) false, .str rs[i].agg, .int .i64 rs[i].pos, y] 0 false) := fun o => by rw [List.getElem?_append_left (by omega)]; exact cb
          rw [htk2]
          generalize ((rs[i].body.take j).map turnG).map GL.enc = es2 at *
          by_cases hk : rs[i].body[j].kind = 4
          · have hs78 : (⟨#[78]⟩ : ByteArray).size = 1 := rfl
            have hn78 : (1 : Int) + (rs[i].body[j].name.size : Int) ≤ 9223372036854775807 := by omega
            simp [h4, h5, h6', h7, h8, h9, h10, h11, ca, cb, hjl, e2, setRun, hk, hs78, hn78, ga, htb, -appendA_ag]
            refine stW_app2M (N := σ.length + 2) hO.toLX rfl rfl (by omega) (by omega) hM hel2 fun x' σ' hL' hlen' hk' _ _ => ?_
            have gb : σ'[σ.length + 1]? = some (.cells [.str rs[i].label, .str rs[i].head, .isl (GT.encs (turnL rs[i].args)) false, .str rs[i].agg, .int .i64 rs[i].pos, y] 0 false) := by rw [hk' _ (by omega)]; exact cb
            simp [h4, h5, h6', h7, h8, h9, h10, h11, gb, hwj, hjl, hL'.solid, hL'.cells, setRun]
            refine ⟨by omega, ?_, ⟨x', list_set_at (by omega), ?_⟩, fun m hm => ?_⟩
            · first | (rw [List.getElem?_set_ne (by omega), hk' _ (by omega)]; exact ca) | (rw [hk' _ (by omega)]; exact ca)
            · have := hL'.keep (τ := σ'.set (σ.length + 1) (.cells [.str rs[i].label, .str rs[i].head, .isl (GT.encs (turnL rs[i].args)) false, .str rs[i].agg, .int .i64 rs[i].pos, x'] 0 false)) fun i o hi ho => by rw [List.getElem?_set_ne (by omega)]; exact ho
              first | exact this | simpa [turnG, hk, GL.enc_eq, AV.nrm, bN] using this
            · rw [List.getElem?_set_ne (by omega), hk' _ (by omega)]; exact hall m hm
          · simp [h4, h5, h6', h7, h8, h9, h10, h11, ca, cb, hjl, e2, setRun, hk, ga, htb, -appendA_ag]
            refine stW_app2M (N := σ.length + 2) hO.toLX rfl rfl (by omega) (by omega) hM hel2 fun x' σ' hL' hlen' hk' _ _ => ?_
            have gb : σ'[σ.length + 1]? = some (.cells [.str rs[i].label, .str rs[i].head, .isl (GT.encs (turnL rs[i].args)) false, .str rs[i].agg, .int .i64 rs[i].pos, y] 0 false) := by rw [hk' _ (by omega)]; exact cb
            simp [h4, h5, h6', h7, h8, h9, h10, h11, gb, hwj, hjl, hL'.solid, hL'.cells, setRun]
            refine ⟨by omega, ?_, ⟨x', list_set_at (by omega), ?_⟩, fun m hm => ?_⟩
            · first | (rw [List.getElem?_set_ne (by omega), hk' _ (by omega)]; exact ca) | (rw [hk' _ (by omega)]; exact ca)
            · have := hL'.keep (τ := σ'.set (σ.length + 1) (.cells [.str rs[i].label, .str rs[i].head, .isl (GT.encs (turnL rs[i].args)) false, .str rs[i].agg, .int .i64 rs[i].pos, x'] 0 false)) fun i o hi ho => by rw [List.getElem?_set_ne (by omega)]; exact ho
              first | exact this | simpa [turnG, hk, GL.enc_eq, AV.nrm, bN] using this
            · rw [List.getElem?_set_ne (by omega), hk' _ (by omega)]; exact hall m hm
        · have he : j = rs[i].body.length := by omega
          subst he
          rw [List.take_length] at hO
          have hLx : LX 2 6 τ es x := hL.keep fun m o hm ho => by rw [hall m (List.getElem?_eq_some_iff.1 ho).1]; exact ho
          obtain ⟨y', hX, hcy, hny⟩ := closeX_last (sz := 6) (σ := τ) (pre := [.str rs[i].label, .str rs[i].head, .isl (GT.encs (turnL rs[i].args)) false, .str rs[i].agg, .int .i64 rs[i].pos]) hO (by rfl)
          simp [h4, h5, h6', h7, h8, h9, h10, h11, ca, cb, t1, hO.solid, hO.cells, setRun, -appendA_ag]
          refine stW_appM (N := 2) hX List.getElem?_concat_length rfl hcy (by omega) (by omega) hLx (fun m hm => List.getElem?_append_left hm) (Nat.le_refl _) (by omega) hel fun x' σ' hL' hlen' hk' _ _ => ?_
          rw [hny] at hL'
          have g1 : σ'[1]? = some (.cells [.isl (relsD.map GD.enc) false, .isl (fs.map GU.enc) false, x] 0 false) := by rw [hk' 1 (by omega)]; exact t1
          have g0 : σ'[0]? = some (.cells [.isl (relsD.map GD.enc) false, .isl (fs.map GU.enc) false, .isl (rs.map GR.enc) false] 0 false) := by rw [hk' 0 (by omega)]; exact t0
          simp at hlen'
          simp [h4, h5, h6', h7, h8, g0, g1, hw, hlt, hL'.solid, hL'.cells, setRun]
          refine ⟨by omega, x', list_set_at (by omega), ?_⟩
          have := (hL'.keep (τ := σ'.set 1 (.cells [.isl (relsD.map GD.enc) false, .isl (fs.map GU.enc) false, x'] 0 false)) fun m o hm ho => by rw [List.getElem?_set_ne (by omega)]; exact ho).toLX
          exact this
      · simp [h4, h5, h6', h7, h8]
        exact ⟨.inl ⟨rfl, rfl⟩, fun m hm => List.getElem?_append_left hm⟩
    · have he : i = rs.length := by omega
      subst he
      rw [List.take_length] at hL
      obtain ⟨σ', hcl, _⟩ := hL.close
      have hcl1 := close1_of0 hcl
      have hck2 : ∀ bs, callT T 10 [.agg [.isl (relsD.map GD.enc) false, .isl (fs.map GU.enc) false, x]] bs σ = some (res2 (e, n), σ) := fun bs => by
        rw [← hc2]
        exact callCheckI _ hs2 (σ' := σ') (by simp [closeA, closeL, hcl1, GP.enc_eq]) bs
      simp [h4, h5, h6', h7, h8, c0, c1, setRun, hck, hck2]
  · simp
    exact .inl ⟨rfl, rfl⟩
end Go.Proofs.Ytiikmmbfhbianaa
end
section
set_option linter.unusedVariables false
set_option linter.unusedSimpArgs false
set_option linter.unnecessarySimpa false
set_option maxRecDepth 100000
namespace Go.Proofs.Ytiikmmbfhbianaa
open Go.Mach
def rawN (w : Int) : GRaw := ⟨0, w, 0, 0, 0, 0⟩
def noneU (t : GU) : GU := ⟨⟨#[110, 111, 110, 101]⟩, t.args⟩
def longU (t : GU) (v : GV) : GU := ⟨t.name, t.args ++ [v]⟩
theorem tup_none (x : GRaw) : tupB (noneU (factR x)) = true := by
  have h := tupB_R x
  unfold tupB at h ⊢
  simp only [Bool.and_eq_true] at h
  obtain ⟨⟨⟨h1, h2⟩, h3⟩, h4⟩ := h
  have e1 : (noneU (factR x)).args = (factR x).args := rfl
  have e2 : relOK (noneU (factR x)).name = true := by
    show relOK ⟨#[110, 111, 110, 101]⟩ = true
    decide +kernel
  rw [e1, h2, h3, h4, e2]; rfl
theorem tup_long (x : GRaw) (v : GV) (hv : rightT v = true) : tupB (longU (factR x) v) = true := by
  have h := tupB_R x
  obtain ⟨a1, a2, _⟩ := rel_arity x
  have hl := fargs_len x
  unfold tupB at h ⊢
  simp only [Bool.and_eq_true] at h
  obtain ⟨⟨⟨h1, h2⟩, h3⟩, h4⟩ := h
  have e1 : (longU (factR x) v).args = (factR x).args ++ [v] := rfl
  have e2 : relOK (longU (factR x) v).name = true := h1
  have e3 : ((factR x).args ++ [v]).all rightT = true := by rw [List.all_append, h4]; simp [hv]
  have e4 : ((factR x).args ++ [v]).length = (relR x).arity.toNat + 1 := by rw [List.length_append, hl]; rfl
  rw [e1, e2, e3, e4]
  cases h0 : (factR x).args with
  | nil => rw [h0] at hl; simp at hl; omega
  | cons w l =>
    rw [h0] at h3
    simp only [List.cons_append, h3]
    simp; omega
theorem bad_none {p : GP} (hp : p.decls = relsD) (x : GRaw) : badF p (noneU (factR x)) = true := by
  have h1 : arityP p ⟨#[110, 111, 110, 101]⟩ = 0 := by
    have : arityP p ⟨#[110, 111, 110, 101]⟩ = arityP ⟨relsD, [], []⟩ ⟨#[110, 111, 110, 101]⟩ := by unfold arityP; rw [hp]
    rw [this]; decide +kernel
  obtain ⟨a1, _, _⟩ := rel_arity x
  have hl := fargs_len x
  have e1 : (noneU (factR x)).name = ⟨#[110, 111, 110, 101]⟩ := rfl
  have e2 : (noneU (factR x)).args = (factR x).args := rfl
  unfold badF
  rw [e1, e2, h1, hl]
  simp; omega
theorem bad_long {p : GP} (hp : p.decls = relsD) (x : GRaw) (v : GV) : badF p (longU (factR x) v) = true := by
  have h1 := arity_rel hp x
  have h2 := (rel_arity x).2.2
  have hl := fargs_len x
  have e1 : (longU (factR x) v).name = (relR x).name := rfl
  have e2 : (longU (factR x) v).args.length = (relR x).arity.toNat + 1 := by rw [← hl]; simp [longU]
  unfold badF
  rw [e1, e2, h1]
  simp; omega
theorem check_badF {p : GP} (hp : p.decls = relsD) (h : progB p = true) (hf : p.facts.any (badF p) = true) : checkP p = (60, -1) := by
  unfold checkP
  rw [h, hf, hp, relsD_dup]
  simp
theorem prog_facts_B (facts : List GRaw) (u : GU) (hu : tupB u = true) (rs : List GR) (hr : rs.all ruleB = true) (hl : rs.length ≤ 6) : progB ⟨relsD, (facts.take 12).map factR ++ [u], rs⟩ = true := by
  obtain ⟨h1, h2⟩ := facts_B facts
  have h4 : relsD.length = 6 := rfl
  have h5 : ((facts.take 12).map factR ++ [u]).all tupB = true := by rw [List.all_append, h1]; simp [hu]
  simp only [progB, h5, hr, relsD_B, h4, Bool.and_true, decide_eq_true_eq, List.length_append, List.length_singleton]
  omega
theorem dup_rel : ∀ n, n < 6 → dupD [] (relsD ++ [relsD.getD n ⟨⟨#[]⟩, 0⟩]) = true := by decide +kernel
theorem decl_rel : ∀ n, n < 6 → (relsD ++ [relsD.getD n ⟨⟨#[]⟩, 0⟩]).all declB = true := by decide +kernel
theorem check_dup (facts : List GRaw) (w : Int) (rs : List GR) (hr : rs.all ruleB = true) (hl : rs.length ≤ 6) : checkP ⟨relsD ++ [relR (rawN w)], (facts.take 12).map factR, rs⟩ = (60, -1) := by
  obtain ⟨n, hn, _, e⟩ := rel_cases (rawN w)
  obtain ⟨h1, h2⟩ := facts_B facts
  have hd := dup_rel n hn
  have hc := decl_rel n hn
  rw [← e] at hd hc
  have h4 : (relsD ++ [relR (rawN w)]).length = 7 := rfl
  have hp : progB ⟨relsD ++ [relR (rawN w)], (facts.take 12).map factR, rs⟩ = true := by
    simp only [progB, h1, hr, hc, h4, Bool.and_true, decide_eq_true_eq]
    omega
  have hd' : ∀ q : GP, q = ⟨relsD ++ [relR (rawN w)], (facts.take 12).map factR, rs⟩ → progB q = true → dupD [] q.decls = true → checkP q = (60, -1) := fun q _ h1 h2 => by
    unfold checkP; rw [h1, h2]; simp
  exact hd' _ rfl hp hd
theorem fact_sz {l : List GU} {u : GU} (h : ∀ x ∈ l, x.size ≤ 200) (hu : u.size ≤ 400) : ∀ x ∈ l ++ [u], x.size ≤ 400 := fun x hx => by
  rcases List.mem_append.1 hx with h1 | h1
  · have := h x h1; omega
  · simp at h1; subst h1; exact hu
theorem facts_prog (rules : List (List GRaw)) (facts : List GRaw) (w : Int) (v : GV) (hv : rightT v = true) (hvs : v.size ≤ 40) : ∀ fs rs, fs = (facts.take 12).map factR → rs = rulesR rules →
    (checkP ⟨relsD, fs ++ [noneU (factR (rawN w))], rs⟩ = (60, -1) ∧ (GP.mk relsD (fs ++ [noneU (factR (rawN w))]) rs).size ≤ 1000000000) ∧
    (checkP ⟨relsD, fs ++ [longU (factR (rawN w)) v], rs⟩ = (60, -1) ∧ (GP.mk relsD (fs ++ [longU (factR (rawN w)) v]) rs).size ≤ 1000000000) ∧
    (checkP ⟨relsD ++ [relR (rawN w)], fs, rs⟩ = (60, -1) ∧ (GP.mk (relsD ++ [relR (rawN w)]) fs rs).size ≤ 1000000000) ∧
    (checkP ⟨relsD, fs ++ [factR (rawN w)], rs⟩ = checkP ⟨relsD, fs, rs⟩ ∧ (GP.mk relsD (fs ++ [factR (rawN w)]) rs).size ≤ 1000000000) := by
  rintro fs rs rfl rfl
  obtain ⟨hr, hl⟩ := rulesR_B rules
  have hlf := (facts_B facts).2
  have e1 : relsD.length = 6 := rfl
  have sz : ∀ u : GU, u.size ≤ 400 → (GP.mk relsD ((facts.take 12).map factR ++ [u]) (rulesR rules)).size ≤ 1000000000 := fun u hu => by
    have := GP.size_le ⟨relsD, (facts.take 12).map factR ++ [u], rulesR rules⟩ 20 400 1000 relsD_size (fact_sz (facts_size facts) hu) (rulesR_size rules)
    simp only [e1, List.length_append, List.length_singleton] at this
    omega
  have hs := factR_size (rawN w)
  have hn4 := relR_size (rawN w)
  refine ⟨⟨check_badF rfl (prog_facts_B facts _ (tup_none _) _ hr hl) ?_, sz _ ?_⟩, ⟨check_badF rfl (prog_facts_B facts _ (tup_long _ v hv) _ hr hl) ?_, sz _ ?_⟩, ⟨check_dup facts w _ hr hl, ?_⟩, ⟨?_, sz _ (by omega)⟩⟩
  · rw [List.any_append, List.any_cons, bad_none (p := ⟨relsD, (facts.take 12).map factR ++ [noneU (factR (rawN w))], rulesR rules⟩) rfl]; simp
  · have h4 : (⟨#[110, 111, 110, 101]⟩ : ByteArray).size = 4 := rfl
    simp only [noneU, GU.size, GU.enc, bulkA, bulkAs, h4] at hs ⊢; omega
  · rw [List.any_append, List.any_cons, bad_long (p := ⟨relsD, (facts.take 12).map factR ++ [longU (factR (rawN w)) v], rulesR rules⟩) rfl]; simp
  · have : GV.sizes ((factR (rawN w)).args ++ [v]) = GV.sizes (factR (rawN w)).args + v.size := by
      rw [← GV.bulk_encs, ← GV.bulk_encs, GV.encs_map, List.map_append, bulkAs_append, ← GV.encs_map]
      simp [bulkAs, GV.bulk_enc]
    simp only [longU, GU.size, GU.enc, bulkA, bulkAs, GV.bulk_encs, this] at hs ⊢; omega
  · have := GP.size_le ⟨relsD ++ [relR (rawN w)], (facts.take 12).map factR, rulesR rules⟩ 20 200 1000 (fun x hx => by
      rcases List.mem_append.1 hx with h1 | h1
      · exact relsD_size x h1
      · simp at h1; subst h1
        simp only [GD.size, GD.enc, bulkA, bulkAs]; omega) (facts_size facts) (rulesR_size rules)
    simp only [e1, List.length_append, List.length_singleton] at this
    omega
  · rw [check_rawR rfl (prog_facts_B facts _ (tupB_R _) _ hr hl) (by rw [List.any_append, facts_good rfl]; simp [fact_good]), check_rules6 facts _ hr (by omega)]
    exact first_congr (p := ⟨relsD, (facts.take 12).map factR ++ [factR (rawN w)], rulesR rules⟩) (q := ⟨relsD, [], []⟩) rfl (rulesR rules) 0
set_option maxHeartbeats 4000000 in
theorem scopeFacts_ok (rules : List (List GRaw)) (facts : List GRaw) (which : Int) (hr : RawsOk rules) (hf : FactsOk facts) (hw : GV.i64ok which) : pureT T c7 [.isl (encRR rules) false, .isl (facts.map GRaw.enc) false, .int .i64 which] = some (.bool true) := by
  obtain ⟨fs, rs, h6, h12, ers, efs, hP, hC⟩ := raw_prog rules facts hr hf
  have hrok : (rawN which).ok := ⟨by simp [rawN, GV.i64ok], hw, by simp [rawN, GV.i64ok], by simp [rawN, GV.i64ok], by simp [rawN, GV.i64ok], by simp [rawN, GV.i64ok]⟩
  have hF : ∀ bs σ, callT T 17 [.agg [.int .i64 0, .int .i64 which, .int .i64 0, .int .i64 0, .int .i64 0, .int .i64 0]] bs σ = some ((factR (rawN which)).enc, σ) := callFact6 (rawN which) hrok
  obtain ⟨v, l, hvl⟩ : ∃ v l, (factR (rawN which)).args = v :: l := by
    have h1 := fargs_len (rawN which)
    have h2 := (rel_arity (rawN which)).1
    cases h : (factR (rawN which)).args with
    | nil => rw [h] at h1; simp at h1; omega
    | cons v l => exact ⟨v, l, rfl⟩
  have hvm : v ∈ (factR (rawN which)).args := by rw [hvl]; simp
  have hv : rightT v = true ∧ v.size ≤ 40 := by
    obtain ⟨i, _, e⟩ := List.mem_map.1 hvm
    rw [← e]
    refine ⟨fargR_R _ _, ?_⟩
    have h0 : (ByteArray.mk #[]).size = 0 := rfl
    unfold fargR
    split
    · exact addrV_size _ (pickN_lt (by omega))
    · simp [numV, GV.size, GV.sizes, h0]
  obtain ⟨⟨ka, sa⟩, ⟨kb, sb⟩, ⟨kc, sc⟩, ⟨kd, sd⟩⟩ := facts_prog rules facts which v hv.1 hv.2 fs rs efs ers
  obtain ⟨hc1, hs1⟩ := hC rs (fun _ h => h) (by omega)
  have hck := callCheck _ hs1
  generalize checkP ⟨relsD, fs, rs⟩ = en at *
  obtain ⟨e, n⟩ := en
  simp only [GP.enc_eq] at hck
  have hpk := pick6_6 which hw
  have hrg := rels_get (rawN which)
  have hlt := pickN_lt (c := which) (n := 6) (by omega)
  have hlt' : (pickN which 6 : Int) < 6 := by omega
  have hl6 : relsD.length = 6 := rfl
  have e0 : (rawN which).name = which := rfl
  rw [e0] at hrg
  have hal : (factR (rawN which)).args.length ≤ 3 := by rw [fargs_len]; exact (rel_arity _).2.1
  generalize factR (rawN which) = t at *
  generalize relR (rawN which) = rl at *
  clear efs ers hC
  apply pure_enter (by simp [c7])
  have okV : (GV.encs t.args).all (okEl 4 true) = true := encs_okEl _
  have hve : GV.encs t.args = v.enc :: GV.encs l := by rw [hvl]; rfl
  have hvl4 : (GV.encs t.args).length ≤ 100000000 := by simp; omega
  rw [hve] at okV hvl4
  have hl12 : (fs.map GU.enc).length ≤ 100000000 := by simp; omega
  simp [c7, callAwake6, hP, setRun, hF, hvl, GV.encs]
  refine stW_two (j := 4) (pre := [.int .i64 v.kind, .int .i64 v.num, .str v.text]) (y := .isl (GV.encs v.items) false) (by simp) rfl rfl (LastOk.isl _ _) rfl okV (by omega) (by omega) (by omega) (by omega) (by omega) (by omega) (fun x hx => by simp at hx; rcases hx with rfl | rfl | rfl <;> simp [okRef]) fun y1 x2 σ2 L2 l2 k2 => ?_
  simp at l2 k2
  have r0 : σ2[0]? = some (.cells [.isl (relsD.map GD.enc) false, .isl (fs.map GU.enc) false, .isl (rs.map GR.enc) false] 0 false) := by rw [k2 0 (by omega) (by omega)]; rfl
  have r1 : σ2[1]? = some (.cells [.str t.name, .isl (v.enc :: GV.encs l) false] 0 false) := by rw [k2 1 (by omega) (by omega)]; rfl
  have r2 : σ2[2]? = some (.cells [.str ⟨#[110, 111, 110, 101]⟩, .isl (v.enc :: GV.encs l) false] 0 false) := by rw [k2 2 (by omega) (by omega)]; rfl
  have r3 : σ2[3]? = some (.cells [.str t.name, .isl (v.enc :: GV.encs l) false] 0 false) := by rw [k2 3 (by omega) (by omega)]; rfl
  have b0 : 0 < σ2.length := by omega
  have b1 : 1 < σ2.length := by omega
  have b2 : 2 < σ2.length := by omega
  have b3 : 3 < σ2.length := by omega
  clear k2
  simp [r0, r1, r2, r3, L2.solid, L2.cells, setRun, b0, b1, b2, b3, -appendA_ag, -getElem?_pos, List.getElem?_append_left, List.getElem?_append_right, List.getElem?_set_ne, list_set_at, List.getElem?_cons_zero, List.getElem?_cons_succ]
  refine stW_two (j := σ2.length + 1) (pre := [.str ⟨#[110, 111, 110, 101]⟩]) (y := .isl (v.enc :: GV.encs l) false) (by simp) (by simp [-appendA_ag, -getElem?_pos, List.getElem?_append_left, List.getElem?_append_right, List.getElem?_set_ne, list_set_at, List.getElem?_cons_zero, List.getElem?_cons_succ]) rfl (LastOk.isl _ _) rfl (GU.encs_okEl fs) (by omega) (by omega) (by omega) (by omega) (by omega) (by omega) (fun x hx => by simp at hx; rcases hx with rfl | rfl <;> simp [okRef] <;> omega) fun y3 x4 σ4 L4 l4 k4 => ?_
  simp at l4 k4
  have s0 : σ4[0]? = some (.cells [.isl (relsD.map GD.enc) false, .isl (fs.map GU.enc) false, .isl (rs.map GR.enc) false] 0 false) := by rw [k4 0 (by omega) (by omega)]; simp [r0, b0, -appendA_ag, -getElem?_pos, List.getElem?_append_left, List.getElem?_append_right, List.getElem?_set_ne, list_set_at, List.getElem?_cons_zero, List.getElem?_cons_succ]
  have s1 : σ4[1]? = some (.cells [.str t.name, .isl (v.enc :: GV.encs l) false] 0 false) := by rw [k4 1 (by omega) (by omega)]; simp [r1, b1, -appendA_ag, -getElem?_pos, List.getElem?_append_left, List.getElem?_append_right, List.getElem?_set_ne, list_set_at, List.getElem?_cons_zero, List.getElem?_cons_succ]
  have s3 : σ4[3]? = some (.cells [.str t.name, x2] 0 false) := by rw [k4 3 (by omega) (by omega)]; simp [b3, -appendA_ag, -getElem?_pos, List.getElem?_append_left, List.getElem?_append_right, List.getElem?_set_ne, list_set_at, List.getElem?_cons_zero, List.getElem?_cons_succ]
  have sa : σ4[σ2.length]? = some (.cells [.isl (relsD.map GD.enc) false, .isl (fs.map GU.enc) false, .isl (rs.map GR.enc) false] 0 false) := by rw [k4 _ (by omega) (by omega)]; simp [-appendA_ag, -getElem?_pos, List.getElem?_append_left, List.getElem?_append_right, List.getElem?_set_ne, list_set_at, List.getElem?_cons_zero, List.getElem?_cons_succ]
  clear k4 r0 r1 r2 r3
  obtain ⟨a, ha⟩ : ∃ a, σ2.length = a := ⟨_, rfl⟩
  simp only [ha] at sa l4 b0 b1 b2 b3 ⊢
  have d0 : 0 < σ4.length := by omega
  have d1 : 1 < σ4.length := by omega
  have d3 : 3 < σ4.length := by omega
  have da : a < σ4.length := by omega
  have na0 : a ≠ 0 := by omega
  have na1 : a ≠ 1 := by omega
  have na3 : a ≠ 3 := by omega
  simp [s0, s1, s3, sa, L4.solid, L4.cells, L2.solid, L2.cells, setRun, d0, d1, d3, da, na0, na1, na3, -appendA_ag, -getElem?_pos, List.getElem?_append_left, List.getElem?_append_right, List.getElem?_set_ne, list_set_at, List.getElem?_cons_zero, List.getElem?_cons_succ]
  refine stW_two (j := σ4.length + 1) (pre := [.str t.name]) (y := x2) (by simp) (by simp [-appendA_ag, -getElem?_pos, List.getElem?_append_left, List.getElem?_append_right, List.getElem?_set_ne, list_set_at, List.getElem?_cons_zero, List.getElem?_cons_succ]) rfl L2.last rfl (GU.encs_okEl fs) (by omega) (by omega) (by omega) (by omega) (by omega) (by omega) (fun x hx => by simp at hx; rcases hx with rfl | rfl <;> simp [okRef] <;> omega) fun y5 x6 σ6 L6 l6 k6 => ?_
  simp at l6 k6
  have t0 : σ6[0]? = some (.cells [.isl (relsD.map GD.enc) false, .isl (fs.map GU.enc) false, .isl (rs.map GR.enc) false] 0 false) := by rw [k6 0 (by omega) (by omega)]; simp [s0, d0, na0, -appendA_ag, -getElem?_pos, List.getElem?_append_left, List.getElem?_append_right, List.getElem?_set_ne, list_set_at, List.getElem?_cons_zero, List.getElem?_cons_succ]
  have t1 : σ6[1]? = some (.cells [.str t.name, .isl (v.enc :: GV.encs l) false] 0 false) := by rw [k6 1 (by omega) (by omega)]; simp [s1, d1, na1, -appendA_ag, -getElem?_pos, List.getElem?_append_left, List.getElem?_append_right, List.getElem?_set_ne, list_set_at, List.getElem?_cons_zero, List.getElem?_cons_succ]
  have ta : σ6[a]? = some (.cells [.isl (relsD.map GD.enc) false, x4, .isl (rs.map GR.enc) false] 0 false) := by rw [k6 a (by omega) (by omega)]; simp [da, -appendA_ag, -getElem?_pos, List.getElem?_append_left, List.getElem?_append_right, List.getElem?_set_ne, list_set_at, List.getElem?_cons_zero, List.getElem?_cons_succ]
  have tb : σ6[σ4.length]? = some (.cells [.isl (relsD.map GD.enc) false, .isl (fs.map GU.enc) false, .isl (rs.map GR.enc) false] 0 false) := by rw [k6 _ (by omega) (by omega)]; simp [-appendA_ag, -getElem?_pos, List.getElem?_append_left, List.getElem?_append_right, List.getElem?_set_ne, list_set_at, List.getElem?_cons_zero, List.getElem?_cons_succ]
  clear k6 s0 s1 s3 sa
  obtain ⟨b, hb⟩ : ∃ b, σ4.length = b := ⟨_, rfl⟩
  simp only [hb] at tb l6 d0 d1 d3 da ⊢
  have e0 : 0 < σ6.length := by omega
  have e1 : 1 < σ6.length := by omega
  have ea : a < σ6.length := by omega
  have eb : b < σ6.length := by omega
  have nb0 : b ≠ 0 := by omega
  have nb1 : b ≠ 1 := by omega
  have nba : b ≠ a := by omega
  simp [t0, t1, ta, tb, L6.solid, L6.cells, setRun, e0, e1, ea, eb, nb0, nb1, nba, -appendA_ag, -getElem?_pos, List.getElem?_append_left, List.getElem?_append_right, List.getElem?_set_ne, list_set_at, List.getElem?_cons_zero, List.getElem?_cons_succ]
  refine stW_mk (GD.encs_okEl relsD) (by simp [hl6]) (by omega) (by omega) (fun x hx => by simp at hx; subst hx; simp [okRef]) fun x7 σ7 L7 l7 k7 => ?_
  simp at l7 k7
  have u0 : σ7[0]? = some (.cells [.isl (relsD.map GD.enc) false, .isl (fs.map GU.enc) false, .isl (rs.map GR.enc) false] 0 false) := by rw [k7 0 (by omega)]; simp [t0, e0, nb0, -appendA_ag, -getElem?_pos, List.getElem?_append_left, List.getElem?_append_right, List.getElem?_set_ne, list_set_at, List.getElem?_cons_zero, List.getElem?_cons_succ]
  have u1 : σ7[1]? = some (.cells [.str t.name, .isl (v.enc :: GV.encs l) false] 0 false) := by rw [k7 1 (by omega)]; simp [t1, e1, nb1, -appendA_ag, -getElem?_pos, List.getElem?_append_left, List.getElem?_append_right, List.getElem?_set_ne, list_set_at, List.getElem?_cons_zero, List.getElem?_cons_succ]
  have ua : σ7[a]? = some (.cells [.isl (relsD.map GD.enc) false, x4, .isl (rs.map GR.enc) false] 0 false) := by rw [k7 a (by omega)]; simp [ta, ea, nba, -appendA_ag, -getElem?_pos, List.getElem?_append_left, List.getElem?_append_right, List.getElem?_set_ne, list_set_at, List.getElem?_cons_zero, List.getElem?_cons_succ]
  have ub : σ7[b]? = some (.cells [.isl (relsD.map GD.enc) false, x6, .isl (rs.map GR.enc) false] 0 false) := by rw [k7 b (by omega)]; simp [eb, -appendA_ag, -getElem?_pos, List.getElem?_append_left, List.getElem?_append_right, List.getElem?_set_ne, list_set_at, List.getElem?_cons_zero, List.getElem?_cons_succ]
  have uc : σ7[σ6.length]? = some (.cells [.isl (relsD.map GD.enc) false, .isl (fs.map GU.enc) false, .isl (rs.map GR.enc) false] 0 false) := by rw [k7 _ (by omega)]; simp [-appendA_ag, -getElem?_pos, List.getElem?_append_left, List.getElem?_append_right, List.getElem?_set_ne, list_set_at, List.getElem?_cons_zero, List.getElem?_cons_succ]
  clear k7 t0 t1 ta tb
  obtain ⟨c, hc⟩ : ∃ c, σ6.length = c := ⟨_, rfl⟩
  simp only [hc] at uc l7 e0 e1 ea eb L7 ⊢
  have f0 : 0 < σ7.length := by omega
  have f1 : 1 < σ7.length := by omega
  have fa : a < σ7.length := by omega
  have fb : b < σ7.length := by omega
  have fc : c < σ7.length := by omega
  simp [u0, u1, ua, ub, uc, hpk, hlt', hrg, setRun, f0, f1, fa, fb, fc, -appendA_ag, -getElem?_pos, List.getElem?_append_left, List.getElem?_append_right, List.getElem?_set_ne, list_set_at, List.getElem?_cons_zero, List.getElem?_cons_succ]
  have ga : ∀ o : AObj, ∀ i, i < σ7.length → (σ7 ++ [o])[i]? = σ7[i]? := fun o i hi => List.getElem?_append_left hi
  refine stW_rec (pre := [.str rl.name]) (y := .int .i64 rl.arity) (L7.keep (τ := σ7 ++ [.cells [.str rl.name, .int .i64 rl.arity] 0 false]) fun i o _ hi => by rw [List.getElem?_append_left (List.getElem?_eq_some_iff.1 hi).1]; exact hi) (by simp [-appendA_ag, -getElem?_pos, List.getElem?_append_left, List.getElem?_append_right, List.getElem?_set_ne, list_set_at, List.getElem?_cons_zero, List.getElem?_cons_succ]) rfl (.inl ⟨rfl, rfl⟩) rfl (by omega) (by omega) (by simp; omega) (by simp [hl6]) fun x8 σ8 L8 l8 k8 => ?_
  simp at l8 k8
  have v0 : σ8[0]? = some (.cells [.isl (relsD.map GD.enc) false, .isl (fs.map GU.enc) false, .isl (rs.map GR.enc) false] 0 false) := by rw [k8 0 (by omega) (by omega), ga _ _ (by omega)]; exact u0
  have v1 : σ8[1]? = some (.cells [.str t.name, .isl (v.enc :: GV.encs l) false] 0 false) := by rw [k8 1 (by omega) (by omega), ga _ _ (by omega)]; exact u1
  have va : σ8[a]? = some (.cells [.isl (relsD.map GD.enc) false, x4, .isl (rs.map GR.enc) false] 0 false) := by rw [k8 a (by omega) (by omega), ga _ _ (by omega)]; exact ua
  have vb : σ8[b]? = some (.cells [.isl (relsD.map GD.enc) false, x6, .isl (rs.map GR.enc) false] 0 false) := by rw [k8 b (by omega) (by omega), ga _ _ (by omega)]; exact ub
  have vc : σ8[c]? = some (.cells [.isl (relsD.map GD.enc) false, .isl (fs.map GU.enc) false, .isl (rs.map GR.enc) false] 0 false) := by rw [k8 c (by omega) (by omega), ga _ _ (by omega)]; exact uc
  clear k8 ga u0 u1 ua ub uc
  have g0 : 0 < σ8.length := by omega
  have g1 : 1 < σ8.length := by omega
  have gA : a < σ8.length := by omega
  have gB : b < σ8.length := by omega
  have gC : c < σ8.length := by omega
  have nc0 : c ≠ 0 := by omega
  have nc1 : c ≠ 1 := by omega
  have nca : c ≠ a := by omega
  have ncb : c ≠ b := by omega
  simp [v0, v1, va, vb, vc, L8.solid, L8.cells, L4.solid, L4.cells, L6.solid, L6.cells, setRun, g0, g1, gA, gB, gC, nc0, nc1, nca, ncb, -appendA_ag, -getElem?_pos, List.getElem?_append_left, List.getElem?_append_right, List.getElem?_set_ne, list_set_at, List.getElem?_cons_zero, List.getElem?_cons_succ]
  have q4 : ∀ τ, close1 τ x4 = some (.isl ((fs ++ [noneU t]).map GU.enc) false, τ) := fun τ => by
    have := L4.close1 τ
    rw [this, List.map_append]; simp [noneU, GU.enc_eq, hve]
  have q6 : ∀ τ, close1 τ x6 = some (.isl ((fs ++ [longU t v]).map GU.enc) false, τ) := fun τ => by
    have := L6.close1 τ
    rw [this, List.map_append]
    have e : GV.encs (t.args ++ [v]) = (v.enc :: GV.encs l) ++ [v.enc] := by rw [← encs_snoc, hve]
    have e2 : [longU t v].map GU.enc = [AV.agg [.str t.name, .isl (GV.encs (t.args ++ [v])) false]] := rfl
    rw [e2, e, GV.enc_eq v]; rfl
  have q8 : ∀ τ, close1 τ x8 = some (.isl ((relsD ++ [rl]).map GD.enc) false, τ) := fun τ => by
    have := L8.close1 τ
    rw [this, List.map_append]; rfl
  have cA : ∀ bs τ, callT T 10 [.agg [.isl (relsD.map GD.enc) false, x4, .isl (rs.map GR.enc) false]] bs τ = some (.tup [.int .i64 60, .int .i64 (-1)], τ) := fun bs τ => by
    have := callCheckI _ sa (σ := τ) (σ' := τ) (d := .isl (relsD.map GD.enc) false) (f := x4) (r := .isl (rs.map GR.enc) false) (by simp [closeA, closeL, q4, GP.enc_eq]) bs
    rwa [ka] at this
  have cB : ∀ bs τ, callT T 10 [.agg [.isl (relsD.map GD.enc) false, x6, .isl (rs.map GR.enc) false]] bs τ = some (.tup [.int .i64 60, .int .i64 (-1)], τ) := fun bs τ => by
    have := callCheckI _ sb (σ := τ) (σ' := τ) (d := .isl (relsD.map GD.enc) false) (f := x6) (r := .isl (rs.map GR.enc) false) (by simp [closeA, closeL, q6, GP.enc_eq]) bs
    rwa [kb] at this
  have cC : ∀ bs τ, callT T 10 [.agg [x8, .isl (fs.map GU.enc) false, .isl (rs.map GR.enc) false]] bs τ = some (.tup [.int .i64 60, .int .i64 (-1)], τ) := fun bs τ => by
    have := callCheckI _ sc (σ := τ) (σ' := τ) (d := x8) (f := .isl (fs.map GU.enc) false) (r := .isl (rs.map GR.enc) false) (by simp [closeA, closeL, q8, GP.enc_eq]) bs
    rwa [kc] at this
  obtain ⟨m, hm⟩ : ∃ m, σ8.length = m := ⟨_, rfl⟩
  refine W_for T 0 123 3 (fun i f σ => f 7 = .bool true ∧ f 8 = .ptr 0 0 ∧ f 9 = .ptr 1 0 ∧ f 76 = .sl m 0 3 3 true ∧ f 77 = .int .i64 3 ∧ f 78 = .int .i64 (i : Int) ∧ m + 1 ≤ σ.length ∧ σ[0]? = some (.cells [.isl (relsD.map GD.enc) false, .isl (fs.map GU.enc) false, .isl (rs.map GR.enc) false] 0 false) ∧ σ[1]? = some (.cells [.str t.name, .isl (v.enc :: GV.encs l) false] 0 false) ∧ σ[m]? = some (.cells [.isl (relsD.map GD.enc) false, x4, .isl (rs.map GR.enc) false, .isl (relsD.map GD.enc) false, x6, .isl (rs.map GR.enc) false, x8, .isl (fs.map GU.enc) false, .isl (rs.map GR.enc) false] 0 false)) ?_ _ _ ?_
  · rintro i f σ hi ⟨h7, h8, h9, h76, h77, h78, hN, z0, z1, zm⟩
    have i0 : 0 < σ.length := by omega
    have i1 : 1 < σ.length := by omega
    have im : m < σ.length := by omega
    have w1 : IntKind.i64.wrap 1 = 1 := by decide
    have w2 : IntKind.i64.wrap 2 = 2 := by decide
    have w3 : IntKind.i64.wrap 3 = 3 := by decide
    have hi4 : i = 0 ∨ i = 1 ∨ i = 2 ∨ i = 3 := by omega
    rcases hi4 with rfl | rfl | rfl | rfl
    · simp [h7, h8, h9, h76, h77, h78, z0, z1, zm, cA, cB, cC, i0, i1, im, w1, w2, w3, setRun, L4.solid, L4.cells, L6.solid, L6.cells, L8.solid, L8.cells, -appendA_ag, -getElem?_pos, List.getElem?_append_left, List.getElem?_append_right, List.getElem?_set_ne, list_set_at, List.getElem?_cons_zero, List.getElem?_cons_succ]
      omega
    · simp [h7, h8, h9, h76, h77, h78, z0, z1, zm, cA, cB, cC, i0, i1, im, w1, w2, w3, setRun, L4.solid, L4.cells, L6.solid, L6.cells, L8.solid, L8.cells, -appendA_ag, -getElem?_pos, List.getElem?_append_left, List.getElem?_append_right, List.getElem?_set_ne, list_set_at, List.getElem?_cons_zero, List.getElem?_cons_succ]
      omega
    · simp [h7, h8, h9, h76, h77, h78, z0, z1, zm, cA, cB, cC, i0, i1, im, w1, w2, w3, setRun, L4.solid, L4.cells, L6.solid, L6.cells, L8.solid, L8.cells, -appendA_ag, -getElem?_pos, List.getElem?_append_left, List.getElem?_append_right, List.getElem?_set_ne, list_set_at, List.getElem?_cons_zero, List.getElem?_cons_succ]
      omega
    · simp [h7, h8, h9, h76, h77, h78, z0, z1, zm, i0, i1, im, setRun, -appendA_ag, -getElem?_pos, List.getElem?_append_left, List.getElem?_append_right, List.getElem?_set_ne, list_set_at, List.getElem?_cons_zero, List.getElem?_cons_succ]
      refine stW_two (j := σ.length + 1) (pre := [.str t.name]) (y := .isl (v.enc :: GV.encs l) false) (by simp) (by simp [-appendA_ag, -getElem?_pos, List.getElem?_append_left, List.getElem?_append_right, List.getElem?_set_ne, list_set_at, List.getElem?_cons_zero, List.getElem?_cons_succ]) rfl (LastOk.isl _ _) rfl (GU.encs_okEl fs) (by omega) (by omega) (by omega) (by omega) (by omega) (by omega) (fun x hx => by simp at hx; rcases hx with rfl | rfl <;> simp [okRef, h9] <;> omega) fun y9 x10 σ10 L10 l10 k10 => ?_
      simp at l10 k10
      have j0 : σ10[0]? = some (.cells [.isl (relsD.map GD.enc) false, .isl (fs.map GU.enc) false, .isl (rs.map GR.enc) false] 0 false) := by rw [k10 0 (by omega) (by omega)]; simp [z0, i0, -appendA_ag, -getElem?_pos, List.getElem?_append_left, List.getElem?_append_right, List.getElem?_set_ne, list_set_at, List.getElem?_cons_zero, List.getElem?_cons_succ]
      have jd : σ10[σ.length]? = some (.cells [.isl (relsD.map GD.enc) false, .isl (fs.map GU.enc) false, .isl (rs.map GR.enc) false] 0 false) := by rw [k10 _ (by omega) (by omega)]; simp [-appendA_ag, -getElem?_pos, List.getElem?_append_left, List.getElem?_append_right, List.getElem?_set_ne, list_set_at, List.getElem?_cons_zero, List.getElem?_cons_succ]
      have jl0 : 0 < σ10.length := by omega
      have jld : σ.length < σ10.length := by omega
      have nd : σ.length ≠ 0 := by omega
      have q10 : ∀ τ, close1 τ x10 = some (.isl ((fs ++ [t]).map GU.enc) false, τ) := fun τ => by
        have := L10.close1 τ
        rw [this, List.map_append]; simp [GU.enc_eq, hve]
      have cD : ∀ bs τ, callT T 10 [.agg [.isl (relsD.map GD.enc) false, x10, .isl (rs.map GR.enc) false]] bs τ = some (.tup [.int .i64 e, .int .i64 n], τ) := fun bs τ => by
        have := callCheckI _ sd (σ := τ) (σ' := τ) (d := .isl (relsD.map GD.enc) false) (f := x10) (r := .isl (rs.map GR.enc) false) (by simp [closeA, closeL, q10, GP.enc_eq]) bs
        rwa [kd] at this
      simp [h7, h8, j0, jd, jl0, jld, nd, hck, cD, L10.solid, L10.cells, setRun, -appendA_ag, -getElem?_pos, List.getElem?_append_left, List.getElem?_append_right, List.getElem?_set_ne, list_set_at, List.getElem?_cons_zero, List.getElem?_cons_succ]
  · have m0 : 0 < m := by omega
    have m1 : 1 < m := by omega
    simp [m0, m1, v0, v1, g0, g1, gA, gB, gC, nc0, nc1, hm, -appendA_ag, -getElem?_pos, List.getElem?_append_left, List.getElem?_append_right, List.getElem?_set_ne, list_set_at, List.getElem?_cons_zero, List.getElem?_cons_succ]
end Go.Proofs.Ytiikmmbfhbianaa
end
section
set_option linter.unusedVariables false
set_option linter.unusedSimpArgs false
set_option linter.unnecessarySimpa false
set_option maxRecDepth 100000
namespace Go.Proofs.Ytiikmmbfhbianaa
open Go.Mach
def plainG (x : GL) : Bool := decide (x.kind = 1) && x.args.all fun t => decide (t.kind ≠ 4)
def simpleT (t : GT) : Prop := t.kind = 1 ∨ t.kind = 4 ∨ vs1 t = []
theorem mem_addB6 (b : List ByteArray) (n m : ByteArray) : m ∈ addB b n ↔ m ∈ b ∨ m = n := by
  unfold addB
  split
  · rename_i h
    have := (memB_iff n b).1 h
    constructor
    · exact .inl
    · rintro (h | rfl)
      · exact h
      · exact this
  · simp
theorem mem_foldB : ∀ (ns b : List ByteArray) (m : ByteArray), m ∈ ns.foldl addB b ↔ m ∈ b ∨ m ∈ ns
  | [], b, m => by simp
  | n :: ns, b, m => by rw [List.foldl_cons, mem_foldB ns, mem_addB6, List.mem_cons, or_assoc]
theorem mem_takesB (b : List ByteArray) (x : GL) (m : ByteArray) : m ∈ takesB b x ↔ m ∈ b ∨ (x.kind = 1 ∧ m ∈ tops x.args) := by
  unfold takesB
  split
  · rename_i h; rw [mem_foldB]; simp [h]
  · rename_i h; simp [h]
theorem allB_iff (b : List ByteArray) (l : List GT) : allB b l = true ↔ ∀ m ∈ vsL l, m ∈ b := by
  unfold allB
  rw [List.all_eq_true]
  constructor
  · exact fun h m hm => (memB_iff m b).1 (h m hm)
  · exact fun h m hm => (memB_iff m b).2 (h m hm)
theorem allB_mono {b d : List ByteArray} (h : ∀ m ∈ b, m ∈ d) {l : List GT} (ha : allB b l = true) : allB d l = true := by
  rw [allB_iff] at ha ⊢
  exact fun m hm => h m (ha m hm)
theorem mem_vsL : ∀ (l : List GT) (m : ByteArray), m ∈ vsL l ↔ ∃ t ∈ l, m ∈ vs1 t
  | [], m => by simp [vsL]
  | t :: l, m => by simp [vsL, mem_vsL l m]
theorem takes_no4 {b : List ByteArray} {x : GL} (h4 : x.kind ≠ 4) : takesP b x = if allB (takesB b x) x.args = false then (61, takesB b x) else (0, takesB b x) := by
  unfold takesP; simp only [if_pos h4]
theorem plain_takes {b : List ByteArray} {x : GL} (hp : plainG x = true) (hs : ∀ t ∈ x.args, simpleT t) : takesP b x = (0, takesB b x) := by
  simp only [plainG, Bool.and_eq_true, decide_eq_true_eq, List.all_eq_true] at hp
  have ha : allB (takesB b x) x.args = true := by
    rw [allB_iff]
    intro m hm
    obtain ⟨t, ht, hmt⟩ := (mem_vsL _ _).1 hm
    rw [mem_takesB]
    rcases hs t ht with h | h | h
    · refine .inr ⟨hp.1, ?_⟩
      rw [vs1_eq, if_pos h] at hmt
      simp at hmt; subst hmt
      exact List.mem_map.2 ⟨t, List.mem_filter.2 ⟨ht, by simp [h]⟩, rfl⟩
    · exact absurd h (hp.2 t ht)
    · rw [h] at hmt; cases hmt
  rw [takes_no4 (by omega), ha]; rfl
theorem plains_go : ∀ (ls : List GL) (b : List ByteArray), (∀ l ∈ ls, plainG l = true ∧ ∀ t ∈ l.args, simpleT t) → (goB b ls).1 = 0 ∧ (∀ m ∈ b, m ∈ (goB b ls).2) ∧ ∀ l ∈ ls, ∀ m ∈ tops l.args, m ∈ (goB b ls).2
  | [], b, _ => ⟨rfl, fun _ h => h, fun _ h => by cases h⟩
  | l :: ls, b, h => by
    have h0 := h l (by simp)
    have e := plain_takes (b := b) h0.1 h0.2
    obtain ⟨h1, h2, h3⟩ := plains_go ls (takesB b l) fun x hx => h x (by simp [hx])
    have hk : l.kind = 1 := by
      have := h0.1
      simp only [plainG, Bool.and_eq_true, decide_eq_true_eq] at this
      exact this.1
    have eg : goB b (l :: ls) = goB (takesB b l) ls := by simp only [goB, e]; rfl
    rw [eg]
    refine ⟨h1, fun m hm => h2 m ((mem_takesB b l m).2 (.inl hm)), fun x hx m hm => ?_⟩
    rcases List.mem_cons.1 hx with rfl | hx
    · exact h2 m ((mem_takesB b x m).2 (.inr ⟨hk, hm⟩))
    · exact h3 x hx m hm
theorem order_go : ∀ (ls : List GL) (c d : List ByteArray), (∀ l ∈ ls, l.kind ≠ 4) → (goB c ls).1 = 0 → (∀ m ∈ c, m ∈ d) → (∀ l ∈ ls, plainG l = true → ∀ m ∈ tops l.args, m ∈ d) →
    (goB d (ls.filter fun l => !plainG l)).1 = 0 ∧ ∀ m ∈ (goB c ls).2, m ∈ (goB d (ls.filter fun l => !plainG l)).2
  | [], c, d, _, _, hcd, _ => ⟨rfl, hcd⟩
  | l :: ls, c, d, h4, h0, hcd, htp => by
    have hl4 := h4 l (by simp)
    have e1 := takes_no4 (b := c) hl4
    have ha : allB (takesB c l) l.args = true := by
      cases ha : allB (takesB c l) l.args with
      | true => rfl
      | false =>
        rw [ha] at e1
        simp only [if_true] at e1
        simp [goB, e1] at h0
    rw [ha] at e1
    simp only [Bool.true_eq_false, if_false] at e1
    have eg : goB c (l :: ls) = goB (takesB c l) ls := by simp only [goB, e1]; rfl
    rw [eg] at h0 ⊢
    by_cases hp : plainG l = true
    · have ef : (l :: ls).filter (fun l => !plainG l) = ls.filter fun l => !plainG l := by rw [List.filter_cons]; simp [hp]
      rw [ef]
      refine order_go ls _ d (fun x hx => h4 x (by simp [hx])) h0 (fun m hm => ?_) fun x hx => htp x (by simp [hx])
      rcases (mem_takesB c l m).1 hm with h | ⟨_, h⟩
      · exact hcd m h
      · exact htp l (by simp) hp m h
    · have hp' : plainG l = false := by simpa using hp
      have ef : (l :: ls).filter (fun l => !plainG l) = l :: ls.filter fun l => !plainG l := by rw [List.filter_cons]; simp [hp']
      have hsub : ∀ m ∈ takesB c l, m ∈ takesB d l := fun m hm => by
        rw [mem_takesB] at hm ⊢
        rcases hm with h | h
        · exact .inl (hcd m h)
        · exact .inr h
      have e2 := takes_no4 (b := d) hl4
      rw [allB_mono hsub ha] at e2
      simp only [Bool.true_eq_false, if_false] at e2
      have eg2 : goB d (l :: ls.filter fun l => !plainG l) = goB (takesB d l) (ls.filter fun l => !plainG l) := by simp only [goB, e2]; rfl
      rw [ef, eg2]
      refine order_go ls _ _ (fun x hx => h4 x (by simp [hx])) h0 hsub fun x hx hxp m hm => ?_
      rw [mem_takesB]
      exact .inl (htp x (by simp [hx]) hxp m hm)
def orderR (r : GR) : GR := { r with body := r.body.filter plainG ++ r.body.filter fun l => !plainG l }
theorem rule_order (p : GP) (r : GR) (hs : ∀ l ∈ r.body, ∀ t ∈ l.args, simpleT t) (h4 : ∀ l ∈ r.body, l.kind ≠ 4) (h : ruleP p r = 0) : ruleP p (orderR r) = 0 := by
  unfold ruleP at h
  by_cases h1 : relsB p r = true
  · rw [h1] at h
    simp only [Bool.true_eq_false, if_false] at h
    by_cases h2 : (goB [] r.body).1 = 0
    · simp only [h2, ne_eq, not_true, if_false] at h
      have h3 : allB (goB [] r.body).2 r.args = true := by
        cases h3 : allB (goB [] r.body).2 r.args with
        | true => rfl
        | false => rw [h3] at h; simp at h
      obtain ⟨a1, a2, a3⟩ := plains_go (r.body.filter plainG) [] fun l hl => ⟨(List.mem_filter.1 hl).2, hs l (List.mem_filter.1 hl).1⟩
      obtain ⟨b1, b2⟩ := order_go r.body [] (goB [] (r.body.filter plainG)).2 h4 h2 (fun _ h => by cases h) fun l hl hp m hm => a3 l (List.mem_filter.2 ⟨hl, hp⟩) m hm
      have eg : goB [] (orderR r).body = goB (goB [] (r.body.filter plainG)).2 (r.body.filter fun l => !plainG l) := goB_on _ _ _ a1
      have er : relsB p (orderR r) = true := by
        unfold relsB at h1 ⊢
        have e1 : (orderR r).head = r.head := rfl
        have e2 : (orderR r).args = r.args := rfl
        have e3 : (orderR r).body.any (badL p) = r.body.any (badL p) := by
          show (r.body.filter plainG ++ r.body.filter fun l => !plainG l).any (badL p) = _
          rw [Bool.eq_iff_iff, List.any_eq_true, List.any_eq_true]
          constructor
          · rintro ⟨x, hx, hb⟩
            rcases List.mem_append.1 hx with hx | hx
            · exact ⟨x, (List.mem_filter.1 hx).1, hb⟩
            · exact ⟨x, (List.mem_filter.1 hx).1, hb⟩
          · rintro ⟨x, hx, hb⟩
            refine ⟨x, ?_, hb⟩
            cases hp : plainG x with
            | true => exact List.mem_append.2 (.inl (List.mem_filter.2 ⟨hx, hp⟩))
            | false => exact List.mem_append.2 (.inr (List.mem_filter.2 ⟨hx, by simp [hp]⟩))
        rw [e1, e2, e3]; exact h1
      unfold ruleP
      rw [er, eg]
      have e2 : (orderR r).args = r.args := rfl
      simp only [Bool.true_eq_false, if_false, b1, ne_eq, not_true, e2, allB_mono b2 h3]
    · simp only [ne_eq, h2, not_false_eq_true, if_true] at h
  · have h1' : relsB p r = false := by simpa using h1
    rw [h1'] at h; simp at h
theorem simple_raw (x : GRaw) : ∀ t ∈ (litR x).args, simpleT t := by
  have hv : ∀ c, simpleT (vT c) := fun c => .inl rfl
  have hn : ∀ n, simpleT (numT n) := fun n => .inr (.inr rfl)
  have hat : ∀ t ∈ atomR x, simpleT t := fun t ht => by
    obtain ⟨i, _, rfl⟩ := List.mem_map.1 ht
    split
    · exact hv _
    · unfold argR
      split
      · exact hn _
      split
      · exact .inr (.inr rfl)
      split
      · exact .inr (.inl rfl)
      · exact hv _
  unfold litR
  split
  · exact hat
  split
  · exact hat
  split
  · intro t ht
    simp only [List.mem_cons, List.not_mem_nil, or_false] at ht
    rcases ht with rfl | rfl
    · exact hv _
    · split
      · exact hn _
      · exact hv _
  · intro t ht
    simp only [List.mem_cons, List.not_mem_nil, or_false] at ht
    subst ht
    exact .inr (.inl rfl)
theorem filt_len {α : Type} (p : α → Bool) : ∀ l : List α, (l.filter p).length + (l.filter fun x => !p x).length = l.length
  | [] => rfl
  | x :: l => by
    have := filt_len p l
    cases h : p x <;> simp [List.filter_cons, h] <;> omega
theorem filt_bulk {α : Type} (enc : α → AV) (p : α → Bool) : ∀ l : List α, bulkAs ((l.filter p).map enc) + bulkAs ((l.filter fun x => !p x).map enc) = bulkAs (l.map enc)
  | [] => by simp [bulkAs]
  | x :: l => by
    have := filt_bulk enc p l
    cases h : p x <;> simp [List.filter_cons, h, bulkAs] <;> omega
theorem order_size (r : GR) : (orderR r).size = r.size := by
  have := filt_bulk GL.enc plainG r.body
  simp only [orderR, GR.size, GR.enc, bulkA, bulkAs, List.map_append, bulkAs_append] at this ⊢
  omega
theorem order_B (r : GR) (h : ruleB r = true) : ruleB (orderR r) = true := by
  unfold ruleB at h ⊢
  simp only [Bool.and_eq_true] at h
  obtain ⟨⟨⟨⟨⟨b1, b2⟩, b3⟩, b4⟩, b5⟩, b6⟩ := h
  have e1 : (orderR r).label = r.label := rfl
  have e2 : (orderR r).head = r.head := rfl
  have e3 : (orderR r).args = r.args := rfl
  have e4 : (orderR r).body.length = r.body.length := by
    have := filt_len plainG r.body
    show (r.body.filter plainG ++ r.body.filter fun l => !plainG l).length = _
    rw [List.length_append]; exact this
  have e5 : (orderR r).body.all litB = true := by
    rw [List.all_eq_true] at b5 ⊢
    intro x hx
    rcases List.mem_append.1 (show x ∈ r.body.filter plainG ++ r.body.filter fun l => !plainG l from hx) with hx | hx
    · exact b5 x (List.mem_filter.1 hx).1
    · exact b5 x (List.mem_filter.1 hx).1
  have e6 : aggB (orderR r) = true := b6
  rw [e1, e2, e3, e4, e5, e6, b1, b2, b3, b4]; rfl
theorem first_zero (p : GP) : ∀ (l : List GR) (i : Nat), (firstP p l i).1 = 0 ↔ ∀ r ∈ l, ruleP p r = 0
  | [], i => by simp [firstP]
  | r :: l, i => by
    simp only [firstP]
    by_cases h : ruleP p r ≠ 0
    · simp only [if_pos h, List.mem_cons]
      constructor
      · exact fun e => absurd e h
      · exact fun e => absurd (e r (.inl rfl)) h
    · simp only [if_neg h, first_zero p l, List.mem_cons]
      have h' : ruleP p r = 0 := by simpa using h
      constructor
      · rintro e x (rfl | hx)
        · exact h'
        · exact e x hx
      · exact fun e x hx => e x (.inr hx)
theorem first_zero2 (p : GP) : ∀ (l : List GR) (i : Nat), (∀ r ∈ l, ruleP p r = 0) → firstP p l i = (0, -1)
  | [], i, _ => rfl
  | r :: l, i, h => by
    simp only [firstP]
    rw [if_neg (by simpa using h r (by simp))]
    exact first_zero2 p l _ fun x hx => h x (by simp [hx])
theorem plain_take (l : GL) (i : Nat) (h : i < l.args.length) : ((l.args.take (i + 1)).all fun t => decide (t.kind ≠ 4)) = (((l.args.take i).all fun t => decide (t.kind ≠ 4)) && decide (l.args[i].kind ≠ 4)) := by
  rw [List.take_succ_eq_append_getElem h, List.all_append]; simp
set_option maxHeartbeats 4000000 in
theorem scopeOrder_ok (rules : List (List GRaw)) (facts : List GRaw) (hr : RawsOk rules) (hf : FactsOk facts) : pureT T c6 [.isl (encRR rules) false, .isl (facts.map GRaw.enc) false] = some (.bool true) := by
  obtain ⟨fs, rs, h6, h12, ers, efs, hP, hC⟩ := raw_prog rules facts hr hf
  obtain ⟨hc1, hs1⟩ := hC rs (fun _ h => h) (by omega)
  have hck := callCheck _ hs1
  rw [hc1] at hck
  simp only [GP.enc_eq] at hck
  obtain ⟨⟨e, n⟩, hen⟩ : ∃ x, firstP ⟨relsD, [], []⟩ rs 0 = x := ⟨_, rfl⟩
  rw [hen] at hck
  apply pure_enter (by simp [c6])
  by_cases he : e = 0
  · subst he
    cases hrs : rs with
    | nil =>
      rw [hrs] at hck hP
      simp only [List.map_nil] at hck hP
      simp [c6, callAwake6, hP, hck, setRun]
    | cons r rest =>
      have hz : ∀ x ∈ rs, ruleP ⟨relsD, [], []⟩ x = 0 := (first_zero _ rs 0).1 (by rw [hen])
      have hraw : ∀ x ∈ rs, (∀ l ∈ x.body, ∀ t ∈ l.args, simpleT t) ∧ ruleB x = true ∧ x.size ≤ 1000 := fun x hx => by
        rw [ers] at hx
        refine ⟨?_, List.all_eq_true.1 (rulesR_B rules).1 x hx, rulesR_size rules x hx⟩
        obtain ⟨p, _, rfl⟩ := List.mem_map.1 hx
        intro l hl
        obtain ⟨y, rfl⟩ := bodyR_mem p.1 hl
        exact simple_raw y
      have hrm : r ∈ rs := by rw [hrs]; simp
      obtain ⟨hr1, hr2, hr3⟩ := hraw r hrm
      have hq : (∀ l ∈ r.body, l.kind ≠ 4) → checkP ⟨relsD, fs, orderR r :: rest⟩ = (0, -1) := fun h4 => by
        rw [efs, check_rules6 facts _ ?_ ?_]
        · refine first_zero2 _ _ _ fun x hx => ?_
          rcases List.mem_cons.1 hx with rfl | hx
          · exact rule_order _ r hr1 h4 (hz r hrm)
          · exact hz x (by rw [hrs]; simp [hx])
        · rw [List.all_eq_true]; intro x hx
          rcases List.mem_cons.1 hx with rfl | hx
          · exact order_B r hr2
          · exact (hraw x (by rw [hrs]; simp [hx])).2.1
        · rw [hrs] at h6; simp only [List.length_cons] at h6 ⊢; omega
      have hqs : (GP.mk relsD fs (orderR r :: rest)).size ≤ 1000000000 := by
        have := GP.size_le ⟨relsD, fs, orderR r :: rest⟩ 20 200 1000 relsD_size (by rw [efs]; exact facts_size facts) fun x hx => by
          rcases List.mem_cons.1 hx with rfl | hx
          · rw [order_size]; exact hr3
          · exact (hraw x (by rw [hrs]; simp [hx])).2.2
        have e1 : relsD.length = 6 := rfl
        rw [hrs] at h6
        simp only [e1, List.length_cons] at this h6
        omega
      rw [hrs] at hck hP
      simp only [List.map_cons] at hck hP
      have hbl := GR.body_len r
      clear hC hz hraw hc1 hen
      have hne : ¬ ((rest.length : Int) + 1 = 0) := by omega
      simp [c6, callAwake6, hP, hck, setRun, hne]
      refine W_for T 0 117 r.body.length (fun i f σ => f 5 = .bool true ∧ f 6 = .ptr 0 0 ∧ f 9 = .ptr 1 0 ∧ f 12 = .bool ((r.body.take i).any fun l => decide (l.kind = 4)) ∧ f 13 = .int .i64 (i : Int) ∧ 2 ≤ σ.length ∧ σ[0]? = some (.cells [.isl (relsD.map GD.enc) false, .isl (fs.map GU.enc) false, .isl (r.enc :: rest.map GR.enc) false] 0 false) ∧ σ[1]? = some (.cells [.str r.label, .str r.head, .isl (GT.encs r.args) false, .str r.agg, .int .i64 r.pos, .isl (r.body.map GL.enc) false] 0 false) ∧
        LO 2 3 true σ (((r.body.take i).filter plainG).map GL.enc) (f 10) ∧ LO 2 3 true σ (((r.body.take i).filter fun l => !plainG l).map GL.enc) (f 11) ∧ apart (f 10) (f 11)) ?_ _ _ ?_
      · rintro i f σ hi ⟨h5, h6', h9, h12', h13, hN, c0, c1, hA, hB, hap⟩
        by_cases hlt : i < r.body.length
        · have hw : IntKind.i64.wrap ((i : Int) + 1) = (i : Int) + 1 := wr64 (by omega) (by omega)
          have e1 : r.body[i]? = some r.body[i] := List.getElem?_eq_getElem hlt
          have hbs := GR.body_mem r (List.getElem_mem hlt)
          have hba := GL.args_le r.body[i]
          have hbn := GT.len_sizes r.body[i].args
          have htk : r.body.take (i + 1) = r.body.take i ++ [r.body[i]] := List.take_succ_eq_append_getElem hlt
          have hla : (((r.body.take i).filter plainG).map GL.enc).length ≤ 1000000000 := by
            have := List.length_filter_le plainG (r.body.take i); simp at this ⊢; omega
          have hlb : (((r.body.take i).filter fun l => !plainG l).map GL.enc).length ≤ 1000000000 := by
            have := List.length_filter_le (fun l => !plainG l) (r.body.take i); simp at this ⊢; omega
          rw [htk, List.filter_append, List.filter_append, List.map_append, List.map_append, List.any_append]
          generalize ((r.body.take i).filter plainG).map GL.enc = ea at *
          generalize ((r.body.take i).filter fun l => !plainG l).map GL.enc = eb at *
          generalize ((r.body.take i).any fun l => decide (l.kind = 4)) = sb at *
          generalize hx10 : f 10 = x10 at *
          generalize hx11 : f 11 = x11 at *
          have i1 : 1 < σ.length := by omega
          simp [h5, h6', h9, h12', h13, c1, hlt, e1, setRun, i1, -stS, -appendA_ag, -getElem?_pos, List.getElem?_append_left, List.getElem?_append_right, List.getElem?_set_ne, list_set_at, List.getElem?_cons_zero, List.getElem?_cons_succ]
          refine W_for T 0 117 r.body[i].args.length (fun j f τ => f 5 = .bool true ∧ f 6 = .ptr 0 0 ∧ f 9 = .ptr 1 0 ∧ f 10 = x10 ∧ f 11 = x11 ∧ f 12 = .bool sb ∧ f 13 = .int .i64 (i : Int) ∧ f 14 = .ptr σ.length 0 ∧ f 15 = .bool (decide (r.body[i].kind = 1) && (r.body[i].args.take j).all fun t => decide (t.kind ≠ 4)) ∧ f 16 = .int .i64 (j : Int) ∧
            τ = σ ++ [.cells [.int .i64 r.body[i].kind, .str r.body[i].name, .isl (GT.encs r.body[i].args) false] 0 false]) ?_ _ _ ?_
          · rintro j f τ hj ⟨h5, h6', h9, h10, h11, h12', h13, h14, h15, h16, rfl⟩
            by_cases hjl : j < r.body[i].args.length
            · have hwj : IntKind.i64.wrap ((j : Int) + 1) = (j : Int) + 1 := wr64 (by omega) (by omega)
              have e2 : r.body[i].args[j]? = some r.body[i].args[j] := List.getElem?_eq_getElem hjl
              have hpt := plain_take r.body[i] j hjl
              rw [hpt, ← Bool.and_assoc]
              generalize hb : (decide (r.body[i].kind = 1) && (r.body[i].args.take j).all fun t => decide (t.kind ≠ 4)) = pb at *
              cases pb
              · simp [h5, h6', h9, h10, h11, h12', h13, h14, h15, h16, hjl, e2, hwj, -appendA_ag, -getElem?_pos, List.getElem?_append_left, List.getElem?_append_right, List.getElem?_set_ne, list_set_at, List.getElem?_cons_zero, List.getElem?_cons_succ]
              · by_cases hk : r.body[i].args[j].kind = 4
                · simp [h5, h6', h9, h10, h11, h12', h13, h14, h15, h16, hjl, e2, hwj, hk, -appendA_ag, -getElem?_pos, List.getElem?_append_left, List.getElem?_append_right, List.getElem?_set_ne, list_set_at, List.getElem?_cons_zero, List.getElem?_cons_succ]
                · simp [h5, h6', h9, h10, h11, h12', h13, h14, h15, h16, hjl, e2, hwj, hk, -appendA_ag, -getElem?_pos, List.getElem?_append_left, List.getElem?_append_right, List.getElem?_set_ne, list_set_at, List.getElem?_cons_zero, List.getElem?_cons_succ]
            · have he : j = r.body[i].args.length := by omega
              subst he
              rw [List.take_length] at h15
              have hpg : (decide (r.body[i].kind = 1) && r.body[i].args.all fun t => decide (t.kind ≠ 4)) = plainG r.body[i] := rfl
              rw [hpg] at h15
              have i0 : 0 < σ.length := by omega
              have hsb : ∀ b : Bool, f 12 = .bool b → True := fun _ _ => trivial
              by_cases hp : plainG r.body[i] = true
              · rw [hp] at h15
                have hk1 : r.body[i].kind = 1 := by
                  simp only [plainG, Bool.and_eq_true, decide_eq_true_eq] at hp; exact hp.1
                have hp0 := hp
                have hen : AV.agg [.int .i64 1, .str r.body[i].name, .isl (GT.encs r.body[i].args) false] = r.body[i].enc := by rw [GL.enc_eq, hk1]
                cases sb
                · simp [h5, h6', h9, h10, h11, h12', h13, h14, h15, h16, hk1, setRun, -appendA_ag, -getElem?_pos, List.getElem?_append_left, List.getElem?_append_right, List.getElem?_set_ne, list_set_at, List.getElem?_cons_zero, List.getElem?_cons_succ]
                  refine stW_pair2 hA hB hap rfl rfl (by omega) (by omega) hN hla fun x' σ' hx' hy' hap' hlen' hk' => ?_
                  simp [h5, h6', h9, h10, h11, h12', h13, hw, hlt, hp0, hk' 0 (by omega), hk' 1 (by omega), c0, c1, hk1, ← hen]
                  exact ⟨by omega, hx', hy', hap'⟩
                · simp [h5, h6', h9, h10, h11, h12', h13, h14, h15, h16, hk1, setRun, -appendA_ag, -getElem?_pos, List.getElem?_append_left, List.getElem?_append_right, List.getElem?_set_ne, list_set_at, List.getElem?_cons_zero, List.getElem?_cons_succ]
                  refine stW_pair2 hA hB hap rfl rfl (by omega) (by omega) hN hla fun x' σ' hx' hy' hap' hlen' hk' => ?_
                  simp [h5, h6', h9, h10, h11, h12', h13, hw, hlt, hp0, hk' 0 (by omega), hk' 1 (by omega), c0, c1, hk1, ← hen]
                  exact ⟨by omega, hx', hy', hap'⟩
              · have hp0 : plainG r.body[i] = false := by simpa using hp
                rw [hp0] at h15
                cases sb
                · by_cases hk4 : r.body[i].kind = 4
                  · have hen : AV.agg [.int .i64 4, .str r.body[i].name, .isl (GT.encs r.body[i].args) false] = r.body[i].enc := by rw [GL.enc_eq, hk4]
                    simp [h5, h6', h9, h10, h11, h12', h13, h14, h15, h16, hk4, setRun, -appendA_ag, -getElem?_pos, List.getElem?_append_left, List.getElem?_append_right, List.getElem?_set_ne, list_set_at, List.getElem?_cons_zero, List.getElem?_cons_succ]
                    refine stW_pair2 hB hA hap.symm rfl rfl (by omega) (by omega) hN hlb fun x' σ' hx' hy' hap' hlen' hk' => ?_
                    simp [h5, h6', h9, h10, h11, h12', h13, hw, hlt, hp0, hk' 0 (by omega), hk' 1 (by omega), c0, c1, hk4, ← hen]
                    exact ⟨by omega, hy', hx', hap'.symm⟩
                  · have hen : AV.agg [.int .i64 r.body[i].kind, .str r.body[i].name, .isl (GT.encs r.body[i].args) false] = r.body[i].enc := rfl
                    simp [h5, h6', h9, h10, h11, h12', h13, h14, h15, h16, hk4, setRun, -appendA_ag, -getElem?_pos, List.getElem?_append_left, List.getElem?_append_right, List.getElem?_set_ne, list_set_at, List.getElem?_cons_zero, List.getElem?_cons_succ]
                    refine stW_pair2 hB hA hap.symm rfl rfl (by omega) (by omega) hN hlb fun x' σ' hx' hy' hap' hlen' hk' => ?_
                    simp [h5, h6', h9, h10, h11, h12', h13, hw, hlt, hp0, hk' 0 (by omega), hk' 1 (by omega), c0, c1, hk4, ← hen]
                    exact ⟨by omega, hy', hx', hap'.symm⟩
                · have hen : AV.agg [.int .i64 r.body[i].kind, .str r.body[i].name, .isl (GT.encs r.body[i].args) false] = r.body[i].enc := rfl
                  simp [h5, h6', h9, h10, h11, h12', h13, h14, h15, h16, setRun, -appendA_ag, -getElem?_pos, List.getElem?_append_left, List.getElem?_append_right, List.getElem?_set_ne, list_set_at, List.getElem?_cons_zero, List.getElem?_cons_succ]
                  refine stW_pair2 hB hA hap.symm rfl rfl (by omega) (by omega) hN hlb fun x' σ' hx' hy' hap' hlen' hk' => ?_
                  simp [h5, h6', h9, h10, h11, h12', h13, hw, hlt, hp0, hk' 0 (by omega), hk' 1 (by omega), c0, c1, ← hen]
                  exact ⟨by omega, hy', hx', hap'.symm⟩
          · simp [hx10, hx11, h5, h6', h9, h12', h13]
        · have hei : i = r.body.length := by omega
          subst hei
          rw [List.take_length] at hA hB h12'
          have i0 : 0 < σ.length := by omega
          have i1 : 1 < σ.length := by omega
          by_cases hs : (r.body.any fun l => decide (l.kind = 4)) = true
          · rw [hs] at h12'
            simp [h5, h6', h9, h12', h13, c1, hlt, i1, -appendA_ag, -getElem?_pos, List.getElem?_append_left, List.getElem?_append_right, List.getElem?_set_ne, list_set_at, List.getElem?_cons_zero, List.getElem?_cons_succ]
          · have hs' : (r.body.any fun l => decide (l.kind = 4)) = false := by simpa using hs
            rw [hs'] at h12'
            have h4 : ∀ l ∈ r.body, l.kind ≠ 4 := fun l hl e => hs (List.any_eq_true.2 ⟨l, hl, by simp [e]⟩)
            have hq' := hq h4
            have hfl := filt_len plainG r.body
            obtain ⟨x2, σ2, a2, L2, l2, k2⟩ := hA.cat (bytes := 48) hB (by simp; omega) (by omega) (by omega) hN
            have d0 : σ2[0]? = some (.cells [.isl (relsD.map GD.enc) false, .isl (fs.map GU.enc) false, .isl (r.enc :: rest.map GR.enc) false] 0 false) := by rw [k2 0 (by omega)]; exact c0
            have d1 : σ2[1]? = some (.cells [.str r.label, .str r.head, .isl (GT.encs r.args) false, .str r.agg, .int .i64 r.pos, .isl (r.body.map GL.enc) false] 0 false) := by rw [k2 1 (by omega)]; exact c1
            have j0 : 0 < σ2.length := by omega
            have j1 : 1 < σ2.length := by omega
            have hsl : slSlV 6 (some (.int .i64 1)) none (.isl (r.enc :: rest.map GR.enc) false) = some (.isl (rest.map GR.enc) false) := slI_drop (n := 1) (es := r.enc :: rest.map GR.enc) (by simp) (lenIs_map GR.enc 6 (fun _ => rfl) (r :: rest))
            have hrl : rest.length ≤ 6 := by rw [hrs] at h6; simp at h6; omega
            obtain ⟨m, σ3, a3, hm, ⟨fz, ext, g3⟩, l3, k3⟩ := app_mt_isl (sz := 6) (bytes := 104) (σ := σ2.set 1 (.cells [.str r.label, .str r.head, .isl (GT.encs r.args) false, .str r.agg, .int .i64 r.pos, x2] 0 false) ++ [.cells [.isl (relsD.map GD.enc) false, .isl (fs.map GU.enc) false, .isl (r.enc :: rest.map GR.enc) false] 0 false, .cells [.str r.label, .str r.head, .isl (GT.encs r.args) false, .str r.agg, .int .i64 r.pos, x2] 0 false]) (id := σ2.length + 1) (fz := 0) (cs := [.str r.label, .str r.head, .isl (GT.encs r.args) false, .str r.agg, .int .i64 r.pos, x2]) (ys := rest.map GR.enc) (by simp [-appendA_ag, -getElem?_pos, List.getElem?_append_left, List.getElem?_append_right, List.getElem?_set_ne, list_set_at, List.getElem?_cons_zero, List.getElem?_cons_succ]) rfl (by omega) (by omega) (GR.encs_okEl rest) (by simp; omega)
            simp only [List.length_map] at a3
            simp at l3 hm k3
            have z0 : σ3[σ2.length]? = some (.cells [.isl (relsD.map GD.enc) false, .isl (fs.map GU.enc) false, .isl (r.enc :: rest.map GR.enc) false] 0 false) := by rw [k3 _ (by omega)]; simp [-appendA_ag, -getElem?_pos, List.getElem?_append_left, List.getElem?_append_right, List.getElem?_set_ne, list_set_at, List.getElem?_cons_zero, List.getElem?_cons_succ]
            have zl : σ2.length < σ3.length := by omega
            have hmn : m ≠ σ2.length := by omega
            have hck2 : ∀ bs (τ : Heap), τ[m]? = σ3[m]? → callT T 10 [.agg [.isl (relsD.map GD.enc) false, .isl (fs.map GU.enc) false, .sl m 0 (1 + rest.length) 6 true]] bs τ = some (.tup [.int .i64 0, .int .i64 (-1)], τ) := fun bs τ hτ => by
              have hq2 := hq'
              have hok : ((orderR r :: rest).map GR.enc).all (okEl 6 true) = true := GR.encs_okEl _
              have hcf := chunk_of_flat _ hok
              have hst : ∀ x : GR, x.enc.cells.map clz = x.enc.cells ∧ x.enc.cells.all simC = true := fun x => ⟨rfl, rfl⟩
              obtain ⟨f1, f2⟩ := clz_flat (sz := 6) (rest.map GR.enc) fun e he => by
                obtain ⟨x, _, rfl⟩ := List.mem_map.1 he; exact hst x
              have hx2 : clz x2 = .isl ((orderR r).body.map GL.enc) false ∧ simC x2 = true := by
                have e : (orderR r).body.map GL.enc = (r.body.filter plainG).map GL.enc ++ (r.body.filter fun l => !plainG l).map GL.enc := List.map_append
                rw [e]
                rcases L2 with ⟨h1, rfl⟩ | ⟨k, rfl, _⟩
                · rw [h1]; exact ⟨rfl, rfl⟩
                · exact ⟨rfl, rfl⟩
              have e1 : ([AV.str r.label, .str r.head, .isl (GT.encs r.args) false, .str r.agg, .int .i64 r.pos, x2] ++ flat (rest.map GR.enc)).map clz = flat ((orderR r :: rest).map GR.enc) := by
                rw [List.map_append, f1]
                simp only [List.map_cons, List.map_nil, hx2.1]
                simp [flat, orderR, GR.enc, AV.cells, clz]
              have e2 : (flat (rest.map GR.enc)).length = rest.length * 6 := by
                have : ∀ l : List GR, (flat (l.map GR.enc)).length = l.length * 6 := fun l => by
                  induction l with
                  | nil => rfl
                  | cons x l ih =>
                    have hf : flat ((x :: l).map GR.enc) = x.enc.cells ++ flat (l.map GR.enc) := by simp [flat]
                    rw [hf, List.length_append, ih]; simp [GR.enc]; omega
                exact this rest
              obtain ⟨τ', hcl⟩ := close1_sl (sz := 6) (n := 1 + rest.length) (hτ.trans g3) (by rw [List.length_append, e2]; simp; omega) (by rw [List.all_append, f2, Bool.and_true]; simp only [List.all_cons, List.all_nil, hx2.2]; rfl) (by omega) (by rw [e1]; have := hcf; rwa [List.length_map, List.length_cons, Nat.add_comm] at this)
              have := callCheckI _ hqs (σ := τ) (σ' := τ') (d := .isl (relsD.map GD.enc) false) (f := .isl (fs.map GU.enc) false) (r := .sl m 0 (1 + rest.length) 6 true) (by
                have i1 : ∀ (σ : Heap) es, close1 σ (.isl es false) = some (.isl es false, σ) := fun _ _ => rfl
                simp only [closeA, closeL, i1, Option.bind_some, hcl, Option.map_some]
                rfl) bs
              rwa [hq2] at this
            have hck3 : ∀ o bs, callT T 10 [.agg [.isl (relsD.map GD.enc) false, .isl (fs.map GU.enc) false, .sl m 0 (1 + rest.length) 6 true]] bs (σ3.set σ2.length o) = some (.tup [.int .i64 0, .int .i64 (-1)], σ3.set σ2.length o) := fun o bs => hck2 bs _ (by rw [List.getElem?_set_ne (Ne.symm hmn)])
            simp [h5, h6', h9, h12', h13, c1, hlt, i0, i1, a2, d0, d1, j0, j1, L2.solid, L2.cells, setRun, hsl, a3, z0, zl, hck3, -appendA_ag, -getElem?_pos, List.getElem?_append_left, List.getElem?_append_right, List.getElem?_set_ne, list_set_at, List.getElem?_cons_zero, List.getElem?_cons_succ]
            done
      · simp
        exact ⟨LO.nil _ _ _ _, apart_nil _ _ _⟩
  · simp [c6, callAwake6, hP, hck, setRun, he]
end Go.Proofs.Ytiikmmbfhbianaa
end
section
set_option linter.unusedVariables false
set_option linter.unusedSimpArgs false
set_option linter.unnecessarySimpa false
namespace Go.Proofs.Ytiikmmbfhbianaa
open Go.Mach
structure IsRaw (P : Program) (tR tA tI : TypeId) : Prop where
  fs : ∃ fs : Array Field, P.underlying tR = some (.struct fs) ∧ fs.toList.map (·.type) = [tI, tI, tA]
  arr : P.underlying tA = some (.array 4 tI)
  int : P.underlying tI = some (.int .i64)
theorem asRaw {P : Program} {tR tA tI : TypeId} (hT : IsRaw P tR tA tI) {x : AV} (h : TyA P tR x) : ∃ v : GRaw, x = v.enc ∧ v.ok := by
  have e1 : IntKind.i64.min = -9223372036854775808 := by decide
  have e2 : IntKind.i64.max = 9223372036854775807 := by decide
  obtain ⟨fs0, hf0, hts⟩ := hT.fs
  obtain ⟨vs, rfl, hl, hv⟩ := h.asStruct hf0
  have hlen : vs.length = 3 := by rw [hl, ← List.length_map (f := (·.type)), hts]; rfl
  match vs, hlen with
  | [x0, x1, x2], _ =>
    obtain ⟨y0, rfl, p0, q0⟩ := (field_ty hts hv (i := 0) rfl rfl).asInt hT.int
    obtain ⟨y1, rfl, p1, q1⟩ := (field_ty hts hv (i := 1) rfl rfl).asInt hT.int
    obtain ⟨ws, rfl, hwl, hw⟩ := (field_ty hts hv (i := 2) rfl rfl).asArray hT.arr
    match ws, hwl with
    | [w0, w1, w2, w3], _ =>
      obtain ⟨z0, rfl, a0, b0⟩ := (hw w0 (by simp)).asInt hT.int
      obtain ⟨z1, rfl, a1, b1⟩ := (hw w1 (by simp)).asInt hT.int
      obtain ⟨z2, rfl, a2, b2⟩ := (hw w2 (by simp)).asInt hT.int
      obtain ⟨z3, rfl, a3, b3⟩ := (hw w3 (by simp)).asInt hT.int
      rw [e1] at p0 p1 a0 a1 a2 a3; rw [e2] at q0 q1 b0 b1 b2 b3
      exact ⟨⟨y0, y1, z0, z1, z2, z3⟩, by simp [GRaw.enc, flat], ⟨p0, q0⟩, ⟨p1, q1⟩, ⟨a0, b0⟩, ⟨a1, b1⟩, ⟨a2, b2⟩, ⟨a3, b3⟩⟩
theorem argRaws {P : Program} {tL tR tA tI : TypeId} (hT : IsRaw P tR tA tI) (hL : P.underlying tL = some (.slice tR)) {x : AV} (h : TyA P tL x) (hb : bulkA x ≤ 1048576) : ∃ l : List GRaw, x = .isl (l.map GRaw.enc) false ∧ FactsOk l := by
  obtain ⟨es, rfl, hes⟩ := h.asSlice hL
  obtain ⟨l, rfl, hl⟩ := list_enc GRaw.enc GRaw.ok es fun z hz => asRaw hT (hes z hz)
  have := bulk_len (l.map GRaw.enc)
  simp only [bulkA, List.length_map] at hb this
  exact ⟨l, rfl, hl, by omega⟩
theorem argRR {P : Program} {tLL tL tR tA tI : TypeId} (hT : IsRaw P tR tA tI) (hL : P.underlying tL = some (.slice tR)) (hLL : P.underlying tLL = some (.slice tL)) {x : AV} (h : TyA P tLL x) (hb : bulkA x ≤ 1048576) : ∃ l : List (List GRaw), x = .isl (encRR l) false ∧ RawsOk l := by
  obtain ⟨es, rfl, hes⟩ := h.asSlice hLL
  simp only [bulkA] at hb
  obtain ⟨l, rfl, hl⟩ := list_enc (fun l : List GRaw => AV.isl (l.map GRaw.enc) false) FactsOk es fun z hz => by
    have := bulk_mem hz
    exact argRaws hT hL (hes z hz) (by omega)
  have := bulk_len (l.map fun l : List GRaw => AV.isl (l.map GRaw.enc) false)
  simp only [List.length_map] at this
  exact ⟨l, rfl, fun y hy => hl y hy, by omega⟩
theorem tyRaw : IsRaw Try.prog 60 58 3 := ⟨fieldTys_some (by kernel_rfl), by kernel_rfl, by kernel_rfl⟩
theorem argF6 {x : AV} (h : TyA Try.prog 23 x) (hb : bulkA x ≤ 1048576) : ∃ l : List GRaw, x = .isl (l.map GRaw.enc) false ∧ FactsOk l := argRaws tyRaw (by kernel_rfl) h hb
theorem argR6 {x : AV} (h : TyA Try.prog 22 x) (hb : bulkA x ≤ 1048576) : ∃ l : List (List GRaw), x = .isl (encRR l) false ∧ RawsOk l := argRR (tL := 23) tyRaw (by kernel_rfl) (by kernel_rfl) h hb
end Go.Proofs.Ytiikmmbfhbianaa
end
