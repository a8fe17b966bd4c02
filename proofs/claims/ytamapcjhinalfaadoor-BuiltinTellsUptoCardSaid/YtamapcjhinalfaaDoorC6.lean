import Derived.Test.YtamapcjhinalfaaDoorC5
import Derived.Test.YtamapcjhinalfaaDoorChecked
import Derived.KernelRfl
section
set_option linter.unusedVariables false
set_option linter.unusedSimpArgs false
set_option linter.unnecessarySimpa false
namespace Go.Mach
/-! ### Slices of structs -/
theorem setRun_take : ∀ (vs cs : List AV) (o : Nat), o + vs.length ≤ cs.length → setRun cs o vs = cs.take o ++ vs ++ cs.drop (o + vs.length)
  | [], cs, o, h => by simp [setRun]
  | v :: vs, cs, o, h => by
    simp only [List.length_cons] at h
    rw [setRun, setRun_take vs _ _ (by simp; omega)]
    rw [List.take_set, List.take_add_one, List.drop_set]
    have h1 : o < cs.length := by omega
    rw [if_pos (by omega)]
    simp only [List.getElem?_eq_getElem h1, Option.toList_some, List.length_cons]
    rw [List.set_append_right _ _ (by simp; omega)]
    simp only [List.length_take, Nat.min_eq_left (Nat.le_of_lt h1), Nat.sub_self, List.set_cons_zero]
    rw [show o + 1 + vs.length = o + (vs.length + 1) by omega]
    simp
theorem flat_cons (x : AV) (es : List AV) : flat (x :: es) = x.cells ++ flat es := by simp [flat]
theorem flat_len {s : Nat} : ∀ {es : List AV}, (∀ e ∈ es, e.cells.length = s) → (flat es).length = es.length * s
  | [], _ => by simp [flat]
  | x :: es, h => by
    rw [flat_cons, List.length_append, flat_len fun e he => h e (by simp [he]), h x (by simp), List.length_cons, Nat.add_mul]; omega
theorem flat_win {s : Nat} : ∀ {es : List AV} {i : Nat} (hi : i < es.length), (∀ e ∈ es, e.cells.length = s) → window (flat es) (i * s) s = some es[i].cells
  | x :: es, 0, hi, h => by
    have hx := h x (by simp)
    unfold window
    rw [flat_cons, if_pos (by simp; omega)]
    simp only [Nat.zero_mul, List.drop_zero, List.getElem_cons_zero]
    rw [List.take_append_of_le_length (by omega), List.take_of_length_le (by omega)]
  | x :: es, i + 1, hi, h => by
    have hx := h x (by simp)
    have hi' : i < es.length := by simpa using hi
    have ih := flat_win hi' (fun e he => h e (by simp [he]))
    have hl : (flat es).length = es.length * s := flat_len (fun e he => h e (List.mem_cons_of_mem _ he))
    unfold window at ih ⊢
    split at ih
    · rename_i hc
      rw [flat_cons, if_pos (by simp; rw [Nat.add_mul]; omega)]
      injection ih with ih
      rw [List.getElem_cons_succ, ← ih]
      have e : (i + 1) * s = x.cells.length + i * s := by rw [Nat.add_mul]; omega
      rw [e, List.drop_append, List.drop_of_length_le (by omega), List.nil_append, Nat.add_sub_cancel_left]
    · cases ih
theorem flat_set {s : Nat} {v : AV} (hv : v.cells.length = s) : ∀ {es : List AV} {i : Nat} (hi : i < es.length), (∀ e ∈ es, e.cells.length = s) → setRun (flat es) (i * s) v.cells = flat (es.set i v)
  | x :: es, 0, hi, h => by
    have hx := h x (by simp)
    rw [setRun_take _ _ _ (by rw [flat_cons]; simp; omega), flat_cons, List.set_cons_zero, flat_cons]
    simp only [Nat.zero_mul, List.take_zero, List.nil_append, Nat.zero_add]
    rw [List.drop_append, List.drop_of_length_le (by omega), hv, hx]; simp
  | x :: es, i + 1, hi, h => by
    have hx := h x (by simp)
    have hi' : i < es.length := by simpa using hi
    have ih := flat_set hv hi' (fun e he => h e (by simp [he]))
    have hl : (flat es).length = es.length * s := flat_len (fun e he => h e (List.mem_cons_of_mem _ he))
    have hle : i * s + s ≤ es.length * s := by rw [← Nat.succ_mul]; exact Nat.mul_le_mul_right _ hi'
    have hl' : (flat es).length = es.length * s := flat_len fun e he => h e (by simp [he])
    rw [setRun_take _ _ _ (by omega)] at ih
    rw [setRun_take _ _ _ (by rw [flat_cons, List.length_append, hl, Nat.add_mul]; omega), flat_cons, List.set_cons_succ, flat_cons, ← ih]
    have e : (i + 1) * s = x.cells.length + i * s := by rw [Nat.add_mul]; omega
    rw [e, List.take_append, List.drop_append]
    simp only [List.append_assoc]
    rw [List.take_of_length_le (by omega), List.drop_of_length_le (by omega)]
    simp only [List.nil_append]
    congr 2
    · rw [Nat.add_sub_cancel_left]
    · congr 2
      omega
theorem flat_chunk {s : Nat} : ∀ {es : List AV}, (∀ e ∈ es, ∃ cs, e = .agg cs ∧ cs.length = s) → chunk s true es.length (flat es) = some es
  | [], _ => rfl
  | x :: es, h => by
    obtain ⟨cs, rfl, hl⟩ := h x (by simp)
    have ih := flat_chunk (es := es) (fun e he => h e (List.mem_cons_of_mem _ he))
    simp only [List.length_cons, chunk]
    rw [flat_cons]
    show ((mk true ((cs ++ flat es).take s)).bind _) = _
    rw [List.take_append_of_le_length (by omega), List.take_of_length_le (by omega)]
    show ((chunk s true es.length ((cs ++ flat es).drop s)).map _) = _
    rw [List.drop_append, List.drop_of_length_le (by omega), hl, Nat.sub_self, List.drop_zero, List.nil_append, ih]; rfl
theorem encsV_len (l : List GV) : ∀ e ∈ GV.encs l, e.cells.length = 4 := fun e he => by
  rw [GV.encs_map] at he; obtain ⟨v, _, rfl⟩ := List.mem_map.1 he; simp
theorem encsV_agg (l : List GV) : ∀ e ∈ GV.encs l, ∃ cs, e = .agg cs ∧ cs.length = 4 := fun e he => by
  rw [GV.encs_map] at he; obtain ⟨v, _, rfl⟩ := List.mem_map.1 he; exact ⟨_, GV.enc_eq v, rfl⟩
def clo1n : AV → Bool
  | .isl _ true => false
  | x => x.clo1
theorem clo1n_all {l : List AV} (h : l.all clo1n = true) : l.all AV.clo1 = true ∧ l.map AV.nrm = l := by
  induction l with
  | nil => exact ⟨rfl, rfl⟩
  | cons x l ih =>
    simp only [List.all_cons, Bool.and_eq_true] at h
    obtain ⟨h1, h2⟩ := ih h.2
    have hx : x.clo1 = true ∧ x.nrm = x := by
      have := h.1
      cases x <;> first | exact ⟨rfl, rfl⟩ | (cases this; done) | skip
      rename_i es c
      cases c
      · exact ⟨rfl, rfl⟩
      · cases this
    exact ⟨by simp [h1, hx.1], by simp only [List.map_cons, hx.2, h2]⟩
theorem encsV_clo (l : List GV) : (flat (GV.encs l)).all clo1n = true := by
  rw [List.all_eq_true]; intro x hx
  obtain ⟨e, he, hxe⟩ := List.mem_flatMap.1 hx
  rw [GV.encs_map] at he; obtain ⟨v, _, rfl⟩ := List.mem_map.1 he
  rw [GV.enc_cells] at hxe
  simp at hxe; rcases hxe with rfl | rfl | rfl | rfl <;> rfl
theorem encsB_len (l : List GB) : ∀ e ∈ GB.encs l, e.cells.length = 5 := fun e he => by
  obtain ⟨v, _, rfl⟩ := List.mem_map.1 he; rfl
theorem encsB_agg (l : List GB) : ∀ e ∈ GB.encs l, ∃ cs, e = .agg cs ∧ cs.length = 5 := fun e he => by
  obtain ⟨v, _, rfl⟩ := List.mem_map.1 he; exact ⟨_, rfl, rfl⟩
theorem encsT_len (l : List GT) : ∀ e ∈ GT.encs l, e.cells.length = 7 := fun e he => by
  rw [GT.encs_map] at he; obtain ⟨v, _, rfl⟩ := List.mem_map.1 he; simp
theorem encsT_agg (l : List GT) : ∀ e ∈ GT.encs l, ∃ cs, e = .agg cs ∧ cs.length = 7 := fun e he => by
  rw [GT.encs_map] at he; obtain ⟨v, _, rfl⟩ := List.mem_map.1 he; exact ⟨_, GT.enc_eq v, rfl⟩
theorem encsT_clo (l : List GT) : (flat (GT.encs l)).all clo1n = true := by
  rw [List.all_eq_true]; intro x hx
  obtain ⟨e, he, hxe⟩ := List.mem_flatMap.1 hx
  rw [GT.encs_map] at he; obtain ⟨v, _, rfl⟩ := List.mem_map.1 he
  rw [GT.enc_cells] at hxe
  simp at hxe; rcases hxe with rfl | rfl | rfl | rfl | rfl | rfl | rfl <;> rfl
theorem encsB_clo (l : List GB) : (flat (GB.encs l)).all clo1n = true := by
  rw [List.all_eq_true]; intro x hx
  obtain ⟨e, he, hxe⟩ := List.mem_flatMap.1 hx
  obtain ⟨v, _, rfl⟩ := List.mem_map.1 he
  rw [GB.enc_cells] at hxe
  simp at hxe; rcases hxe with rfl | rfl | rfl | rfl | rfl <;> rfl
theorem close1_flat {σ : Heap} {id s fz : Nat} {ext : Bool} {es : List AV} (h : σ[id]? = some (.cells (flat es) fz ext)) (hne : es ≠ []) (ha : ∀ e ∈ es, ∃ cs, e = .agg cs ∧ cs.length = s) (hc : (flat es).all clo1n = true) :
    close1 σ (.sl id 0 es.length s true) = some (.isl es false, frz σ id (es.length * s)) := by
  have hl : ∀ e ∈ es, e.cells.length = s := fun e he => by obtain ⟨cs, rfl, hl⟩ := ha e he; exact hl
  have h0 : es.length ≠ 0 := fun e => hne (List.eq_nil_of_length_eq_zero e)
  apply close1_of0
  simp only [close0, if_neg h0, h]
  rw [window_full (flat_len hl), Option.bind_some, if_pos (clo1n_all hc).1, (clo1n_all hc).2, flat_chunk ha]
  simp
/-! ### append of a closed slice -/
theorem app_isl_nil {σ : Heap} {sz bytes : Nat} {ag mt c : Bool} {k : Nat} {es : List AV} : appendA σ sz ag bytes mt (.own k es) (.isl [] c) = some (.own k es, σ) := rfl
theorem app_isl_nil2 {σ : Heap} {sz bytes : Nat} {ag mt c c2 : Bool} {es : List AV} : appendA σ sz ag bytes mt (.isl es c2) (.isl [] c) = some (.isl es c2, σ) := rfl
theorem app_isl_nil3 {σ : Heap} {sz bytes id fz : Nat} {ext c : Bool} {cs : List AV} (hs : σ[id]? = some (.cells cs fz ext)) (hl1 : cs.length = sz) : appendA σ sz true bytes false (.sl id 0 1 sz true) (.isl [] c) = some (.sl id 0 1 sz true, σ) := by
  have he := elems_ag1 hs hl1
  have he2 : elemsN σ sz true (.isl [] c) = some [] := rfl
  simp only [appendA, he, he2, Option.bind_some, isSl]
  simp
theorem app_isl_own {σ : Heap} {sz bytes : Nat} {ag c : Bool} {k : Nat} {es xs : List AV} (hx : xs ≠ []) (h1 : es.all (okEl sz ag) = true) (h2 : xs.all (okEl sz ag) = true) (hl : es.length + xs.length ≤ 10000000000) (hb : bytes ≤ 1000) (h0 : 0 < sz) (hk : σ[k]? = some (.tok es.length sz)) :
    appendA σ sz ag bytes false (.own k es) (.isl xs c) = some (.own k (es ++ xs), σ.set k (.tok (es.length + xs.length) sz)) := by
  have he : elemsA σ sz ag (.own k es) = some es := rfl
  have he2 : elemsN σ sz ag (.isl xs c) = some xs := rfl
  have hmul : (es.length + xs.length) * bytes ≤ 10000000000 * 1000 := Nat.mul_le_mul hl hb
  have : ¬ (sz = 0 ∨ (es.length + xs.length) * bytes > 70368744177664 ∨ es.length + xs.length > 70368744177664) := by omega
  simp only [appendA, he, he2, Option.bind_some, isSl, if_neg hx, if_neg this]
  simp [h1, h2, hk]
theorem app_isl_new {σ : Heap} {sz bytes : Nat} {ag c : Bool} {xs : List AV} (hx : xs ≠ []) (h2 : xs.all (okEl sz ag) = true) (hl : xs.length ≤ 10000000000) (hb : bytes ≤ 1000) (h0 : 0 < sz) :
    appendA σ sz ag bytes false (.isl [] true) (.isl xs c) = some (.own σ.length xs, σ ++ [.tok xs.length sz]) := by
  have he : elemsA σ sz ag (.isl [] true) = some [] := rfl
  have he2 : elemsN σ sz ag (.isl xs c) = some xs := rfl
  have hmul : xs.length * bytes ≤ 10000000000 * 1000 := Nat.mul_le_mul hl hb
  have : ¬ (sz = 0 ∨ xs.length * bytes > 70368744177664 ∨ xs.length > 70368744177664) := by omega
  simp only [appendA, he, he2, Option.bind_some, isSl, if_neg hx, List.length_nil, Nat.zero_add, if_neg this]
  simp [h2]
/-- An append to a whole literal of one struct. -/
theorem app_isl_sl1 {σ : Heap} {sz bytes id : Nat} {c : Bool} {cs xs : List AV} (hs : σ[id]? = some (.cells cs 0 false)) (hl1 : cs.length = sz) (hc : cs.all AV.clo1 = true) (hx : xs ≠ []) (h2 : xs.all (okEl sz true) = true) (hl : 1 + xs.length ≤ 10000000000) (hb : bytes ≤ 1000) (h0 : 0 < sz) :
    appendA σ sz true bytes false (.sl id 0 1 sz true) (.isl xs c) = some (.own σ.length (.agg cs :: xs), σ ++ [.tok (1 + xs.length) sz]) := by
  have he := elems_ag1 hs hl1
  have he2 : elemsN σ sz true (.isl xs c) = some xs := rfl
  have hmul : (1 + xs.length) * bytes ≤ 10000000000 * 1000 := Nat.mul_le_mul hl hb
  have : ¬ (sz = 0 ∨ (1 + xs.length) * bytes > 70368744177664 ∨ 1 + xs.length > 70368744177664) := by omega
  have hok : okEl sz true (.agg cs) = true := by simp only [okEl, AV.clo, hc, AV.cells, hl1, decide_true, Bool.and_self]
  simp only [appendA, he, he2, Option.bind_some, isSl, if_neg hx, List.length_singleton, if_neg this]
  simp [h2, hs, hok, hl1]
theorem slSl_tail {sz : Nat} {x : AV} {es : List AV} {c : Bool} (h : ∀ e ∈ x :: es, e.cells.length = sz) : slSlV sz (some (.int .i64 1)) none (.isl (x :: es) c) = some (.isl es false) := by
  have hall : (x :: es).all (lenIs sz) = true := by rw [List.all_eq_true]; intro y hy; simp [lenIs, h y hy]
  have h1 : slSlA sz 1 (x :: es).length (.isl (x :: es) c) = some (.isl es false) := by
    have hc : 1 ≤ (x :: es).length ∧ (x :: es).length ≤ (x :: es).length ∧ (1 = 0 ∨ (x :: es).all (lenIs sz) = true) := ⟨by simp, Nat.le_refl _, .inr hall⟩
    simp only [slSlA, if_pos hc, List.take_of_length_le (Nat.le_refl _)]; rfl
  have h2 : bndV (x :: es).length 0 (some (.int .i64 1)) = some 1 := by
    simp only [bndV]; rw [if_pos ⟨by omega, by simp only [List.length_cons]; omega⟩]; rfl
  have h0 : ¬ isSl (.isl (x :: es) c) = false := by simp [isSl]
  have hl : lenA (.isl (x :: es) c) = some (x :: es).length := rfl
  unfold slSlV
  rw [if_neg h0, hl]
  simp only [Option.bind_some, bndV_none, h2, h1]
theorem slSl_head {sz : Nat} {x : AV} {es : List AV} {c : Bool} : slSlV sz none (some (.int .i64 1)) (.isl (x :: es) c) = some (.isl [x] false) := by
  have h1 : slSlA sz 0 1 (.isl (x :: es) c) = some (.isl [x] false) := by
    have hc : 0 ≤ 1 ∧ 1 ≤ (x :: es).length ∧ (0 = 0 ∨ (x :: es).all (lenIs sz) = true) := ⟨by omega, by simp, .inl rfl⟩
    simp only [slSlA, if_pos hc]; rfl
  have h2 : bndV (x :: es).length (x :: es).length (some (.int .i64 1)) = some 1 := by
    simp only [bndV]; rw [if_pos ⟨by omega, by simp only [List.length_cons]; omega⟩]; rfl
  have h0 : ¬ isSl (.isl (x :: es) c) = false := by simp [isSl]
  have hl : lenA (.isl (x :: es) c) = some (x :: es).length := rfl
  unfold slSlV
  rw [if_neg h0, hl]
  simp only [Option.bind_some, bndV_none, h2, h1]
end Go.Mach
end
section
set_option linter.unusedVariables false
set_option linter.unusedSimpArgs false
set_option linter.unnecessarySimpa false
namespace Go.Mach

/-! ### Arguments of the laws -/
structure IsT (P : Program) (tT tTL tV tL tI tS : TypeId) : Prop where
  fs : ∃ fs : Array Field, P.underlying tT = some (.struct fs) ∧ fs.toList.map (·.type) = [tI, tS, tV, tTL]
  list : P.underlying tTL = some (.slice tT)
  val : IsV P tV tL tI tS
structure IsB (P : Program) (tB tBL tV tL tI tS : TypeId) : Prop where
  fs : ∃ fs : Array Field, P.underlying tB = some (.struct fs) ∧ fs.toList.map (·.type) = [tS, tV]
  list : P.underlying tBL = some (.slice tB)
  val : IsV P tV tL tI tS
theorem TyA.asTerm {P : Program} {tT tTL tV tL tI tS : TypeId} (hT : IsT P tT tTL tV tL tI tS) {t : TypeId} {x : AV} (h : TyA P t x) : (t = tT → ∃ v : GT, x = v.enc ∧ v.ok) ∧ (t = tTL → ∃ l : List GT, x = .isl (GT.encs l) false ∧ GT.oks l) := by
  have e1 : IntKind.i64.min = -9223372036854775808 := by decide
  have e2 : IntKind.i64.max = 9223372036854775807 := by decide
  obtain ⟨fs0, hf0, hts⟩ := hT.fs
  have hV := hT.val
  induction h with
  | bool hu b => exact ⟨fun e => (by subst e; rw [hf0] at hu; cases hu), fun e => by subst e; rw [hT.list] at hu; cases hu⟩
  | int hu n hn => exact ⟨fun e => (by subst e; rw [hf0] at hu; cases hu), fun e => by subst e; rw [hT.list] at hu; cases hu⟩
  | str hu s => exact ⟨fun e => (by subst e; rw [hf0] at hu; cases hu), fun e => by subst e; rw [hT.list] at hu; cases hu⟩
  | @slice t e es hu hes ih =>
    refine ⟨fun e' => (by subst e'; rw [hf0] at hu; cases hu), fun e' => ?_⟩
    subst e'; rw [hT.list] at hu; injection hu with hu; injection hu with hu; subst hu
    have : ∀ l : List AV, (∀ y ∈ l, ∃ v : GT, y = v.enc ∧ v.ok) → ∃ l' : List GT, l = GT.encs l' ∧ GT.oks l' := by
      intro l
      induction l with
      | nil => intro _; exact ⟨[], rfl, trivial⟩
      | cons y l ihl =>
        intro h
        obtain ⟨v, rfl, hv⟩ := h y (by simp)
        obtain ⟨l', rfl, hl'⟩ := ihl fun z hz => h z (by simp [hz])
        exact ⟨v :: l', rfl, hv, hl'⟩
    obtain ⟨l', rfl, hl'⟩ := this es fun y hy => (ih y hy).1 rfl
    exact ⟨l', rfl, hl'⟩
  | @struct t fs vs hu hl hv ih =>
    refine ⟨fun e' => ?_, fun e' => by subst e'; rw [hT.list] at hu; cases hu⟩
    subst e'; rw [hf0] at hu; injection hu with hu; injection hu with hu; subst hu
    have hlen : vs.length = 4 := by rw [hl, ← List.length_map (f := (·.type)), hts]; rfl
    match vs, hlen with
    | [x0, x1, x2, x3], _ =>
      obtain ⟨k, rfl, k1, k2⟩ := (field_ty hts hv (i := 0) rfl rfl).asInt hV.int
      obtain ⟨s, rfl⟩ := (field_ty hts hv (i := 1) rfl rfl).asStr hV.str
      obtain ⟨v, rfl, hvo⟩ := ((field_ty hts hv (i := 2) rfl rfl).asValue hV).1 rfl
      have h3 : fs0.toList[3]?.map (·.type) = some tTL := by rw [← List.getElem?_map, hts]; rfl
      obtain ⟨f3, hf3, hft⟩ := Option.map_eq_some_iff.1 h3
      obtain ⟨l, rfl, hok⟩ := (ih 3 f3 x3 hf3 rfl).2 hft
      rw [e1] at k1; rw [e2] at k2
      refine ⟨.mk k s v l, by simp [GT.enc, flat], ⟨⟨k1, k2⟩, hvo, hok⟩⟩
theorem TyA.asBind {P : Program} {tB tBL tV tL tI tS : TypeId} (hB : IsB P tB tBL tV tL tI tS) {x : AV} (h : TyA P tB x) : ∃ v : GB, x = v.enc ∧ v.ok := by
  obtain ⟨fs0, hf0, hts⟩ := hB.fs
  have hV := hB.val
  cases h with
  | bool hu b => rw [hf0] at hu; cases hu
  | int hu n hn => rw [hf0] at hu; cases hu
  | str hu s => rw [hf0] at hu; cases hu
  | slice hu hes => rw [hf0] at hu; cases hu
  | @struct _ fs vs hu hl hv =>
    rw [hf0] at hu; injection hu with hu; injection hu with hu; subst hu
    have hlen : vs.length = 2 := by rw [hl, ← List.length_map (f := (·.type)), hts]; rfl
    match vs, hlen with
    | [x0, x1], _ =>
      obtain ⟨s, rfl⟩ := (field_ty hts hv (i := 0) rfl rfl).asStr hV.str
      obtain ⟨v, rfl, hvo⟩ := ((field_ty hts hv (i := 1) rfl rfl).asValue hV).1 rfl
      exact ⟨⟨s, v⟩, by simp [GB.enc, flat], hvo⟩
def fieldTys (P : Program) (t : TypeId) : Option (List TypeId) := match P.underlying t with
  | some (.struct fs) => some (fs.toList.map (·.type))
  | _ => none
theorem fieldTys_some {P : Program} {t : TypeId} {l : List TypeId} (h : fieldTys P t = some l) : ∃ fs : Array Field, P.underlying t = some (.struct fs) ∧ fs.toList.map (·.type) = l := by
  unfold fieldTys at h
  split at h
  · rename_i fs hu; injection h with h; exact ⟨fs, hu, h⟩
  · cases h
def OkT (l : List GT) : Prop := GT.oks l ∧ (∀ t ∈ l, t.size ≤ 1048576) ∧ l.length ≤ 1048576
def OkV (l : List GV) : Prop := GV.oks l ∧ (∀ t ∈ l, t.size ≤ 1048576) ∧ l.length ≤ 1048576
def OkB (l : List GB) : Prop := (∀ b ∈ l, b.ok) ∧ (∀ b ∈ l, b.size ≤ 1048576) ∧ l.length ≤ 1048576
theorem argT {P : Program} {tT tTL tV tL tI tS : TypeId} (hT : IsT P tT tTL tV tL tI tS) {x : AV} (h : TyA P tTL x) (hb : bulkA x ≤ 1048576) : ∃ l : List GT, x = .isl (GT.encs l) false ∧ OkT l := by
  obtain ⟨l, rfl, hl⟩ := (h.asTerm hT).2 rfl
  simp only [bulkA, GT.bulk_encs] at hb
  exact ⟨l, rfl, hl, fun t ht => by have := (GT.sizes_mem ht).1; omega, by have := GT.len_sizes l; omega⟩
theorem arg1T {P : Program} {tT tTL tV tL tI tS : TypeId} (hT : IsT P tT tTL tV tL tI tS) {x : AV} (h : TyA P tT x) (hb : bulkA x ≤ 1048576) : ∃ l : GT, x = l.enc ∧ l.ok ∧ l.size ≤ 1048576 := by
  obtain ⟨l, rfl, hl⟩ := (h.asTerm hT).1 rfl
  rw [GT.bulk_enc] at hb
  exact ⟨l, rfl, hl, hb⟩
theorem argV {P : Program} {tV tL tI tS : TypeId} (hT : IsV P tV tL tI tS) {x : AV} (h : TyA P tL x) (hb : bulkA x ≤ 1048576) : ∃ l : List GV, x = .isl (GV.encs l) false ∧ OkV l := by
  obtain ⟨l, rfl, hl⟩ := (h.asValue hT).2 rfl
  simp only [bulkA, GV.bulk_encs] at hb
  have hle : ∀ l : List GV, l.length ≤ GV.sizes l := fun l => by
    induction l with
    | nil => simp
    | cons x l ih =>
      have : 1 ≤ x.size := by cases x; simp only [GV.size]; omega
      simp only [GV.sizes, List.length_cons]; omega
  have hm : ∀ l : List GV, ∀ t ∈ l, t.size ≤ GV.sizes l := fun l => by
    induction l with
    | nil => intro t ht; cases ht
    | cons x l ih =>
      intro t ht
      rcases List.mem_cons.1 ht with rfl | ht
      · simp only [GV.sizes]; omega
      · have := ih t ht; simp only [GV.sizes]; omega
  exact ⟨l, rfl, hl, fun t ht => by have := hm l t ht; omega, by have := hle l; omega⟩
theorem argV2 {P : Program} {tV tL tI tS : TypeId} (hT : IsV P tV tL tI tS) {x : AV} (h : TyA P tL x) (hb : bulkA x ≤ 1048576) : ∃ l : List GV, x = .isl (GV.encs l) false ∧ OkV l ∧ GV.sizes l ≤ 1048576 := by
  obtain ⟨l, rfl, hl⟩ := argV hT h hb
  simp only [bulkA, GV.bulk_encs] at hb
  exact ⟨l, rfl, hl, by omega⟩
theorem arg1V {P : Program} {tV tL tI tS : TypeId} (hT : IsV P tV tL tI tS) {x : AV} (h : TyA P tV x) (hb : bulkA x ≤ 1048576) : ∃ l : GV, x = l.enc ∧ l.ok ∧ l.size ≤ 1048576 := by
  obtain ⟨l, rfl, hl⟩ := (h.asValue hT).1 rfl
  rw [GV.bulk_enc] at hb
  exact ⟨l, rfl, hl, hb⟩
theorem argB {P : Program} {tB tBL tV tL tI tS : TypeId} (hB : IsB P tB tBL tV tL tI tS) {x : AV} (h : TyA P tBL x) (hb : bulkA x ≤ 1048576) : ∃ l : List GB, x = .isl (GB.encs l) false ∧ OkB l := by
  obtain ⟨es, rfl, hes⟩ := h.asSlice hB.list
  have : ∀ l : List AV, (∀ y ∈ l, ∃ v : GB, y = v.enc ∧ v.ok) → ∃ l' : List GB, l = GB.encs l' ∧ ∀ b ∈ l', b.ok := by
    intro l
    induction l with
    | nil => intro _; exact ⟨[], rfl, by simp⟩
    | cons y l ihl =>
      intro h
      obtain ⟨v, rfl, hv⟩ := h y (by simp)
      obtain ⟨l', rfl, hl'⟩ := ihl fun z hz => h z (by simp [hz])
      exact ⟨v :: l', rfl, fun b hb => by rcases List.mem_cons.1 hb with rfl | hb; exact hv; exact hl' b hb⟩
  obtain ⟨l, rfl, hl⟩ := this es fun y hy => (hes y hy).asBind hB
  simp only [bulkA] at hb
  exact ⟨l, rfl, hl, fun b hb' => by have := GB.size_mem hb'; omega, by have := GB.len_le l; omega⟩
theorem argS {P : Program} {tS : TypeId} (hS : P.underlying tS = some .string) {x : AV} (h : TyA P tS x) (hb : bulkA x ≤ 1048576) : ∃ s : ByteArray, x = .str s ∧ s.size ≤ 1048576 := by
  obtain ⟨s, rfl⟩ := h.asStr hS
  simp only [bulkA] at hb
  exact ⟨s, rfl, by omega⟩
theorem argY {P : Program} {tI : TypeId} (hS : P.underlying tI = some (.int .u8)) {x : AV} (h : TyA P tI x) (hb : bulkA x ≤ 1048576) : ∃ n : UInt8, x = .int .u8 (n.toNat : Int) := by
  obtain ⟨n, rfl, n1, n2⟩ := h.asInt hS
  have e1 : IntKind.u8.min = 0 := by decide
  have e2 : IntKind.u8.max = 255 := by decide
  rw [e1] at n1; rw [e2] at n2
  refine ⟨UInt8.ofNat n.toNat, ?_⟩
  have : ((UInt8.ofNat n.toNat).toNat : Int) = n := by rw [UInt8.toNat_ofNat']; omega
  rw [this]
theorem argI {P : Program} {tI : TypeId} (hS : P.underlying tI = some (.int .i64)) {x : AV} (h : TyA P tI x) (hb : bulkA x ≤ 1048576) : ∃ n : Int, x = .int .i64 n ∧ GV.i64ok n := by
  have e1 : IntKind.i64.min = -9223372036854775808 := by decide
  have e2 : IntKind.i64.max = 9223372036854775807 := by decide
  obtain ⟨n, rfl, n1, n2⟩ := h.asInt hS
  rw [e1] at n1; rw [e2] at n2
  exact ⟨n, rfl, n1, n2⟩
end Go.Mach
namespace Go.Proofs.YtamapcjhinalfaaDoor
open Go.Mach
theorem tyV : IsV Tryd.prog 24 22 3 9 := ⟨fieldTys_some (by kernel_rfl), by kernel_rfl, by kernel_rfl, by kernel_rfl⟩
end Go.Proofs.YtamapcjhinalfaaDoor
end
section
set_option linter.unusedVariables false
set_option linter.unusedSimpArgs false
set_option linter.unnecessarySimpa false
namespace Go.Proofs.YtamapcjhinalfaaDoor
open Go.Mach

/-! ### How many arguments a function has -/
abbrev sCons : ByteArray := ⟨#[102, 95, 99, 111, 110, 115]⟩
abbrev sAppend : ByteArray := ⟨#[102, 95, 97, 112, 112, 101, 110, 100]⟩
abbrev sConcat : ByteArray := ⟨#[102, 95, 99, 111, 110, 99, 97, 116]⟩
abbrev sMember : ByteArray := ⟨#[102, 95, 109, 101, 109, 98, 101, 114]⟩
abbrev sSize : ByteArray := ⟨#[102, 95, 115, 105, 122, 101]⟩
abbrev sFirst : ByteArray := ⟨#[102, 95, 102, 105, 114, 115, 116]⟩
abbrev sLast : ByteArray := ⟨#[102, 95, 108, 97, 115, 116]⟩
abbrev sRest : ByteArray := ⟨#[102, 95, 114, 101, 115, 116]⟩
abbrev sReverse : ByteArray := ⟨#[102, 95, 114, 101, 118, 101, 114, 115, 101]⟩
def nilV : GV := .mk 0 0 ⟨#[]⟩ []
def arityOf (s : ByteArray) : Int :=
  if s = sCons ∨ s = sAppend ∨ s = sConcat ∨ s = sMember then 2
  else if s = sSize ∨ s = sFirst ∨ s = sLast ∨ s = sRest ∨ s = sReverse then 1 else -1
theorem refArity_ok (s : ByteArray) : pureT T c16 [.str s] = some (.int .i64 (arityOf s)) := by
  apply pure_enter (by simp [c16])
  simp [c16]
  unfold arityOf
  grind
theorem refArity (s : ByteArray) (bs : Nat) (σ : Heap) : callT T 16 [.str s] bs σ = some (.int .i64 (arityOf s), σ) := call_clean rfl rfl rfl (by simp) (refArity_ok s)
end Go.Proofs.YtamapcjhinalfaaDoor
end
section
set_option linter.unusedVariables false
set_option linter.unusedSimpArgs false
set_option linter.unnecessarySimpa false
namespace Go.Proofs.YtamapcjhinalfaaDoor
open Go.Mach

/-! ### Values out of functions -/
/-- A value and whether there is one. -/
def resO (o : Option GV) : AV := .tup [(o.getD nilV).enc, .bool o.isSome]
def numV (n : Int) : GV := .mk 1 n ⟨#[]⟩ []
def listV (l : List GV) : GV := .mk 4 0 ⟨#[]⟩ l
def made (v : GV) : Option GV := if rightT v then some v else none
theorem nilV_enc : AV.agg [.int .i64 0, .int .i64 0, .str ⟨#[]⟩, .isl [] false] = nilV.enc := by simp [nilV, GV.enc]
theorem resO_some (v : GV) : resO (some v) = .tup [v.enc, .bool true] := rfl
theorem resO_none : resO none = .tup [nilV.enc, .bool false] := rfl
@[simp] theorem resO_scal (o : Option GV) : (resO o).scal = false := by
  have : (o.getD nilV).enc.scal1 = false := by rw [GV.enc_eq]; rfl
  simp [resO, AV.scal, this]
theorem number_ok (n : Int) : pureT T c25 [.int .i64 n] = some (numV n).enc := by
  apply pure_enter (by simp [c25])
  simp [c25, setRun, numV, GV.enc]
theorem callNumber (n : Int) (bs : Nat) (σ : Heap) : callT T 25 [.int .i64 n] bs σ = some ((numV n).enc, σ) := call_clean rfl rfl rfl (by simp) (number_ok n)
theorem refNumber_ok (n : Int) : pureT T c35 [.int .i64 n] = some (numV n).enc := by
  apply pure_enter (by simp [c35])
  simp [c35, setRun, numV, GV.enc]
theorem callRefNumber (n : Int) (bs : Nat) (σ : Heap) : callT T 35 [.int .i64 n] bs σ = some ((numV n).enc, σ) := call_clean rfl rfl rfl (by simp) (refNumber_ok n)
theorem callClone0 (c : Bool) (bs : Nat) (σ : Heap) : callT T 42 [.isl [] c] bs σ = some (.isl [] true, σ) := callT_pr (p := cloneVP) _ _ _ rfl _
theorem callClone (l : List GV) (c : Bool) (hne : l ≠ []) (hl : l.length ≤ 10000000000) (bs : Nat) (σ : Heap) : callT T 42 [.isl (GV.encs l) c] bs σ = some (.sl (σ.length + 1) 0 l.length 4 true, σ ++ [.cells [] 0 false, .cells (flat (GV.encs l)) 0 true]) := by
  rw [callT_pr (p := cloneVP) _ _ _ rfl _]
  have hf := flat_len (encsV_len l)
  rw [GV.encs_length] at hf
  simp only [cloneVP, if_neg (fun h => hne ((encs_nil l).1 h)), GV.encs_length]
  rw [if_pos ⟨hf, hl⟩]
/-- value.List: with nothing in it, and else. -/
theorem callList0 (x : AV) (σ : Heap) (hx : close1 σ x = some (.isl [] false, σ)) (hA : closeA σ x = close1 σ x) : callT T 26 [x] 0 σ = some (.agg [.int .i64 4, .int .i64 0, .str ⟨#[]⟩, .isl [] true], σ ++ [.cells [.int .i64 4, .int .i64 0, .str ⟨#[]⟩, .isl [] true] 0 false]) := by
  refine heap_enter (af := c26) (args' := [.isl [] false]) (σ1 := σ) rfl rfl (by simp [c26]) (by simp [c26]) ?_ ?_
  · simp [c26, closeArgs, closeT, hA, hx]
  · simp [c26, callClone0, setRun, baseA]
theorem callListN (l : List GV) (hne : l ≠ []) (hl : l.length ≤ 10000000000) (x : AV) (σ σ1 : Heap) (hx : close1 σ x = some (.isl (GV.encs l) false, σ1)) (hA : closeA σ x = close1 σ x) : callT T 26 [x] 0 σ = some (.agg [.int .i64 4, .int .i64 0, .str ⟨#[]⟩, .sl (σ1.length + 2) 0 l.length 4 true],
    σ1 ++ [.cells [.int .i64 4, .int .i64 0, .str ⟨#[]⟩, .sl (σ1.length + 2) 0 l.length 4 true] 0 false, .cells [] 0 false, .cells (flat (GV.encs l)) 0 true]) := by
  refine heap_enter (af := c26) (args' := [.isl (GV.encs l) false]) (σ1 := σ1) rfl rfl (by simp [c26]) (by simp [c26]) ?_ ?_
  · simp [c26, closeArgs, closeT, hA, hx]
  · simp [c26, callClone l false hne hl, setRun, baseA]
theorem right2_ok (v : GV) (hs : v.size ≤ 100000000000) : pureT T c36 [v.enc] = some (resO (made v)) := by
  have hr := valRight v hs
  apply pure_enter (by simp [c36])
  simp [c36, hr, setRun, enc_mk, enc_mk0, nilV_enc]
  refine ⟨fun h => ?_, fun h => ?_⟩
  · simp [made, h, resO]
  · simp [made, h, resO, nilV, GV.enc]
theorem callRight2 (v : GV) (hs : v.size ≤ 100000000000) (bs : Nat) (σ : Heap) : callT T 36 [v.enc] bs σ = some (resO (made v), σ) := call_clean rfl rfl rfl (by simp) (right2_ok v hs)
theorem callRight0 (c : Bool) (bs : Nat) (σ : Heap) : callT T 36 [.agg [.int .i64 4, .int .i64 0, .str ⟨#[]⟩, .isl [] c]] bs σ = some (resO (made (listV [])), σ) := by
  have h := right2_ok (listV []) (by decide)
  exact call_data rfl rfl rfl h (resO_scal _) (by simp) (by simp [closeT, listV, GV.enc])
theorem callRightN {l : List GV} {id fz : Nat} {ext : Bool} {σ : Heap} (hne : l ≠ []) (hs : (listV l).size ≤ 100000000000) (h : σ[id]? = some (.cells (flat (GV.encs l)) fz ext)) (bs : Nat) :
    callT T 36 [.agg [.int .i64 4, .int .i64 0, .str ⟨#[]⟩, .sl id 0 l.length 4 true]] bs σ = some (resO (made (listV l)), frz σ id (l.length * 4)) := by
  have hr := right2_ok (listV l) hs
  have hc := close1_flat h (fun e => hne ((encs_nil l).1 e)) (encsV_agg l) (encsV_clo l)
  rw [GV.encs_length] at hc
  exact call_data rfl rfl rfl hr (resO_scal _) (by simp) (by simp [closeT, hc, listV, GV.enc])
/-- How many elements there are in the first so many of some lists. -/
def pre {α : Type} (ls : List (List α)) (i : Nat) : Nat := ((ls.take i).map List.length).sum
theorem pre_succ {α : Type} {ls : List (List α)} {i : Nat} (h : i < ls.length) : pre ls (i + 1) = pre ls i + ls[i].length := by
  unfold pre; rw [List.take_add_one, List.getElem?_eq_getElem h, List.map_append, List.sum_append]; simp
theorem pre_zero {α : Type} (ls : List (List α)) : pre ls 0 = 0 := rfl
theorem pre_le {α : Type} (ls : List (List α)) (i : Nat) : pre ls i ≤ ls.flatten.length := by
  have : ls = ls.take i ++ ls.drop i := (List.take_append_drop i ls).symm
  rw [List.length_flatten]
  conv => rhs; rw [this, List.map_append, List.sum_append]
  unfold pre; omega
theorem pre_all {α : Type} (ls : List (List α)) : pre ls ls.length = ls.flatten.length := by
  unfold pre; rw [List.take_length, List.length_flatten]
def cat {α : Type} (ls : List (List α)) (i : Nat) : List α := (ls.take i).flatten
theorem cat_succ {α : Type} {ls : List (List α)} {i : Nat} (h : i < ls.length) : cat ls (i + 1) = cat ls i ++ ls[i] := by
  unfold cat; rw [List.take_add_one, List.getElem?_eq_getElem h, List.flatten_append]; simp
theorem cat_len {α : Type} (ls : List (List α)) (i : Nat) : (cat ls i).length = pre ls i := by unfold cat pre; rw [List.length_flatten]
theorem cat_all {α : Type} (ls : List (List α)) : cat ls ls.length = ls.flatten := by unfold cat; rw [List.take_length]
theorem cat_zero {α : Type} (ls : List (List α)) : cat ls 0 = [] := rfl
theorem grow_call (n : Nat) (hn : n ≤ 1000000000) (bs : Nat) (σ : Heap) : callT T 78 [.isl [] true, .int .i64 (n : Int)] bs σ = if n = 0 then some (.isl [] true, σ) else some (.own σ.length [], σ ++ [.tok 0 4]) := by
  rw [callT_pr (p := growP) _ _ _ rfl _]
  simp only [growP]
  by_cases h : n = 0
  · subst h; rfl
  · rw [if_pos ⟨by omega, by omega⟩, if_neg h]
theorem concat_ok (ls : List (List GV)) (hn : ls.length ≤ 1000) (hl : ls.flatten.length ≤ 1000000000) : pureT T c68 [.isl (ls.map fun l => .isl (GV.encs l) false) false] = some (.isl (GV.encs ls.flatten) false) := by
  apply pure_enter (by simp [c68])
  simp [c68]
  refine W_for T 0 36 ls.length (fun i f σ => f 0 = .isl (ls.map fun l => .isl (GV.encs l) false) false ∧ f 9 = .isl (ls.map fun l => .isl (GV.encs l) false) false ∧ f 10 = .int .i64 (ls.length : Int) ∧ f 11 = .int .i64 (i : Int) ∧ f 3 = .int .i64 (pre ls i : Int) ∧ σ = []) ?_ _ _ ?_
  · rintro i f σ hi ⟨h0, h9, h10, h11, h3, rfl⟩
    by_cases hlt : i < ls.length
    · have hw : IntKind.i64.wrap ((i : Int) + 1) = (i : Int) + 1 := wr64 (by omega) (by omega)
      have hts := pre_succ hlt
      have hs1 := pre_le ls (i + 1)
      have hw2 : IntKind.i64.wrap ((pre ls i : Int) + (ls[i].length : Int)) = (pre ls (i + 1) : Int) := by rw [wr64 (by omega) (by omega), hts]; omega
      have hneg : ¬ ((pre ls (i + 1) : Int) < 0) := by omega
      simp [h0, h9, h10, h11, h3, hlt, hw, hw2, hneg]
    · have he : i = ls.length := by omega
      subst he
      rw [pre_all] at h3
      have hg := grow_call ls.flatten.length hl
      by_cases hz : ls.flatten.length = 0
      · have hall : ∀ l ∈ ls, l = [] := fun l h => by
          have := List.eq_nil_of_length_eq_zero hz
          rw [List.flatten_eq_nil_iff] at this
          exact this l h
        rw [hz] at hg h3
        simp only [if_true] at hg
        have hg' : ∀ bs σ, callT T 78 [.isl [] true, .int .i64 0] bs σ = some (.isl [] true, σ) := hg
        have hfe : ls.flatten = [] := List.eq_nil_of_length_eq_zero hz
        rw [hfe]
        have h3' : f 3 = .int .i64 0 := h3
        simp [h0, h9, h10, h11, h3', hg']
        refine W_for T 0 36 ls.length (fun i f σ => f 25 = .isl (ls.map fun l => .isl (GV.encs l) false) false ∧ f 26 = .int .i64 (ls.length : Int) ∧ f 27 = .int .i64 (i : Int) ∧ f 6 = .isl [] true ∧ σ = []) ?_ _ _ ?_
        · rintro i f σ hi ⟨h25, h26, h27, h6, rfl⟩
          by_cases hlt : i < ls.length
          · have hw : IntKind.i64.wrap ((i : Int) + 1) = (i : Int) + 1 := wr64 (by omega) (by omega)
            have he := hall ls[i] (List.getElem_mem hlt)
            simp [h25, h26, h27, h6, hlt, hw, he, app_isl_nil2]
          · have he : i = ls.length := by omega
            subst he
            simp [h25, h26, h27, h6]
        · simp
      · simp only [if_neg hz] at hg
        have hpl := fun i => pre_le ls i
        generalize ls.flatten.length = N at *
        simp [h0, h9, h10, h11, h3, hg]
        refine W_for T 0 36 ls.length (fun i f σ => f 25 = .isl (ls.map fun l => .isl (GV.encs l) false) false ∧ f 26 = .int .i64 (ls.length : Int) ∧ f 27 = .int .i64 (i : Int) ∧ f 6 = .own 0 (GV.encs (cat ls i)) ∧ σ = [.tok (pre ls i) 4]) ?_ _ _ ?_
        · rintro i f σ hi ⟨h25, h26, h27, h6, rfl⟩
          by_cases hlt : i < ls.length
          · have hw : IntKind.i64.wrap ((i : Int) + 1) = (i : Int) + 1 := wr64 (by omega) (by omega)
            have hts := pre_succ hlt
            have hs1 := hpl (i + 1)
            have hcl := cat_len ls i
            by_cases he : ls[i] = []
            · have : cat ls (i + 1) = cat ls i := by rw [cat_succ hlt, he, List.append_nil]
              have h2 : pre ls (i + 1) = pre ls i := by rw [hts, he]; rfl
              simp [h25, h26, h27, h6, hlt, hw, he, app_isl_nil, this, h2]
            · have ha := app_isl_own (σ := [.tok (pre ls i) 4]) (sz := 4) (bytes := 56) (ag := true) (c := false) (k := 0) (es := GV.encs (cat ls i)) (xs := GV.encs ls[i]) (fun e => he ((encs_nil _).1 e)) (encs_okEl _) (encs_okEl _) (by simp [hcl]; omega) (by omega) (by omega) (by simp [hcl])
              have hap : GV.encs (cat ls i) ++ GV.encs ls[i] = GV.encs (cat ls (i + 1)) := by rw [cat_succ hlt]; simp [GV.encs_map]
              have hlen : (cat ls i).length + ls[i].length = pre ls (i + 1) := by rw [hcl, hts]
              rw [hap] at ha
              simp [hlen] at ha
              simp [h25, h26, h27, h6, hlt, hw, ha]
          · have he : i = ls.length := by omega
            subst he
            simp [h25, h26, h27, h6, cat_all]
        · simp [pre_zero, cat_zero]
  · simp [pre_zero]
/-- A list of two lists, as a literal. -/
theorem callConcat2 (a b : List GV) (hl : a.length + b.length ≤ 1000000000) (id : Nat) (σ : Heap) (h : σ[id]? = some (.cells [.isl (GV.encs a) false, .isl (GV.encs b) false] 0 false)) (bs : Nat) :
    callT T 68 [.sl id 0 2 1 false] bs σ = some (.isl (GV.encs (a ++ b)) false, frz σ id 2) := by
  have hc := concat_ok [a, b] (by simp) (by simpa using hl)
  simp only [List.map_cons, List.map_nil, List.flatten_cons, List.flatten_nil, List.append_nil] at hc
  exact call_data rfl rfl rfl hc rfl rfl (by simp [closeT, close1, close0, h, window, chunk, mk])
/-! ### The functions of lists -/
def doCons (l args : List GV) : Option GV := match args with | a :: _ => made (listV (a :: l)) | [] => none
def doAppend (l args : List GV) : Option GV := made (listV (l ++ args.tail))
def doConcat (l args : List GV) : Option GV := match args with | _ :: b :: _ => if b.kind = 4 then made (listV (l ++ b.items)) else none | _ => none
def doMember (l args : List GV) : Option GV := match args with | _ :: b :: _ => some (numV (if l.any (fun x => decide (cmpV x b = 0)) then 1 else 0)) | _ => none
theorem enc_tup (v : GV) (b : Bool) (o : Option GV) (h : o.getD nilV = v) (h2 : o.isSome = b) : AV.tup [v.enc, .bool b] = resO o := by subst h h2; rfl
theorem listV_size (l : List GV) : (listV l).size = GV.sizes l + 5 := by
  have : (⟨#[]⟩ : ByteArray).size = 0 := rfl
  simp only [listV, GV.size, this]; omega
theorem sizes_append (a b : List GV) : GV.sizes (a ++ b) = GV.sizes a + GV.sizes b := by
  induction a with
  | nil => simp [GV.sizes]
  | cons x a ih => simp only [List.cons_append, GV.sizes, ih]; omega
theorem cons_ok (l : List GV) (a : GV) (as' : List GV) (hs : GV.sizes l + a.size ≤ 1000000000) : pureT T c45 [.isl (GV.encs l) false, .isl (GV.encs (a :: as')) false] = some (resO (doCons l (a :: as'))) := by
  have hlen := len_sizes l
  have hsz : (listV (a :: l)).size ≤ 100000000000 := by rw [listV_size]; simp only [GV.sizes]; omega
  have he : GV.encs (a :: as') = a.enc :: GV.encs as' := rfl
  apply pure_enter (by simp [c45])
  by_cases hl : l = []
  · subst hl
    have hc : ∀ A, close1 [A, .cells a.enc.cells 0 false] (.sl 1 0 1 4 true) = some (.isl (GV.encs [a]) false, [A, .cells a.enc.cells 4 false]) := fun A => by
      have := close1_flat (σ := [A, .cells a.enc.cells 0 false]) (id := 1) (fz := 0) (ext := false) (es := GV.encs [a]) (by rw [show flat (GV.encs [a]) = a.enc.cells by simp [flat]]; rfl) (by simp) (encsV_agg _) (encsV_clo _)
      simpa [frz] using this
    have hL := fun A => callListN [a] (by simp) (by simp) (.sl 1 0 1 4 true) _ _ (hc A) rfl
    have ha := fun A => app_isl_nil3 (σ := [A, .cells a.enc.cells 0 false]) (id := 1) (bytes := 56) (c := false) (sz := 4) rfl (by simp)
    have hR := fun A B C D => callRightN (l := [a]) (id := 4) (σ := [A, B, C, D, .cells (flat (GV.encs [a])) 0 true]) (by simp) hsz rfl 0
    simp at hL hR ha
    simp [c45, he, setRun, ha, hL, hR, resO, frz, enc_mk]
    exact ⟨rfl, rfl⟩
  · have ha := fun B => app_isl_sl1 (σ := [B, .cells a.enc.cells 0 false]) (sz := 4) (bytes := 56) (id := 1) (c := false) (cs := a.enc.cells) (xs := GV.encs l) rfl (by simp) (by simp) (fun e => hl ((encs_nil _).1 e)) (encs_okEl l) (by simp; omega) (by omega) (by omega)
    have hae : AV.agg a.enc.cells :: GV.encs l = GV.encs (a :: l) := by rw [GV.enc_cells, GV.enc_fold]; rfl
    simp only [hae] at ha
    have hL := fun σ k => callListN (a :: l) (by simp) (by simp; omega) (.own k (GV.encs (a :: l))) σ σ rfl rfl
    have hR := fun A B C D E => callRightN (l := a :: l) (id := 5) (σ := [A, B, C, D, E, .cells (flat (GV.encs (a :: l))) 0 true]) (by simp) hsz rfl 0
    simp at ha hL hR
    simp [c45, he, setRun, ha, hL, hR, resO, frz, enc_mk]
    exact ⟨rfl, rfl⟩
/-- What appended and concat make of two lists. -/
theorem both_lists (l : List GV) (hs : GV.sizes l ≤ 1000000000) (S : Heap) (hlen : S.length = 2) :
    (l = [] → ∀ c, callT T 26 [.isl (GV.encs l) c] 0 S = some (.agg [.int .i64 4, .int .i64 0, .str ⟨#[]⟩, .isl [] true], S ++ [.cells [.int .i64 4, .int .i64 0, .str ⟨#[]⟩, .isl [] true] 0 false])) ∧
    (l ≠ [] → ∀ c, callT T 26 [.isl (GV.encs l) c] 0 S = some (.agg [.int .i64 4, .int .i64 0, .str ⟨#[]⟩, .sl 4 0 l.length 4 true], S ++ [.cells [.int .i64 4, .int .i64 0, .str ⟨#[]⟩, .sl 4 0 l.length 4 true] 0 false, .cells [] 0 false, .cells (flat (GV.encs l)) 0 true])) := by
  have hl := len_sizes l
  refine ⟨fun h c => ?_, fun h c => ?_⟩
  · subst h; exact callList0 (.isl [] c) S rfl rfl
  · have := callListN l h (by omega) (.isl (GV.encs l) c) S S rfl rfl
    rw [hlen] at this; exact this
theorem append_ok (l as' : List GV) (a : GV) (hs : GV.sizes l + GV.sizes as' ≤ 1000000000) : pureT T c46 [.isl (GV.encs l) false, .isl (GV.encs (a :: as')) false] = some (resO (doAppend l (a :: as'))) := by
  have hl1 := len_sizes l
  have hl2 := len_sizes as'
  have hsz : (listV (l ++ as')).size ≤ 100000000000 := by rw [listV_size, sizes_append]; omega
  have he : GV.encs (a :: as') = a.enc :: GV.encs as' := rfl
  have hd : doAppend l (a :: as') = made (listV (l ++ as')) := rfl
  have hC := fun A => callConcat2 l as' (by omega) 1 [A, .cells [.isl (GV.encs l) false, .isl (GV.encs as') false] 0 false] rfl
  have hall := encsV_len (a :: as')
  have hcl : ∀ x ∈ GV.encs as', x.cells.length = 4 := fun x hx => encsV_len as' x hx
  have hL := fun A B => both_lists (l ++ as') (by rw [sizes_append]; omega) [A, B] rfl
  apply pure_enter (by simp [c46])
  have hsl := slSl_tail (c := false) (fun e h => encsV_len (a :: as') e h)
  by_cases hn : l ++ as' = []
  · have hL := fun A B => (hL A B).1 hn
    simp only [hn] at hL hC
    simp at hL hC
    have hR := callRight0
    simp [c46, he, setRun, hsl, hC, hL, hR, frz, resO, enc_mk]
    simp [doAppend, hn]
  · have hL := fun A B => (hL A B).2 hn
    have hR := fun A B C D => callRightN (l := l ++ as') (id := 4) (σ := [A, B, C, D, .cells (flat (GV.encs (l ++ as'))) 0 true]) hn hsz rfl 0
    generalize l ++ as' = r at *
    simp at hL hC hR
    simp [c46, he, setRun, hsl, hC, hL, hR, frz, resO, enc_mk, hd]
theorem concatF_ok (l as' : List GV) (a b : GV) (hs : GV.sizes l + b.size ≤ 1000000000) : pureT T c47 [.isl (GV.encs l) false, .isl (GV.encs (a :: b :: as')) false] = some (resO (doConcat l (a :: b :: as'))) := by
  have hl1 := len_sizes l
  have hl2 := len_sizes b.items
  have hbs := items_le b
  have hsz : (listV (l ++ b.items)).size ≤ 100000000000 := by rw [listV_size, sizes_append]; omega
  have he : GV.encs (a :: b :: as') = a.enc :: b.enc :: GV.encs as' := rfl
  have hd : doConcat l (a :: b :: as') = if b.kind = 4 then made (listV (l ++ b.items)) else none := rfl
  rw [hd]
  have hC := fun A => callConcat2 l b.items (by omega) 1 [A, .cells [.isl (GV.encs l) false, .isl (GV.encs b.items) false] 0 false] rfl
  have hL := fun A B => both_lists (l ++ b.items) (by rw [sizes_append]; omega) [A, B] rfl
  apply pure_enter (by simp [c47])
  by_cases hk : b.kind = 4
  · rw [if_pos hk]
    by_cases hn : l ++ b.items = []
    · have hL := fun A B => (hL A B).1 hn
      simp only [hn] at hL hC
      have hR := callRight0
      try simp at hL
      simp [c47, he, setRun, hk, hC, hL, hR, frz, resO, enc_mk, hn]
    · have hL := fun A B => (hL A B).2 hn
      have hR := fun A B C D => callRightN (l := l ++ b.items) (id := 4) (σ := [A, B, C, D, .cells (flat (GV.encs (l ++ b.items))) 0 true]) hn hsz rfl 0
      generalize l ++ b.items = r at *
      try simp at hL
      try simp at hR
      simp [c47, he, setRun, hk, hC, hL, hR, frz, resO, enc_mk]
  · rw [if_neg hk]
    simp [c47, he, setRun, hk, resO, nilV, GV.enc]
theorem size_ok (l args : List GV) (hl : l.length ≤ 1000000000) : pureT T c49 [.isl (GV.encs l) false, .isl (GV.encs args) false] = some (resO (some (numV l.length))) := by
  apply pure_enter (by simp [c49])
  simp [c49, setRun, callNumber, resO, enc_mk]
theorem rest_ok (l args : List GV) (hl : l.length ≤ 1000000000) : pureT T c51 [.isl (GV.encs l) false, .isl (GV.encs args) false] = some (resO (if l = [] then none else some (listV l.tail))) := by
  apply pure_enter (by simp [c51])
  cases l with
  | nil => simp [c51, setRun, resO, nilV, GV.enc]
  | cons x l =>
    have he : GV.encs (x :: l) = x.enc :: GV.encs l := rfl
    have hsl := slSl_tail (c := false) (fun e h => encsV_len (x :: l) e h)
    simp at hl
    have hlen : (GV.encs (x :: l)).length = l.length + 1 := by simp
    by_cases hn : l = []
    · subst hn
      have hL := fun A => callList0 (.isl [] false) [A] rfl rfl
      have hsl := slSl_tail (sz := 4) (x := x.enc) (es := []) (c := false) (by simp)
      try simp at hL
      simp [c51, he, setRun, hsl, hL, resO, listV, GV.enc]
    · have hL := fun A => callListN l hn (by omega) (.isl (GV.encs l) false) [A] [A] rfl rfl
      have hcl := fun A B C => close1_flat (σ := [A, B, C, .cells (flat (GV.encs l)) 0 true]) (id := 3) rfl (fun e => hn ((encs_nil l).1 e)) (encsV_agg l) (encsV_clo l)
      try simp at hL
      try simp at hcl
      have hne : ¬ ((l.length : Int) + 1 = 0) := by omega
      simp [c51, he, setRun, hsl, hL, resO, listV, GV.enc, hne, hcl, frz]
theorem indexE_ok (p : GV → Bool) (l : List GV) (g : Nat) (caps : List AV) (hl : l.length ≤ 100000000000) (hc : ∀ x ∈ l, ∀ bs σ, callT T g (x.enc :: caps) bs σ = some (.bool (p x), σ)) :
    pureT T c79 [.isl (GV.encs l) false, .func g caps] = some (.int .i64 (idxI p l)) := by
  apply pure_enter (by simp [c79])
  simp [c79]
  refine W_for T 0 19 l.length (fun i f σ => f 0 = .isl (GV.encs l) false ∧ f 1 = .func g caps ∧ f 7 = .int .i64 (l.length : Int) ∧ f 8 = .int .i64 (i : Int) ∧ ∀ j, (hj : j < l.length) → j < i → p l[j] = false) ?_ _ _ ?_
  · rintro i f σ hi ⟨h0, h1, h7, h8, hall⟩
    by_cases hlt : i < l.length
    · have e1 : l[i]? = some l[i] := List.getElem?_eq_getElem hlt
      have hcl := hc l[i] (List.getElem_mem hlt)
      cases hp : p l[i]
      · simp [h0, h1, h7, h8, hlt, hcl, hp]
        refine ⟨wr64 (by omega) (by omega), fun j hj hji => ?_⟩
        by_cases e : j = i
        · subst e; exact hp
        · exact hall j hj (by omega)
      · simp [h0, h1, h7, h8, hlt, hcl, hp]
        simp [idxI, findIdx_drop p l i hlt hall hp]
    · have he : i = l.length := by omega
      subst he
      have hn : l.findIdx? p = none := by
        rw [List.findIdx?_eq_none_iff]
        intro x hx
        obtain ⟨j, hj, rfl⟩ := List.getElem_of_mem hx
        exact hall j hj hj
      simp [h0, h1, h7, h8, idxI, hn]
  · simp
theorem containsE_ok (p : GV → Bool) (l : List GV) (g : Nat) (caps : List AV) (hcl : caps.all AV.cleanC = true) (hl : l.length ≤ 100000000000) (hc : ∀ x ∈ l, ∀ bs σ, callT T g (x.enc :: caps) bs σ = some (.bool (p x), σ)) :
    pureT T c69 [.isl (GV.encs l) false, .func g caps] = some (.bool (l.any p)) := by
  have h1 : ∀ bs σ, callT T 79 [.isl (GV.encs l) false, .func g caps] bs σ = some (.int .i64 (idxI p l), σ) := fun bs σ => call_clean rfl rfl rfl (by simp [hcl]) (indexE_ok p l g caps hl hc)
  apply pure_enter (by simp [c69])
  have h2 : (0 ≤ idxI p l) ↔ l.any p = true := by
    unfold idxI
    cases h : l.findIdx? p with
    | none => rw [List.findIdx?_eq_none_iff] at h; simp only [List.any_eq_true]; exact ⟨fun h => by omega, fun ⟨x, hx, hp⟩ => by rw [h x hx] at hp; cases hp⟩
    | some i =>
      rw [List.findIdx?_eq_some_iff_getElem] at h
      obtain ⟨hi, hp, _⟩ := h
      exact ⟨fun _ => List.any_eq_true.2 ⟨_, List.getElem_mem hi, hp⟩, fun _ => by simp⟩
  simp [c69, h1]
  refine ⟨fun h => by simpa using h2.1 h, fun h => ?_⟩
  have : ¬ l.any p = true := fun hh => by have := h2.2 hh; omega
  simpa using this
theorem call_containsE (p : GV → Bool) (l : List GV) (g : Nat) (caps : List AV) (hcl : caps.all AV.cleanC = true) (hl : l.length ≤ 100000000000) (hc : ∀ x ∈ l, ∀ bs σ, callT T g (x.enc :: caps) bs σ = some (.bool (p x), σ)) (bs : Nat) (σ : Heap) :
    callT T 69 [.isl (GV.encs l) false, .func g caps] bs σ = some (.bool (sym (l.any p)), σ) :=
  call_clean rfl rfl rfl (by simp [hcl]) (containsE_ok p l g caps hcl hl hc)
theorem member1_ok (x : GV) (a b : GV) (as' : List GV) (hs : x.size ≤ 100000000000) : pureT T c70 [x.enc, .iptr [.isl (GV.encs (a :: b :: as')) false] 0] = some (.bool (decide (cmpV x b = 0))) := by
  have he : GV.encs (a :: b :: as') = a.enc :: b.enc :: GV.encs as' := rfl
  have hc := valCmp x b hs
  apply pure_enter (by simp [c70])
  simp [c70, he, hc]
theorem member_ok (l as' : List GV) (a b : GV) (hs : GV.sizes l ≤ 1000000000) : pureT T c48 [.isl (GV.encs l) false, .isl (GV.encs (a :: b :: as')) false] = some (resO (doMember l (a :: b :: as'))) := by
  have hl1 := len_sizes l
  have hcl : ∀ x ∈ l, ∀ bs σ, callT T 70 [x.enc, .iptr [.isl (GV.encs (a :: b :: as')) false] 0] bs σ = some (.bool (decide (cmpV x b = 0)), σ) := fun x hx bs σ =>
    call_clean rfl rfl rfl (by simp) (member1_ok x a b as' (by have := (sizes_mem hx).1; omega))
  have hcont : ∀ bs A, callT T 69 [.isl (GV.encs l) false, .func 70 [.ptr 0 0]] bs [.cells [.isl (GV.encs (a :: b :: as')) false] 0 false, A] = some (.bool (sym (l.any fun x => decide (cmpV x b = 0))), [.cells [.isl (GV.encs (a :: b :: as')) false] 0 false, A]) := fun bs A =>
    call_scal rfl rfl rfl (containsE_ok _ l 70 [.iptr [.isl (GV.encs (a :: b :: as')) false] 0] (by simp) (by omega) hcl) rfl (by simp) (by simp [frz]; rfl)
  have hd : doMember l (a :: b :: as') = some (numV (if l.any (fun x => decide (cmpV x b = 0)) then 1 else 0)) := rfl
  rw [hd]
  generalize GV.encs (a :: b :: as') = es at *
  apply pure_enter (by simp [c48])
  generalize (l.any fun x => decide (cmpV x b = 0)) = r at *
  cases r <;> simp [c48, setRun, hcont, callNumber, resO, enc_mk]
end Go.Proofs.YtamapcjhinalfaaDoor
end
section
set_option linter.unusedVariables false
set_option linter.unusedSimpArgs false
set_option linter.unnecessarySimpa false
namespace Go.Proofs.YtamapcjhinalfaaDoor
open Go.Mach

/-! ### slices.Reverse -/
/-- A list of which the first and the last so many have changed places. -/
def sw (l : List GV) (k : Nat) : List GV := (List.range l.length).map fun p => if p < k ∨ l.length - k ≤ p then l.getD (l.length - 1 - p) default else l.getD p default
@[simp] theorem sw_len (l : List GV) (k : Nat) : (sw l k).length = l.length := by simp [sw]
def gd (l : List GV) (p : Nat) : GV := (l[p]?).getD default
theorem gd_get {l : List GV} {p : Nat} (h : p < l.length) : l[p]? = some (gd l p) := by simp [gd, h]
theorem sw_get (l : List GV) (k p : Nat) : (sw l k)[p]? = if p < l.length then some (if p < k ∨ l.length - k ≤ p then gd l (l.length - 1 - p) else gd l p) else none := by
  simp only [sw, List.getElem?_map]
  by_cases h : p < l.length
  · rw [List.getElem?_range h, if_pos h]; rfl
  · rw [List.getElem?_eq_none (by simp; omega), if_neg h]; rfl
theorem sw_zero (l : List GV) : sw l 0 = l := by
  apply List.ext_getElem?
  intro p
  rw [sw_get]
  by_cases h : p < l.length
  · rw [if_pos h, if_neg (by omega), gd_get h]
  · rw [if_neg h, List.getElem?_eq_none (by omega)]
theorem sw_end (l : List GV) (k : Nat) (h : k = l.length / 2) : sw l k = l.reverse := by
  apply List.ext_getElem?
  intro p
  rw [sw_get]
  by_cases hp : p < l.length
  · rw [if_pos hp, List.getElem?_reverse hp, gd_get (by omega)]
    split
    · rfl
    · congr 2; omega
  · rw [if_neg hp, List.getElem?_eq_none (by simp; omega)]
theorem sw_step (l : List GV) (k : Nat) (h : 2 * k + 1 < l.length) : ((sw l k).set k (gd l (l.length - 1 - k))).set (l.length - 1 - k) (gd l k) = sw l (k + 1) := by
  apply List.ext_getElem?
  intro p
  rw [List.getElem?_set, List.getElem?_set, sw_get, sw_get, List.length_set, sw_len]
  by_cases hp : p < l.length
  · simp only [if_pos hp]
    by_cases e1 : l.length - 1 - k = p
    · rw [if_pos e1, if_pos (by omega), if_pos (by omega)]
      congr 2; omega
    · rw [if_neg e1]
      by_cases e2 : k = p
      · rw [if_pos e2, if_pos (by omega), if_pos (by omega)]
        congr 2; omega
      · rw [if_neg e2]
        by_cases e3 : p < k ∨ l.length - k ≤ p
        · rw [if_pos e3, if_pos (by omega)]
        · rw [if_neg e3, if_neg (by omega)]
  · rw [if_neg (by omega), if_neg (by omega), if_neg hp, if_neg hp]
theorem List.set_getElem?_self {α : Type} {l : List α} {i : Nat} {x : α} (h : l[i]? = some x) : l.set i x = l := by
  obtain ⟨hi, rfl⟩ := List.getElem?_eq_some_iff.1 h
  simp
theorem reverse_call0 (c : Bool) (bs : Nat) (σ : Heap) : callT T 72 [.isl [] c] bs σ = some (.tup [], σ) := by
  refine heap_enter (af := c72) (args' := [.isl [] c]) (σ1 := σ) rfl rfl (by simp [c72]) (by simp [c72]) rfl ?_
  simp [c72]
  refine W_for T _ 28 0 (fun i f σ' => f 2 = .int .i64 0 ∧ f 3 = .int .i64 (-1) ∧ σ' = σ) ?_ _ _ ?_
  · rintro i f σ' hi ⟨h2, h3, rfl⟩
    simp [h2, h3, res1]
  · simp [wr64]
theorem reverse_call (l : List GV) (id : Nat) (bs : Nat) (σ : Heap) (hl : l.length ≤ 1000000000) (h : σ[id]? = some (.cells (flat (GV.encs l)) 0 true)) :
    callT T 72 [.sl id 0 l.length 4 true] bs σ = some (.tup [], σ.set id (.cells (flat (GV.encs l.reverse)) 0 true)) := by
  have hid : id < σ.length := (List.getElem?_eq_some_iff.1 h).1
  refine heap_enter (af := c72) (args' := [.sl id 0 l.length 4 true]) (σ1 := σ) rfl rfl (by simp [c72]) (by simp [c72]) rfl ?_
  have hw0 : IntKind.i64.wrap ((l.length : Int) - 1) = (l.length : Int) - 1 := wr64 (by omega) (by omega)
  simp [c72, hw0]
  refine W_for T _ 28 (l.length / 2) (fun k f σ' => f 0 = .sl id 0 l.length 4 true ∧ f 2 = .int .i64 (k : Int) ∧ f 3 = .int .i64 ((l.length : Int) - 1 - (k : Int)) ∧ σ' = σ.set id (.cells (flat (GV.encs (sw l k))) 0 true)) ?_ _ _ ?_
  · rintro k f σ' hk ⟨h0, h2, h3, rfl⟩
    by_cases hlt : k < l.length / 2
    · have hw : IntKind.i64.wrap ((k : Int) + 1) = (k : Int) + 1 := wr64 (by omega) (by omega)
      have hw2 : IntKind.i64.wrap ((l.length : Int) - 1 - (k : Int) - 1) = (l.length : Int) - 1 - ((k : Int) + 1) := by rw [wr64 (by omega) (by omega)]; omega
      have hj : ((l.length : Int) - 1 - (k : Int)).toNat = l.length - 1 - k := by omega
      have hc1 : (k : Int) < (l.length : Int) - 1 - (k : Int) := by omega
      have hc2 : (k : Int) < (l.length : Int) := by omega
      have hc3 : (0 : Int) ≤ (l.length : Int) - 1 - (k : Int) := by omega
      have hc4 : (l.length : Int) - 1 - (k : Int) < (l.length : Int) := by omega
      have hc5 : (k : Int) ≤ (l.length : Int) - 1 := by omega
      have hwk := flat_win (s := 4) (es := GV.encs (sw l k)) (i := k) (by simp; omega) (encsV_len _)
      have hwj := flat_win (s := 4) (es := GV.encs (sw l k)) (i := l.length - 1 - k) (by simp; omega) (encsV_len _)
      have hlen := flat_len (encsV_len (sw l k))
      have hstep := sw_step l k (by omega)
      have hs1 := flat_set (s := 4) (v := (gd l (l.length - 1 - k)).enc) (by simp) (es := GV.encs (sw l k)) (i := k) (by simp; omega) (encsV_len _)
      have hs2 := flat_set (s := 4) (v := (gd l k).enc) (by simp) (es := GV.encs ((sw l k).set k (gd l (l.length - 1 - k)))) (i := l.length - 1 - k) (by simp; omega) (encsV_len _)
      have hset : ∀ (m : List GV) (i : Nat) (v : GV), (GV.encs m).set i v.enc = GV.encs (m.set i v) := fun m i v => by simp [GV.encs_map, List.map_set]
      rw [hset] at hs1 hs2
      rw [hstep] at hs2
      have hvk : (sw l k)[k]'(by simp; omega) = gd l k := by
        have := sw_get l k k
        rw [if_pos (by omega), if_neg (by omega), List.getElem?_eq_getElem (by simp; omega)] at this
        injection this
      have hvj : (sw l k)[l.length - 1 - k]'(by simp; omega) = gd l (l.length - 1 - k) := by
        have := sw_get l k (l.length - 1 - k)
        rw [if_pos (by omega), if_neg (by omega), List.getElem?_eq_getElem (by simp; omega)] at this
        injection this
      have hb1 : k * 4 + 4 ≤ (flat (GV.encs (sw l k))).length := by rw [hlen]; simp; omega
      have hb2 : (l.length - 1 - k) * 4 + 4 ≤ (flat (GV.encs ((sw l k).set k (gd l (l.length - 1 - k))))).length := by rw [flat_len (encsV_len _)]; simp; omega
      rw [GV.encs_getE, hvk] at hwk
      rw [GV.encs_getE, hvj] at hwj
      generalize gd l (l.length - 1 - k) = vj at *
      generalize gd l k = vk at *
      simp at hwk hwj hs1 hs2
      simp [h0, h2, h3, hw, hw2, hj, hc1, hc2, hc3, hc4, hc5, hid, hlt, baseA, hwk, hwj, hb1, hb2, hs1, hs2]
    · have he : k = l.length / 2 := by omega
      have hc1 : ¬ ((k : Int) < (l.length : Int) - 1 - (k : Int)) := by omega
      simp [h0, h2, h3, hc1, res1, sw_end l k he]
  · simp [sw_zero]
    exact (List.set_getElem?_self h).symm
theorem revF_ok (l args : List GV) (hl : l.length ≤ 1000000000) : pureT T c52 [.isl (GV.encs l) false, .isl (GV.encs args) false] = some (resO (some (listV l.reverse))) := by
  apply pure_enter (by simp [c52])
  by_cases hn : l = []
  · subst hn
    have hL := fun A => callList0 (.isl [] false) [A] rfl rfl
    have hR := fun c => reverse_call0 c 0
    try simp at hL
    simp [c52, setRun, hL, hR, resO, listV, GV.enc]
  · have hL := fun A => callListN l hn (by omega) (.isl (GV.encs l) false) [A] [A] rfl rfl
    have hR := fun A B C D => reverse_call l 3 0 [A, B, C, .cells (flat (GV.encs l)) 0 true, D] hl rfl
    have hcl := fun A B C D => close1_flat (σ := [A, B, C, .cells (flat (GV.encs l.reverse)) 0 true, D]) (id := 3) rfl (fun e => hn (by have := (encs_nil _).1 e; simpa using this)) (encsV_agg _) (encsV_clo _)
    try simp at hL
    try simp at hR
    try simp at hcl
    simp [c52, setRun, hL, hR, resO, listV, GV.enc, hcl]
theorem end1_ok (b : Bool) (l args : List GV) (hl : l.length ≤ 1000000000) : pureT T c71 [.isl (GV.encs l) false, .isl (GV.encs args) false, .iptr [.bool b] 0] = some (resO (if b then l.getLast? else l.head?)) := by
  apply pure_enter (by simp [c71])
  by_cases hn : l = []
  · subst hn
    cases b <;> simp [c71, setRun, resO, nilV, GV.enc]
  · have hpos : 0 < l.length := List.length_pos_iff.2 hn
    have hn0 : ¬ (l.length = 0) := by omega
    have hw : IntKind.i64.wrap ((l.length : Int) - 1) = (l.length : Int) - 1 := wr64 (by omega) (by omega)
    have hc1 : (1 : Int) ≤ (l.length : Int) := by omega
    have hc2 : ((l.length : Int) - 1).toNat = l.length - 1 := by omega
    have hc3 : l.length - 1 < l.length := by omega
    cases b
    · have e1 : l[0]? = some (l[0]'hpos) := List.getElem?_eq_getElem hpos
      have e2 : l.head? = some (l[0]'hpos) := by rw [List.head?_eq_getElem?, e1]
      have hlen : (GV.encs l)[0]? = some (l[0]'hpos).enc := by simp [e1]
      simp [c71, setRun, resO, hn, e1, e2, enc_mk, hn0]
    · have e1 : l[l.length - 1]? = some (l[l.length - 1]'hc3) := List.getElem?_eq_getElem hc3
      have e2 : l.getLast? = some (l[l.length - 1]'hc3) := by rw [List.getLast?_eq_getElem?, e1]
      simp [c71, setRun, resO, hn, hw, hc1, hc2, e1, e2, enc_mk, hn0]
theorem end_ok (b : Bool) : pureT T c50 [.bool b] = some (.func 71 [.iptr [.bool b] 0]) := by
  apply pure_enter (by simp [c50])
  simp [c50, frz, res1]
theorem callEnd (b : Bool) (bs : Nat) (σ : Heap) : callT T 50 [.bool b] bs σ = some (.func 71 [.iptr [.bool b] 0], σ) := call_clean rfl rfl rfl (by simp) (end_ok b)
def findV (s : ByteArray) : AV :=
  if s = sCons then .agg [.int .i64 2, .int .i64 1, .func 45 []]
  else if s = sAppend then .agg [.int .i64 2, .int .i64 0, .func 46 []]
  else if s = sConcat then .agg [.int .i64 2, .int .i64 0, .func 47 []]
  else if s = sMember then .agg [.int .i64 2, .int .i64 0, .func 48 []]
  else if s = sSize then .agg [.int .i64 1, .int .i64 0, .func 49 []]
  else if s = sFirst then .agg [.int .i64 1, .int .i64 0, .func 71 [.iptr [.bool false] 0]]
  else if s = sLast then .agg [.int .i64 1, .int .i64 0, .func 71 [.iptr [.bool true] 0]]
  else if s = sRest then .agg [.int .i64 1, .int .i64 0, .func 51 []]
  else if s = sReverse then .agg [.int .i64 1, .int .i64 0, .func 52 []]
  else .agg [.int .i64 (-1), .int .i64 0, .nilfunc]
theorem find_ok (s : ByteArray) : pureT T c28 [.str s] = some (findV s) := by
  apply pure_enter (by simp [c28])
  unfold findV
  by_cases h1 : s = sCons
  · subst h1; simp [c28, setRun]
  by_cases h2 : s = sAppend
  · subst h2; simp [c28, setRun]
  by_cases h3 : s = sConcat
  · subst h3; simp [c28, setRun]
  by_cases h4 : s = sMember
  · subst h4; simp [c28, setRun]
  by_cases h5 : s = sSize
  · subst h5; simp [c28, setRun]
  by_cases h6 : s = sFirst
  · subst h6; simp [c28, setRun, callEnd]
  by_cases h7 : s = sLast
  · subst h7; simp [c28, setRun, callEnd]
  by_cases h8 : s = sRest
  · subst h8; simp [c28, setRun]
  by_cases h9 : s = sReverse
  · subst h9; simp [c28, setRun]
  simp [c28, setRun, h1, h2, h3, h4, h5, h6, h7, h8, h9]
theorem callFind (s : ByteArray) (bs : Nat) (σ : Heap) : callT T 28 [.str s] bs σ = some (findV s, σ) := call_clean rfl rfl rfl (by simp) (find_ok s)
/-- A value in memory of its own is the same value. -/
theorem fresh_ok : ∀ (n : Nat) (v : GV), v.size ≤ n → n ≤ 1000000000 → pureT T c31 [v.enc] = some v.enc := by
  intro n
  induction n with
  | zero => intro v h; cases v; simp [GV.size] at h
  | succ n ih =>
    intro v hs hn
    have hil := items_le v
    have hlen := len_sizes v.items
    have hcall : ∀ x ∈ v.items, ∀ bs σ, callT T 31 [x.enc] bs σ = some (x.enc, σ) := fun x hx bs σ => call_clean rfl rfl rfl (by simp) (ih x (by have := (sizes_mem hx).1; omega) (by omega))
    apply pure_enter (by simp [c31])
    by_cases hk : v.kind = 4
    · by_cases he : v.items = []
      · simp [c31, hk, he, callClone0, setRun]
        refine W_for T 0 28 0 (fun i f σ => f 1 = .ptr 0 0 ∧ f 2 = .ptr 1 0 ∧ f 14 = .int .i64 0 ∧ f 15 = .int .i64 0 ∧ σ = [.cells [.int .i64 4, .int .i64 v.num, .str v.text, .isl [] true] 0 false, .cells [.int .i64 0, .int .i64 0, .str ⟨#[]⟩, .isl [] true] 0 false]) ?_ _ _ ?_
        · rintro i f σ hi ⟨h1, h2, h14, h15, rfl⟩
          simp [h1, h2, h14, h15, setRun]
          simp [GV.enc_eq v, hk, he]
        · simp
      · simp [c31, hk, callClone v.items false he (by omega), setRun]
        refine W_for T 0 28 v.items.length (fun i f σ => f 1 = .ptr 0 0 ∧ f 2 = .ptr 1 0 ∧ f 13 = .sl 3 0 v.items.length 4 true ∧ f 14 = .int .i64 (v.items.length : Int) ∧ f 15 = .int .i64 (i : Int) ∧ ∃ rest, σ = [.cells [.int .i64 4, .int .i64 v.num, .str v.text, .sl 3 0 v.items.length 4 true] 0 false, .cells [.int .i64 0, .int .i64 0, .str ⟨#[]⟩, .isl [] true] 0 false, .cells [] 0 false, .cells (flat (GV.encs v.items)) 0 true] ++ rest) ?_ _ _ ?_
        · rintro i f σ hi ⟨h1, h2, h13, h14, h15, rest, rfl⟩
          by_cases hlt : i < v.items.length
          · have hw : IntKind.i64.wrap ((i : Int) + 1) = (i : Int) + 1 := wr64 (by omega) (by omega)
            have hcl := hcall v.items[i] (List.getElem_mem hlt)
            have hwk := flat_win (s := 4) (es := GV.encs v.items) (i := i) (by simpa using hlt) (encsV_len _)
            have hs1 := flat_set (s := 4) (v := (v.items[i]).enc) (by simp) (es := GV.encs v.items) (i := i) (by simpa using hlt) (encsV_len _)
            have hset : (GV.encs v.items).set i (v.items[i]).enc = GV.encs v.items := by
              have := GV.encs_getE v.items i (by simpa using hlt)
              rw [← this, List.set_getElem_self]
            have hb : i * 4 + 4 ≤ (flat (GV.encs v.items)).length := by rw [flat_len (encsV_len _)]; simp; omega
            rw [hset] at hs1
            rw [GV.encs_getE] at hwk
            generalize v.items[i] = x at *
            simp at hwk hs1
            simp [h1, h2, h13, h14, h15, hlt, hw, hcl, hwk, hs1, hb, enc_mk, setRun]
          · have he2 : i = v.items.length := by omega
            subst he2
            have hcl := close1_flat (σ := [.cells [.int .i64 4, .int .i64 v.num, .str v.text, .sl 3 0 v.items.length 4 true] 0 false, .cells [.int .i64 4, .int .i64 v.num, .str v.text, .sl 3 0 v.items.length 4 true] 0 false, .cells [] 0 false, .cells (flat (GV.encs v.items)) 0 true] ++ rest) (id := 3) rfl (fun e => he ((encs_nil _).1 e)) (encsV_agg _) (encsV_clo _)
            simp at hcl
            simp [h1, h2, h13, h14, h15, setRun, hcl]
            simp [GV.enc_eq v, hk]
        · simp
    · simp [c31, hk, setRun]
theorem callFresh (v : GV) (hs : v.size ≤ 1000000000) (bs : Nat) (σ : Heap) : callT T 31 [v.enc] bs σ = some (v.enc, σ) := call_clean rfl rfl rfl (by simp) (fresh_ok v.size v (Nat.le_refl _) hs)
end Go.Proofs.YtamapcjhinalfaaDoor
end
section
set_option linter.unusedVariables false
set_option linter.unusedSimpArgs false
set_option linter.unnecessarySimpa false
namespace Go.Proofs.YtamapcjhinalfaaDoor
open Go.Mach

/-! ### builtin.Call and builtin.Op -/
theorem call1_ok (x : GV) (hs : x.size ≤ 100000000000) (bs : Nat) (σ : Heap) : callT T 30 [x.enc] bs σ = some (.bool (!rightT x), σ) := by
  have hr := valRight x hs
  refine call_clean rfl rfl rfl (by simp) ?_
  apply pure_enter (by simp [c30])
  simp [c30, hr, enc_mk]
theorem bcall_gen (s : ByteArray) (ar ix f : Nat) (caps : List AV) (hf : findV s = .agg [.int .i64 (ar : Int), .int .i64 (ix : Int), .func f caps]) (hix : ix < ar) (args : List GV) (hsz : ∀ a ∈ args, a.size ≤ 100000000000) (hlen : args.length ≤ 1000000000) (D : GV → Option GV)
    (hdo : args.length = ar → (∀ a ∈ args, rightT a = true) → ∀ a, args[ix]? = some a → a.kind = 4 → (∀ bs σ, callT T f ([.isl (GV.encs a.items) false, .isl (GV.encs args) false] ++ caps) bs σ = some (resO (D a), σ)) ∧ (∀ v, D a = some v → v.size ≤ 1000000000)) :
    pureT T c11 [.str s, .isl (GV.encs args) false] = some (resO (if args.length = ar ∧ args.all rightT = true then (args[ix]?).bind fun a => if a.kind = 4 then D a else none else none)) := by
  have hfind := callFind s
  rw [hf] at hfind
  have hcont := fun bs σ => call_contains (fun x => !rightT x) args 30 [] (by simp) (by omega) (fun x hx bs σ => call1_ok x (hsz x hx) bs σ) bs σ
  apply pure_enter (by simp [c11])
  by_cases hl : args.length = ar
  · have hlc : (ar : Int) = (args.length : Int) := by omega
    by_cases hr : args.all rightT = true
    · have hany : args.any (fun x => !rightT x) = false := by
        rw [Bool.eq_false_iff]; intro h
        rw [List.any_eq_true] at h
        obtain ⟨x, hx, h⟩ := h
        rw [List.all_eq_true.1 hr x hx] at h; cases h
      have hix2 : ix < args.length := by omega
      obtain ⟨a, ha⟩ : ∃ a, args[ix]? = some a := ⟨_, List.getElem?_eq_getElem hix2⟩
      have hae : args[ix]'hix2 = a := by rw [List.getElem?_eq_getElem hix2] at ha; injection ha
      have hg : (GV.encs args)[ix]? = some a.enc := by simp [ha]
      rw [if_pos ⟨hl, hr⟩, ha, Option.bind_some]
      by_cases hk : a.kind = 4
      · rw [if_pos hk]
        obtain ⟨hd, hds⟩ := hdo hl (List.all_eq_true.1 hr) a ha hk
        have hfr := callFresh ((D a).getD nilV) (by
          cases hD : D a with
          | none => decide
          | some v => exact hds v hD)
        simp only [List.cons_append, List.nil_append, resO] at hd
        simp [c11, hfind, hlc, hcont, hany, ha, hk, hd, hfr, setRun, resO, enc_mk, gv_eta]
      · rw [if_neg hk]
        simp [c11, hfind, hlc, hcont, hany, ha, hk, setRun, resO, nilV, GV.enc]
    · have hany : args.any (fun x => !rightT x) = true := by
        rw [List.any_eq_true]
        simp only [List.all_eq_true, Classical.not_forall] at hr
        obtain ⟨x, hx, h⟩ := hr
        exact ⟨x, hx, by simpa using h⟩
      rw [if_neg (fun h => hr h.2)]
      simp [c11, hfind, hlc, hcont, hany, setRun, resO, nilV, GV.enc]
  · have hlc : ¬ (ar : Int) = (args.length : Int) := by omega
    rw [if_neg (fun h => hl h.1)]
    simp [c11, hfind, hlc, setRun, resO, nilV, GV.enc]
def callD (s : ByteArray) (args : List GV) (a : GV) : Option GV :=
  if s = sCons then doCons a.items args else if s = sAppend then doAppend a.items args else if s = sConcat then doConcat a.items args else if s = sMember then doMember a.items args
  else if s = sSize then some (numV a.items.length) else if s = sFirst then a.items.head? else if s = sLast then a.items.getLast? else if s = sRest then (if a.items = [] then none else some (listV a.items.tail)) else some (listV a.items.reverse)
/-- A call's value. -/
def callV (s : ByteArray) (args : List GV) : Option GV :=
  if (args.length : Int) = arityOf s ∧ args.all rightT = true then (args[if s = sCons then 1 else 0]?).bind fun a => if a.kind = 4 then callD s args a else none else none
theorem made_some {v w : GV} (h : made v = some w) : w = v ∧ rightT v = true := by
  unfold made at h; split at h
  · rename_i hr; injection h with h; exact ⟨h.symm, hr⟩
  · cases h
theorem numV_size (n : Int) : (numV n).size = 5 := by simp only [numV, GV.size, GV.sizes]; rfl
theorem sizes_reverse (l : List GV) : GV.sizes l.reverse = GV.sizes l := by
  induction l with
  | nil => rfl
  | cons x l ih => rw [List.reverse_cons, sizes_append, ih]; simp only [GV.sizes]; omega
theorem callD_size {s : ByteArray} {args : List GV} {a v : GV} (ha : a.size ≤ 2936010) (h : callD s args a = some v) : v.size ≤ 2936020 := by
  have hil := items_le a
  have hm : ∀ {w}, made w = some v → v.size ≤ 2936020 := fun h => by obtain ⟨rfl, hr⟩ := made_some h; have := rightT_size hr; omega
  unfold callD at h
  split at h
  · cases args with
    | nil => cases h
    | cons b args => exact hm h
  split at h
  · exact hm h
  split at h
  · unfold doConcat at h
    split at h
    · split at h
      · exact hm h
      · cases h
    · cases h
  split at h
  · unfold doMember at h
    split at h
    · injection h with h; rw [← h, numV_size]; omega
    · cases h
  split at h
  · injection h with h; rw [← h, numV_size]; omega
  split at h
  · have := (sizes_mem (List.mem_of_head? h)).1; omega
  split at h
  · have := (sizes_mem (List.mem_of_getLast? h)).1; omega
  split at h
  · split at h
    · cases h
    · injection h with h
      rw [← h, listV_size]
      have : GV.sizes a.items.tail ≤ GV.sizes a.items := by cases a.items <;> simp [GV.sizes]
      omega
  · injection h with h
    rw [← h, listV_size, sizes_reverse]; omega
theorem bCall_ok (s : ByteArray) (args : List GV) (hsz : ∀ a ∈ args, a.size ≤ 100000000000) (hlen : args.length ≤ 1000000000) : pureT T c11 [.str s, .isl (GV.encs args) false] = some (resO (callV s args)) := by
  have hrs : (∀ a ∈ args, rightT a = true) → ∀ a ∈ args, a.size ≤ 2936010 := fun h a ha => rightT_size (h a ha)
  have one : ∀ (f : Nat) (caps : List AV), findV s = .agg [.int .i64 1, .int .i64 0, .func f caps] → arityOf s = 1 → s ≠ sCons →
      (∀ a : GV, a.size ≤ 2936010 → args = [a] → ∀ bs σ, callT T f ([.isl (GV.encs a.items) false, .isl (GV.encs args) false] ++ caps) bs σ = some (resO (callD s args a), σ)) →
      pureT T c11 [.str s, .isl (GV.encs args) false] = some (resO (callV s args)) := by
    intro f caps hf har hs hd
    have := bcall_gen s 1 0 f caps hf (by omega) args hsz hlen (callD s args) (fun hl hr a ha hk => by
      have ha0 : a ∈ args := List.mem_of_getElem? ha
      have hargs : args = [a] := by
        match args, hl, ha with
        | [x], _, ha => simp at ha; rw [ha]
      exact ⟨hd a (hrs hr a ha0) hargs, fun v hv => Nat.le_trans (callD_size (hrs hr a ha0) hv) (by omega)⟩)
    rw [this]
    unfold callV
    rw [har, if_neg hs]
    have : ((args.length : Int) = 1) ↔ args.length = 1 := by omega
    simp only [this]
  have two : ∀ (ix f : Nat) (caps : List AV), findV s = .agg [.int .i64 2, .int .i64 (ix : Int), .func f caps] → ix < 2 → arityOf s = 2 → ix = (if s = sCons then 1 else 0) →
      (∀ a b x : GV, a.size ≤ 2936010 → b.size ≤ 2936010 → x.size ≤ 2936010 → args = [a, b] → args[ix]? = some x → ∀ bs σ, callT T f ([.isl (GV.encs x.items) false, .isl (GV.encs args) false] ++ caps) bs σ = some (resO (callD s args x), σ)) →
      pureT T c11 [.str s, .isl (GV.encs args) false] = some (resO (callV s args)) := by
    intro ix f caps hf hix har hs hd
    have := bcall_gen s 2 ix f caps hf hix args hsz hlen (callD s args) (fun hl hr x hx hk => by
      have hx0 : x ∈ args := List.mem_of_getElem? hx
      obtain ⟨a, b, hargs⟩ : ∃ a b, args = [a, b] := by
        match args, hl with
        | [a, b], _ => exact ⟨a, b, rfl⟩
      exact ⟨hd a b x (hrs hr a (by simp [hargs])) (hrs hr b (by simp [hargs])) (hrs hr x hx0) hargs hx, fun v hv => Nat.le_trans (callD_size (hrs hr x hx0) hv) (by omega)⟩)
    rw [this]
    unfold callV
    rw [har, ← hs]
    have : ((args.length : Int) = 2) ↔ args.length = 2 := by omega
    simp only [this]
  have hitems : ∀ a : GV, a.size ≤ 2936010 → GV.sizes a.items ≤ 2936010 ∧ a.items.length ≤ 2936010 := fun a h => by have := items_le a; have := len_sizes a.items; omega
  by_cases h1 : s = sCons
  · refine two 1 45 [] (by simp [findV, h1]) (by omega) (by rw [h1]; decide) (by rw [if_pos h1]) fun a b x ha hb hx hargs hxi bs σ => ?_
    subst hargs
    have := hitems x hx
    exact call_clean rfl rfl rfl (by simp) ((cons_ok x.items a [b] (by omega)).trans (by simp [callD, h1]))
  by_cases h2 : s = sAppend
  · refine two 0 46 [] (by simp [findV, h2]) (by omega) (by rw [h2]; decide) (by rw [if_neg h1]) fun a b x ha hb hx hargs hxi bs σ => ?_
    subst hargs
    have := hitems x hx
    exact call_clean rfl rfl rfl (by simp) ((append_ok x.items [b] a (by simp only [GV.sizes]; omega)).trans (by simp [callD, h2]))
  by_cases h3 : s = sConcat
  · refine two 0 47 [] (by simp [findV, h3]) (by omega) (by rw [h3]; decide) (by rw [if_neg h1]) fun a b x ha hb hx hargs hxi bs σ => ?_
    subst hargs
    have := hitems x hx
    exact call_clean rfl rfl rfl (by simp) ((concatF_ok x.items [] a b (by omega)).trans (by simp [callD, h3]))
  by_cases h4 : s = sMember
  · refine two 0 48 [] (by simp [findV, h4]) (by omega) (by rw [h4]; decide) (by rw [if_neg h1]) fun a b x ha hb hx hargs hxi bs σ => ?_
    subst hargs
    have := hitems x hx
    exact call_clean rfl rfl rfl (by simp) ((member_ok x.items [] a b (by omega)).trans (by simp [callD, h4]))
  by_cases h5 : s = sSize
  · refine one 49 [] (by simp [findV, h5]) (by rw [h5]; decide) h1 fun a ha hargs bs σ => ?_
    have := hitems a ha
    exact call_clean rfl rfl rfl (by simp) ((size_ok a.items args (by omega)).trans (by simp [callD, h5]))
  by_cases h6 : s = sFirst
  · refine one 71 [.iptr [.bool false] 0] (by simp [findV, h6]) (by rw [h6]; decide) h1 fun a ha hargs bs σ => ?_
    have := hitems a ha
    exact call_clean rfl rfl rfl (by simp) ((end1_ok false a.items args (by omega)).trans (by simp [callD, h6]))
  by_cases h7 : s = sLast
  · refine one 71 [.iptr [.bool true] 0] (by simp [findV, h7]) (by rw [h7]; decide) h1 fun a ha hargs bs σ => ?_
    have := hitems a ha
    exact call_clean rfl rfl rfl (by simp) ((end1_ok true a.items args (by omega)).trans (by simp [callD, h7]))
  by_cases h8 : s = sRest
  · refine one 51 [] (by simp [findV, h8]) (by rw [h8]; decide) h1 fun a ha hargs bs σ => ?_
    have := hitems a ha
    exact call_clean rfl rfl rfl (by simp) ((rest_ok a.items args (by omega)).trans (by simp [callD, h8]))
  by_cases h9 : s = sReverse
  · refine one 52 [] (by simp [findV, h9]) (by rw [h9]; decide) h1 fun a ha hargs bs σ => ?_
    have := hitems a ha
    exact call_clean rfl rfl rfl (by simp) ((revF_ok a.items args (by omega)).trans (by simp [callD, h9]))
  have hf : findV s = .agg [.int .i64 (-1), .int .i64 0, .nilfunc] := by simp [findV, h1, h2, h3, h4, h5, h6, h7, h8, h9]
  have har : arityOf s = -1 := by simp [arityOf, h1, h2, h3, h4, h5, h6, h7, h8, h9]
  have hfind := callFind s
  rw [hf] at hfind
  have hv : callV s args = none := by unfold callV; rw [har, if_neg]; omega
  have hlc : ¬ (-1 : Int) = (args.length : Int) := by omega
  rw [hv]
  apply pure_enter (by simp [c11])
  simp [c11, hfind, hlc, setRun, resO, nilV, GV.enc]
theorem callBCall (s : ByteArray) (args : List GV) (hsz : ∀ a ∈ args, a.size ≤ 100000000000) (hlen : args.length ≤ 1000000000) (bs : Nat) (σ : Heap) : callT T 11 [.str s, .isl (GV.encs args) false] bs σ = some (resO (callV s args), σ) := call_clean rfl rfl rfl (by simp) (bCall_ok s args hsz hlen)
end Go.Proofs.YtamapcjhinalfaaDoor
end
section
set_option linter.unusedVariables false
set_option linter.unusedSimpArgs false
set_option linter.unnecessarySimpa false
namespace Go.Proofs.YtamapcjhinalfaaDoor
open Go.Mach

/-- What two numbers are reckoned to. -/
def opV (s : ByteArray) (a b : GV) : Option GV :=
  if a.kind = 1 ∧ b.kind = 1 ∧ rightT a = true ∧ rightT b = true then
    (if s = ⟨#[43]⟩ then made (numV (a.num + b.num)) else if s = ⟨#[45]⟩ then made (numV (a.num - b.num)) else if s = ⟨#[42]⟩ then made (numV (a.num * b.num)) else none)
  else none
theorem right_num {a : GV} (hk : a.kind = 1) (h : rightT a = true) : -2147483647 ≤ a.num ∧ a.num ≤ 2147483647 := by
  have h : rightB a _ = true := h
  unfold rightB at h
  rw [if_pos hk, decide_eq_true_eq] at h
  exact ⟨h.2.2.2, h.2.2.1⟩
theorem mul_bound {a b : Int} (ha : -2147483647 ≤ a ∧ a ≤ 2147483647) (hb : -2147483647 ≤ b ∧ b ≤ 2147483647) : -4611686014132420609 ≤ a * b ∧ a * b ≤ 4611686014132420609 := by
  have h1 : (a * b).natAbs ≤ 2147483647 * 2147483647 := by rw [Int.natAbs_mul]; exact Nat.mul_le_mul (by omega) (by omega)
  omega
theorem bOp_ok (s : ByteArray) (a b : GV) (ha : a.size ≤ 100000000000) (hb : b.size ≤ 100000000000) : pureT T c13 [.str s, a.enc, b.enc] = some (resO (opV s a b)) := by
  have hra := valRight a ha
  have hrb := valRight b hb
  apply pure_enter (by simp [c13])
  unfold opV
  by_cases h : a.kind = 1 ∧ b.kind = 1 ∧ rightT a = true ∧ rightT b = true
  · rw [if_pos h]
    obtain ⟨h1, h2, h3, h4⟩ := h
    have hna := right_num h1 h3
    have hnb := right_num h2 h4
    have hm := mul_bound hna hnb
    rw [h3] at hra
    rw [h4] at hrb
    have w1 : IntKind.i64.wrap (a.num + b.num) = a.num + b.num := wr64 (by omega) (by omega)
    have w2 : IntKind.i64.wrap (a.num - b.num) = a.num - b.num := wr64 (by omega) (by omega)
    have w3 : IntKind.i64.wrap (a.num * b.num) = a.num * b.num := wr64 (by omega) (by omega)
    have hr2 := fun n => callRight2 (numV n) (by rw [numV_size]; omega)
    obtain ⟨ka, na, ta, la⟩ := a
    obtain ⟨kb, nb, tb, lb⟩ := b
    replace h1 : ka = 1 := h1
    replace h2 : kb = 1 := h2
    subst h1 h2
    simp only [GV.num] at w1 w2 w3 ⊢
    by_cases e1 : s = ⟨#[43]⟩
    · subst e1
      simp [c13, hra, hrb, w1, callNumber, hr2, setRun, resO, enc_mk]
    · by_cases e2 : s = ⟨#[45]⟩
      · subst e2
        simp [c13, hra, hrb, w2, callNumber, hr2, setRun, resO, enc_mk]
      · by_cases e3 : s = ⟨#[42]⟩
        · subst e3
          simp [c13, hra, hrb, w3, callNumber, hr2, setRun, resO, enc_mk]
        · simp [c13, hra, hrb, e1, e2, e3, setRun, resO, nilV, enc_mk, enc_mk0]
  · rw [if_neg h]
    by_cases h1 : a.kind = 1
    · by_cases h2 : b.kind = 1
      · have h34 : rightT a = false ∨ rightT b = false := by
          cases h3 : rightT a
          · exact .inl rfl
          · cases h4 : rightT b
            · exact .inr rfl
            · exact absurd ⟨h1, h2, h3, h4⟩ h
        obtain ⟨ka, na, ta, la⟩ := a
        obtain ⟨kb, nb, tb, lb⟩ := b
        replace h1 : ka = 1 := h1
        replace h2 : kb = 1 := h2
        subst h1 h2
        cases h3 : rightT (GV.mk 1 na ta la)
        · rw [h3] at hra
          simp [c13, hra, setRun, resO, nilV, enc_mk, enc_mk0]
        · rw [h3] at hra
          have h4 : rightT (GV.mk 1 nb tb lb) = false := by rcases h34 with h | h; rw [h3] at h; cases h; exact h
          rw [h4] at hrb
          simp [c13, hra, hrb, setRun, resO, nilV, enc_mk, enc_mk0]
      · simp [c13, h1, h2, setRun, resO, nilV, GV.enc]
    · simp [c13, h1, setRun, resO, nilV, GV.enc]
theorem callBOp (s : ByteArray) (a b : GV) (ha : a.size ≤ 100000000000) (hb : b.size ≤ 100000000000) (bs : Nat) (σ : Heap) : callT T 13 [.str s, a.enc, b.enc] bs σ = some (resO (opV s a b), σ) := call_clean rfl rfl rfl (by simp) (bOp_ok s a b ha hb)
theorem opV_size {s : ByteArray} {a b v : GV} (h : opV s a b = some v) : v.size ≤ 2936020 := by
  have hm : ∀ {w}, made w = some v → v.size ≤ 2936020 := fun h => by obtain ⟨rfl, hr⟩ := made_some h; have := rightT_size hr; omega
  unfold opV at h
  split at h
  · split at h
    · exact hm h
    · split at h
      · exact hm h
      · split at h
        · exact hm h
        · cases h
  · cases h
end Go.Proofs.YtamapcjhinalfaaDoor
end
section
set_option linter.unusedVariables false
set_option linter.unusedSimpArgs false
set_option linter.unnecessarySimpa false
namespace Go.Proofs.YtamapcjhinalfaaDoor
open Go.Mach

/-! ### The document's answers for functions -/
theorem made_ok (v : GV) (hs : v.size ≤ 100000000000) : pureT T c37 [v.enc] = some (resO (made v)) := by
  have hr := refRight v hs
  apply pure_enter (by simp [c37])
  unfold made
  cases h : rightT v
  · rw [h] at hr; simp [c37, hr, setRun, resO, nilV, enc_mk, enc_mk0]
  · rw [h] at hr; simp [c37, hr, setRun, resO, nilV, enc_mk, enc_mk0]
theorem callMade (v : GV) (hs : v.size ≤ 100000000000) (bs : Nat) (σ : Heap) : callT T 37 [v.enc] bs σ = some (resO (made v), σ) := call_clean rfl rfl rfl (by simp) (made_ok v hs)
theorem callMadeO {l : List GV} {x : AV} {σ : Heap} (hs : (listV l).size ≤ 100000000000) (h : close1 σ x = some (.isl (GV.encs l) false, σ)) (bs : Nat) :
    callT T 37 [.agg [.int .i64 4, .int .i64 0, .str ⟨#[]⟩, x]] bs σ = some (resO (made (listV l)), σ) := by
  have hr := made_ok (listV l) hs
  exact call_data rfl rfl rfl hr (resO_scal _) (by simp) (by simp [closeT, h, listV, GV.enc])
theorem list_ok (ls : List (List GV)) (hn : ls.length ≤ 1000) (hl : GV.sizes ls.flatten ≤ 1000000000) : pureT T c33 [.isl (ls.map fun l => .isl (GV.encs l) false) false] = some (resO (made (listV ls.flatten))) := by
  have hlen := len_sizes ls.flatten
  have hsz : (listV ls.flatten).size ≤ 100000000000 := by rw [listV_size]; omega
  have hpl := fun i => pre_le ls i
  have hpall := cat_all ls
  apply pure_enter (by simp [c33])
  generalize ls.flatten = all at *
  simp [c33, setRun]
  refine W_for T 0 25 ls.length (fun i f σ => f 0 = .isl (ls.map fun l => .isl (GV.encs l) false) false ∧ f 2 = .ptr 0 0 ∧ f 4 = .ptr 1 0 ∧ f 5 = .int .i64 (i : Int) ∧ ∃ lst rest,
    σ = [.cells [.int .i64 0, .int .i64 0, .str ⟨#[]⟩, .isl [] true] 0 false, .cells [.int .i64 4, .int .i64 0, .str ⟨#[]⟩, lst] 0 false] ++ rest ∧ LstAt rest 2 (GV.encs (cat ls i)) 4 lst) ?_ _ _ ?_
  · rintro i f σ hi ⟨h0, h2, h4, h5, lst, rest, rfl, hlst⟩
    by_cases hlt : i < ls.length
    · have hw : IntKind.i64.wrap ((i : Int) + 1) = (i : Int) + 1 := wr64 (by omega) (by omega)
      have hcs := cat_succ hlt
      have hcl := cat_len ls i
      have hp1 := hpl (i + 1)
      have hps := pre_succ hlt
      by_cases hx : ls[i] = []
      · rw [hx, List.append_nil] at hcs
        rw [hcs]
        rcases hlst with ⟨he, rfl⟩ | ⟨kk, rfl, hkl, hkk⟩
        · simp [h0, h2, h4, h5, hlt, hw, hx, app_isl_nil2, setRun]
          exact ⟨_, _, ⟨rfl, rfl⟩, .inl ⟨he, rfl⟩⟩
        · simp [h0, h2, h4, h5, hlt, hw, hx, app_isl_nil, setRun]
          exact ⟨_, _, ⟨rfl, rfl⟩, .inr ⟨kk, rfl, hkl, hkk⟩⟩
      · have hxne : GV.encs ls[i] ≠ [] := fun e => hx ((encs_nil _).1 e)
        rcases hlst with ⟨he, rfl⟩ | ⟨kk, rfl, hkl, hkk⟩
        · have hc0 : cat ls i = [] := (encs_nil _).1 he
          have ha := fun A B => app_isl_new (σ := A :: B :: rest) (sz := 4) (bytes := 56) (ag := true) (c := false) hxne (encs_okEl _) (by simp; omega) (by omega) (by omega)
          rw [hcs, hc0, List.nil_append]
          simp at ha
          simp [h0, h2, h4, h5, hlt, hw, ha, setRun]
          exact ⟨_, _, ⟨rfl, rfl⟩, .inr ⟨rest.length, rfl, by simp, by simp⟩⟩
        · have ha := fun A B => app_isl_own (σ := A :: B :: rest) (sz := 4) (bytes := 56) (ag := true) (c := false) (k := kk + 2) (es := GV.encs (cat ls i)) hxne (encs_okEl _) (encs_okEl _) (by simp; omega) (by omega) (by omega) (by simpa using hkk)
          have hap : GV.encs (cat ls i) ++ GV.encs ls[i] = GV.encs (cat ls (i + 1)) := by rw [hcs]; simp [GV.encs_map]
          rw [hap] at ha
          simp at ha
          simp [h0, h2, h4, h5, hlt, hw, ha, setRun]
          refine ⟨_, _, ⟨rfl, rfl⟩, .inr ⟨kk, rfl, by simpa using hkl, ?_⟩⟩
          simp [hkl, hcl, hps, cat_len]
    · have he : i = ls.length := by omega
      subst he
      rw [hpall] at hlst
      rcases hlst with ⟨he, rfl⟩ | ⟨kk, rfl, hkl, hkk⟩
      · have ha0 : all = [] := (encs_nil _).1 he
        subst ha0
        have hm := fun σ => callMadeO (l := []) (x := .isl [] true) (σ := σ) hsz rfl 0
        simp [h0, h2, h4, h5, hm, setRun, resO, enc_mk]
      · have hm := fun σ => callMadeO (l := all) (x := .own (kk + 2) (GV.encs all)) (σ := σ) hsz rfl 0
        simp [h0, h2, h4, h5, hm, setRun, resO, enc_mk]
  · exact ⟨by simp, by simp, by simp, by simp, _, [], rfl, .inl ⟨rfl, rfl⟩⟩
theorem callRefList2 (a b : List GV) (hl : GV.sizes a + GV.sizes b ≤ 1000000000) (id : Nat) (σ : Heap) (h : σ[id]? = some (.cells [.isl (GV.encs a) false, .isl (GV.encs b) false] 0 false)) (bs : Nat) :
    callT T 33 [.sl id 0 2 1 false] bs σ = some (resO (made (listV (a ++ b))), frz σ id 2) := by
  have hc := list_ok [a, b] (by simp) (by simp [sizes_append]; omega)
  simp only [List.map_cons, List.map_nil, List.flatten_cons, List.flatten_nil, List.append_nil] at hc
  exact call_data rfl rfl rfl hc (resO_scal _) rfl (by simp [closeT, close1, close0, h, window, chunk, mk])
theorem callRefList1 (a : List GV) (hl : GV.sizes a ≤ 1000000000) (id : Nat) (σ : Heap) (h : σ[id]? = some (.cells [.isl (GV.encs a) false] 0 false)) (bs : Nat) :
    callT T 33 [.sl id 0 1 1 false] bs σ = some (resO (made (listV a)), frz σ id 1) := by
  have hc := list_ok [a] (by simp) (by simp; omega)
  simp only [List.map_cons, List.map_nil, List.flatten_cons, List.flatten_nil, List.append_nil] at hc
  exact call_data rfl rfl rfl hc (resO_scal _) rfl (by simp [closeT, close1, close0, h, window, chunk, mk])
theorem right_list {a : GV} (hk : a.kind = 4) (h : rightT a = true) : a.items.length ≤ 16 ∧ ∀ x ∈ a.items, rightV 3 x = true := by
  have h : rightB a (decide (a.items.length ≤ 16 ∧ a.items.all (rightV 3) = true)) = true := h
  unfold rightB at h
  rw [if_neg (by omega), if_neg (by omega), if_neg (by omega), if_pos hk, decide_eq_true_eq] at h
  have h2 := h.2.2
  rw [decide_eq_true_eq] at h2
  exact ⟨h2.1, List.all_eq_true.1 h2.2⟩
theorem right_of_list {l : List GV} (hl : l.length ≤ 16) (h : ∀ x ∈ l, rightV 3 x = true) : rightT (listV l) = true :=
  rb4 l _ (decide_eq_true ⟨hl, List.all_eq_true.2 h⟩)
theorem made_tail {a : GV} (hk : a.kind = 4) (h : rightT a = true) : made (listV a.items.tail) = some (listV a.items.tail) := by
  obtain ⟨h1, h2⟩ := right_list hk h
  unfold made
  rw [if_pos (right_of_list (by simp; omega) fun x hx => h2 x (List.mem_of_mem_tail hx))]
theorem arity_pos {s : ByteArray} {n : Nat} (h : (n : Int) = arityOf s) : (n = 1 ∧ arityOf s = 1) ∨ (n = 2 ∧ arityOf s = 2) := by
  unfold arityOf at h ⊢
  split at h
  · exact .inr ⟨by omega, by simp [*]⟩
  · split at h
    · exact .inl ⟨by omega, by simp [*]⟩
    · omega
theorem rCall_ok (s : ByteArray) (args : List GV) (hsz : ∀ a ∈ args, a.size ≤ 100000000000) (hlen : args.length ≤ 1000000000) : pureT T c12 [.str s, .isl (GV.encs args) false] = some (resO (callV s args)) := by
  have har := refArity s
  obtain ⟨R, hR⟩ : ∃ R, R = callV s args := ⟨_, rfl⟩
  rw [← hR]
  unfold callV at hR
  apply pure_enter (by simp [c12])
  by_cases hl : (args.length : Int) = arityOf s
  · have hR0 : args.all rightT = false → R = none := fun h => by rw [hR, h, if_neg (by simp)]
    have hR1 : args.all rightT = true → R = (args[if s = sCons then 1 else 0]?).bind fun a => if a.kind = 4 then callD s args a else none := fun h => by rw [hR, h, if_pos ⟨hl, rfl⟩]
    clear hR
    simp [c12, har, hl]
    refine W_for T 0 155 args.length (fun i f σ => f 0 = .str s ∧ f 1 = .isl (GV.encs args) false ∧ f 4 = .ptr 0 0 ∧ f 6 = .int .i64 (i : Int) ∧ σ = [.cells [.int .i64 0, .int .i64 0, .str ⟨#[]⟩, .isl [] true] 0 false] ∧ ∀ j, (h : j < args.length) → j < i → rightT args[j] = true) ?_ _ _ ?_
    · rintro i f σ hi ⟨h0, h1, h4, h6, rfl, hall⟩
      by_cases hlt : i < args.length
      · have hw : IntKind.i64.wrap ((i : Int) + 1) = (i : Int) + 1 := wr64 (by omega) (by omega)
        have hr := refRight args[i] (hsz _ (List.getElem_mem hlt))
        cases hrr : rightT args[i]
        · rw [hrr] at hr
          have hno : R = none := hR0 (by rw [Bool.eq_false_iff, Ne, List.all_eq_true]; intro h; have := h _ (List.getElem_mem hlt); rw [hrr] at this; cases this)
          simp [h0, h1, h4, h6, hlt, hr, setRun, resO, nilV, enc_mk, enc_mk0, hno]
        · rw [hrr] at hr
          simp [h0, h1, h4, h6, hlt, hr, hw]
          intro j hj hji
          by_cases e : j = i
          · subst e; exact hrr
          · exact hall j hj (by omega)
      · have he : i = args.length := by omega
        subst he
        have hallr : args.all rightT = true := by
          rw [List.all_eq_true]; intro x hx
          obtain ⟨j, hj, rfl⟩ := List.getElem_of_mem hx
          exact hall j hj hj
        have hR := hR1 hallr
        have hrt := List.all_eq_true.1 hallr
        clear hR0 hR1 hall hallr
        rcases arity_pos hl with ⟨hn, ha1⟩ | ⟨hn, ha2⟩
        · obtain ⟨a, rfl⟩ : ∃ a, args = [a] := by
            match args, hn with
            | [a], _ => exact ⟨a, rfl⟩
          have hsc : s ≠ sCons := fun e => by subst e; revert ha1; decide
          have hra := hrt a (by simp)
          have hsa := rightT_size hra
          have hil := items_le a
          have hln := len_sizes a.items
          rw [if_neg hsc] at hR
          have hR : R = if a.kind = 4 then callD s [a] a else none := hR
          by_cases hk : a.kind = 4
          · rw [if_pos hk] at hR
            have hks : (GV.mk 4 a.num a.text a.items) = a := by rw [← hk]; exact gv_eta a
            by_cases h5 : s = sSize
            · subst h5
              have hR : R = some (numV a.items.length) := hR
              simp [h0, h1, h4, h6, hk, setRun, callRefNumber, resO, enc_mk, hR]
            by_cases h9 : s = sReverse
            · subst h9
              have hR : R = some (listV a.items.reverse) := hR
              have hw0 : IntKind.i64.wrap ((a.items.length : Int) - 1) = (a.items.length : Int) - 1 := wr64 (by omega) (by omega)
              simp [h0, h1, h4, h6, hk, setRun, hw0]
              refine W_for T 0 155 a.items.length (fun k f σ => f 4 = .ptr 0 0 ∧ f 8 = .ptr 1 0 ∧ f 11 = .ptr 2 0 ∧ f 12 = .int .i64 ((a.items.length : Int) - 1 - (k : Int)) ∧ ∃ lst rest,
                σ = [.cells [.int .i64 0, .int .i64 0, .str ⟨#[]⟩, .isl [] true] 0 false, .cells [.int .i64 4, .int .i64 a.num, .str a.text, .isl (GV.encs a.items) false] 0 false, .cells [.int .i64 4, .int .i64 0, .str ⟨#[]⟩, lst] 0 false] ++ rest ∧ LstAt rest 3 (GV.encs (a.items.reverse.take k)) 4 lst) ?_ _ _ ?_
              · rintro k f σ hki ⟨g4, g8, g11, g12, lst, rest, rfl, hlst⟩
                by_cases hlt : k < a.items.length
                · have hw : IntKind.i64.wrap ((a.items.length : Int) - 1 - (k : Int) - 1) = (a.items.length : Int) - 1 - ((k : Int) + 1) := by rw [wr64 (by omega) (by omega)]; omega
                  have hj : ((a.items.length : Int) - 1 - (k : Int)).toNat = a.items.length - 1 - k := by omega
                  have hc3 : (k : Int) ≤ (a.items.length : Int) - 1 := by omega
                  have hc4 : a.items.length - 1 - k < a.items.length := by omega
                  have htk : a.items.reverse.take (k + 1) = a.items.reverse.take k ++ [a.items[a.items.length - 1 - k]] := by
                    rw [List.take_add_one, List.getElem?_reverse (by omega), List.getElem?_eq_getElem hc4]; rfl
                  have hlen2 : (a.items.reverse.take k).length = k := by simp; omega
                  rw [htk]
                  generalize a.items.reverse.take k = done at *
                  have hdl : done.length ≤ 10000000000 := by omega
                  have hget : a.items[a.items.length - 1 - k]? = some a.items[a.items.length - 1 - k] := List.getElem?_eq_getElem hc4
                  generalize a.items[a.items.length - 1 - k] = x at *
                  rcases hlst with ⟨he, rfl⟩ | ⟨kk, rfl, hkl, hkk⟩
                  · have hd0 : done = [] := (encs_nil _).1 he
                    simp [g4, g8, g11, g12, hw, hj, hc3, hget, setRun, enc_mk]
                    exact ⟨hlt, _, _, ⟨rfl, rfl⟩, .inr ⟨rest.length + 1, by simp [hd0], by simp, by simp [hd0]⟩⟩
                  · simp [g4, g8, g11, g12, hw, hj, hc3, hget, setRun, enc_mk, List.getElem?_append_left hkl, hkk, List.set_append_left _ _ hkl, hdl]
                    exact ⟨hlt, _, _, ⟨rfl, rfl⟩, .inr ⟨kk, rfl, by simp; omega, by rw [List.getElem?_append_left (by simpa using hkl)]; simp [hkl]⟩⟩
                · have he : k = a.items.length := by omega
                  subst he
                  have hall2 : a.items.reverse.take a.items.length = a.items.reverse := List.take_of_length_le (by simp)
                  rw [hall2] at hlst
                  have hc5 : ¬ ((a.items.length : Int) ≤ (a.items.length : Int) - 1) := by omega
                  rcases hlst with ⟨he, rfl⟩ | ⟨kk, rfl, hkl, hkk⟩
                  · have hd0 : a.items.reverse = [] := (encs_nil _).1 he
                    simp [g4, g8, g11, g12, hc5, setRun, resO, hR, listV, GV.enc, hd0]
                  · simp [g4, g8, g11, g12, hc5, setRun, resO, hR, listV, GV.enc]
              · exact ⟨by simp [h4], by simp, by simp, by simp, _, [], rfl, .inl ⟨rfl, rfl⟩⟩
            have hne : ∀ x, x = sSize ∨ x = sReverse ∨ x = sFirst ∨ x = sLast ∨ x = sRest → arityOf x = 1 := fun x h => by rcases h with h | h | h | h | h <;> subst h <;> decide
            have h3 : s ≠ sAppend ∧ s ≠ sConcat ∧ s ≠ sMember := ⟨fun e => by subst e; revert ha1; decide, fun e => by subst e; revert ha1; decide, fun e => by subst e; revert ha1; decide⟩
            obtain ⟨h3a, h3b, h3c⟩ := h3
            by_cases hs6 : s = sFirst
            · subst hs6
              have hR : R = a.items.head? := hR
              cases hai : a.items with
              | nil =>
                rw [hai] at hR
                simp [h0, h1, h4, h6, hk, hai, setRun, resO, nilV, enc_mk, enc_mk0, hR]
              | cons x l =>
                rw [hai] at hR
                have hne2 : ¬ ((l.length : Int) + 1 = 0) := by omega
                simp [h0, h1, h4, h6, hk, hai, setRun, resO, enc_mk, hR, hne2, GV.encs]
            by_cases hs7 : s = sLast
            · subst hs7
              have hR : R = a.items.getLast? := hR
              by_cases hai : a.items = []
              · rw [hai] at hR
                simp [h0, h1, h4, h6, hk, hai, setRun, resO, nilV, enc_mk, enc_mk0, hR]
              · have hpos : 0 < a.items.length := List.length_pos_iff.2 hai
                have hw0 : IntKind.i64.wrap ((a.items.length : Int) - 1) = (a.items.length : Int) - 1 := wr64 (by omega) (by omega)
                have hc1 : (1 : Int) ≤ (a.items.length : Int) := by omega
                have hc2 : ((a.items.length : Int) - 1).toNat = a.items.length - 1 := by omega
                have hc3 : a.items.length - 1 < a.items.length := by omega
                have e1 : a.items[a.items.length - 1]? = some (a.items[a.items.length - 1]'hc3) := List.getElem?_eq_getElem hc3
                rw [List.getLast?_eq_getElem?, e1] at hR
                simp [h0, h1, h4, h6, hk, hai, setRun, resO, enc_mk, hR, hw0, hc1, hc2, e1]
            have hsr : s = sRest := by
              unfold arityOf at ha1
              split at ha1
              · cases ha1
              · split at ha1
                · rename_i h; rcases h with h | h | h | h | h
                  · exact absurd h h5
                  · exact absurd h hs6
                  · exact absurd h hs7
                  · exact h
                  · exact absurd h h9
                · cases ha1
            subst hsr
            have hR : R = if a.items = [] then none else some (listV a.items.tail) := hR
            have hmt := made_tail hk hra
            cases hai : a.items with
            | nil =>
              rw [hai] at hR
              simp [h0, h1, h4, h6, hk, hai, setRun, resO, nilV, enc_mk, enc_mk0, hR]
            | cons x l =>
              rw [hai] at hR hmt hil
              simp only [GV.sizes, List.tail_cons] at hil hmt
              have hsl := slSl_tail (c := false) (fun e h => encsV_len (x :: l) e h)
              have hL := fun A B => callRefList1 l (by omega) 2 [A, B, .cells [.isl (GV.encs l) false] 0 false] rfl 0
              have hne2 : ¬ ((l.length : Int) + 1 = 0) := by omega
              have he : GV.encs (x :: l) = x.enc :: GV.encs l := rfl
              rw [hmt] at hL
              try simp at hL
              rw [if_neg (by simp)] at hR
              simp [h0, h1, h4, h6, hk, hai, setRun, resO, hR, hne2, he, hsl, hL, enc_mk, frz]
          · rw [if_neg hk] at hR
            simp [h0, h1, h4, h6, hsc, hk, setRun, resO, nilV, enc_mk, enc_mk0, hR]
        · obtain ⟨a, b, rfl⟩ : ∃ a b, args = [a, b] := by
            match args, hn with
            | [a, b], _ => exact ⟨a, b, rfl⟩
          have hra := hrt a (by simp)
          have hrb := hrt b (by simp)
          have hsa := rightT_size hra
          have hsb := rightT_size hrb
          have hila := items_le a
          have hilb := items_le b
          have hlna := len_sizes a.items
          have he2 : GV.encs [a, b] = [a.enc, b.enc] := rfl
          by_cases hs1 : s = sCons
          · subst hs1
            have hR : R = if b.kind = 4 then made (listV (a :: b.items)) else none := hR
            have hsl := slSl_head (sz := 4) (x := a.enc) (es := [b.enc]) (c := false)
            have hL := fun A B => callRefList2 [a] b.items (by simp only [GV.sizes]; omega) 2 [A, B, .cells [.isl (GV.encs [a]) false, .isl (GV.encs b.items) false] 0 false] rfl 0
            by_cases hk : b.kind = 4
            · rw [if_pos hk] at hR
              try simp at hL
              simp [h0, h1, h4, h6, he2, hk, setRun, hsl, hL, resO, hR, enc_mk, frz]
            · rw [if_neg hk] at hR
              simp [h0, h1, h4, h6, he2, hk, setRun, resO, nilV, enc_mk, enc_mk0, hR]
          have hR : R = if a.kind = 4 then callD s [a, b] a else none := by rw [if_neg hs1] at hR; exact hR
          by_cases hk : a.kind = 4
          · rw [if_pos hk] at hR
            by_cases hs2 : s = sAppend
            · subst hs2
              have hR : R = made (listV (a.items ++ [b])) := hR
              have hsl := slSl_tail (sz := 4) (x := a.enc) (es := [b.enc]) (c := false) (by simp)
              have hL := fun A B => callRefList2 a.items [b] (by simp only [GV.sizes]; omega) 2 [A, B, .cells [.isl (GV.encs a.items) false, .isl (GV.encs [b]) false] 0 false] rfl 0
              try simp at hL
              simp [h0, h1, h4, h6, he2, hk, setRun, hsl, hL, resO, hR, enc_mk, frz]
            by_cases hs3 : s = sConcat
            · subst hs3
              have hR : R = if b.kind = 4 then made (listV (a.items ++ b.items)) else none := hR
              have hL := fun A B => callRefList2 a.items b.items (by omega) 2 [A, B, .cells [.isl (GV.encs a.items) false, .isl (GV.encs b.items) false] 0 false] rfl 0
              by_cases hkb : b.kind = 4
              · rw [if_pos hkb] at hR
                try simp at hL
                simp [h0, h1, h4, h6, he2, hk, hkb, setRun, hL, resO, hR, enc_mk, frz]
              · rw [if_neg hkb] at hR
                simp [h0, h1, h4, h6, he2, hk, hkb, setRun, resO, nilV, enc_mk, enc_mk0, hR]
            have hs4 : s = sMember := by
              unfold arityOf at ha2
              split at ha2
              · rename_i h; rcases h with h | h | h | h
                · exact absurd h hs1
                · exact absurd h hs2
                · exact absurd h hs3
                · exact h
              · split at ha2 <;> cases ha2
            subst hs4
            have hR : R = some (numV (if a.items.any (fun x => decide (cmpV x b = 0)) then 1 else 0)) := hR
            simp [h0, h1, h4, h6, he2, hk, setRun]
            refine W_for T 0 155 a.items.length (fun k f σ => f 1 = .isl [a.enc, b.enc] false ∧ f 4 = .ptr 0 0 ∧ f 8 = .ptr 1 0 ∧ f 9 = .int .i64 (a.items.length : Int) ∧ f 10 = .int .i64 (k : Int) ∧ 
              σ = [.cells [.int .i64 0, .int .i64 0, .str ⟨#[]⟩, .isl [] true] 0 false, .cells [.int .i64 4, .int .i64 a.num, .str a.text, .isl (GV.encs a.items) false] 0 false] ∧ ∀ j, (h : j < a.items.length) → j < k → cmpV a.items[j] b ≠ 0) ?_ _ _ ?_
            · rintro k f σ hki ⟨g1, g4, g8, g9, g10, rfl, hall⟩
              by_cases hlt : k < a.items.length
              · have hw : IntKind.i64.wrap ((k : Int) + 1) = (k : Int) + 1 := wr64 (by omega) (by omega)
                have hx := List.getElem_mem hlt
                have hc := refCmp a.items[k] b (by have := (sizes_mem hx).1; omega)
                by_cases hz : cmpV a.items[k] b = 0
                · have hany : a.items.any (fun x => decide (cmpV x b = 0)) = true := List.any_eq_true.2 ⟨_, hx, by simp [hz]⟩
                  rw [hany] at hR
                  simp [g1, g4, g8, g9, g10, hlt, hc, hz, callRefNumber, setRun, resO, hR, enc_mk]
                · simp [g1, g4, g8, g9, g10, hlt, hc, hz, hw]
                  intro j hj hjk
                  by_cases e : j = k
                  · subst e; exact hz
                  · exact hall j hj (by omega)
              · have he : k = a.items.length := by omega
                subst he
                have hany : a.items.any (fun x => decide (cmpV x b = 0)) = false := by
                  rw [Bool.eq_false_iff, Ne, List.any_eq_true]
                  rintro ⟨x, hx, hz⟩
                  obtain ⟨j, hj, rfl⟩ := List.getElem_of_mem hx
                  exact hall j hj hj (by simpa using hz)
                rw [hany] at hR
                simp [g1, g4, g8, g9, g10, callRefNumber, setRun, resO, hR, enc_mk]
            · simp [h1, h4, he2]
          · rw [if_neg hk] at hR
            simp [h0, h1, h4, h6, he2, hs1, hk, setRun, resO, nilV, enc_mk, enc_mk0, hR]
    · simp
  · have hl' : ¬ arityOf s = (args.length : Int) := fun h => hl h.symm
    rw [if_neg (fun h => hl h.1)] at hR
    simp [c12, har, hl', setRun, resO, nilV, enc_mk, enc_mk0, hR]
theorem callRCall (s : ByteArray) (args : List GV) (hsz : ∀ a ∈ args, a.size ≤ 100000000000) (hlen : args.length ≤ 1000000000) (bs : Nat) (σ : Heap) : callT T 12 [.str s, .isl (GV.encs args) false] bs σ = some (resO (callV s args), σ) := call_clean rfl rfl rfl (by simp) (rCall_ok s args hsz hlen)
theorem rOp_ok (s : ByteArray) (a b : GV) (ha : a.size ≤ 100000000000) (hb : b.size ≤ 100000000000) : pureT T c14 [.str s, a.enc, b.enc] = some (resO (opV s a b)) := by
  have hra := refRight a ha
  have hrb := refRight b hb
  apply pure_enter (by simp [c14])
  unfold opV
  by_cases h : a.kind = 1 ∧ b.kind = 1 ∧ rightT a = true ∧ rightT b = true
  · rw [if_pos h]
    obtain ⟨h1, h2, h3, h4⟩ := h
    have hna := right_num h1 h3
    have hnb := right_num h2 h4
    have hm := mul_bound hna hnb
    rw [h3] at hra
    rw [h4] at hrb
    have w1 : IntKind.i64.wrap (a.num + b.num) = a.num + b.num := wr64 (by omega) (by omega)
    have w2 : IntKind.i64.wrap (a.num - b.num) = a.num - b.num := wr64 (by omega) (by omega)
    have w3 : IntKind.i64.wrap (a.num * b.num) = a.num * b.num := wr64 (by omega) (by omega)
    have hr2 := fun n => callMade (numV n) (by rw [numV_size]; omega)
    obtain ⟨ka, na, ta, la⟩ := a
    obtain ⟨kb, nb, tb, lb⟩ := b
    replace h1 : ka = 1 := h1
    replace h2 : kb = 1 := h2
    subst h1 h2
    simp only [GV.num] at w1 w2 w3 ⊢
    by_cases e1 : s = ⟨#[43]⟩
    · subst e1
      simp [c14, hra, hrb, w1, callRefNumber, hr2, setRun, resO, enc_mk]
    · by_cases e2 : s = ⟨#[45]⟩
      · subst e2
        simp [c14, hra, hrb, w2, callRefNumber, hr2, setRun, resO, enc_mk]
      · by_cases e3 : s = ⟨#[42]⟩
        · subst e3
          simp [c14, hra, hrb, w3, callRefNumber, hr2, setRun, resO, enc_mk]
        · simp [c14, hra, hrb, e1, e2, e3, setRun, resO, nilV, enc_mk, enc_mk0]
  · rw [if_neg h]
    obtain ⟨ka, na, ta, la⟩ := a
    obtain ⟨kb, nb, tb, lb⟩ := b
    cases h3 : rightT (GV.mk ka na ta la)
    · rw [h3] at hra
      cases h4 : rightT (GV.mk kb nb tb lb)
      all_goals (rw [h4] at hrb; simp [c14, hra, hrb, setRun, resO, nilV, enc_mk, enc_mk0, GV.kind, GV.num, GV.text, GV.items])
    · rw [h3] at hra
      cases h4 : rightT (GV.mk kb nb tb lb)
      · rw [h4] at hrb; simp [c14, hra, hrb, setRun, resO, nilV, enc_mk, enc_mk0, GV.kind, GV.num, GV.text, GV.items]
      · rw [h4] at hrb
        have h12 : ¬ (ka = 1 ∧ kb = 1) := fun e => h ⟨e.1, e.2, h3, h4⟩
        by_cases h1 : ka = 1
        · have h2 : ¬ kb = 1 := fun e => h12 ⟨h1, e⟩
          subst h1
          simp [c14, hra, hrb, h2, setRun, resO, nilV, enc_mk, enc_mk0, GV.kind, GV.num, GV.text, GV.items]
        · simp [c14, hra, hrb, h1, setRun, resO, nilV, enc_mk, enc_mk0, GV.kind, GV.num, GV.text, GV.items]
theorem callROp (s : ByteArray) (a b : GV) (ha : a.size ≤ 100000000000) (hb : b.size ≤ 100000000000) (bs : Nat) (σ : Heap) : callT T 14 [.str s, a.enc, b.enc] bs σ = some (resO (opV s a b), σ) := call_clean rfl rfl rfl (by simp) (rOp_ok s a b ha hb)
end Go.Proofs.YtamapcjhinalfaaDoor
end
section
set_option linter.unusedVariables false
set_option linter.unusedSimpArgs false
set_option linter.unnecessarySimpa false
namespace Go.Proofs.YtamapcjhinalfaaDoor
open Go.Mach

/-! ### Arity and Test -/
theorem bArity (s : ByteArray) (bs : Nat) (σ : Heap) : callT T 15 [.str s] bs σ = some (.int .i64 (arityOf s), σ) := call_clean rfl rfl rfl rfl (by
  apply pure_enter (by simp [c15])
  have h := callFind s
  unfold findV at h
  unfold arityOf
  by_cases h1 : s = sCons
  · subst h1; simp at h; simp [c15, h, setRun]; try decide
  by_cases h2 : s = sAppend
  · subst h2; simp at h; simp [c15, h, setRun]; try decide
  by_cases h3 : s = sConcat
  · subst h3; simp at h; simp [c15, h, setRun]; try decide
  by_cases h4 : s = sMember
  · subst h4; simp at h; simp [c15, h, setRun]; try decide
  by_cases h5 : s = sSize
  · subst h5; simp at h; simp [c15, h, setRun]; try decide
  by_cases h6 : s = sFirst
  · subst h6; simp at h; simp [c15, h, setRun]; try decide
  by_cases h7 : s = sLast
  · subst h7; simp at h; simp [c15, h, setRun]; try decide
  by_cases h8 : s = sRest
  · subst h8; simp at h; simp [c15, h, setRun]; try decide
  by_cases h9 : s = sReverse
  · subst h9; simp at h; simp [c15, h, setRun]; try decide
  simp [h1, h2, h3, h4, h5, h6, h7, h8, h9] at h
  simp [c15, h, setRun, h1, h2, h3, h4, h5, h6, h7, h8, h9])
def sEq : ByteArray := ⟨#[61, 61]⟩
def sNe : ByteArray := ⟨#[33, 61]⟩
def sLt : ByteArray := ⟨#[60]⟩
def sLe : ByteArray := ⟨#[60, 61]⟩
def sGt : ByteArray := ⟨#[62]⟩
def sGe : ByteArray := ⟨#[62, 61]⟩
def testC (s : ByteArray) (c : Int) : Bool :=
  if s = sEq then decide (c = 0) else if s = sNe then decide (c ≠ 0) else if s = sLt then decide (c < 0) else if s = sLe then decide (c ≤ 0) else if s = sGt then decide (0 < c) else if s = sGe then decide (0 ≤ c) else false
def testV (s : ByteArray) (a b : GV) : Bool := rightT a && rightT b && testC s (cmpV a b)
theorem bTest_ok (s : ByteArray) (a b : GV) (ha : a.size ≤ 100000000000) (hb : b.size ≤ 100000000000) : pureT T c18 [.str s, a.enc, b.enc] = some (.bool (testV s a b)) := by
  have r1 := valRight a ha
  have r2 := valRight b hb
  have hc := valCmp a b ha
  apply pure_enter (by simp [c18])
  cases e1 : rightT a
  · rw [e1] at r1
    simp [c18, r1, testV, e1, ← GV.enc_eq, enc_mk]
  cases e2 : rightT b
  · rw [e1] at r1; rw [e2] at r2
    simp [c18, r1, r2, testV, e1, e2, ← GV.enc_eq, enc_mk]
  rw [e1] at r1; rw [e2] at r2
  simp only [testV, e1, e2, Bool.true_and]
  generalize cmpV a b = w at *
  unfold testC
  by_cases h1 : s = sEq
  · subst h1; simp [c18, r1, r2, hc, ← GV.enc_eq, enc_mk, sEq]
  by_cases h2 : s = sNe
  · subst h2; simp [c18, r1, r2, hc, ← GV.enc_eq, enc_mk, sEq, sNe]
  by_cases h3 : s = sLt
  · subst h3; simp [c18, r1, r2, hc, ← GV.enc_eq, enc_mk, sEq, sNe, sLt]
  by_cases h4 : s = sLe
  · subst h4; simp [c18, r1, r2, hc, ← GV.enc_eq, enc_mk, sEq, sNe, sLt, sLe]
  by_cases h5 : s = sGt
  · subst h5; simp [c18, r1, r2, hc, ← GV.enc_eq, enc_mk, sEq, sNe, sLt, sLe, sGt]
  by_cases h6 : s = sGe
  · subst h6; simp [c18, r1, r2, hc, ← GV.enc_eq, enc_mk, sEq, sNe, sLt, sLe, sGt, sGe]
  simp only [sEq, sNe, sLt, sLe, sGt, sGe] at h1 h2 h3 h4 h5 h6
  simp [c18, r1, r2, hc, ← GV.enc_eq, enc_mk, sEq, sNe, sLt, sLe, sGt, sGe, h1, h2, h3, h4, h5, h6]
theorem callBTest (s : ByteArray) (a b : GV) (ha : a.size ≤ 100000000000) (hb : b.size ≤ 100000000000) (bs : Nat) (σ : Heap) : callT T 18 [.str s, a.enc, b.enc] bs σ = some (.bool (testV s a b), σ) := call_clean rfl rfl rfl (by simp) (bTest_ok s a b ha hb)
theorem rTest_ok (s : ByteArray) (a b : GV) (ha : a.size ≤ 100000000000) (hb : b.size ≤ 100000000000) : pureT T c19 [.str s, a.enc, b.enc] = some (.bool (testV s a b)) := by
  have r1 := refRight a ha
  have r2 := refRight b hb
  have hc := refCmp a b ha
  apply pure_enter (by simp [c19])
  cases e1 : rightT a
  · rw [e1] at r1
    simp [c19, r1, r2, testV, e1, ← GV.enc_eq, enc_mk]
  cases e2 : rightT b
  · rw [e1] at r1; rw [e2] at r2
    simp [c19, r1, r2, testV, e1, e2, ← GV.enc_eq, enc_mk]
  rw [e1] at r1; rw [e2] at r2
  simp only [testV, e1, e2, Bool.true_and]
  generalize cmpV a b = w at *
  unfold testC
  by_cases h1 : s = sEq
  · subst h1; simp [c19, r1, r2, hc, ← GV.enc_eq, enc_mk, sEq]
  by_cases h2 : s = sNe
  · subst h2; simp [c19, r1, r2, hc, ← GV.enc_eq, enc_mk, sEq, sNe]
  by_cases h3 : s = sLt
  · subst h3; simp [c19, r1, r2, hc, ← GV.enc_eq, enc_mk, sEq, sNe, sLt]
  by_cases h4 : s = sLe
  · subst h4; simp [c19, r1, r2, hc, ← GV.enc_eq, enc_mk, sEq, sNe, sLt, sLe]
  by_cases h5 : s = sGt
  · subst h5; simp [c19, r1, r2, hc, ← GV.enc_eq, enc_mk, sEq, sNe, sLt, sLe, sGt]
  by_cases h6 : s = sGe
  · subst h6; simp [c19, r1, r2, hc, ← GV.enc_eq, enc_mk, sEq, sNe, sLt, sLe, sGt, sGe]
  simp only [sEq, sNe, sLt, sLe, sGt, sGe] at h1 h2 h3 h4 h5 h6
  simp [c19, r1, r2, hc, ← GV.enc_eq, enc_mk, sEq, sNe, sLt, sLe, sGt, sGe, h1, h2, h3, h4, h5, h6]
theorem callRTest (s : ByteArray) (a b : GV) (ha : a.size ≤ 100000000000) (hb : b.size ≤ 100000000000) (bs : Nat) (σ : Heap) : callT T 19 [.str s, a.enc, b.enc] bs σ = some (.bool (testV s a b), σ) := call_clean rfl rfl rfl (by simp) (rTest_ok s a b ha hb)
/-! ### The law's own functions -/
theorem pick2_ok (c n : Int) (h : n ≠ 0) : pureT T c21 [.int .i64 c, .int .i64 n] = some (.int .i64 ((if c < 0 then IntKind.i64.wrap (0 - IntKind.i64.wrap (c + 1)) else c).tmod n)) := by
  apply pure_enter (by simp [c21])
  by_cases hc : c < 0
  · simp [c21, hc, h]
  · simp [c21, hc, h]
theorem pick2 (c : Int) (n : Nat) (h : 0 < n) (h1 : GV.i64ok c) (bs : Nat) (σ : Heap) : callT T 21 [.int .i64 c, .int .i64 (n : Int)] bs σ = some (.int .i64 (pickN c n : Int), σ) := by
  have := pick2_ok c (n : Int) (by omega)
  rw [pick_eq c n h h1.1 h1.2] at this
  exact call_clean rfl rfl rfl rfl this
def cutV (v : GV) : GV := if (fit v).kind = 4 then .mk 4 (fit v).num (fit v).text [] else fit v
def list2 (l : List GV) (m : Nat) : List GV := (l.take m).map cutV
theorem cutV_mk (v : GV) : (fit v).kind = 4 → cutV v = .mk (fit v).kind (fit v).num (fit v).text [] := fun h => by simp [cutV, h]
theorem list2_ok (l : List GV) (m : Nat) (hl : OkV l) (hm : m ≤ 1000) : pureT T c22 [.isl (GV.encs l) false, .int .i64 (m : Int)] = some (listV (list2 l m)).enc := by
  have ll := hl.2.2
  apply pure_enter (by simp [c22])
  simp [c22]
  refine W_for T 0 34 (min l.length m) (fun i f σ => f 0 = .isl (GV.encs l) false ∧ f 1 = .int .i64 (m : Int) ∧ f 4 = .ptr 0 0 ∧ f 6 = .int .i64 (i : Int) ∧ ∃ rest, σ = [.cells [.int .i64 0, .int .i64 0, .str ⟨#[]⟩, .isl [] true] 0 false] ++ rest ∧ LstAt rest 1 (GV.encs ((l.take i).map cutV)) 4 (f 5)) ?_ _ _ ?_
  · rintro i f σ hi ⟨g0, g1, g4, g6, rest, rfl, hlst⟩
    by_cases hlt : i < min l.length m
    · have hw : IntKind.i64.wrap ((i : Int) + 1) = (i : Int) + 1 := wr64 (by omega) (by omega)
      have hc1 : i < l.length := by omega
      have hc2 : i < m := by omega
      have hm1 := List.getElem_mem hc1
      have hf := callFit l[i] ((GV.oks_iff _).1 hl.1 _ hm1) (by have := hl.2.1 _ hm1; omega)
      have htk : (l.take (i + 1)).map cutV = (l.take i).map cutV ++ [cutV l[i]] := by rw [List.take_add_one, List.getElem?_eq_getElem hc1, List.map_append]; rfl
      have hlen : ((l.take i).map cutV).length = i := by simp; omega
      rw [htk]
      generalize (l.take i).map cutV = done at *
      have hdl : done.length ≤ 10000000000 := by omega
      have hmk := cutV_mk l[i]
      by_cases hk : (fit l[i]).kind = 4
      · rw [hmk hk]
        generalize fit l[i] = x at *
        generalize hxx : f 5 = xx at *
        have he4 : ∀ x : GV, x.kind = 4 → (GV.mk x.kind x.num x.text []).enc = .agg [.int .i64 4, .int .i64 x.num, .str x.text, .isl [] false] := fun x hk => by simp [GV.enc, hk]
        rcases hlst with ⟨he, rfl⟩ | ⟨kk, rfl, hkl, hkk⟩
        · have hd0 : done = [] := (encs_nil _).1 he
          subst hd0
          simp at hlen
          subst hlen
          simp [hxx, g0, g1, g4, g6, hc1, hc2, hf, setRun, hk, hw]
          exact ⟨by omega, by decide, .inr ⟨rest.length + 2, by simp [GV.enc], by simp, by simp⟩⟩
        · simp [hxx, g0, g1, g4, g6, hc1, hc2, hf, setRun, hk, hw, List.getElem?_append_left hkl, hkk, List.set_append_left _ _ hkl, hdl]
          exact ⟨by omega, .inr ⟨kk, by simp [GV.encs_map, GV.enc], by simp; omega, by rw [List.getElem?_append_left (by simpa using hkl)]; simp [hkl]⟩⟩
      · have : cutV l[i] = fit l[i] := by simp [cutV, hk]
        rw [this]
        generalize fit l[i] = x at *
        generalize hxx : f 5 = xx at *
        rcases hlst with ⟨he, rfl⟩ | ⟨kk, rfl, hkl, hkk⟩
        · have hd0 : done = [] := (encs_nil _).1 he
          subst hd0
          simp at hlen
          subst hlen
          simp [hxx, g0, g1, g4, g6, hc1, hc2, hf, setRun, hk, hw, enc_mk]
          exact ⟨by omega, by decide, .inr ⟨rest.length + 2, rfl, by simp, by simp⟩⟩
        · simp [hxx, g0, g1, g4, g6, hc1, hc2, hf, setRun, hk, hw, enc_mk, List.getElem?_append_left hkl, hkk, List.set_append_left _ _ hkl, hdl]
          exact ⟨by omega, .inr ⟨kk, by simp, by simp; omega, by rw [List.getElem?_append_left (by simpa using hkl)]; simp [hkl]⟩⟩
    · have he : i = min l.length m := by omega
      subst he
      have hlist : (l.take (min l.length m)).map cutV = list2 l m := by
        unfold list2
        by_cases h : l.length ≤ m
        · rw [Nat.min_eq_left h, List.take_of_length_le (Nat.le_refl _), List.take_of_length_le h]
        · rw [Nat.min_eq_right (by omega)]
      rw [hlist] at hlst
      have hcond : (min l.length m < l.length) = False ∨ ((min l.length m < l.length) = True ∧ (min l.length m < m) = False) := by
        by_cases h : min l.length m < l.length
        · exact .inr ⟨by simp [h], by simp; omega⟩
        · exact .inl (by simp; omega)
      generalize list2 l m = c at *
      generalize min l.length m = i at *
      have hcl : listV c = GV.mk 4 0 ⟨#[]⟩ c := rfl
      rw [hcl]
      generalize hxx : f 5 = xx at *
      rcases hlst with ⟨he, rfl⟩ | ⟨kk, rfl, hkl, hkk⟩
      · have hd0 : c = [] := (encs_nil _).1 he
        subst hd0
        rcases hcond with u1 | ⟨u1, u2⟩
        · simp [hxx, g0, g1, g4, g6, u1, setRun, GV.enc]
        · simp [hxx, g0, g1, g4, g6, u1, u2, setRun, GV.enc]
      · rcases hcond with u1 | ⟨u1, u2⟩
        · simp [hxx, g0, g1, g4, g6, u1, setRun, GV.enc]
        · simp [hxx, g0, g1, g4, g6, u1, u2, setRun, GV.enc]
  · simp
    exact .inl ⟨rfl, rfl⟩
theorem callList2 (l : List GV) (m : Nat) (hl : OkV l) (hm : m ≤ 1000) (bs : Nat) (σ : Heap) : callT T 22 [.isl (GV.encs l) false, .int .i64 (m : Int)] bs σ = some ((listV (list2 l m)).enc, σ) := call_clean rfl rfl rfl (by simp) (list2_ok l m hl hm)
end Go.Proofs.YtamapcjhinalfaaDoor
end
section
set_option linter.unusedVariables false
set_option linter.unusedSimpArgs false
set_option linter.unnecessarySimpa false
namespace Go.Proofs.YtamapcjhinalfaaDoor
open Go.Mach

theorem awake2_eval : evalFn T 100 10 [] 0 [] = some (.bool true, []) := by kernel_rfl
theorem awake2_ok : pureT T c10 [] = some (.bool true) := pureT_of_call rfl rfl rfl rfl (callT_of_eval awake2_eval)
theorem callAwake2 (bs : Nat) (σ : Heap) : callT T 10 [] bs σ = some (.bool true, σ) := call_clean rfl rfl rfl rfl awake2_ok
theorem right_up {d : Nat} {v : GV} (h : rightV d v = true) : ∀ k, rightV (d + k) v = true
  | 0 => h
  | k + 1 => right_mono _ _ (right_up h k)
theorem cutV_right (v : GV) : rightV 1 (cutV v) = true := by
  have hr := fit_right v
  unfold cutV
  generalize fit v = x at *
  rcases right_cases hr with ⟨n, rfl, h1, h2⟩ | ⟨t, rfl, h1⟩ | ⟨t, rfl, h1⟩ | ⟨l, rfl, h1, h2, h3⟩
  · rw [if_neg (by simp [GV.kind])]; simp [rightV, rightB, GV.kind, GV.num, GV.text, GV.items]; omega
  · rw [if_neg (by simp [GV.kind])]; simp [rightV, rightB, GV.kind, GV.num, GV.text, GV.items, h1]
  · rw [if_neg (by simp [GV.kind])]; simp [rightV, rightB, GV.kind, GV.num, GV.text, GV.items, h1]
  · rw [if_pos rfl]; simp [rightV, rightB, GV.kind, GV.num, GV.text, GV.items]
theorem cutT (v : GV) : rightT (cutV v) = true := right_up (cutV_right v) 3
theorem listV_right {l : List GV} {d : Nat} (h : ∀ x ∈ l, rightV d x = true) (hl : l.length ≤ 16) : rightV (d + 1) (listV l) = true := by
  have : l.all (rightV d) = true := List.all_eq_true.2 h
  simp [listV, rightV, rightB, GV.kind, GV.num, GV.text, GV.items, hl]
  exact List.all_eq_true.1 this
theorem list2_mem {l : List GV} {m : Nat} {x : GV} (h : x ∈ list2 l m) : rightV 1 x = true := by
  obtain ⟨y, _, rfl⟩ := List.mem_map.1 h; exact cutV_right y
theorem list2_len (l : List GV) (m : Nat) : (list2 l m).length ≤ m := by simp [list2]; omega
theorem list2_T (l : List GV) {m : Nat} (h : m ≤ 16) : rightT (listV (list2 l m)) = true := right_up (listV_right (d := 1) (fun x hx => list2_mem hx) (Nat.le_trans (list2_len l m) h)) 2
theorem listT {l : List GV} (h : ∀ x ∈ l, rightV 1 x = true) (hl : l.length ≤ 16) : rightT (listV l) = true := right_up (listV_right (d := 1) h hl) 2
theorem made_of {v : GV} (h : rightT v = true) : made v = some v := by simp [made, h]
/-! ### BuiltinTests -/
theorem tests_ok (a b : GV) (ha : a.ok) (hb : b.ok) (sa : a.size ≤ 1048576) (sb : b.size ≤ 1048576) : pureT T c8 [a.enc, b.enc] = some (.bool true) := by
  have hfa := callFit a ha (by omega)
  have hfb := callFit b hb (by omega)
  have ra := fit_right a
  have rb := fit_right b
  have za := fit_size a
  have zb := fit_size b
  generalize fit a = x at *
  generalize fit b = y at *
  have ht : ∀ s bs σ, callT T 18 [.str s, x.enc, y.enc] bs σ = some (.bool (testC s (cmpV x y)), σ) := fun s bs σ => by
    have := callBTest s x y (by omega) (by omega) bs σ
    simpa [testV, ra, rb] using this
  have ht2 : ∀ s bs σ, callT T 18 [.str s, y.enc, x.enc] bs σ = some (.bool (testC s (cmpV y x)), σ) := fun s bs σ => by
    have := callBTest s y x (by omega) (by omega) bs σ
    simpa [testV, ra, rb] using this
  have hn := cmpV_neg x y
  have hr := cmpV_range x y
  rw [hn] at ht2
  generalize cmpV x y = w at *
  have hw : w = -1 ∨ w = 0 ∨ w = 1 := by omega
  apply pure_enter (by simp [c8])
  rcases hw with rfl | rfl | rfl
  · simp [c8, callAwake2, hfa, hfb, ht, ht2, ← GV.enc_eq, enc_mk, setRun, testC, sEq, sNe, sLt, sLe, sGt, sGe]
  · simp [c8, callAwake2, hfa, hfb, ht, ht2, ← GV.enc_eq, enc_mk, setRun, testC, sEq, sNe, sLt, sLe, sGt, sGe]
  · simp [c8, callAwake2, hfa, hfb, ht, ht2, ← GV.enc_eq, enc_mk, setRun, testC, sEq, sNe, sLt, sLe, sGt, sGe]
/-! ### BuiltinSums -/
theorem made_num (k : Int) : made (numV k) = if -2147483647 ≤ k ∧ k ≤ 2147483647 then some (numV k) else none := by
  have : rightT (numV k) = decide (-2147483647 ≤ k ∧ k ≤ 2147483647) := by
    rw [Bool.eq_iff_iff]; simp [numV, rightT, rightV, rightB, GV.kind, GV.num, GV.text, GV.items]; omega
  simp only [made, this, decide_eq_true_eq]
theorem num_right {k : Int} (h : -2147483647 ≤ k ∧ k ≤ 2147483647) : rightT (numV k) = true := by
  simp [numV, rightT, rightV, rightB, GV.kind, GV.num, GV.text, GV.items]; omega
set_option maxRecDepth 100000 in
set_option maxHeartbeats 1000000 in
theorem sums_ok (n m : Int) (hn : GV.i64ok n) (hm : GV.i64ok m) : pureT T c7 [.int .i64 n, .int .i64 m] = some (.bool true) := by
  have p1 : ∀ bs σ, callT T 21 [.int .i64 n, .int .i64 4294967295] bs σ = some (.int .i64 (pickN n 4294967295 : Int), σ) := pick2 n 4294967295 (by omega) hn
  have p2 : ∀ bs σ, callT T 21 [.int .i64 m, .int .i64 4294967295] bs σ = some (.int .i64 (pickN m 4294967295 : Int), σ) := pick2 m 4294967295 (by omega) hm
  have l1 := pickN_lt (c := n) (n := 4294967295) (by omega)
  have l2 := pickN_lt (c := m) (n := 4294967295) (by omega)
  generalize pickN n 4294967295 = u at *
  generalize pickN m 4294967295 = v at *
  have hw1 : IntKind.i64.wrap ((u : Int) - 2147483647) = (u : Int) - 2147483647 := wr64 (by omega) (by omega)
  have hw2 : IntKind.i64.wrap ((v : Int) - 2147483647) = (v : Int) - 2147483647 := wr64 (by omega) (by omega)
  obtain ⟨a, ea⟩ : ∃ a : Int, a = (u : Int) - 2147483647 := ⟨_, rfl⟩
  obtain ⟨b, eb⟩ : ∃ b : Int, b = (v : Int) - 2147483647 := ⟨_, rfl⟩
  rw [← ea] at hw1
  rw [← eb] at hw2
  have ra : -2147483647 ≤ a ∧ a ≤ 2147483647 := by omega
  have rb : -2147483647 ≤ b ∧ b ≤ 2147483647 := by omega
  have mb := mul_bound ra rb
  have op : ∀ (s : ByteArray) (p q : Int), (-2147483647 ≤ p ∧ p ≤ 2147483647) → (-2147483647 ≤ q ∧ q ≤ 2147483647) → ∀ bs σ, callT T 13 [.str s, (numV p).enc, (numV q).enc] bs σ =
      some (resO (if s = ⟨#[43]⟩ then made (numV (p + q)) else if s = ⟨#[45]⟩ then made (numV (p - q)) else if s = ⟨#[42]⟩ then made (numV (p * q)) else none), σ) := fun s p q hp hq bs σ => by
    have h := callBOp s (numV p) (numV q) (by rw [numV_size]; decide) (by rw [numV_size]; decide) bs σ
    have hv : opV s (numV p) (numV q) = (if s = ⟨#[43]⟩ then made (numV (p + q)) else if s = ⟨#[45]⟩ then made (numV (p - q)) else if s = ⟨#[42]⟩ then made (numV (p * q)) else none) := by
      have h1 := num_right hp
      have h2 := num_right hq
      unfold opV
      rw [if_pos ⟨rfl, rfl, h1, h2⟩]
      rfl
    rw [hv] at h; exact h
  have o1 := op ⟨#[43]⟩ a b ra rb
  have o2 := op ⟨#[43]⟩ b a rb ra
  have o3 := op ⟨#[45]⟩ a b ra rb
  have o4 := op ⟨#[42]⟩ a b ra rb
  simp [made_num] at o1 o2 o3 o4
  have hc : b + a = a + b := by omega
  rw [hc] at o2
  have ws : IntKind.i64.wrap (a + b) = a + b := wr64 (by omega) (by omega)
  have wm : IntKind.i64.wrap (a * b) = a * b := wr64 (by omega) (by omega)
  have hself : ∀ v : GV, v.size ≤ 100000000000 → ∀ bs σ, callT T 17 [v.enc, v.enc] bs σ = some (.bool true, σ) := fun v hs bs σ => by
    have := callSame v v hs bs σ; simpa using this
  have hS1 := hself (numV (a + b)) (by rw [numV_size]; decide)
  have hS2 := hself nilV (by decide)
  have hS3 := hself (numV a) (by rw [numV_size]; decide)
  have o5 := fun h => op ⟨#[45]⟩ (a + b) b h rb
  have o6 := fun h => op ⟨#[43]⟩ (a - b) b h rb
  have e5 : a + b - b = a := by omega
  have e6 : a - b + b = a := by omega
  simp [made_num, e5, ra] at o5
  simp [made_num, e6, ra] at o6
  have hnum := callNumber
  have ws2 : IntKind.i64.wrap ((numV a).num + (numV b).num) = a + b := ws
  have wm2 : IntKind.i64.wrap ((numV a).num * (numV b).num) = a * b := wm
  have hx : ((numV (a * b)).num = a * b) = True := eq_true rfl
  apply pure_enter (by simp [c7])
  by_cases c1 : -2147483647 ≤ a + b ∧ a + b ≤ 2147483647 <;> by_cases c2 : -2147483647 ≤ a - b ∧ a - b ≤ 2147483647 <;> by_cases c3 : -2147483647 ≤ a * b ∧ a * b ≤ 2147483647
  all_goals
    simp only [c1, c2, c3, if_true, if_false, and_self, resO, Option.getD_some, Option.getD_none, Option.isSome_some, Option.isSome_none, and_true, true_and, true_imp_iff] at o1 o2 o3 o4 o5 o6
    simp [c7, callAwake2, p1, p2, ← ea, ← eb, hw1, hw2, hnum, o1, o2, o3, o4, o5, o6, enc_mk, setRun, hS1, hS2, hS3, ws2, wm2, hx]
    clear o1 o2 o3 o4 o5 o6 op p1 p2 hself hS1 hS2 hS3 hnum
    try omega
end Go.Proofs.YtamapcjhinalfaaDoor
end
section
set_option linter.unusedVariables false
set_option linter.unusedSimpArgs false
set_option linter.unnecessarySimpa false
namespace Go.Proofs.YtamapcjhinalfaaDoor
open Go.Mach

/-! ### Calls of one and of two values in a row of their own -/
theorem bc1 (s : ByteArray) (x : GV) (hs : x.size ≤ 100000000000) (σ : Heap) (k : Nat) (h : σ[k]? = some (.cells [.int .i64 x.kind, .int .i64 x.num, .str x.text, .isl (GV.encs x.items) false] 0 false)) (bs : Nat) :
    callT T 11 [.str s, .sl k 0 1 4 true] bs σ = some (resO (callV s [x]), σ.set k (.cells [.int .i64 x.kind, .int .i64 x.num, .str x.text, .isl (GV.encs x.items) false] 4 false)) := by
  have hc := bCall_ok s [x] (by simpa using hs) (by simp)
  refine call_data rfl rfl rfl hc (resO_scal _) (by simp) ?_
  simp [close1, close0, h, frz, window, chunk, enc_mk]
theorem bc2 (s : ByteArray) (x y : GV) (hs : x.size ≤ 100000000000) (ht : y.size ≤ 100000000000) (σ : Heap) (k : Nat) (h : σ[k]? = some (.cells [.int .i64 x.kind, .int .i64 x.num, .str x.text, .isl (GV.encs x.items) false, .int .i64 y.kind, .int .i64 y.num, .str y.text, .isl (GV.encs y.items) false] 0 false)) (bs : Nat) :
    callT T 11 [.str s, .sl k 0 2 4 true] bs σ = some (resO (callV s [x, y]), σ.set k (.cells [.int .i64 x.kind, .int .i64 x.num, .str x.text, .isl (GV.encs x.items) false, .int .i64 y.kind, .int .i64 y.num, .str y.text, .isl (GV.encs y.items) false] 8 false)) := by
  have hc := bCall_ok s [x, y] (by simp; omega) (by simp)
  refine call_data rfl rfl rfl hc (resO_scal _) (by simp) ?_
  simp [close1, close0, h, frz, window, chunk, enc_mk, GV.encs]
theorem list1_of (v : GV) (hv : v.ok) (hs : v.size ≤ 1048576) (σ : Heap) (k : Nat) (h : σ[k]? = some (.cells [.int .i64 v.kind, .int .i64 v.num, .str v.text, .isl (GV.encs v.items) false] 0 false)) (bs : Nat) :
    callT T 22 [.sl k 0 1 4 true, .int .i64 1] bs σ = some ((listV [cutV v]).enc, σ.set k (.cells [.int .i64 v.kind, .int .i64 v.num, .str v.text, .isl (GV.encs v.items) false] 4 false)) := by
  have hc := list2_ok [v] 1 ⟨by simp [GV.oks, hv], by simpa using hs, by simp⟩ (by omega)
  refine call_data rfl rfl rfl hc (by rw [GV.enc_eq]; rfl) (by simp) ?_
  simp [close1, close0, h, frz, window, chunk, enc_mk]
/-- What the calls give of right lists. -/
theorem cv_cons {v l : GV} (hv : rightT v = true) (hl : rightT l = true) (hk : l.kind = 4) : callV sCons [v, l] = made (listV (v :: l.items)) := by
  simp [callV, arityOf, hv, hl, hk, callD, doCons]
theorem cv_append {v l : GV} (hv : rightT v = true) (hl : rightT l = true) (hk : l.kind = 4) : callV sAppend [l, v] = made (listV (l.items ++ [v])) := by
  simp [callV, arityOf, hv, hl, hk, callD, doAppend]
theorem cv_concat {v l : GV} (hv : rightT v = true) (hl : rightT l = true) (hk : l.kind = 4) (hk2 : v.kind = 4) : callV sConcat [l, v] = made (listV (l.items ++ v.items)) := by
  simp [callV, arityOf, hv, hl, hk, hk2, callD, doConcat]
theorem cv_member {v l : GV} (hv : rightT v = true) (hl : rightT l = true) (hk : l.kind = 4) : callV sMember [l, v] = some (numV (if l.items.any (fun x => decide (cmpV x v = 0)) then 1 else 0)) := by
  simp [callV, arityOf, hv, hl, hk, callD, doMember]
theorem cv_size {l : GV} (hl : rightT l = true) (hk : l.kind = 4) : callV sSize [l] = some (numV l.items.length) := by
  simp [callV, arityOf, hl, hk, callD]
theorem cv_first {l : GV} (hl : rightT l = true) (hk : l.kind = 4) : callV sFirst [l] = l.items.head? := by
  simp [callV, arityOf, hl, hk, callD]
theorem cv_last {l : GV} (hl : rightT l = true) (hk : l.kind = 4) : callV sLast [l] = l.items.getLast? := by
  simp [callV, arityOf, hl, hk, callD]
theorem cv_rest {l : GV} (hl : rightT l = true) (hk : l.kind = 4) : callV sRest [l] = if l.items = [] then none else some (listV l.items.tail) := by
  simp [callV, arityOf, hl, hk, callD]
theorem cv_reverse {l : GV} (hl : rightT l = true) (hk : l.kind = 4) : callV sReverse [l] = some (listV l.items.reverse) := by
  simp [callV, arityOf, hl, hk, callD]
theorem same2 (v : GV) (hs : v.size ≤ 100000000000) (bs : Nat) (σ : Heap) : callT T 17 [v.enc, v.enc] bs σ = some (.bool true, σ) := by
  have := callSame v v hs bs σ; simpa using this
theorem fieldV_enc3 (v : GV) : fieldV 3 1 false v.enc = some (.isl (GV.encs v.items) false) := by rw [GV.enc_eq]; rfl
theorem fieldV_enc1 (v : GV) : fieldV 1 1 false v.enc = some (.int .i64 v.num) := by rw [GV.enc_eq]; rfl
set_option maxRecDepth 100000 in
set_option maxHeartbeats 2000000 in
theorem listsB_ok (raw : List GV) (x : GV) (hr : OkV raw) (hx : x.ok) (sx : x.size ≤ 1048576) : pureT T c5 [.isl (GV.encs raw) false, x.enc] = some (.bool true) := by
  have hL : ∀ bs σ, callT T 22 [.isl (GV.encs raw) false, .int .i64 15] bs σ = some ((listV (list2 raw 15)).enc, σ) := callList2 raw 15 hr (by omega)
  have hL1 := list1_of x hx sx
  have hv1 := cutV_right x
  have hmem : ∀ y ∈ list2 raw 15, rightV 1 y = true := fun y hy => list2_mem hy
  have hlen := list2_len raw 15
  generalize list2 raw 15 = l at *
  generalize cutV x = v at *
  have hv : rightT v = true := right_up hv1 3
  have hl : rightT (listV l) = true := listT hmem (by omega)
  have ha : rightT (listV (v :: l)) = true := listT (by simp [hv1]; exact hmem) (by simp; omega)
  have hd : rightT (listV (l ++ [v])) = true := listT (by simp; rintro y (hy | rfl); exact hmem y hy; exact hv1) (by simp; omega)
  have hf : rightT (listV (v :: l.reverse)) = true := listT (by simp [hv1]; exact hmem) (by simp; omega)
  have k1 := bc2 sCons v (listV l) (Nat.le_trans (rightT_size hv) (by decide)) (Nat.le_trans (rightT_size hl) (by decide))
  have k2 := bc1 sFirst (listV (v :: l)) (Nat.le_trans (rightT_size ha) (by decide))
  have k3 := bc1 sRest (listV (v :: l)) (Nat.le_trans (rightT_size ha) (by decide))
  have k4 := bc2 sAppend (listV l) v (Nat.le_trans (rightT_size hl) (by decide)) (Nat.le_trans (rightT_size hv) (by decide))
  have k5 := bc1 sLast (listV (l ++ [v])) (Nat.le_trans (rightT_size hd) (by decide))
  have k6 := bc1 sReverse (listV (l ++ [v])) (Nat.le_trans (rightT_size hd) (by decide))
  have k7 := bc1 sReverse (listV (v :: l.reverse)) (Nat.le_trans (rightT_size hf) (by decide))
  have k8 := bc1 sFirst (listV (v :: l.reverse)) (Nat.le_trans (rightT_size hf) (by decide))
  rw [cv_cons hv hl rfl, show (listV l).items = l from rfl, made_of ha] at k1
  rw [cv_first ha rfl, show (listV (v :: l)).items = v :: l from rfl, List.head?_cons] at k2
  rw [cv_rest ha rfl, show (listV (v :: l)).items = v :: l from rfl, if_neg (by simp), List.tail_cons] at k3
  rw [cv_append hv hl rfl, show (listV l).items = l from rfl, made_of hd] at k4
  rw [cv_last hd rfl, show (listV (l ++ [v])).items = l ++ [v] from rfl, List.getLast?_concat] at k5
  rw [cv_reverse hd rfl, show (listV (l ++ [v])).items = l ++ [v] from rfl, show (l ++ [v]).reverse = v :: l.reverse by simp] at k6
  rw [cv_reverse hf rfl, show (listV (v :: l.reverse)).items = v :: l.reverse from rfl, show (v :: l.reverse).reverse = l ++ [v] by simp] at k7
  rw [cv_first hf rfl, show (listV (v :: l.reverse)).items = v :: l.reverse from rfl, List.head?_cons] at k8
  simp only [resO_some, listV, sCons, sFirst, sRest, sAppend, sLast, sReverse, GV.kind, GV.num, GV.text, GV.items] at k1 k2 k3 k4 k5 k6 k7 k8
  have s1 := same2 v (Nat.le_trans (rightT_size hv) (by decide))
  have s2 := same2 (listV l) (Nat.le_trans (rightT_size hl) (by decide))
  have s3 := same2 (listV (l ++ [v])) (Nat.le_trans (rightT_size hd) (by decide))
  simp only [listV] at s2 s3
  apply pure_enter (by simp [c5])
  simp [c5, callAwake2, hL, hL1, k1, k2, k3, k4, k5, k6, k7, k8, s1, s2, s3, enc_mk, setRun, listV, fieldV_enc3, GV.kind, GV.num, GV.text, GV.items]
  done
end Go.Proofs.YtamapcjhinalfaaDoor
end
section
set_option linter.unusedVariables false
set_option linter.unusedSimpArgs false
set_option linter.unnecessarySimpa false
namespace Go.Proofs.YtamapcjhinalfaaDoor
open Go.Mach

theorem listT_not {l : List GV} (h : 16 < l.length) : rightT (listV l) = false := by
  rw [Bool.eq_false_iff]; intro hr
  rcases right_cases hr with ⟨n, h, h1, h2⟩ | ⟨t, h, h1⟩ | ⟨t, h, h1⟩ | ⟨l, h, h1, h2, h3⟩ <;> simp [listV] at h
  subst h; omega
theorem numV_num (n : Int) : (numV n).num = n := rfl
theorem listV_items (l : List GV) : (listV l).items = l := rfl
/-! ### BuiltinConcat -/
set_option maxRecDepth 100000 in
set_option maxHeartbeats 2000000 in
theorem concatB_ok (one two : List GV) (x : GV) (h1 : OkV one) (h2 : OkV two) (hx : x.ok) (sx : x.size ≤ 1048576) : pureT T c6 [.isl (GV.encs one) false, .isl (GV.encs two) false, x.enc] = some (.bool true) := by
  have hL : ∀ bs σ, callT T 22 [.isl (GV.encs one) false, .int .i64 16] bs σ = some ((listV (list2 one 16)).enc, σ) := callList2 one 16 h1 (by omega)
  have hM : ∀ bs σ, callT T 22 [.isl (GV.encs two) false, .int .i64 16] bs σ = some ((listV (list2 two 16)).enc, σ) := callList2 two 16 h2 (by omega)
  have hL1 := list1_of x hx sx
  have hv1 := cutV_right x
  have hmem : ∀ y ∈ list2 one 16, rightV 1 y = true := fun y hy => list2_mem hy
  have hmem2 : ∀ y ∈ list2 two 16, rightV 1 y = true := fun y hy => list2_mem hy
  have hlen := list2_len one 16
  have hlen2 := list2_len two 16
  generalize list2 one 16 = l at *
  generalize list2 two 16 = m at *
  generalize cutV x = v at *
  have hv : rightT v = true := right_up hv1 3
  have hl : rightT (listV l) = true := listT hmem (by omega)
  have hm : rightT (listV m) = true := listT hmem2 (by omega)
  have k1 := bc2 sConcat (listV l) (listV m) (Nat.le_trans (rightT_size hl) (by decide)) (Nat.le_trans (rightT_size hm) (by decide))
  rw [cv_concat hm hl rfl rfl, listV_items, listV_items] at k1
  have hw : IntKind.i64.wrap ((l.length : Int) + m.length) = (l.length : Int) + m.length := wr64 (by omega) (by omega)
  by_cases hn : l.length + m.length ≤ 16
  · have hn' : (l.length : Int) + m.length ≤ 16 := by omega
    have ha : rightT (listV (l ++ m)) = true := listT (by simp; rintro y (hy | hy); exact hmem y hy; exact hmem2 y hy) (by simpa using hn)
    have k2 := bc1 sSize (listV (l ++ m)) (Nat.le_trans (rightT_size ha) (by decide))
    have k3 := bc2 sMember (listV (l ++ m)) v (Nat.le_trans (rightT_size ha) (by decide)) (Nat.le_trans (rightT_size hv) (by decide))
    have k4 := bc2 sMember (listV l) v (Nat.le_trans (rightT_size hl) (by decide)) (Nat.le_trans (rightT_size hv) (by decide))
    have k5 := bc2 sMember (listV m) v (Nat.le_trans (rightT_size hm) (by decide)) (Nat.le_trans (rightT_size hv) (by decide))
    rw [made_of ha] at k1
    rw [cv_size ha rfl, listV_items] at k2
    rw [cv_member hv ha rfl, listV_items, List.any_append] at k3
    rw [cv_member hv hl rfl, listV_items] at k4
    rw [cv_member hv hm rfl, listV_items] at k5
    generalize l.any (fun x => decide (cmpV x v = 0)) = b1 at *
    generalize m.any (fun x => decide (cmpV x v = 0)) = b2 at *
    simp only [resO_some, listV, sConcat, sSize, sMember, GV.kind, GV.num, GV.text, GV.items, numV] at k1 k2 k3 k4 k5
    apply pure_enter (by simp [c6])
    simp [c6, callAwake2, hL, hL1, hM, k1, k2, k3, k4, k5, enc_mk, setRun, listV, fieldV_enc3, GV.kind, GV.num, GV.text, GV.items, hw, hn', numV]
    cases b1 <;> cases b2 <;> simp
  · have ha : rightT (listV (l ++ m)) = false := listT_not (by simp; omega)
    rw [show made (listV (l ++ m)) = none by simp [made, ha]] at k1
    simp only [resO_none, listV, sConcat, sSize, sMember, GV.kind, GV.num, GV.text, GV.items] at k1
    apply pure_enter (by simp [c6])
    simp [c6, callAwake2, hL, hL1, hM, k1, enc_mk, setRun, listV, fieldV_enc3, GV.kind, GV.num, GV.text, GV.items, hw]
    omega
theorem chkO_1 (ρ : Regs) (σ σ' : Heap) (x : AX) : (chkO ρ σ σ' [x] = some ()) = (objOf σ (ev ρ x) = objOf σ' (ev ρ x)) := by
  have := sameO_iff (objOf σ (ev ρ x)) (objOf σ' (ev ρ x))
  unfold chkO
  simp only [List.all_cons, List.all_nil, Bool.and_true]
  rw [← this]
  split <;> simp_all
/-! ### BuiltinSizes -/
set_option maxRecDepth 100000 in
set_option maxHeartbeats 2000000 in
theorem sizes_ok (raw : List GV) (x : GV) (hr : OkV raw) (hx : x.ok) (sx : x.size ≤ 1048576) : pureT T c9 [.isl (GV.encs raw) false, x.enc] = some (.bool true) := by
  have hL : ∀ bs σ, callT T 22 [.isl (GV.encs raw) false, .int .i64 15] bs σ = some ((listV (list2 raw 15)).enc, σ) := callList2 raw 15 hr (by omega)
  have hL1 := list1_of x hx sx
  have hv1 := cutV_right x
  have hmem : ∀ y ∈ list2 raw 15, rightV 1 y = true := fun y hy => list2_mem hy
  have hlen := list2_len raw 15
  generalize list2 raw 15 = l at *
  generalize cutV x = v at *
  have hv : rightT v = true := right_up hv1 3
  have hl : rightT (listV l) = true := listT hmem (by omega)
  have ha : rightT (listV (v :: l)) = true := listT (by simp [hv1]; exact hmem) (by simp; omega)
  have hd : rightT (listV (l ++ [v])) = true := listT (by simp; rintro y (hy | rfl); exact hmem y hy; exact hv1) (by simp; omega)
  have k1 := bc2 sCons v (listV l) (Nat.le_trans (rightT_size hv) (by decide)) (Nat.le_trans (rightT_size hl) (by decide))
  have k2 := bc2 sAppend (listV l) v (Nat.le_trans (rightT_size hl) (by decide)) (Nat.le_trans (rightT_size hv) (by decide))
  have k3 := bc1 sRest (listV l) (Nat.le_trans (rightT_size hl) (by decide))
  have k4 := bc1 sReverse (listV l) (Nat.le_trans (rightT_size hl) (by decide))
  have k5 := fun (i : Nat) (hi : i < l.length) => bc2 sMember (listV l) l[i] (Nat.le_trans (rightT_size hl) (by decide)) (Nat.le_trans (rightT_size (right_up (hmem _ (List.getElem_mem hi)) 3)) (by decide))
  rw [cv_cons hv hl rfl, listV_items, made_of ha] at k1
  rw [cv_append hv hl rfl, listV_items, made_of hd] at k2
  rw [cv_rest hl rfl, listV_items] at k3
  rw [cv_reverse hl rfl, listV_items] at k4
  have k5 : ∀ (i : Nat) (hi : i < l.length), callV sMember [listV l, l[i]] = some (numV 1) := fun i hi => by
    rw [cv_member (right_up (hmem _ (List.getElem_mem hi)) 3) hl rfl, listV_items]
    rw [if_pos]
    rw [List.any_eq_true]; exact ⟨l[i], List.getElem_mem hi, by simp [cmpV_self]⟩
  have hw : IntKind.i64.wrap ((l.length : Int) + 1) = (l.length : Int) + 1 := wr64 (by omega) (by omega)
  have k3' : ∃ (rr : GV) (bb : Bool), resO (if l = [] then none else some (listV l.tail)) = .tup [rr.enc, .bool bb] ∧ ((l = [] ∧ bb = false ∧ rr = nilV) ∨ (l ≠ [] ∧ bb = true ∧ rr = listV l.tail)) := by
    by_cases hn : l = []
    · exact ⟨nilV, false, by rw [if_pos hn]; rfl, .inl ⟨hn, rfl, rfl⟩⟩
    · exact ⟨_, true, by rw [if_neg hn]; rfl, .inr ⟨hn, rfl, rfl⟩⟩
  obtain ⟨rr, bb, e3, hrr⟩ := k3'
  rw [e3] at k3
  have k6 := fun (i : Nat) (hi : i < l.length) => bc2 sMember (listV l) l[i] (Nat.le_trans (rightT_size hl) (by decide)) (Nat.le_trans (rightT_size (right_up (hmem _ (List.getElem_mem hi)) 3)) (by decide))
  simp only [resO_some, listV, sCons, sAppend, sRest, sReverse, GV.kind, GV.num, GV.text, GV.items] at k1 k2 k3 k4
  apply pure_enter (by simp [c9])
  simp [c9, callAwake2, hL, hL1, k1, k2, k3, k4, enc_mk, setRun, listV, fieldV_enc3, GV.kind, GV.num, GV.text, GV.items]
  refine W_for T 0 132 l.length (fun i f σ => f 5 = .bool true ∧ f 6 = .ptr 1 0 ∧ f 8 = .int .i64 (l.length : Int) ∧ f 9 = .ptr 5 0 ∧ f 10 = .bool true ∧ f 11 = .ptr 7 0 ∧ f 12 = .bool true ∧ f 13 = .ptr 9 0 ∧ f 14 = .bool bb ∧ f 15 = .ptr 11 0 ∧ f 16 = .bool true ∧ f 17 = .int .i64 (i : Int) ∧ ∃ o0 o2 o3 o4 o6 o8 o10 rest, σ = [o0, .cells [.int .i64 4, .int .i64 0, .str ⟨#[]⟩, .isl (GV.encs l) false] 0 false, o2, o3, o4,
      .cells [.int .i64 4, .int .i64 0, .str ⟨#[]⟩, .isl (GV.encs (v :: l)) false] 0 false, o6, .cells [.int .i64 4, .int .i64 0, .str ⟨#[]⟩, .isl (GV.encs (l ++ [v])) false] 0 false, o8,
      .cells [.int .i64 rr.kind, .int .i64 rr.num, .str rr.text, .isl (GV.encs rr.items) false] 0 false, o10, .cells [.int .i64 4, .int .i64 0, .str ⟨#[]⟩, .isl (GV.encs l.reverse) false] 0 false] ++ rest) ?_ _ _ ?_
  · rintro i f σ hi ⟨g5, g6, g8, g9, g10, g11, g12, g13, g14, g15, g16, g17, o0, o2, o3, o4, o6, o8, o10, rest, rfl⟩
    by_cases hlt : i < l.length
    · have hw : IntKind.i64.wrap ((i : Int) + 1) = (i : Int) + 1 := wr64 (by omega) (by omega)
      have k6 := k6 i hlt
      rw [k5 i hlt] at k6
      simp only [resO_some, listV, sMember, GV.kind, GV.num, GV.text, GV.items] at k6
      simp [g5, g6, g8, g9, g10, g11, g12, g13, g14, g15, g16, g17, hlt, hw, k6, setRun, enc_mk, GV.kind, GV.num, GV.text, GV.items, numV, chkO_1, objOf]
      done
    · have hi2 : i = l.length := by omega
      subst hi2
      rcases hrr with ⟨rfl, rfl, rfl⟩ | ⟨hn, rfl, rfl⟩
      · simp [g5, g6, g8, g9, g10, g11, g12, g13, g14, g15, g16, g17, hw, setRun]
        decide
      · have : 0 < l.length := List.length_pos_iff.2 hn
        have hlt2 : (listV l.tail).items.length = l.length - 1 := by simp [listV]
        have hw2 : IntKind.i64.wrap ((l.length : Int) - 1) = (l.length : Int) - 1 := wr64 (by omega) (by omega)
        simp [g5, g6, g8, g9, g10, g11, g12, g13, g14, g15, g16, g17, hw, hw2, setRun, this]
        omega
  · simp
    done
end Go.Proofs.YtamapcjhinalfaaDoor
end
section
set_option linter.unusedVariables false
set_option linter.unusedSimpArgs false
set_option linter.unnecessarySimpa false
namespace Go.Proofs.YtamapcjhinalfaaDoor
open Go.Mach

theorem sameNil (bs : Nat) (σ : Heap) : callT T 17 [nilV.enc, .agg [.int .i64 0, .int .i64 0, .str ⟨#[]⟩, .isl [] true]] bs σ = some (.bool true, σ) := by
  have h : pureT T c17 [nilV.enc, nilV.enc] = some (.bool true) := by have := same_ok nilV.size nilV nilV (Nat.le_refl _) (by decide); simpa using this
  have hc : closeT σ [nilV.enc, .agg [.int .i64 0, .int .i64 0, .str ⟨#[]⟩, .isl [] true]] = some ([nilV.enc, nilV.enc], σ) := by rw [← nilV_enc]; rfl
  rw [call_pure rfl rfl rfl hc (by simp) h, ite_self]
def namesL : List AV := [.str sCons, .str sAppend, .str sConcat, .str sMember, .str sSize, .str sFirst, .str sLast, .str sRest, .str sReverse]
theorem names_eval : evalFn T 100 20 [] 0 [] = some (.isl namesL false, []) := by kernel_rfl
theorem names_ok : pureT T c20 [] = some (.isl namesL false) := pureT_of_call rfl rfl rfl rfl (callT_of_eval names_eval)
theorem callNames (bs : Nat) (σ : Heap) : callT T 20 [] bs σ = some (.isl namesL false, σ) := call_clean rfl rfl rfl rfl names_ok
theorem namesL_at {p : Nat} (h : p < 9) : ∃ s, namesL[p]? = some (.str s) := by
  have : p = 0 ∨ p = 1 ∨ p = 2 ∨ p = 3 ∨ p = 4 ∨ p = 5 ∨ p = 6 ∨ p = 7 ∨ p = 8 := by omega
  rcases this with rfl | rfl | rfl | rfl | rfl | rfl | rfl | rfl | rfl <;> exact ⟨_, rfl⟩
def opsL : List AV := [.str ⟨#[43]⟩, .str ⟨#[45]⟩, .str ⟨#[42]⟩]
theorem opsL_at {p : Nat} (h : p < 3) : ∃ s, window opsL p 1 = some [.str s] := by
  have : p = 0 ∨ p = 1 ∨ p = 2 := by omega
  rcases this with rfl | rfl | rfl <;> exact ⟨_, rfl⟩
theorem items_right {a : GV} (ha : rightT a = true) (hk : a.kind = 4) : a.items.length ≤ 16 ∧ ∀ x ∈ a.items, rightV 3 x = true := by
  rcases right_cases ha with ⟨n, rfl, h1, h2⟩ | ⟨t, rfl, h1⟩ | ⟨t, rfl, h1⟩ | ⟨l, rfl, h1, h2, h3⟩ <;> simp [GV.kind] at hk
  exact ⟨h2, h3⟩
theorem callD_right {s : ByteArray} {args : List GV} {a v : GV} (ha : rightT a = true) (hk : a.kind = 4) (h : callD s args a = some v) : rightT v = true := by
  have hm : ∀ {w}, made w = some v → rightT v = true := fun h => by obtain ⟨rfl, hr⟩ := made_some h; exact hr
  obtain ⟨hl, hi⟩ := items_right ha hk
  have hup : ∀ x ∈ a.items, rightT x = true := fun x hx => right_mono _ _ (hi x hx)
  unfold callD at h
  split at h
  · cases args with
    | nil => cases h
    | cons b args => exact hm h
  split at h
  · exact hm h
  split at h
  · unfold doConcat at h
    split at h
    · split at h
      · exact hm h
      · cases h
    · cases h
  split at h
  · unfold doMember at h
    split at h
    · injection h with h; rw [← h]; split <;> exact num_right (by omega)
    · cases h
  split at h
  · injection h with h; rw [← h]; exact num_right (by omega)
  split at h
  · exact hup _ (List.mem_of_head? h)
  split at h
  · exact hup _ (List.mem_of_getLast? h)
  split at h
  · split at h
    · cases h
    · injection h with h
      rw [← h]
      exact listV_right (d := 3) (fun x hx => hi x (List.mem_of_mem_tail hx)) (by simp; omega)
  · injection h with h
    rw [← h]; exact listV_right (d := 3) (fun x hx => hi x (by simpa using hx)) (by simpa using hl)
theorem callV_right {s : ByteArray} {args : List GV} {v : GV} (h : callV s args = some v) : (args.length : Int) = arityOf s ∧ args.all rightT = true ∧ rightT v = true := by
  unfold callV at h
  split at h
  · rename_i h2
    refine ⟨h2.1, h2.2, ?_⟩
    cases hx : args[if s = sCons then 1 else 0]? with
    | none => rw [hx] at h; cases h
    | some a =>
      rw [hx] at h
      simp only [Option.bind_some] at h
      split at h
      · exact callD_right (List.all_eq_true.1 h2.2 _ (List.mem_of_getElem? hx)) (by assumption) h
      · cases h
  · cases h
theorem opV_right {s : ByteArray} {a b v : GV} (h : opV s a b = some v) : rightT a = true ∧ rightT b = true ∧ v.kind = 1 ∧ rightT v = true := by
  unfold opV at h
  split at h
  · rename_i h2
    refine ⟨h2.2.2.1, h2.2.2.2, ?_⟩
    split at h
    · obtain ⟨rfl, hr⟩ := made_some h; exact ⟨rfl, hr⟩
    split at h
    · obtain ⟨rfl, hr⟩ := made_some h; exact ⟨rfl, hr⟩
    split at h
    · obtain ⟨rfl, hr⟩ := made_some h; exact ⟨rfl, hr⟩
    cases h
  · cases h
set_option maxRecDepth 100000 in
set_option maxHeartbeats 2000000 in
theorem rightB_ok (n : Int) (a b : GV) (hn : GV.i64ok n) (ha : a.ok) (hb : b.ok) (sa : a.size ≤ 1048576) (sb : b.size ≤ 1048576) : pureT T c4 [.int .i64 n, a.enc, b.enc] = some (.bool true) := by
  have p1 : ∀ bs σ, callT T 21 [.int .i64 n, .int .i64 9] bs σ = some (.int .i64 (pickN n 9 : Int), σ) := pick2 n 9 (by omega) hn
  have p2 : ∀ bs σ, callT T 21 [.int .i64 n, .int .i64 3] bs σ = some (.int .i64 (pickN n 3 : Int), σ) := pick2 n 3 (by omega) hn
  have l1 := pickN_lt (c := n) (n := 9) (by omega)
  have l2 := pickN_lt (c := n) (n := 3) (by omega)
  generalize pickN n 9 = u at *
  generalize pickN n 3 = w at *
  obtain ⟨s, hs⟩ := namesL_at l1
  obtain ⟨op, hop⟩ := opsL_at l2
  unfold opsL at hop
  have k1 := bc1 s a (by omega)
  have k2 := bc2 s a b (by omega) (by omega)
  have k3 := bc2 s b a (by omega) (by omega)
  have ra := valRight a (by omega)
  have rb := valRight b (by omega)
  have l2' : (w : Int) < 3 := by omega
  have f1 := @callV_right s [a]
  have f2 := @callV_right s [a, b]
  have f3 := @callV_right s [b, a]
  have f4 := @opV_right op a b
  simp only [List.all_cons, List.all_nil, Bool.and_true, Bool.and_eq_true] at f1 f2 f3
  generalize callV s [a] = r1 at *
  generalize callV s [a, b] = r2 at *
  generalize callV s [b, a] = r3 at *
  have k4 := callBOp op a b (by omega) (by omega)
  generalize opV op a b = r4 at *
  have hary := bArity s
  generalize arityOf s = ar at *
  apply pure_enter (by simp [c4])
  generalize rightT a = xa at *
  generalize rightT b = xb at *
  obtain ⟨ff, hff⟩ : ∃ ff : Bool, ff = (xa && xb) := ⟨_, rfl⟩
  cases xa <;> cases xb <;> simp only [Bool.and_true, Bool.and_false, Bool.false_and, Bool.true_and, Bool.and_self] at hff
  all_goals
    simp [c4, callAwake2, callNames, p1, p2, hs, hop, ra, rb, enc_mk, setRun, l2, l2']
  all_goals
    refine W_for T 0 128 3 (fun i f σ => f 4 = .ptr 0 0 ∧ f 5 = .ptr 1 0 ∧ f 7 = .bool true ∧ f 8 = .str s ∧ f 9 = .str op ∧ f 10 = .bool ff ∧ f 43 = .sl 6 0 3 1 false ∧ f 44 = .int .i64 3 ∧ f 45 = .int .i64 (i : Int) ∧ ∃ o2 m3 m4 m5 rest, σ =
      [.cells [.int .i64 a.kind, .int .i64 a.num, .str a.text, .isl (GV.encs a.items) false] 0 false, .cells [.int .i64 b.kind, .int .i64 b.num, .str b.text, .isl (GV.encs b.items) false] 0 false, o2,
       .cells [.int .i64 a.kind, .int .i64 a.num, .str a.text, .isl (GV.encs a.items) false] m3 false,
       .cells [.int .i64 a.kind, .int .i64 a.num, .str a.text, .isl (GV.encs a.items) false, .int .i64 b.kind, .int .i64 b.num, .str b.text, .isl (GV.encs b.items) false] m4 false,
       .cells [.int .i64 b.kind, .int .i64 b.num, .str b.text, .isl (GV.encs b.items) false, .int .i64 a.kind, .int .i64 a.num, .str a.text, .isl (GV.encs a.items) false] m5 false,
       .cells [.sl 3 0 1 4 true, .sl 4 0 2 4 true, .sl 5 0 2 4 true] 0 false] ++ rest ∧ (i ≤ 0 → m3 = 0) ∧ (i ≤ 1 → m4 = 0) ∧ (i ≤ 2 → m5 = 0)) ?_ _ _ ?_
  rotate_left 1
  · simp [hff]; exact ⟨_, _, _, _, ⟨rfl, rfl, rfl, rfl⟩, rfl, rfl, rfl⟩
  rotate_left 1
  · simp [hff]; exact ⟨_, _, _, _, ⟨rfl, rfl, rfl, rfl⟩, rfl, rfl, rfl⟩
  rotate_left 1
  · simp [hff]; exact ⟨_, _, _, _, ⟨rfl, rfl, rfl, rfl⟩, rfl, rfl, rfl⟩
  rotate_left 1
  · simp [hff]; exact ⟨_, _, _, _, ⟨rfl, rfl, rfl, rfl⟩, rfl, rfl, rfl⟩
  all_goals
    rintro i f σ hi ⟨g4, g5, g7, g8, g9, g10, g43, g44, g45, o2, m3, m4, m5, rest, rfl, e3, e4, e5⟩
    rw [hff] at g10
    have hi2 : i = 0 ∨ i = 1 ∨ i = 2 ∨ i = 3 := by omega
    have sn := sameNil
    rcases hi2 with rfl | rfl | rfl | rfl
    · have e3 := e3 (by omega)
      subst e3
      have hw : IntKind.i64.wrap (0 + 1) = 0 + 1 := wr64 (by omega) (by omega)
      cases r1 with
      | none =>
        simp only [resO_none] at k1
        simp [hff, g4, g5, g7, g8, g9, g10, g43, g44, g45, setRun, enc_mk, nilV_enc, ra, rb, sn, hary, chkO_1, objOf, k1, hw]
        exact ⟨by decide, e4 (by omega), e5 (by omega)⟩
      | some v =>
        obtain ⟨q1, q2, q3⟩ := f1 rfl
        first
        | (exfalso; simp at q2; done)
        | have hv := valRight v (Nat.le_trans (rightT_size q3) (by decide))
          rw [q3] at hv
          simp only [resO_some] at k1
          simp at q1
          simp [hff, g4, g5, g7, g8, g9, g10, g43, g44, g45, setRun, enc_mk, nilV_enc, ra, rb, sn, hary, chkO_1, objOf, k1, hv, hw, ← q1]
          exact ⟨by decide, e4 (by omega), e5 (by omega)⟩
    · have e4 := e4 (by omega)
      subst e4
      have hw : IntKind.i64.wrap (1 + 1) = 1 + 1 := wr64 (by omega) (by omega)
      cases r2 with
      | none =>
        simp only [resO_none] at k2
        simp [hff, g4, g5, g7, g8, g9, g10, g43, g44, g45, setRun, enc_mk, nilV_enc, ra, rb, sn, hary, chkO_1, objOf, k2, hw]
        exact ⟨by decide, e5 (by omega)⟩
      | some v =>
        obtain ⟨q1, q2, q3⟩ := f2 rfl
        first
        | (exfalso; simp at q2; done)
        | have hv := valRight v (Nat.le_trans (rightT_size q3) (by decide))
          rw [q3] at hv
          simp only [resO_some] at k2
          simp at q1
          simp [hff, g4, g5, g7, g8, g9, g10, g43, g44, g45, setRun, enc_mk, nilV_enc, ra, rb, sn, hary, chkO_1, objOf, k2, hv, hw, ← q1]
          exact ⟨by decide, e5 (by omega)⟩
    · have e5 := e5 (by omega)
      subst e5
      have hw : IntKind.i64.wrap (2 + 1) = 2 + 1 := wr64 (by omega) (by omega)
      cases r3 with
      | none =>
        simp only [resO_none] at k3
        simp [hff, g4, g5, g7, g8, g9, g10, g43, g44, g45, setRun, enc_mk, nilV_enc, ra, rb, sn, hary, chkO_1, objOf, k3, hw]
        decide
      | some v =>
        obtain ⟨q1, q2, q3⟩ := f3 rfl
        first
        | (exfalso; simp at q2; done)
        | have hv := valRight v (Nat.le_trans (rightT_size q3) (by decide))
          rw [q3] at hv
          simp only [resO_some] at k3
          simp at q1
          simp [hff, g4, g5, g7, g8, g9, g10, g43, g44, g45, setRun, enc_mk, nilV_enc, ra, rb, sn, hary, chkO_1, objOf, k3, hv, hw, ← q1]
          decide
    · cases r4 with
      | none =>
        simp only [resO_none] at k4
        simp [hff, g4, g5, g7, g8, g9, g10, g43, g44, g45, setRun, enc_mk, nilV_enc, ra, rb, sn, hary, chkO_1, objOf, k4]
        done
      | some v =>
        obtain ⟨q1, q2, q3, q4⟩ := f4 rfl
        first
        | (exfalso; simp at q1; done)
        | (exfalso; simp at q2; done)
        | have hv := valRight v (Nat.le_trans (rightT_size q4) (by decide))
          rw [q4] at hv
          simp only [resO_some] at k4
          simp [hff, g4, g5, g7, g8, g9, g10, g43, g44, g45, setRun, enc_mk, nilV_enc, ra, rb, sn, hary, chkO_1, objOf, k4, hv]
          exact q3
end Go.Proofs.YtamapcjhinalfaaDoor
end
section
set_option linter.unusedVariables false
set_option linter.unusedSimpArgs false
set_option linter.unnecessarySimpa false
namespace Go.Proofs.YtamapcjhinalfaaDoor
open Go.Mach

/-! ### BuiltinTells -/
theorem rv_size {s : ByteArray} {args : List GV} : ((callV s args).getD nilV).size ≤ 2936010 := by
  cases h : callV s args with
  | none => decide
  | some v => exact rightT_size (callV_right h).2.2
theorem ov_size {s : ByteArray} {a b : GV} : ((opV s a b).getD nilV).size ≤ 2936010 := by
  cases h : opV s a b with
  | none => decide
  | some v => exact rightT_size (opV_right h).2.2.2
theorem rc1 (s : ByteArray) (x : GV) (hs : x.size ≤ 100000000000) (σ : Heap) (k : Nat) (h : σ[k]? = some (.cells [.int .i64 x.kind, .int .i64 x.num, .str x.text, .isl (GV.encs x.items) false] 4 false)) (bs : Nat) :
    callT T 12 [.str s, .sl k 0 1 4 true] bs σ = some (resO (callV s [x]), σ) := by
  have hc := rCall_ok s [x] (by simpa using hs) (by simp)
  refine call_data rfl rfl rfl hc (resO_scal _) (by simp) ?_
  simp [close1, close0, h, frz, window, chunk, enc_mk, List.set_getElem?_self]
theorem rc2 (s : ByteArray) (x y : GV) (hs : x.size ≤ 100000000000) (ht : y.size ≤ 100000000000) (σ : Heap) (k : Nat) (h : σ[k]? = some (.cells [.int .i64 x.kind, .int .i64 x.num, .str x.text, .isl (GV.encs x.items) false, .int .i64 y.kind, .int .i64 y.num, .str y.text, .isl (GV.encs y.items) false] 8 false)) (bs : Nat) :
    callT T 12 [.str s, .sl k 0 2 4 true] bs σ = some (resO (callV s [x, y]), σ) := by
  have hc := rCall_ok s [x, y] (by simp; omega) (by simp)
  refine call_data rfl rfl rfl hc (resO_scal _) (by simp) ?_
  simp [close1, close0, h, frz, window, chunk, enc_mk, GV.encs, List.set_getElem?_self]
abbrev cellsOf (v : GV) : List AV := [.int .i64 v.kind, .int .i64 v.num, .str v.text, .isl (GV.encs v.items) false]
set_option maxRecDepth 100000 in
set_option maxHeartbeats 4000000 in
theorem tellsB_ok (s : ByteArray) (args : List GV) (o : ByteArray) (a b : GV) (raw : List GV) (n : Int) (hg : OkV args) (hgs : ∀ x ∈ args, x.size ≤ 1048576) (ha : a.ok) (hb : b.ok) (sa : a.size ≤ 1048576) (sb : b.size ≤ 1048576) (hr : OkV raw) (hn : GV.i64ok n) :
    pureT T c3 [.str s, .isl (GV.encs args) false, .str o, a.enc, b.enc, .isl (GV.encs raw) false, .int .i64 n] = some (.bool true) := by
  have p1 : ∀ bs σ, callT T 21 [.int .i64 n, .int .i64 9] bs σ = some (.int .i64 (pickN n 9 : Int), σ) := pick2 n 9 (by omega) hn
  have l1 := pickN_lt (c := n) (n := 9) (by omega)
  generalize pickN n 9 = u at *
  obtain ⟨f, hf⟩ := namesL_at l1
  have hL : ∀ bs σ, callT T 22 [.isl (GV.encs raw) false, .int .i64 16] bs σ = some ((listV (list2 raw 16)).enc, σ) := callList2 raw 16 hr (by omega)
  have hM : ∀ bs σ, callT T 22 [.isl (GV.encs args) false, .int .i64 16] bs σ = some ((listV (list2 args 16)).enc, σ) := callList2 args 16 hg (by omega)
  have zl := rightT_size (list2_T raw (m := 16) (by omega))
  have zm := rightT_size (list2_T args (m := 16) (by omega))
  have zc := fit_size a
  have hfit := callFit a ha (by omega)
  have q1 := callBCall s args (fun x hx => by have := hgs x hx; omega) (by have := hg.2.2; omega)
  have q2 := callRCall s args (fun x hx => by have := hgs x hx; omega) (by have := hg.2.2; omega)
  have q3 := callBOp o a b (by omega) (by omega)
  have q4 := callROp o a b (by omega) (by omega)
  have q5 := callBTest o a b (by omega) (by omega)
  have q6 := callRTest o a b (by omega) (by omega)
  have a1 := bArity s
  have a2 := refArity s
  have s1 := same2 ((callV s args).getD nilV) (Nat.le_trans rv_size (by decide))
  have s2 := same2 ((opV o a b).getD nilV) (Nat.le_trans ov_size (by decide))
  generalize listV (list2 raw 16) = l at *
  generalize listV (list2 args 16) = m at *
  generalize fit a = c at *
  have x1 := bc1 f l (by omega)
  have x2 := bc2 f l c (by omega) (by omega)
  have x3 := bc2 f c l (by omega) (by omega)
  have x4 := bc2 f l m (by omega) (by omega)
  have x5 := bc1 f c (by omega)
  have y1 := rc1 f l (by omega)
  have y2 := rc2 f l c (by omega) (by omega)
  have y3 := rc2 f c l (by omega) (by omega)
  have y4 := rc2 f l m (by omega) (by omega)
  have y5 := rc1 f c (by omega)
  have t1 := same2 ((callV f [l]).getD nilV) (Nat.le_trans rv_size (by decide))
  have t2 := same2 ((callV f [l, c]).getD nilV) (Nat.le_trans rv_size (by decide))
  have t3 := same2 ((callV f [c, l]).getD nilV) (Nat.le_trans rv_size (by decide))
  have t4 := same2 ((callV f [l, m]).getD nilV) (Nat.le_trans rv_size (by decide))
  have t5 := same2 ((callV f [c]).getD nilV) (Nat.le_trans rv_size (by decide))
  unfold resO at q1 q2 q3 q4 x1 x2 x3 x4 x5 y1 y2 y3 y4 y5
  generalize (callV s args).isSome = b0 at *
  generalize (callV s args).getD nilV = v0 at *
  generalize (opV o a b).isSome = b9 at *
  generalize (opV o a b).getD nilV = v9 at *
  generalize (callV f [l]).isSome = b1 at *
  generalize (callV f [l]).getD nilV = v1 at *
  generalize (callV f [l, c]).isSome = b2 at *
  generalize (callV f [l, c]).getD nilV = v2 at *
  generalize (callV f [c, l]).isSome = b3 at *
  generalize (callV f [c, l]).getD nilV = v3 at *
  generalize (callV f [l, m]).isSome = b4 at *
  generalize (callV f [l, m]).getD nilV = v4 at *
  generalize (callV f [c]).isSome = b5 at *
  generalize (callV f [c]).getD nilV = v5 at *
  generalize arityOf s = ar at *
  generalize testV o a b = tt at *
  apply pure_enter (by simp [c3])
  simp [c3, callAwake2, callNames, p1, hf, hL, hM, hfit, q1, q2, q3, q4, q5, q6, a1, a2, s1, s2, enc_mk, setRun, chkO_1, objOf]
  refine W_for T 0 149 5 (fun i h σ => h 16 = .ptr 2 0 ∧ h 18 = .ptr 3 0 ∧ h 24 = .str f ∧ h 121 = .sl 13 0 5 1 false ∧ h 122 = .int .i64 5 ∧ h 123 = .int .i64 (i : Int) ∧ ∃ o0 o1 c0 c1 c2 c3 d0 d1 d2 d3 o4 o5 o6 o7 m1 m2 m3 m4 m5, σ =
      [o0, o1, .cells [c0, c1, c2, c3] 0 false, .cells [d0, d1, d2, d3] 0 false, o4, o5, o6, o7,
       .cells (cellsOf l) m1 false, .cells [.int .i64 l.kind, .int .i64 l.num, .str l.text, .isl (GV.encs l.items) false, .int .i64 c.kind, .int .i64 c.num, .str c.text, .isl (GV.encs c.items) false] m2 false,
       .cells [.int .i64 c.kind, .int .i64 c.num, .str c.text, .isl (GV.encs c.items) false, .int .i64 l.kind, .int .i64 l.num, .str l.text, .isl (GV.encs l.items) false] m3 false,
       .cells (cellsOf c) m5 false, .cells [.int .i64 l.kind, .int .i64 l.num, .str l.text, .isl (GV.encs l.items) false, .int .i64 m.kind, .int .i64 m.num, .str m.text, .isl (GV.encs m.items) false] m4 false,
       .cells [.sl 8 0 1 4 true, .sl 9 0 2 4 true, .sl 10 0 2 4 true, .sl 12 0 2 4 true, .sl 11 0 1 4 true] 0 false] ∧ (i ≤ 0 → m1 = 0) ∧ (i ≤ 1 → m2 = 0) ∧ (i ≤ 2 → m3 = 0) ∧ (i ≤ 3 → m4 = 0) ∧ (i ≤ 4 → m5 = 0)) ?_ _ _ ?_
  rotate_left 1
  · refine ⟨by simp, by simp, by simp, by simp, by simp, by simp, _, _, _, _, _, _, _, _, _, _, _, _, _, _, 0, 0, 0, 0, 0, rfl, by simp, by simp, by simp, by simp, by simp⟩
  rintro i h σ hi ⟨g16, g18, g24, g121, g122, g123, o0, o1, c0, c1, c2, c3, d0, d1, d2, d3, o4, o5, o6, o7, m1, m2, m3, m4, m5, rfl, e1, e2, e3, e4, e5⟩
  have hi2 : i = 0 ∨ i = 1 ∨ i = 2 ∨ i = 3 ∨ i = 4 ∨ i = 5 := by omega
  rcases hi2 with rfl | rfl | rfl | rfl | rfl | rfl
  · have z1 := e1 (by omega)
    subst z1
    have z2 := e2 (by omega)
    subst z2
    have z3 := e3 (by omega)
    subst z3
    have z4 := e4 (by omega)
    subst z4
    have z5 := e5 (by omega)
    subst z5
    have hw : IntKind.i64.wrap (0 + 1) = 0 + 1 := wr64 (by omega) (by omega)
    simp [g16, g18, g24, g121, g122, g123, setRun, enc_mk, chkO_1, objOf, x1, y1, t1, hw]
    first
    | decide
    | exact ⟨by decide, _, _, _, _, _, _, _, _, _, _, _, _, _, _, _, _, _, _, _, ⟨rfl, rfl, ⟨rfl, rfl, rfl, rfl⟩, ⟨rfl, rfl, rfl, rfl⟩, rfl, rfl, rfl, rfl, rfl, rfl, rfl, rfl, rfl⟩, by simp⟩
  · have z2 := e2 (by omega)
    subst z2
    have z3 := e3 (by omega)
    subst z3
    have z4 := e4 (by omega)
    subst z4
    have z5 := e5 (by omega)
    subst z5
    have hw : IntKind.i64.wrap (1 + 1) = 1 + 1 := wr64 (by omega) (by omega)
    simp [g16, g18, g24, g121, g122, g123, setRun, enc_mk, chkO_1, objOf, x2, y2, t2, hw]
    first
    | decide
    | exact ⟨by decide, _, _, _, _, _, _, _, _, _, _, _, _, _, _, _, _, _, _, _, ⟨rfl, rfl, ⟨rfl, rfl, rfl, rfl⟩, ⟨rfl, rfl, rfl, rfl⟩, rfl, rfl, rfl, rfl, rfl, rfl, rfl, rfl, rfl⟩, by simp⟩
  · have z3 := e3 (by omega)
    subst z3
    have z4 := e4 (by omega)
    subst z4
    have z5 := e5 (by omega)
    subst z5
    have hw : IntKind.i64.wrap (2 + 1) = 2 + 1 := wr64 (by omega) (by omega)
    simp [g16, g18, g24, g121, g122, g123, setRun, enc_mk, chkO_1, objOf, x3, y3, t3, hw]
    first
    | decide
    | exact ⟨by decide, _, _, _, _, _, _, _, _, _, _, _, _, _, _, _, _, _, _, _, ⟨rfl, rfl, ⟨rfl, rfl, rfl, rfl⟩, ⟨rfl, rfl, rfl, rfl⟩, rfl, rfl, rfl, rfl, rfl, rfl, rfl, rfl, rfl⟩, by simp⟩
  · have z4 := e4 (by omega)
    subst z4
    have z5 := e5 (by omega)
    subst z5
    have hw : IntKind.i64.wrap (3 + 1) = 3 + 1 := wr64 (by omega) (by omega)
    simp [g16, g18, g24, g121, g122, g123, setRun, enc_mk, chkO_1, objOf, x4, y4, t4, hw]
    first
    | decide
    | exact ⟨by decide, _, _, _, _, _, _, _, _, _, _, _, _, _, _, _, _, _, _, _, ⟨rfl, rfl, ⟨rfl, rfl, rfl, rfl⟩, ⟨rfl, rfl, rfl, rfl⟩, rfl, rfl, rfl, rfl, rfl, rfl, rfl, rfl, rfl⟩, by simp⟩
  · have z5 := e5 (by omega)
    subst z5
    have hw : IntKind.i64.wrap (4 + 1) = 4 + 1 := wr64 (by omega) (by omega)
    simp [g16, g18, g24, g121, g122, g123, setRun, enc_mk, chkO_1, objOf, x5, y5, t5, hw]
    first
    | decide
    | exact ⟨by decide, _, _, _, _, _, _, _, _, _, _, _, _, _, _, _, _, _, _, _, ⟨rfl, rfl, ⟨rfl, rfl, rfl, rfl⟩, ⟨rfl, rfl, rfl, rfl⟩, rfl, rfl, rfl, rfl, rfl, rfl, rfl, rfl, rfl⟩, by simp⟩
  · simp [g16, g18, g24, g121, g122, g123, setRun, enc_mk, chkO_1, objOf]
    done
end Go.Proofs.YtamapcjhinalfaaDoor
end
