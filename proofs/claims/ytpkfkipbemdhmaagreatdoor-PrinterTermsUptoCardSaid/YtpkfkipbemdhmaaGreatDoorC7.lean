import Derived.Test.YtpkfkipbemdhmaaGreatDoorC6
import Derived.Test.YtpkfkipbemdhmaaGreatDoorChecked
import Derived.KernelRfl
section
set_option linter.unusedVariables false
set_option linter.unusedSimpArgs false
set_option linter.unnecessarySimpa false
namespace Go.Mach
/-! ### Slices of structs -/
theorem setRun_take : ∀ (vs cs : List AV) (o : Nat), o + vs.length ≤ cs.length → setRun cs o vs = cs.take o ++ vs ++ cs.drop (o + vs.length)
  | [], cs, o, h => by simp [setRun]
  | v :: vs, cs, o, h => by
    simp only [List.length_cons] at h
    rw [setRun, setRun_take vs _ _ (by simp; omega)]
    rw [List.take_set, List.take_add_one, List.drop_set]
    have h1 : o < cs.length := by omega
    rw [if_pos (by omega)]
    simp only [List.getElem?_eq_getElem h1, Option.toList_some, List.length_cons]
    rw [List.set_append_right _ _ (by simp; omega)]
    simp only [List.length_take, Nat.min_eq_left (Nat.le_of_lt h1), Nat.sub_self, List.set_cons_zero]
    rw [show o + 1 + vs.length = o + (vs.length + 1) by omega]
    simp
theorem flat_cons (x : AV) (es : List AV) : flat (x :: es) = x.cells ++ flat es := by simp [flat]
theorem flat_len {s : Nat} : ∀ {es : List AV}, (∀ e ∈ es, e.cells.length = s) → (flat es).length = es.length * s
  | [], _ => by simp [flat]
  | x :: es, h => by
    rw [flat_cons, List.length_append, flat_len fun e he => h e (by simp [he]), h x (by simp), List.length_cons, Nat.add_mul]; omega
theorem flat_win {s : Nat} : ∀ {es : List AV} {i : Nat} (hi : i < es.length), (∀ e ∈ es, e.cells.length = s) → window (flat es) (i * s) s = some es[i].cells
  | x :: es, 0, hi, h => by
    have hx := h x (by simp)
    unfold window
    rw [flat_cons, if_pos (by simp; omega)]
    simp only [Nat.zero_mul, List.drop_zero, List.getElem_cons_zero]
    rw [List.take_append_of_le_length (by omega), List.take_of_length_le (by omega)]
  | x :: es, i + 1, hi, h => by
    have hx := h x (by simp)
    have hi' : i < es.length := by simpa using hi
    have ih := flat_win hi' (fun e he => h e (by simp [he]))
    have hl : (flat es).length = es.length * s := flat_len (fun e he => h e (List.mem_cons_of_mem _ he))
    unfold window at ih ⊢
    split at ih
    · rename_i hc
      rw [flat_cons, if_pos (by simp; rw [Nat.add_mul]; omega)]
      injection ih with ih
      rw [List.getElem_cons_succ, ← ih]
      have e : (i + 1) * s = x.cells.length + i * s := by rw [Nat.add_mul]; omega
      rw [e, List.drop_append, List.drop_of_length_le (by omega), List.nil_append, Nat.add_sub_cancel_left]
    · cases ih
theorem flat_set {s : Nat} {v : AV} (hv : v.cells.length = s) : ∀ {es : List AV} {i : Nat} (hi : i < es.length), (∀ e ∈ es, e.cells.length = s) → setRun (flat es) (i * s) v.cells = flat (es.set i v)
  | x :: es, 0, hi, h => by
    have hx := h x (by simp)
    rw [setRun_take _ _ _ (by rw [flat_cons]; simp; omega), flat_cons, List.set_cons_zero, flat_cons]
    simp only [Nat.zero_mul, List.take_zero, List.nil_append, Nat.zero_add]
    rw [List.drop_append, List.drop_of_length_le (by omega), hv, hx]; simp
  | x :: es, i + 1, hi, h => by
    have hx := h x (by simp)
    have hi' : i < es.length := by simpa using hi
    have ih := flat_set hv hi' (fun e he => h e (by simp [he]))
    have hl : (flat es).length = es.length * s := flat_len (fun e he => h e (List.mem_cons_of_mem _ he))
    have hle : i * s + s ≤ es.length * s := by rw [← Nat.succ_mul]; exact Nat.mul_le_mul_right _ hi'
    have hl' : (flat es).length = es.length * s := flat_len fun e he => h e (by simp [he])
    rw [setRun_take _ _ _ (by omega)] at ih
    rw [setRun_take _ _ _ (by rw [flat_cons, List.length_append, hl, Nat.add_mul]; omega), flat_cons, List.set_cons_succ, flat_cons, ← ih]
    have e : (i + 1) * s = x.cells.length + i * s := by rw [Nat.add_mul]; omega
    rw [e, List.take_append, List.drop_append]
    simp only [List.append_assoc]
    rw [List.take_of_length_le (by omega), List.drop_of_length_le (by omega)]
    simp only [List.nil_append]
    congr 2
    · rw [Nat.add_sub_cancel_left]
    · congr 2
      omega
theorem flat_chunk {s : Nat} : ∀ {es : List AV}, (∀ e ∈ es, ∃ cs, e = .agg cs ∧ cs.length = s) → chunk s true es.length (flat es) = some es
  | [], _ => rfl
  | x :: es, h => by
    obtain ⟨cs, rfl, hl⟩ := h x (by simp)
    have ih := flat_chunk (es := es) (fun e he => h e (List.mem_cons_of_mem _ he))
    simp only [List.length_cons, chunk]
    rw [flat_cons]
    show ((mk true ((cs ++ flat es).take s)).bind _) = _
    rw [List.take_append_of_le_length (by omega), List.take_of_length_le (by omega)]
    show ((chunk s true es.length ((cs ++ flat es).drop s)).map _) = _
    rw [List.drop_append, List.drop_of_length_le (by omega), hl, Nat.sub_self, List.drop_zero, List.nil_append, ih]; rfl
theorem encsV_len (l : List GV) : ∀ e ∈ GV.encs l, e.cells.length = 4 := fun e he => by
  rw [GV.encs_map] at he; obtain ⟨v, _, rfl⟩ := List.mem_map.1 he; simp
theorem encsV_agg (l : List GV) : ∀ e ∈ GV.encs l, ∃ cs, e = .agg cs ∧ cs.length = 4 := fun e he => by
  rw [GV.encs_map] at he; obtain ⟨v, _, rfl⟩ := List.mem_map.1 he; exact ⟨_, GV.enc_eq v, rfl⟩
def clo1n : AV → Bool
  | .isl _ true => false
  | x => x.clo1
theorem clo1n_all {l : List AV} (h : l.all clo1n = true) : l.all AV.clo1 = true ∧ l.map AV.nrm = l := by
  induction l with
  | nil => exact ⟨rfl, rfl⟩
  | cons x l ih =>
    simp only [List.all_cons, Bool.and_eq_true] at h
    obtain ⟨h1, h2⟩ := ih h.2
    have hx : x.clo1 = true ∧ x.nrm = x := by
      have := h.1
      cases x <;> first | exact ⟨rfl, rfl⟩ | (cases this; done) | skip
      rename_i es c
      cases c
      · exact ⟨rfl, rfl⟩
      · cases this
    exact ⟨by simp [h1, hx.1], by simp only [List.map_cons, hx.2, h2]⟩
theorem encsV_clo (l : List GV) : (flat (GV.encs l)).all clo1n = true := by
  rw [List.all_eq_true]; intro x hx
  obtain ⟨e, he, hxe⟩ := List.mem_flatMap.1 hx
  rw [GV.encs_map] at he; obtain ⟨v, _, rfl⟩ := List.mem_map.1 he
  rw [GV.enc_cells] at hxe
  simp at hxe; rcases hxe with rfl | rfl | rfl | rfl <;> rfl
theorem encsB_len (l : List GB) : ∀ e ∈ GB.encs l, e.cells.length = 5 := fun e he => by
  obtain ⟨v, _, rfl⟩ := List.mem_map.1 he; rfl
theorem encsB_agg (l : List GB) : ∀ e ∈ GB.encs l, ∃ cs, e = .agg cs ∧ cs.length = 5 := fun e he => by
  obtain ⟨v, _, rfl⟩ := List.mem_map.1 he; exact ⟨_, rfl, rfl⟩
theorem encsT_len (l : List GT) : ∀ e ∈ GT.encs l, e.cells.length = 7 := fun e he => by
  rw [GT.encs_map] at he; obtain ⟨v, _, rfl⟩ := List.mem_map.1 he; simp
theorem encsT_agg (l : List GT) : ∀ e ∈ GT.encs l, ∃ cs, e = .agg cs ∧ cs.length = 7 := fun e he => by
  rw [GT.encs_map] at he; obtain ⟨v, _, rfl⟩ := List.mem_map.1 he; exact ⟨_, GT.enc_eq v, rfl⟩
theorem encsT_clo (l : List GT) : (flat (GT.encs l)).all clo1n = true := by
  rw [List.all_eq_true]; intro x hx
  obtain ⟨e, he, hxe⟩ := List.mem_flatMap.1 hx
  rw [GT.encs_map] at he; obtain ⟨v, _, rfl⟩ := List.mem_map.1 he
  rw [GT.enc_cells] at hxe
  simp at hxe; rcases hxe with rfl | rfl | rfl | rfl | rfl | rfl | rfl <;> rfl
theorem encsB_clo (l : List GB) : (flat (GB.encs l)).all clo1n = true := by
  rw [List.all_eq_true]; intro x hx
  obtain ⟨e, he, hxe⟩ := List.mem_flatMap.1 hx
  obtain ⟨v, _, rfl⟩ := List.mem_map.1 he
  rw [GB.enc_cells] at hxe
  simp at hxe; rcases hxe with rfl | rfl | rfl | rfl | rfl <;> rfl
theorem close1_flat {σ : Heap} {id s fz : Nat} {ext : Bool} {es : List AV} (h : σ[id]? = some (.cells (flat es) fz ext)) (hne : es ≠ []) (ha : ∀ e ∈ es, ∃ cs, e = .agg cs ∧ cs.length = s) (hc : (flat es).all clo1n = true) :
    close1 σ (.sl id 0 es.length s true) = some (.isl es false, frz σ id (es.length * s)) := by
  have hl : ∀ e ∈ es, e.cells.length = s := fun e he => by obtain ⟨cs, rfl, hl⟩ := ha e he; exact hl
  have h0 : es.length ≠ 0 := fun e => hne (List.eq_nil_of_length_eq_zero e)
  apply close1_of0
  simp only [close0, if_neg h0, h]
  rw [window_full (flat_len hl), Option.bind_some, if_pos (clo1n_all hc).1, (clo1n_all hc).2, flat_chunk ha]
  simp
/-! ### append of a closed slice -/
theorem app_isl_nil {σ : Heap} {sz bytes : Nat} {ag mt c : Bool} {k : Nat} {es : List AV} : appendA σ sz ag bytes mt (.own k es) (.isl [] c) = some (.own k es, σ) := rfl
theorem app_isl_nil2 {σ : Heap} {sz bytes : Nat} {ag mt c c2 : Bool} {es : List AV} : appendA σ sz ag bytes mt (.isl es c2) (.isl [] c) = some (.isl es c2, σ) := rfl
theorem app_isl_nil3 {σ : Heap} {sz bytes id fz : Nat} {ext c : Bool} {cs : List AV} (hs : σ[id]? = some (.cells cs fz ext)) (hl1 : cs.length = sz) : appendA σ sz true bytes false (.sl id 0 1 sz true) (.isl [] c) = some (.sl id 0 1 sz true, σ) := by
  have he := elems_ag1 hs hl1
  have he2 : elemsN σ sz true (.isl [] c) = some [] := rfl
  simp only [appendA, he, he2, Option.bind_some, isSl]
  simp
theorem app_isl_own {σ : Heap} {sz bytes : Nat} {ag c : Bool} {k : Nat} {es xs : List AV} (hx : xs ≠ []) (h1 : es.all (okEl sz ag) = true) (h2 : xs.all (okEl sz ag) = true) (hl : es.length + xs.length ≤ 10000000000) (hb : bytes ≤ 1000) (h0 : 0 < sz) (hk : σ[k]? = some (.tok es.length sz)) :
    appendA σ sz ag bytes false (.own k es) (.isl xs c) = some (.own k (es ++ xs), σ.set k (.tok (es.length + xs.length) sz)) := by
  have he : elemsA σ sz ag (.own k es) = some es := rfl
  have he2 : elemsN σ sz ag (.isl xs c) = some xs := rfl
  have hmul : (es.length + xs.length) * bytes ≤ 10000000000 * 1000 := Nat.mul_le_mul hl hb
  have : ¬ (sz = 0 ∨ (es.length + xs.length) * bytes > 70368744177664 ∨ es.length + xs.length > 70368744177664) := by omega
  simp only [appendA, he, he2, Option.bind_some, isSl, if_neg hx, if_neg this]
  simp [h1, h2, hk]
theorem app_isl_new {σ : Heap} {sz bytes : Nat} {ag c : Bool} {xs : List AV} (hx : xs ≠ []) (h2 : xs.all (okEl sz ag) = true) (hl : xs.length ≤ 10000000000) (hb : bytes ≤ 1000) (h0 : 0 < sz) :
    appendA σ sz ag bytes false (.isl [] true) (.isl xs c) = some (.own σ.length xs, σ ++ [.tok xs.length sz]) := by
  have he : elemsA σ sz ag (.isl [] true) = some [] := rfl
  have he2 : elemsN σ sz ag (.isl xs c) = some xs := rfl
  have hmul : xs.length * bytes ≤ 10000000000 * 1000 := Nat.mul_le_mul hl hb
  have : ¬ (sz = 0 ∨ xs.length * bytes > 70368744177664 ∨ xs.length > 70368744177664) := by omega
  simp only [appendA, he, he2, Option.bind_some, isSl, if_neg hx, List.length_nil, Nat.zero_add, if_neg this]
  simp [h2]
/-- An append to a whole literal of one struct. -/
theorem app_isl_sl1 {σ : Heap} {sz bytes id : Nat} {c : Bool} {cs xs : List AV} (hs : σ[id]? = some (.cells cs 0 false)) (hl1 : cs.length = sz) (hc : cs.all AV.clo1 = true) (hx : xs ≠ []) (h2 : xs.all (okEl sz true) = true) (hl : 1 + xs.length ≤ 10000000000) (hb : bytes ≤ 1000) (h0 : 0 < sz) :
    appendA σ sz true bytes false (.sl id 0 1 sz true) (.isl xs c) = some (.own σ.length (.agg cs :: xs), σ ++ [.tok (1 + xs.length) sz]) := by
  have he := elems_ag1 hs hl1
  have he2 : elemsN σ sz true (.isl xs c) = some xs := rfl
  have hmul : (1 + xs.length) * bytes ≤ 10000000000 * 1000 := Nat.mul_le_mul hl hb
  have : ¬ (sz = 0 ∨ (1 + xs.length) * bytes > 70368744177664 ∨ 1 + xs.length > 70368744177664) := by omega
  have hok : okEl sz true (.agg cs) = true := by simp only [okEl, AV.clo, hc, AV.cells, hl1, decide_true, Bool.and_self]
  simp only [appendA, he, he2, Option.bind_some, isSl, if_neg hx, List.length_singleton, if_neg this]
  simp [h2, hs, hok, hl1]
theorem slSl_tail {sz : Nat} {x : AV} {es : List AV} {c : Bool} (h : ∀ e ∈ x :: es, e.cells.length = sz) : slSlV sz (some (.int .i64 1)) none (.isl (x :: es) c) = some (.isl es false) := by
  have hall : (x :: es).all (lenIs sz) = true := by rw [List.all_eq_true]; intro y hy; simp [lenIs, h y hy]
  have h1 : slSlA sz 1 (x :: es).length (.isl (x :: es) c) = some (.isl es false) := by
    have hc : 1 ≤ (x :: es).length ∧ (x :: es).length ≤ (x :: es).length ∧ (1 = 0 ∨ (x :: es).all (lenIs sz) = true) := ⟨by simp, Nat.le_refl _, .inr hall⟩
    simp only [slSlA, if_pos hc, List.take_of_length_le (Nat.le_refl _)]; rfl
  have h2 : bndV (x :: es).length 0 (some (.int .i64 1)) = some 1 := by
    simp only [bndV]; rw [if_pos ⟨by omega, by simp only [List.length_cons]; omega⟩]; rfl
  have h0 : ¬ isSl (.isl (x :: es) c) = false := by simp [isSl]
  have hl : lenA (.isl (x :: es) c) = some (x :: es).length := rfl
  unfold slSlV
  rw [if_neg h0, hl]
  simp only [Option.bind_some, bndV_none, h2, h1]
theorem slSl_head {sz : Nat} {x : AV} {es : List AV} {c : Bool} : slSlV sz none (some (.int .i64 1)) (.isl (x :: es) c) = some (.isl [x] false) := by
  have h1 : slSlA sz 0 1 (.isl (x :: es) c) = some (.isl [x] false) := by
    have hc : 0 ≤ 1 ∧ 1 ≤ (x :: es).length ∧ (0 = 0 ∨ (x :: es).all (lenIs sz) = true) := ⟨by omega, by simp, .inl rfl⟩
    simp only [slSlA, if_pos hc]; rfl
  have h2 : bndV (x :: es).length (x :: es).length (some (.int .i64 1)) = some 1 := by
    simp only [bndV]; rw [if_pos ⟨by omega, by simp only [List.length_cons]; omega⟩]; rfl
  have h0 : ¬ isSl (.isl (x :: es) c) = false := by simp [isSl]
  have hl : lenA (.isl (x :: es) c) = some (x :: es).length := rfl
  unfold slSlV
  rw [if_neg h0, hl]
  simp only [Option.bind_some, bndV_none, h2, h1]
end Go.Mach
end
section
set_option linter.unusedVariables false
set_option linter.unusedSimpArgs false
set_option linter.unnecessarySimpa false
namespace Go.Mach

/-! ### Arguments of the laws -/
structure IsT (P : Program) (tT tTL tV tL tI tS : TypeId) : Prop where
  fs : ∃ fs : Array Field, P.underlying tT = some (.struct fs) ∧ fs.toList.map (·.type) = [tI, tS, tV, tTL]
  list : P.underlying tTL = some (.slice tT)
  val : IsV P tV tL tI tS
structure IsB (P : Program) (tB tBL tV tL tI tS : TypeId) : Prop where
  fs : ∃ fs : Array Field, P.underlying tB = some (.struct fs) ∧ fs.toList.map (·.type) = [tS, tV]
  list : P.underlying tBL = some (.slice tB)
  val : IsV P tV tL tI tS
theorem TyA.asTerm {P : Program} {tT tTL tV tL tI tS : TypeId} (hT : IsT P tT tTL tV tL tI tS) {t : TypeId} {x : AV} (h : TyA P t x) : (t = tT → ∃ v : GT, x = v.enc ∧ v.ok) ∧ (t = tTL → ∃ l : List GT, x = .isl (GT.encs l) false ∧ GT.oks l) := by
  have e1 : IntKind.i64.min = -9223372036854775808 := by decide
  have e2 : IntKind.i64.max = 9223372036854775807 := by decide
  obtain ⟨fs0, hf0, hts⟩ := hT.fs
  have hV := hT.val
  induction h with
  | bool hu b => exact ⟨fun e => (by subst e; rw [hf0] at hu; cases hu), fun e => by subst e; rw [hT.list] at hu; cases hu⟩
  | int hu n hn => exact ⟨fun e => (by subst e; rw [hf0] at hu; cases hu), fun e => by subst e; rw [hT.list] at hu; cases hu⟩
  | str hu s => exact ⟨fun e => (by subst e; rw [hf0] at hu; cases hu), fun e => by subst e; rw [hT.list] at hu; cases hu⟩
  | @slice t e es hu hes ih =>
    refine ⟨fun e' => (by subst e'; rw [hf0] at hu; cases hu), fun e' => ?_⟩
    subst e'; rw [hT.list] at hu; injection hu with hu; injection hu with hu; subst hu
    have : ∀ l : List AV, (∀ y ∈ l, ∃ v : GT, y = v.enc ∧ v.ok) → ∃ l' : List GT, l = GT.encs l' ∧ GT.oks l' := by
      intro l
      induction l with
      | nil => intro _; exact ⟨[], rfl, trivial⟩
      | cons y l ihl =>
        intro h
        obtain ⟨v, rfl, hv⟩ := h y (by simp)
        obtain ⟨l', rfl, hl'⟩ := ihl fun z hz => h z (by simp [hz])
        exact ⟨v :: l', rfl, hv, hl'⟩
    obtain ⟨l', rfl, hl'⟩ := this es fun y hy => (ih y hy).1 rfl
    exact ⟨l', rfl, hl'⟩
  | @struct t fs vs hu hl hv ih =>
    refine ⟨fun e' => ?_, fun e' => by subst e'; rw [hT.list] at hu; cases hu⟩
    subst e'; rw [hf0] at hu; injection hu with hu; injection hu with hu; subst hu
    have hlen : vs.length = 4 := by rw [hl, ← List.length_map (f := (·.type)), hts]; rfl
    match vs, hlen with
    | [x0, x1, x2, x3], _ =>
      obtain ⟨k, rfl, k1, k2⟩ := (field_ty hts hv (i := 0) rfl rfl).asInt hV.int
      obtain ⟨s, rfl⟩ := (field_ty hts hv (i := 1) rfl rfl).asStr hV.str
      obtain ⟨v, rfl, hvo⟩ := ((field_ty hts hv (i := 2) rfl rfl).asValue hV).1 rfl
      have h3 : fs0.toList[3]?.map (·.type) = some tTL := by rw [← List.getElem?_map, hts]; rfl
      obtain ⟨f3, hf3, hft⟩ := Option.map_eq_some_iff.1 h3
      obtain ⟨l, rfl, hok⟩ := (ih 3 f3 x3 hf3 rfl).2 hft
      rw [e1] at k1; rw [e2] at k2
      refine ⟨.mk k s v l, by simp [GT.enc, flat], ⟨⟨k1, k2⟩, hvo, hok⟩⟩
theorem TyA.asBind {P : Program} {tB tBL tV tL tI tS : TypeId} (hB : IsB P tB tBL tV tL tI tS) {x : AV} (h : TyA P tB x) : ∃ v : GB, x = v.enc ∧ v.ok := by
  obtain ⟨fs0, hf0, hts⟩ := hB.fs
  have hV := hB.val
  cases h with
  | bool hu b => rw [hf0] at hu; cases hu
  | int hu n hn => rw [hf0] at hu; cases hu
  | str hu s => rw [hf0] at hu; cases hu
  | slice hu hes => rw [hf0] at hu; cases hu
  | @struct _ fs vs hu hl hv =>
    rw [hf0] at hu; injection hu with hu; injection hu with hu; subst hu
    have hlen : vs.length = 2 := by rw [hl, ← List.length_map (f := (·.type)), hts]; rfl
    match vs, hlen with
    | [x0, x1], _ =>
      obtain ⟨s, rfl⟩ := (field_ty hts hv (i := 0) rfl rfl).asStr hV.str
      obtain ⟨v, rfl, hvo⟩ := ((field_ty hts hv (i := 1) rfl rfl).asValue hV).1 rfl
      exact ⟨⟨s, v⟩, by simp [GB.enc, flat], hvo⟩
def fieldTys (P : Program) (t : TypeId) : Option (List TypeId) := match P.underlying t with
  | some (.struct fs) => some (fs.toList.map (·.type))
  | _ => none
theorem fieldTys_some {P : Program} {t : TypeId} {l : List TypeId} (h : fieldTys P t = some l) : ∃ fs : Array Field, P.underlying t = some (.struct fs) ∧ fs.toList.map (·.type) = l := by
  unfold fieldTys at h
  split at h
  · rename_i fs hu; injection h with h; exact ⟨fs, hu, h⟩
  · cases h
def OkT (l : List GT) : Prop := GT.oks l ∧ (∀ t ∈ l, t.size ≤ 1048576) ∧ l.length ≤ 1048576
def OkV (l : List GV) : Prop := GV.oks l ∧ (∀ t ∈ l, t.size ≤ 1048576) ∧ l.length ≤ 1048576
def OkB (l : List GB) : Prop := (∀ b ∈ l, b.ok) ∧ (∀ b ∈ l, b.size ≤ 1048576) ∧ l.length ≤ 1048576
theorem argT {P : Program} {tT tTL tV tL tI tS : TypeId} (hT : IsT P tT tTL tV tL tI tS) {x : AV} (h : TyA P tTL x) (hb : bulkA x ≤ 1048576) : ∃ l : List GT, x = .isl (GT.encs l) false ∧ OkT l := by
  obtain ⟨l, rfl, hl⟩ := (h.asTerm hT).2 rfl
  simp only [bulkA, GT.bulk_encs] at hb
  exact ⟨l, rfl, hl, fun t ht => by have := (GT.sizes_mem ht).1; omega, by have := GT.len_sizes l; omega⟩
theorem arg1T {P : Program} {tT tTL tV tL tI tS : TypeId} (hT : IsT P tT tTL tV tL tI tS) {x : AV} (h : TyA P tT x) (hb : bulkA x ≤ 1048576) : ∃ l : GT, x = l.enc ∧ l.ok ∧ l.size ≤ 1048576 := by
  obtain ⟨l, rfl, hl⟩ := (h.asTerm hT).1 rfl
  rw [GT.bulk_enc] at hb
  exact ⟨l, rfl, hl, hb⟩
theorem argV {P : Program} {tV tL tI tS : TypeId} (hT : IsV P tV tL tI tS) {x : AV} (h : TyA P tL x) (hb : bulkA x ≤ 1048576) : ∃ l : List GV, x = .isl (GV.encs l) false ∧ OkV l := by
  obtain ⟨l, rfl, hl⟩ := (h.asValue hT).2 rfl
  simp only [bulkA, GV.bulk_encs] at hb
  have hle : ∀ l : List GV, l.length ≤ GV.sizes l := fun l => by
    induction l with
    | nil => simp
    | cons x l ih =>
      have : 1 ≤ x.size := by cases x; simp only [GV.size]; omega
      simp only [GV.sizes, List.length_cons]; omega
  have hm : ∀ l : List GV, ∀ t ∈ l, t.size ≤ GV.sizes l := fun l => by
    induction l with
    | nil => intro t ht; cases ht
    | cons x l ih =>
      intro t ht
      rcases List.mem_cons.1 ht with rfl | ht
      · simp only [GV.sizes]; omega
      · have := ih t ht; simp only [GV.sizes]; omega
  exact ⟨l, rfl, hl, fun t ht => by have := hm l t ht; omega, by have := hle l; omega⟩
theorem argV2 {P : Program} {tV tL tI tS : TypeId} (hT : IsV P tV tL tI tS) {x : AV} (h : TyA P tL x) (hb : bulkA x ≤ 1048576) : ∃ l : List GV, x = .isl (GV.encs l) false ∧ OkV l ∧ GV.sizes l ≤ 1048576 := by
  obtain ⟨l, rfl, hl⟩ := argV hT h hb
  simp only [bulkA, GV.bulk_encs] at hb
  exact ⟨l, rfl, hl, by omega⟩
theorem arg1V {P : Program} {tV tL tI tS : TypeId} (hT : IsV P tV tL tI tS) {x : AV} (h : TyA P tV x) (hb : bulkA x ≤ 1048576) : ∃ l : GV, x = l.enc ∧ l.ok ∧ l.size ≤ 1048576 := by
  obtain ⟨l, rfl, hl⟩ := (h.asValue hT).1 rfl
  rw [GV.bulk_enc] at hb
  exact ⟨l, rfl, hl, hb⟩
theorem argB {P : Program} {tB tBL tV tL tI tS : TypeId} (hB : IsB P tB tBL tV tL tI tS) {x : AV} (h : TyA P tBL x) (hb : bulkA x ≤ 1048576) : ∃ l : List GB, x = .isl (GB.encs l) false ∧ OkB l := by
  obtain ⟨es, rfl, hes⟩ := h.asSlice hB.list
  have : ∀ l : List AV, (∀ y ∈ l, ∃ v : GB, y = v.enc ∧ v.ok) → ∃ l' : List GB, l = GB.encs l' ∧ ∀ b ∈ l', b.ok := by
    intro l
    induction l with
    | nil => intro _; exact ⟨[], rfl, by simp⟩
    | cons y l ihl =>
      intro h
      obtain ⟨v, rfl, hv⟩ := h y (by simp)
      obtain ⟨l', rfl, hl'⟩ := ihl fun z hz => h z (by simp [hz])
      exact ⟨v :: l', rfl, fun b hb => by rcases List.mem_cons.1 hb with rfl | hb; exact hv; exact hl' b hb⟩
  obtain ⟨l, rfl, hl⟩ := this es fun y hy => (hes y hy).asBind hB
  simp only [bulkA] at hb
  exact ⟨l, rfl, hl, fun b hb' => by have := GB.size_mem hb'; omega, by have := GB.len_le l; omega⟩
theorem argS {P : Program} {tS : TypeId} (hS : P.underlying tS = some .string) {x : AV} (h : TyA P tS x) (hb : bulkA x ≤ 1048576) : ∃ s : ByteArray, x = .str s ∧ s.size ≤ 1048576 := by
  obtain ⟨s, rfl⟩ := h.asStr hS
  simp only [bulkA] at hb
  exact ⟨s, rfl, by omega⟩
theorem argY {P : Program} {tI : TypeId} (hS : P.underlying tI = some (.int .u8)) {x : AV} (h : TyA P tI x) (hb : bulkA x ≤ 1048576) : ∃ n : UInt8, x = .int .u8 (n.toNat : Int) := by
  obtain ⟨n, rfl, n1, n2⟩ := h.asInt hS
  have e1 : IntKind.u8.min = 0 := by decide
  have e2 : IntKind.u8.max = 255 := by decide
  rw [e1] at n1; rw [e2] at n2
  refine ⟨UInt8.ofNat n.toNat, ?_⟩
  have : ((UInt8.ofNat n.toNat).toNat : Int) = n := by rw [UInt8.toNat_ofNat']; omega
  rw [this]
theorem argI {P : Program} {tI : TypeId} (hS : P.underlying tI = some (.int .i64)) {x : AV} (h : TyA P tI x) (hb : bulkA x ≤ 1048576) : ∃ n : Int, x = .int .i64 n ∧ GV.i64ok n := by
  have e1 : IntKind.i64.min = -9223372036854775808 := by decide
  have e2 : IntKind.i64.max = 9223372036854775807 := by decide
  obtain ⟨n, rfl, n1, n2⟩ := h.asInt hS
  rw [e1] at n1; rw [e2] at n2
  exact ⟨n, rfl, n1, n2⟩
end Go.Mach
namespace Go.Proofs.YtpkfkipbemdhmaaGreatDoor
open Go.Mach
theorem tyV : IsV Tryz.prog 34 32 3 9 := ⟨fieldTys_some (by kernel_rfl), by kernel_rfl, by kernel_rfl, by kernel_rfl⟩
theorem tyT : IsT Tryz.prog 37 35 34 32 3 9 := ⟨fieldTys_some (by kernel_rfl), by kernel_rfl, tyV⟩
end Go.Proofs.YtpkfkipbemdhmaaGreatDoor
end
section
set_option linter.unusedVariables false
set_option linter.unusedSimpArgs false
set_option linter.unnecessarySimpa false
namespace Go.Mach

/-! ### Programs' parts -/
theorem bulk_mem {es : List AV} {x : AV} (h : x ∈ es) : bulkA x ≤ bulkAs es := by
  induction es with
  | nil => cases h
  | cons y l ih =>
    simp only [bulkAs]
    rcases List.mem_cons.1 h with rfl | h
    · omega
    · have := ih h; omega
theorem bulk_pos (x : AV) : 1 ≤ bulkA x := by cases x <;> simp [bulkA]
theorem bulk_len : ∀ es : List AV, es.length ≤ bulkAs es
  | [] => by simp
  | x :: l => by have := bulk_len l; have := bulk_pos x; simp only [bulkAs, List.length_cons]; omega
theorem list_enc {α : Type} (enc : α → AV) (ok : α → Prop) : ∀ l : List AV, (∀ y ∈ l, ∃ v : α, y = enc v ∧ ok v) → ∃ l' : List α, l = l'.map enc ∧ ∀ b ∈ l', ok b
  | [], _ => ⟨[], rfl, by simp⟩
  | y :: l, h => by
    obtain ⟨v, rfl, hv⟩ := h y (by simp)
    obtain ⟨l', rfl, hl'⟩ := list_enc enc ok l fun z hz => h z (by simp [hz])
    exact ⟨v :: l', rfl, fun b hb => by rcases List.mem_cons.1 hb with rfl | hb; exact hv; exact hl' b hb⟩
structure GL where
  kind : Int
  name : ByteArray
  args : List GT
  deriving Inhabited
namespace GL
def enc (x : GL) : AV := .agg [.int .i64 x.kind, .str x.name, .isl (GT.encs x.args) false]
theorem enc_mk (kind' : Int) (name' : ByteArray) (args' : List GT) : AV.agg [.int .i64 kind', .str name', .isl (GT.encs args') false] = enc ⟨kind', name', args'⟩ := rfl
theorem enc_eq (x : GL) : x.enc = .agg [.int .i64 x.kind, .str x.name, .isl (GT.encs x.args) false] := rfl
@[simp] theorem eta (x : GL) : (⟨x.kind, x.name, x.args⟩ : GL) = x := rfl
@[simp] theorem enc_cells (x : GL) : x.enc.cells = [.int .i64 x.kind, .str x.name, .isl (GT.encs x.args) false] := rfl
@[simp] theorem enc_solid (x : GL) : x.enc.solid = true := rfl
@[simp] theorem enc_clean (x : GL) : x.enc.clean = true := rfl
@[simp] theorem enc_datR (x : GL) : x.enc.datR = true := rfl
@[simp] theorem enc_dat (x : GL) : x.enc.dat = true := rfl
@[simp] theorem enc_clo (x : GL) : x.enc.clo = true := rfl
@[simp] theorem enc_clo1 (x : GL) : x.enc.clo1 = false := rfl
@[simp] theorem enc_closeA (σ : Heap) (x : GL) : closeA σ x.enc = some (x.enc, σ) := (clean_close (by simp)).1
@[simp] theorem enc_closeR (σ : Heap) (x : GL) : closeR σ x.enc = some (x.enc, σ) := rfl
@[simp] theorem encs_okEl (l : List GL) : (l.map enc).all (okEl 3 true) = true := by
  rw [List.all_eq_true]; intro x hx
  obtain ⟨v, _, rfl⟩ := List.mem_map.1 hx
  rfl
def ok (x : GL) : Prop := GV.i64ok x.kind ∧ GT.oks x.args
def size (x : GL) : Nat := bulkA x.enc
theorem name_le (x : GL) : x.name.size + 1 ≤ x.size := by simp only [size, enc, bulkA, bulkAs]; omega
theorem args_le (x : GL) : GT.sizes x.args + 1 ≤ x.size := by simp only [size, enc, bulkA, bulkAs, GT.bulk_encs]; omega
end GL
structure GU where
  name : ByteArray
  args : List GV
  deriving Inhabited
namespace GU
def enc (x : GU) : AV := .agg [.str x.name, .isl (GV.encs x.args) false]
theorem enc_mk (name' : ByteArray) (args' : List GV) : AV.agg [.str name', .isl (GV.encs args') false] = enc ⟨name', args'⟩ := rfl
theorem enc_eq (x : GU) : x.enc = .agg [.str x.name, .isl (GV.encs x.args) false] := rfl
@[simp] theorem eta (x : GU) : (⟨x.name, x.args⟩ : GU) = x := rfl
@[simp] theorem enc_cells (x : GU) : x.enc.cells = [.str x.name, .isl (GV.encs x.args) false] := rfl
@[simp] theorem enc_solid (x : GU) : x.enc.solid = true := rfl
@[simp] theorem enc_clean (x : GU) : x.enc.clean = true := rfl
@[simp] theorem enc_datR (x : GU) : x.enc.datR = true := rfl
@[simp] theorem enc_dat (x : GU) : x.enc.dat = true := rfl
@[simp] theorem enc_clo (x : GU) : x.enc.clo = true := rfl
@[simp] theorem enc_clo1 (x : GU) : x.enc.clo1 = false := rfl
@[simp] theorem enc_closeA (σ : Heap) (x : GU) : closeA σ x.enc = some (x.enc, σ) := (clean_close (by simp)).1
@[simp] theorem enc_closeR (σ : Heap) (x : GU) : closeR σ x.enc = some (x.enc, σ) := rfl
@[simp] theorem encs_okEl (l : List GU) : (l.map enc).all (okEl 2 true) = true := by
  rw [List.all_eq_true]; intro x hx
  obtain ⟨v, _, rfl⟩ := List.mem_map.1 hx
  rfl
def ok (x : GU) : Prop := GV.oks x.args
def size (x : GU) : Nat := bulkA x.enc
theorem name_le (x : GU) : x.name.size + 1 ≤ x.size := by simp only [size, enc, bulkA, bulkAs]; omega
theorem args_le (x : GU) : GV.sizes x.args + 1 ≤ x.size := by simp only [size, enc, bulkA, bulkAs, GV.bulk_encs]; omega
end GU
structure GD where
  name : ByteArray
  arity : Int
  deriving Inhabited
namespace GD
def enc (x : GD) : AV := .agg [.str x.name, .int .i64 x.arity]
theorem enc_mk (name' : ByteArray) (arity' : Int) : AV.agg [.str name', .int .i64 arity'] = enc ⟨name', arity'⟩ := rfl
theorem enc_eq (x : GD) : x.enc = .agg [.str x.name, .int .i64 x.arity] := rfl
@[simp] theorem eta (x : GD) : (⟨x.name, x.arity⟩ : GD) = x := rfl
@[simp] theorem enc_cells (x : GD) : x.enc.cells = [.str x.name, .int .i64 x.arity] := rfl
@[simp] theorem enc_solid (x : GD) : x.enc.solid = true := rfl
@[simp] theorem enc_clean (x : GD) : x.enc.clean = true := rfl
@[simp] theorem enc_datR (x : GD) : x.enc.datR = true := rfl
@[simp] theorem enc_dat (x : GD) : x.enc.dat = true := rfl
@[simp] theorem enc_clo (x : GD) : x.enc.clo = true := rfl
@[simp] theorem enc_clo1 (x : GD) : x.enc.clo1 = false := rfl
@[simp] theorem enc_closeA (σ : Heap) (x : GD) : closeA σ x.enc = some (x.enc, σ) := (clean_close (by simp)).1
@[simp] theorem enc_closeR (σ : Heap) (x : GD) : closeR σ x.enc = some (x.enc, σ) := rfl
@[simp] theorem encs_okEl (l : List GD) : (l.map enc).all (okEl 2 true) = true := by
  rw [List.all_eq_true]; intro x hx
  obtain ⟨v, _, rfl⟩ := List.mem_map.1 hx
  rfl
def ok (x : GD) : Prop := GV.i64ok x.arity
def size (x : GD) : Nat := bulkA x.enc
theorem name_le (x : GD) : x.name.size + 1 ≤ x.size := by simp only [size, enc, bulkA, bulkAs]; omega
end GD
structure GR where
  label : ByteArray
  head : ByteArray
  args : List GT
  agg : ByteArray
  pos : Int
  body : List GL
  deriving Inhabited
namespace GR
def enc (x : GR) : AV := .agg [.str x.label, .str x.head, .isl (GT.encs x.args) false, .str x.agg, .int .i64 x.pos, .isl (x.body.map GL.enc) false]
theorem enc_mk (label' : ByteArray) (head' : ByteArray) (args' : List GT) (agg' : ByteArray) (pos' : Int) (body' : List GL) : AV.agg [.str label', .str head', .isl (GT.encs args') false, .str agg', .int .i64 pos', .isl (body'.map GL.enc) false] = enc ⟨label', head', args', agg', pos', body'⟩ := rfl
theorem enc_eq (x : GR) : x.enc = .agg [.str x.label, .str x.head, .isl (GT.encs x.args) false, .str x.agg, .int .i64 x.pos, .isl (x.body.map GL.enc) false] := rfl
@[simp] theorem eta (x : GR) : (⟨x.label, x.head, x.args, x.agg, x.pos, x.body⟩ : GR) = x := rfl
@[simp] theorem enc_cells (x : GR) : x.enc.cells = [.str x.label, .str x.head, .isl (GT.encs x.args) false, .str x.agg, .int .i64 x.pos, .isl (x.body.map GL.enc) false] := rfl
@[simp] theorem enc_solid (x : GR) : x.enc.solid = true := rfl
@[simp] theorem enc_clean (x : GR) : x.enc.clean = true := rfl
@[simp] theorem enc_datR (x : GR) : x.enc.datR = true := rfl
@[simp] theorem enc_dat (x : GR) : x.enc.dat = true := rfl
@[simp] theorem enc_clo (x : GR) : x.enc.clo = true := rfl
@[simp] theorem enc_clo1 (x : GR) : x.enc.clo1 = false := rfl
@[simp] theorem enc_closeA (σ : Heap) (x : GR) : closeA σ x.enc = some (x.enc, σ) := (clean_close (by simp)).1
@[simp] theorem enc_closeR (σ : Heap) (x : GR) : closeR σ x.enc = some (x.enc, σ) := rfl
@[simp] theorem encs_okEl (l : List GR) : (l.map enc).all (okEl 6 true) = true := by
  rw [List.all_eq_true]; intro x hx
  obtain ⟨v, _, rfl⟩ := List.mem_map.1 hx
  rfl
def ok (x : GR) : Prop := GT.oks x.args ∧ GV.i64ok x.pos ∧ (∀ y ∈ x.body, y.ok)
def size (x : GR) : Nat := bulkA x.enc
theorem label_le (x : GR) : x.label.size + 1 ≤ x.size := by simp only [size, enc, bulkA, bulkAs]; omega
theorem head_le (x : GR) : x.head.size + 1 ≤ x.size := by simp only [size, enc, bulkA, bulkAs]; omega
theorem args_le (x : GR) : GT.sizes x.args + 1 ≤ x.size := by simp only [size, enc, bulkA, bulkAs, GT.bulk_encs]; omega
theorem agg_le (x : GR) : x.agg.size + 1 ≤ x.size := by simp only [size, enc, bulkA, bulkAs]; omega
theorem body_len (x : GR) : x.body.length + 1 ≤ x.size := by have := bulk_len (x.body.map GL.enc); simp only [List.length_map] at this; simp only [size, enc, bulkA, bulkAs]; omega
theorem body_mem (x : GR) {y : GL} (h : y ∈ x.body) : y.size + 1 ≤ x.size := by have := bulk_mem (List.mem_map.2 ⟨y, h, rfl⟩ : y.enc ∈ x.body.map GL.enc); show bulkA y.enc + 1 ≤ _; simp only [size, enc, bulkA, bulkAs]; omega
end GR
structure GP where
  decls : List GD
  facts : List GU
  rules : List GR
  deriving Inhabited
namespace GP
def enc (x : GP) : AV := .agg [.isl (x.decls.map GD.enc) false, .isl (x.facts.map GU.enc) false, .isl (x.rules.map GR.enc) false]
theorem enc_mk (decls' : List GD) (facts' : List GU) (rules' : List GR) : AV.agg [.isl (decls'.map GD.enc) false, .isl (facts'.map GU.enc) false, .isl (rules'.map GR.enc) false] = enc ⟨decls', facts', rules'⟩ := rfl
theorem enc_eq (x : GP) : x.enc = .agg [.isl (x.decls.map GD.enc) false, .isl (x.facts.map GU.enc) false, .isl (x.rules.map GR.enc) false] := rfl
@[simp] theorem eta (x : GP) : (⟨x.decls, x.facts, x.rules⟩ : GP) = x := rfl
@[simp] theorem enc_cells (x : GP) : x.enc.cells = [.isl (x.decls.map GD.enc) false, .isl (x.facts.map GU.enc) false, .isl (x.rules.map GR.enc) false] := rfl
@[simp] theorem enc_solid (x : GP) : x.enc.solid = true := rfl
@[simp] theorem enc_clean (x : GP) : x.enc.clean = true := rfl
@[simp] theorem enc_datR (x : GP) : x.enc.datR = true := rfl
@[simp] theorem enc_dat (x : GP) : x.enc.dat = true := rfl
@[simp] theorem enc_clo (x : GP) : x.enc.clo = true := rfl
@[simp] theorem enc_clo1 (x : GP) : x.enc.clo1 = false := rfl
@[simp] theorem enc_closeA (σ : Heap) (x : GP) : closeA σ x.enc = some (x.enc, σ) := (clean_close (by simp)).1
@[simp] theorem enc_closeR (σ : Heap) (x : GP) : closeR σ x.enc = some (x.enc, σ) := rfl
@[simp] theorem encs_okEl (l : List GP) : (l.map enc).all (okEl 3 true) = true := by
  rw [List.all_eq_true]; intro x hx
  obtain ⟨v, _, rfl⟩ := List.mem_map.1 hx
  rfl
def ok (x : GP) : Prop := (∀ y ∈ x.decls, y.ok) ∧ (∀ y ∈ x.facts, y.ok) ∧ (∀ y ∈ x.rules, y.ok)
def size (x : GP) : Nat := bulkA x.enc
theorem decls_len (x : GP) : x.decls.length + 1 ≤ x.size := by have := bulk_len (x.decls.map GD.enc); simp only [List.length_map] at this; simp only [size, enc, bulkA, bulkAs]; omega
theorem decls_mem (x : GP) {y : GD} (h : y ∈ x.decls) : y.size + 1 ≤ x.size := by have := bulk_mem (List.mem_map.2 ⟨y, h, rfl⟩ : y.enc ∈ x.decls.map GD.enc); show bulkA y.enc + 1 ≤ _; simp only [size, enc, bulkA, bulkAs]; omega
theorem facts_len (x : GP) : x.facts.length + 1 ≤ x.size := by have := bulk_len (x.facts.map GU.enc); simp only [List.length_map] at this; simp only [size, enc, bulkA, bulkAs]; omega
theorem facts_mem (x : GP) {y : GU} (h : y ∈ x.facts) : y.size + 1 ≤ x.size := by have := bulk_mem (List.mem_map.2 ⟨y, h, rfl⟩ : y.enc ∈ x.facts.map GU.enc); show bulkA y.enc + 1 ≤ _; simp only [size, enc, bulkA, bulkAs]; omega
theorem rules_len (x : GP) : x.rules.length + 1 ≤ x.size := by have := bulk_len (x.rules.map GR.enc); simp only [List.length_map] at this; simp only [size, enc, bulkA, bulkAs]; omega
theorem rules_mem (x : GP) {y : GR} (h : y ∈ x.rules) : y.size + 1 ≤ x.size := by have := bulk_mem (List.mem_map.2 ⟨y, h, rfl⟩ : y.enc ∈ x.rules.map GR.enc); show bulkA y.enc + 1 ≤ _; simp only [size, enc, bulkA, bulkAs]; omega
end GP
structure IsGL (P : Program) (tGL tT tTL tV tL tI tS : TypeId) : Prop where
  fs : ∃ fs : Array Field, P.underlying tGL = some (.struct fs) ∧ fs.toList.map (·.type) = [tI, tS, tTL]
  term : IsT P tT tTL tV tL tI tS
theorem TyA.asGL {P : Program} {tGL tT tTL tV tL tI tS : TypeId} (hT : IsGL P tGL tT tTL tV tL tI tS) {x : AV} (h : TyA P tGL x) : ∃ v : GL, x = v.enc ∧ v.ok := by
  have e1 : IntKind.i64.min = -9223372036854775808 := by decide
  have e2 : IntKind.i64.max = 9223372036854775807 := by decide
  obtain ⟨fs0, hf0, hts⟩ := hT.fs
  have hTT := hT.term
  have hV := hTT.val
  obtain ⟨vs, rfl, hl, hv⟩ := h.asStruct hf0
  have hlen : vs.length = 3 := by rw [hl, ← List.length_map (f := (·.type)), hts]; rfl
  match vs, hlen with
  | [x0, x1, x2], _ =>
    obtain ⟨y0, rfl, p0, q0⟩ := (field_ty hts hv (i := 0) rfl rfl).asInt hV.int
    rw [e1] at p0; rw [e2] at q0
    obtain ⟨y1, rfl⟩ := (field_ty hts hv (i := 1) rfl rfl).asStr hV.str
    obtain ⟨y2, rfl, o2⟩ := ((field_ty hts hv (i := 2) rfl rfl).asTerm hTT).2 rfl
    exact ⟨⟨y0, y1, y2⟩, by simp [GL.enc, flat], ⟨⟨p0, q0⟩, o2⟩⟩
theorem arg1GL {P : Program} {tGL tT tTL tV tL tI tS : TypeId} (hT : IsGL P tGL tT tTL tV tL tI tS) {x : AV} (h : TyA P tGL x) (hb : bulkA x ≤ 1048576) : ∃ v : GL, x = v.enc ∧ v.ok ∧ v.size ≤ 1048576 := by
  obtain ⟨v, rfl, ho⟩ := h.asGL hT
  exact ⟨v, rfl, ho, hb⟩
structure IsGU (P : Program) (tGU tT tTL tV tL tI tS : TypeId) : Prop where
  fs : ∃ fs : Array Field, P.underlying tGU = some (.struct fs) ∧ fs.toList.map (·.type) = [tS, tL]
  term : IsT P tT tTL tV tL tI tS
theorem TyA.asGU {P : Program} {tGU tT tTL tV tL tI tS : TypeId} (hT : IsGU P tGU tT tTL tV tL tI tS) {x : AV} (h : TyA P tGU x) : ∃ v : GU, x = v.enc ∧ v.ok := by
  have e1 : IntKind.i64.min = -9223372036854775808 := by decide
  have e2 : IntKind.i64.max = 9223372036854775807 := by decide
  obtain ⟨fs0, hf0, hts⟩ := hT.fs
  have hTT := hT.term
  have hV := hTT.val
  obtain ⟨vs, rfl, hl, hv⟩ := h.asStruct hf0
  have hlen : vs.length = 2 := by rw [hl, ← List.length_map (f := (·.type)), hts]; rfl
  match vs, hlen with
  | [x0, x1], _ =>
    obtain ⟨y0, rfl⟩ := (field_ty hts hv (i := 0) rfl rfl).asStr hV.str
    obtain ⟨y1, rfl, o1⟩ := ((field_ty hts hv (i := 1) rfl rfl).asValue hV).2 rfl
    exact ⟨⟨y0, y1⟩, by simp [GU.enc, flat], o1⟩
theorem arg1GU {P : Program} {tGU tT tTL tV tL tI tS : TypeId} (hT : IsGU P tGU tT tTL tV tL tI tS) {x : AV} (h : TyA P tGU x) (hb : bulkA x ≤ 1048576) : ∃ v : GU, x = v.enc ∧ v.ok ∧ v.size ≤ 1048576 := by
  obtain ⟨v, rfl, ho⟩ := h.asGU hT
  exact ⟨v, rfl, ho, hb⟩
structure IsGD (P : Program) (tGD tT tTL tV tL tI tS : TypeId) : Prop where
  fs : ∃ fs : Array Field, P.underlying tGD = some (.struct fs) ∧ fs.toList.map (·.type) = [tS, tI]
  term : IsT P tT tTL tV tL tI tS
theorem TyA.asGD {P : Program} {tGD tT tTL tV tL tI tS : TypeId} (hT : IsGD P tGD tT tTL tV tL tI tS) {x : AV} (h : TyA P tGD x) : ∃ v : GD, x = v.enc ∧ v.ok := by
  have e1 : IntKind.i64.min = -9223372036854775808 := by decide
  have e2 : IntKind.i64.max = 9223372036854775807 := by decide
  obtain ⟨fs0, hf0, hts⟩ := hT.fs
  have hTT := hT.term
  have hV := hTT.val
  obtain ⟨vs, rfl, hl, hv⟩ := h.asStruct hf0
  have hlen : vs.length = 2 := by rw [hl, ← List.length_map (f := (·.type)), hts]; rfl
  match vs, hlen with
  | [x0, x1], _ =>
    obtain ⟨y0, rfl⟩ := (field_ty hts hv (i := 0) rfl rfl).asStr hV.str
    obtain ⟨y1, rfl, p1, q1⟩ := (field_ty hts hv (i := 1) rfl rfl).asInt hV.int
    rw [e1] at p1; rw [e2] at q1
    exact ⟨⟨y0, y1⟩, by simp [GD.enc, flat], ⟨p1, q1⟩⟩
theorem arg1GD {P : Program} {tGD tT tTL tV tL tI tS : TypeId} (hT : IsGD P tGD tT tTL tV tL tI tS) {x : AV} (h : TyA P tGD x) (hb : bulkA x ≤ 1048576) : ∃ v : GD, x = v.enc ∧ v.ok ∧ v.size ≤ 1048576 := by
  obtain ⟨v, rfl, ho⟩ := h.asGD hT
  exact ⟨v, rfl, ho, hb⟩
structure IsGR (P : Program) (tGR tGLL tGL tT tTL tV tL tI tS : TypeId) : Prop where
  fs : ∃ fs : Array Field, P.underlying tGR = some (.struct fs) ∧ fs.toList.map (·.type) = [tS, tS, tTL, tS, tI, tGLL]
  term : IsT P tT tTL tV tL tI tS
  bodyL : P.underlying tGLL = some (.slice tGL)
  bodyI : IsGL P tGL tT tTL tV tL tI tS
theorem TyA.asGR {P : Program} {tGR tGLL tGL tT tTL tV tL tI tS : TypeId} (hT : IsGR P tGR tGLL tGL tT tTL tV tL tI tS) {x : AV} (h : TyA P tGR x) : ∃ v : GR, x = v.enc ∧ v.ok := by
  have e1 : IntKind.i64.min = -9223372036854775808 := by decide
  have e2 : IntKind.i64.max = 9223372036854775807 := by decide
  obtain ⟨fs0, hf0, hts⟩ := hT.fs
  have hTT := hT.term
  have hV := hTT.val
  obtain ⟨vs, rfl, hl, hv⟩ := h.asStruct hf0
  have hlen : vs.length = 6 := by rw [hl, ← List.length_map (f := (·.type)), hts]; rfl
  match vs, hlen with
  | [x0, x1, x2, x3, x4, x5], _ =>
    obtain ⟨y0, rfl⟩ := (field_ty hts hv (i := 0) rfl rfl).asStr hV.str
    obtain ⟨y1, rfl⟩ := (field_ty hts hv (i := 1) rfl rfl).asStr hV.str
    obtain ⟨y2, rfl, o2⟩ := ((field_ty hts hv (i := 2) rfl rfl).asTerm hTT).2 rfl
    obtain ⟨y3, rfl⟩ := (field_ty hts hv (i := 3) rfl rfl).asStr hV.str
    obtain ⟨y4, rfl, p4, q4⟩ := (field_ty hts hv (i := 4) rfl rfl).asInt hV.int
    rw [e1] at p4; rw [e2] at q4
    obtain ⟨es5, rfl, hes5⟩ := (field_ty hts hv (i := 5) rfl rfl).asSlice hT.bodyL
    obtain ⟨y5, rfl, o5⟩ := list_enc GL.enc GL.ok es5 fun z hz => (hes5 z hz).asGL hT.bodyI
    exact ⟨⟨y0, y1, y2, y3, y4, y5⟩, by simp [GR.enc, flat], ⟨o2, ⟨p4, q4⟩, o5⟩⟩
theorem arg1GR {P : Program} {tGR tGLL tGL tT tTL tV tL tI tS : TypeId} (hT : IsGR P tGR tGLL tGL tT tTL tV tL tI tS) {x : AV} (h : TyA P tGR x) (hb : bulkA x ≤ 1048576) : ∃ v : GR, x = v.enc ∧ v.ok ∧ v.size ≤ 1048576 := by
  obtain ⟨v, rfl, ho⟩ := h.asGR hT
  exact ⟨v, rfl, ho, hb⟩
structure IsGP (P : Program) (tGP tGDL tGD tGUL tGU tGRL tGR tGLL tGL tT tTL tV tL tI tS : TypeId) : Prop where
  fs : ∃ fs : Array Field, P.underlying tGP = some (.struct fs) ∧ fs.toList.map (·.type) = [tGDL, tGUL, tGRL]
  term : IsT P tT tTL tV tL tI tS
  declsL : P.underlying tGDL = some (.slice tGD)
  declsI : IsGD P tGD tT tTL tV tL tI tS
  factsL : P.underlying tGUL = some (.slice tGU)
  factsI : IsGU P tGU tT tTL tV tL tI tS
  rulesL : P.underlying tGRL = some (.slice tGR)
  rulesI : IsGR P tGR tGLL tGL tT tTL tV tL tI tS
theorem TyA.asGP {P : Program} {tGP tGDL tGD tGUL tGU tGRL tGR tGLL tGL tT tTL tV tL tI tS : TypeId} (hT : IsGP P tGP tGDL tGD tGUL tGU tGRL tGR tGLL tGL tT tTL tV tL tI tS) {x : AV} (h : TyA P tGP x) : ∃ v : GP, x = v.enc ∧ v.ok := by
  have e1 : IntKind.i64.min = -9223372036854775808 := by decide
  have e2 : IntKind.i64.max = 9223372036854775807 := by decide
  obtain ⟨fs0, hf0, hts⟩ := hT.fs
  have hTT := hT.term
  have hV := hTT.val
  obtain ⟨vs, rfl, hl, hv⟩ := h.asStruct hf0
  have hlen : vs.length = 3 := by rw [hl, ← List.length_map (f := (·.type)), hts]; rfl
  match vs, hlen with
  | [x0, x1, x2], _ =>
    obtain ⟨es0, rfl, hes0⟩ := (field_ty hts hv (i := 0) rfl rfl).asSlice hT.declsL
    obtain ⟨y0, rfl, o0⟩ := list_enc GD.enc GD.ok es0 fun z hz => (hes0 z hz).asGD hT.declsI
    obtain ⟨es1, rfl, hes1⟩ := (field_ty hts hv (i := 1) rfl rfl).asSlice hT.factsL
    obtain ⟨y1, rfl, o1⟩ := list_enc GU.enc GU.ok es1 fun z hz => (hes1 z hz).asGU hT.factsI
    obtain ⟨es2, rfl, hes2⟩ := (field_ty hts hv (i := 2) rfl rfl).asSlice hT.rulesL
    obtain ⟨y2, rfl, o2⟩ := list_enc GR.enc GR.ok es2 fun z hz => (hes2 z hz).asGR hT.rulesI
    exact ⟨⟨y0, y1, y2⟩, by simp [GP.enc, flat], ⟨o0, o1, o2⟩⟩
theorem arg1GP {P : Program} {tGP tGDL tGD tGUL tGU tGRL tGR tGLL tGL tT tTL tV tL tI tS : TypeId} (hT : IsGP P tGP tGDL tGD tGUL tGU tGRL tGR tGLL tGL tT tTL tV tL tI tS) {x : AV} (h : TyA P tGP x) (hb : bulkA x ≤ 1048576) : ∃ v : GP, x = v.enc ∧ v.ok ∧ v.size ≤ 1048576 := by
  obtain ⟨v, rfl, ho⟩ := h.asGP hT
  exact ⟨v, rfl, ho, hb⟩
end Go.Mach
namespace Go.Proofs.YtpkfkipbemdhmaaGreatDoor
open Go.Mach
theorem tyGL : IsGL Tryz.prog 39 37 35 34 32 3 9 := ⟨fieldTys_some (by kernel_rfl), tyT⟩
theorem tyGU : IsGU Tryz.prog 55 37 35 34 32 3 9 := ⟨fieldTys_some (by kernel_rfl), tyT⟩
theorem tyGD : IsGD Tryz.prog 57 37 35 34 32 3 9 := ⟨fieldTys_some (by kernel_rfl), tyT⟩
theorem tyGR : IsGR Tryz.prog 50 46 39 37 35 34 32 3 9 := ⟨fieldTys_some (by kernel_rfl), tyT, by kernel_rfl, tyGL⟩
theorem tyGP : IsGP Tryz.prog 26 22 57 23 55 24 50 46 39 37 35 34 32 3 9 := ⟨fieldTys_some (by kernel_rfl), tyT, by kernel_rfl, tyGD, by kernel_rfl, tyGU, by kernel_rfl, tyGR⟩
end Go.Proofs.YtpkfkipbemdhmaaGreatDoor
end
section
set_option linter.unusedVariables false
set_option linter.unusedSimpArgs false
set_option linter.unnecessarySimpa false
namespace Go.Proofs.YtpkfkipbemdhmaaGreatDoor
open Go.Mach

theorem idxTerm (p : GT → Bool) (l : List GT) (g : Nat) (caps : List AV) (hl : l.length ≤ 100000000000) (σ : Heap) (hc : ∀ x ∈ l, ∀ bs, callT T g (x.enc :: caps) bs σ = some (.bool (p x), σ)) (bs : Nat) :
    callT T 145 [.isl (GT.encs l) false, .func g caps] bs σ = some (.int .i64 (idxG p l), σ) := by
  refine heap_enter (af := c145) (args' := [.isl (GT.encs l) false, .func g caps]) (σ1 := σ) rfl rfl (by simp [c145]) (by simp [c145]) rfl ?_
  simp [c145, baseA]
  refine W_for T _ 19 l.length (fun i f τ => f 0 = .isl (GT.encs l) false ∧ f 1 = .func g caps ∧ f 7 = .int .i64 (l.length : Int) ∧ f 8 = .int .i64 (i : Int) ∧ τ = σ ∧ ∀ j, (hj : j < l.length) → j < i → p l[j] = false) ?_ _ _ ?_
  · rintro i f τ hi ⟨h0, h1, h7, h8, rfl, hall⟩
    by_cases hlt : i < l.length
    · have e1 : l[i]? = some l[i] := List.getElem?_eq_getElem hlt
      have hcl := hc l[i] (List.getElem_mem hlt)
      cases hp : p l[i]
      · rw [hp] at hcl
        simp [h0, h1, h7, h8, hlt, hcl, hp, ← GT.enc_eq]
        refine ⟨wr64 (by omega) (by omega), fun j hj hji => ?_⟩
        by_cases e : j = i
        · subst e; exact hp
        · exact hall j hj (by omega)
      · rw [hp] at hcl
        simp [h0, h1, h7, h8, hlt, hcl, hp, ← GT.enc_eq, dropA_gc, refLt, res1, refLt2_bool, refLt2_int, take_1]
        simp [idxG, idxG_drop p l i hlt hall hp]
    · have he : i = l.length := by omega
      subst he
      have hn : l.findIdx? p = none := by
        rw [List.findIdx?_eq_none_iff]
        intro x hx
        obtain ⟨j, hj, rfl⟩ := List.getElem_of_mem hx
        exact hall j hj hj
      simp [h0, h1, h7, h8, idxG, hn, dropA_gc, refLt, res1, refLt2_bool, refLt2_int, take_1]
  · simp
theorem conTerm (p : GT → Bool) (l : List GT) (g : Nat) (caps : List AV) (hl : l.length ≤ 100000000000) (σ : Heap) (hc : ∀ x ∈ l, ∀ bs, callT T g (x.enc :: caps) bs σ = some (.bool (p x), σ)) (bs : Nat) :
    callT T 125 [.isl (GT.encs l) false, .func g caps] bs σ = some (.bool (sym (l.any p)), σ) := by
  have h1 := idxTerm p l g caps hl σ hc
  have h2 := idxG_any p l
  refine heap_enter (af := c125) (args' := [.isl (GT.encs l) false, .func g caps]) (σ1 := σ) rfl rfl (by simp [c125]) (by simp [c125]) rfl ?_
  simp [c125, baseA, h1, dropA_gc, refLt, res1, refLt2_bool, refLt2_int, take_1]
  refine ⟨fun h => by simpa [sym] using h2.1 h, fun h => ?_⟩
  have : ¬ l.any p = true := fun hh => by have := h2.2 hh; omega
  simpa [sym] using this
theorem allTerm1 (b : Bool) (x : GT) (g : Nat) (caps : List AV) (σ : Heap) (hc : ∀ τ bs, callT T g (x.enc :: caps) bs (σ ++ τ) = some (.bool b, σ ++ τ)) (bs : Nat) :
    callT T 126 [x.enc, .ptr σ.length 0] bs (σ ++ [.cells [.func g caps] 0 false]) = some (.bool (!b), σ ++ [.cells [.func g caps] 0 false]) := by
  have hc1 := fun o bs => hc [.cells [.func g caps] 0 false, o] bs
  refine heap_enter (af := c126) (args' := [x.enc, .ptr σ.length 0]) (σ1 := σ ++ [.cells [.func g caps] 0 false]) rfl rfl (by simp [c126]) (by simp [c126]) rfl ?_
  simp [c126, baseA, hc1, ← GT.enc_eq, setRun, dropA_gc, refLt, res1, refLt2_bool, refLt2_int, take_1]
theorem allTerm (p : GT → Bool) (l : List GT) (g : Nat) (caps : List AV) (hl : l.length ≤ 100000000000) (σ : Heap) (hc : ∀ x ∈ l, ∀ τ bs, callT T g (x.enc :: caps) bs (σ ++ τ) = some (.bool (p x), σ ++ τ)) (bs : Nat) :
    callT T 98 [.isl (GT.encs l) false, .func g caps] bs σ = some (.bool (sym (l.all p)), σ) := by
  have h1 := fun x hx => allTerm1 (p x) x g caps σ (hc x hx)
  have h2 := conTerm (fun x => !p x) l 126 [.ptr σ.length 0] hl (σ ++ [.cells [.func g caps] 0 false]) h1
  refine heap_enter (af := c98) (args' := [.isl (GT.encs l) false, .func g caps]) (σ1 := σ) rfl rfl (by simp [c98]) (by simp [c98]) rfl ?_
  rw [← not_any]
  simp [c98, baseA, h2, dropA_gc, refLt, res1, refLt2_bool, refLt2_int, take_1, setRun, sym]
theorem idxTuple (p : GU → Bool) (l : List GU) (g : Nat) (caps : List AV) (hl : l.length ≤ 100000000000) (σ : Heap) (hc : ∀ x ∈ l, ∀ bs, callT T g (x.enc :: caps) bs σ = some (.bool (p x), σ)) (bs : Nat) :
    callT T 110 [.isl (l.map GU.enc) false, .func g caps] bs σ = some (.int .i64 (idxG p l), σ) := by
  refine heap_enter (af := c110) (args' := [.isl (l.map GU.enc) false, .func g caps]) (σ1 := σ) rfl rfl (by simp [c110]) (by simp [c110]) rfl ?_
  simp [c110, baseA]
  refine W_for T _ 19 l.length (fun i f τ => f 0 = .isl (l.map GU.enc) false ∧ f 1 = .func g caps ∧ f 7 = .int .i64 (l.length : Int) ∧ f 8 = .int .i64 (i : Int) ∧ τ = σ ∧ ∀ j, (hj : j < l.length) → j < i → p l[j] = false) ?_ _ _ ?_
  · rintro i f τ hi ⟨h0, h1, h7, h8, rfl, hall⟩
    by_cases hlt : i < l.length
    · have e1 : l[i]? = some l[i] := List.getElem?_eq_getElem hlt
      have hcl := hc l[i] (List.getElem_mem hlt)
      cases hp : p l[i]
      · rw [hp] at hcl
        simp [h0, h1, h7, h8, hlt, hcl, hp, ← GU.enc_eq]
        refine ⟨wr64 (by omega) (by omega), fun j hj hji => ?_⟩
        by_cases e : j = i
        · subst e; exact hp
        · exact hall j hj (by omega)
      · rw [hp] at hcl
        simp [h0, h1, h7, h8, hlt, hcl, hp, ← GU.enc_eq, dropA_gc, refLt, res1, refLt2_bool, refLt2_int, take_1]
        simp [idxG, idxG_drop p l i hlt hall hp]
    · have he : i = l.length := by omega
      subst he
      have hn : l.findIdx? p = none := by
        rw [List.findIdx?_eq_none_iff]
        intro x hx
        obtain ⟨j, hj, rfl⟩ := List.getElem_of_mem hx
        exact hall j hj hj
      simp [h0, h1, h7, h8, idxG, hn, dropA_gc, refLt, res1, refLt2_bool, refLt2_int, take_1]
  · simp
theorem conTuple (p : GU → Bool) (l : List GU) (g : Nat) (caps : List AV) (hl : l.length ≤ 100000000000) (σ : Heap) (hc : ∀ x ∈ l, ∀ bs, callT T g (x.enc :: caps) bs σ = some (.bool (p x), σ)) (bs : Nat) :
    callT T 72 [.isl (l.map GU.enc) false, .func g caps] bs σ = some (.bool (sym (l.any p)), σ) := by
  have h1 := idxTuple p l g caps hl σ hc
  have h2 := idxG_any p l
  refine heap_enter (af := c72) (args' := [.isl (l.map GU.enc) false, .func g caps]) (σ1 := σ) rfl rfl (by simp [c72]) (by simp [c72]) rfl ?_
  simp [c72, baseA, h1, dropA_gc, refLt, res1, refLt2_bool, refLt2_int, take_1]
  refine ⟨fun h => by simpa [sym] using h2.1 h, fun h => ?_⟩
  have : ¬ l.any p = true := fun hh => by have := h2.2 hh; omega
  simpa [sym] using this
theorem allTuple1 (b : Bool) (x : GU) (g : Nat) (caps : List AV) (σ : Heap) (hc : ∀ τ bs, callT T g (x.enc :: caps) bs (σ ++ τ) = some (.bool b, σ ++ τ)) (bs : Nat) :
    callT T 73 [x.enc, .ptr σ.length 0] bs (σ ++ [.cells [.func g caps] 0 false]) = some (.bool (!b), σ ++ [.cells [.func g caps] 0 false]) := by
  have hc1 := fun o bs => hc [.cells [.func g caps] 0 false, o] bs
  refine heap_enter (af := c73) (args' := [x.enc, .ptr σ.length 0]) (σ1 := σ ++ [.cells [.func g caps] 0 false]) rfl rfl (by simp [c73]) (by simp [c73]) rfl ?_
  simp [c73, baseA, hc1, ← GU.enc_eq, setRun, dropA_gc, refLt, res1, refLt2_bool, refLt2_int, take_1]
theorem allTuple (p : GU → Bool) (l : List GU) (g : Nat) (caps : List AV) (hl : l.length ≤ 100000000000) (σ : Heap) (hc : ∀ x ∈ l, ∀ τ bs, callT T g (x.enc :: caps) bs (σ ++ τ) = some (.bool (p x), σ ++ τ)) (bs : Nat) :
    callT T 33 [.isl (l.map GU.enc) false, .func g caps] bs σ = some (.bool (sym (l.all p)), σ) := by
  have h1 := fun x hx => allTuple1 (p x) x g caps σ (hc x hx)
  have h2 := conTuple (fun x => !p x) l 73 [.ptr σ.length 0] hl (σ ++ [.cells [.func g caps] 0 false]) h1
  refine heap_enter (af := c33) (args' := [.isl (l.map GU.enc) false, .func g caps]) (σ1 := σ) rfl rfl (by simp [c33]) (by simp [c33]) rfl ?_
  rw [← not_any]
  simp [c33, baseA, h2, dropA_gc, refLt, res1, refLt2_bool, refLt2_int, take_1, setRun, sym]
theorem idxRule (p : GR → Bool) (l : List GR) (g : Nat) (caps : List AV) (hl : l.length ≤ 100000000000) (σ : Heap) (hc : ∀ x ∈ l, ∀ bs, callT T g (x.enc :: caps) bs σ = some (.bool (p x), σ)) (bs : Nat) :
    callT T 114 [.isl (l.map GR.enc) false, .func g caps] bs σ = some (.int .i64 (idxG p l), σ) := by
  refine heap_enter (af := c114) (args' := [.isl (l.map GR.enc) false, .func g caps]) (σ1 := σ) rfl rfl (by simp [c114]) (by simp [c114]) rfl ?_
  simp [c114, baseA]
  refine W_for T _ 19 l.length (fun i f τ => f 0 = .isl (l.map GR.enc) false ∧ f 1 = .func g caps ∧ f 7 = .int .i64 (l.length : Int) ∧ f 8 = .int .i64 (i : Int) ∧ τ = σ ∧ ∀ j, (hj : j < l.length) → j < i → p l[j] = false) ?_ _ _ ?_
  · rintro i f τ hi ⟨h0, h1, h7, h8, rfl, hall⟩
    by_cases hlt : i < l.length
    · have e1 : l[i]? = some l[i] := List.getElem?_eq_getElem hlt
      have hcl := hc l[i] (List.getElem_mem hlt)
      cases hp : p l[i]
      · rw [hp] at hcl
        simp [h0, h1, h7, h8, hlt, hcl, hp, ← GR.enc_eq]
        refine ⟨wr64 (by omega) (by omega), fun j hj hji => ?_⟩
        by_cases e : j = i
        · subst e; exact hp
        · exact hall j hj (by omega)
      · rw [hp] at hcl
        simp [h0, h1, h7, h8, hlt, hcl, hp, ← GR.enc_eq, dropA_gc, refLt, res1, refLt2_bool, refLt2_int, take_1]
        simp [idxG, idxG_drop p l i hlt hall hp]
    · have he : i = l.length := by omega
      subst he
      have hn : l.findIdx? p = none := by
        rw [List.findIdx?_eq_none_iff]
        intro x hx
        obtain ⟨j, hj, rfl⟩ := List.getElem_of_mem hx
        exact hall j hj hj
      simp [h0, h1, h7, h8, idxG, hn, dropA_gc, refLt, res1, refLt2_bool, refLt2_int, take_1]
  · simp
theorem conRule (p : GR → Bool) (l : List GR) (g : Nat) (caps : List AV) (hl : l.length ≤ 100000000000) (σ : Heap) (hc : ∀ x ∈ l, ∀ bs, callT T g (x.enc :: caps) bs σ = some (.bool (p x), σ)) (bs : Nat) :
    callT T 76 [.isl (l.map GR.enc) false, .func g caps] bs σ = some (.bool (sym (l.any p)), σ) := by
  have h1 := idxRule p l g caps hl σ hc
  have h2 := idxG_any p l
  refine heap_enter (af := c76) (args' := [.isl (l.map GR.enc) false, .func g caps]) (σ1 := σ) rfl rfl (by simp [c76]) (by simp [c76]) rfl ?_
  simp [c76, baseA, h1, dropA_gc, refLt, res1, refLt2_bool, refLt2_int, take_1]
  refine ⟨fun h => by simpa [sym] using h2.1 h, fun h => ?_⟩
  have : ¬ l.any p = true := fun hh => by have := h2.2 hh; omega
  simpa [sym] using this
theorem allRule1 (b : Bool) (x : GR) (g : Nat) (caps : List AV) (σ : Heap) (hc : ∀ τ bs, callT T g (x.enc :: caps) bs (σ ++ τ) = some (.bool b, σ ++ τ)) (bs : Nat) :
    callT T 77 [x.enc, .ptr σ.length 0] bs (σ ++ [.cells [.func g caps] 0 false]) = some (.bool (!b), σ ++ [.cells [.func g caps] 0 false]) := by
  have hc1 := fun o bs => hc [.cells [.func g caps] 0 false, o] bs
  refine heap_enter (af := c77) (args' := [x.enc, .ptr σ.length 0]) (σ1 := σ ++ [.cells [.func g caps] 0 false]) rfl rfl (by simp [c77]) (by simp [c77]) rfl ?_
  simp [c77, baseA, hc1, ← GR.enc_eq, setRun, dropA_gc, refLt, res1, refLt2_bool, refLt2_int, take_1]
theorem allRule (p : GR → Bool) (l : List GR) (g : Nat) (caps : List AV) (hl : l.length ≤ 100000000000) (σ : Heap) (hc : ∀ x ∈ l, ∀ τ bs, callT T g (x.enc :: caps) bs (σ ++ τ) = some (.bool (p x), σ ++ τ)) (bs : Nat) :
    callT T 35 [.isl (l.map GR.enc) false, .func g caps] bs σ = some (.bool (sym (l.all p)), σ) := by
  have h1 := fun x hx => allRule1 (p x) x g caps σ (hc x hx)
  have h2 := conRule (fun x => !p x) l 77 [.ptr σ.length 0] hl (σ ++ [.cells [.func g caps] 0 false]) h1
  refine heap_enter (af := c35) (args' := [.isl (l.map GR.enc) false, .func g caps]) (σ1 := σ) rfl rfl (by simp [c35]) (by simp [c35]) rfl ?_
  rw [← not_any]
  simp [c35, baseA, h2, dropA_gc, refLt, res1, refLt2_bool, refLt2_int, take_1, setRun, sym]
theorem idxDecl (p : GD → Bool) (l : List GD) (g : Nat) (caps : List AV) (hl : l.length ≤ 100000000000) (σ : Heap) (hc : ∀ x ∈ l, ∀ bs, callT T g (x.enc :: caps) bs σ = some (.bool (p x), σ)) (bs : Nat) :
    callT T 117 [.isl (l.map GD.enc) false, .func g caps] bs σ = some (.int .i64 (idxG p l), σ) := by
  refine heap_enter (af := c117) (args' := [.isl (l.map GD.enc) false, .func g caps]) (σ1 := σ) rfl rfl (by simp [c117]) (by simp [c117]) rfl ?_
  simp [c117, baseA]
  refine W_for T _ 19 l.length (fun i f τ => f 0 = .isl (l.map GD.enc) false ∧ f 1 = .func g caps ∧ f 7 = .int .i64 (l.length : Int) ∧ f 8 = .int .i64 (i : Int) ∧ τ = σ ∧ ∀ j, (hj : j < l.length) → j < i → p l[j] = false) ?_ _ _ ?_
  · rintro i f τ hi ⟨h0, h1, h7, h8, rfl, hall⟩
    by_cases hlt : i < l.length
    · have e1 : l[i]? = some l[i] := List.getElem?_eq_getElem hlt
      have hcl := hc l[i] (List.getElem_mem hlt)
      cases hp : p l[i]
      · rw [hp] at hcl
        simp [h0, h1, h7, h8, hlt, hcl, hp, ← GD.enc_eq]
        refine ⟨wr64 (by omega) (by omega), fun j hj hji => ?_⟩
        by_cases e : j = i
        · subst e; exact hp
        · exact hall j hj (by omega)
      · rw [hp] at hcl
        simp [h0, h1, h7, h8, hlt, hcl, hp, ← GD.enc_eq, dropA_gc, refLt, res1, refLt2_bool, refLt2_int, take_1]
        simp [idxG, idxG_drop p l i hlt hall hp]
    · have he : i = l.length := by omega
      subst he
      have hn : l.findIdx? p = none := by
        rw [List.findIdx?_eq_none_iff]
        intro x hx
        obtain ⟨j, hj, rfl⟩ := List.getElem_of_mem hx
        exact hall j hj hj
      simp [h0, h1, h7, h8, idxG, hn, dropA_gc, refLt, res1, refLt2_bool, refLt2_int, take_1]
  · simp
theorem conDecl (p : GD → Bool) (l : List GD) (g : Nat) (caps : List AV) (hl : l.length ≤ 100000000000) (σ : Heap) (hc : ∀ x ∈ l, ∀ bs, callT T g (x.enc :: caps) bs σ = some (.bool (p x), σ)) (bs : Nat) :
    callT T 80 [.isl (l.map GD.enc) false, .func g caps] bs σ = some (.bool (sym (l.any p)), σ) := by
  have h1 := idxDecl p l g caps hl σ hc
  have h2 := idxG_any p l
  refine heap_enter (af := c80) (args' := [.isl (l.map GD.enc) false, .func g caps]) (σ1 := σ) rfl rfl (by simp [c80]) (by simp [c80]) rfl ?_
  simp [c80, baseA, h1, dropA_gc, refLt, res1, refLt2_bool, refLt2_int, take_1]
  refine ⟨fun h => by simpa [sym] using h2.1 h, fun h => ?_⟩
  have : ¬ l.any p = true := fun hh => by have := h2.2 hh; omega
  simpa [sym] using this
theorem allDecl1 (b : Bool) (x : GD) (g : Nat) (caps : List AV) (σ : Heap) (hc : ∀ τ bs, callT T g (x.enc :: caps) bs (σ ++ τ) = some (.bool b, σ ++ τ)) (bs : Nat) :
    callT T 81 [x.enc, .ptr σ.length 0] bs (σ ++ [.cells [.func g caps] 0 false]) = some (.bool (!b), σ ++ [.cells [.func g caps] 0 false]) := by
  have hc1 := fun o bs => hc [.cells [.func g caps] 0 false, o] bs
  refine heap_enter (af := c81) (args' := [x.enc, .ptr σ.length 0]) (σ1 := σ ++ [.cells [.func g caps] 0 false]) rfl rfl (by simp [c81]) (by simp [c81]) rfl ?_
  simp [c81, baseA, hc1, ← GD.enc_eq, setRun, dropA_gc, refLt, res1, refLt2_bool, refLt2_int, take_1]
theorem allDecl (p : GD → Bool) (l : List GD) (g : Nat) (caps : List AV) (hl : l.length ≤ 100000000000) (σ : Heap) (hc : ∀ x ∈ l, ∀ τ bs, callT T g (x.enc :: caps) bs (σ ++ τ) = some (.bool (p x), σ ++ τ)) (bs : Nat) :
    callT T 37 [.isl (l.map GD.enc) false, .func g caps] bs σ = some (.bool (sym (l.all p)), σ) := by
  have h1 := fun x hx => allDecl1 (p x) x g caps σ (hc x hx)
  have h2 := conDecl (fun x => !p x) l 81 [.ptr σ.length 0] hl (σ ++ [.cells [.func g caps] 0 false]) h1
  refine heap_enter (af := c37) (args' := [.isl (l.map GD.enc) false, .func g caps]) (σ1 := σ) rfl rfl (by simp [c37]) (by simp [c37]) rfl ?_
  rw [← not_any]
  simp [c37, baseA, h2, dropA_gc, refLt, res1, refLt2_bool, refLt2_int, take_1, setRun, sym]
theorem idxLiteral (p : GL → Bool) (l : List GL) (g : Nat) (caps : List AV) (hl : l.length ≤ 100000000000) (σ : Heap) (hc : ∀ x ∈ l, ∀ bs, callT T g (x.enc :: caps) bs σ = some (.bool (p x), σ)) (bs : Nat) :
    callT T 132 [.isl (l.map GL.enc) false, .func g caps] bs σ = some (.int .i64 (idxG p l), σ) := by
  refine heap_enter (af := c132) (args' := [.isl (l.map GL.enc) false, .func g caps]) (σ1 := σ) rfl rfl (by simp [c132]) (by simp [c132]) rfl ?_
  simp [c132, baseA]
  refine W_for T _ 19 l.length (fun i f τ => f 0 = .isl (l.map GL.enc) false ∧ f 1 = .func g caps ∧ f 7 = .int .i64 (l.length : Int) ∧ f 8 = .int .i64 (i : Int) ∧ τ = σ ∧ ∀ j, (hj : j < l.length) → j < i → p l[j] = false) ?_ _ _ ?_
  · rintro i f τ hi ⟨h0, h1, h7, h8, rfl, hall⟩
    by_cases hlt : i < l.length
    · have e1 : l[i]? = some l[i] := List.getElem?_eq_getElem hlt
      have hcl := hc l[i] (List.getElem_mem hlt)
      cases hp : p l[i]
      · rw [hp] at hcl
        simp [h0, h1, h7, h8, hlt, hcl, hp, ← GL.enc_eq]
        refine ⟨wr64 (by omega) (by omega), fun j hj hji => ?_⟩
        by_cases e : j = i
        · subst e; exact hp
        · exact hall j hj (by omega)
      · rw [hp] at hcl
        simp [h0, h1, h7, h8, hlt, hcl, hp, ← GL.enc_eq, dropA_gc, refLt, res1, refLt2_bool, refLt2_int, take_1]
        simp [idxG, idxG_drop p l i hlt hall hp]
    · have he : i = l.length := by omega
      subst he
      have hn : l.findIdx? p = none := by
        rw [List.findIdx?_eq_none_iff]
        intro x hx
        obtain ⟨j, hj, rfl⟩ := List.getElem_of_mem hx
        exact hall j hj hj
      simp [h0, h1, h7, h8, idxG, hn, dropA_gc, refLt, res1, refLt2_bool, refLt2_int, take_1]
  · simp
theorem conLiteral (p : GL → Bool) (l : List GL) (g : Nat) (caps : List AV) (hl : l.length ≤ 100000000000) (σ : Heap) (hc : ∀ x ∈ l, ∀ bs, callT T g (x.enc :: caps) bs σ = some (.bool (p x), σ)) (bs : Nat) :
    callT T 115 [.isl (l.map GL.enc) false, .func g caps] bs σ = some (.bool (sym (l.any p)), σ) := by
  have h1 := idxLiteral p l g caps hl σ hc
  have h2 := idxG_any p l
  refine heap_enter (af := c115) (args' := [.isl (l.map GL.enc) false, .func g caps]) (σ1 := σ) rfl rfl (by simp [c115]) (by simp [c115]) rfl ?_
  simp [c115, baseA, h1, dropA_gc, refLt, res1, refLt2_bool, refLt2_int, take_1]
  refine ⟨fun h => by simpa [sym] using h2.1 h, fun h => ?_⟩
  have : ¬ l.any p = true := fun hh => by have := h2.2 hh; omega
  simpa [sym] using this
theorem allLiteral1 (b : Bool) (x : GL) (g : Nat) (caps : List AV) (σ : Heap) (hc : ∀ τ bs, callT T g (x.enc :: caps) bs (σ ++ τ) = some (.bool b, σ ++ τ)) (bs : Nat) :
    callT T 116 [x.enc, .ptr σ.length 0] bs (σ ++ [.cells [.func g caps] 0 false]) = some (.bool (!b), σ ++ [.cells [.func g caps] 0 false]) := by
  have hc1 := fun o bs => hc [.cells [.func g caps] 0 false, o] bs
  refine heap_enter (af := c116) (args' := [x.enc, .ptr σ.length 0]) (σ1 := σ ++ [.cells [.func g caps] 0 false]) rfl rfl (by simp [c116]) (by simp [c116]) rfl ?_
  simp [c116, baseA, hc1, ← GL.enc_eq, setRun, dropA_gc, refLt, res1, refLt2_bool, refLt2_int, take_1]
theorem allLiteral (p : GL → Bool) (l : List GL) (g : Nat) (caps : List AV) (hl : l.length ≤ 100000000000) (σ : Heap) (hc : ∀ x ∈ l, ∀ τ bs, callT T g (x.enc :: caps) bs (σ ++ τ) = some (.bool (p x), σ ++ τ)) (bs : Nat) :
    callT T 79 [.isl (l.map GL.enc) false, .func g caps] bs σ = some (.bool (sym (l.all p)), σ) := by
  have h1 := fun x hx => allLiteral1 (p x) x g caps σ (hc x hx)
  have h2 := conLiteral (fun x => !p x) l 116 [.ptr σ.length 0] hl (σ ++ [.cells [.func g caps] 0 false]) h1
  refine heap_enter (af := c79) (args' := [.isl (l.map GL.enc) false, .func g caps]) (σ1 := σ) rfl rfl (by simp [c79]) (by simp [c79]) rfl ?_
  rw [← not_any]
  simp [c79, baseA, h2, dropA_gc, refLt, res1, refLt2_bool, refLt2_int, take_1, setRun, sym]
end Go.Proofs.YtpkfkipbemdhmaaGreatDoor
end
section
set_option linter.unusedVariables false
set_option linter.unusedSimpArgs false
set_option linter.unnecessarySimpa false
namespace Go.Proofs.YtpkfkipbemdhmaaGreatDoor
open Go.Mach

/-! ### How many arguments a function has -/
abbrev sCons : ByteArray := ⟨#[102, 95, 99, 111, 110, 115]⟩
abbrev sAppend : ByteArray := ⟨#[102, 95, 97, 112, 112, 101, 110, 100]⟩
abbrev sConcat : ByteArray := ⟨#[102, 95, 99, 111, 110, 99, 97, 116]⟩
abbrev sMember : ByteArray := ⟨#[102, 95, 109, 101, 109, 98, 101, 114]⟩
abbrev sSize : ByteArray := ⟨#[102, 95, 115, 105, 122, 101]⟩
abbrev sFirst : ByteArray := ⟨#[102, 95, 102, 105, 114, 115, 116]⟩
abbrev sLast : ByteArray := ⟨#[102, 95, 108, 97, 115, 116]⟩
abbrev sRest : ByteArray := ⟨#[102, 95, 114, 101, 115, 116]⟩
abbrev sReverse : ByteArray := ⟨#[102, 95, 114, 101, 118, 101, 114, 115, 101]⟩
def nilV : GV := .mk 0 0 ⟨#[]⟩ []
def arityOf (s : ByteArray) : Int :=
  if s = sCons ∨ s = sAppend ∨ s = sConcat ∨ s = sMember then 2
  else if s = sSize ∨ s = sFirst ∨ s = sLast ∨ s = sRest ∨ s = sReverse then 1 else -1
theorem refArity_ok (s : ByteArray) : pureT T c49 [.str s] = some (.int .i64 (arityOf s)) := by
  apply pure_enter (by simp [c49])
  simp [c49]
  unfold arityOf
  grind
theorem refArity (s : ByteArray) (bs : Nat) (σ : Heap) : callT T 49 [.str s] bs σ = some (.int .i64 (arityOf s), σ) := call_clean rfl rfl rfl (by simp) (refArity_ok s)
end Go.Proofs.YtpkfkipbemdhmaaGreatDoor
end
section
set_option linter.unusedVariables false
set_option linter.unusedSimpArgs false
set_option linter.unnecessarySimpa false
namespace Go.Proofs.YtpkfkipbemdhmaaGreatDoor
open Go.Mach

/-! ### A function's arity, by the table -/
theorem end_ok (b : Bool) : pureT T c138 [.bool b] = some (.func 153 [.iptr [.bool b] 0]) := by
  apply pure_enter (by simp [c138])
  simp [c138, frz, res1]
theorem callEnd (b : Bool) (bs : Nat) (σ : Heap) : callT T 138 [.bool b] bs σ = some (.func 153 [.iptr [.bool b] 0], σ) := call_clean rfl rfl rfl (by simp) (end_ok b)
def findV (s : ByteArray) : AV :=
  if s = sCons then .agg [.int .i64 2, .int .i64 1, .func 133 []]
  else if s = sAppend then .agg [.int .i64 2, .int .i64 0, .func 134 []]
  else if s = sConcat then .agg [.int .i64 2, .int .i64 0, .func 135 []]
  else if s = sMember then .agg [.int .i64 2, .int .i64 0, .func 136 []]
  else if s = sSize then .agg [.int .i64 1, .int .i64 0, .func 137 []]
  else if s = sFirst then .agg [.int .i64 1, .int .i64 0, .func 153 [.iptr [.bool false] 0]]
  else if s = sLast then .agg [.int .i64 1, .int .i64 0, .func 153 [.iptr [.bool true] 0]]
  else if s = sRest then .agg [.int .i64 1, .int .i64 0, .func 139 []]
  else if s = sReverse then .agg [.int .i64 1, .int .i64 0, .func 140 []]
  else .agg [.int .i64 (-1), .int .i64 0, .nilfunc]
theorem find_ok (s : ByteArray) : pureT T c118 [.str s] = some (findV s) := by
  apply pure_enter (by simp [c118])
  unfold findV
  by_cases h1 : s = sCons
  · subst h1; simp [c118, setRun]
  by_cases h2 : s = sAppend
  · subst h2; simp [c118, setRun]
  by_cases h3 : s = sConcat
  · subst h3; simp [c118, setRun]
  by_cases h4 : s = sMember
  · subst h4; simp [c118, setRun]
  by_cases h5 : s = sSize
  · subst h5; simp [c118, setRun]
  by_cases h6 : s = sFirst
  · subst h6; simp [c118, setRun, callEnd]
  by_cases h7 : s = sLast
  · subst h7; simp [c118, setRun, callEnd]
  by_cases h8 : s = sRest
  · subst h8; simp [c118, setRun]
  by_cases h9 : s = sReverse
  · subst h9; simp [c118, setRun]
  simp [c118, setRun, h1, h2, h3, h4, h5, h6, h7, h8, h9]
theorem callFind (s : ByteArray) (bs : Nat) (σ : Heap) : callT T 118 [.str s] bs σ = some (findV s, σ) := call_clean rfl rfl rfl (by simp) (find_ok s)
theorem bArity (s : ByteArray) (bs : Nat) (σ : Heap) : callT T 83 [.str s] bs σ = some (.int .i64 (arityOf s), σ) := call_clean rfl rfl rfl rfl (by
  apply pure_enter (by simp [c83])
  have h := callFind s
  unfold findV at h
  unfold arityOf
  by_cases h1 : s = sCons
  · subst h1; simp at h; simp [c83, h, setRun]; try decide
  by_cases h2 : s = sAppend
  · subst h2; simp at h; simp [c83, h, setRun]; try decide
  by_cases h3 : s = sConcat
  · subst h3; simp at h; simp [c83, h, setRun]; try decide
  by_cases h4 : s = sMember
  · subst h4; simp at h; simp [c83, h, setRun]; try decide
  by_cases h5 : s = sSize
  · subst h5; simp at h; simp [c83, h, setRun]; try decide
  by_cases h6 : s = sFirst
  · subst h6; simp at h; simp [c83, h, setRun]; try decide
  by_cases h7 : s = sLast
  · subst h7; simp at h; simp [c83, h, setRun]; try decide
  by_cases h8 : s = sRest
  · subst h8; simp at h; simp [c83, h, setRun]; try decide
  by_cases h9 : s = sReverse
  · subst h9; simp at h; simp [c83, h, setRun]; try decide
  simp [h1, h2, h3, h4, h5, h6, h7, h8, h9] at h
  simp [c83, h, setRun, h1, h2, h3, h4, h5, h6, h7, h8, h9])
end Go.Proofs.YtpkfkipbemdhmaaGreatDoor
end
section
set_option linter.unusedVariables false
set_option linter.unusedSimpArgs false
set_option linter.unnecessarySimpa false
namespace Go.Proofs.YtpkfkipbemdhmaaGreatDoor
open Go.Mach

/-! ### Right terms, and how they are shown -/
def upB (c : Nat) : Bool := decide (65 ≤ c) && decide (c ≤ 90)
def varL : List UInt8 → Bool
  | [] => false
  | c :: l => upB c.toNat && l.all (fun c => upB c.toNat || innerB c.toNat)
def varOK (t : ByteArray) : Bool := varL t.data.toList && decide (t.size ≤ 16)
def sMat : ByteArray := ⟨#[109, 97, 116, 101, 114, 105, 97, 108, 105, 122, 101]⟩
def relOK (s : ByteArray) : Bool := nameOK s && decide (arityOf s < 0) && decide (s ≠ sMat)
abbrev nil0 : GV := .mk 0 0 ⟨#[]⟩ []
def bareV (v : GV) : Bool := decide (v.kind = 0 ∧ v.num = 0 ∧ v.text = ⟨#[]⟩ ∧ v.items.length = 0)
def opOK (n : ByteArray) : Bool := decide (n = ⟨#[43]⟩ ∨ n = ⟨#[45]⟩ ∨ n = ⟨#[42]⟩)
def termB (t : GT) (ar : Bool) : Bool :=
  if t.kind = 1 then bareV t.value && decide (t.args.length = 0) && varOK t.name
  else if t.kind = 2 then rightT t.value && decide (t.args.length = 0) && decide (t.name = ⟨#[]⟩) && (decide (t.value.kind ≠ 3) || decide (arityOf t.value.text < 0))
  else if t.kind = 3 then bareV t.value && decide (arityOf t.name = t.args.length) && ar
  else if t.kind = 4 then bareV t.value && decide (t.args.length = 2) && opOK t.name && ar
  else false
def termR : Nat → GT → Bool
  | 0, _ => false
  | d + 1, t => termB t (t.args.all (termR d))
theorem bareV_eq {v : GV} (h : bareV v = true) : v = nil0 := by
  obtain ⟨k, n, t, l⟩ := v
  have := of_decide_eq_true h
  obtain ⟨h1, h2, h3, h4⟩ := this
  have h4 := List.length_eq_zero_iff.1 h4
  show GV.mk k n t l = nil0
  have e1 : k = 0 := h1
  have e2 : n = 0 := h2
  have e3 : t = ⟨#[]⟩ := h3
  have e4 : l = [] := h4
  rw [e1, e2, e3, e4]
theorem term_cases {d : Nat} {t : GT} (h : termR d t = true) : 0 < d ∧ ((∃ n, t = .mk 1 n nil0 [] ∧ varOK n = true) ∨ (∃ v, t = .mk 2 ⟨#[]⟩ v [] ∧ rightT v = true ∧ (v.kind ≠ 3 ∨ arityOf v.text < 0))
    ∨ (∃ n l, t = .mk 3 n nil0 l ∧ arityOf n = (l.length : Int) ∧ ∀ x ∈ l, termR (d - 1) x = true) ∨ (∃ n l, t = .mk 4 n nil0 l ∧ opOK n = true ∧ l.length = 2 ∧ ∀ x ∈ l, termR (d - 1) x = true)) := by
  obtain ⟨k, n, v, l⟩ := t
  cases d with
  | zero => cases h
  | succ d =>
    refine ⟨by omega, ?_⟩
    simp only [termR, termB, GT.kind, GT.name, GT.value, GT.args] at h
    split at h
    · rename_i hk; subst hk
      simp only [Bool.and_eq_true, decide_eq_true_eq] at h
      rw [bareV_eq h.1.1, List.length_eq_zero_iff.1 h.1.2]
      exact .inl ⟨n, rfl, h.2⟩
    split at h
    · rename_i hk; subst hk
      simp only [Bool.and_eq_true, Bool.or_eq_true, decide_eq_true_eq] at h
      rw [List.length_eq_zero_iff.1 h.1.1.2, h.1.2]
      exact .inr (.inl ⟨v, rfl, h.1.1.1, h.2⟩)
    split at h
    · rename_i hk; subst hk
      simp only [Bool.and_eq_true, decide_eq_true_eq, List.all_eq_true] at h
      rw [bareV_eq h.1.1]
      exact .inr (.inr (.inl ⟨n, l, rfl, h.1.2, fun x hx => h.2 x hx⟩))
    split at h
    · rename_i hk; subst hk
      simp only [Bool.and_eq_true, decide_eq_true_eq, List.all_eq_true] at h
      rw [bareV_eq h.1.1.1]
      exact .inr (.inr (.inr ⟨n, l, rfl, h.1.2, h.1.1.2, fun x hx => h.2 x hx⟩))
    · cases h
mutual
def shT : GT → List UInt8
  | .mk k n v l => if k = 1 then n.data.toList else if k = 2 then pr v else if k = 3 then n.data.toList ++ 40 :: (shTs [44] l ++ [41]) else 40 :: (shTs n.data.toList l ++ [41])
def shTs (sep : List UInt8) : List GT → List UInt8
  | [] => []
  | x :: l => shT x ++ shTc sep l
def shTc (sep : List UInt8) : List GT → List UInt8
  | [] => []
  | x :: l => sep ++ (shT x ++ shTc sep l)
end
/-! ### Unlike right terms have unlike texts -/
theorem stop_of {p : UInt8 → Bool} {c : UInt8} {r : List UInt8} (h : p c = false) : stopP p (c :: r) := fun x hx => by simp at hx; subst hx; exact h
theorem digit_inn {c : UInt8} (h : digitB c = true) : innC c = true := by
  simp only [digitB, decide_eq_true_eq] at h
  simp only [innC, innerB, Bool.or_eq_true, Bool.and_eq_true, decide_eq_true_eq]; omega
theorem stop_digit {r : List UInt8} (h : stopP innC r) : stopP digitB r := fun c hc => by
  have := h c hc
  cases hd : digitB c with
  | false => rfl
  | true => rw [digit_inn hd] at this; cases this
theorem itoa_split {m n : Int} {r s : List UInt8} (hr : stopP innC r) (hs : stopP innC s) (h : Lib.itoa m ++ r = Lib.itoa n ++ s) : m = n ∧ r = s := by
  obtain ⟨a1, a2, a3⟩ := decDigits_spec m.natAbs m.natAbs (Nat.le_refl _)
  obtain ⟨b1, b2, b3⟩ := decDigits_spec m.toNat m.toNat (Nat.le_refl _)
  obtain ⟨c1, c2, c3⟩ := decDigits_spec n.natAbs n.natAbs (Nat.le_refl _)
  obtain ⟨d1, d2, d3⟩ := decDigits_spec n.toNat n.toNat (Nat.le_refl _)
  have hnd : ∀ (l k : List UInt8) (x y : List UInt8), l ≠ [] → (∀ c ∈ l, digitB c = true) → ¬ (45 :: x = l ++ y) := fun l k x y hl hd h => by
    cases l with
    | nil => exact hl rfl
    | cons c l =>
      simp only [List.cons_append, List.cons.injEq] at h
      have := hd c (by simp)
      rw [← h.1] at this; simp [digitB] at this
  have hr := stop_digit hr
  have hs := stop_digit hs
  unfold Lib.itoa at h
  split at h <;> split at h
  · simp only [List.cons_append, List.cons.injEq, true_and] at h
    obtain ⟨h1, h2⟩ := span_eq digitB _ _ _ _ a2 c2 hr hs h
    rw [h1, c1] at a1; exact ⟨by omega, h2⟩
  · simp only [List.cons_append] at h
    exact absurd h (hnd _ [] _ _ d3 d2)
  · simp only [List.cons_append] at h
    exact absurd h.symm (hnd _ [] _ _ b3 b2)
  · obtain ⟨h1, h2⟩ := span_eq digitB _ _ _ _ b2 d2 hr hs h
    rw [h1, d1] at b1; exact ⟨by omega, h2⟩
theorem v_split {a b : GV} {r s : List UInt8} (ha : rightT a = true) (hb : rightT b = true) (hr : stopP innC r) (hs : stopP innC s) (h : pr a ++ r = pr b ++ s) : a = b ∧ r = s := by
  obtain ⟨c1, l1, e1, k1⟩ := pr_head ha
  obtain ⟨c2, l2, e2, k2⟩ := pr_head hb
  have hc : c1 = c2 := by rw [e1, e2] at h; simp only [List.cons_append, List.cons.injEq] at h; exact h.1
  subst hc
  have hk := head_apart k1 k2
  rcases right_cases ha with ⟨n1, rfl, _, _⟩ | ⟨t1, rfl, ht1⟩ | ⟨t1, rfl, ht1⟩ | ⟨l1', rfl, hd1, _, hl1⟩ <;> rcases right_cases hb with ⟨n2, rfl, _, _⟩ | ⟨t2, rfl, ht2⟩ | ⟨t2, rfl, ht2⟩ | ⟨l2', rfl, hd2, _, hl2⟩ <;> first
    | (exfalso; simp [GV.kind] at hk; done)
    | skip
  · simp only [pr, if_true] at h
    obtain ⟨rfl, h2⟩ := itoa_split hr hs h
    exact ⟨rfl, h2⟩
  · have p1 : pr (.mk 2 0 t1 []) = 34 :: (t1.data.toList ++ [34]) := by simp [pr]
    have p2 : pr (.mk 2 0 t2 []) = 34 :: (t2.data.toList ++ [34]) := by simp [pr]
    rw [p1, p2] at h
    simp only [List.cons_append, List.cons.injEq, true_and, List.append_assoc, List.nil_append] at h
    obtain ⟨h1, h2⟩ := span_eq (fun c => c != 34) _ _ _ _ (text_list ht1) (text_list ht2) (fun c hc => by simp at hc; subst hc; rfl) (fun c hc => by simp at hc; subst hc; rfl) h
    injection h2 with _ h2
    exact ⟨by rw [bytes_ext h1], h2⟩
  · have p1 : pr (.mk 3 0 t1 []) = t1.data.toList := by simp [pr]
    have p2 : pr (.mk 3 0 t2 []) = t2.data.toList := by simp [pr]
    rw [p1, p2] at h
    obtain ⟨c1, m1, q1, _, i1⟩ := name_list ht1
    obtain ⟨c2, m2, q2, _, i2⟩ := name_list ht2
    obtain ⟨h1, h2⟩ := span_eq innC _ _ _ _ (by rw [q1]; exact i1) (by rw [q2]; exact i2) hr hs h
    exact ⟨by rw [bytes_ext h1], h2⟩
  · have p1 : pr (.mk 4 0 ⟨#[]⟩ l1') = 91 :: (prs l1' ++ [93]) := by simp [pr]
    have p2 : pr (.mk 4 0 ⟨#[]⟩ l2') = 91 :: (prs l2' ++ [93]) := by simp [pr]
    rw [p1, p2] at h
    simp only [List.cons_append, List.cons.injEq, true_and, List.append_assoc, List.nil_append] at h
    obtain ⟨h1, h2⟩ := prs_split l1' l2' _ _ r s hl1 hl2 h
    exact ⟨by rw [h1], h2⟩
def varC (c : UInt8) : Bool := upB c.toNat || innerB c.toNat
theorem var_list {t : ByteArray} (h : varOK t = true) : ∃ c l, t.data.toList = c :: l ∧ upB c.toNat = true ∧ ∀ x ∈ c :: l, varC x = true := by
  simp only [varOK, Bool.and_eq_true] at h
  match hl : t.data.toList, h.1 with
  | c :: l, h1 =>
    simp only [varL, Bool.and_eq_true, List.all_eq_true] at h1
    refine ⟨c, l, rfl, h1.1, fun x hx => ?_⟩
    rcases List.mem_cons.1 hx with rfl | hx
    · simp [varC, h1.1]
    · exact h1.2 x hx
  | [], h1 => simp [varL] at h1
theorem fn_name {n : ByteArray} (h : 0 ≤ arityOf n) : nameOK n = true := by
  unfold arityOf at h
  split at h
  · rename_i hn; rcases hn with rfl | rfl | rfl | rfl <;> decide +kernel
  split at h
  · rename_i hn; rcases hn with rfl | rfl | rfl | rfl | rfl <;> decide +kernel
  · omega
theorem th_head {d : Nat} {t : GT} (h : termR d t = true) : ∃ c l, shT t = c :: l ∧ ((t.kind = 1 ∧ upB c.toNat = true) ∨ (t.kind = 2 ∧ (numB c = true ∨ c = 34 ∨ letterB c.toNat = true ∨ c = 91)) ∨ (t.kind = 3 ∧ letterB c.toNat = true) ∨ (t.kind = 4 ∧ c = 40)) := by
  obtain ⟨hd, ⟨n, rfl, hn⟩ | ⟨v, rfl, hv, _⟩ | ⟨n, l, rfl, hn, _⟩ | ⟨n, l, rfl, _⟩⟩ := term_cases h
  · obtain ⟨c, l, e, h1, _⟩ := var_list hn
    exact ⟨c, l, by simp [shT, e], .inl ⟨rfl, h1⟩⟩
  · obtain ⟨c, l, e, k⟩ := pr_head hv
    exact ⟨c, l, by simp [shT, e], .inr (.inl ⟨rfl, by rcases k with ⟨_, k⟩ | ⟨_, k⟩ | ⟨_, k⟩ | ⟨_, k⟩ <;> simp [k]⟩)⟩
  · obtain ⟨c, m, e, h1, _⟩ := name_list (fn_name (n := n) (by omega))
    exact ⟨c, _, by simp [shT, e]; rfl, .inr (.inr (.inl ⟨rfl, h1⟩))⟩
  · exact ⟨40, _, by simp [shT]; rfl, .inr (.inr (.inr ⟨rfl, rfl⟩))⟩
theorem inn_var {c : UInt8} (h : innC c = true) : varC c = true := by simp only [innC] at h; simp [varC, h]
theorem stop_inn {r : List UInt8} (h : stopP varC r) : stopP innC r := fun c hc => by
  have := h c hc
  cases hd : innC c with
  | false => rfl
  | true => rw [inn_var hd] at this; cases this
theorem pr_letter {v : GV} {c : UInt8} {l : List UInt8} (hv : rightT v = true) (h : pr v = c :: l) (hc : letterB c.toNat = true) : ∃ t, v = .mk 3 0 t [] ∧ nameOK t = true := by
  obtain ⟨c1, l1, e1, k1⟩ := pr_head hv
  rw [h] at e1
  simp only [List.cons.injEq] at e1
  obtain ⟨rfl, _⟩ := e1
  have hk := head_apart k1 (.inr (.inr (.inl ⟨rfl, hc⟩)) : ((3 : Int) = 1 ∧ numB c = true) ∨ ((3 : Int) = 2 ∧ c = 34) ∨ ((3 : Int) = 3 ∧ letterB c.toNat = true) ∨ ((3 : Int) = 4 ∧ c = 91))
  rcases right_cases hv with ⟨n1, rfl, _, _⟩ | ⟨t1, rfl, ht1⟩ | ⟨t1, rfl, ht1⟩ | ⟨l1', rfl, hd1, _, hl1⟩
  · simp [GV.kind] at hk
  · simp [GV.kind] at hk
  · exact ⟨t1, rfl, ht1⟩
  · simp [GV.kind] at hk
theorem th_apart {c : UInt8} {k k2 : Int} (h : (k = 1 ∧ upB c.toNat = true) ∨ (k = 2 ∧ (numB c = true ∨ c = 34 ∨ letterB c.toNat = true ∨ c = 91)) ∨ (k = 3 ∧ letterB c.toNat = true) ∨ (k = 4 ∧ c = 40))
    (h2 : (k2 = 1 ∧ upB c.toNat = true) ∨ (k2 = 2 ∧ (numB c = true ∨ c = 34 ∨ letterB c.toNat = true ∨ c = 91)) ∨ (k2 = 3 ∧ letterB c.toNat = true) ∨ (k2 = 4 ∧ c = 40)) : k = k2 ∨ ((k = 2 ∧ k2 = 3 ∨ k = 3 ∧ k2 = 2) ∧ letterB c.toNat = true) := by
  have e1 : numB c = true → c.toNat = 45 ∨ (48 ≤ c.toNat ∧ c.toNat ≤ 57) := fun h => by
    simp only [numB, digitB, Bool.or_eq_true, decide_eq_true_eq] at h
    rcases h with h | rfl
    · exact .inr h
    · exact .inl rfl
  have e2 : upB c.toNat = true → 65 ≤ c.toNat ∧ c.toNat ≤ 90 := fun h => by simpa [upB] using h
  have e3 : letterB c.toNat = true → 97 ≤ c.toNat ∧ c.toNat ≤ 122 := fun h => by simpa [letterB] using h
  have e4 : c = 34 → c.toNat = 34 := fun h => by rw [h]; rfl
  have e5 : c = 91 → c.toNat = 91 := fun h => by rw [h]; rfl
  have e6 : c = 40 → c.toNat = 40 := fun h => by rw [h]; rfl
  rcases h with ⟨rfl, h⟩ | ⟨rfl, h⟩ | ⟨rfl, h⟩ | ⟨rfl, h⟩ <;> rcases h2 with ⟨rfl, h2⟩ | ⟨rfl, h2⟩ | ⟨rfl, h2⟩ | ⟨rfl, h2⟩ <;> first
    | exact .inl rfl
    | exact .inr ⟨.inl ⟨rfl, rfl⟩, h2⟩
    | exact .inr ⟨.inr ⟨rfl, rfl⟩, h⟩
    | (exfalso; grind)
theorem op_char {n : ByteArray} (h : opOK n = true) : ∃ c, n.data.toList = [c] ∧ varC c = false ∧ c ≠ 41 := by
  rcases of_decide_eq_true h with rfl | rfl | rfl
  · exact ⟨43, rfl, by decide, by decide⟩
  · exact ⟨45, rfl, by decide, by decide⟩
  · exact ⟨42, rfl, by decide, by decide⟩
theorem stop_tc {c : UInt8} (hc : varC c = false) (l : List GT) (r : List UInt8) : stopP varC (shTc [c] l ++ 41 :: r) := by
  cases l with
  | nil => exact stop_of (by decide)
  | cons x l => exact stop_of hc
theorem th_not41 {d : Nat} {t : GT} (h : termR d t = true) (r s : List UInt8) : ¬ (shT t ++ r = 41 :: s) := by
  obtain ⟨c, l, e, k⟩ := th_head h
  intro hh
  rw [e] at hh
  simp only [List.cons_append, List.cons.injEq] at hh
  have := hh.1; subst this
  rcases k with ⟨_, k⟩ | ⟨_, k⟩ | ⟨_, k⟩ | ⟨_, k⟩
  · revert k; decide
  · rcases k with k | k | k | k <;> revert k <;> decide
  · revert k; decide
  · revert k; decide
mutual
theorem t_split : ∀ (a b : GT) (d e : Nat) (r s : List UInt8), termR d a = true → termR e b = true → stopP varC r → stopP varC s → shT a ++ r = shT b ++ s → a = b ∧ r = s
  | .mk k n v l, b, d, e, r, s, ha, hb, hr, hs, h => by
    obtain ⟨c1, l1, e1, k1⟩ := th_head ha
    obtain ⟨c2, l2, e2, k2⟩ := th_head hb
    have hc : c1 = c2 := by rw [e1, e2] at h; simp only [List.cons_append, List.cons.injEq] at h; exact h.1
    subst hc
    have hk := th_apart k1 k2
    obtain ⟨_, ha'⟩ := term_cases ha
    obtain ⟨_, hb'⟩ := term_cases hb
    rcases ha' with ⟨n1, ea, hn1⟩ | ⟨v1, ea, hv1, hx1⟩ | ⟨n1, m1, ea, hn1, hm1⟩ | ⟨n1, m1, ea, hn1, hm1, hy1⟩ <;> rcases hb' with ⟨n2, eb, hn2⟩ | ⟨v2, eb, hv2, hx2⟩ | ⟨n2, m2, eb, hn2, hm2⟩ | ⟨n2, m2, eb, hn2, hm2, hy2⟩ <;> injection ea with ea1 ea2 ea3 ea4 <;> subst ea1 ea2 ea3 ea4 <;> subst eb <;> first
      | (exfalso; simp [GT.kind] at hk; done)
      | skip
    · have p1 : shT (.mk 1 n nil0 []) = n.data.toList := by simp [shT]
      have p2 : shT (.mk 1 n2 nil0 []) = n2.data.toList := by simp [shT]
      rw [p1, p2] at h
      obtain ⟨x1, m1, q1, _, i1⟩ := var_list hn1
      obtain ⟨x2, m2, q2, _, i2⟩ := var_list hn2
      obtain ⟨h1, h2⟩ := span_eq varC _ _ _ _ (by rw [q1]; exact i1) (by rw [q2]; exact i2) hr hs h
      exact ⟨by rw [bytes_ext h1], h2⟩
    · have p1 : shT (.mk 2 ⟨#[]⟩ v []) = pr v := by simp [shT]
      have p2 : shT (.mk 2 ⟨#[]⟩ v2 []) = pr v2 := by simp [shT]
      rw [p1, p2] at h
      obtain ⟨rfl, h2⟩ := v_split hv1 hv2 (stop_inn hr) (stop_inn hs) h
      exact ⟨rfl, h2⟩
    · exfalso
      have hl : letterB c1.toNat = true := by simpa [GT.kind] using hk
      have p1 : shT (.mk 2 ⟨#[]⟩ v []) = pr v := by simp [shT]
      have p2 : shT (.mk 3 n2 nil0 m2) = n2.data.toList ++ 40 :: (shTs [44] m2 ++ [41]) := by simp [shT]
      rw [p1] at e1 h
      obtain ⟨t, rfl, ht⟩ := pr_letter hv1 e1 hl
      have p3 : pr (.mk 3 0 t []) = t.data.toList := by simp [pr]
      rw [p3, p2, List.append_assoc] at h
      obtain ⟨x1, m1, q1, _, i1⟩ := name_list ht
      obtain ⟨x2, m2, q2, _, i2⟩ := name_list (fn_name (n := n2) (by omega))
      obtain ⟨h1, h2⟩ := span_eq innC _ _ _ _ (by rw [q1]; exact i1) (by rw [q2]; exact i2) (stop_inn hr) (stop_of (by decide)) h
      have := bytes_ext h1
      subst this
      rcases hx1 with hx | hx
      · exact hx rfl
      · have hx : arityOf t < 0 := hx
        omega
    · exfalso
      have hl : letterB c1.toNat = true := by simpa [GT.kind] using hk
      have p1 : shT (.mk 2 ⟨#[]⟩ v2 []) = pr v2 := by simp [shT]
      have p2 : shT (.mk 3 n nil0 l) = n.data.toList ++ 40 :: (shTs [44] l ++ [41]) := by simp [shT]
      rw [p1] at e2 h
      obtain ⟨t, rfl, ht⟩ := pr_letter hv2 e2 hl
      have p3 : pr (.mk 3 0 t []) = t.data.toList := by simp [pr]
      rw [p3, p2, List.append_assoc] at h
      obtain ⟨x1, m1, q1, _, i1⟩ := name_list ht
      obtain ⟨x2, m2, q2, _, i2⟩ := name_list (fn_name (n := n) (by omega))
      obtain ⟨h1, h2⟩ := span_eq innC _ _ _ _ (by rw [q1]; exact i1) (by rw [q2]; exact i2) (stop_inn hs) (stop_of (by decide)) h.symm
      have := bytes_ext h1
      subst this
      rcases hx2 with hx | hx
      · exact hx rfl
      · have hx : arityOf t < 0 := hx
        omega
    · have p1 : shT (.mk 3 n nil0 l) = n.data.toList ++ 40 :: (shTs [44] l ++ [41]) := by simp [shT]
      have p2 : shT (.mk 3 n2 nil0 m2) = n2.data.toList ++ 40 :: (shTs [44] m2 ++ [41]) := by simp [shT]
      rw [p1, p2, List.append_assoc, List.append_assoc] at h
      obtain ⟨x1, m1, q1, _, i1⟩ := name_list (fn_name (n := n) (by omega))
      obtain ⟨x2, m2, q2, _, i2⟩ := name_list (fn_name (n := n2) (by omega))
      obtain ⟨h1, h2⟩ := span_eq innC _ _ _ _ (by rw [q1]; exact i1) (by rw [q2]; exact i2) (stop_of (by decide)) (stop_of (by decide)) h
      simp only [List.cons_append, List.append_eq, List.cons.injEq, true_and, List.append_assoc, List.nil_append] at h2
      obtain ⟨h3, h4, _⟩ := ts_split l _ (d - 1) (e - 1) 44 44 r s hm1 hm2 (by decide) (by decide) (by decide) (by decide) h2
      exact ⟨by rw [bytes_ext h1, h3], h4⟩
    · have p1 : shT (.mk 4 n nil0 l) = 40 :: (shTs n.data.toList l ++ [41]) := by simp [shT]
      have p2 : shT (.mk 4 n2 nil0 m2) = 40 :: (shTs n2.data.toList m2 ++ [41]) := by simp [shT]
      obtain ⟨x1, q1, z1, w1⟩ := op_char hn1
      obtain ⟨x2, q2, z2, w2⟩ := op_char hn2
      rw [p1, p2, q1, q2] at h
      simp only [List.cons_append, List.cons.injEq, true_and, List.append_assoc, List.nil_append] at h
      obtain ⟨h3, h4, h5⟩ := ts_split l _ (d - 1) (e - 1) x1 x2 r s hy1 hy2 z1 z2 w1 w2 h
      have hxx := h5 (by omega)
      subst hxx
      have : n = n2 := bytes_ext (by rw [q1, q2])
      exact ⟨by rw [this, h3], h4⟩
theorem ts_split : ∀ (a b : List GT) (d e : Nat) (c c' : UInt8) (r s : List UInt8), (∀ x ∈ a, termR d x = true) → (∀ x ∈ b, termR e x = true) → varC c = false → varC c' = false → c ≠ 41 → c' ≠ 41 →
    shTs [c] a ++ 41 :: r = shTs [c'] b ++ 41 :: s → a = b ∧ r = s ∧ (2 ≤ a.length → c = c')
  | [], [], d, e, c, c', r, s, _, _, _, _, _, _, h => ⟨rfl, by simpa [shTs] using h, fun h => by simp at h⟩
  | [], y :: b, d, e, c, c', r, s, _, hb, _, _, _, _, h => by
    exfalso
    simp only [shTs, List.nil_append, List.append_assoc] at h
    exact th_not41 (hb y (by simp)) _ _ h.symm
  | x :: a, [], d, e, c, c', r, s, ha, _, _, _, _, _, h => by
    exfalso
    simp only [shTs, List.nil_append, List.append_assoc] at h
    exact th_not41 (ha x (by simp)) _ _ h
  | x :: a, y :: b, d, e, c, c', r, s, ha, hb, z1, z2, w1, w2, h => by
    simp only [shTs, List.append_assoc] at h
    obtain ⟨h0, h1⟩ := t_split x y d e _ _ (ha x (by simp)) (hb y (by simp)) (stop_tc z1 a r) (stop_tc z2 b s) h
    obtain ⟨h2, h3, h4⟩ := tc_split a b d e c c' r s (fun z hz => ha z (by simp [hz])) (fun z hz => hb z (by simp [hz])) z1 z2 w1 w2 h1
    exact ⟨by rw [h0, h2], h3, fun hl => h4 (by rintro rfl; simp at hl)⟩
theorem tc_split : ∀ (a b : List GT) (d e : Nat) (c c' : UInt8) (r s : List UInt8), (∀ x ∈ a, termR d x = true) → (∀ x ∈ b, termR e x = true) → varC c = false → varC c' = false → c ≠ 41 → c' ≠ 41 →
    shTc [c] a ++ 41 :: r = shTc [c'] b ++ 41 :: s → a = b ∧ r = s ∧ (a ≠ [] → c = c')
  | [], [], d, e, c, c', r, s, _, _, _, _, _, _, h => ⟨rfl, by simpa [shTc] using h, fun h => absurd rfl h⟩
  | [], y :: b, d, e, c, c', r, s, _, hb, _, _, _, w2, h => by
    exfalso
    simp only [shTc, List.nil_append, List.cons_append, List.cons.injEq] at h
    exact w2 h.1.symm
  | x :: a, [], d, e, c, c', r, s, ha, _, _, _, w1, _, h => by
    exfalso
    simp only [shTc, List.nil_append, List.cons_append, List.cons.injEq] at h
    exact w1 h.1
  | x :: a, y :: b, d, e, c, c', r, s, ha, hb, z1, z2, w1, w2, h => by
    simp only [shTc, List.cons_append, List.nil_append, List.cons.injEq, List.append_assoc] at h
    obtain ⟨hc, h⟩ := h
    obtain ⟨h0, h1⟩ := t_split x y d e _ _ (ha x (by simp)) (hb y (by simp)) (stop_tc z1 a r) (stop_tc z2 b s) h
    obtain ⟨h2, h3, h4⟩ := tc_split a b d e c c' r s (fun z hz => ha z (by simp [hz])) (fun z hz => hb z (by simp [hz])) z1 z2 w1 w2 h1
    exact ⟨by rw [h0, h2], h3, fun _ => hc⟩
end
end Go.Proofs.YtpkfkipbemdhmaaGreatDoor
end
section
set_option linter.unusedVariables false
set_option linter.unusedSimpArgs false
set_option linter.unnecessarySimpa false
namespace Go.Proofs.YtpkfkipbemdhmaaGreatDoor
open Go.Mach

/-! ### Right programs, and how they are shown -/
def headOK (l : List GT) : Bool := match l with
  | t :: _ => decide (t.kind = 1) || (decide (t.kind = 2) && decide (t.value.kind = 3))
  | [] => false
def argsB (l : List GT) : Bool := decide (1 ≤ l.length ∧ l.length ≤ 8) && l.all (termR 8) && headOK l
def tOK (n : ByteArray) : Bool := decide (n = ⟨#[61, 61]⟩ ∨ n = ⟨#[33, 61]⟩ ∨ n = ⟨#[60]⟩ ∨ n = ⟨#[60, 61]⟩ ∨ n = ⟨#[62]⟩ ∨ n = ⟨#[62, 61]⟩)
def litB (l : GL) : Bool :=
  if l.kind = 1 ∨ l.kind = 2 then relOK l.name && argsB l.args
  else if l.kind = 3 then tOK l.name && decide (l.args.length = 2) && l.args.all (termR 8)
  else if l.kind = 4 then varOK l.name && decide (l.args.length = 1) && l.args.all (termR 8)
  else false
abbrev sMin : ByteArray := ⟨#[109, 105, 110]⟩
abbrev sMax : ByteArray := ⟨#[109, 97, 120]⟩
abbrev sCount : ByteArray := ⟨#[99, 111, 117, 110, 116]⟩
def aggB (r : GR) : Bool :=
  if r.agg = ⟨#[]⟩ then decide (r.pos = 0)
  else decide (r.agg = sMin ∨ r.agg = sMax ∨ r.agg = sCount) && decide (1 ≤ r.pos ∧ r.pos < r.args.length) && decide (((r.args[r.pos.toNat]?).map (·.kind)) = some 1)
def ruleB (r : GR) : Bool := relOK r.label && relOK r.head && argsB r.args && decide (1 ≤ r.body.length ∧ r.body.length ≤ 8) && r.body.all litB && aggB r
def tupB (t : GU) : Bool := relOK t.name && decide (1 ≤ t.args.length ∧ t.args.length ≤ 8) && (match t.args with | v :: _ => decide (v.kind = 3) | [] => false) && t.args.all rightT
def declB (d : GD) : Bool := relOK d.name && decide (1 ≤ d.arity ∧ d.arity ≤ 8)
def progB (p : GP) : Bool := decide (p.decls.length ≤ 64 ∧ p.facts.length ≤ 64 ∧ p.rules.length ≤ 64) && p.facts.all tupB && p.rules.all ruleB && p.decls.all declB

def shAt (agg : List UInt8) (at' : Int) (i : Nat) (t : GT) : List UInt8 := if agg ≠ [] ∧ (i : Int) = at' then agg ++ 60 :: (t.name.data.toList ++ [62]) else shT t
def shAtC (agg : List UInt8) (at' : Int) : Nat → List GT → List UInt8
  | _, [] => []
  | i, x :: l => 44 :: (shAt agg at' i x ++ shAtC agg at' (i + 1) l)
def shAtS (agg : List UInt8) (at' : Int) : Nat → List GT → List UInt8
  | _, [] => []
  | i, x :: l => shAt agg at' i x ++ shAtC agg at' (i + 1) l
def shAtom (name : List UInt8) (l : List GT) (agg : List UInt8) (at' : Int) : List UInt8 := name ++ 40 :: 64 :: (shAtS agg at' 0 l ++ [41])
def shLit (l : GL) : List UInt8 :=
  if l.kind = 3 then shTs (32 :: (l.name.data.toList ++ [32])) l.args
  else if l.kind = 4 then l.name.data.toList ++ 32 :: 58 :: 61 :: 32 :: (match l.args with | t :: _ => shT t | [] => [])
  else if l.kind = 2 then 33 :: shAtom l.name.data.toList l.args [] 0
  else shAtom l.name.data.toList l.args [] 0
def shLitC : List GL → List UInt8
  | [] => []
  | x :: l => 44 :: 32 :: (shLit x ++ shLitC l)
def shLitS : List GL → List UInt8
  | [] => []
  | x :: l => shLit x ++ shLitC l
def shRule (r : GR) : List UInt8 := r.label.data.toList ++ 32 :: (shAtom r.head.data.toList r.args r.agg.data.toList r.pos ++ 32 :: 58 :: 45 :: 32 :: (shLitS r.body ++ [46]))
def shTup (t : GU) : List UInt8 := t.name.data.toList ++ 40 :: 64 :: (prs t.args ++ [41, 46])
def shDecl (d : GD) : List UInt8 := sMat.data.toList ++ 40 :: (d.name.data.toList ++ 44 :: (Lib.itoa d.arity ++ [41, 46, 10]))
def shProg (p : GP) : List UInt8 := p.decls.flatMap shDecl ++ (p.facts.flatMap (fun t => shTup t ++ [10]) ++ p.rules.flatMap (fun r => shRule r ++ [10]))

/-! ### Unlike right programs have unlike texts -/
def stopA (r : List UInt8) : Prop := ∃ x, r = 44 :: x ∨ r = 41 :: x
theorem stopA_var {r : List UInt8} (h : stopA r) : stopP varC r := by
  obtain ⟨x, rfl | rfl⟩ := h <;> exact stop_of (by decide)
theorem rel_name {s : ByteArray} (h : relOK s = true) : nameOK s = true ∧ arityOf s < 0 ∧ s ≠ sMat := by
  simpa [relOK, and_assoc] using h
theorem name_span {a b : ByteArray} {r s : List UInt8} (ha : nameOK a = true) (hb : nameOK b = true) (hr : stopP innC r) (hs : stopP innC s) (h : a.data.toList ++ r = b.data.toList ++ s) : a = b ∧ r = s := by
  obtain ⟨x1, m1, q1, _, i1⟩ := name_list ha
  obtain ⟨x2, m2, q2, _, i2⟩ := name_list hb
  obtain ⟨h1, h2⟩ := span_eq innC _ _ _ _ (by rw [q1]; exact i1) (by rw [q2]; exact i2) hr hs h
  exact ⟨bytes_ext h1, h2⟩
theorem var_span {a b : ByteArray} {r s : List UInt8} (ha : varOK a = true) (hb : varOK b = true) (hr : stopP varC r) (hs : stopP varC s) (h : a.data.toList ++ r = b.data.toList ++ s) : a = b ∧ r = s := by
  obtain ⟨x1, m1, q1, _, i1⟩ := var_list ha
  obtain ⟨x2, m2, q2, _, i2⟩ := var_list hb
  obtain ⟨h1, h2⟩ := span_eq varC _ _ _ _ (by rw [q1]; exact i1) (by rw [q2]; exact i2) hr hs h
  exact ⟨bytes_ext h1, h2⟩
/-- A right term whose text begins with a small letter: an address or a call. -/
theorem t_letter {d : Nat} {t : GT} {c : UInt8} {l : List UInt8} (h : termR d t = true) (e : shT t = c :: l) (hc : letterB c.toNat = true) :
    (∃ n, nameOK n = true ∧ shT t = n.data.toList) ∨ (∃ n m, nameOK n = true ∧ 0 ≤ arityOf n ∧ shT t = n.data.toList ++ 40 :: m) := by
  obtain ⟨_, ⟨n, rfl, hn⟩ | ⟨v, rfl, hv, _⟩ | ⟨n, l, rfl, hn, _⟩ | ⟨n, l, rfl, _⟩⟩ := term_cases h
  · exfalso
    obtain ⟨c1, l1, e1, h1, _⟩ := var_list hn
    have p1 : shT (.mk 1 n nil0 []) = n.data.toList := by simp [shT]
    rw [p1, e1] at e
    simp only [List.cons.injEq] at e
    rw [e.1] at h1
    simp [upB, letterB] at h1 hc; omega
  · have p1 : shT (.mk 2 ⟨#[]⟩ v []) = pr v := by simp [shT]
    rw [p1] at e
    obtain ⟨t, rfl, ht⟩ := pr_letter hv e hc
    exact .inl ⟨t, ht, by rw [p1]; simp [pr]⟩
  · exact .inr ⟨n, _, fn_name (by omega), by omega, by simp [shT]; rfl⟩
  · exfalso
    have p1 : ∃ m, shT (.mk 4 n nil0 l) = 40 :: m := ⟨_, by simp [shT]; rfl⟩
    obtain ⟨m, p1⟩ := p1
    rw [p1] at e
    simp only [List.cons.injEq] at e
    rw [← e.1] at hc; revert hc; decide
def aggL (a : List UInt8) : Prop := a = [] ∨ a = sMin.data.toList ∨ a = sMax.data.toList ∨ a = sCount.data.toList
theorem agg_name {a : List UInt8} (h : aggL a) (h0 : a ≠ []) : ∃ n : ByteArray, nameOK n = true ∧ a = n.data.toList := by
  rcases h with h | h | h | h
  · exact absurd h h0
  · exact ⟨sMin, by decide +kernel, h⟩
  · exact ⟨sMax, by decide +kernel, h⟩
  · exact ⟨sCount, by decide +kernel, h⟩
/-- What stands at an aggregate's place is a variable. -/
def atVar (agg : List UInt8) (at' : Int) (i : Nat) (t : GT) : Prop := agg ≠ [] ∧ (i : Int) = at' → t.kind = 1
theorem at_plain {d : Nat} {x : List UInt8} {a : List UInt8} {t : GT} {r s : List UInt8} (ha : aggL a) (h0 : a ≠ []) (ht : termR d t = true) (hs : stopA s) (h : a ++ 60 :: r = shT t ++ s) : False := by
  obtain ⟨n, hn, rfl⟩ := agg_name ha h0
  obtain ⟨c, l, e, hc, _⟩ := name_list hn
  obtain ⟨c2, l2, e2, _⟩ := th_head ht
  have hcc : c = c2 := by rw [e, e2] at h; simp only [List.cons_append, List.cons.injEq] at h; exact h.1
  subst hcc
  rcases t_letter ht e2 hc with ⟨m, hm, e3⟩ | ⟨m, k, hm, _, e3⟩
  · rw [e3] at h
    obtain ⟨_, h2⟩ := name_span hn hm (stop_of (by decide)) (stop_inn (stopA_var hs)) h
    obtain ⟨x, rfl | rfl⟩ := hs <;> simp at h2
  · rw [e3, List.append_assoc] at h
    obtain ⟨_, h2⟩ := name_span hn hm (stop_of (by decide)) (stop_of (by decide)) h
    simp at h2
theorem kind1 {d : Nat} {t : GT} (h : termR d t = true) (hk : t.kind = 1) : ∃ n, t = .mk 1 n nil0 [] ∧ varOK n = true := by
  obtain ⟨_, ⟨n, rfl, hn⟩ | ⟨v, rfl, hv, _⟩ | ⟨n, l, rfl, hn, _⟩ | ⟨n, l, rfl, _⟩⟩ := term_cases h
  · exact ⟨n, rfl, hn⟩
  · simp [GT.kind] at hk
  · simp [GT.kind] at hk
  · simp [GT.kind] at hk
theorem el_split {d e : Nat} {a1 a2 : List UInt8} {p1 p2 : Int} {i : Nat} {t u : GT} {r s : List UInt8} (ha1 : aggL a1) (ha2 : aggL a2) (ht : termR d t = true) (hu : termR e u = true) (h1 : atVar a1 p1 i t) (h2 : atVar a2 p2 i u)
    (hr : stopA r) (hs : stopA s) (h : shAt a1 p1 i t ++ r = shAt a2 p2 i u ++ s) : t = u ∧ r = s ∧ ((a1 ≠ [] ∧ (i : Int) = p1) ↔ (a2 ≠ [] ∧ (i : Int) = p2)) ∧ (a1 ≠ [] ∧ (i : Int) = p1 → a1 = a2) := by
  unfold shAt at h
  split at h <;> split at h
  · rename_i c1 c2
    obtain ⟨n1, hn1, rfl⟩ := agg_name ha1 c1.1
    obtain ⟨n2, hn2, rfl⟩ := agg_name ha2 c2.1
    obtain ⟨m1, rfl, hm1⟩ := kind1 ht (h1 c1)
    obtain ⟨m2, rfl, hm2⟩ := kind1 hu (h2 c2)
    simp only [List.append_assoc, List.cons_append, List.nil_append] at h
    obtain ⟨rfl, h3⟩ := name_span hn1 hn2 (stop_of (by decide)) (stop_of (by decide)) h
    simp only [List.cons.injEq, true_and] at h3
    have h3 : m1.data.toList ++ 62 :: r = m2.data.toList ++ 62 :: s := h3
    obtain ⟨rfl, h4⟩ := var_span hm1 hm2 (stop_of (by decide)) (stop_of (by decide)) h3
    simp only [List.cons.injEq, true_and] at h4
    exact ⟨rfl, h4, ⟨fun _ => c2, fun _ => c1⟩, fun _ => rfl⟩
  · rename_i c1 c2
    exfalso
    simp only [List.append_assoc, List.cons_append, List.nil_append] at h
    exact at_plain (x := []) ha1 c1.1 hu hs h
  · rename_i c1 c2
    exfalso
    simp only [List.append_assoc, List.cons_append, List.nil_append] at h
    exact at_plain (x := []) ha2 c2.1 ht hr h.symm
  · rename_i c1 c2
    obtain ⟨h3, h4⟩ := t_split t u d e r s ht hu (stopA_var hr) (stopA_var hs) h
    exact ⟨h3, h4, ⟨fun x => absurd x c1, fun x => absurd x c2⟩, fun x => absurd x c1⟩
theorem stop_ac (a : List UInt8) (p : Int) (i : Nat) (l : List GT) (r : List UInt8) : stopA (shAtC a p i l ++ 41 :: r) := by
  cases l with
  | nil => exact ⟨r, .inr rfl⟩
  | cons x l => exact ⟨_, .inl (by simp [shAtC]; rfl)⟩
def agree (a1 a2 : List UInt8) (p1 p2 : Int) (i n : Nat) : Prop := ∀ j : Nat, i ≤ j → j < i + n → ((a1 ≠ [] ∧ (j : Int) = p1) ↔ (a2 ≠ [] ∧ (j : Int) = p2)) ∧ (a1 ≠ [] ∧ (j : Int) = p1 → a1 = a2)
def atVars (agg : List UInt8) (at' : Int) : Nat → List GT → Prop
  | _, [] => True
  | i, x :: l => atVar agg at' i x ∧ atVars agg at' (i + 1) l
theorem agree_cons {a1 a2 : List UInt8} {p1 p2 : Int} {i n : Nat} (h : ((a1 ≠ [] ∧ (i : Int) = p1) ↔ (a2 ≠ [] ∧ (i : Int) = p2)) ∧ (a1 ≠ [] ∧ (i : Int) = p1 → a1 = a2)) (hn : agree a1 a2 p1 p2 (i + 1) n) : agree a1 a2 p1 p2 i (n + 1) := fun j hj hk => by
  by_cases e : j = i
  · subst e; exact h
  · exact hn j (by omega) (by omega)
theorem ac_split {d e : Nat} {a1 a2 : List UInt8} {p1 p2 : Int} (ha1 : aggL a1) (ha2 : aggL a2) : ∀ (i : Nat) (a b : List GT) (r s : List UInt8), (∀ x ∈ a, termR d x = true) → (∀ x ∈ b, termR e x = true) → atVars a1 p1 i a → atVars a2 p2 i b →
    shAtC a1 p1 i a ++ 41 :: r = shAtC a2 p2 i b ++ 41 :: s → a = b ∧ r = s ∧ agree a1 a2 p1 p2 i a.length
  | i, [], [], r, s, _, _, _, _, h => ⟨rfl, by simpa [shAtC] using h, fun j h1 h2 => by simp at h2; omega⟩
  | i, [], y :: b, r, s, _, _, _, _, h => by simp [shAtC] at h
  | i, x :: a, [], r, s, _, _, _, _, h => by simp [shAtC] at h
  | i, x :: a, y :: b, r, s, ha, hb, v1, v2, h => by
    simp only [shAtC, List.cons_append, List.cons.injEq, true_and, List.append_assoc] at h
    obtain ⟨rfl, h1, h2⟩ := el_split ha1 ha2 (ha x (by simp)) (hb y (by simp)) v1.1 v2.1 (stop_ac ..) (stop_ac ..) h
    obtain ⟨rfl, h3, h4⟩ := ac_split ha1 ha2 (i + 1) a b r s (fun z hz => ha z (by simp [hz])) (fun z hz => hb z (by simp [hz])) v1.2 v2.2 h1
    exact ⟨rfl, h3, agree_cons h2 h4⟩
theorem sh_at_not41 {d : Nat} {a : List UInt8} {p : Int} {i : Nat} {t : GT} (ha : aggL a) (ht : termR d t = true) (r s : List UInt8) : ¬ (shAt a p i t ++ r = 41 :: s) := by
  intro h
  unfold shAt at h
  split at h
  · rename_i c
    obtain ⟨n, hn, rfl⟩ := agg_name ha c.1
    obtain ⟨c, l, e, hc, _⟩ := name_list hn
    rw [e] at h
    simp only [List.cons_append, List.cons.injEq] at h
    rw [h.1] at hc; revert hc; decide
  · exact th_not41 ht _ _ h
theorem as_split {d e : Nat} {a1 a2 : List UInt8} {p1 p2 : Int} (ha1 : aggL a1) (ha2 : aggL a2) (i : Nat) (a b : List GT) (r s : List UInt8) (ha : ∀ x ∈ a, termR d x = true) (hb : ∀ x ∈ b, termR e x = true) (v1 : atVars a1 p1 i a) (v2 : atVars a2 p2 i b)
    (h : shAtS a1 p1 i a ++ 41 :: r = shAtS a2 p2 i b ++ 41 :: s) : a = b ∧ r = s ∧ agree a1 a2 p1 p2 i a.length := by
  match a, b with
  | [], [] => exact ⟨rfl, by simpa [shAtS] using h, fun j h1 h2 => by simp at h2; omega⟩
  | [], y :: b =>
    exfalso
    simp only [shAtS, List.nil_append, List.append_assoc] at h
    exact sh_at_not41 ha2 (hb y (by simp)) _ _ h.symm
  | x :: a, [] =>
    exfalso
    simp only [shAtS, List.nil_append, List.append_assoc] at h
    exact sh_at_not41 ha1 (ha x (by simp)) _ _ h
  | x :: a, y :: b =>
    simp only [shAtS, List.append_assoc] at h
    obtain ⟨rfl, h1, h2⟩ := el_split ha1 ha2 (ha x (by simp)) (hb y (by simp)) v1.1 v2.1 (stop_ac ..) (stop_ac ..) h
    obtain ⟨rfl, h3, h4⟩ := ac_split ha1 ha2 (i + 1) a b r s (fun z hz => ha z (by simp [hz])) (fun z hz => hb z (by simp [hz])) v1.2 v2.2 h1
    exact ⟨rfl, h3, agree_cons h2 h4⟩
theorem atVars_nil (p : Int) : ∀ (i : Nat) (l : List GT), atVars [] p i l
  | _, [] => trivial
  | i, x :: l => ⟨fun h => absurd rfl h.1, atVars_nil p (i + 1) l⟩
end Go.Proofs.YtpkfkipbemdhmaaGreatDoor
end
section
set_option linter.unusedVariables false
set_option linter.unusedSimpArgs false
set_option linter.unnecessarySimpa false
namespace Go.Proofs.YtpkfkipbemdhmaaGreatDoor
open Go.Mach

theorem args_all {l : List GT} (h : argsB l = true) : ∀ x ∈ l, termR 8 x = true := by
  simp only [argsB, Bool.and_eq_true, List.all_eq_true] at h; exact h.1.2
theorem atom_split {a b : ByteArray} {l m : List GT} {a1 a2 : List UInt8} {p1 p2 : Int} {r s : List UInt8} (ha : nameOK a = true) (hb : nameOK b = true) (ha1 : aggL a1) (ha2 : aggL a2) (hl : ∀ x ∈ l, termR 8 x = true) (hm : ∀ x ∈ m, termR 8 x = true) (v1 : atVars a1 p1 0 l) (v2 : atVars a2 p2 0 m)
    (h : shAtom a.data.toList l a1 p1 ++ r = shAtom b.data.toList m a2 p2 ++ s) : a = b ∧ l = m ∧ r = s ∧ agree a1 a2 p1 p2 0 l.length := by
  simp only [shAtom, List.append_assoc, List.cons_append] at h
  obtain ⟨h1, h2⟩ := name_span ha hb (stop_of (by decide)) (stop_of (by decide)) h
  simp only [List.cons.injEq, true_and, List.append_assoc, List.nil_append] at h2
  obtain ⟨h3, h4, h5⟩ := as_split ha1 ha2 0 l m r s hl hm v1 v2 h2
  exact ⟨h1, h3, h4, h5⟩
theorem lit_cases {l : GL} (h : litB l = true) : ((l.kind = 1 ∨ l.kind = 2) ∧ relOK l.name = true ∧ argsB l.args = true) ∨ (l.kind = 3 ∧ tOK l.name = true ∧ ∃ x y, l.args = [x, y] ∧ termR 8 x = true ∧ termR 8 y = true) ∨ (l.kind = 4 ∧ varOK l.name = true ∧ ∃ x, l.args = [x] ∧ termR 8 x = true) := by
  unfold litB at h
  split at h
  · rename_i hk
    rw [Bool.and_eq_true] at h
    exact .inl ⟨hk, h.1, h.2⟩
  split at h
  · rename_i hk
    simp only [Bool.and_eq_true, decide_eq_true_eq, List.all_eq_true] at h
    match hl : l.args, h.1.2, h.2 with
    | [x, y], _, h2 => exact .inr (.inl ⟨hk, h.1.1, x, y, rfl, h2 x (by simp), h2 y (by simp)⟩)
  split at h
  · rename_i hk
    simp only [Bool.and_eq_true, decide_eq_true_eq, List.all_eq_true] at h
    match hl : l.args, h.1.2, h.2 with
    | [x], _, h2 => exact .inr (.inr ⟨hk, h.1.1, x, rfl, h2 x (by simp)⟩)
  · cases h
def stopL (r : List UInt8) : Prop := ∃ x, r = 44 :: x ∨ r = 46 :: x
theorem stopL_var {r : List UInt8} (h : stopL r) : stopP varC r := by
  obtain ⟨x, rfl | rfl⟩ := h <;> exact stop_of (by decide)
theorem op_list {n : ByteArray} (h : tOK n = true) : ∃ c l, n.data.toList = c :: l ∧ c ≠ 58 ∧ ∀ x ∈ c :: l, (x != 32) = true := by
  rcases of_decide_eq_true h with rfl | rfl | rfl | rfl | rfl | rfl
  all_goals exact ⟨_, _, rfl, by decide, by decide⟩
/-- How a literal's text begins. -/
theorem lit_head {l : GL} (h : litB l = true) : ∃ c m, shLit l = c :: m := by
  rcases lit_cases h with ⟨hk, h1, h2⟩ | ⟨hk, h1, x, y, e, hx, hy⟩ | ⟨hk, h1, x, e, hx⟩
  · obtain ⟨c, m, e, _⟩ := name_list (rel_name h1).1
    rcases hk with hk | hk
    · exact ⟨c, _, by simp [shLit, hk, shAtom, e]; rfl⟩
    · exact ⟨33, _, by simp [shLit, hk]; rfl⟩
  · obtain ⟨c, m, e2, _⟩ := th_head hx
    exact ⟨c, _, by simp [shLit, hk, e, shTs, e2]; rfl⟩
  · obtain ⟨c, m, e2, _⟩ := var_list h1
    exact ⟨c, _, by simp [shLit, hk, e2]; rfl⟩
theorem gl_ext {a b : GL} (h1 : a.kind = b.kind) (h2 : a.name = b.name) (h3 : a.args = b.args) : a = b := by
  cases a; cases b; simp_all
theorem sh1 {l : GL} (h : l.kind = 1) : shLit l = shAtom l.name.data.toList l.args [] 0 := by simp [shLit, h]
theorem sh2 {l : GL} (h : l.kind = 2) : shLit l = 33 :: shAtom l.name.data.toList l.args [] 0 := by simp [shLit, h]
theorem sh3 {l : GL} {x y : GT} (h : l.kind = 3) (e : l.args = [x, y]) : shLit l = shT x ++ 32 :: (l.name.data.toList ++ 32 :: shT y) := by simp [shLit, h, e, shTs, shTc]
theorem sh4 {l : GL} {x : GT} (h : l.kind = 4) (e : l.args = [x]) : shLit l = l.name.data.toList ++ 32 :: 58 :: 61 :: 32 :: shT x := by simp [shLit, h, e]
theorem up_inn {c : UInt8} (h : upB c.toNat = true) : innC c = false := by
  have h : 65 ≤ c.toNat ∧ c.toNat ≤ 90 := by simpa [upB] using h
  rw [Bool.eq_false_iff]; intro hh
  simp only [innC, innerB, letterB, Bool.or_eq_true, Bool.and_eq_true, decide_eq_true_eq] at hh; omega
/-- An atom's text is no test's. -/
theorem no13 {a b : GL} {x y : GT} {r s : List UInt8} (ha : relOK a.name = true) (hka : a.kind = 1) (hb : b.kind = 3) (e : b.args = [x, y]) (hx : termR 8 x = true) (h : shLit a ++ r = shLit b ++ s) : False := by
  rw [sh1 hka, sh3 hb e] at h
  obtain ⟨hn, har, _⟩ := rel_name ha
  obtain ⟨c, m, e1, hc, _⟩ := name_list hn
  obtain ⟨c2, m2, e2, _⟩ := th_head hx
  simp only [shAtom, List.append_assoc, List.cons_append] at h
  have hcc : c = c2 := by rw [e1, e2] at h; simp only [List.cons_append, List.cons.injEq] at h; exact h.1
  subst hcc
  rcases t_letter hx e2 hc with ⟨n, hn2, e3⟩ | ⟨n, k, hn2, har2, e3⟩
  · rw [e3] at h
    obtain ⟨_, h2⟩ := name_span hn hn2 (stop_of (by decide)) (stop_of (by decide)) h
    simp at h2
  · rw [e3, List.append_assoc] at h
    obtain ⟨h1, h2⟩ := name_span hn hn2 (stop_of (by decide)) (stop_of (by decide)) h
    rw [h1] at har; omega
theorem no14 {a b : GL} {x : GT} {r s : List UInt8} (ha : relOK a.name = true) (hka : a.kind = 1) (hb : b.kind = 4) (hbn : varOK b.name = true) (e : b.args = [x]) (h : shLit a ++ r = shLit b ++ s) : False := by
  rw [sh1 hka, sh4 hb e] at h
  obtain ⟨c, m, e1, hc, hall⟩ := name_list (rel_name ha).1
  obtain ⟨c2, m2, e2, hc2, _⟩ := var_list hbn
  simp only [shAtom, e1, e2, List.append_assoc, List.cons_append, List.cons.injEq] at h
  have h1 := hall c (by simp)
  rw [h.1, up_inn hc2] at h1; cases h1
theorem no2 {a b : GL} {r s : List UInt8} (hka : a.kind = 2) (hb : litB b = true) (hkb : b.kind ≠ 2) (h : shLit a ++ r = shLit b ++ s) : False := by
  rw [sh2 hka] at h
  have key : ∀ c m, shLit b = c :: m → c = 33 := fun c m e => by
    rw [e] at h; simp only [List.cons_append, List.cons.injEq] at h; exact h.1.symm
  rcases lit_cases hb with ⟨hk, h1, h2⟩ | ⟨hk, h1, x, y, e, hx, hy⟩ | ⟨hk, h1, x, e, hx⟩
  · obtain ⟨c, m, e, hc, _⟩ := name_list (rel_name h1).1
    rcases hk with hk | hk
    · have := key c _ (by rw [sh1 hk, shAtom, e]; rfl)
      subst this; revert hc; decide
    · exact hkb hk
  · obtain ⟨c, m, e2, k⟩ := th_head hx
    have := key c _ (by rw [sh3 hk e, e2]; rfl)
    subst this
    rcases k with ⟨_, k⟩ | ⟨_, k⟩ | ⟨_, k⟩ | ⟨_, k⟩
    · revert k; decide
    · rcases k with k | k | k | k <;> revert k <;> decide
    · revert k; decide
    · revert k; decide
  · obtain ⟨c, m, e2, hc, _⟩ := var_list h1
    have := key c _ (by rw [sh4 hk e, e2]; rfl)
    subst this; revert hc; decide
theorem no34 {a b : GL} {x y z : GT} {r s : List UInt8} (hka : a.kind = 3) (han : tOK a.name = true) (ea : a.args = [x, y]) (hx : termR 8 x = true) (hb : b.kind = 4) (hbn : varOK b.name = true) (e : b.args = [z]) (h : shLit a ++ r = shLit b ++ s) : False := by
  rw [sh3 hka ea, sh4 hb e] at h
  obtain ⟨c, m, e1, k⟩ := th_head hx
  obtain ⟨c2, m2, e2, hc2, _⟩ := var_list hbn
  have hcc : c = c2 := by rw [e1, e2] at h; simp only [List.cons_append, List.cons.injEq] at h; exact h.1
  subst hcc
  have hk := th_apart k (.inl ⟨rfl, hc2⟩ : ((1 : Int) = 1 ∧ upB c.toNat = true) ∨ ((1 : Int) = 2 ∧ (numB c = true ∨ c = 34 ∨ letterB c.toNat = true ∨ c = 91)) ∨ ((1 : Int) = 3 ∧ letterB c.toNat = true) ∨ ((1 : Int) = 4 ∧ c = 40))
  have hk : x.kind = 1 := by
    rcases hk with hk | ⟨⟨_, hk⟩ | ⟨_, hk⟩, _⟩
    · exact hk
    · exact absurd hk (by decide)
    · exact absurd hk (by decide)
  obtain ⟨n, rfl, hn⟩ := kind1 hx hk
  have p1 : shT (.mk 1 n nil0 []) = n.data.toList := by simp [shT]
  rw [p1] at h
  simp only [List.append_assoc, List.cons_append] at h
  obtain ⟨_, h2⟩ := var_span hn hbn (stop_of (by decide)) (stop_of (by decide)) h
  obtain ⟨o, ol, e3, hne, _⟩ := op_list han
  simp only [e3, List.cons_append, List.cons.injEq, true_and] at h2
  exact hne h2.1
theorem lit_split {a b : GL} {r s : List UInt8} (ha : litB a = true) (hb : litB b = true) (hr : stopP varC r) (hs : stopP varC s) (h : shLit a ++ r = shLit b ++ s) : a = b ∧ r = s := by
  by_cases k2 : a.kind = 2
  · by_cases k3 : b.kind = 2
    · rw [sh2 k2, sh2 k3] at h
      simp only [List.cons_append, List.cons.injEq, true_and] at h
      rcases lit_cases ha with ⟨_, h1, h2⟩ | ⟨hk, _⟩ | ⟨hk, _⟩
      · rcases lit_cases hb with ⟨_, h3, h4⟩ | ⟨hk, _⟩ | ⟨hk, _⟩
        · obtain ⟨e1, e2, e3, _⟩ := atom_split (rel_name h1).1 (rel_name h3).1 (.inl rfl) (.inl rfl) (args_all h2) (args_all h4) (atVars_nil ..) (atVars_nil ..) h
          exact ⟨gl_ext (by rw [k2, k3]) e1 e2, e3⟩
        · omega
        · omega
      · omega
      · omega
    · exact (no2 k2 hb k3 h).elim
  by_cases k3 : b.kind = 2
  · exact (no2 k3 ha k2 h.symm).elim
  rcases lit_cases ha with ⟨hk, h1, h2⟩ | ⟨hk, h1, x, y, e, hx, hy⟩ | ⟨hk, h1, x, e, hx⟩ <;> rcases lit_cases hb with ⟨hk', h1', h2'⟩ | ⟨hk', h1', x', y', e', hx', hy'⟩ | ⟨hk', h1', x', e', hx'⟩
  · have hk : a.kind = 1 := by omega
    have hk' : b.kind = 1 := by omega
    rw [sh1 hk, sh1 hk'] at h
    obtain ⟨e1, e2, e3, _⟩ := atom_split (rel_name h1).1 (rel_name h1').1 (.inl rfl) (.inl rfl) (args_all h2) (args_all h2') (atVars_nil ..) (atVars_nil ..) h
    exact ⟨gl_ext (by rw [hk, hk']) e1 e2, e3⟩
  · exact (no13 h1 (by omega) hk' e' hx' h).elim
  · exact (no14 h1 (by omega) hk' h1' e' h).elim
  · exact (no13 h1' (by omega) hk e hx h.symm).elim
  · rw [sh3 hk e, sh3 hk' e'] at h
    simp only [List.append_assoc, List.cons_append] at h
    obtain ⟨f1, f2⟩ := t_split x x' 8 8 _ _ hx hx' (stop_of (by decide)) (stop_of (by decide)) h
    simp only [List.cons.injEq, true_and] at f2
    obtain ⟨o, ol, e3, _, ho⟩ := op_list h1
    obtain ⟨o', ol', e4, _, ho'⟩ := op_list h1'
    obtain ⟨f3, f4⟩ := span_eq (fun c => c != 32) _ _ _ _ (by rw [e3]; exact ho) (by rw [e4]; exact ho') (stop_of (by decide)) (stop_of (by decide)) f2
    simp only [List.cons.injEq, true_and] at f4
    obtain ⟨f5, f6⟩ := t_split y y' 8 8 _ _ hy hy' hr hs f4
    exact ⟨gl_ext (by rw [hk, hk']) (bytes_ext f3) (by rw [e, e', f1, f5]), f6⟩
  · exact (no34 hk h1 e hx hk' h1' e' h).elim
  · exact (no14 h1' (by omega) hk h1 e h.symm).elim
  · exact (no34 hk' h1' e' hx' hk h1 e h.symm).elim
  · rw [sh4 hk e, sh4 hk' e'] at h
    simp only [List.append_assoc, List.cons_append] at h
    obtain ⟨f1, f2⟩ := var_span h1 h1' (stop_of (by decide)) (stop_of (by decide)) h
    simp only [List.cons.injEq, true_and] at f2
    obtain ⟨f5, f6⟩ := t_split x x' 8 8 _ _ hx hx' hr hs f2
    exact ⟨gl_ext (by rw [hk, hk']) f1 (by rw [e, e', f5]), f6⟩
theorem stop_lc (l : List GL) (r : List UInt8) : stopP varC (shLitC l ++ 46 :: r) := by
  cases l with
  | nil => exact stop_of (by decide)
  | cons x l => exact stop_of (by decide)
theorem lc_split : ∀ (a b : List GL) (r s : List UInt8), (∀ x ∈ a, litB x = true) → (∀ x ∈ b, litB x = true) → shLitC a ++ 46 :: r = shLitC b ++ 46 :: s → a = b ∧ r = s
  | [], [], r, s, _, _, h => ⟨rfl, by simpa [shLitC] using h⟩
  | [], y :: b, r, s, _, _, h => by simp [shLitC] at h
  | x :: a, [], r, s, _, _, h => by simp [shLitC] at h
  | x :: a, y :: b, r, s, ha, hb, h => by
    simp only [shLitC, List.cons_append, List.cons.injEq, true_and, List.append_assoc] at h
    obtain ⟨rfl, h1⟩ := lit_split (ha x (by simp)) (hb y (by simp)) (stop_lc _ _) (stop_lc _ _) h
    obtain ⟨rfl, h2⟩ := lc_split a b r s (fun z hz => ha z (by simp [hz])) (fun z hz => hb z (by simp [hz])) h1
    exact ⟨rfl, h2⟩
theorem ls_split {a b : List GL} {r s : List UInt8} (ha : ∀ x ∈ a, litB x = true) (hb : ∀ x ∈ b, litB x = true) (la : 1 ≤ a.length) (lb : 1 ≤ b.length) (h : shLitS a ++ 46 :: r = shLitS b ++ 46 :: s) : a = b ∧ r = s := by
  match a, b, la, lb with
  | x :: a, y :: b, _, _ =>
    simp only [shLitS, List.append_assoc] at h
    obtain ⟨rfl, h1⟩ := lit_split (ha x (by simp)) (hb y (by simp)) (stop_lc _ _) (stop_lc _ _) h
    obtain ⟨rfl, h2⟩ := lc_split a b r s (fun z hz => ha z (by simp [hz])) (fun z hz => hb z (by simp [hz])) h1
    exact ⟨rfl, h2⟩
theorem atVars_of {agg : List UInt8} {p : Int} : ∀ (i : Nat) (l : List GT), (∀ j : Nat, (hj : j < l.length) → agg ≠ [] → ((i + j : Nat) : Int) = p → (l[j]).kind = 1) → atVars agg p i l
  | _, [], _ => trivial
  | i, x :: l, h => ⟨fun hc => h 0 (by simp) hc.1 (by simpa using hc.2), atVars_of (i + 1) l fun j hj h1 h2 => by
      have := h (j + 1) (by simpa using hj) h1 (by rw [← h2]; congr 1; omega)
      simpa using this⟩
theorem ba_list_nil {t : ByteArray} : t.data.toList = [] ↔ t = ⟨#[]⟩ := ⟨fun h => bytes_ext (by rw [h]), fun h => by rw [h]⟩
theorem agg_L {r : GR} (h : aggB r = true) : aggL r.agg.data.toList ∧ atVars r.agg.data.toList r.pos 0 r.args ∧ (r.agg = ⟨#[]⟩ → r.pos = 0) ∧ (r.agg ≠ ⟨#[]⟩ → 1 ≤ r.pos ∧ r.pos < r.args.length) := by
  unfold aggB at h
  split at h
  · rename_i e
    exact ⟨.inl (by rw [e]), by rw [e]; exact atVars_nil .., fun _ => of_decide_eq_true h, fun h => absurd e h⟩
  · rename_i e
    simp only [Bool.and_eq_true, decide_eq_true_eq] at h
    refine ⟨?_, ?_, fun h => absurd h e, fun _ => h.1.2⟩
    · rcases h.1.1 with e | e | e
      · exact .inr (.inl (by rw [e]))
      · exact .inr (.inr (.inl (by rw [e])))
      · exact .inr (.inr (.inr (by rw [e])))
    · refine atVars_of 0 _ fun j hj _ hp => ?_
      have h2 := h.2
      have : r.pos.toNat = j := by omega
      rw [this, List.getElem?_eq_getElem hj] at h2
      simpa using h2
theorem gr_ext {a b : GR} (h1 : a.label = b.label) (h2 : a.head = b.head) (h3 : a.args = b.args) (h4 : a.agg = b.agg) (h5 : a.pos = b.pos) (h6 : a.body = b.body) : a = b := by
  cases a; cases b; simp_all
theorem rule_split {a b : GR} {r s : List UInt8} (ha : ruleB a = true) (hb : ruleB b = true) (h : shRule a ++ r = shRule b ++ s) : a = b ∧ r = s := by
  simp only [ruleB, Bool.and_eq_true, decide_eq_true_eq, List.all_eq_true] at ha hb
  obtain ⟨⟨⟨⟨⟨a1, a2⟩, a3⟩, a4⟩, a5⟩, a6⟩ := ha
  obtain ⟨⟨⟨⟨⟨b1, b2⟩, b3⟩, b4⟩, b5⟩, b6⟩ := hb
  simp only [shRule, List.append_assoc, List.cons_append] at h
  obtain ⟨e1, h⟩ := name_span (rel_name a1).1 (rel_name b1).1 (stop_of (by decide)) (stop_of (by decide)) h
  simp only [List.cons.injEq, true_and] at h
  obtain ⟨g1, g2, g3, g4⟩ := agg_L a6
  obtain ⟨k1, k2, k3, k4⟩ := agg_L b6
  obtain ⟨e2, e3, h, hag⟩ := atom_split (rel_name a2).1 (rel_name b2).1 g1 k1 (args_all a3) (args_all b3) g2 k2 h
  simp only [List.cons.injEq, true_and, List.append_assoc, List.cons_append, List.nil_append] at h
  obtain ⟨e4, h⟩ := ls_split a5 b5 a4.1 b4.1 h
  have key : a.agg = b.agg ∧ a.pos = b.pos := by
    by_cases c1 : a.agg = ⟨#[]⟩
    · by_cases c2 : b.agg = ⟨#[]⟩
      · exact ⟨by rw [c1, c2], by rw [g3 c1, k3 c2]⟩
      · exfalso
        obtain ⟨q1, q2⟩ := k4 c2
        have hh := hag b.pos.toNat (Nat.zero_le _) (by rw [e3]; omega)
        exact (hh.1.2 ⟨fun e => c2 (ba_list_nil.1 e), by omega⟩).1 (by rw [c1])
    · obtain ⟨q1, q2⟩ := g4 c1
      have hh := hag a.pos.toNat (Nat.zero_le _) (by omega)
      have hc : a.agg.data.toList ≠ [] ∧ ((a.pos.toNat : Nat) : Int) = a.pos := ⟨fun e => c1 (ba_list_nil.1 e), by omega⟩
      have h2 := hh.1.1 hc
      exact ⟨bytes_ext (hh.2 hc), by omega⟩
  exact ⟨gr_ext e1 e2 e3 key.1 key.2 e4, h⟩
theorem pc_split : ∀ (a b : List GV) (r s : List UInt8), (∀ x ∈ a, rightT x = true) → (∀ x ∈ b, rightT x = true) → prc a ++ 41 :: r = prc b ++ 41 :: s → a = b ∧ r = s
  | [], [], r, s, _, _, h => ⟨rfl, by simpa [prc] using h⟩
  | [], y :: b, r, s, _, _, h => by simp [prc] at h
  | x :: a, [], r, s, _, _, h => by simp [prc] at h
  | x :: a, y :: b, r, s, ha, hb, h => by
    simp only [prc, List.cons_append, List.cons.injEq, true_and, List.append_assoc] at h
    have st : ∀ (l : List GV) (r : List UInt8), stopP innC (prc l ++ 41 :: r) := fun l r => by
      cases l with
      | nil => exact stop_of (by decide)
      | cons x l => exact stop_of (by decide)
    obtain ⟨rfl, h1⟩ := v_split (ha x (by simp)) (hb y (by simp)) (st _ _) (st _ _) h
    obtain ⟨rfl, h2⟩ := pc_split a b r s (fun z hz => ha z (by simp [hz])) (fun z hz => hb z (by simp [hz])) h1
    exact ⟨rfl, h2⟩
theorem gu_ext {a b : GU} (h1 : a.name = b.name) (h2 : a.args = b.args) : a = b := by cases a; cases b; simp_all
theorem gd_ext {a b : GD} (h1 : a.name = b.name) (h2 : a.arity = b.arity) : a = b := by cases a; cases b; simp_all
theorem tup_split {a b : GU} {r s : List UInt8} (ha : tupB a = true) (hb : tupB b = true) (h : shTup a ++ r = shTup b ++ s) : a = b ∧ r = s := by
  simp only [tupB, Bool.and_eq_true, decide_eq_true_eq, List.all_eq_true] at ha hb
  obtain ⟨⟨⟨a1, a2⟩, a3⟩, a4⟩ := ha
  obtain ⟨⟨⟨b1, b2⟩, b3⟩, b4⟩ := hb
  simp only [shTup, List.append_assoc, List.cons_append] at h
  obtain ⟨e1, h⟩ := name_span (rel_name a1).1 (rel_name b1).1 (stop_of (by decide)) (stop_of (by decide)) h
  simp only [List.cons.injEq, true_and, List.append_assoc, List.cons_append, List.nil_append] at h
  have st : ∀ (l : List GV) (r : List UInt8), stopP innC (prc l ++ 41 :: r) := fun l r => by
    cases l with
    | nil => exact stop_of (by decide)
    | cons x l => exact stop_of (by decide)
  match hx : a.args, hy : b.args, a2.1, b2.1 with
  | x :: l, y :: m, _, _ =>
    rw [hx] at a4; rw [hy] at b4
    rw [hx, hy] at h
    simp only [prs, List.append_assoc] at h
    obtain ⟨e2, h2⟩ := v_split (a4 x (by simp)) (b4 y (by simp)) (st _ _) (st _ _) h
    obtain ⟨e3, h3⟩ := pc_split l m _ _ (fun z hz => a4 z (by simp [hz])) (fun z hz => b4 z (by simp [hz])) h2
    simp only [List.cons.injEq, true_and] at h3
    exact ⟨gu_ext e1 (by rw [hx, hy, e2, e3]), h3⟩
theorem decl_split {a b : GD} {r s : List UInt8} (ha : declB a = true) (hb : declB b = true) (h : shDecl a ++ r = shDecl b ++ s) : a = b ∧ r = s := by
  simp only [declB, Bool.and_eq_true, decide_eq_true_eq] at ha hb
  simp only [shDecl, List.append_assoc, List.cons_append] at h
  have h := List.append_cancel_left h
  simp only [List.cons.injEq, true_and] at h
  obtain ⟨e1, h⟩ := name_span (rel_name ha.1).1 (rel_name hb.1).1 (stop_of (by decide)) (stop_of (by decide)) h
  simp only [List.cons.injEq, true_and] at h
  obtain ⟨e2, h⟩ := itoa_split (stop_of (by decide)) (stop_of (by decide)) h
  simp only [List.cons.injEq, true_and] at h
  exact ⟨gd_ext e1 e2, by simpa using h⟩
/-! #### Lines -/
inductive Ln where
  | d (x : GD) | u (x : GU) | r (x : GR)
def Ln.ok : Ln → Bool
  | .d x => declB x | .u x => tupB x | .r x => ruleB x
def Ln.sh : Ln → List UInt8
  | .d x => shDecl x | .u x => shTup x ++ [10] | .r x => shRule x ++ [10]
theorem mat_name : nameOK sMat = true := by decide +kernel
theorem ln_apart {a b : ByteArray} {c c' : UInt8} {r s : List UInt8} (ha : nameOK a = true) (hb : nameOK b = true) (hc : innC c = false) (hc' : innC c' = false) (hn : a ≠ b ∨ c ≠ c') (h : a.data.toList ++ c :: r = b.data.toList ++ c' :: s) : False := by
  obtain ⟨h1, h2⟩ := name_span ha hb (stop_of hc) (stop_of hc') h
  simp only [List.cons.injEq] at h2
  rcases hn with hn | hn
  · exact hn h1
  · exact hn h2.1
theorem ln_split : ∀ {a b : Ln} {r s : List UInt8}, a.ok = true → b.ok = true → a.sh ++ r = b.sh ++ s → a = b ∧ r = s := by
  have du : ∀ {x : GD} {y : GU} {r s : List UInt8}, tupB y = true → ¬ (shDecl x ++ r = (shTup y ++ [10]) ++ s) := fun {x y r s} hy h => by
    simp only [tupB, Bool.and_eq_true] at hy
    obtain ⟨h1, _, h3⟩ := rel_name hy.1.1.1
    simp only [shDecl, shTup, List.append_assoc, List.cons_append] at h
    exact ln_apart mat_name h1 (by decide) (by decide) (.inl (Ne.symm h3)) h
  have dr : ∀ {x : GD} {y : GR} {r s : List UInt8}, ruleB y = true → ¬ (shDecl x ++ r = (shRule y ++ [10]) ++ s) := fun {x y r s} hy h => by
    simp only [ruleB, Bool.and_eq_true] at hy
    obtain ⟨h1, _, h3⟩ := rel_name hy.1.1.1.1.1
    simp only [shDecl, shRule, List.append_assoc, List.cons_append] at h
    exact ln_apart mat_name h1 (by decide) (by decide) (.inr (by decide)) h
  have ur : ∀ {x : GU} {y : GR} {r s : List UInt8}, tupB x = true → ruleB y = true → ¬ ((shTup x ++ [10]) ++ r = (shRule y ++ [10]) ++ s) := fun {x y r s} hx hy h => by
    simp only [ruleB, Bool.and_eq_true] at hy
    simp only [tupB, Bool.and_eq_true] at hx
    simp only [shTup, shRule, List.append_assoc, List.cons_append] at h
    exact ln_apart (rel_name hx.1.1.1).1 (rel_name hy.1.1.1.1.1).1 (by decide) (by decide) (.inr (by decide)) h
  intro a b r s ha hb h
  cases a <;> cases b
  · obtain ⟨e, h2⟩ := decl_split ha hb h; exact ⟨by rw [e], h2⟩
  · exact (du hb h).elim
  · exact (dr hb h).elim
  · exact (du ha h.symm).elim
  · simp only [Ln.sh, List.append_assoc] at h
    obtain ⟨e, h2⟩ := tup_split ha hb h; exact ⟨by rw [e], by simpa using h2⟩
  · exact (ur ha hb h).elim
  · exact (dr ha h.symm).elim
  · exact (ur hb ha h.symm).elim
  · simp only [Ln.sh, List.append_assoc] at h
    obtain ⟨e, h2⟩ := rule_split ha hb h; exact ⟨by rw [e], by simpa using h2⟩
theorem ln_ne {a : Ln} (ha : a.ok = true) : a.sh ≠ [] := by
  cases a <;> simp [Ln.sh, shDecl]
theorem lns_split : ∀ {a b : List Ln}, (∀ x ∈ a, x.ok = true) → (∀ x ∈ b, x.ok = true) → a.flatMap Ln.sh = b.flatMap Ln.sh → a = b
  | [], [], _, _, _ => rfl
  | [], y :: b, _, hb, h => by
    exfalso; simp only [List.flatMap_nil, List.flatMap_cons] at h
    exact ln_ne (hb y (by simp)) (List.append_eq_nil_iff.1 h.symm).1
  | x :: a, [], ha, _, h => by
    exfalso; simp only [List.flatMap_nil, List.flatMap_cons] at h
    exact ln_ne (ha x (by simp)) (List.append_eq_nil_iff.1 h).1
  | x :: a, y :: b, ha, hb, h => by
    simp only [List.flatMap_cons] at h
    obtain ⟨e, h2⟩ := ln_split (ha x (by simp)) (hb y (by simp)) h
    rw [e, lns_split (fun z hz => ha z (by simp [hz])) (fun z hz => hb z (by simp [hz])) h2]
def lnsOf (p : GP) : List Ln := p.decls.map .d ++ (p.facts.map .u ++ p.rules.map .r)
theorem sh_lns (p : GP) : shProg p = (lnsOf p).flatMap Ln.sh := by
  simp only [shProg, lnsOf, List.flatMap_append, List.flatMap_map]; rfl
theorem gp_ext {a b : GP} (h1 : a.decls = b.decls) (h2 : a.facts = b.facts) (h3 : a.rules = b.rules) : a = b := by cases a; cases b; simp_all
def Ln.D : Ln → Option GD | .d x => some x | _ => none
def Ln.U : Ln → Option GU | .u x => some x | _ => none
def Ln.R : Ln → Option GR | .r x => some x | _ => none
theorem fm_some {α β γ : Type} (f : β → Option γ) (g : α → β) (k : α → γ) (h : ∀ x, f (g x) = some (k x)) (l : List α) : (l.map g).filterMap f = l.map k := by
  induction l with
  | nil => rfl
  | cons x l ih => simp [List.filterMap_cons, h, ih]
theorem fm_none {α β γ : Type} (f : β → Option γ) (g : α → β) (h : ∀ x, f (g x) = none) (l : List α) : (l.map g).filterMap f = [] := by
  induction l with
  | nil => rfl
  | cons x l ih => simp [List.filterMap_cons, h]
theorem lns_inj {a b : GP} (h : lnsOf a = lnsOf b) : a = b := by
  have key : ∀ p : GP, (lnsOf p).filterMap Ln.D = p.decls ∧ (lnsOf p).filterMap Ln.U = p.facts ∧ (lnsOf p).filterMap Ln.R = p.rules := fun p => by
    simp only [lnsOf, List.filterMap_append]
    refine ⟨?_, ?_, ?_⟩
    · rw [fm_some Ln.D Ln.d id (fun _ => rfl), fm_none Ln.D Ln.u (fun _ => rfl), fm_none Ln.D Ln.r (fun _ => rfl)]; simp
    · rw [fm_none Ln.U Ln.d (fun _ => rfl), fm_some Ln.U Ln.u id (fun _ => rfl), fm_none Ln.U Ln.r (fun _ => rfl)]; simp
    · rw [fm_none Ln.R Ln.d (fun _ => rfl), fm_none Ln.R Ln.u (fun _ => rfl), fm_some Ln.R Ln.r id (fun _ => rfl)]; simp
  obtain ⟨a1, a2, a3⟩ := key a
  obtain ⟨b1, b2, b3⟩ := key b
  exact gp_ext (by rw [← a1, ← b1, h]) (by rw [← a2, ← b2, h]) (by rw [← a3, ← b3, h])
theorem prog_lns {p : GP} (h : progB p = true) : ∀ x ∈ lnsOf p, x.ok = true := by
  simp only [progB, Bool.and_eq_true, List.all_eq_true] at h
  intro x hx
  simp only [lnsOf, List.mem_append, List.mem_map] at hx
  rcases hx with ⟨y, hy, rfl⟩ | ⟨y, hy, rfl⟩ | ⟨y, hy, rfl⟩
  · exact h.2 y hy
  · exact h.1.1.2 y hy
  · exact h.1.2 y hy
theorem prog_inj {a b : GP} (ha : progB a = true) (hb : progB b = true) : shProg a = shProg b ↔ a = b :=
  ⟨fun h => lns_inj (lns_split (prog_lns ha) (prog_lns hb) (by rw [← sh_lns, ← sh_lns, h])), fun h => by rw [h]⟩
theorem term_inj {d e : Nat} {a b : GT} (ha : termR d a = true) (hb : termR e b = true) : shT a = shT b ↔ a = b :=
  ⟨fun h => (t_split a b d e [] [] ha hb (fun c hc => by cases hc) (fun c hc => by cases hc) (by rw [h])).1, fun h => by rw [h]⟩
theorem lit_inj {a b : GL} (ha : litB a = true) (hb : litB b = true) : shLit a = shLit b ↔ a = b :=
  ⟨fun h => (lit_split (r := []) (s := []) ha hb (fun c hc => by cases hc) (fun c hc => by cases hc) (by rw [h])).1, fun h => by rw [h]⟩
end Go.Proofs.YtpkfkipbemdhmaaGreatDoor
end
section
set_option linter.unusedVariables false
set_option linter.unusedSimpArgs false
set_option linter.unnecessarySimpa false
namespace Go.Proofs.YtpkfkipbemdhmaaGreatDoor
open Go.Mach

/-! ### printer.Right -/
def varG (s : ByteArray) (i : Nat) : Bool := upB (bt s i) || (decide (i ≠ 0) && innerB (bt s i))
theorem varG_iff (s : ByteArray) (i : Nat) : varG s i = true ↔ (65 ≤ bt s i ∧ bt s i ≤ 90) ∨ (i ≠ 0 ∧ ((97 ≤ bt s i ∧ bt s i ≤ 122) ∨ bt s i = 95 ∨ (48 ≤ bt s i ∧ bt s i ≤ 57))) := by
  simp only [varG, upB, innerB, letterB, Bool.or_eq_true, Bool.and_eq_true, decide_eq_true_eq]; omega
theorem varOK_iff (t : ByteArray) : varOK t = true ↔ (∀ i, i < t.size → varG t i = true) ∧ t.size ≠ 0 ∧ t.size ≤ 16 := by
  have hs : t.data.toList.length = t.size := by simp
  simp only [varOK, Bool.and_eq_true, decide_eq_true_eq]
  match hl : t.data.toList with
  | [] =>
    rw [hl] at hs; simp at hs
    simp only [varL, Bool.false_eq_true, false_and, false_iff]; omega
  | c :: l =>
    rw [hl] at hs; simp at hs
    have hb : ∀ i, bt t i = (((c :: l)[i]?).getD 0).toNat := fun i => by simp only [bt, hl]
    simp only [varL, Bool.and_eq_true, List.all_eq_true]
    constructor
    · rintro ⟨⟨h1, h2⟩, h3⟩
      refine ⟨fun i hi => ?_, by omega, h3⟩
      unfold varG
      cases i with
      | zero => simp [hb, h1]
      | succ i =>
        have hi' : i < l.length := by omega
        have := h2 l[i] (List.getElem_mem hi')
        simpa [hb, List.getElem?_eq_getElem hi'] using this
    · rintro ⟨h1, h2, h3⟩
      refine ⟨⟨?_, fun x hx => ?_⟩, h3⟩
      · have := h1 0 (by omega)
        simpa [varG, hb] using this
      · obtain ⟨i, hi, rfl⟩ := List.getElem_of_mem hx
        have := h1 (i + 1) (by omega)
        simpa [varG, hb, List.getElem?_eq_getElem hi] using this
theorem varOK_no {t : ByteArray} {i : Nat} (h : i < t.size) (hp : ¬ ((65 ≤ bt t i ∧ bt t i ≤ 90) ∨ (i ≠ 0 ∧ ((97 ≤ bt t i ∧ bt t i ≤ 122) ∨ bt t i = 95 ∨ (48 ≤ bt t i ∧ bt t i ≤ 57))))) : varOK t = false := by
  rw [← varG_iff] at hp
  rw [Bool.eq_false_iff, Ne, varOK_iff]; intro hh; exact hp (hh.1 i h)
theorem var_ok (t : ByteArray) (ht : t.size ≤ 100000000000) : pureT T c99 [.str t] = some (.bool (varOK t)) := by
  apply pure_enter (by simp [c99])
  simp [c99]
  refine W_for T 0 52 t.size (fun i f σ => f 0 = .str t ∧ f 7 = .ptr 0 0 ∧ σ = [.iter t i] ∧ ∀ j, j < i → varG t j = true) ?_ _ _ ?_
  · rintro i f σ hi ⟨h0, h6, rfl, hall⟩
    by_cases hlt : i < t.size
    · have hno := @varOK_no t i hlt
      have hyes : _ → ∀ j, j < i + 1 → varG t j = true := fun h j hj => by
        by_cases e : j = i
        · subst e; exact (varG_iff t j).2 h
        · exact hall j (by omega)
      by_cases hlo : bt t i < 128
      · simp [h0, h6, hlt, dec_lo hlt hlo]
        repeat' (first | apply And.intro | intro _)
        all_goals first | exact hno (by omega) | exact hyes (by omega) _ (by assumption)
      · have := dec_hi hlt (by omega)
        simp [h0, h6, hlt]
        repeat' (first | apply And.intro | intro _)
        all_goals first | exact hno (by omega) | omega
    · have he : i = t.size := by omega
      subst he
      have hb : (varOK t = true) ↔ t.size ≠ 0 ∧ t.size ≤ 16 := by rw [varOK_iff]; exact ⟨fun h => h.2, fun h => ⟨fun i hi => hall i hi, h⟩⟩
      simp [h0, h6, ba_empty, ba_nil, -ByteArray.size_eq_zero_iff]
      refine ⟨fun h => ⟨fun h2 => hb.2 ⟨h, by omega⟩, fun h2 => ?_⟩, fun h => ?_⟩
      all_goals (refine Bool.eq_false_iff.2 fun hh => ?_; have := hb.1 hh; omega)
  · simp
theorem callVar (t : ByteArray) (ht : t.size ≤ 100000000000) (bs : Nat) (σ : Heap) : callT T 99 [.str t] bs σ = some (.bool (sym (varOK t)), σ) := call_clean rfl rfl rfl rfl (var_ok t ht)
theorem rel_ok (t : ByteArray) (ht : t.size ≤ 100000000000) : pureT T c39 [.str t] = some (.bool (relOK t)) := by
  have h1 := name_call t ht
  have h2 := bArity t
  apply pure_enter (by simp [c39])
  unfold relOK sMat
  generalize nameOK t = b at *
  cases b
  · simp [c39, h1, h2]
  · by_cases h3 : arityOf t < 0
    · by_cases h4 : t = ⟨#[109, 97, 116, 101, 114, 105, 97, 108, 105, 122, 101]⟩
      · simp [c39, h1, h2, h3, ← h4]
      · simp [c39, h1, h2, h3, h4]
    · simp [c39, h1, h2, h3]
theorem callRel (t : ByteArray) (ht : t.size ≤ 100000000000) (bs : Nat) (σ : Heap) : callT T 39 [.str t] bs σ = some (.bool (sym (relOK t)), σ) := call_clean rfl rfl rfl rfl (rel_ok t ht)
theorem tr_len {t : GT} {d : Nat} (h : t.size ≤ d) : t.args.length ≤ d := by have := GT.args_le t; have := GT.len_sizes t.args; omega
theorem pterm_ok : ∀ (d : Nat) (t : GT), d ≤ 100 → t.size ≤ 100000000000 → pureT T c94 [t.enc, .int .i64 (d : Int)] = some (.bool (termR d t)) := by
  intro d
  induction d with
  | zero =>
    intro t hd hs
    obtain ⟨k, n, ⟨vk, vn, vt, vl⟩, l⟩ := t
    simp only [GT.size, GV.size] at hs
    have hvar := callVar n (by omega)
    have hval := valRight (.mk vk vn vt vl) (by simp only [GV.size]; omega)
    have har1 := bArity vt
    have har2 := bArity n
    apply pure_enter (by simp [c94])
    by_cases h1 : k = 1
    · subst h1
      simp [c94, GT.enc_eq, GT.kind, GT.name, GT.value, GT.args, GV.kind, GV.num, GV.text, GV.items, hvar, hval, har1, har2, enc_mk, setRun, termR, termB, bareV, opOK]
      repeat' (first | apply And.intro | intro _)
      all_goals first | (simp_all; done) | grind
    by_cases h2 : k = 2
    · subst h2
      simp [c94, GT.enc_eq, GT.kind, GT.name, GT.value, GT.args, GV.kind, GV.num, GV.text, GV.items, hvar, hval, har1, har2, enc_mk, setRun, termR, termB, bareV, opOK]
      repeat' (first | apply And.intro | intro _)
      all_goals first | (simp_all; done) | grind
    by_cases h3 : k = 3
    · subst h3
      simp [c94, GT.enc_eq, GT.kind, GT.name, GT.value, GT.args, GV.kind, GV.num, GV.text, GV.items, hvar, hval, har1, har2, enc_mk, setRun, termR, termB, bareV, opOK]
      repeat' (first | apply And.intro | intro _)
      all_goals first | (simp_all; done) | grind
    by_cases h4 : k = 4
    · subst h4
      simp [c94, GT.enc_eq, GT.kind, GT.name, GT.value, GT.args, GV.kind, GV.num, GV.text, GV.items, hvar, hval, har1, har2, enc_mk, setRun, termR, termB, bareV, opOK]
      repeat' (first | apply And.intro | intro _)
      all_goals first | (simp_all; done) | grind
    simp [c94, GT.enc_eq, GT.kind, GT.name, GT.value, GT.args, GV.kind, GV.num, GV.text, GV.items, hvar, hval, har1, har2, enc_mk, setRun, termR, termB, bareV, opOK, h1, h2, h3, h4]
  | succ d ih =>
    intro t hd hs
    obtain ⟨k, n, ⟨vk, vn, vt, vl⟩, l⟩ := t
    simp only [GT.size, GV.size] at hs
    have hlen := GT.len_sizes l
    have hw : IntKind.i64.wrap (d : Int) = (d : Int) := wr64 (by omega) (by omega)
    have hall : ∀ bs A C, callT T 98 [.isl (GT.encs l) false, .func 123 [.ptr 1 0]] bs [A, .cells [.int .i64 ((d : Int) + 1)] 0 false, C] = some (.bool (sym (l.all (termR d))), [A, .cells [.int .i64 ((d : Int) + 1)] 0 false, C]) := fun bs A C =>
      allTerm (termR d) l 123 [.ptr 1 0] (by omega) _ (fun x hx τ bs => by
        have hr : ∀ bs σ, callT T 94 [x.enc, .int .i64 d] bs σ = some (.bool (termR d x), σ) := fun bs σ => call_clean rfl rfl rfl (by simp) (ih x (by omega) (by have := (GT.sizes_mem hx).1; omega))
        refine heap_enter (af := c123) (args' := [x.enc, .ptr 1 0]) rfl rfl (by simp [c123]) (by simp [c123]) rfl ?_
        simp [c123, baseA, hr, hw, ← GT.enc_eq, setRun, dropA_gc, refLt, res1, refLt2_bool]) bs
    have hvar := callVar n (by omega)
    have hval := valRight (.mk vk vn vt vl) (by simp only [GV.size]; omega)
    have har1 := bArity vt
    have har2 := bArity n
    apply pure_enter (by simp [c94])
    by_cases h1 : k = 1
    · subst h1
      simp [c94, GT.enc_eq, GT.kind, GT.name, GT.value, GT.args, GV.kind, GV.num, GV.text, GV.items, hvar, hval, har1, har2, enc_mk, setRun, termR, termB, bareV, opOK, hall]
      repeat' (first | apply And.intro | intro _)
      all_goals first | (simp_all; done) | grind
    by_cases h2 : k = 2
    · subst h2
      simp [c94, GT.enc_eq, GT.kind, GT.name, GT.value, GT.args, GV.kind, GV.num, GV.text, GV.items, hvar, hval, har1, har2, enc_mk, setRun, termR, termB, bareV, opOK, hall]
      repeat' (first | apply And.intro | intro _)
      all_goals first | (simp_all; done) | grind
    by_cases h3 : k = 3
    · subst h3
      simp [c94, GT.enc_eq, GT.kind, GT.name, GT.value, GT.args, GV.kind, GV.num, GV.text, GV.items, hvar, hval, har1, har2, enc_mk, setRun, termR, termB, bareV, opOK, hall]
      repeat' (first | apply And.intro | intro _)
      all_goals first | (simp_all; done) | grind
    by_cases h4 : k = 4
    · subst h4
      simp [c94, GT.enc_eq, GT.kind, GT.name, GT.value, GT.args, GV.kind, GV.num, GV.text, GV.items, hvar, hval, har1, har2, enc_mk, setRun, termR, termB, bareV, opOK, hall]
      repeat' (first | apply And.intro | intro _)
      all_goals first | (simp_all; done) | grind
    simp [c94, GT.enc_eq, GT.kind, GT.name, GT.value, GT.args, GV.kind, GV.num, GV.text, GV.items, hvar, hval, har1, har2, enc_mk, setRun, termR, termB, bareV, opOK, h1, h2, h3, h4]
end Go.Proofs.YtpkfkipbemdhmaaGreatDoor
end
section
set_option linter.unusedVariables false
set_option linter.unusedSimpArgs false
set_option linter.unnecessarySimpa false
namespace Go.Proofs.YtpkfkipbemdhmaaGreatDoor
open Go.Mach

theorem idxS_ok (l : List ByteArray) (s : ByteArray) (hl : l.length ≤ 100000000000) :
    pureT T c124 [.isl (l.map .str) false, .str s] = some (.int .i64 (idxG (fun x => decide (s = x)) l)) := by
  apply pure_enter (by simp [c124])
  simp [c124]
  refine W_for T 0 19 l.length (fun i f σ => f 0 = .isl (l.map .str) false ∧ f 1 = .str s ∧ f 7 = .int .i64 (l.length : Int) ∧ f 8 = .int .i64 (i : Int) ∧ ∀ j, (hj : j < l.length) → j < i → decide (s = l[j]) = false) ?_ _ _ ?_
  · rintro i f σ hi ⟨h0, h1, h7, h8, hall⟩
    by_cases hlt : i < l.length
    · have e1 : l[i]? = some l[i] := List.getElem?_eq_getElem hlt
      by_cases hp : s = l[i]
      · simp [h0, h1, h7, h8, hlt, ← hp]
        simp [idxG, idxG_drop (fun x => decide (s = x)) l i hlt hall (by simp [← hp])]
      · simp [h0, h1, h7, h8, hlt, hp]
        refine ⟨wr64 (by omega) (by omega), fun j hj hji => ?_⟩
        by_cases e : j = i
        · subst e; exact hp
        · simpa using hall j hj (by omega)
    · have he : i = l.length := by omega
      subst he
      have hn : l.findIdx? (fun x => decide (s = x)) = none := by
        rw [List.findIdx?_eq_none_iff]
        intro x hx
        obtain ⟨j, hj, rfl⟩ := List.getElem_of_mem hx
        exact hall j hj hj
      simp [h0, h1, h7, h8, idxG, hn]
  · simp
theorem conS_ok (l : List ByteArray) (s : ByteArray) (hl : l.length ≤ 100000000000) :
    pureT T c97 [.isl (l.map .str) false, .str s] = some (.bool (l.any (fun x => decide (s = x)))) := by
  have h1 : ∀ bs σ, callT T 124 [.isl (l.map .str) false, .str s] bs σ = some (.int .i64 (idxG (fun x => decide (s = x)) l), σ) := fun bs σ => call_clean rfl rfl rfl (by simp) (idxS_ok l s hl)
  have h2 := idxG_any (fun x => decide (s = x)) l
  apply pure_enter (by simp [c97])
  simp [c97, h1]
  refine ⟨fun h => by simpa using h2.1 h, fun h x hx e => ?_⟩
  have := h2.2 (by simp; exact e ▸ hx)
  omega
def six : List ByteArray := [⟨#[61, 61]⟩, ⟨#[33, 61]⟩, ⟨#[60]⟩, ⟨#[60, 61]⟩, ⟨#[62]⟩, ⟨#[62, 61]⟩]
theorem six_any (s : ByteArray) : six.any (fun x => decide (s = x)) = tOK s := by
  rw [Bool.eq_iff_iff]; simp [six, tOK]
theorem conSix (s : ByteArray) (o : AObj) (bs : Nat) : callT T 97 [.sl 1 0 6 1 false, .str s] bs [o, .cells [.str ⟨#[61, 61]⟩, .str ⟨#[33, 61]⟩, .str ⟨#[60]⟩, .str ⟨#[60, 61]⟩, .str ⟨#[62]⟩, .str ⟨#[62, 61]⟩] 0 false] =
    some (.bool (sym (tOK s)), [o, .cells [.str ⟨#[61, 61]⟩, .str ⟨#[33, 61]⟩, .str ⟨#[60]⟩, .str ⟨#[60, 61]⟩, .str ⟨#[62]⟩, .str ⟨#[62, 61]⟩] 0 false]) := by
  have h := conS_ok six s (by decide)
  rw [six_any] at h
  exact call_scal rfl rfl rfl h rfl (by simp) rfl
theorem fine_ok (t : GT) (hs : t.size ≤ 100000000000) : pureT T c52 [t.enc] = some (.bool (termR 8 t)) := by
  have h : ∀ bs σ, callT T 94 [t.enc, .int .i64 8] bs σ = some (.bool (sym (termR 8 t)), σ) := fun bs σ => call_clean rfl rfl rfl (by simp) (pterm_ok 8 t (by omega) hs)
  apply pure_enter (by simp [c52])
  simp [c52, h, ← GT.enc_eq]
theorem callFine (t : GT) (hs : t.size ≤ 100000000000) (bs : Nat) (σ : Heap) : callT T 52 [t.enc] bs σ = some (.bool (sym (termR 8 t)), σ) := call_clean rfl rfl rfl (by simp) (fine_ok t hs)
theorem allFine (l : List GT) (hs : GT.sizes l ≤ 10000000000) (bs : Nat) (σ : Heap) : callT T 98 [.isl (GT.encs l) false, .func 52 []] bs σ = some (.bool (sym (l.all (termR 8))), σ) :=
  allTerm (termR 8) l 52 [] (by have := GT.len_sizes l; omega) σ (fun x hx τ bs => callFine x (by have := (GT.sizes_mem hx).1; omega) bs _) bs
theorem pargs_ok (l : List GT) (hs : GT.sizes l ≤ 10000000000) : pureT T c78 [.isl (GT.encs l) false] = some (.bool (argsB l)) := by
  have hall := allFine l hs
  have hlen := GT.len_sizes l
  apply pure_enter (by simp [c78])
  unfold argsB headOK
  generalize l.all (termR 8) = b at *
  match l with
  | [] => simp [c78]
  | x :: l =>
    simp only [List.length_cons] at *
    by_cases h8 : l.length + 1 ≤ 8
    · have h8' : ¬ (8 < (l.length : Int) + 1) := by omega
      have h1' : ¬ ((l.length : Int) + 1 < 1) := by omega
      cases b
      · simp [c78, hall, h8, h8', h1']
      · simp [c78, hall, h8, h8', h1']
        repeat' (first | apply And.intro | intro _)
        all_goals first | (simp_all; done) | grind
    · have h8' : 8 < (l.length : Int) + 1 := by omega
      have h1' : ¬ ((l.length : Int) + 1 < 1) := by omega
      simp [c78, hall, h8, h8', h1']
theorem callArgs (l : List GT) (hs : GT.sizes l ≤ 10000000000) (bs : Nat) (σ : Heap) : callT T 78 [.isl (GT.encs l) false] bs σ = some (.bool (sym (argsB l)), σ) := call_clean rfl rfl rfl (by simp) (pargs_ok l hs)
theorem plit_ok (x : GL) (hs : x.size ≤ 10000000000) : pureT T c56 [x.enc] = some (.bool (litB x)) := by
  have h1 := x.name_le
  have h2 := x.args_le
  obtain ⟨k, n, l⟩ := x
  simp only at h1 h2
  have hrel := callRel n (by omega)
  have hvar := callVar n (by omega)
  have hargs := callArgs l (by omega)
  have hall := allFine l (by omega)
  have hcon := conSix n
  apply pure_enter (by simp [c56])
  unfold litB
  by_cases k1 : k = 1
  · subst k1
    simp [c56, GL.enc_eq, hrel, hargs]
    cases relOK n <;> simp
  by_cases k2 : k = 2
  · subst k2
    simp [c56, GL.enc_eq, hrel, hargs]
    cases relOK n <;> simp
  by_cases k3 : k = 3
  · subst k3
    generalize l.all (termR 8) = b at *
    simp [c56, GL.enc_eq, hcon, hall]
    repeat' (first | apply And.intro | intro _)
    all_goals first | (simp_all; done) | omega | grind
  by_cases k4 : k = 4
  · subst k4
    generalize l.all (termR 8) = b at *
    simp [c56, GL.enc_eq, hvar, hall]
    repeat' (first | apply And.intro | intro _)
    all_goals first | (simp_all; done) | omega | grind
  simp [c56, GL.enc_eq, k1, k2, k3, k4]
theorem callPLit (x : GL) (hs : x.size ≤ 10000000000) (bs : Nat) (σ : Heap) : callT T 56 [x.enc] bs σ = some (.bool (sym (litB x)), σ) := call_clean rfl rfl rfl (by simp) (plit_ok x hs)
theorem ptup_ok (x : GU) (hs : x.size ≤ 10000000000) : pureT T c34 [x.enc] = some (.bool (tupB x)) := by
  have h1 := x.name_le
  have h2 := x.args_le
  obtain ⟨n, l⟩ := x
  simp only at h1 h2
  have hrel := callRel n (by omega)
  have hlen := len_sizes l
  have hall : ∀ bs σ, callT T 74 [.isl (GV.encs l) false, .func 75 []] bs σ = some (.bool (sym (l.all rightT)), σ) := fun bs σ =>
    allValue rightT l 75 [] (by omega) σ (fun x hx τ bs => valRight x (by have := (sizes_mem hx).1; omega) bs _) bs
  apply pure_enter (by simp [c34])
  unfold tupB
  generalize l.all rightT = b at *
  match l with
  | [] =>
    simp [c34, GU.enc_eq, hrel]
  | x :: l =>
    simp only [List.length_cons] at *
    simp [c34, GU.enc_eq, hrel, hall]
    repeat' (first | apply And.intro | intro _)
    all_goals first | (simp_all; done) | omega | grind
theorem callPTup (x : GU) (hs : x.size ≤ 10000000000) (bs : Nat) (σ : Heap) : callT T 34 [x.enc] bs σ = some (.bool (sym (tupB x)), σ) := call_clean rfl rfl rfl (by simp) (ptup_ok x hs)
theorem pdecl_ok (x : GD) (hs : x.size ≤ 10000000000) : pureT T c38 [x.enc] = some (.bool (declB x)) := by
  have h1 := x.name_le
  obtain ⟨n, l⟩ := x
  simp only at h1
  have hrel := callRel n (by omega)
  apply pure_enter (by simp [c38])
  unfold declB
  simp [c38, GD.enc_eq, hrel]
  repeat' (first | apply And.intro | intro _)
  all_goals first | (simp_all; done) | omega | grind
theorem callPDecl (x : GD) (hs : x.size ≤ 10000000000) (bs : Nat) (σ : Heap) : callT T 38 [x.enc] bs σ = some (.bool (sym (declB x)), σ) := call_clean rfl rfl rfl (by simp) (pdecl_ok x hs)
end Go.Proofs.YtpkfkipbemdhmaaGreatDoor
end
section
set_option linter.unusedVariables false
set_option linter.unusedSimpArgs false
set_option linter.unnecessarySimpa false
namespace Go.Proofs.YtpkfkipbemdhmaaGreatDoor
open Go.Mach

theorem prule_ok (x : GR) (hs : x.size ≤ 10000000000) : pureT T c36 [x.enc] = some (.bool (ruleB x)) := by
  have h1 := x.label_le
  have h2 := x.head_le
  have h3 := x.args_le
  have h4 := x.agg_le
  have h5 := x.body_len
  have h6 := fun y hy => x.body_mem (y := y) hy
  obtain ⟨lab, hd, l, agg, at', body⟩ := x
  simp only at h1 h2 h3 h4 h5 h6
  have hlen := GT.len_sizes l
  have hr1 := callRel lab (by omega)
  have hr2 := callRel hd (by omega)
  have hargs := callArgs l (by omega)
  have hall : ∀ bs σ, callT T 79 [.isl (body.map GL.enc) false, .func 56 []] bs σ = some (.bool (sym (body.all litB)), σ) := fun bs σ =>
    allLiteral litB body 56 [] (by omega) σ (fun y hy τ bs => callPLit y (by have := h6 y hy; omega) bs _) bs
  apply pure_enter (by simp [c36])
  unfold ruleB
  simp only
  generalize body.all litB = b at *
  generalize relOK lab = b1 at *
  generalize relOK hd = b2 at *
  generalize argsB l = b3 at *
  cases b1
  · simp [c36, GR.enc_eq, hr1]
  cases b2
  · simp [c36, GR.enc_eq, hr1, hr2]
  cases b3
  · simp [c36, GR.enc_eq, hr1, hr2, hargs]
  by_cases c1 : body.length < 1
  · have c1' : (body.length : Int) < 1 := by omega
    simp [c36, GR.enc_eq, hr1, hr2, hargs, c1']
    omega
  by_cases c2 : 8 < body.length
  · have c1' : ¬ (body.length : Int) < 1 := by omega
    have c2' : 8 < (body.length : Int) := by omega
    simp [c36, GR.enc_eq, hr1, hr2, hargs, c1', c2']
    omega
  have c1' : ¬ (body.length : Int) < 1 := by omega
  have c2' : ¬ 8 < (body.length : Int) := by omega
  cases b
  · simp [c36, GR.enc_eq, hr1, hr2, hargs, c1', c2', hall]
  have c3 : 1 ≤ body.length ∧ body.length ≤ 8 := by omega
  unfold aggB
  simp only [c3, and_self, decide_true, Bool.and_true, Bool.true_and]
  by_cases g0 : agg = ⟨#[]⟩
  · subst g0
    simp [c36, GR.enc_eq, hr1, hr2, hargs, c1', c2', hall]
    done
  rw [if_neg g0]
  by_cases g1 : agg = sMin ∨ agg = sMax ∨ agg = sCount
  · have hat : ∀ h : 1 ≤ at' ∧ at' < l.length, at'.toNat < l.length := fun h => by omega
    by_cases g2 : 1 ≤ at' ∧ at' < (l.length : Int)
    · obtain ⟨t, ht⟩ : ∃ t, l[at'.toNat]? = some t := ⟨_, List.getElem?_eq_getElem (hat g2)⟩
      have g3 : 0 ≤ at' := by omega
      rcases g1 with rfl | rfl | rfl
      all_goals
        simp [c36, GR.enc_eq, hr1, hr2, hargs, c1', c2', hall, g2, g3, ht]
    · rcases g1 with rfl | rfl | rfl
      all_goals
        simp [c36, GR.enc_eq, hr1, hr2, hargs, c1', c2', hall, g2]
        try grind
  · have g1' := not_or.1 g1
    have g2' := not_or.1 g1'.2
    simp [c36, GR.enc_eq, hr1, hr2, hargs, c1', c2', hall, g0, g1'.1, g2'.1, g2'.2]
theorem callPRule (x : GR) (hs : x.size ≤ 10000000000) (bs : Nat) (σ : Heap) : callT T 36 [x.enc] bs σ = some (.bool (sym (ruleB x)), σ) := call_clean rfl rfl rfl (by simp) (prule_ok x hs)
theorem pright_ok (x : GP) (hs : x.size ≤ 10000000000) : pureT T c11 [x.enc] = some (.bool (progB x)) := by
  have h1 := x.decls_len
  have h2 := x.facts_len
  have h3 := x.rules_len
  have m1 := fun y hy => x.decls_mem (y := y) hy
  have m2 := fun y hy => x.facts_mem (y := y) hy
  have m3 := fun y hy => x.rules_mem (y := y) hy
  obtain ⟨ds, us, rs⟩ := x
  simp only at h1 h2 h3 m1 m2 m3
  have a1 : ∀ bs σ, callT T 37 [.isl (ds.map GD.enc) false, .func 38 []] bs σ = some (.bool (sym (ds.all declB)), σ) := fun bs σ =>
    allDecl declB ds 38 [] (by omega) σ (fun y hy τ bs => callPDecl y (by have := m1 y hy; omega) bs _) bs
  have a2 : ∀ bs σ, callT T 33 [.isl (us.map GU.enc) false, .func 34 []] bs σ = some (.bool (sym (us.all tupB)), σ) := fun bs σ =>
    allTuple tupB us 34 [] (by omega) σ (fun y hy τ bs => callPTup y (by have := m2 y hy; omega) bs _) bs
  have a3 : ∀ bs σ, callT T 35 [.isl (rs.map GR.enc) false, .func 36 []] bs σ = some (.bool (sym (rs.all ruleB)), σ) := fun bs σ =>
    allRule ruleB rs 36 [] (by omega) σ (fun y hy τ bs => callPRule y (by have := m3 y hy; omega) bs _) bs
  apply pure_enter (by simp [c11])
  unfold progB
  simp only
  generalize ds.all declB = b1 at *
  generalize us.all tupB = b2 at *
  generalize rs.all ruleB = b3 at *
  simp [c11, GP.enc_eq, a1, a2, a3]
  repeat' (first | apply And.intro | intro _)
  all_goals first | (simp_all; done) | omega | grind
theorem callPRight (x : GP) (hs : x.size ≤ 10000000000) (bs : Nat) (σ : Heap) : callT T 11 [x.enc] bs σ = some (.bool (sym (progB x)), σ) := call_clean rfl rfl rfl (by simp) (pright_ok x hs)
end Go.Proofs.YtpkfkipbemdhmaaGreatDoor
end
section
set_option linter.unusedVariables false
set_option linter.unusedSimpArgs false
set_option linter.unnecessarySimpa false
namespace Go.Proofs.YtpkfkipbemdhmaaGreatDoor
open Go.Mach

/-! ### printer.list -/
def joinF {α : Type} (f : Nat → α → List UInt8) (sep : List UInt8) : Nat → List α → List UInt8
  | _, [] => []
  | i, x :: l => (if i = 0 then [] else sep) ++ (f i x ++ joinF f sep (i + 1) l)
theorem joinF_snoc {α : Type} (f : Nat → α → List UInt8) (sep : List UInt8) : ∀ (i : Nat) (l : List α) (x : α), joinF f sep i (l ++ [x]) = joinF f sep i l ++ ((if i + l.length = 0 then [] else sep) ++ f (i + l.length) x)
  | i, [], x => by simp [joinF]
  | i, y :: l, x => by
    have e : i + 1 + l.length = i + (l.length + 1) := by omega
    simp only [List.cons_append, joinF, joinF_snoc f sep (i + 1) l x, List.append_assoc, List.length_cons, e]
    try simp
theorem joinF_take {α : Type} (f : Nat → α → List UInt8) (sep : List UInt8) (l : List α) (i : Nat) (h : i < l.length) : joinF f sep 0 (l.take (i + 1)) = joinF f sep 0 (l.take i) ++ ((if i = 0 then [] else sep) ++ f i l[i]) := by
  have e : l.take (i + 1) = l.take i ++ [l[i]] := by rw [List.take_add_one, List.getElem?_eq_getElem h]; rfl
  have e2 : 0 + (l.take i).length = i := by simp; omega
  rw [e, joinF_snoc, e2]
theorem joinF_app {α : Type} (f : Nat → α → List UInt8) (sep : List UInt8) : ∀ (i : Nat) (l m : List α), joinF f sep i (l ++ m) = joinF f sep i l ++ joinF f sep (i + l.length) m
  | i, [], m => by simp [joinF]
  | i, x :: l, m => by
    have e : i + 1 + l.length = i + (l.length + 1) := by omega
    simp only [List.cons_append, joinF, joinF_app f sep (i + 1) l m, List.append_assoc, List.length_cons, e]
theorem joinF_le {α : Type} (f : Nat → α → List UInt8) (sep : List UInt8) (l : List α) (i : Nat) : (joinF f sep 0 (l.take i)).length ≤ (joinF f sep 0 l).length := by
  have := joinF_app f sep 0 (l.take i) (l.drop i)
  rw [List.take_append_drop] at this
  rw [this, List.length_append]; omega
/-- A builder in a heap: what stands behind it is nothing to it. -/
theorem bld_app {σ τ : Heap} {id : Nat} {o : AObj} (h : id < σ.length) : (σ.set id o ++ τ)[id]? = some o := by
  rw [List.getElem?_append_left (by simpa using h)]; simp [h]
theorem set_app {σ τ : Heap} {id : Nat} {o o' : AObj} (h : id < σ.length) : (σ.set id o ++ τ).set id o' = σ.set id o' ++ τ := by
  rw [List.set_append_left _ _ (by simpa using h), List.set_set]
theorem take_app {σ τ : Heap} {id : Nat} {o : AObj} : (σ.set id o ++ τ).take σ.length = σ.set id o := by
  rw [List.take_append_of_le_length (by simp), List.take_of_length_le (by simp)]
theorem take_app2 {σ τ ρ : Heap} {id : Nat} {o : AObj} : (σ.set id o ++ (τ ++ ρ)).take (σ.length + τ.length) = σ.set id o ++ τ := by
  rw [← List.append_assoc, List.take_append_of_le_length (by simp), List.take_of_length_le (by simp)]
theorem set_self {σ : Heap} {id : Nat} {o : AObj} (h : σ[id]? = some o) : σ.set id o = σ := by
  apply List.ext_getElem?
  intro j
  by_cases e : id = j
  · subst e; rw [h]; simp [(List.getElem?_eq_some_iff.1 h).1]
  · rw [List.getElem?_set, if_neg e]
theorem ws_at {σ τ : Heap} {id t : Nat} {l : List UInt8} {s : ByteArray} (bs : Nat) (h : id < σ.length) (ht : t ∈ bldTs) (hl : l.length + s.size ≤ 70368744177664) :
    callT T 42 [.ptr id 0, .str s] bs (σ.set id (.bld t 5 l) ++ τ) = some (.undef, σ.set id (.bld t 5 (l ++ s.data.toList)) ++ τ) := by
  rw [callWS bs (bld_app h) ht hl, set_app h]
theorem wb_at {σ τ : Heap} {id t : Nat} {l : List UInt8} {n : Int} (bs : Nat) (h : id < σ.length) (ht : t ∈ bldTs) (hl : l.length + 1 ≤ 70368744177664) (h0 : 0 ≤ n) (h1 : n < 256) :
    callT T 45 [.ptr id 0, .int .u8 n] bs (σ.set id (.bld t 5 l) ++ τ) = some (.undef, σ.set id (.bld t 5 (l ++ [UInt8.ofNat n.toNat])) ++ τ) := by
  rw [callWB bs (bld_app h) ht hl h0 h1, set_app h]
theorem listTerm (w : Nat → GT → List UInt8) (s : ByteArray) (l : List GT) (g : Nat) (caps : List AV) (σ : Heap) (id t : Nat) (c0 : List UInt8) (τ : Heap) (hid : id < σ.length) (ht : t ∈ bldTs) (hl : l.length ≤ 100000000000) (hL : c0.length + (joinF w s.data.toList 0 l).length ≤ 70368744177664)
    (hc : ∀ (i : Nat) (hi : i < l.length) (cur : List UInt8) ρ bs, cur.length + (w i l[i]).length ≤ 70368744177664 → callT T g (.int .i64 (i : Int) :: l[i].enc :: caps) bs (σ.set id (.bld t 5 cur) ++ (τ ++ ρ)) = some (.tup [], σ.set id (.bld t 5 (cur ++ w i l[i])) ++ (τ ++ ρ))) (bs : Nat) :
    callT T 95 [.ptr id 0, .isl (GT.encs l) false, .str s, .func g caps] bs (σ.set id (.bld t 5 c0) ++ τ) = some (.tup [], σ.set id (.bld t 5 (c0 ++ joinF w s.data.toList 0 l)) ++ τ) := by
  have hsl : (σ.set id (.bld t 5 c0) ++ τ).length = σ.length + τ.length := by simp
  refine heap_enter (af := c95) (args' := [.ptr id 0, .isl (GT.encs l) false, .str s, .func g caps]) (σ1 := σ.set id (.bld t 5 c0) ++ τ) rfl rfl (by simp [c95]) (by simp [c95]) rfl ?_
  simp [c95, baseA]
  refine W_for T _ 29 l.length (fun i f ρ => f 0 = .ptr id 0 ∧ f 2 = .str s ∧ f 3 = .func g caps ∧ f 10 = .isl (GT.encs l) false ∧ f 11 = .int .i64 (l.length : Int) ∧ f 12 = .int .i64 (i : Int) ∧ ∃ rest, ρ = σ.set id (.bld t 5 (c0 ++ joinF w s.data.toList 0 (l.take i))) ++ (τ ++ rest)) ?_ _ _ ?_
  · rintro i f ρ hi ⟨g0, g2, g3, g10, g11, g12, rest, rfl⟩
    by_cases hlt : i < l.length
    · have e1 : l[i]? = some l[i] := List.getElem?_eq_getElem hlt
      have hw : IntKind.i64.wrap ((i : Int) + 1) = (i : Int) + 1 := wr64 (by omega) (by omega)
      have hj := joinF_take w s.data.toList l i hlt
      have hle := joinF_le w s.data.toList l (i + 1)
      rw [hj] at hle ⊢
      generalize joinF w s.data.toList 0 (l.take i) = cur at *
      have hss : s.data.toList.length = s.size := by simp
      by_cases h0 : i = 0
      · have h0' : ¬ (0 < i) := by omega
        simp only [h0, if_true, List.nil_append, List.length_append] at hle
        have hcl := fun r bs => hc i hlt (c0 ++ cur) (rest ++ r) bs (by simp only [List.length_append]; subst h0; omega)
        simp [g0, g2, g3, g10, g11, g12, hlt, hcl, hw, h0', ← GT.enc_eq]
        exact ⟨_, by rw [if_pos h0]; rfl⟩
      · have h0' : 0 < i := by omega
        simp only [h0, if_false, List.length_append] at hle
        have hws := fun r bs => ws_at (σ := σ) (τ := τ ++ (rest ++ r)) (s := s) (l := c0 ++ cur) bs hid ht (by simp only [List.length_append]; omega)
        have hcl := fun r bs => hc i hlt (c0 ++ cur ++ s.data.toList) (rest ++ r) bs (by simp only [List.length_append]; omega)
        simp only [List.append_assoc] at hws hcl
        simp [g0, g2, g3, g10, g11, g12, hlt, hws, hcl, hw, h0', ← GT.enc_eq]
        exact ⟨_, by rw [if_neg h0]⟩
    · have he : i = l.length := by omega
      subst he
      simp [g0, g2, g3, g10, g11, g12, dropA_gc, refLt, res1]
      exact take_app2
  · simp [joinF]
theorem listLiteral (w : Nat → GL → List UInt8) (s : ByteArray) (l : List GL) (g : Nat) (caps : List AV) (σ : Heap) (id t : Nat) (c0 : List UInt8) (τ : Heap) (hid : id < σ.length) (ht : t ∈ bldTs) (hl : l.length ≤ 100000000000) (hL : c0.length + (joinF w s.data.toList 0 l).length ≤ 70368744177664)
    (hc : ∀ (i : Nat) (hi : i < l.length) (cur : List UInt8) ρ bs, cur.length + (w i l[i]).length ≤ 70368744177664 → callT T g (.int .i64 (i : Int) :: l[i].enc :: caps) bs (σ.set id (.bld t 5 cur) ++ (τ ++ ρ)) = some (.tup [], σ.set id (.bld t 5 (cur ++ w i l[i])) ++ (τ ++ ρ))) (bs : Nat) :
    callT T 91 [.ptr id 0, .isl (l.map GL.enc) false, .str s, .func g caps] bs (σ.set id (.bld t 5 c0) ++ τ) = some (.tup [], σ.set id (.bld t 5 (c0 ++ joinF w s.data.toList 0 l)) ++ τ) := by
  have hsl : (σ.set id (.bld t 5 c0) ++ τ).length = σ.length + τ.length := by simp
  refine heap_enter (af := c91) (args' := [.ptr id 0, .isl (l.map GL.enc) false, .str s, .func g caps]) (σ1 := σ.set id (.bld t 5 c0) ++ τ) rfl rfl (by simp [c91]) (by simp [c91]) rfl ?_
  simp [c91, baseA]
  refine W_for T _ 29 l.length (fun i f ρ => f 0 = .ptr id 0 ∧ f 2 = .str s ∧ f 3 = .func g caps ∧ f 10 = .isl (l.map GL.enc) false ∧ f 11 = .int .i64 (l.length : Int) ∧ f 12 = .int .i64 (i : Int) ∧ ∃ rest, ρ = σ.set id (.bld t 5 (c0 ++ joinF w s.data.toList 0 (l.take i))) ++ (τ ++ rest)) ?_ _ _ ?_
  · rintro i f ρ hi ⟨g0, g2, g3, g10, g11, g12, rest, rfl⟩
    by_cases hlt : i < l.length
    · have e1 : l[i]? = some l[i] := List.getElem?_eq_getElem hlt
      have hw : IntKind.i64.wrap ((i : Int) + 1) = (i : Int) + 1 := wr64 (by omega) (by omega)
      have hj := joinF_take w s.data.toList l i hlt
      have hle := joinF_le w s.data.toList l (i + 1)
      rw [hj] at hle ⊢
      generalize joinF w s.data.toList 0 (l.take i) = cur at *
      have hss : s.data.toList.length = s.size := by simp
      by_cases h0 : i = 0
      · have h0' : ¬ (0 < i) := by omega
        simp only [h0, if_true, List.nil_append, List.length_append] at hle
        have hcl := fun r bs => hc i hlt (c0 ++ cur) (rest ++ r) bs (by simp only [List.length_append]; subst h0; omega)
        simp [g0, g2, g3, g10, g11, g12, hlt, hcl, hw, h0', ← GL.enc_eq]
        exact ⟨_, by rw [if_pos h0]; rfl⟩
      · have h0' : 0 < i := by omega
        simp only [h0, if_false, List.length_append] at hle
        have hws := fun r bs => ws_at (σ := σ) (τ := τ ++ (rest ++ r)) (s := s) (l := c0 ++ cur) bs hid ht (by simp only [List.length_append]; omega)
        have hcl := fun r bs => hc i hlt (c0 ++ cur ++ s.data.toList) (rest ++ r) bs (by simp only [List.length_append]; omega)
        simp only [List.append_assoc] at hws hcl
        simp [g0, g2, g3, g10, g11, g12, hlt, hws, hcl, hw, h0', ← GL.enc_eq]
        exact ⟨_, by rw [if_neg h0]⟩
    · have he : i = l.length := by omega
      subst he
      simp [g0, g2, g3, g10, g11, g12, dropA_gc, refLt, res1]
      exact take_app2
  · simp [joinF]
theorem listValue (w : Nat → GV → List UInt8) (s : ByteArray) (l : List GV) (g : Nat) (caps : List AV) (σ : Heap) (id t : Nat) (c0 : List UInt8) (τ : Heap) (hid : id < σ.length) (ht : t ∈ bldTs) (hl : l.length ≤ 100000000000) (hL : c0.length + (joinF w s.data.toList 0 l).length ≤ 70368744177664)
    (hc : ∀ (i : Nat) (hi : i < l.length) (cur : List UInt8) ρ bs, cur.length + (w i l[i]).length ≤ 70368744177664 → callT T g (.int .i64 (i : Int) :: l[i].enc :: caps) bs (σ.set id (.bld t 5 cur) ++ (τ ++ ρ)) = some (.tup [], σ.set id (.bld t 5 (cur ++ w i l[i])) ++ (τ ++ ρ))) (bs : Nat) :
    callT T 87 [.ptr id 0, .isl (GV.encs l) false, .str s, .func g caps] bs (σ.set id (.bld t 5 c0) ++ τ) = some (.tup [], σ.set id (.bld t 5 (c0 ++ joinF w s.data.toList 0 l)) ++ τ) := by
  have hsl : (σ.set id (.bld t 5 c0) ++ τ).length = σ.length + τ.length := by simp
  refine heap_enter (af := c87) (args' := [.ptr id 0, .isl (GV.encs l) false, .str s, .func g caps]) (σ1 := σ.set id (.bld t 5 c0) ++ τ) rfl rfl (by simp [c87]) (by simp [c87]) rfl ?_
  simp [c87, baseA]
  refine W_for T _ 29 l.length (fun i f ρ => f 0 = .ptr id 0 ∧ f 2 = .str s ∧ f 3 = .func g caps ∧ f 10 = .isl (GV.encs l) false ∧ f 11 = .int .i64 (l.length : Int) ∧ f 12 = .int .i64 (i : Int) ∧ ∃ rest, ρ = σ.set id (.bld t 5 (c0 ++ joinF w s.data.toList 0 (l.take i))) ++ (τ ++ rest)) ?_ _ _ ?_
  · rintro i f ρ hi ⟨g0, g2, g3, g10, g11, g12, rest, rfl⟩
    by_cases hlt : i < l.length
    · have e1 : l[i]? = some l[i] := List.getElem?_eq_getElem hlt
      have hw : IntKind.i64.wrap ((i : Int) + 1) = (i : Int) + 1 := wr64 (by omega) (by omega)
      have hj := joinF_take w s.data.toList l i hlt
      have hle := joinF_le w s.data.toList l (i + 1)
      rw [hj] at hle ⊢
      generalize joinF w s.data.toList 0 (l.take i) = cur at *
      have hss : s.data.toList.length = s.size := by simp
      by_cases h0 : i = 0
      · have h0' : ¬ (0 < i) := by omega
        simp only [h0, if_true, List.nil_append, List.length_append] at hle
        have hcl := fun r bs => hc i hlt (c0 ++ cur) (rest ++ r) bs (by simp only [List.length_append]; subst h0; omega)
        simp [g0, g2, g3, g10, g11, g12, hlt, hcl, hw, h0', ← GV.enc_eq]
        exact ⟨_, by rw [if_pos h0]; rfl⟩
      · have h0' : 0 < i := by omega
        simp only [h0, if_false, List.length_append] at hle
        have hws := fun r bs => ws_at (σ := σ) (τ := τ ++ (rest ++ r)) (s := s) (l := c0 ++ cur) bs hid ht (by simp only [List.length_append]; omega)
        have hcl := fun r bs => hc i hlt (c0 ++ cur ++ s.data.toList) (rest ++ r) bs (by simp only [List.length_append]; omega)
        simp only [List.append_assoc] at hws hcl
        simp [g0, g2, g3, g10, g11, g12, hlt, hws, hcl, hw, h0', ← GV.enc_eq]
        exact ⟨_, by rw [if_neg h0]⟩
    · have he : i = l.length := by omega
      subst he
      simp [g0, g2, g3, g10, g11, g12, dropA_gc, refLt, res1]
      exact take_app2
  · simp [joinF]
end Go.Proofs.YtpkfkipbemdhmaaGreatDoor
end
section
set_option linter.unusedVariables false
set_option linter.unusedSimpArgs false
set_option linter.unnecessarySimpa false
namespace Go.Proofs.YtpkfkipbemdhmaaGreatDoor
open Go.Mach

/-! ### How terms are written -/
theorem tc_join (sep : List UInt8) : ∀ (i : Nat) (l : List GT), joinF (fun _ => shT) sep (i + 1) l = shTc sep l
  | _, [] => rfl
  | i, x :: l => by simp only [joinF, shTc, tc_join sep (i + 1) l]; simp
theorem ts_join (sep : List UInt8) (l : List GT) : joinF (fun _ => shT) sep 0 l = shTs sep l := by
  cases l with
  | nil => rfl
  | cons x l => simp only [joinF, shTs, tc_join]; simp
theorem term_value {d : Nat} {k : Int} {n : ByteArray} {v : GV} {l : List GT} (h : termR d (.mk k n v l) = true) (hk : k = 2) : rightT v = true := by
  obtain ⟨_, ⟨n', e, hn⟩ | ⟨v', e, hv, _⟩ | ⟨n', l', e, hn, _⟩ | ⟨n', l', e, _⟩⟩ := term_cases h <;> injection e with e1 e2 e3 e4 <;> subst e1
  · omega
  · rw [e3]; exact hv
  · omega
  · omega
theorem term_args {d : Nat} {k : Int} {n : ByteArray} {v : GV} {l : List GT} (h : termR d (.mk k n v l) = true) : ∀ x ∈ l, ∃ e, termR e x = true := by
  intro x hx
  obtain ⟨_, ⟨n', e, hn⟩ | ⟨v', e, hv, _⟩ | ⟨n', l', e, hn, hl⟩ | ⟨n', l', e, _, _, hl⟩⟩ := term_cases h <;> injection e with e1 e2 e3 e4 <;> subst e4
  · cases hx
  · cases hx
  · exact ⟨_, hl x hx⟩
  · exact ⟨_, hl x hx⟩
theorem take_eq {L A : Heap} (B : Heap) {n : Nat} (h1 : L = A ++ B) (h2 : n = A.length) : L.take n = A := by rw [h1, h2]; simp
theorem printV_list {v : GV} (h : rightT v = true) : (printV v).data.toList = pr v := by simp [printV, h, S]
theorem printV_size {v : GV} (h : rightT v = true) : (printV v).size = (pr v).length := by simp only [printV, h, if_true]; rfl
theorem wterm_ok : ∀ (m : Nat) (t : GT), t.size ≤ m → m ≤ 10000000000 → (∃ d, termR d t = true) → ∀ (σ : Heap) (id tt : Nat) (c0 : List UInt8) (τ : Heap) (bs : Nat), id < σ.length → tt ∈ bldTs → c0.length + (shT t).length ≤ 70368744177664 →
    callT T 53 [.ptr id 0, t.enc] bs (σ.set id (.bld tt 5 c0) ++ τ) = some (.tup [], σ.set id (.bld tt 5 (c0 ++ shT t)) ++ τ) := by
  intro m
  induction m with
  | zero => intro t h; obtain ⟨k, n, ⟨vk, vn, vt, vl⟩, l⟩ := t; simp [GT.size] at h
  | succ m ih =>
    intro t hs hm hd σ id tt c0 τ bs hid ht hlen
    obtain ⟨d, hd⟩ := hd
    obtain ⟨k, n, v, l⟩ := t
    simp only [GT.size] at hs
    have hsl : ∀ o : AObj, (σ.set id o ++ τ).length = σ.length + τ.length := fun o => by simp
    have hns : n.data.toList.length = n.size := by simp
    refine heap_enter (af := c53) (args' := [.ptr id 0, (GT.mk k n v l).enc]) (σ1 := σ.set id (.bld tt 5 c0) ++ τ) rfl rfl (by simp [c53]) (by simp [c53]) rfl ?_
    by_cases h1 : k = 1
    · subst h1
      have hp : shT (.mk 1 n v l) = n.data.toList := by simp [shT]
      rw [hp] at hlen ⊢
      have hws := fun r bs => ws_at (σ := σ) (τ := τ ++ r) (s := n) (l := c0) bs hid ht (by omega)
      simp [c53, baseA, GT.enc_eq, GT.kind, GT.name, GT.value, GT.args, hws, dropA_gc, refLt, res1]
      exact take_app2
    by_cases h2 : k = 2
    · subst h2
      have hv := term_value hd rfl
      have hp : shT (.mk 2 n v l) = pr v := by simp [shT]
      rw [hp] at hlen ⊢
      have hpv := valPrint v (right_okV _ _ hv) (by have := rightT_size hv; omega)
      have hws := fun r bs => ws_at (σ := σ) (τ := τ ++ r) (s := printV v) (l := c0) bs hid ht (by rw [printV_size hv]; exact hlen)
      rw [printV_list hv] at hws
      simp [c53, baseA, GT.enc_eq, GT.kind, GT.name, GT.value, GT.args, hws, hpv, dropA_gc, refLt, res1]
      exact take_app2
    have hlist : ∀ (sep : ByteArray) (cur : List UInt8) (o : AObj) (bs : Nat), cur.length + (shTs sep.data.toList l).length ≤ 70368744177664 →
        callT T 95 [.ptr id 0, .isl (GT.encs l) false, .str sep, .func 96 [.ptr (σ.length + τ.length) 0]] bs (σ.set id (.bld tt 5 cur) ++ (τ ++ [.cells [.ptr id 0] 0 false, o])) =
          some (.tup [], σ.set id (.bld tt 5 (cur ++ shTs sep.data.toList l)) ++ (τ ++ [.cells [.ptr id 0] 0 false, o])) := fun sep cur o bs hb => by
      rw [← ts_join] at hb ⊢
      refine listTerm (fun _ => shT) sep l 96 [.ptr (σ.length + τ.length) 0] σ id tt cur (τ ++ [.cells [.ptr id 0] 0 false, o]) hid ht (by have := GT.len_sizes l; omega) hb (fun i hi cur ρ bs hb2 => ?_) bs
      have hx := List.getElem_mem hi
      have hw := fun r bs => ih l[i] (by have := (GT.sizes_mem hx).1; omega) (by omega) (term_args hd _ hx) σ id tt cur (τ ++ r) bs hid ht hb2
      have hk : ∀ r : Heap, (σ.set id (.bld tt 5 cur) ++ (τ ++ .cells [.ptr id 0] 0 false :: r))[σ.length + τ.length]? = some (.cells [.ptr id 0] 0 false) := fun r => by
        rw [← List.append_assoc, List.getElem?_append_right (by simp)]; simp
      refine heap_enter (af := c96) (args' := [.int .i64 (i : Int), l[i].enc, .ptr (σ.length + τ.length) 0]) rfl rfl (by simp [c96]) (by simp [c96]) rfl ?_
      simp [c96, baseA, hk, hw, ← GT.enc_eq, dropA_gc, refLt, res1]
      exact take_eq [_] (by simp; rfl) (by simp)
    by_cases h3 : k = 3
    · subst h3
      have hp : shT (.mk 3 n v l) = n.data.toList ++ 40 :: (shTs [44] l ++ [41]) := by simp [shT]
      rw [hp] at hlen ⊢
      simp only [List.length_append, List.length_cons, List.length_nil, hns] at hlen
      have hws := fun r bs => ws_at (σ := σ) (τ := τ ++ r) (s := n) (l := c0) bs hid ht (by omega)
      have hwb := fun r bs => wb_at (σ := σ) (τ := τ ++ r) (n := 40) (l := c0 ++ n.data.toList) bs hid ht (by simp only [List.length_append, hns]; omega) (by decide) (by decide)
      have hli := fun o bs => hlist ⟨#[44]⟩ (c0 ++ n.data.toList ++ [40]) o bs (by simp only [List.length_append, List.length_cons, List.length_nil, hns]; show _ + (shTs [44] l).length ≤ _; omega)
      have hwe := fun r bs => wb_at (σ := σ) (τ := τ ++ r) (n := 41) (l := c0 ++ n.data.toList ++ [40] ++ shTs [44] l) bs hid ht (by simp only [List.length_append, List.length_cons, List.length_nil, hns]; omega) (by decide) (by decide)
      simp [-List.append_assoc] at hws hwb hli hwe
      simp only [List.append_assoc, List.cons_append, List.nil_append] at hws hwb hli hwe
      simp [c53, baseA, GT.enc_eq, GT.kind, GT.name, GT.value, GT.args, hws, hwb, hli, hwe, dropA_gc, refLt, res1]
      exact take_app2
    have hp : shT (.mk k n v l) = 40 :: (shTs n.data.toList l ++ [41]) := by simp [shT, h1, h2, h3]
    rw [hp] at hlen ⊢
    simp only [List.length_append, List.length_cons, List.length_nil] at hlen
    have hwb := fun r bs => wb_at (σ := σ) (τ := τ ++ r) (n := 40) (l := c0) bs hid ht (by omega) (by decide) (by decide)
    have hli := fun o bs => hlist n (c0 ++ [40]) o bs (by simp only [List.length_append, List.length_cons, List.length_nil]; omega)
    have hwe := fun r bs => wb_at (σ := σ) (τ := τ ++ r) (n := 41) (l := c0 ++ [40] ++ shTs n.data.toList l) bs hid ht (by simp only [List.length_append, List.length_cons, List.length_nil]; omega) (by decide) (by decide)
    simp [-List.append_assoc] at hwb hli hwe
    simp only [List.append_assoc, List.cons_append, List.nil_append] at hwb hli hwe
    simp [c53, baseA, GT.enc_eq, GT.kind, GT.name, GT.value, GT.args, hwb, hli, hwe, dropA_gc, refLt, res1, h1, h2, h3]
    exact take_app2
theorem callWTerm (t : GT) (hs : t.size ≤ 10000000000) (hd : ∃ d, termR d t = true) (σ : Heap) (id tt : Nat) (c0 : List UInt8) (τ : Heap) (bs : Nat) (hid : id < σ.length) (ht : tt ∈ bldTs) (hl : c0.length + (shT t).length ≤ 70368744177664) :
    callT T 53 [.ptr id 0, t.enc] bs (σ.set id (.bld tt 5 c0) ++ τ) = some (.tup [], σ.set id (.bld tt 5 (c0 ++ shT t)) ++ τ) := wterm_ok t.size t (Nat.le_refl _) hs hd σ id tt c0 τ bs hid ht hl
end Go.Proofs.YtpkfkipbemdhmaaGreatDoor
end
section
set_option linter.unusedVariables false
set_option linter.unusedSimpArgs false
set_option linter.unnecessarySimpa false
namespace Go.Proofs.YtpkfkipbemdhmaaGreatDoor
open Go.Mach

theorem at_join (agg : List UInt8) (p : Int) : ∀ (i : Nat) (l : List GT), joinF (shAt agg p) [44] (i + 1) l = shAtC agg p (i + 1) l
  | _, [] => rfl
  | i, x :: l => by simp only [joinF, shAtC, at_join agg p (i + 1) l]; simp
theorem ats_join (agg : List UInt8) (p : Int) (l : List GT) : joinF (shAt agg p) [44] 0 l = shAtS agg p 0 l := by
  cases l with
  | nil => rfl
  | cons x l => simp only [joinF, shAtS, at_join]; simp
theorem ba_dt (l : List UInt8) : (ByteArray.mk l.toArray).data.toList = l := rfl
theorem watom (name agg : ByteArray) (at' : Int) (l : List GT) (hn : name.size ≤ 10000000000) (hg : agg.size ≤ 10000000000) (hs : GT.sizes l ≤ 10000000000) (hd : ∀ x ∈ l, ∃ d, termR d x = true) (σ : Heap) (id tt : Nat) (c0 : List UInt8) (τ : Heap) (bs : Nat) (hid : id < σ.length) (ht : tt ∈ bldTs)
    (hl : c0.length + (shAtom name.data.toList l agg.data.toList at').length ≤ 70368744177664) :
    callT T 90 [.ptr id 0, .str name, .isl (GT.encs l) false, .str agg, .int .i64 at'] bs (σ.set id (.bld tt 5 c0) ++ τ) = some (.tup [], σ.set id (.bld tt 5 (c0 ++ shAtom name.data.toList l agg.data.toList at')) ++ τ) := by
  have hlen := GT.len_sizes l
  have hnn : name.data.toList.length = name.size := by simp
  have hgg : agg.data.toList.length = agg.size := by simp
  have hsl : ∀ o : AObj, (σ.set id o ++ τ).length = σ.length + τ.length := fun o => by simp
  simp only [shAtom, List.length_append, List.length_cons, List.length_nil, hnn] at hl
  have hlist : ∀ (cur : List UInt8) (bs : Nat), cur.length + (shAtS agg.data.toList at' 0 l).length ≤ 70368744177664 →
      callT T 95 [.ptr id 0, .isl (GT.encs l) false, .str ⟨#[44]⟩, .func 122 [.ptr (σ.length + τ.length + 1) 0, .ptr (σ.length + τ.length + 2) 0, .ptr (σ.length + τ.length) 0]] bs
        (σ.set id (.bld tt 5 cur) ++ (τ ++ [.cells [.ptr id 0] 0 false, .cells [.str agg] 0 false, .cells [.int .i64 at'] 0 false])) =
      some (.tup [], σ.set id (.bld tt 5 (cur ++ shAtS agg.data.toList at' 0 l)) ++ (τ ++ [.cells [.ptr id 0] 0 false, .cells [.str agg] 0 false, .cells [.int .i64 at'] 0 false])) := fun cur bs hb => by
    rw [← ats_join] at hb ⊢
    refine listTerm (shAt agg.data.toList at') ⟨#[44]⟩ l 122 _ σ id tt cur (τ ++ [.cells [.ptr id 0] 0 false, .cells [.str agg] 0 false, .cells [.int .i64 at'] 0 false]) hid ht (by omega) hb (fun i hi cur ρ bs hb2 => ?_) bs
    have hx := List.getElem_mem hi
    have hxs := (GT.sizes_mem hx).1
    have hxn := GT.name_le l[i]
    have hk : ∀ (j : Nat) (o : AObj) (r : Heap), ([AObj.cells [.ptr id 0] 0 false, .cells [.str agg] 0 false, .cells [.int .i64 at'] 0 false] : Heap)[j]? = some o → (σ.set id (.bld tt 5 cur) ++ (τ ++ .cells [.ptr id 0] 0 false :: .cells [.str agg] 0 false :: .cells [.int .i64 at'] 0 false :: r))[σ.length + τ.length + j]? = some o := fun j o r h => by
      rw [← List.append_assoc, List.getElem?_append_right (by simp)]
      have e : σ.length + τ.length + j - (σ.set id (.bld tt 5 cur) ++ τ).length = j := by rw [hsl]; omega
      rw [e]
      have hj : j < 3 := by have := (List.getElem?_eq_some_iff.1 h).1; simpa using this
      rw [← h]
      have : j = 0 ∨ j = 1 ∨ j = 2 := by omega
      rcases this with rfl | rfl | rfl <;> simp
    have hk0 := fun r => hk 0 _ r rfl
    have hk1 := fun r => hk 1 _ r rfl
    have hk2 := fun r => hk 2 _ r rfl
    rw [Nat.add_zero] at hk0
    refine heap_enter (af := c122) (args' := [.int .i64 (i : Int), l[i].enc, .ptr (σ.length + τ.length + 1) 0, .ptr (σ.length + τ.length + 2) 0, .ptr (σ.length + τ.length) 0]) rfl rfl (by simp [c122]) (by simp [c122]) rfl ?_
    by_cases hc : agg.data.toList ≠ [] ∧ (i : Int) = at'
    · have hag : agg ≠ ⟨#[]⟩ := fun e => hc.1 (ba_list_nil.2 e)
      have hsh : shAt agg.data.toList at' i l[i] = agg.data.toList ++ 60 :: (l[i].name.data.toList ++ [62]) := by rw [shAt, if_pos hc]
      rw [hsh] at hb2 ⊢
      have hnx : l[i].name.data.toList.length = l[i].name.size := by simp
      simp only [List.length_append, List.length_cons, List.length_nil, hgg, hnx] at hb2
      have hws := fun r bs => ws_at (σ := σ) (τ := τ ++ r) (s := ((agg ++ ⟨#[60]⟩) ++ l[i].name) ++ ⟨#[62]⟩) (l := cur) bs hid ht (by have e1 : (ByteArray.mk #[60]).size = 1 := rfl; have e2 : (ByteArray.mk #[62]).size = 1 := rfl; simp only [ByteArray.size_append, e1, e2]; omega)
      have z1 : (ByteArray.mk #[60]).size = 1 := rfl
      have z2 : (ByteArray.mk #[62]).size = 1 := rfl
      have q1 : (agg.size : Int) + 1 ≤ 9223372036854775807 := by omega
      have q2 : (agg.size : Int) + 1 + (l[i].name.size : Int) ≤ 9223372036854775807 := by omega
      have q3 : (agg.size : Int) + 1 + (l[i].name.size : Int) + 1 ≤ 9223372036854775807 := by omega
      simp at hws
      simp [c122, baseA, hk0, hk1, hk2, hws, hag, hc.2, ← GT.enc_eq, dropA_gc, refLt, res1, z1, z2, q1, q2, q3, ByteArray.size_append]
      exact take_eq [_] (by simp; rfl) (by simp)
    · have hsh : shAt agg.data.toList at' i l[i] = shT l[i] := by rw [shAt, if_neg hc]
      rw [hsh] at hb2 ⊢
      have hw := fun r bs => callWTerm l[i] (by omega) (hd _ hx) σ id tt cur (τ ++ r) bs hid ht hb2
      by_cases hag : agg = ⟨#[]⟩
      · subst hag
        simp [c122, baseA, hk0, hk1, hk2, hw, ← GT.enc_eq, dropA_gc, refLt, res1]
        exact take_eq [_] (by simp; rfl) (by simp)
      · have hat : ¬ ((i : Int) = at') := fun e => hc ⟨fun h => hag (ba_list_nil.1 h), e⟩
        simp [c122, baseA, hk0, hk1, hk2, hw, hag, hat, ← GT.enc_eq, dropA_gc, refLt, res1]
        exact take_eq [_] (by simp; rfl) (by simp)
  have z1 : (ByteArray.mk #[40, 64]).size = 2 := rfl
  have q1 : (name.size : Int) + 2 ≤ 9223372036854775807 := by omega
  have hws := fun r bs => ws_at (σ := σ) (τ := τ ++ r) (s := name ++ ⟨#[40, 64]⟩) (l := c0) bs hid ht (by simp only [ByteArray.size_append, z1]; omega)
  have hn2 : (name ++ ⟨#[40, 64]⟩).data.toList.length = name.size + 2 := by simp
  have b1 : (c0 ++ (name ++ ⟨#[40, 64]⟩).data.toList).length + (shAtS agg.data.toList at' 0 l).length ≤ 70368744177664 := by rw [List.length_append, hn2]; omega
  have hli := fun bs => hlist (c0 ++ (name ++ ⟨#[40, 64]⟩).data.toList) bs b1
  have b2 : (c0 ++ (name ++ ⟨#[40, 64]⟩).data.toList ++ shAtS agg.data.toList at' 0 l).length + 1 ≤ 70368744177664 := by rw [List.length_append, List.length_append, hn2]; omega
  have hwe := fun r bs => wb_at (σ := σ) (τ := τ ++ r) (n := 41) (l := c0 ++ (name ++ ⟨#[40, 64]⟩).data.toList ++ shAtS agg.data.toList at' 0 l) bs hid ht b2 (by decide) (by decide)
  simp [Nat.add_assoc] at hws hli hwe
  refine heap_enter (af := c90) (args' := [.ptr id 0, .str name, .isl (GT.encs l) false, .str agg, .int .i64 at']) (σ1 := σ.set id (.bld tt 5 c0) ++ τ) rfl rfl (by simp [c90]) (by simp [c90]) rfl ?_
  simp [c90, baseA, hws, hli, hwe, z1, q1, dropA_gc, refLt, res1, shAtom]
  exact take_app2
end Go.Proofs.YtpkfkipbemdhmaaGreatDoor
end
section
set_option linter.unusedVariables false
set_option linter.unusedSimpArgs false
set_option linter.unnecessarySimpa false
namespace Go.Proofs.YtpkfkipbemdhmaaGreatDoor
open Go.Mach

theorem key_at {σ τ r : Heap} {id : Nat} {o a : AObj} : (σ.set id o ++ (τ ++ a :: r))[σ.length + τ.length]? = some a := by
  rw [← List.append_assoc, List.getElem?_append_right (by simp)]; simp
theorem args_ex {l : List GT} (h : ∀ x ∈ l, termR 8 x = true) : ∀ x ∈ l, ∃ d, termR d x = true := fun x hx => ⟨8, h x hx⟩
theorem rel_size {s : ByteArray} (h : relOK s = true) : s.size ≤ 16 := ((nameOK_iff s).1 (rel_name h).1).2.2
theorem var_size {s : ByteArray} (h : varOK s = true) : s.size ≤ 16 := ((varOK_iff s).1 h).2.2
theorem test_size {s : ByteArray} (h : tOK s = true) : s.size ≤ 2 := by
  rcases of_decide_eq_true h with rfl | rfl | rfl | rfl | rfl | rfl <;> decide
theorem wlit_ok (x : GL) (hx : litB x = true) (hs : x.size ≤ 10000000000) (σ : Heap) (id tt : Nat) (c0 : List UInt8) (τ : Heap) (bs : Nat) (hid : id < σ.length) (ht : tt ∈ bldTs) (hl : c0.length + (shLit x).length ≤ 70368744177664) :
    callT T 57 [.ptr id 0, x.enc] bs (σ.set id (.bld tt 5 c0) ++ τ) = some (.tup [], σ.set id (.bld tt 5 (c0 ++ shLit x)) ++ τ) := by
  have hal := x.args_le
  have hsl : ∀ o : AObj, (σ.set id o ++ τ).length = σ.length + τ.length := fun o => by simp
  refine heap_enter (af := c57) (args' := [.ptr id 0, x.enc]) (σ1 := σ.set id (.bld tt 5 c0) ++ τ) rfl rfl (by simp [c57]) (by simp [c57]) rfl ?_
  have z0 : (ByteArray.mk #[32]).size = 1 := rfl
  have z4 : (ByteArray.mk #[32, 58, 61, 32]).size = 4 := rfl
  rcases lit_cases hx with ⟨hk, h1, h2⟩ | ⟨hk, h1, y, z, e, hy, hz⟩ | ⟨hk, h1, y, e, hy⟩
  · have hn := rel_size h1
    rcases hk with hk | hk
    · rw [sh1 hk] at hl ⊢
      have hat := fun r bs => watom x.name ⟨#[]⟩ 0 x.args (by omega) (by decide) (by omega) (args_ex (args_all h2)) σ id tt c0 (τ ++ r) bs hid ht hl
      simp at hat
      simp [c57, baseA, GL.enc_eq, hk, hat, dropA_gc, refLt, res1]
      exact take_app2
    · rw [sh2 hk] at hl ⊢
      simp only [List.length_cons] at hl
      have hwb := fun r bs => wb_at (σ := σ) (τ := τ ++ r) (n := 33) (l := c0) bs hid ht (by omega) (by decide) (by decide)
      have hat := fun r bs => watom x.name ⟨#[]⟩ 0 x.args (by omega) (by decide) (by omega) (args_ex (args_all h2)) σ id tt (c0 ++ [33]) (τ ++ r) bs hid ht (by simp only [List.length_append, List.length_cons, List.length_nil]; show _ + (shAtom x.name.data.toList x.args [] 0).length ≤ _; omega)
      simp at hat hwb
      simp [c57, baseA, GL.enc_eq, hk, hat, hwb, dropA_gc, refLt, res1]
      exact take_app2
  · have hn := test_size h1
    have hp : shLit x = shTs (32 :: (x.name.data.toList ++ [32])) x.args := by simp [shLit, hk]
    rw [hp] at hl ⊢
    have hsep : ((⟨#[32]⟩ ++ x.name) ++ ⟨#[32]⟩ : ByteArray).data.toList = 32 :: (x.name.data.toList ++ [32]) := by simp
    have hli : ∀ (o : AObj) (bs : Nat), callT T 95 [.ptr id 0, .isl (GT.encs x.args) false, .str ((⟨#[32]⟩ ++ x.name) ++ ⟨#[32]⟩), .func 100 [.ptr (σ.length + τ.length) 0]] bs (σ.set id (.bld tt 5 c0) ++ (τ ++ [.cells [.ptr id 0] 0 false, o])) =
          some (.tup [], σ.set id (.bld tt 5 (c0 ++ shTs (32 :: (x.name.data.toList ++ [32])) x.args)) ++ (τ ++ [.cells [.ptr id 0] 0 false, o])) := fun o bs => by
      rw [← hsep, ← ts_join] at hl ⊢
      refine listTerm (fun _ => shT) _ x.args 100 [.ptr (σ.length + τ.length) 0] σ id tt c0 (τ ++ [.cells [.ptr id 0] 0 false, o]) hid ht (by have := GT.len_sizes x.args; omega) hl (fun i hi cur ρ bs hb2 => ?_) bs
      have hm := List.getElem_mem hi
      have hex : ∃ d, termR d x.args[i] = true := by
        refine args_ex (l := x.args) (fun w hw => ?_) _ hm
        rw [e] at hw; simp at hw; rcases hw with rfl | rfl; exact hy; exact hz
      have hw := fun r bs => callWTerm x.args[i] (by have := (GT.sizes_mem hm).1; omega) hex σ id tt cur (τ ++ r) bs hid ht hb2
      refine heap_enter (af := c100) (args' := [.int .i64 (i : Int), x.args[i].enc, .ptr (σ.length + τ.length) 0]) rfl rfl (by simp [c100]) (by simp [c100]) rfl ?_
      simp [c100, baseA, key_at, hw, ← GT.enc_eq, dropA_gc, refLt, res1]
      exact take_eq [_] (by simp; rfl) (by simp)
    have q1 : (1 : Int) + (x.name.size : Int) ≤ 9223372036854775807 := by omega
    have q2 : (1 : Int) + (x.name.size : Int) + 1 ≤ 9223372036854775807 := by omega
    simp [c57, baseA, GL.enc_eq, hk, hli, z0, q1, q2, dropA_gc, refLt, res1, ByteArray.size_append]
    exact take_app2
  · have hn := var_size h1
    have hns : x.name.data.toList.length = x.name.size := by simp
    rw [sh4 hk e] at hl ⊢
    simp only [List.length_append, List.length_cons, hns] at hl
    have hy8 : y.size ≤ 10000000000 := by have := (GT.sizes_mem (l := x.args) (x := y) (by simp [e])).1; omega
    have b1 : (x.name ++ ⟨#[32, 58, 61, 32]⟩).data.toList.length = x.name.size + 4 := by simp
    have hws := fun r bs => ws_at (σ := σ) (τ := τ ++ r) (s := x.name ++ ⟨#[32, 58, 61, 32]⟩) (l := c0) bs hid ht (by simp only [ByteArray.size_append, z4]; omega)
    have hw := fun r bs => callWTerm y hy8 ⟨8, hy⟩ σ id tt (c0 ++ (x.name ++ ⟨#[32, 58, 61, 32]⟩).data.toList) (τ ++ r) bs hid ht (by rw [List.length_append, b1]; omega)
    have q1 : (x.name.size : Int) + 4 ≤ 9223372036854775807 := by omega
    simp at hws hw
    simp [c57, baseA, GL.enc_eq, hk, hws, hw, z4, q1, e, ← GT.enc_eq, dropA_gc, refLt, res1]
    exact take_app2
end Go.Proofs.YtpkfkipbemdhmaaGreatDoor
end
section
set_option linter.unusedVariables false
set_option linter.unusedSimpArgs false
set_option linter.unnecessarySimpa false
namespace Go.Proofs.YtpkfkipbemdhmaaGreatDoor
open Go.Mach

/-! ### How long what is written is -/
mutual
theorem sh_len : ∀ (t : GT) (d : Nat), termR d t = true → (shT t).length + 1 ≤ 27 * t.size
  | .mk k n v l, d, h => by
    obtain ⟨hd, h'⟩ := term_cases h
    rcases h' with ⟨n', e, hn⟩ | ⟨v', e, hv, _⟩ | ⟨n', l', e, hn, hl⟩ | ⟨n', l', e, ho, h2, hl⟩ <;> injection e with e1 e2 e3 e4 <;> subst e1 e2 e3 e4
    · have : n.data.toList.length = n.size := by simp
      simp only [shT, if_true, this, GT.size, GV.size, GT.sizes, GV.sizes]; omega
    · have := pr_len v (right_okV _ _ hv)
      have hp : shT (.mk 2 ⟨#[]⟩ v []) = pr v := by simp [shT]
      rw [hp]
      simp only [GT.size]; omega
    · have hp : shT (.mk 3 n nil0 l) = n.data.toList ++ 40 :: (shTs [44] l ++ [41]) := by simp [shT]
      have hh := shs_len l [44] (d - 1) (by simp) hl
      have : n.data.toList.length = n.size := by simp
      rw [hp]
      simp only [List.length_append, List.length_cons, List.length_nil, this, GT.size, GV.size, GV.sizes]; omega
    · have hp : shT (.mk 4 n nil0 l) = 40 :: (shTs n.data.toList l ++ [41]) := by simp [shT]
      obtain ⟨c, q1, _⟩ := op_char ho
      have hh := shs_len l n.data.toList (d - 1) (by rw [q1]; simp) hl
      rw [hp]
      simp only [List.length_append, List.length_cons, List.length_nil, GT.size, GV.size, GV.sizes]; omega
theorem shs_len : ∀ (l : List GT) (sep : List UInt8) (d : Nat), sep.length ≤ 1 → (∀ x ∈ l, termR d x = true) → (shTs sep l).length ≤ 27 * GT.sizes l
  | [], sep, d, _, _ => by simp [shTs]
  | x :: l, sep, d, hs, h => by
    have h1 := sh_len x d (h x (by simp))
    have h2 := shc_len l sep d hs fun y hy => h y (by simp [hy])
    simp only [shTs, List.length_append, GT.sizes]; omega
theorem shc_len : ∀ (l : List GT) (sep : List UInt8) (d : Nat), sep.length ≤ 1 → (∀ x ∈ l, termR d x = true) → (shTc sep l).length ≤ 27 * GT.sizes l
  | [], sep, d, _, _ => by simp [shTc]
  | x :: l, sep, d, hs, h => by
    have h1 := sh_len x d (h x (by simp))
    have h2 := shc_len l sep d hs fun y hy => h y (by simp [hy])
    simp only [shTc, List.length_append, GT.sizes]; omega
end
theorem at_len {agg : List UInt8} {p : Int} {i d : Nat} {t : GT} (ha : agg.length ≤ 5) (h : termR d t = true) : (shAt agg p i t).length + 1 ≤ 28 * t.size := by
  have h1 := sh_len t d h
  have : t.name.data.toList.length = t.name.size := by simp
  have h3 : t.name.size + 3 ≤ t.size := by obtain ⟨k, n, ⟨vk, vn, vt, vl⟩, l⟩ := t; simp only [GT.size, GT.name, GV.size]; omega
  unfold shAt
  split
  · simp only [List.length_append, List.length_cons, List.length_nil, this]; omega
  · omega
theorem atc_len {agg : List UInt8} {p : Int} {d : Nat} (ha : agg.length ≤ 5) : ∀ (i : Nat) (l : List GT), (∀ x ∈ l, termR d x = true) → (shAtC agg p i l).length ≤ 28 * GT.sizes l
  | _, [], _ => by simp [shAtC]
  | i, x :: l, h => by
    have h1 := at_len (p := p) (i := i) ha (h x (by simp))
    have h2 := atc_len ha (p := p) (i + 1) l fun y hy => h y (by simp [hy])
    simp only [shAtC, List.length_append, List.length_cons, GT.sizes]; omega
theorem ats_len {agg : List UInt8} {p : Int} {d : Nat} (ha : agg.length ≤ 5) (i : Nat) (l : List GT) (h : ∀ x ∈ l, termR d x = true) : (shAtS agg p i l).length ≤ 28 * GT.sizes l := by
  cases l with
  | nil => simp [shAtS]
  | cons x l =>
    have h1 := at_len (p := p) (i := i) ha (h x (by simp))
    have h2 := atc_len ha (p := p) (i + 1) l fun y hy => h y (by simp [hy])
    simp only [shAtS, List.length_append, GT.sizes]; omega
theorem lit_len {x : GL} (h : litB x = true) : (shLit x).length + 2 ≤ 28 * x.size := by
  have hsz : x.size = x.name.size + GT.sizes x.args + 4 := by simp only [GL.size, GL.enc, bulkA, bulkAs, GT.bulk_encs]; omega
  have hn : x.name.data.toList.length = x.name.size := by simp
  rw [hsz]
  rcases lit_cases h with ⟨hk, h1, h2⟩ | ⟨hk, h1, y, z, e, hy, hz⟩ | ⟨hk, h1, y, e, hy⟩
  · have hh := ats_len (agg := []) (p := 0) (by simp) 0 x.args (args_all h2)
    rcases hk with hk | hk
    · rw [sh1 hk]; simp only [shAtom, List.length_append, List.length_cons, List.length_nil, hn]; omega
    · rw [sh2 hk]; simp only [shAtom, List.length_append, List.length_cons, List.length_nil, hn]; omega
  · rw [sh3 hk e, e]
    have h2 := sh_len y 8 hy
    have h3 := sh_len z 8 hz
    simp only [List.length_append, List.length_cons, hn, GT.sizes]; omega
  · rw [sh4 hk e, e]
    have h2 := sh_len y 8 hy
    simp only [List.length_append, List.length_cons, hn, GT.sizes]; omega
theorem litc_len : ∀ l : List GL, (∀ x ∈ l, litB x = true) → (shLitC l).length ≤ 28 * bulkAs (l.map GL.enc)
  | [], _ => by simp [shLitC]
  | x :: l, h => by
    have h1 := lit_len (h x (by simp))
    have h2 := litc_len l fun y hy => h y (by simp [hy])
    have e : bulkA x.enc = x.size := rfl
    simp only [shLitC, List.length_append, List.length_cons, List.map_cons, bulkAs, e]; omega
theorem lits_len (l : List GL) (h : ∀ x ∈ l, litB x = true) : (shLitS l).length ≤ 28 * bulkAs (l.map GL.enc) := by
  cases l with
  | nil => simp [shLitS]
  | cons x l =>
    have h1 := lit_len (h x (by simp))
    have h2 := litc_len l fun y hy => h y (by simp [hy])
    have e : bulkA x.enc = x.size := rfl
    simp only [shLitS, List.length_append, List.map_cons, bulkAs, e]; omega
theorem agg_len {r : GR} (h : aggB r = true) : r.agg.size ≤ 5 := by
  have hn : r.agg.data.toList.length = r.agg.size := by simp
  rcases (agg_L h).1 with e | e | e | e <;> (rw [← hn, e]; decide)
theorem rule_len {x : GR} (h : ruleB x = true) : (shRule x).length + 1 ≤ 28 * x.size := by
  have hsz : x.size = x.label.size + x.head.size + GT.sizes x.args + x.agg.size + bulkAs (x.body.map GL.enc) + 7 := by simp only [GR.size, GR.enc, bulkA, bulkAs, GT.bulk_encs]; omega
  have hn : x.label.data.toList.length = x.label.size := by simp
  have hn2 : x.head.data.toList.length = x.head.size := by simp
  have hn3 : x.agg.data.toList.length = x.agg.size := by simp
  simp only [ruleB, Bool.and_eq_true, decide_eq_true_eq, List.all_eq_true] at h
  obtain ⟨⟨⟨⟨⟨a1, a2⟩, a3⟩, a4⟩, a5⟩, a6⟩ := h
  have h1 := ats_len (agg := x.agg.data.toList) (p := x.pos) (by rw [hn3]; exact agg_len a6) 0 x.args (args_all a3)
  have h2 := lits_len x.body a5
  rw [hsz]
  simp only [shRule, shAtom, List.length_append, List.length_cons, List.length_nil, hn, hn2]; omega
theorem tup_len {x : GU} (h : tupB x = true) : (shTup x).length + 1 ≤ 28 * x.size := by
  have hsz : x.size = x.name.size + GV.sizes x.args + 3 := by simp only [GU.size, GU.enc, bulkA, bulkAs, GV.bulk_encs]; omega
  have hn : x.name.data.toList.length = x.name.size := by simp
  simp only [tupB, Bool.and_eq_true, decide_eq_true_eq, List.all_eq_true] at h
  have hok : GV.oks x.args := (GV.oks_iff _).2 fun y hy => right_okV _ _ (h.2 y hy)
  have h1 := prc_len x.args hok
  have h2 : (prs x.args).length ≤ (prc x.args).length := by cases x.args <;> simp [prs, prc]
  rw [hsz]
  simp only [shTup, List.length_append, List.length_cons, List.length_nil, hn]; omega
theorem decl_len {x : GD} (h : declB x = true) : (shDecl x).length ≤ 28 * x.size := by
  have hsz : x.size = x.name.size + 3 := by simp only [GD.size, GD.enc, bulkA, bulkAs]
  have hn : x.name.data.toList.length = x.name.size := by simp
  simp only [declB, Bool.and_eq_true, decide_eq_true_eq] at h
  have hi := Lib.itoa_length_le x.arity (by omega) (by omega)
  have hm : sMat.data.toList.length = 11 := rfl
  rw [hsz]
  simp only [shDecl, List.length_append, List.length_cons, List.length_nil, hn, hm]; omega
theorem flat_len {α : Type} (f : α → List UInt8) (enc : α → AV) (l : List α) (h : ∀ x ∈ l, (f x).length ≤ 28 * bulkA (enc x)) : (l.flatMap f).length ≤ 28 * bulkAs (l.map enc) := by
  induction l with
  | nil => simp
  | cons x l ih =>
    have h1 := h x (by simp)
    have h2 := ih fun y hy => h y (by simp [hy])
    simp only [List.flatMap_cons, List.length_append, List.map_cons, bulkAs]; omega
theorem prog_len {p : GP} (h : progB p = true) : (shProg p).length ≤ 28 * p.size := by
  simp only [progB, Bool.and_eq_true, List.all_eq_true] at h
  have h1 := flat_len shDecl GD.enc p.decls fun x hx => decl_len (h.2 x hx)
  have h2 := flat_len (fun t => shTup t ++ [10]) GU.enc p.facts fun x hx => by have := tup_len (h.1.1.2 x hx); simp only [List.length_append, List.length_cons, List.length_nil]; exact this
  have h3 := flat_len (fun r => shRule r ++ [10]) GR.enc p.rules fun x hx => by have := rule_len (h.1.2 x hx); simp only [List.length_append, List.length_cons, List.length_nil]; exact this
  have hsz : p.size = bulkAs (p.decls.map GD.enc) + bulkAs (p.facts.map GU.enc) + bulkAs (p.rules.map GR.enc) + 4 := by simp only [GP.size, GP.enc, bulkA, bulkAs]; omega
  rw [hsz]
  simp only [shProg, List.length_append]; omega
end Go.Proofs.YtpkfkipbemdhmaaGreatDoor
end
