import Derived.Test.YtkempedphjopmaaMachL
set_option linter.unusedVariables false
set_option linter.unusedSimpArgs false
set_option linter.unnecessarySimpa false
namespace Go.Mach
open Go.RowKit

section
variable {P : Program} {bs : Nat} {g : Gh} {ow : Nat → Option Nat} {σ σ' : Heap} {w : World} {ρ : Regs} {a : Act} {v : AV}

theorem asNat_sound (hR : RR g ρ a.tmps) {o : Option Operand} {x : Option AX} (hx : cxo o = some x) {len d n : Nat} (h : asNat len x d ρ = some n) :
    (o = none ∧ n = d) ∨ (∃ y k, o = some y ∧ a.eval y = .int k (n : Int) ∧ n ≤ len) := by
  cases o with
  | none => simp only [cxo] at hx; injection hx with hx; subst hx; simp only [asNat] at h; injection h with h; exact .inl ⟨rfl, h.symm⟩
  | some y =>
    obtain ⟨x', hx', rfl⟩ := Option.map_eq_some_iff.1 hx
    have hv := ev_VR hR hx'
    simp only [asNat] at h
    split at h
    · rename_i k m he
      split at h
      · rename_i hc
        injection h with h; subst h
        rw [he] at hv
        refine .inr ⟨y, k, rfl, ?_, by omega⟩
        cases hv' : a.eval y <;> rw [hv'] at hv <;> cases hv
        rw [Int.toNat_of_nonneg hc.1]
      · cases h
    · cases h
theorem asNat_le (hR : RR g ρ a.tmps) {o : Option Operand} {x : Option AX} (hx : cxo o = some x) {len d n : Nat} (h : asNat len x d ρ = some n) (hd : d ≤ len) : n ≤ len := by
  rcases asNat_sound hR hx h with ⟨_, rfl⟩ | ⟨_, _, _, _, h⟩
  · exact hd
  · exact h
theorem run_sliceBound {k : IntKind} {n len : Nat} (h : n ≤ len) (code : BoundsCode) (w : World) : (Instr.sliceBound (.int k (n : Int)) len code).run P w = .ok n w := by
  have : (0 : Int) ≤ n ∧ (n : Int) ≤ len := by omega
  simp [Instr.sliceBound, asIntOf, this, h]
theorem run_bounds (hR : RR g ρ a.tmps) {lo hi : Option Operand} {xl xh : Option AX} (hl : cxo lo = some xl) (hh : cxo hi = some xh) {n h l : Nat} (e1 : asNat n xh n ρ = some h) (e2 : asNat h xl 0 ρ = some l) {cap : Nat} (hc : n ≤ cap) (b : Bool) (w : World) :
    (Instr.sliceBounds b n cap (lo.map a.eval) (hi.map a.eval) none).run P w = .ok (l, h, cap) w := by
  have h1 : h ≤ n := asNat_le hR hh e1 (Nat.le_refl _)
  have h2 : l ≤ h := asNat_le hR hl e2 (Nat.zero_le _)
  rcases asNat_sound hR hh e1 with ⟨rfl, rfl⟩ | ⟨y, k, rfl, hy, _⟩ <;> rcases asNat_sound hR hl e2 with ⟨rfl, rfl⟩ | ⟨z, k', rfl, hz, _⟩
  · simp [Instr.sliceBounds]
  · simp [Instr.sliceBounds, hz, run_sliceBound h2]
  · simp [Instr.sliceBounds, hy, run_sliceBound (Nat.le_trans h1 hc)]
  · simp [Instr.sliceBounds, hy, hz, run_sliceBound (Nat.le_trans h1 hc), run_sliceBound h2]

theorem s_strSl (h : HR g ow σ w) (hR : RR g ρ a.tmps) {t : TypeId} (ht : P.underlying t = some .string) {s : ByteArray} {lo hi : Option Operand} {xl xh : Option AX} (hl : cxo lo = some xl) (hh : cxo hi = some xh) {hn ln : Nat}
    (e1 : asNat s.size xh s.size ρ = some hn) (e2 : asNat hn xl 0 ρ = some ln) : OpOut bs g ow σ w (Sem.run P (do pure (Next.value (← Instr.sliceAt t (.string s) (lo.map a.eval) (hi.map a.eval) none))) w) (.str (s.extract ln hn)) σ := by
  refine OpOut.pure h (cv := .string (s.extract ln hn)) ?_ (.str _)
  simp only [Instr.sliceAt, Sem.run_bind, run_und ht, Result.andThen_ok, Instr.slice, run_bounds hR hl hh e1 e2 (Nat.le_refl _)]
  simp [run_und ht, run_bounds hR hl hh e1 e2 (Nat.le_refl _)]

theorem lenA_sound {x : AV} {cv : Value} (hx : VR g x cv) {n : Nat} (hn : lenA x = some n) : (∃ s, x = .str s ∧ cv = .string s ∧ n = s.size) ∨ (∃ ad c, cv = .slice ad n c ∧ n ≤ c) := by
  cases hx <;> simp only [lenA] at hn <;> try (cases hn; done)
  · injection hn with hn; exact .inl ⟨_, rfl, rfl, hn.symm⟩
  · injection hn with hn; subst hn; exact .inr ⟨_, _, rfl, by assumption⟩
  · injection hn with hn; subst hn; exact .inr ⟨_, _, rfl, by assumption⟩
  · injection hn with hn; subst hn; exact .inr ⟨_, _, rfl, by assumption⟩
theorem s_len (h : HR g ow σ w) {st : Bool} {x : AV} {cv : Value} (hx : VR g x cv) {n : Nat} (hst : ¬ (isSl x = st)) (hn : lenA x = some n) {t ty : TypeId} (ht : (st = true ∧ P.underlying t = some .string) ∨ (st = false ∧ ∃ e, P.underlying t = some (.slice e))) :
    OpOut bs g ow σ w (Sem.run P (do pure (Next.value (← Builtin.len_ #[t] ty #[cv]))) w) (.int .i64 (n : Int)) σ := by
  refine OpOut.pure h (cv := .int .i64 (n : Int)) ?_ (.int ..)
  cases hx <;> simp only [lenA] at hn <;> try (cases hn; done)
  · injection hn with hn; subst hn
    rcases ht with ⟨rfl, ht⟩ | ⟨rfl, _⟩
    · simp [Builtin.len_, run_und ht, goInt]
    · exact absurd rfl hst
  all_goals
    injection hn with hn; subst hn
    rcases ht with ⟨rfl, _⟩ | ⟨rfl, e, ht⟩
    · exact absurd rfl hst
    · simp [Builtin.len_, run_und ht, goInt]

theorem flat_take_drop {es : List AV} {s : Nat} (hc : ∀ e ∈ es, e.cells.length = s) (h0 : 0 < s) {l hh : Nat} {i : Nat} {x : AV} (hx : (flat ((es.take hh).drop l))[i]? = some x) : (flat es)[l * s + i]? = some x := by
  have h1 : ∀ (es : List AV) (l : Nat), (∀ e ∈ es, e.cells.length = s) → (flat (es.drop l)) = (flat es).drop (l * s) := by
    intro es
    induction es with
    | nil => intro l _; simp [flat]
    | cons e es ih =>
      intro l hc
      cases l with
      | zero => simp
      | succ l =>
        simp only [List.drop_succ_cons]
        rw [ih l fun e he => hc e (by simp [he])]
        simp only [flat, List.flatMap_cons]
        rw [List.drop_append, hc e (by simp)]
        have : e.cells.drop ((l + 1) * s) = [] := List.drop_eq_nil_of_le (by rw [hc e (by simp), Nat.add_mul]; omega)
        rw [this, List.nil_append, show (l + 1) * s - s = l * s by rw [Nat.add_mul]; omega]
  have h2 : ∀ (es : List AV) (k : Nat), ∃ ys, flat es = flat (es.take k) ++ ys := fun es k => ⟨flat (es.drop k), by rw [← flat_append, List.take_append_drop]⟩
  rw [List.drop_take] at hx
  obtain ⟨ys, hys⟩ := h2 (es.drop l) (hh - l)
  have h3 : (flat (es.drop l))[i]? = some x := by rw [hys, List.getElem?_append_left (getL hx)]; exact hx
  rw [h1 es l hc, List.getElem?_drop] at h3
  exact h3
theorem isl_cut {es : List AV} {s b p c ln hn : Nat} (h1 : ln ≤ hn) (h2 : hn ≤ es.length) (hlc : es.length ≤ c) (hc : ∀ e ∈ es, e.clo = true ∧ e.cells.length = s) (h0 : 0 < s) {ad : Option Addr} (ha : es = [] ∨ ad = some ⟨b, p, none⟩)
    {vs : Nat → Value} (hM : ∀ (i : Nat) x, (flat es)[i]? = some x → g.M b (p + i) = some (vs i)) (hV : ∀ (i : Nat) x, (flat es)[i]? = some x → VR g x (vs i)) :
    VR g (.isl ((es.take hn).drop ln) false) (.slice (if c = ln then ad else ad.map (·.add (ln * s))) (hn - ln) (c - ln)) := by
  have hlen : ((es.take hn).drop ln).length = hn - ln := by rw [List.length_drop, List.length_take]; omega
  have hsub : ∀ e ∈ (es.take hn).drop ln, e ∈ es := fun e he => List.mem_of_mem_take (List.mem_of_mem_drop he)
  rw [← hlen]
  refine isl_VR (b := b) (p := p + ln * s) (s := s) (fun e he => hc e (hsub e he)) h0 ?_ (fun hh => by cases hh) (by omega) fun i x hx => ?_
  · by_cases hz : hn = ln
    · exact .inl (List.eq_nil_of_length_eq_zero (by omega))
    · refine .inr ?_
      rw [if_neg (by omega)]
      rcases ha with rfl | rfl
      · simp at h2; omega
      · simp [addr_add]
  · have hx' := flat_take_drop (fun e he => (hc e he).2) h0 hx
    rw [Nat.add_assoc]
    exact ⟨_, hM _ _ hx', hV _ _ hx'⟩
theorem isl_nil_VR {ad : Option Addr} {c : Nat} : VR g (.isl [] false) (.slice ad 0 c) :=
  isl_VR (es := []) (b := 0) (p := 0) (s := 1) (by simp) (by omega) (.inl rfl) (fun hh => by cases hh) (Nat.zero_le _) (by simp [flat])
theorem all_lenIs {es : List AV} {sz : Nat} (h : es.all (lenIs sz) = true) {e : AV} (he : e ∈ es) : e.cells.length = sz := by
  have := List.all_eq_true.1 h e he; simpa [lenIs] using this
theorem slSl_sound {x : AV} {cv : Value} (hx : VR g x cv) {sz n ln hn : Nat} (hl : lenA x = some n) (h1 : ln ≤ hn) (he : slSlA sz ln hn x = some v) :
    ∃ ad c, cv = .slice ad n c ∧ n ≤ c ∧ VR g v (.slice (if c = ln then ad else ad.map (·.add (ln * sz))) (hn - ln) (c - ln)) := by
  cases hx <;> simp only [slSlA] at he <;> try (cases he; done)
  · rename_i es cap0 ad c b p s vs hc h0 ha hcap hlc hM hV
    simp only [lenA] at hl; injection hl with hl; subst hl
    split at he
    · rename_i hcond
      obtain ⟨_, h2, h3⟩ := hcond
      injection he with he; subst he
      refine ⟨_, _, rfl, hlc, ?_⟩
      have := isl_cut (g := g) (c := c) h1 h2 hlc hc h0 ha hM hV
      rcases h3 with rfl | h3
      · simpa using this
      · cases es with
        | nil => simp at h2; subst h2; simp at h1; subst h1; simpa using this
        | cons e es =>
          have e1 := (hc e (by simp)).2
          have e2 := all_lenIs h3 (e := e) (by simp)
          rw [e1] at e2; subst e2; exact this
    · cases he
  · rename_i id es c b p s vs hc h0 hp hlc hM hV
    simp only [lenA] at hl; injection hl with hl; subst hl
    split at he
    · rename_i hcond
      obtain ⟨_, h2, h3⟩ := hcond
      have := isl_cut (g := g) (c := c) h1 h2 hlc hc h0 (ad := some ⟨b, p, none⟩) (.inr rfl) hM hV
      split at he
      · rename_i hc2
        obtain ⟨rfl, rfl⟩ := hc2
        injection he with he; subst he
        refine ⟨_, _, rfl, hlc, ?_⟩
        have e0 : (if c = 0 then some (⟨b, p, none⟩ : Addr) else (some (⟨b, p, none⟩ : Addr)).map (·.add (0 * sz))) = some ⟨b, p, none⟩ := by
          split
          · rfl
          · simp [addr_add]
        rw [e0]
        exact .own vs hc h0 hp hlc hM hV
      · injection he with he; subst he
        refine ⟨_, _, rfl, hlc, ?_⟩
        rcases h3 with rfl | h3
        · simpa using this
        · cases es with
          | nil => simp at h2; subst h2; simp at h1; subst h1; simpa using this
          | cons e es =>
            have e1 := (hc e (by simp)).2
            have e2 := all_lenIs h3 (e := e) (by simp)
            rw [e1] at e2; subst e2; exact this
    · cases he
  · rename_i id off len sz' ag b c cc hp hcc h0 hlc
    simp only [lenA] at hl; injection hl with hl; subst hl
    split at he
    · rename_i hcond
      obtain ⟨_, h2, rfl⟩ := hcond
      refine ⟨_, _, rfl, hlc, ?_⟩
      split at he
      · rename_i e; subst e
        injection he with he; subst he
        rw [Nat.sub_self]; exact isl_nil_VR
      · rename_i e
        injection he with he; subst he
        rw [if_neg (by omega)]
        simp only [Option.map_some, addr_add]
        exact .sl hp (by rw [Nat.add_assoc, ← Nat.add_mul, Nat.add_sub_cancel' (by omega)]; exact hcc) h0 (by omega)
    · cases he
theorem s_slSl (h : HR g ow σ w) (hR : RR g ρ a.tmps) {t e : TypeId} {sz : Nat} (ht : P.underlying t = some (.slice e)) (hsz : sizeT P e = some sz) {x : AV} {cv : Value} (hx : VR g x cv) {n : Nat} (hl : lenA x = some n) (hns : ∀ s, x ≠ .str s)
    {lo hi : Option Operand} {xl xh : Option AX} (hlo : cxo lo = some xl) (hhi : cxo hi = some xh) {hn ln : Nat} (e1 : asNat n xh n ρ = some hn) (e2 : asNat hn xl 0 ρ = some ln) (he : slSlA sz ln hn x = some v) :
    OpOut bs g ow σ w (Sem.run P (do pure (Next.value (← Instr.sliceAt t cv (lo.map a.eval) (hi.map a.eval) none))) w) v σ := by
  obtain ⟨ad, c, rfl, hnc, hV⟩ := slSl_sound hx hl (asNat_le hR hlo e2 (Nat.zero_le _)) he
  refine OpOut.pure h ?_ hV
  simp only [Instr.sliceAt, Sem.run_bind, run_und ht, Result.andThen_ok, Instr.slice, run_bounds hR hlo hhi e1 e2 hnc, run_sizeT hsz, Sem.run_pure]
theorem s_slCl (h : HR g ow σ w) (hR : RR g ρ a.tmps) {t e : TypeId} {sz : Nat} (ht : P.underlying t = some (.slice e)) (hsz : sizeT P e = some sz) {es : List AV} {cap0 : Bool} {cv : Value} (hx : VR g (.isl es cap0) cv)
    {lo hi mx : Operand} {xl xh xm : AX} (hlo : cx lo = some xl) (hhi : cx hi = some xh) (hmx : cx mx = some xm) {m hn : Nat} (e0 : asNat es.length (some xm) es.length ρ = some m) (e1 : asNat m (some xh) es.length ρ = some hn) (e2 : asNat hn (some xl) 0 ρ = some 0) (hm : hn = m) :
    OpOut bs g ow σ w (Sem.run P (do pure (Next.value (← Instr.sliceAt t cv (some (a.eval lo)) (some (a.eval hi)) (some (a.eval mx))))) w) (.isl (es.take hn) true) σ := by
  subst hm
  cases hx with
  | @isl _ _ ad c b p s vs hc h0 ha hcap hlc hM hV =>
    have q0 := asNat_sound hR (o := some mx) (by simp [cxo, hmx]) e0
    have q1 := asNat_sound hR (o := some hi) (by simp [cxo, hhi]) e1
    have q2 := asNat_sound hR (o := some lo) (by simp [cxo, hlo]) e2
    rcases q0 with ⟨q0, _⟩ | ⟨y0, k0, q0, v0, l0⟩
    · cases q0
    rcases q1 with ⟨q1, _⟩ | ⟨y1, k1, q1, v1, l1⟩
    · cases q1
    rcases q2 with ⟨q2, _⟩ | ⟨y2, k2, q2, v2, l2⟩
    · cases q2
    injection q0 with q0; subst q0; injection q1 with q1; subst q1; injection q2 with q2; subst q2
    have hcut := isl_cut (g := g) (c := c) (ln := 0) (hn := hn) (Nat.zero_le _) l0 hlc hc h0 ha hM hV
    refine OpOut.pure h (cv := .slice ad hn hn) ?_ ?_
    · have hb0 := run_sliceBound (P := P) (k := k0) (n := hn) (len := c) (by omega) .slice3Acap w
      have hb1 := run_sliceBound (P := P) (k := k1) (n := hn) (len := hn) (Nat.le_refl _) .slice3B w
      have hb2 := run_sliceBound (P := P) (k := k2) (n := 0) (len := hn) (Nat.zero_le _) .slice3C w
      simp [Instr.sliceAt, run_und ht, Instr.slice, Instr.sliceBounds, v0, v1, v2, hb0, hb1, run_sizeT hsz]
      simp at hb2
      simp [hb2]
      intro h0; cases ad <;> simp [Addr.add]
    · have hl : (es.take hn).length = hn := by rw [List.length_take]; omega
      have h0' : VR g (.isl (es.take hn) true) (.slice ad (es.take hn).length hn) := by
        refine isl_VR (b := b) (p := p) (s := s) (fun e he => hc e (List.mem_of_mem_take he)) h0 (by rcases ha with rfl | rfl; exact .inl (by simp); exact .inr rfl) (fun _ => hl.symm) (by omega) fun i x hx => ?_
        have hx' : (flat es)[i]? = some x := by
          rw [← List.take_append_drop hn es, flat_append, List.getElem?_append_left (getL hx)]; exact hx
        exact ⟨_, hM _ _ hx', hV _ _ hx'⟩
      rw [hl] at h0'; exact h0'
end
end Go.Mach
