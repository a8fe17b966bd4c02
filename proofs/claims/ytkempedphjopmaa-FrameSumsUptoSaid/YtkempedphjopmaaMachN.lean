import Derived.Test.YtkempedphjopmaaMachM
set_option linter.unusedVariables false
set_option linter.unusedSimpArgs false
set_option linter.unnecessarySimpa false
namespace Go.Mach
open Go.RowKit

section
variable {P : Program} {bs : Nat} {g : Gh} {ow : Nat → Option Nat} {σ σ' : Heap} {w : World} {ρ : Regs} {a : Act} {v : AV}

theorem s_arrSl (h : HR g ow σ w) (hR : RR g ρ a.tmps) {t e : TypeId} {n sz : Nat} {ag : Bool} (ht : P.underlying t = some (.array n e)) (hsz : sizeT P e = some sz) {id off : Nat} {cv : Value} (hx : VR g (.ptr id off) cv) {cs : List AV} {fz : Nat} (hσ : σ[id]? = some (.cells cs fz false))
    {lo hi : Option Operand} {xl xh : Option AX} (hlo : cxo lo = some xl) (hhi : cxo hi = some xh) {hn ln : Nat} (e1 : asNat n xh n ρ = some hn) (e2 : asNat hn xl 0 ρ = some ln) (hc : off + n * sz = cs.length) (h0 : 0 < sz) (hln : ln < n) :
    OpOut bs g ow σ w (Sem.run P (do pure (Next.value (← Instr.sliceAt t cv (lo.map a.eval) (hi.map a.eval) none))) w) (.sl id (off + ln * sz) (hn - ln) sz ag) σ := by
  cases hx with
  | @ptr _ _ b c hp =>
    obtain ⟨cw, tag, fr, k0, k1, k2, k3, k4, k5, k6⟩ := h.cel id cs fz false hσ b c hp
    have h1 : hn ≤ n := asNat_le hR hhi e1 (Nat.le_refl _)
    have h2 : ln ≤ hn := asNat_le hR hlo e2 (Nat.zero_le _)
    refine OpOut.pure h (cv := .slice (some ⟨b, off + ln * sz, none⟩) (hn - ln) (n - ln)) ?_ (.sl hp ?_ h0 (by omega))
    · simp only [Instr.sliceAt, Sem.run_bind, run_und ht, Result.andThen_ok, Instr.sureAddr, Sem.run_pure, run_bounds hR hlo hhi e1 e2 (Nat.le_refl _), run_sizeT hsz]
      rw [if_neg (by omega)]; simp [addr_add]
    · rw [k3 rfl, ← hc, Nat.add_assoc, ← Nat.add_mul, Nat.add_sub_cancel' (by omega)]

theorem run_fieldPlace {t : TypeId} {s : Nat} (hs : sizeT P t = some (s + 1)) {f : Field} (hf : f.type = t) (ad : Addr) (w : World) : (fieldPlace ad f).run P w = .ok (ad.add f.offset) w := by
  subst hf; simp [fieldPlace, run_sizeT hs]
theorem s_faddr (h : HR g ow σ w) {t : TypeId} {fs : Array Field} {fi : Nat} {fd : Field} (ht : P.underlying t = some (.struct fs)) (hf : fs[fi]? = some fd) {s : Nat} (hs : sizeT P fd.type = some (s + 1)) {x : AV} {cv : Value} (hx : VR g x cv)
    (hv : (match x with | .ptr id o => some (.ptr id (o + fd.offset)) | .iptr cs o => some (.iptr cs (o + fd.offset)) | _ => (none : Option AV)) = some v) :
    OpOut bs g ow σ w (Sem.run P (do pure (Next.value (← Instr.fieldAt t cv fi))) w) v σ := by
  cases hx <;> simp only at hv <;> try (cases hv; done)
  · rename_i id off b c hp
    injection hv with hv; subst hv
    exact OpOut.pure h (by simp [Instr.fieldAt, run_und ht, hf, Instr.sureAddr, run_fieldPlace hs rfl, addr_add]) (.ptr hp)
  · rename_i cs off b p vs hc hM hV
    injection hv with hv; subst hv
    refine OpOut.pure h (cv := .pointer (some ⟨b, p + (off + fd.offset), none⟩)) ?_ (.iptr vs hc hM hV)
    simp [Instr.fieldAt, run_und ht, hf, Instr.sureAddr, run_fieldPlace hs rfl, addr_add, Nat.add_assoc]

/-- A part of an aggregate. -/
theorem run_part {cs : List AV} {vs : Array Value} (hl : cs.length = vs.size) (hc : ∀ x ∈ cs, x.cellv = true) (hV : ∀ (i : Nat) x v, cs[i]? = some x → vs[i]? = some v → VR g x v) {t : TypeId} {sz : Nat} {ag : Bool} (hs : sizeT P t = some sz) (ha : aggT P t = some ag) {off : Nat} {win : List AV}
    (hw : window cs off sz = some win) (hm : mk ag win = some v) (w : World) : ∃ u, (part t vs off).run P w = .ok u w ∧ VR g v u := by
  unfold window at hw; split at hw
  · rename_i hle
    injection hw with hw; subst hw
    have hget : ∀ (j : Nat) x, ((cs.drop off).take sz)[j]? = some x → j < sz ∧ cs[off + j]? = some x := fun j x hx => by
      rw [List.getElem?_take] at hx; split at hx
      · rw [List.getElem?_drop] at hx; exact ⟨by assumption, hx⟩
      · cases hx
    have hex : ∀ j, j < sz → (vs.extract off (off + sz))[j]? = vs[off + j]? := fun j hj => by
      rw [Array.getElem?_extract]; rw [if_pos (by omega)]
    cases ag with
    | true =>
      simp only [mk] at hm; injection hm with hm; subst hm
      refine ⟨.agg (vs.extract off (off + sz)), by simp [part, run_aggT ha, run_sizeT hs], .agg (by simp; omega) (fun x hx => ?_) fun j x u hx hu => ?_⟩
      · exact hc x (List.mem_of_mem_drop (List.mem_of_mem_take hx))
      · obtain ⟨hj, hx'⟩ := hget j x hx
        rw [hex j hj] at hu; exact hV _ _ _ hx' hu
    | false =>
      have hu := mk_false hm
      have hx := hget 0 v (by rw [hu]; rfl)
      have hlt : off < vs.size := by rw [← hl]; have := getL hx.2; omega
      have hg : vs[off]? = some vs[off] := Array.getElem?_eq_getElem hlt
      refine ⟨vs[off], ?_, hV off v _ (by simpa using hx.2) hg⟩
      simp only [part, Sem.run_bind, run_aggT ha, Result.andThen_ok, hg]; rfl
  · cases hw
theorem s_field (h : HR g ow σ w) {t : TypeId} {fs : Array Field} {fi : Nat} {fd : Field} (ht : P.underlying t = some (.struct fs)) (hf : fs[fi]? = some fd) {sz : Nat} {ag : Bool} (hs : sizeT P fd.type = some sz) (ha : aggT P fd.type = some ag) {cs : List AV} {cv : Value} (hx : VR g (.agg cs) cv)
    {win : List AV} (hw : window cs fd.offset sz = some win) (hm : mk ag win = some v) : OpOut bs g ow σ w (Sem.run P (do pure (Next.value (← Instr.field t cv fi))) w) v σ := by
  cases hx with
  | agg hl hc hV =>
    obtain ⟨u, hr, hu⟩ := run_part hl hc hV hs ha hw hm w
    exact OpOut.pure h (by simp [Instr.field, run_und ht, hf, asAgg, hr]) hu
theorem s_idxArr (h : HR g ow σ w) {t e : TypeId} {n sz : Nat} {ag : Bool} (ht : P.underlying t = some (.array n e)) (hs : sizeT P e = some sz) (ha : aggT P e = some ag) {cs : List AV} {cv : Value} (hx : VR g (.agg cs) cv) {k : IntKind} {m : Int} (h0 : 0 ≤ m) (h1 : m < n)
    {win : List AV} (hw : window cs (m.toNat * sz) sz = some win) (hm : mk ag win = some v) : OpOut bs g ow σ w (Sem.run P (do pure (Next.value (← Instr.index t cv (.int k m)))) w) v σ := by
  cases hx with
  | agg hl hc hV =>
    obtain ⟨u, hr, hu⟩ := run_part hl hc hV hs ha hw hm w
    exact OpOut.pure h (by simp [Instr.index, asIntOf, run_und ht, h0, h1, run_sizeT hs, hr]) hu
theorem s_idxStr (h : HR g ow σ w) {t : TypeId} (ht : P.underlying t = some .string) {s : ByteArray} {k : IntKind} {m : Int} (h0 : 0 ≤ m) {b : UInt8} (hb : s.data.toList[m.toNat]? = some b) :
    OpOut bs g ow σ w (Sem.run P (do pure (Next.value (← Instr.index t (.string s) (.int k m)))) w) (.int .u8 (b.toNat : Int)) σ := by
  have hb' : s[m.toNat]? = some b := by
    rw [Array.getElem?_toList] at hb; exact hb
  exact OpOut.pure h (by simp [Instr.index, asIntOf, run_und ht, h0, hb']) (.int ..)

theorem s_iaddrS (h : HR g ow σ w) {t e : TypeId} {sz : Nat} (ht : P.underlying t = some (.slice e)) (hs : sizeT P e = some sz) {x : AV} {cv : Value} (hx : VR g x cv) {k : IntKind} {m : Int} (h0 : 0 ≤ m)
    (hv : (match x with
      | .isl es _ => es[m.toNat]?.bind fun e => if e.cells.length = sz then some (.iptr e.cells 0) else none
      | .own _ es => es[m.toNat]?.bind fun e => if e.cells.length = sz then some (.iptr e.cells 0) else none
      | .sl id off len sz' _ => if m < len ∧ sz = sz' then some (.ptr id (off + m.toNat * sz)) else none
      | _ => (none : Option AV)) = some v) : OpOut bs g ow σ w (Sem.run P (do pure (Next.value (← Instr.indexAt t cv (.int k m)))) w) v σ := by
  have hflat : ∀ (es : List AV) (s : Nat) (i : Nat) (e : AV), (∀ e ∈ es, e.cells.length = s) → es[i]? = some e → ∀ (j : Nat) x, e.cells[j]? = some x → (flat es)[i * s + j]? = some x := by
    intro es s
    induction es with
    | nil => intro i e _ he; simp at he
    | cons e0 es ih =>
      intro i e hc he j x hx
      simp only [flat, List.flatMap_cons]
      have hl0 := hc e0 (by simp)
      cases i with
      | zero => simp at he; subst he; rw [Nat.zero_mul, Nat.zero_add, List.getElem?_append_left (getL hx)]; exact hx
      | succ i =>
        simp at he
        rw [List.getElem?_append_right (by rw [hl0, Nat.add_mul]; omega), hl0]
        have := ih i e (fun e he => hc e (by simp [he])) he j x hx
        rw [show (i + 1) * s + j - s = i * s + j by rw [Nat.add_mul]; omega]; exact this
  have hmain : ∀ (es : List AV) (b p c s : Nat) (vs : Nat → Value) (ad : Option Addr) (e : AV), (∀ e ∈ es, e.clo = true ∧ e.cells.length = s) → 0 < s → (es = [] ∨ ad = some ⟨b, p, none⟩) → (∀ (i : Nat) x, (flat es)[i]? = some x → g.M b (p + i) = some (vs i)) → (∀ (i : Nat) x, (flat es)[i]? = some x → VR g x (vs i)) →
      es[m.toNat]? = some e → e.cells.length = sz → OpOut bs g ow σ w (Sem.run P (do pure (Next.value (← Instr.indexAt t (.slice ad es.length c) (.int k m)))) w) (.iptr e.cells 0) σ := by
    intro es b p c s vs ad e hc hs0 ha hM hV he hsz
    have hlt := getL he
    have hem := List.mem_of_getElem? he
    have hss : s = sz := by rw [← hsz]; exact (hc e hem).2.symm
    subst hss
    rcases ha with rfl | rfl
    · simp at hlt
    have hcl : ∀ x ∈ e.cells, x.clo1 = true := fun x hx => by
      have := (hc e hem).1
      cases e <;> simp_all [AV.cells, AV.clo, AV.clo1]
    refine OpOut.pure h (cv := .pointer (some ⟨b, p + m.toNat * s + 0, none⟩)) ?_ (.iptr (fun j => vs (m.toNat * s + j)) hcl (fun j x hx => ?_) (fun j x hx => ?_))
    · have hm : m < (es.length : Int) := by omega
      simp [Instr.indexAt, asIntOf, run_und ht, h0, hm, run_sizeT hs, addr_add]
    · rw [Nat.add_assoc]; exact hM _ _ (hflat es s _ e (fun e he => (hc e he).2) he j x hx)
    · exact hV _ _ (hflat es s _ e (fun e he => (hc e he).2) he j x hx)
  cases hx <;> simp only at hv <;> try (cases hv; done)
  · rename_i es cap0 ad c b p s vs hc hs0 ha hcap hn hM hV
    obtain ⟨e, he, hv⟩ := Option.bind_eq_some_iff.1 hv
    split at hv
    · rename_i hsz; injection hv with hv; subst hv
      exact hmain es b p c s vs ad e hc hs0 ha hM hV he hsz
    · cases hv
  · rename_i id es c b p s vs hc hs0 hp hn hM hV
    obtain ⟨e, he, hv⟩ := Option.bind_eq_some_iff.1 hv
    split at hv
    · rename_i hsz; injection hv with hv; subst hv
      exact hmain es b p c s vs _ e hc hs0 (.inr rfl) hM hV he hsz
    · cases hv
  · rename_i id off len sz' ag b c cc hp hcc hs0 hl
    split at hv
    · rename_i hcond; obtain ⟨hm, rfl⟩ := hcond
      injection hv with hv; subst hv
      refine OpOut.pure h (cv := .pointer (some ⟨b, off + m.toNat * sz, none⟩)) ?_ (.ptr hp)
      simp [Instr.indexAt, asIntOf, run_und ht, h0, hm, run_sizeT hs, addr_add]
    · cases hv
theorem s_iaddrA (h : HR g ow σ w) {t e : TypeId} {n sz : Nat} (ht : P.underlying t = some (.array n e)) (hs : sizeT P e = some sz) {id off : Nat} {cv : Value} (hx : VR g (.ptr id off) cv) {k : IntKind} {m : Int} (h0 : 0 ≤ m) (h1 : m < n) :
    OpOut bs g ow σ w (Sem.run P (do pure (Next.value (← Instr.indexAt t cv (.int k m)))) w) (.ptr id (off + m.toNat * sz)) σ := by
  cases hx with
  | @ptr _ _ b c hp =>
    refine OpOut.pure h (cv := .pointer (some ⟨b, off + m.toNat * sz, none⟩)) ?_ (.ptr hp)
    simp [Instr.indexAt, asIntOf, run_und ht, Instr.sureAddr, h0, h1, run_sizeT hs, addr_add]

theorem s_rng {t : TypeId} (ht : P.underlying t = some .string) {s : ByteArray} : NewRes g w (Sem.run P (do pure (Next.value (← Instr.range t (.string s)))) w) (fun id => .ptr id 0) (.iter s 0) :=
  ⟨w.alloc (.stringIter s 0), _, 0, .pointer (some ⟨w.heap.size, 0, none⟩), by simp [Instr.range, run_und ht], rfl, ⟨rfl, rfl, rfl⟩, fun cs fz ext e => (by cases e), fun s' pos e => (by injection e with e1 e2; subst e1 e2; rfl), fun n s e => (by cases e), fun g' id hp => .ptr hp⟩
theorem s_nxt (h : HR g ow σ w) {id : Nat} {cv : Value} (hx : VR g (.ptr id 0) cv) {s : ByteArray} {pos : Nat} (hσ : σ[id]? = some (.iter s pos)) {ty : TypeId} :
    OpOut bs g ow σ w (Sem.run P (do pure (Next.value (← Instr.next cv true ty))) w) (if pos < s.size then .tup [.bool true, .int .i64 (pos : Int), .int .i32 (Utf8.decode s pos).1] else .tup [.bool false])
      (if pos < s.size then σ.set id (.iter s (pos + (Utf8.decode s pos).2)) else σ) := by
  cases hx with
  | @ptr _ _ b c hp =>
    obtain ⟨k0, k1⟩ := h.it id s pos hσ b c hp
    have hgo : ∀ (r : Obj), (Sem.run P (getObj b) w) = .ok (.stringIter s pos) w := fun _ => by
      simp only [getObj, Sem.run, k0]
    have hgo := hgo (.stringIter s pos)
    by_cases hlt : pos < s.size
    · rw [if_pos hlt, if_pos hlt]
      let w' : World := { w with heap := w.heap.setIfInBounds b (.stringIter s (pos + (Utf8.decode s pos).2)) }
      have hset : (setObj b (.stringIter s (pos + (Utf8.decode s pos).2))).run P w = .ok () w' := by simp only [setObj, Sem.run, k0]; rfl
      obtain ⟨hH, hS⟩ := h.iterSet (bs := bs) (w' := w') hσ hp rfl ⟨rfl, rfl, rfl⟩
      refine ⟨g, ow, w', .tuple #[.bool true, goInt pos, .int .i32 (Utf8.decode s pos).1], .inl ?_, ?_, hH, hS⟩
      · simp only [Instr.next, Sem.run_bind, hgo, Result.andThen_ok, if_pos hlt, hset, Sem.run_pure]
      · refine .tup rfl fun i x v hx hv => ?_
        match i, hx, hv with
        | 0, hx, hv => simp at hx hv; subst hx hv; exact .bool _
        | 1, hx, hv => simp at hx hv; subst hx hv; exact .int ..
        | 2, hx, hv => simp at hx hv; subst hx hv; exact .int ..
        | n + 3, hx, hv => simp at hx
    · rw [if_neg hlt, if_neg hlt]
      refine OpOut.pure h (cv := .tuple #[.bool false]) ?_ (.tup rfl fun i x v hx hv => ?_)
      · simp only [Instr.next, Sem.run_bind, hgo, Result.andThen_ok, if_neg hlt, Sem.run_pure]
      · match i, hx, hv with
        | 0, hx, hv => simp at hx hv; subst hx hv; exact .bool _
        | n + 1, hx, hv => simp at hx
theorem s_extract (h : HR g ow σ w) {vs : List AV} {cv : Value} (hx : VR g (.tup vs) cv) {i : Nat} (hi : vs[i]? = some v) : OpOut bs g ow σ w (Sem.run P (do pure (Next.value (← Instr.extract cv i))) w) v σ := by
  cases hx with
  | @tup _ us hl hV =>
    have hlt : i < us.size := by rw [← hl]; exact getL hi
    have hg := Array.getElem?_eq_getElem hlt
    exact OpOut.pure h (by simp only [Instr.extract, hg, Sem.run_bind]; rfl) (hV i v _ hi hg)
theorem s_min2 (h : HR g ow σ w) {t : Array TypeId} {ty : TypeId} {k k' : IntKind} {x y : Int} : OpOut bs g ow σ w (Sem.run P (do pure (Next.value (← Builtin.min_ t ty #[.int k x, .int k' y]))) w) (.int k (if y < x then y else x)) σ :=
  OpOut.pure h (by simp [Builtin.min_, Builtin.min2]) (.int ..)
theorem s_mkfn (h : HR g ow σ w) (hR : RR g ρ a.tmps) {f : Nat} {caps : List Operand} {xs : List AX} (hc : caps.mapM cx = some xs) :
    OpOut bs g ow σ w (Sem.run P (do pure (Next.value (← Instr.makeFunc (.func f) #[] (caps.map a.eval).toArray))) w) (.func f (xs.map (ev ρ))) σ := by
  have hm : ∀ (caps : List Operand) (xs : List AX), caps.mapM cx = some xs → xs.length = caps.length ∧ ∀ (i : Nat) x o, xs[i]? = some x → caps[i]? = some o → VR g (ev ρ x) (a.eval o) := by
    intro caps
    induction caps with
    | nil => intro xs h; simp at h; subst h; exact ⟨rfl, fun i x o hx => by simp at hx⟩
    | cons c caps ih =>
      intro xs h
      rw [List.mapM_cons] at h
      simp only [Option.bind_eq_bind, Option.bind_eq_some_iff, Option.pure_def] at h
      obtain ⟨x, hx, ys, hys, e⟩ := h
      injection e with e; subst e
      obtain ⟨h1, h2⟩ := ih ys hys
      refine ⟨by simp [h1], fun i y o hy ho => ?_⟩
      cases i with
      | zero => simp at hy ho; subst hy ho; exact ev_VR hR hx
      | succ i => simp at hy ho; exact h2 i y o hy ho
  obtain ⟨h1, h2⟩ := hm caps xs hc
  refine OpOut.pure h (cv := .func (.func f) #[] (caps.map a.eval).toArray) (by simp [Instr.makeFunc]) (.func (by simp [h1]) fun i x v hx hv => ?_)
  simp only [List.getElem?_map] at hx
  obtain ⟨y, hy, rfl⟩ := Option.map_eq_some_iff.1 hx
  simp only [List.getElem?_toArray, List.getElem?_map] at hv
  obtain ⟨o, ho, rfl⟩ := Option.map_eq_some_iff.1 hv
  exact h2 i y o hy ho
theorem s_mksl {t e : TypeId} {sz bytes : Nat} {ag : Bool} (ht : P.underlying t = some (.slice e)) (hs : sizeT P e = some sz) {zs : List AV} (hz : zeroT P e = some zs) (hb : (P.info? e).map (·.bytes) = some bytes) (hzl : zs.length = sz) (h0 : 0 < sz) {n : Int} (hn : 0 ≤ n) (hnb : n * bytes ≤ 70368744177664) (hn2 : n ≤ 70368744177664) :
    NewRes g w (Sem.run P (do pure (Next.value (← Instr.makeSlice t (.int .i64 n) (.int .i64 n)))) w) (fun id => .sl id 0 n.toNat sz ag) (.cells ((List.replicate n.toNat zs).flatten) 0 false) := by
  obtain ⟨m, rfl⟩ := Int.eq_ofNat_of_zero_le hn
  obtain ⟨z, hr, hl, hv⟩ := run_zeroT hz
  obtain ⟨i, hi, rfl⟩ := Option.map_eq_some_iff.1 hb
  obtain ⟨hrl, hrv⟩ := rep_get (g := g) (n := m) hzl h0 hl (fun i x hx => hv g i x hx)
  have hwrap : IntKind.i64.wrap (m : Int) = m := by
    simp only [IntKind.wrap, IntKind.signed, IntKind.bits]
    have : (m : Int) % (2 ^ 64 : Int) = m := Int.emod_eq_of_lt (by omega) (by omega)
    simp [this]; omega
  have hget : ∀ j, j < m * sz → ((Array.range (m * sz)).map fun i => z.cells[i % z.cells.size]!)[j]? = z.cells[j % sz]? := fun j hj => by
    have hzs : z.cells.size = sz := by omega
    have : j % sz < z.cells.size := by rw [hzs]; exact Nat.mod_lt _ h0
    simp [hj, hzs, getElem!_pos z.cells (j % sz) this, Array.getElem?_eq_getElem this]
  refine out_new (t := e) (cv := (Array.range (m * sz)).map fun i => z.cells[i % z.cells.size]!) (mkv := fun x => .slice (some x) m m) (by simp [hrl]) (fun i x hx => by
    obtain ⟨h1, h2, h3⟩ := hrv i x hx; exact ⟨h2, by rw [hget i h1]; exact h3⟩) ?_ fun g' id hp => .sl hp (by simp [hrl]) h0 (Nat.le_refl _)
  by_cases hm0 : m * sz = 0
  · have : m = 0 := by rcases Nat.mul_eq_zero.1 hm0 with h | h <;> omega
    subst this
    have hwrap' : IntKind.i64.wrap 0 = 0 := by simpa using hwrap
    have e0 : ∀ f : Nat → Value, (Array.range 0).map f = #[] := fun f => by apply Array.ext'; simp [Array.range]
    simp [Instr.makeSlice, run_und ht, asInt, asIntOf, typeInfo, hi, hwrap', run_sizeT hs, newRow, e0]
  · simp [Instr.makeSlice, run_und ht, asInt, asIntOf, typeInfo, hi, hwrap, run_sizeT hs, newRow, hm0, hr]
    intro hh
    exfalso
    have h1 : (i.bytes : Int) * m = m * i.bytes := Int.mul_comm ..
    omega
end
end Go.Mach
