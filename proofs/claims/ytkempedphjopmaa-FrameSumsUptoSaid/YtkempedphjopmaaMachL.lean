import Derived.Test.YtkempedphjopmaaMachK
import Derived.Lib.ConvBytes
import Derived.Laws.BytesArg
set_option linter.unusedVariables false
set_option linter.unusedSimpArgs false
set_option linter.unnecessarySimpa false
namespace Go.Mach
open Go.RowKit

section
variable {P : Program} {bs : Nat} {g : Gh} {ow : Nat → Option Nat} {σ σ' : Heap} {w : World} {ρ : Regs} {a : Act} {v : AV}

theorem s_conv (h : HR g ow σ w) {src dst : TypeId} {k k0 : IntKind} (hs : P.underlying src = some (.int k0)) (hd : P.underlying dst = some (.int k)) {k1 : IntKind} {n : Int} :
    OpOut bs g ow σ w (Sem.run P (do pure (Next.value (← convert src dst (.int k1 n)))) w) (.int k (k.wrap n)) σ :=
  OpOut.pure h (by simp [convert, run_und hs, run_und hd, Conv.intToInt]) (.int ..)
theorem s_convS (h : HR g ow σ w) {src dst : TypeId} (hs : P.underlying src = some .string) (hd : P.underlying dst = some .string) {x : AV} {cx : Value} (hx : VR g x cx) (hst : ∃ s, x = .str s) :
    OpOut bs g ow σ w (Sem.run P (do pure (Next.value (← convert src dst cx))) w) x σ := by
  obtain ⟨s, rfl⟩ := hst
  cases hx
  exact OpOut.pure h (by simp [convert, run_und hs, run_und hd]) (.str _)
theorem isU8_und {t : TypeId} (h : isU8 P t = true) : P.underlying t = some (.int .u8) := by
  unfold isU8 at h; split at h
  · assumption
  · cases h
theorem u8s_get {s : ByteArray} {i : Nat} {x : AV} (h : (u8s s)[i]? = some x) : ∃ b : UInt8, s.data[i]? = some b ∧ x = .int .u8 (b.toNat : Int) := by
  simp only [u8s, List.getElem?_map] at h
  obtain ⟨b, hb, rfl⟩ := Option.map_eq_some_iff.1 h
  exact ⟨b, by simpa using hb, rfl⟩
theorem u8s_length (s : ByteArray) : (u8s s).length = s.size := by simp [u8s]
theorem s_s2b {src dst e : TypeId} (hs : P.underlying src = some .string) (hd : P.underlying dst = some (.slice e)) (he : P.underlying e = some (.int .u8)) {s : ByteArray} :
    NewRes g w (Sem.run P (do pure (Next.value (← convert src dst (.string s)))) w) (fun id => .sl id 0 s.size 1 false) (.cells (u8s s) 0 true) := by
  have hsz : s.data.size = s.size := rfl
  obtain ⟨cap, hcap, w1, hw1, hr1⟩ : ∃ cap, s.size ≤ cap ∧ ∃ w1 : World, (w1.heap = w.heap ∧ Same w w1) ∧ (choose (.appendCap s.size 0 e)).run P w = .ok cap w1 := by
    refine ⟨_, ?_, { w with drawn := w.drawn + 1 }, ⟨rfl, ⟨rfl, rfl, rfl⟩⟩, by simp only [run_choose, Question.forced]; rfl⟩
    simp [Question.cut]
  let cv : Array Value := s.data.map (fun b => Value.int .u8 (b.toNat : Int)) ++ Array.replicate (cap - s.size) (.int .u8 0)
  have hcv : cv.size = cap := by simp [cv, hsz]; omega
  let w2 : World := { w1 with heap := w1.heap.push (.cells cv e (cap, cap + 1)) }
  have hrun : (convert src dst (.string s)).run P w = .ok (.slice (some ⟨w.heap.size, 0, none⟩) s.size cap) w2 := by
    have hhs : w1.heap.size = w.heap.size := by rw [hw1.1]
    simp only [convert, Sem.run_bind, run_und hs, run_und hd, run_und he, Result.andThen_ok, Conv.stringToBytes, hr1, newRow, run_newObj, Sem.run_pure, markStringish, run_shape, run_freeze]
    have hshape : (World.shape? { w1 with heap := w1.heap.push (.cells cv e (0, 0)) } w1.heap.size) = some (e, cap) := by
      simp [World.shape?, hcv]
    simp only [cv] at hshape ⊢
    rw [hshape]
    simp only [run_freeze, Result.andThen_ok, hhs]
    congr 1
    simp only [World.freeze, w2]
    rw [if_neg (by omega)]
    congr 1
    apply Array.ext_getElem?
    intro j
    rw [Array.getElem?_modify]
    simp only [Array.getElem?_push, hhs]
    split
    · rename_i e; subst e; simp [cv]
    · rename_i e; simp [Ne.symm e]
  refine ⟨w2, .cells cv e (cap, cap + 1), cap, _, by simp [hrun], by simp [w2, hw1.1], ⟨hw1.2.os, hw1.2.tape, hw1.2.output⟩, fun cs fz ext e0 => ?_, fun s pos e => (by cases e), fun n s e => (by cases e), fun g' id hp => .sl hp (by omega) (by omega) hcap⟩
  injection e0 with e1 e2 e3; subst e1 e2 e3
  refine ⟨cv, e, (cap, cap + 1), rfl, by rw [u8s_length]; exact hcap, by omega, fun hh => (by cases hh), fun i x hx => ?_, fun i hi => by rw [u8s_length] at hi; simp; omega⟩
  obtain ⟨b, hb, rfl⟩ := u8s_get hx
  refine ⟨rfl, _, ?_, .int ..⟩
  have hi : i < s.data.size := (Array.getElem?_eq_some_iff.1 hb).1
  simp only [cv]
  rw [Array.getElem?_append_left (by simpa using hi)]; simp [hb]

/-! ### Elements of a slice -/
def elShape (sz : Nat) (ag : Bool) (e : AV) : Prop := e.cells.length = sz ∧ (if ag then ∃ cs, e = .agg cs else e.cellv = true)
theorem mk_false {l : List AV} {e : AV} (h : mk false l = some e) : l = [e] := by
  match l, h with
  | [y], h => simp only [mk] at h; injection h with h; rw [h]
theorem chunk_flat {sz : Nat} {ag : Bool} : ∀ {n : Nat} {win es : List AV}, (∀ x ∈ win, x.cellv = true) → chunk sz ag n win = some es → win.length = n * sz → flat es = win ∧ es.length = n ∧ ∀ e ∈ es, elShape sz ag e
  | 0, win, es, _, h, hl => by
    simp only [chunk] at h; injection h with h; subst h
    exact ⟨by simp at hl; simp [flat, hl], rfl, fun e he => by simp at he⟩
  | n + 1, win, es, hc, h, hl => by
    simp only [chunk] at h
    obtain ⟨e, he, h⟩ := Option.bind_eq_some_iff.1 h
    obtain ⟨es', hes, rfl⟩ := Option.map_eq_some_iff.1 h
    have hle : sz ≤ win.length := by rw [hl, Nat.add_mul]; omega
    obtain ⟨i1, i2, i3⟩ := chunk_flat (fun x hx => hc x (List.mem_of_mem_drop hx)) hes (by rw [List.length_drop, hl, Nat.add_mul]; omega)
    have htl : (win.take sz).length = sz := by rw [List.length_take]; omega
    have hcells : e.cells = win.take sz ∧ elShape sz ag e := by
      cases ag with
      | true => simp only [mk] at he; injection he with he; subst he; exact ⟨rfl, htl, by simp⟩
      | false =>
        have hu := mk_false he
        have hx : e.cellv = true := hc e (List.mem_of_mem_take (by rw [hu]; simp))
        rw [hu] at htl
        exact ⟨by rw [hu, AV.cells_of_cellv hx], by rw [AV.cells_of_cellv hx]; exact htl, by simpa using hx⟩
    refine ⟨?_, by simp [i2], fun y hy => ?_⟩
    · simp only [flat, List.flatMap_cons] at i1 ⊢
      rw [i1, hcells.1, List.take_append_drop]
    · rcases List.mem_cons.1 hy with rfl | hy
      · exact hcells.2
      · exact i3 y hy

/-- What a slice's cells hold in memory. -/
structure SlRd (g : Gh) (w : World) (a : Option Addr) (cs : List AV) (us : List Value) : Prop where
  len : us.length = cs.length
  at_ : 0 < us.length → ∃ b p, a = some ⟨b, p, none⟩ ∧ ∀ (j : Nat) u, us[j]? = some u → w.cell? ⟨b, p + j, none⟩ = some u
  val : ∀ (j : Nat) x, cs[j]? = some x → x.cellv = true ∧ ∃ u, us[j]? = some u ∧ VR g x u
theorem Rd.sl {g w b p cs} (h : Rd g w b p cs) {a : Option Addr} (ha : 0 < cs.length → a = some ⟨b, p, none⟩) : ∃ us, SlRd g w a cs us := by
  obtain ⟨us, h1, h2, h3⟩ := h.vals
  exact ⟨us, h1, fun h0 => ⟨b, p, ha (by omega), fun j u hu => by have := h2 j u hu; rwa [addr_add] at this⟩, h3⟩
theorem Rd.ofM {g ow σ w} (h : HR g ow σ w) {b p : Nat} {cs : List AV} {vs : Nat → Value} (hc : ∀ x ∈ cs, x.clo1 = true) (hM : ∀ (i : Nat) x, cs[i]? = some x → g.M b (p + i) = some (vs i)) (hV : ∀ (i : Nat) x, cs[i]? = some x → VR g x (vs i)) : Rd g w b p cs :=
  fun i x hx => ⟨clo1_cellv (hc x (List.mem_of_getElem? hx)), vs i, h.mem _ _ _ (hM i x hx), hV i x hx⟩
theorem elems_sound (h : HR g ow σ w) {x : AV} {cv : Value} (hx : VR g x cv) {sz : Nat} {ag : Bool} {es : List AV} (he : elemsA σ sz ag x = some es) (hns : ∀ s, x ≠ .str s) :
    ∃ ad n c us, cv = .slice ad n c ∧ n = es.length ∧ SlRd g w ad (flat es) us ∧ n ≤ c := by
  cases hx <;> simp only [elemsA] at he <;> try (cases he; done)
  · exact absurd rfl (hns _)
  · rename_i cap0 a c b p s es' hc h0 ha hcap hn hM hV
    injection he with he; subst he
    obtain ⟨us, hus⟩ := (Rd.ofM h (fun x hx => flat_clo1 hc hx) hM hV).sl (a := a) (fun hl => by
      rcases ha with rfl | ha
      · simp [flat] at hl
      · exact ha)
    exact ⟨_, _, _, us, rfl, rfl, hus, hn⟩
  · rename_i id c b p s es' hc h0 hp hn hM hV
    injection he with he; subst he
    obtain ⟨us, hus⟩ := (Rd.ofM h (fun x hx => flat_clo1 hc hx) hM hV).sl (a := some ⟨b, p, none⟩) (fun _ => rfl)
    exact ⟨_, _, _, us, rfl, rfl, hus, hn⟩
  · rename_i id off len sz' ag' b c cc hp hcc h0 hl
    split at he
    · rename_i cs fz ext hσ
      obtain ⟨win, hw, hch⟩ := Option.bind_eq_some_iff.1 he
      obtain ⟨hr, hlen⟩ := (Rd.cel h hσ hp).win hw
      rw [Nat.zero_add] at hr
      obtain ⟨i1, i2, _⟩ := chunk_flat (fun x hx => by obtain ⟨i, hi, rfl⟩ := List.getElem_of_mem hx; exact (hr i _ (List.getElem?_eq_getElem hi)).1) hch hlen
      rw [← i1] at hr
      obtain ⟨us, hus⟩ := hr.sl (a := some ⟨b, off, none⟩) (fun _ => rfl)
      exact ⟨_, _, _, us, rfl, i2.symm, hus, hl⟩
    · cases he
theorem ofU8_int {x : AV} {b : UInt8} (h : ofU8 x = some b) : ∃ n, x = .int .u8 n ∧ b = UInt8.ofNat n.toNat := by
  unfold ofU8 at h; split at h
  · injection h with h; exact ⟨_, rfl, h.symm⟩
  · cases h
theorem bytesA_ints : ∀ {es : List AV} {bs : List UInt8}, es.mapM ofU8 = some bs → ∃ xs : List Int, es = xs.map (AV.int .u8) ∧ bs = xs.map fun n => UInt8.ofNat n.toNat
  | [], bs, h => by simp at h; exact ⟨[], rfl, by simp [h]⟩
  | e :: es, bs, h => by
    rw [List.mapM_cons] at h
    simp only [Option.bind_eq_bind, Option.bind_eq_some_iff, Option.pure_def] at h
    obtain ⟨b, hb, bs', hbs, e⟩ := h
    injection e with e; subst e
    obtain ⟨n, rfl, rfl⟩ := ofU8_int hb
    obtain ⟨xs, rfl, rfl⟩ := bytesA_ints hbs
    exact ⟨n :: xs, rfl, rfl⟩
theorem s_b2s (h : HR g ow σ w) {src dst e : TypeId} (hs : P.underlying src = some (.slice e)) (he : P.underlying e = some (.int .u8)) (hd : P.underlying dst = some .string) {x : AV} {cx : Value} (hx : VR g x cx)
    (hns : ∀ s, x ≠ .str s) {es : List AV} {s : ByteArray} (h1 : elemsA σ 1 false x = some es) (h2 : bytesA es = some s) : OpOut bs g ow σ w (Sem.run P (do pure (Next.value (← convert src dst cx))) w) (.str s) σ := by
  obtain ⟨b, hb, rfl⟩ := Option.map_eq_some_iff.1 h2
  obtain ⟨xs, rfl, rfl⟩ := bytesA_ints hb
  obtain ⟨ad, n, c, us, rfl, rfl, hus, hn⟩ := elems_sound h hx h1 hns
  refine OpOut.pure h (cv := .string (strOfNums xs)) ?_ (.str _)
  have hflat : flat (xs.map (AV.int .u8)) = xs.map (AV.int .u8) := by
    simp only [flat, List.flatMap_map]; rw [← List.flatMap_singleton' (xs.map _), List.flatMap_map]; rfl
  rw [hflat] at hus
  cases ad with
  | none =>
    have hl : us.length = 0 := by
      rcases Nat.eq_zero_or_pos us.length with h | h
      · exact h
      · obtain ⟨b, p, hbp, _⟩ := hus.at_ h; cases hbp
    have : xs = [] := by have := hus.len; simp [hl] at this; exact List.eq_nil_of_length_eq_zero this.symm
    subst this
    simp only [Sem.run_bind, run_convert_bytes_nil w src e hs he _ _ dst hd, Result.andThen_ok, Sem.run_pure]
    rfl
  | some ad =>
    by_cases h0 : 0 < us.length
    · obtain ⟨b, p, hbp, hc⟩ := hus.at_ h0
      injection hbp with hbp; subst hbp
      have hl := hus.len; simp at hl
      have hrun := run_convert_bytes_arg (P := P) w src e hs he b p xs.length c xs rfl (fun i hi => by
        obtain ⟨_, u, hu, hV⟩ := hus.val i (.int .u8 xs[i]) (by simp [hi])
        rw [hc i u hu]
        cases hV
        simp [List.getD_eq_getElem?_getD, hi]) dst hd
      simp only [List.length_map, Sem.run_bind, hrun, Result.andThen_ok, Sem.run_pure]
    · have : xs = [] := by have := hus.len; simp at this; exact List.eq_nil_of_length_eq_zero (by omega)
      subst this
      obtain ⟨b, p, sp⟩ := ad
      have := run_loadCells_list (P := P) w ⟨b, p, sp⟩ [] (by simp)
      simp [convert, run_und hs, run_und he, run_und hd, Conv.bytesToString] at this ⊢
      simp [this]; rfl
end
end Go.Mach
