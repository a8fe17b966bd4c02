import Derived.Calls
import Derived.Laws.AppendOwn
import Derived.Below
import Derived.Laws.World
import Derived.Laws.Sem
import Derived.Laws.Cells
import Derived.Laws.Append
set_option linter.unusedVariables false
set_option linter.unusedSimpArgs false
set_option linter.unnecessarySimpa false
namespace Go.Mach
open Go.RowKit

/-! ### Values without addresses -/
inductive AV where
  | undef
  | int (k : IntKind) (n : Int)
  | bool (b : Bool)
  | str (s : ByteArray)
  | nilptr
  | nilfunc
  | ptr (id off : Nat)
  | iptr (cs : List AV) (off : Nat)
  | isl (es : List AV) (cap0 : Bool)
  | own (id : Nat) (es : List AV)
  | sl (id off len sz : Nat) (ag : Bool)
  | func (f : Nat) (caps : List AV)
  | agg (cs : List AV)
  | tup (vs : List AV)
  deriving Inhabited

def AV.cells : AV → List AV
  | .agg cs => cs
  | v => [v]
/-- What one cell may hold. -/
def AV.cellv : AV → Bool
  | .undef | .agg _ | .tup _ => false
  | _ => true
/-- Closed data of one cell. -/
def AV.clo1 : AV → Bool
  | .int _ _ | .bool _ | .str _ | .nilptr | .nilfunc | .isl _ _ => true
  | _ => false
def AV.clo : AV → Bool
  | .agg cs => cs.all AV.clo1
  | v => v.clo1
def flat (es : List AV) : List AV := es.flatMap AV.cells

inductive AObj where
  | cells (cs : List AV) (fz : Nat) (ext : Bool)
  | tok (n s : Nat)
  | iter (s : ByteArray) (pos : Nat)
  deriving Inhabited

/-! ### What relates them to the machine's values -/
structure Gh where
  φ : Nat → Option (Nat × Nat)
  ψ : Nat → Nat → Option (Nat × Nat × Nat)
  M : Nat → Nat → Option Value

structure Gh.le (g g' : Gh) : Prop where
  φ : ∀ id x, g.φ id = some x → g'.φ id = some x
  ψ : ∀ id n x, g.ψ id n = some x → g'.ψ id n = some x
  M : ∀ b i v, g.M b i = some v → g'.M b i = some v
theorem Gh.le.refl (g : Gh) : g.le g := ⟨fun _ _ h => h, fun _ _ _ h => h, fun _ _ _ h => h⟩
theorem Gh.le.trans {a b c : Gh} (h : a.le b) (k : b.le c) : a.le c :=
  ⟨fun _ _ x => k.φ _ _ (h.φ _ _ x), fun _ _ _ x => k.ψ _ _ _ (h.ψ _ _ _ x), fun _ _ _ x => k.M _ _ _ (h.M _ _ _ x)⟩

inductive VR (g : Gh) : AV → Value → Prop where
  | undef (v : Value) : VR g .undef v
  | int (k : IntKind) (n : Int) : VR g (.int k n) (.int k n)
  | bool (b : Bool) : VR g (.bool b) (.bool b)
  | str (s : ByteArray) : VR g (.str s) (.string s)
  | nilptr : VR g .nilptr (.pointer none)
  | nilfunc : VR g .nilfunc .nilFunc
  | ptr {id off b c : Nat} (h : g.φ id = some (b, c)) : VR g (.ptr id off) (.pointer (some ⟨b, off, none⟩))
  | iptr {cs : List AV} {off b p : Nat} (vs : Nat → Value) (hc : ∀ x ∈ cs, x.clo1 = true)
      (hM : ∀ (i : Nat) x, cs[i]? = some x → g.M b (p + i) = some (vs i)) (hV : ∀ (i : Nat) x, cs[i]? = some x → VR g x (vs i)) :
      VR g (.iptr cs off) (.pointer (some ⟨b, p + off, none⟩))
  | isl {es : List AV} {cap0 : Bool} {a : Option Addr} {c b p s : Nat} (vs : Nat → Value)
      (hc : ∀ e ∈ es, e.clo = true ∧ e.cells.length = s) (hs : 0 < s) (ha : es = [] ∨ a = some ⟨b, p, none⟩)
      (hcap : cap0 = true → c = es.length) (hn : es.length ≤ c)
      (hM : ∀ (i : Nat) x, (flat es)[i]? = some x → g.M b (p + i) = some (vs i)) (hV : ∀ (i : Nat) x, (flat es)[i]? = some x → VR g x (vs i)) :
      VR g (.isl es cap0) (.slice a es.length c)
  | own {id : Nat} {es : List AV} {c b p s : Nat} (vs : Nat → Value)
      (hc : ∀ e ∈ es, e.clo = true ∧ e.cells.length = s) (hs : 0 < s) (h : g.ψ id es.length = some (b, p, c)) (hn : es.length ≤ c)
      (hM : ∀ (i : Nat) x, (flat es)[i]? = some x → g.M b (p + i) = some (vs i)) (hV : ∀ (i : Nat) x, (flat es)[i]? = some x → VR g x (vs i)) :
      VR g (.own id es) (.slice (some ⟨b, p, none⟩) es.length c)
  | sl {id off len sz : Nat} {ag : Bool} {b c cc : Nat} (h : g.φ id = some (b, c)) (hc : off + cc * sz = c) (hs : 0 < sz) (hl : len ≤ cc) :
      VR g (.sl id off len sz ag) (.slice (some ⟨b, off, none⟩) len cc)
  | func {f : Nat} {caps : List AV} {vs : Array Value} (hl : caps.length = vs.size)
      (hV : ∀ (i : Nat) x v, caps[i]? = some x → vs[i]? = some v → VR g x v) : VR g (.func f caps) (.func (.func f) #[] vs)
  | agg {cs : List AV} {vs : Array Value} (hl : cs.length = vs.size) (hc : ∀ x ∈ cs, x.cellv = true)
      (hV : ∀ (i : Nat) x v, cs[i]? = some x → vs[i]? = some v → VR g x v) : VR g (.agg cs) (.agg vs)
  | tup {cs : List AV} {vs : Array Value} (hl : cs.length = vs.size)
      (hV : ∀ (i : Nat) x v, cs[i]? = some x → vs[i]? = some v → VR g x v) : VR g (.tup cs) (.tuple vs)

theorem VR.mono {g g' : Gh} (hg : g.le g') {x : AV} {v : Value} (h : VR g x v) : VR g' x v := by
  induction h with
  | undef v => exact .undef v
  | int k n => exact .int k n
  | bool b => exact .bool b
  | str s => exact .str s
  | nilptr => exact .nilptr
  | nilfunc => exact .nilfunc
  | ptr h => exact .ptr (hg.φ _ _ h)
  | iptr vs hc hM _ ih => exact .iptr vs hc (fun i x hx => hg.M _ _ _ (hM i x hx)) ih
  | isl vs hc hs ha hcap hn hM _ ih => exact .isl vs hc hs ha hcap hn (fun i x hx => hg.M _ _ _ (hM i x hx)) ih
  | own vs hc hs h hn hM _ ih => exact .own vs hc hs (hg.ψ _ _ _ h) hn (fun i x hx => hg.M _ _ _ (hM i x hx)) ih
  | sl h hc hs hl => exact .sl (hg.φ _ _ h) hc hs hl
  | func hl _ ih => exact .func hl ih
  | agg hl hc _ ih => exact .agg hl hc ih
  | tup hl _ ih => exact .tup hl ih

theorem flat_clo1 {es : List AV} {s : Nat} (hc : ∀ e ∈ es, e.clo = true ∧ e.cells.length = s) {x : AV} (hx : x ∈ flat es) : x.clo1 = true := by
  obtain ⟨e, he, hxe⟩ := List.mem_flatMap.1 hx
  have h := (hc e he).1
  cases e <;> simp_all [AV.cells, AV.clo, AV.clo1]

/-- Closed data hang on the frozen cells alone. -/
theorem VR.closed {g g' : Gh} (hg : ∀ b i v, g.M b i = some v → g'.M b i = some v) {x : AV} {v : Value} (h : VR g x v) (hx : x.clo1 = true) : VR g' x v := by
  induction h with
  | undef v => exact .undef v
  | int k n => exact .int k n
  | bool b => exact .bool b
  | str s => exact .str s
  | nilptr => exact .nilptr
  | nilfunc => exact .nilfunc
  | isl vs hc hs ha hcap hn hM _ ih =>
    exact .isl vs hc hs ha hcap hn (fun i x hx => hg _ _ _ (hM i x hx)) fun i x hx => ih i x hx (flat_clo1 hc (List.mem_of_getElem? hx))
  | _ => simp [AV.clo1] at hx

/-! ### The heap -/
structure HR (g : Gh) (ow : Nat → Option Nat) (σ : List AObj) (w : World) : Prop where
  mem : ∀ b i v, g.M b i = some v → w.cell? ⟨b, i, none⟩ = some v
  dom : ∀ id x, g.φ id = some x → id < σ.length ∧ x.1 < w.heap.size
  domψ : ∀ id n x, g.ψ id n = some x → id < σ.length
  cel : ∀ id cs fz ext, σ[id]? = some (.cells cs fz ext) → ∀ b c, g.φ id = some (b, c) →
    ∃ cv tag fr, w.heap[b]? = some (.cells cv tag fr) ∧ cs.length ≤ c ∧ c ≤ cv.size ∧ (ext = false → c = cs.length) ∧
      (∀ (i : Nat) x, cs[i]? = some x → x.cellv = true ∧ ∃ v, cv[i]? = some v ∧ VR g x v) ∧
      ow b = some id ∧
      (∀ i, fz ≤ i → i < cs.length → g.M b i = none ∧ ¬ (fr.1 ≤ i ∧ i < fr.2))
  tk : ∀ id n s, σ[id]? = some (.tok n s) → ∀ b p c, g.ψ id n = some (b, p, c) →
    ∃ cv tag fr, w.heap[b]? = some (.cells cv tag fr) ∧ p + c * s ≤ cv.size ∧ n ≤ c ∧ ow b = some id ∧
      (∀ i, p + n * s ≤ i → g.M b i = none ∧ (i < cv.size → ¬ (fr.1 ≤ i ∧ i < fr.2)))
  tle : ∀ id n s, σ[id]? = some (.tok n s) → ∀ m x, g.ψ id m = some x → m ≤ n
  it : ∀ id s pos, σ[id]? = some (.iter s pos) → ∀ b c, g.φ id = some (b, c) → w.heap[b]? = some (.stringIter s pos) ∧ ow b = some id

structure St (bs : Nat) (g : Gh) (ow : Nat → Option Nat) (σ : List AObj) (w : World) (g' : Gh) (ow' : Nat → Option Nat) (σ' : List AObj) (w' : World) : Prop where
  gle : g.le g'
  os : w'.os = w.os
  tape : w'.tape = w.tape
  output : w'.output = w.output
  size : w.heap.size ≤ w'.heap.size
  frame : ∀ b, b < w.heap.size → ow b = none → w'.heap[b]? = w.heap[b]? ∧ ow' b = none
  len : σ.length ≤ σ'.length
  nonew : ∀ id, id < σ.length → g.φ id = none → g'.φ id = none
  frM : ∀ b, b < w.heap.size → ow b = none → ∀ i, g'.M b i = g.M b i
  disc : ∀ id, id < bs → id < σ.length → ∀ cs' fz' ext', σ'[id]? = some (.cells cs' fz' ext') → ∃ cs fz ext, σ[id]? = some (.cells cs fz ext) ∧
    ∀ (i : Nat) x, cs'[i]? = some x → x.clo1 = true ∨ (cs[i]? = some x ∧ ∀ b c, g.φ id = some (b, c) → w'.cell? ⟨b, i, none⟩ = w.cell? ⟨b, i, none⟩)

theorem St.refl (bs : Nat) (g : Gh) (ow : Nat → Option Nat) (σ : List AObj) (w : World) : St bs g ow σ w g ow σ w :=
  ⟨.refl g, rfl, rfl, rfl, Nat.le_refl _, fun _ _ h => ⟨rfl, h⟩, Nat.le_refl _, fun _ _ h => h, fun _ _ _ _ => rfl,
    fun _ _ _ cs fz ext h => ⟨cs, fz, ext, h, fun _ _ hx => .inr ⟨hx, fun _ _ _ => rfl⟩⟩⟩

theorem St.trans {bs : Nat} {g ow σ w g1 ow1 σ1 w1 g2 ow2 σ2 w2} (h : St bs g ow σ w g1 ow1 σ1 w1) (k : St bs g1 ow1 σ1 w1 g2 ow2 σ2 w2) :
    St bs g ow σ w g2 ow2 σ2 w2 where
  gle := h.gle.trans k.gle
  os := k.os.trans h.os
  tape := k.tape.trans h.tape
  output := k.output.trans h.output
  size := Nat.le_trans h.size k.size
  frame b hb ho := by
    obtain ⟨e1, o1⟩ := h.frame b hb ho
    obtain ⟨e2, o2⟩ := k.frame b (Nat.lt_of_lt_of_le hb h.size) o1
    exact ⟨e2.trans e1, o2⟩
  len := Nat.le_trans h.len k.len
  nonew id hi hn := k.nonew id (Nat.lt_of_lt_of_le hi h.len) (h.nonew id hi hn)
  frM b hb ho i := (k.frM b (Nat.lt_of_lt_of_le hb h.size) (h.frame b hb ho).2 i).trans (h.frM b hb ho i)
  disc id hi hl cs2 fz2 ext2 hc := by
    obtain ⟨cs1, fz1, ext1, h1, hx2⟩ := k.disc id hi (Nat.lt_of_lt_of_le hl h.len) cs2 fz2 ext2 hc
    obtain ⟨cs, fz, ext, h0, hx1⟩ := h.disc id hi hl cs1 fz1 ext1 h1
    refine ⟨cs, fz, ext, h0, fun i x hx => ?_⟩
    rcases hx2 i x hx with hcl | ⟨hx', hcell2⟩
    · exact .inl hcl
    · rcases hx1 i x hx' with hcl | ⟨hx'', hcell1⟩
      · exact .inl hcl
      · exact .inr ⟨hx'', fun b c hφ => (hcell2 b c (h.gle.φ _ _ hφ)).trans (hcell1 b c hφ)⟩

theorem St.below {bs : Nat} {g ow σ w g1 ow1 σ1 w1} (h : St bs g ow σ w g1 ow1 σ1 w1) (ho : ∀ b, ow b = none) : Below w.heap.size w w1 :=
  ⟨h.os, h.tape, h.output, h.size, fun b hb => (h.frame b hb (ho b)).1⟩

/-- A smaller base asks less. -/
theorem St.base {bs bs' : Nat} (hb : bs' ≤ bs) {g ow σ w g1 ow1 σ1 w1} (h : St bs g ow σ w g1 ow1 σ1 w1) : St bs' g ow σ w g1 ow1 σ1 w1 :=
  ⟨h.gle, h.os, h.tape, h.output, h.size, h.frame, h.len, h.nonew, h.frM, fun id hi => h.disc id (Nat.lt_of_lt_of_le hi hb)⟩

/-! ### What a call leaves behind is dropped -/
def Gh.res (g : Gh) (n : Nat) : Gh := ⟨fun id => if id < n then g.φ id else none, fun id m => if id < n then g.ψ id m else none, g.M⟩
theorem Gh.res_le (g : Gh) (n : Nat) : (g.res n).le g := by
  refine ⟨fun id x h => ?_, fun id m x h => ?_, fun _ _ _ h => h⟩
  · simp only [Gh.res] at h; split at h
    · exact h
    · cases h
  · simp only [Gh.res] at h; split at h
    · exact h
    · cases h

theorem HR.gc {g ow σ w g' ow' σ' w'} (h : HR g ow σ w) (s : St σ.length g ow σ w g' ow' σ' w') (h' : HR g' ow' σ' w') :
    HR (g'.res σ.length) ow' (σ'.take σ.length) w' ∧ St σ.length g ow σ w (g'.res σ.length) ow' (σ'.take σ.length) w' := by
  have hgle : g.le (g'.res σ.length) := by
    refine ⟨fun id x hx => ?_, fun id m x hx => ?_, s.gle.M⟩
    · simp only [Gh.res]; rw [if_pos (h.dom id x hx).1]; exact s.gle.φ _ _ hx
    · simp only [Gh.res]; rw [if_pos (h.domψ id m x hx)]; exact s.gle.ψ _ _ _ hx
  have hget : ∀ id, (σ'.take σ.length)[id]? = if id < σ.length then σ'[id]? else none := fun id => by
    rw [List.getElem?_take]
  have hφ : ∀ id x, (g'.res σ.length).φ id = some x → id < σ.length ∧ g'.φ id = some x := fun id x hx => by
    simp only [Gh.res] at hx; split at hx
    · exact ⟨by assumption, hx⟩
    · cases hx
  have hψ : ∀ id m x, (g'.res σ.length).ψ id m = some x → id < σ.length ∧ g'.ψ id m = some x := fun id m x hx => by
    simp only [Gh.res] at hx; split at hx
    · exact ⟨by assumption, hx⟩
    · cases hx
  have hlen : (σ'.take σ.length).length = σ.length := by rw [List.length_take]; exact Nat.min_eq_left s.len
  refine ⟨⟨h'.mem, fun id x hx => ⟨by rw [hlen]; exact (hφ id x hx).1, (h'.dom id x (hφ id x hx).2).2⟩, fun id m x hx => by rw [hlen]; exact (hψ id m x hx).1, ?_, ?_, ?_, ?_⟩, ?_⟩
  · intro id cs' fz' ext' hσ b c hp
    obtain ⟨hid, hp'⟩ := hφ id _ hp
    rw [hget, if_pos hid] at hσ
    obtain ⟨cv, tag, fr, h1, h2, h3, h4, h5, h6, h7⟩ := h'.cel id cs' fz' ext' hσ b c hp'
    refine ⟨cv, tag, fr, h1, h2, h3, h4, fun i x hx => ?_, h6, h7⟩
    obtain ⟨hcv, v, hv, hVR⟩ := h5 i x hx
    refine ⟨hcv, v, hv, ?_⟩
    -- what stood there when the call began
    have hold : g.φ id = some (b, c) := by
      cases hg : g.φ id with
      | none => have := s.nonew id hid hg; rw [this] at hp'; cases hp'
      | some y => have := s.gle.φ _ _ hg; rw [this] at hp'; exact hp'
    obtain ⟨cs, fz, ext, ho, hx2⟩ := s.disc id hid hid cs' fz' ext' hσ
    rcases hx2 i x hx with hcl | ⟨hxo, hcell⟩
    · exact VR.closed (g := g') (g' := g'.res σ.length) (fun _ _ _ h => h) hVR hcl
    · obtain ⟨cv0, tag0, fr0, k1, k2, k3, k4, k5, k6, k7⟩ := h.cel id cs fz ext ho b c hold
      obtain ⟨_, v0, hv0, hVR0⟩ := k5 i x hxo
      have e1 : w.cell? ⟨b, i, none⟩ = some v0 := by simp only [World.cell?, k1]; simpa using hv0
      have e2 : w'.cell? ⟨b, i, none⟩ = some v := by simp only [World.cell?, h1]; simpa using hv
      have := hcell b c hold
      rw [e1, e2] at this; injection this with this; subst this
      exact hVR0.mono hgle
  · intro id n s' hσ b p c hp
    obtain ⟨hid, hp'⟩ := hψ id n _ hp
    rw [hget, if_pos hid] at hσ
    exact h'.tk id n s' hσ b p c hp'
  · intro id n s' hσ m x hp
    obtain ⟨hid, hp'⟩ := hψ id m _ hp
    rw [hget, if_pos hid] at hσ
    exact h'.tle id n s' hσ m x hp'
  · intro id t pos hσ b c hp
    obtain ⟨hid, hp'⟩ := hφ id _ hp
    rw [hget, if_pos hid] at hσ
    exact h'.it id t pos hσ b c hp'
  · refine ⟨hgle, s.os, s.tape, s.output, s.size, s.frame, by omega, fun id hi hn => ?_, s.frM, fun id hi hl cs' fz' ext' hσ => ?_⟩
    · simp only [Gh.res]; rw [if_pos hi]; exact s.nonew id hi hn
    · rw [hget, if_pos hl] at hσ
      exact s.disc id hi hl cs' fz' ext' hσ
end Go.Mach
