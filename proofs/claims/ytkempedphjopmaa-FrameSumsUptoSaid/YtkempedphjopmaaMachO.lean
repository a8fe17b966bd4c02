import Derived.Test.YtkempedphjopmaaMachN
set_option linter.unusedVariables false
set_option linter.unusedSimpArgs false
set_option linter.unnecessarySimpa false
namespace Go.Mach
open Go.RowKit

section
variable {P : Program} {bs : Nat} {g : Gh} {ow : Nat → Option Nat} {σ σ' : Heap} {w : World} {ρ : Regs} {a : Act} {v : AV}

/-- What an append takes its cells from. -/
structure Src (P : Program) (w : World) (x : Value) (sz k : Nat) (news : List Value) : Prop where
  len : ∀ w', (Builtin.lenOf x).run P w' = .ok k w'
  cells : ∀ w', w'.heap = w.heap → (Builtin.firstCells sz k x).run P w' = .ok news.toArray w'
  nlen : news.length = k * sz
theorem SlRd.src {ad : Option Addr} {n c sz : Nat} {cs : List AV} {us : List Value} (h : SlRd g w ad cs us) (hl : cs.length = n * sz) : Src P w (.slice ad n c) sz n us := by
  refine ⟨fun w' => by simp [Builtin.lenOf], fun w' hw => ?_, by rw [h.len, hl]⟩
  have hul : us.length = n * sz := by rw [h.len, hl]
  cases ad with
  | none =>
    have : us = [] := by
      rcases Nat.eq_zero_or_pos us.length with h0 | h0
      · exact List.eq_nil_of_length_eq_zero h0
      · obtain ⟨b, p, hbp, _⟩ := h.at_ h0; cases hbp
    subst this; simp [Builtin.firstCells]
  | some ad =>
    refine run_firstCells_some w' sz n ad n c us hul fun j u hu => ?_
    obtain ⟨b, p, hbp, hc⟩ := h.at_ (by have := getL hu; omega)
    injection hbp with hbp; subst hbp
    rw [addr_add, cell_congr (w := w) (by rw [hw])]; exact hc j u hu
theorem str_src {s : ByteArray} {sz : Nat} (hsz : sz = 1) : Src P w (.string s) sz s.size (s.data.toList.map fun b => Value.int .u8 (b.toNat : Int)) := by
  subst hsz
  refine ⟨fun w' => by simp [Builtin.lenOf], fun w' _ => ?_, by simp⟩
  simp only [Builtin.firstCells, Sem.run_pure]
  congr 1
  have hx : (s.extract 0 s.size).data = s.data := by
    rw [ByteArray.data_extract]
    exact Array.extract_size
  rw [hx]
  apply Array.ext'
  simp

def roomOk (need bytes : Nat) : Prop := need * bytes ≤ 70368744177664 ∧ need ≤ 70368744177664
theorem run_app_grow {t u ty e : TypeId} {i : TypeInfo} {z : Value} (ht : P.underlying t = some (.slice e)) (hu : P.underlying u = some .string ∨ ∃ e', P.underlying u = some (.slice e')) (hi : P.info? e = some i) (hz : ∀ w, (zeroValue e).run P w = .ok z w)
    {ad : Option Addr} {n c k : Nat} {x : Value} {olds news : List Value} (ho : Src P w (.slice ad n c) i.size n olds) (hn : Src P w x i.size k news) (hg : c < n + k) (hr : roomOk (n + k) i.bytes) :
    ∃ cap w1, n + k ≤ cap ∧ (Builtin.append_ #[t, u] ty #[.slice ad n c, x]).run P w = .ok (.slice (some ⟨w.heap.size, 0, none⟩) (n + k) cap) w1 ∧
      w1.heap = w.heap.push (.cells (olds.toArray ++ news.toArray ++ Builtin.zeroCells z.cells (cap - (n + k))) e (0, 0)) ∧ Same w w1 := by
  have h1 : ¬ (n + k ≤ c) := by omega
  have h2 : ¬ (9223372036854775807 < ((n : Int) + (k : Int))) := by have := hr.2; omega
  have h3 : ¬ (281474976710656 < Builtin.nextslicecap (n + k) c * i.bytes) := by
    have := growslice_fits (need := n + k) (old := c) (bytes := i.bytes) hg (by have := hr.1; omega); omega
  have hc1 := ho.cells w.drew rfl
  have hc2 := hn.cells w.drew rfl
  have hl := hn.len
  refine ⟨grownCap w (n + k) c e, w.drew.alloc (.cells (olds.toArray ++ news.toArray ++ Builtin.zeroCells z.cells (grownCap w (n + k) c e - (n + k))) e), by simp [grownCap, Question.cut], ?_, rfl, ⟨rfl, rfl, rfl⟩⟩
  rcases hu with hu | ⟨e', hu⟩
  · simp [Builtin.append_, run_und ht, run_und hu, sizeOf, typeInfo, hi, hz, hl, h1, h2, h3, Question.forced, hc1, hc2, newRow, grownCap]
    congr 2
    apply Array.ext'
    simp [List.append_assoc]
  · simp [Builtin.append_, run_und ht, run_und hu, sizeOf, typeInfo, hi, hz, hl, h1, h2, h3, Question.forced, hc1, hc2, newRow, grownCap]
    congr 2
    apply Array.ext'
    simp [List.append_assoc]
theorem run_app_fits {t u ty e : TypeId} {i : TypeInfo} (ht : P.underlying t = some (.slice e)) (hu : P.underlying u = some .string ∨ ∃ e', P.underlying u = some (.slice e')) (hi : P.info? e = some i)
    {ad : Option Addr} {n c k : Nat} {x : Value} {news : List Value} (hn : Src P w x i.size k news) (hg : n + k ≤ c) :
    (Builtin.append_ #[t, u] ty #[.slice ad n c, x]).run P w = (match ad with
      | none => .ok (.slice none (n + k) c) w
      | some ad => ((storeCells (ad.add (n * i.size)) news).run P w).andThen fun _ w' => .ok (.slice (some ad) (n + k) c) w') := by
  have hc2 := hn.cells w rfl
  have hl := hn.len
  rcases hu with hu | ⟨e', hu⟩ <;> cases ad <;>
    simp [Builtin.append_, run_und ht, run_und hu, sizeOf, typeInfo, hi, hl, hg, hc2]
end
end Go.Mach
