import Derived.Test.YtkempedphjopmaaMachO
set_option linter.unusedVariables false
set_option linter.unusedSimpArgs false
set_option linter.unnecessarySimpa false
namespace Go.Mach
open Go.RowKit

section
variable {P : Program} {bs : Nat} {g : Gh} {ow : Nat → Option Nat} {σ σ' : Heap} {w : World} {ρ : Regs} {a : Act} {v : AV}

theorem okEl_all {es : List AV} {sz : Nat} {ag : Bool} (h : es.all (okEl sz ag) = true) : ∀ e ∈ es, e.clo = true ∧ e.cells.length = sz := fun e he => by
  have := List.all_eq_true.1 h e he
  simp only [okEl, Bool.and_eq_true, decide_eq_true_eq] at this
  exact this.1
theorem flat_u8s (s : ByteArray) : flat (u8s s) = u8s s := by
  simp only [flat, u8s, List.flatMap_map]; rw [← List.flatMap_singleton' (List.map _ _), List.flatMap_map]; rfl
theorem x_src (h : HR g ow σ w) {x : AV} {cx : Value} (hx : VR g x cx) {sz : Nat} {ag : Bool} {xs : List AV} (he : elemsA σ sz ag x = some xs) (hne : xs ≠ []) (hl : (flat xs).length = xs.length * sz) :
    ∃ news, Src P w cx sz xs.length news ∧ ∀ (j : Nat) y, (flat xs)[j]? = some y → y.cellv = true ∧ ∃ u, news[j]? = some u ∧ VR g y u := by
  by_cases hst : ∃ s, x = .str s
  · obtain ⟨s, rfl⟩ := hst
    simp only [elemsA] at he; injection he with he; subst he
    cases hx
    rw [flat_u8s, u8s_length] at hl
    have hp : 0 < s.size := by
      rcases Nat.eq_zero_or_pos s.size with h0 | h0
      · exact absurd (List.eq_nil_of_length_eq_zero (by rw [u8s_length]; exact h0)) hne
      · exact h0
    have hsz : sz = 1 := by
      have : s.size * 1 = s.size * sz := by rw [Nat.mul_one]; exact hl
      exact (Nat.eq_of_mul_eq_mul_left hp this).symm
    rw [u8s_length]
    refine ⟨_, str_src hsz, fun j y hy => ?_⟩
    rw [flat_u8s] at hy
    obtain ⟨b, hb, rfl⟩ := u8s_get hy
    exact ⟨rfl, _, by simp [hb], .int ..⟩
  · obtain ⟨ad, n, c, us, rfl, rfl, hus, _⟩ := elems_sound h hx he (fun s e => hst ⟨s, e⟩)
    exact ⟨us, hus.src hl, hus.val⟩
theorem x_nil (h : HR g ow σ w) {x : AV} {cx : Value} (hx : VR g x cx) {sz : Nat} {ag : Bool} (he : elemsA σ sz ag x = some []) : Src P w cx sz 0 [] := by
  by_cases hst : ∃ s, x = .str s
  · obtain ⟨s, rfl⟩ := hst
    simp only [elemsA] at he; injection he with he
    cases hx
    have hs : s.size = 0 := by rw [← u8s_length, he]; rfl
    refine ⟨fun w' => by simp [Builtin.lenOf, hs], fun w' _ => ?_, by simp⟩
    simp only [Builtin.firstCells, Sem.run_pure]
    congr 1
    apply Array.ext'
    simp [ByteArray.data_extract]
  · obtain ⟨ad, n, c, us, rfl, hn, hus, _⟩ := elems_sound h hx he (fun s e => hst ⟨s, e⟩)
    have h1 := hus.src (P := P) (c := c) (n := 0) (sz := sz) (by simp [flat])
    have h2 : us = [] := List.eq_nil_of_length_eq_zero (by rw [hus.len]; simp [flat])
    subst h2
    simp at hn; subst hn; exact h1

theorem app_vals {es xs : List AV} {olds news : List Value} {r : Array Value} (ho : olds.length = (flat es).length) (h1 : ∀ (j : Nat) y, (flat es)[j]? = some y → y.cellv = true ∧ ∃ u, olds[j]? = some u ∧ VR g y u)
    (h2 : ∀ (j : Nat) y, (flat xs)[j]? = some y → y.cellv = true ∧ ∃ u, news[j]? = some u ∧ VR g y u) :
    ∀ (j : Nat) y, (flat es ++ flat xs)[j]? = some y → y.cellv = true ∧ ∃ u, (olds.toArray ++ news.toArray ++ r)[j]? = some u ∧ VR g y u := by
  intro j y hy
  have hap : ∀ u, (olds ++ news)[j]? = some u → (olds.toArray ++ news.toArray ++ r)[j]? = some u := fun u hu => by
    rw [Array.getElem?_append_left (by simpa using getL hu)]; simpa using hu
  rcases Nat.lt_or_ge j (flat es).length with hl | hl
  · rw [List.getElem?_append_left hl] at hy
    obtain ⟨a1, u, hu, hV⟩ := h1 j y hy
    exact ⟨a1, u, hap u (by rw [List.getElem?_append_left (by omega)]; exact hu), hV⟩
  · rw [List.getElem?_append_right hl] at hy
    obtain ⟨a1, u, hu, hV⟩ := h2 _ y hy
    exact ⟨a1, u, hap u (by rw [List.getElem?_append_right (by omega), ho]; exact hu), hV⟩
theorem zeroCells_size (z : Array Value) (n : Nat) : (Builtin.zeroCells z n).size = n * z.size := by simp [Builtin.zeroCells]

/-- What a new block makes of an append. -/
theorem app_out (h : HR g ow σ w) {es xs : List AV} {sz need cap : Nat} {ag : Bool} (hneed : need = es.length + xs.length) (hcap : need ≤ cap) (h0 : 0 < sz) {cv : Array Value} {tag : TypeId} {w1 : World}
    (hw : w1.heap = w.heap.push (.cells cv tag (0, 0))) (hs : Same w w1) (hcv : cv.size = cap * sz)
    (hvals : ∀ (j : Nat) y, (flat es ++ flat xs)[j]? = some y → y.cellv = true ∧ ∃ u, cv[j]? = some u ∧ VR g y u) {r : Result Next} (hr : r = .ok (.value (.slice (some ⟨w.heap.size, 0, none⟩) need cap)) w1) :
    (xs.all (okEl sz ag) = true → es.all (okEl sz ag) = true → (∀ id σ', (id = σ.length ∧ σ' = σ ++ [.tok need sz]) ∨ (∃ n0, σ[id]? = some (.tok n0 sz) ∧ n0 < need ∧ σ' = σ.set id (.tok need sz)) → OpOut bs g ow σ w r (.own id (es ++ xs)) σ')) ∧
    ((flat es).length = es.length * sz → (flat xs).length = xs.length * sz → OpOut bs g ow σ w r (.sl σ.length 0 need sz ag) (σ ++ [.cells (flat es ++ flat xs) 0 true])) := by
  refine ⟨fun hx he id σ' hσ' => ?_, fun hle hlx => ?_⟩
  · have hc : ∀ e ∈ es ++ xs, e.clo = true ∧ e.cells.length = sz := fun e hm => by
      rcases List.mem_append.1 hm with hm | hm
      · exact okEl_all he e hm
      · exact okEl_all hx e hm
    obtain ⟨hle, hH, hS⟩ := h.tokNew (bs := bs) (n := need) (s := sz) (c := cap) hw hs hσ' (by omega) hcap
    refine ⟨_, _, w1, _, .inl hr, ?_, hH, hS⟩
    have hneed' : need = (es ++ xs).length := by simp [hneed]
    have hfl : (flat (es ++ xs)).length = need * sz := by rw [flat_length (s := sz) (fun e he => (hc e he).2), ← hneed']
    have hsize : need * sz ≤ cv.size := by rw [hcv]; exact Nat.mul_le_mul_right _ hcap
    have := own_VR (g := g.tk id need w.heap.size 0 cap 0 (need * sz) cv) (id := id) (es := es ++ xs) (b := w.heap.size) (p := 0) (c := cap) hc h0 (by rw [← hneed']; simp [Gh.tk]) (by omega) (fun i x hx => by
      rw [flat_append] at hx
      obtain ⟨_, u, hu, hV⟩ := hvals i x hx
      have hi : i < need * sz := by rw [← hfl, flat_append]; exact getL hx
      refine ⟨u, ?_, hV.mono hle⟩
      simp only [Gh.tk]; rw [Nat.zero_add, if_pos (by simp; omega)]; exact hu)
    rw [← hneed'] at this; exact this
  · have hfl : (flat es ++ flat xs).length = need * sz := by rw [List.length_append, hle, hlx, hneed, Nat.add_mul]
    obtain ⟨g', ow', hp, hH, hS⟩ := h.new (bs := bs) (w' := w1) (cs := flat es ++ flat xs) (cv := cv) (tag := tag) (fr := (0, 0)) hw hs true (cap * sz) (by rw [hfl]; exact Nat.mul_le_mul_right _ hcap) (by omega) (fun hh => by cases hh) hvals (fun i _ => by simp)
    exact ⟨g', ow', w1, _, .inl hr, .sl hp (by simp) h0 hcap, hH, hS⟩

theorem s_append (h : HR g ow σ w) {t u ty e : TypeId} {i : TypeInfo} (ht : P.underlying t = some (.slice e)) (hu : P.underlying u = some .string ∨ ∃ e', P.underlying u = some (.slice e')) (hi : P.info? e = some i)
    {sz : Nat} {ag mt : Bool} (hsz : i.size = sz) {zs : List AV} (hz : zeroT P e = some zs) (hzl : zs.length = sz) {s x : AV} {cs cx : Value} (hs : VR g s cs) (hx : VR g x cx)
    (hap : appendA σ sz ag i.bytes mt s x = some (v, σ')) : OpOut bs g ow σ w (Sem.run P (do pure (Next.value (← Builtin.append_ #[t, u] ty #[cs, cx]))) w) v σ' := by
  obtain ⟨z, hzr, hzs, _⟩ := run_zeroT hz
  subst hsz
  unfold appendA at hap
  obtain ⟨xs, hxs, hap1⟩ := Option.bind_eq_some_iff.1 hap
  clear hap
  obtain ⟨es, hes, hap⟩ := Option.bind_eq_some_iff.1 hap1
  clear hap1
  by_cases hsl : isSl s = false
  · rw [if_pos hsl] at hap; cases hap
  rw [if_neg hsl] at hap
  have hns : ∀ str, s ≠ .str str := fun str e => by subst e; simp [isSl] at hsl
  obtain ⟨ad, n, c, olds, rfl, rfl, hold, hnc⟩ := elems_sound h hs hes hns
  by_cases hx0 : xs = []
  · rw [if_pos hx0] at hap; subst hx0
    injection hap with hap; injection hap with e1 e2; subst e1 e2
    have hsrc := x_nil (P := P) h hx hxs
    have hrun := run_app_fits (P := P) (ty := ty) ht hu hi (ad := ad) (n := es.length) (c := c) hsrc (by omega)
    refine OpOut.pure h ?_ hs
    cases ad <;> simp [hrun, storeCells]
  rw [if_neg hx0] at hap
  by_cases hroom : i.size = 0 ∨ (es.length + xs.length) * i.bytes > 70368744177664 ∨ es.length + xs.length > 70368744177664
  · rw [if_pos hroom] at hap; cases hap
  rw [if_neg hroom] at hap
  have hxp : 0 < xs.length := by cases xs with | nil => exact absurd rfl hx0 | cons => simp
  have hsz0 : 0 < i.size := by omega
  have hrm : roomOk (es.length + xs.length) i.bytes := ⟨by omega, by omega⟩
  -- the block anew
  have hgrow : (flat es).length = es.length * i.size → (flat xs).length = xs.length * i.size → c < es.length + xs.length →
      (xs.all (okEl i.size ag) = true → es.all (okEl i.size ag) = true → (∀ id σ', (id = σ.length ∧ σ' = σ ++ [.tok (es.length + xs.length) i.size]) ∨ (∃ n0, σ[id]? = some (.tok n0 i.size) ∧ n0 < es.length + xs.length ∧ σ' = σ.set id (.tok (es.length + xs.length) i.size)) →
        OpOut bs g ow σ w (Sem.run P (do pure (Next.value (← Builtin.append_ #[t, u] ty #[.slice ad es.length c, cx]))) w) (.own id (es ++ xs)) σ')) ∧
      OpOut bs g ow σ w (Sem.run P (do pure (Next.value (← Builtin.append_ #[t, u] ty #[.slice ad es.length c, cx]))) w) (.sl σ.length 0 (es.length + xs.length) i.size ag) (σ ++ [.cells (flat es ++ flat xs) 0 true]) := by
    intro hle hlx hg
    obtain ⟨news, hnew, hnv⟩ := x_src (P := P) h hx hxs hx0 hlx
    obtain ⟨cap, w1, hcap, hr, hw, hsm⟩ := run_app_grow (ty := ty) ht hu hi hzr (hold.src (c := c) hle) hnew hg hrm
    have hcv : (olds.toArray ++ news.toArray ++ Builtin.zeroCells z.cells (cap - (es.length + xs.length))).size = cap * i.size := by
      have hz2 : z.cells.size = i.size := by omega
      simp [hold.len, hle, hnew.nlen, zeroCells_size, hz2]
      rw [← Nat.add_mul, ← Nat.add_mul, Nat.add_sub_cancel' hcap]
    have := app_out (bs := bs) (ag := ag) h rfl hcap hsz0 hw hsm hcv (app_vals hold.len hold.val hnv) (r := Sem.run P (do pure (Next.value (← Builtin.append_ #[t, u] ty #[.slice ad es.length c, cx]))) w) (by simp only [Sem.run_bind, hr, Result.andThen_ok, Sem.run_pure])
    exact ⟨this.1, this.2 hle hlx⟩
  have hfl : ∀ {l : List AV}, l.all (okEl i.size ag) = true → (flat l).length = l.length * i.size := fun hl => flat_length fun e he => (okEl_all hl e he).2
  cases s with
  | isl es' cap0 =>
    cases cap0 with
    | false => cases hap
    | true =>
    simp only [elemsA] at hes; injection hes with hes; subst hes
    simp only at hap
    have hcc : c = es'.length := by
      cases hs with
      | isl _ _ _ _ hcap => exact hcap rfl
    split at hap
    · split at hap
      · rename_i hc; injection hap with hap; injection hap with e1 e2; subst e1 e2
        exact (hgrow hc.2 hc.1 (by omega)).2
      · cases hap
    · split at hap
      · rename_i hc; injection hap with hap; injection hap with e1 e2; subst e1 e2
        exact (hgrow (hfl hc.2) (hfl hc.1) (by omega)).1 hc.1 hc.2 _ _ (.inl ⟨rfl, rfl⟩)
      · cases hap
  | own id es' =>
    simp only at hap
    simp only [elemsA] at hes; injection hes with hes; subst hes
    split at hap
    · rename_i hc
      split at hap
      · rename_i n0 sz' hσ
        split at hap
        · rename_i hc2
          obtain ⟨rfl, rfl⟩ := hc2
          injection hap with hap; injection hap with e1 e2; subst e1 e2
          rcases Nat.lt_or_ge c (es'.length + xs.length) with hg | hg
          · exact (hgrow (hfl hc.2) (hfl hc.1) hg).1 hc.1 hc.2 _ _ (.inr ⟨_, hσ, by omega, rfl⟩)
          · -- there is room
            cases hs with
            | @own _ _ _ b p s' vs hcl hs0 hψ hn hM hV =>
              obtain ⟨cv, tag, fr, k0, k1, k2, k5, k6⟩ := h.tk id es'.length i.size hσ b p c hψ
              obtain ⟨news, hnew, hnv⟩ := x_src (P := P) h hx hxs hx0 (hfl hc.1)
              have hrun := run_app_fits (P := P) (ty := ty) ht hu hi (ad := some ⟨b, p, none⟩) (n := es'.length) (c := c) hnew hg
              have hroomC : (es'.length + xs.length) * i.size ≤ c * i.size := Nat.mul_le_mul_right _ hg
              rw [Nat.add_mul] at hroomC
              have hnl := hnew.nlen
              have hone : ∀ u ∈ news, u.oneCell' = true := fun u hu => by
                obtain ⟨j, hj, rfl⟩ := List.getElem_of_mem hu
                have hj' : j < (flat xs).length := by rw [hfl hc.1, ← hnl]; exact hj
                obtain ⟨a1, u', hu', hV'⟩ := hnv j _ (List.getElem?_eq_getElem hj')
                rw [List.getElem?_eq_getElem hj] at hu'; injection hu' with hu'; rw [hu']
                exact (hV'.cell1 a1).1
              obtain ⟨w', hsr, hh, hsm⟩ := run_storeCells (P := P) b (p + es'.length * i.size) tag fr news 0 cv w k0 hone (by omega) (fun j hj1 hj2 => (k6 j (by omega)).2 (by omega))
              rw [Nat.add_zero] at hh
              have hget : ∀ j, (setRunA cv (p + es'.length * i.size) news)[j]? = if p + es'.length * i.size ≤ j ∧ j < p + es'.length * i.size + news.length then news[j - (p + es'.length * i.size)]? else cv[j]? := fun j => setRunA_get _ _ _ _ (by omega)
              obtain ⟨hle, hH, hS⟩ := h.tokIn (bs := bs) (n := es'.length + xs.length) hσ hψ (by omega) hg k0 hh hsm (setRunA_size ..) (fun j hj => by rw [hget, if_neg (by omega)])
              refine ⟨_, _, w', .slice (some ⟨b, p, none⟩) (es'.length + xs.length) c, .inl ?_, ?_, hH, hS⟩
              · simp only [Sem.run_bind, hrun, addr_add, hsr, Result.andThen_ok, Sem.run_pure]
              · have hca : ∀ e ∈ es' ++ xs, e.clo = true ∧ e.cells.length = i.size := fun e hm => by
                  rcases List.mem_append.1 hm with hm | hm
                  · exact okEl_all hc.2 e hm
                  · exact okEl_all hc.1 e hm
                have hl' : es'.length + xs.length = (es' ++ xs).length := by simp
                have := own_VR (g := g.tk id (es'.length + xs.length) b p c (p + es'.length * i.size) (p + (es'.length + xs.length) * i.size) (setRunA cv (p + es'.length * i.size) news)) (id := id) (es := es' ++ xs) (b := b) (p := p) (c := c) hca hsz0 (by rw [← hl']; simp [Gh.tk]) (by omega) (fun j y hy => by
                  rw [flat_append] at hy
                  rcases Nat.lt_or_ge j (flat es').length with hj | hj
                  · rw [List.getElem?_append_left hj] at hy
                    exact ⟨_, hle.M _ _ _ (hM j y hy), (hV j y hy).mono hle⟩
                  · rw [List.getElem?_append_right hj] at hy
                    obtain ⟨_, u', hu', hV'⟩ := hnv _ y hy
                    refine ⟨u', ?_, hV'.mono hle⟩
                    have hfe := hfl hc.2
                    have hju := getL hu'
                    simp only [Gh.tk]
                    rw [if_pos (by refine ⟨trivial, by omega, ?_⟩; rw [Nat.add_mul]; omega), hget, if_pos (by omega)]
                    rw [show p + j - (p + es'.length * i.size) = j - (flat es').length by omega]; exact hu')
                rw [← hl'] at this; exact this
        · cases hap
      · cases hap
    · cases hap
  | sl id off len sz' ag' =>
    simp only at hap
    split at hap
    · rename_i cs0 fz ext hσ
      split at hap
      · rename_i hc
        obtain ⟨rfl, rfl, hlen, rfl⟩ := hc
        have hcc : c = es.length ∧ (flat es).length = es.length * i.size := by
          cases hs with
          | @sl _ _ _ _ _ b cφ _ hp hc2 hs0 hl =>
            obtain ⟨cv, tag, fr, k0, k1, k2, k3, k4, k5, k6⟩ := h.cel id cs0 fz false hσ b cφ hp
            have := k3 rfl
            simp only [elemsA, hσ] at hes
            obtain ⟨win, hw, hch⟩ := Option.bind_eq_some_iff.1 hes
            obtain ⟨hr, hwl⟩ := (Rd.cel h hσ hp).win hw
            obtain ⟨i1, i2, i3⟩ := chunk_flat (fun x hx => by obtain ⟨q, hq, rfl⟩ := List.getElem_of_mem hx; exact (hr q _ (List.getElem?_eq_getElem hq)).1) hch hwl
            have e1 : c * i.size = es.length * i.size := by omega
            exact ⟨Nat.eq_of_mul_eq_mul_right hs0 e1, by rw [i1, hwl]⟩
        split at hap
        · split at hap
          · rename_i hc; injection hap with hap; injection hap with e1 e2; subst e1 e2
            exact (hgrow hc.2 hc.1 (by omega)).2
          · cases hap
        · split at hap
          · rename_i hc; injection hap with hap; injection hap with e1 e2; subst e1 e2
            exact (hgrow (hfl hc.2) (hfl hc.1) (by omega)).1 hc.1 hc.2 _ _ (.inl ⟨rfl, rfl⟩)
          · cases hap
      · cases hap
    · cases hap
  | _ => simp [isSl] at hsl
end
end Go.Mach
