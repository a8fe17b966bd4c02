import Derived.Test.YtkjfkbblfjmnaaaC5
import Derived.Test.YtkjfkbblfjmnaaaChecked
import Derived.KernelRfl
section
set_option linter.unusedVariables false
set_option linter.unusedSimpArgs false
set_option linter.unnecessarySimpa false
namespace Go.Proofs.Ytkjfkbblfjmnaaa
open Go.Mach

/-! ### The document's answers for functions -/
theorem made_ok (v : GV) (hs : v.size ≤ 100000000000) : pureT T c52 [v.enc] = some (resO (made v)) := by
  have hr := refRight v hs
  apply pure_enter (by simp [c52])
  unfold made
  cases h : rightT v
  · rw [h] at hr; simp [c52, hr, setRun, resO, nilV, enc_mk, enc_mk0]
  · rw [h] at hr; simp [c52, hr, setRun, resO, nilV, enc_mk, enc_mk0]
theorem callMade (v : GV) (hs : v.size ≤ 100000000000) (bs : Nat) (σ : Heap) : callT T 52 [v.enc] bs σ = some (resO (made v), σ) := call_clean rfl rfl rfl (by simp) (made_ok v hs)
theorem callMadeO {l : List GV} {x : AV} {σ : Heap} (hs : (listV l).size ≤ 100000000000) (h : close1 σ x = some (.isl (GV.encs l) false, σ)) (bs : Nat) :
    callT T 52 [.agg [.int .i64 4, .int .i64 0, .str ⟨#[]⟩, x]] bs σ = some (resO (made (listV l)), σ) := by
  have hr := made_ok (listV l) hs
  exact call_data rfl rfl rfl hr (resO_scal _) (by simp) (by simp [closeT, h, listV, GV.enc])
theorem list_ok (ls : List (List GV)) (hn : ls.length ≤ 1000) (hl : GV.sizes ls.flatten ≤ 1000000000) : pureT T c50 [.isl (ls.map fun l => .isl (GV.encs l) false) false] = some (resO (made (listV ls.flatten))) := by
  have hlen := len_sizes ls.flatten
  have hsz : (listV ls.flatten).size ≤ 100000000000 := by rw [listV_size]; omega
  have hpl := fun i => pre_le ls i
  have hpall := cat_all ls
  apply pure_enter (by simp [c50])
  generalize ls.flatten = all at *
  simp [c50, setRun]
  refine W_for T 0 25 ls.length (fun i f σ => f 0 = .isl (ls.map fun l => .isl (GV.encs l) false) false ∧ f 2 = .ptr 0 0 ∧ f 4 = .ptr 1 0 ∧ f 5 = .int .i64 (i : Int) ∧ ∃ lst rest,
    σ = [.cells [.int .i64 0, .int .i64 0, .str ⟨#[]⟩, .isl [] true] 0 false, .cells [.int .i64 4, .int .i64 0, .str ⟨#[]⟩, lst] 0 false] ++ rest ∧ LstAt rest 2 (GV.encs (cat ls i)) 4 lst) ?_ _ _ ?_
  · rintro i f σ hi ⟨h0, h2, h4, h5, lst, rest, rfl, hlst⟩
    by_cases hlt : i < ls.length
    · have hw : IntKind.i64.wrap ((i : Int) + 1) = (i : Int) + 1 := wr64 (by omega) (by omega)
      have hcs := cat_succ hlt
      have hcl := cat_len ls i
      have hp1 := hpl (i + 1)
      have hps := pre_succ hlt
      by_cases hx : ls[i] = []
      · rw [hx, List.append_nil] at hcs
        rw [hcs]
        rcases hlst with ⟨he, rfl⟩ | ⟨kk, rfl, hkl, hkk⟩
        · simp [h0, h2, h4, h5, hlt, hw, hx, app_isl_nil2, setRun]
          exact ⟨_, _, ⟨rfl, rfl⟩, .inl ⟨he, rfl⟩⟩
        · simp [h0, h2, h4, h5, hlt, hw, hx, app_isl_nil, setRun]
          exact ⟨_, _, ⟨rfl, rfl⟩, .inr ⟨kk, rfl, hkl, hkk⟩⟩
      · have hxne : GV.encs ls[i] ≠ [] := fun e => hx ((encs_nil _).1 e)
        rcases hlst with ⟨he, rfl⟩ | ⟨kk, rfl, hkl, hkk⟩
        · have hc0 : cat ls i = [] := (encs_nil _).1 he
          have ha := fun A B => app_isl_new (σ := A :: B :: rest) (sz := 4) (bytes := 56) (ag := true) (c := false) hxne (encs_okEl _) (by simp; omega) (by omega) (by omega)
          rw [hcs, hc0, List.nil_append]
          simp at ha
          simp [h0, h2, h4, h5, hlt, hw, ha, setRun]
          exact ⟨_, _, ⟨rfl, rfl⟩, .inr ⟨rest.length, rfl, by simp, by simp⟩⟩
        · have ha := fun A B => app_isl_own (σ := A :: B :: rest) (sz := 4) (bytes := 56) (ag := true) (c := false) (k := kk + 2) (es := GV.encs (cat ls i)) hxne (encs_okEl _) (encs_okEl _) (by simp; omega) (by omega) (by omega) (by simpa using hkk)
          have hap : GV.encs (cat ls i) ++ GV.encs ls[i] = GV.encs (cat ls (i + 1)) := by rw [hcs]; simp [GV.encs_map]
          rw [hap] at ha
          simp at ha
          simp [h0, h2, h4, h5, hlt, hw, ha, setRun]
          refine ⟨_, _, ⟨rfl, rfl⟩, .inr ⟨kk, rfl, by simpa using hkl, ?_⟩⟩
          simp [hkl, hcl, hps, cat_len]
    · have he : i = ls.length := by omega
      subst he
      rw [hpall] at hlst
      rcases hlst with ⟨he, rfl⟩ | ⟨kk, rfl, hkl, hkk⟩
      · have ha0 : all = [] := (encs_nil _).1 he
        subst ha0
        have hm := fun σ => callMadeO (l := []) (x := .isl [] true) (σ := σ) hsz rfl 0
        simp [h0, h2, h4, h5, hm, setRun, resO, enc_mk]
      · have hm := fun σ => callMadeO (l := all) (x := .own (kk + 2) (GV.encs all)) (σ := σ) hsz rfl 0
        simp [h0, h2, h4, h5, hm, setRun, resO, enc_mk]
  · exact ⟨by simp, by simp, by simp, by simp, _, [], rfl, .inl ⟨rfl, rfl⟩⟩
theorem callRefList2 (a b : List GV) (hl : GV.sizes a + GV.sizes b ≤ 1000000000) (id : Nat) (σ : Heap) (h : σ[id]? = some (.cells [.isl (GV.encs a) false, .isl (GV.encs b) false] 0 false)) (bs : Nat) :
    callT T 50 [.sl id 0 2 1 false] bs σ = some (resO (made (listV (a ++ b))), frz σ id 2) := by
  have hc := list_ok [a, b] (by simp) (by simp [sizes_append]; omega)
  simp only [List.map_cons, List.map_nil, List.flatten_cons, List.flatten_nil, List.append_nil] at hc
  exact call_data rfl rfl rfl hc (resO_scal _) rfl (by simp [closeT, close1, close0, h, window, chunk, mk])
theorem callRefList1 (a : List GV) (hl : GV.sizes a ≤ 1000000000) (id : Nat) (σ : Heap) (h : σ[id]? = some (.cells [.isl (GV.encs a) false] 0 false)) (bs : Nat) :
    callT T 50 [.sl id 0 1 1 false] bs σ = some (resO (made (listV a)), frz σ id 1) := by
  have hc := list_ok [a] (by simp) (by simp; omega)
  simp only [List.map_cons, List.map_nil, List.flatten_cons, List.flatten_nil, List.append_nil] at hc
  exact call_data rfl rfl rfl hc (resO_scal _) rfl (by simp [closeT, close1, close0, h, window, chunk, mk])
theorem right_list {a : GV} (hk : a.kind = 4) (h : rightT a = true) : a.items.length ≤ 16 ∧ ∀ x ∈ a.items, rightV 3 x = true := by
  have h : rightB a (decide (a.items.length ≤ 16 ∧ a.items.all (rightV 3) = true)) = true := h
  unfold rightB at h
  rw [if_neg (by omega), if_neg (by omega), if_neg (by omega), if_pos hk, decide_eq_true_eq] at h
  have h2 := h.2.2
  rw [decide_eq_true_eq] at h2
  exact ⟨h2.1, List.all_eq_true.1 h2.2⟩
theorem right_of_list {l : List GV} (hl : l.length ≤ 16) (h : ∀ x ∈ l, rightV 3 x = true) : rightT (listV l) = true :=
  rb4 l _ (decide_eq_true ⟨hl, List.all_eq_true.2 h⟩)
theorem made_tail {a : GV} (hk : a.kind = 4) (h : rightT a = true) : made (listV a.items.tail) = some (listV a.items.tail) := by
  obtain ⟨h1, h2⟩ := right_list hk h
  unfold made
  rw [if_pos (right_of_list (by simp; omega) fun x hx => h2 x (List.mem_of_mem_tail hx))]
theorem arity_pos {s : ByteArray} {n : Nat} (h : (n : Int) = arityOf s) : (n = 1 ∧ arityOf s = 1) ∨ (n = 2 ∧ arityOf s = 2) := by
  unfold arityOf at h ⊢
  split at h
  · exact .inr ⟨by omega, by simp [*]⟩
  · split at h
    · exact .inl ⟨by omega, by simp [*]⟩
    · omega
theorem rCall_ok (s : ByteArray) (args : List GV) (hsz : ∀ a ∈ args, a.size ≤ 100000000000) (hlen : args.length ≤ 1000000000) : pureT T c31 [.str s, .isl (GV.encs args) false] = some (resO (callV s args)) := by
  have har := refArity s
  obtain ⟨R, hR⟩ : ∃ R, R = callV s args := ⟨_, rfl⟩
  rw [← hR]
  unfold callV at hR
  apply pure_enter (by simp [c31])
  by_cases hl : (args.length : Int) = arityOf s
  · have hR0 : args.all rightT = false → R = none := fun h => by rw [hR, h, if_neg (by simp)]
    have hR1 : args.all rightT = true → R = (args[if s = sCons then 1 else 0]?).bind fun a => if a.kind = 4 then callD s args a else none := fun h => by rw [hR, h, if_pos ⟨hl, rfl⟩]
    clear hR
    simp [c31, har, hl]
    refine W_for T 0 155 args.length (fun i f σ => f 0 = .str s ∧ f 1 = .isl (GV.encs args) false ∧ f 4 = .ptr 0 0 ∧ f 6 = .int .i64 (i : Int) ∧ σ = [.cells [.int .i64 0, .int .i64 0, .str ⟨#[]⟩, .isl [] true] 0 false] ∧ ∀ j, (h : j < args.length) → j < i → rightT args[j] = true) ?_ _ _ ?_
    · rintro i f σ hi ⟨h0, h1, h4, h6, rfl, hall⟩
      by_cases hlt : i < args.length
      · have hw : IntKind.i64.wrap ((i : Int) + 1) = (i : Int) + 1 := wr64 (by omega) (by omega)
        have hr := refRight args[i] (hsz _ (List.getElem_mem hlt))
        cases hrr : rightT args[i]
        · rw [hrr] at hr
          have hno : R = none := hR0 (by rw [Bool.eq_false_iff, Ne, List.all_eq_true]; intro h; have := h _ (List.getElem_mem hlt); rw [hrr] at this; cases this)
          simp [h0, h1, h4, h6, hlt, hr, setRun, resO, nilV, enc_mk, enc_mk0, hno]
        · rw [hrr] at hr
          simp [h0, h1, h4, h6, hlt, hr, hw]
          intro j hj hji
          by_cases e : j = i
          · subst e; exact hrr
          · exact hall j hj (by omega)
      · have he : i = args.length := by omega
        subst he
        have hallr : args.all rightT = true := by
          rw [List.all_eq_true]; intro x hx
          obtain ⟨j, hj, rfl⟩ := List.getElem_of_mem hx
          exact hall j hj hj
        have hR := hR1 hallr
        have hrt := List.all_eq_true.1 hallr
        clear hR0 hR1 hall hallr
        rcases arity_pos hl with ⟨hn, ha1⟩ | ⟨hn, ha2⟩
        · obtain ⟨a, rfl⟩ : ∃ a, args = [a] := by
            match args, hn with
            | [a], _ => exact ⟨a, rfl⟩
          have hsc : s ≠ sCons := fun e => by subst e; revert ha1; decide
          have hra := hrt a (by simp)
          have hsa := rightT_size hra
          have hil := items_le a
          have hln := len_sizes a.items
          rw [if_neg hsc] at hR
          have hR : R = if a.kind = 4 then callD s [a] a else none := hR
          by_cases hk : a.kind = 4
          · rw [if_pos hk] at hR
            have hks : (GV.mk 4 a.num a.text a.items) = a := by rw [← hk]; exact gv_eta a
            by_cases h5 : s = sSize
            · subst h5
              have hR : R = some (numV a.items.length) := hR
              simp [h0, h1, h4, h6, hk, setRun, callRefNumber, resO, enc_mk, hR]
            by_cases h9 : s = sReverse
            · subst h9
              have hR : R = some (listV a.items.reverse) := hR
              have hw0 : IntKind.i64.wrap ((a.items.length : Int) - 1) = (a.items.length : Int) - 1 := wr64 (by omega) (by omega)
              simp [h0, h1, h4, h6, hk, setRun, hw0]
              refine W_for T 0 155 a.items.length (fun k f σ => f 4 = .ptr 0 0 ∧ f 8 = .ptr 1 0 ∧ f 11 = .ptr 2 0 ∧ f 12 = .int .i64 ((a.items.length : Int) - 1 - (k : Int)) ∧ ∃ lst rest,
                σ = [.cells [.int .i64 0, .int .i64 0, .str ⟨#[]⟩, .isl [] true] 0 false, .cells [.int .i64 4, .int .i64 a.num, .str a.text, .isl (GV.encs a.items) false] 0 false, .cells [.int .i64 4, .int .i64 0, .str ⟨#[]⟩, lst] 0 false] ++ rest ∧ LstAt rest 3 (GV.encs (a.items.reverse.take k)) 4 lst) ?_ _ _ ?_
              · rintro k f σ hki ⟨g4, g8, g11, g12, lst, rest, rfl, hlst⟩
                by_cases hlt : k < a.items.length
                · have hw : IntKind.i64.wrap ((a.items.length : Int) - 1 - (k : Int) - 1) = (a.items.length : Int) - 1 - ((k : Int) + 1) := by rw [wr64 (by omega) (by omega)]; omega
                  have hj : ((a.items.length : Int) - 1 - (k : Int)).toNat = a.items.length - 1 - k := by omega
                  have hc3 : (k : Int) ≤ (a.items.length : Int) - 1 := by omega
                  have hc4 : a.items.length - 1 - k < a.items.length := by omega
                  have htk : a.items.reverse.take (k + 1) = a.items.reverse.take k ++ [a.items[a.items.length - 1 - k]] := by
                    rw [List.take_add_one, List.getElem?_reverse (by omega), List.getElem?_eq_getElem hc4]; rfl
                  have hlen2 : (a.items.reverse.take k).length = k := by simp; omega
                  rw [htk]
                  generalize a.items.reverse.take k = done at *
                  have hdl : done.length ≤ 10000000000 := by omega
                  have hget : a.items[a.items.length - 1 - k]? = some a.items[a.items.length - 1 - k] := List.getElem?_eq_getElem hc4
                  generalize a.items[a.items.length - 1 - k] = x at *
                  rcases hlst with ⟨he, rfl⟩ | ⟨kk, rfl, hkl, hkk⟩
                  · have hd0 : done = [] := (encs_nil _).1 he
                    simp [g4, g8, g11, g12, hw, hj, hc3, hget, setRun, enc_mk]
                    exact ⟨hlt, _, _, ⟨rfl, rfl⟩, .inr ⟨rest.length + 1, by simp [hd0], by simp, by simp [hd0]⟩⟩
                  · simp [g4, g8, g11, g12, hw, hj, hc3, hget, setRun, enc_mk, List.getElem?_append_left hkl, hkk, List.set_append_left _ _ hkl, hdl]
                    exact ⟨hlt, _, _, ⟨rfl, rfl⟩, .inr ⟨kk, rfl, by simp; omega, by rw [List.getElem?_append_left (by simpa using hkl)]; simp [hkl]⟩⟩
                · have he : k = a.items.length := by omega
                  subst he
                  have hall2 : a.items.reverse.take a.items.length = a.items.reverse := List.take_of_length_le (by simp)
                  rw [hall2] at hlst
                  have hc5 : ¬ ((a.items.length : Int) ≤ (a.items.length : Int) - 1) := by omega
                  rcases hlst with ⟨he, rfl⟩ | ⟨kk, rfl, hkl, hkk⟩
                  · have hd0 : a.items.reverse = [] := (encs_nil _).1 he
                    simp [g4, g8, g11, g12, hc5, setRun, resO, hR, listV, GV.enc, hd0]
                  · simp [g4, g8, g11, g12, hc5, setRun, resO, hR, listV, GV.enc]
              · exact ⟨by simp [h4], by simp, by simp, by simp, _, [], rfl, .inl ⟨rfl, rfl⟩⟩
            have hne : ∀ x, x = sSize ∨ x = sReverse ∨ x = sFirst ∨ x = sLast ∨ x = sRest → arityOf x = 1 := fun x h => by rcases h with h | h | h | h | h <;> subst h <;> decide
            have h3 : s ≠ sAppend ∧ s ≠ sConcat ∧ s ≠ sMember := ⟨fun e => by subst e; revert ha1; decide, fun e => by subst e; revert ha1; decide, fun e => by subst e; revert ha1; decide⟩
            obtain ⟨h3a, h3b, h3c⟩ := h3
            by_cases hs6 : s = sFirst
            · subst hs6
              have hR : R = a.items.head? := hR
              cases hai : a.items with
              | nil =>
                rw [hai] at hR
                simp [h0, h1, h4, h6, hk, hai, setRun, resO, nilV, enc_mk, enc_mk0, hR]
              | cons x l =>
                rw [hai] at hR
                have hne2 : ¬ ((l.length : Int) + 1 = 0) := by omega
                simp [h0, h1, h4, h6, hk, hai, setRun, resO, enc_mk, hR, hne2, GV.encs]
            by_cases hs7 : s = sLast
            · subst hs7
              have hR : R = a.items.getLast? := hR
              by_cases hai : a.items = []
              · rw [hai] at hR
                simp [h0, h1, h4, h6, hk, hai, setRun, resO, nilV, enc_mk, enc_mk0, hR]
              · have hpos : 0 < a.items.length := List.length_pos_iff.2 hai
                have hw0 : IntKind.i64.wrap ((a.items.length : Int) - 1) = (a.items.length : Int) - 1 := wr64 (by omega) (by omega)
                have hc1 : (1 : Int) ≤ (a.items.length : Int) := by omega
                have hc2 : ((a.items.length : Int) - 1).toNat = a.items.length - 1 := by omega
                have hc3 : a.items.length - 1 < a.items.length := by omega
                have e1 : a.items[a.items.length - 1]? = some (a.items[a.items.length - 1]'hc3) := List.getElem?_eq_getElem hc3
                rw [List.getLast?_eq_getElem?, e1] at hR
                simp [h0, h1, h4, h6, hk, hai, setRun, resO, enc_mk, hR, hw0, hc1, hc2, e1]
            have hsr : s = sRest := by
              unfold arityOf at ha1
              split at ha1
              · cases ha1
              · split at ha1
                · rename_i h; rcases h with h | h | h | h | h
                  · exact absurd h h5
                  · exact absurd h hs6
                  · exact absurd h hs7
                  · exact h
                  · exact absurd h h9
                · cases ha1
            subst hsr
            have hR : R = if a.items = [] then none else some (listV a.items.tail) := hR
            have hmt := made_tail hk hra
            cases hai : a.items with
            | nil =>
              rw [hai] at hR
              simp [h0, h1, h4, h6, hk, hai, setRun, resO, nilV, enc_mk, enc_mk0, hR]
            | cons x l =>
              rw [hai] at hR hmt hil
              simp only [GV.sizes, List.tail_cons] at hil hmt
              have hsl := slSl_tail (c := false) (fun e h => encsV_len (x :: l) e h)
              have hL := fun A B => callRefList1 l (by omega) 2 [A, B, .cells [.isl (GV.encs l) false] 0 false] rfl 0
              have hne2 : ¬ ((l.length : Int) + 1 = 0) := by omega
              have he : GV.encs (x :: l) = x.enc :: GV.encs l := rfl
              rw [hmt] at hL
              try simp at hL
              rw [if_neg (by simp)] at hR
              simp [h0, h1, h4, h6, hk, hai, setRun, resO, hR, hne2, he, hsl, hL, enc_mk, frz]
          · rw [if_neg hk] at hR
            simp [h0, h1, h4, h6, hsc, hk, setRun, resO, nilV, enc_mk, enc_mk0, hR]
        · obtain ⟨a, b, rfl⟩ : ∃ a b, args = [a, b] := by
            match args, hn with
            | [a, b], _ => exact ⟨a, b, rfl⟩
          have hra := hrt a (by simp)
          have hrb := hrt b (by simp)
          have hsa := rightT_size hra
          have hsb := rightT_size hrb
          have hila := items_le a
          have hilb := items_le b
          have hlna := len_sizes a.items
          have he2 : GV.encs [a, b] = [a.enc, b.enc] := rfl
          by_cases hs1 : s = sCons
          · subst hs1
            have hR : R = if b.kind = 4 then made (listV (a :: b.items)) else none := hR
            have hsl := slSl_head (sz := 4) (x := a.enc) (es := [b.enc]) (c := false)
            have hL := fun A B => callRefList2 [a] b.items (by simp only [GV.sizes]; omega) 2 [A, B, .cells [.isl (GV.encs [a]) false, .isl (GV.encs b.items) false] 0 false] rfl 0
            by_cases hk : b.kind = 4
            · rw [if_pos hk] at hR
              try simp at hL
              simp [h0, h1, h4, h6, he2, hk, setRun, hsl, hL, resO, hR, enc_mk, frz]
            · rw [if_neg hk] at hR
              simp [h0, h1, h4, h6, he2, hk, setRun, resO, nilV, enc_mk, enc_mk0, hR]
          have hR : R = if a.kind = 4 then callD s [a, b] a else none := by rw [if_neg hs1] at hR; exact hR
          by_cases hk : a.kind = 4
          · rw [if_pos hk] at hR
            by_cases hs2 : s = sAppend
            · subst hs2
              have hR : R = made (listV (a.items ++ [b])) := hR
              have hsl := slSl_tail (sz := 4) (x := a.enc) (es := [b.enc]) (c := false) (by simp)
              have hL := fun A B => callRefList2 a.items [b] (by simp only [GV.sizes]; omega) 2 [A, B, .cells [.isl (GV.encs a.items) false, .isl (GV.encs [b]) false] 0 false] rfl 0
              try simp at hL
              simp [h0, h1, h4, h6, he2, hk, setRun, hsl, hL, resO, hR, enc_mk, frz]
            by_cases hs3 : s = sConcat
            · subst hs3
              have hR : R = if b.kind = 4 then made (listV (a.items ++ b.items)) else none := hR
              have hL := fun A B => callRefList2 a.items b.items (by omega) 2 [A, B, .cells [.isl (GV.encs a.items) false, .isl (GV.encs b.items) false] 0 false] rfl 0
              by_cases hkb : b.kind = 4
              · rw [if_pos hkb] at hR
                try simp at hL
                simp [h0, h1, h4, h6, he2, hk, hkb, setRun, hL, resO, hR, enc_mk, frz]
              · rw [if_neg hkb] at hR
                simp [h0, h1, h4, h6, he2, hk, hkb, setRun, resO, nilV, enc_mk, enc_mk0, hR]
            have hs4 : s = sMember := by
              unfold arityOf at ha2
              split at ha2
              · rename_i h; rcases h with h | h | h | h
                · exact absurd h hs1
                · exact absurd h hs2
                · exact absurd h hs3
                · exact h
              · split at ha2 <;> cases ha2
            subst hs4
            have hR : R = some (numV (if a.items.any (fun x => decide (cmpV x b = 0)) then 1 else 0)) := hR
            simp [h0, h1, h4, h6, he2, hk, setRun]
            refine W_for T 0 155 a.items.length (fun k f σ => f 1 = .isl [a.enc, b.enc] false ∧ f 4 = .ptr 0 0 ∧ f 8 = .ptr 1 0 ∧ f 9 = .int .i64 (a.items.length : Int) ∧ f 10 = .int .i64 (k : Int) ∧ 
              σ = [.cells [.int .i64 0, .int .i64 0, .str ⟨#[]⟩, .isl [] true] 0 false, .cells [.int .i64 4, .int .i64 a.num, .str a.text, .isl (GV.encs a.items) false] 0 false] ∧ ∀ j, (h : j < a.items.length) → j < k → cmpV a.items[j] b ≠ 0) ?_ _ _ ?_
            · rintro k f σ hki ⟨g1, g4, g8, g9, g10, rfl, hall⟩
              by_cases hlt : k < a.items.length
              · have hw : IntKind.i64.wrap ((k : Int) + 1) = (k : Int) + 1 := wr64 (by omega) (by omega)
                have hx := List.getElem_mem hlt
                have hc := refCmp a.items[k] b (by have := (sizes_mem hx).1; omega)
                by_cases hz : cmpV a.items[k] b = 0
                · have hany : a.items.any (fun x => decide (cmpV x b = 0)) = true := List.any_eq_true.2 ⟨_, hx, by simp [hz]⟩
                  rw [hany] at hR
                  simp [g1, g4, g8, g9, g10, hlt, hc, hz, callRefNumber, setRun, resO, hR, enc_mk]
                · simp [g1, g4, g8, g9, g10, hlt, hc, hz, hw]
                  intro j hj hjk
                  by_cases e : j = k
                  · subst e; exact hz
                  · exact hall j hj (by omega)
              · have he : k = a.items.length := by omega
                subst he
                have hany : a.items.any (fun x => decide (cmpV x b = 0)) = false := by
                  rw [Bool.eq_false_iff, Ne, List.any_eq_true]
                  rintro ⟨x, hx, hz⟩
                  obtain ⟨j, hj, rfl⟩ := List.getElem_of_mem hx
                  exact hall j hj hj (by simpa using hz)
                rw [hany] at hR
                simp [g1, g4, g8, g9, g10, callRefNumber, setRun, resO, hR, enc_mk]
            · simp [h1, h4, he2]
          · rw [if_neg hk] at hR
            simp [h0, h1, h4, h6, he2, hs1, hk, setRun, resO, nilV, enc_mk, enc_mk0, hR]
    · simp
  · have hl' : ¬ arityOf s = (args.length : Int) := fun h => hl h.symm
    rw [if_neg (fun h => hl h.1)] at hR
    simp [c31, har, hl', setRun, resO, nilV, enc_mk, enc_mk0, hR]
theorem callRCall (s : ByteArray) (args : List GV) (hsz : ∀ a ∈ args, a.size ≤ 100000000000) (hlen : args.length ≤ 1000000000) (bs : Nat) (σ : Heap) : callT T 31 [.str s, .isl (GV.encs args) false] bs σ = some (resO (callV s args), σ) := call_clean rfl rfl rfl (by simp) (rCall_ok s args hsz hlen)
theorem rOp_ok (s : ByteArray) (a b : GV) (ha : a.size ≤ 100000000000) (hb : b.size ≤ 100000000000) : pureT T c32 [.str s, a.enc, b.enc] = some (resO (opV s a b)) := by
  have hra := refRight a ha
  have hrb := refRight b hb
  apply pure_enter (by simp [c32])
  unfold opV
  by_cases h : a.kind = 1 ∧ b.kind = 1 ∧ rightT a = true ∧ rightT b = true
  · rw [if_pos h]
    obtain ⟨h1, h2, h3, h4⟩ := h
    have hna := right_num h1 h3
    have hnb := right_num h2 h4
    have hm := mul_bound hna hnb
    rw [h3] at hra
    rw [h4] at hrb
    have w1 : IntKind.i64.wrap (a.num + b.num) = a.num + b.num := wr64 (by omega) (by omega)
    have w2 : IntKind.i64.wrap (a.num - b.num) = a.num - b.num := wr64 (by omega) (by omega)
    have w3 : IntKind.i64.wrap (a.num * b.num) = a.num * b.num := wr64 (by omega) (by omega)
    have hr2 := fun n => callMade (numV n) (by rw [numV_size]; omega)
    obtain ⟨ka, na, ta, la⟩ := a
    obtain ⟨kb, nb, tb, lb⟩ := b
    replace h1 : ka = 1 := h1
    replace h2 : kb = 1 := h2
    subst h1 h2
    simp only [GV.num] at w1 w2 w3 ⊢
    by_cases e1 : s = ⟨#[43]⟩
    · subst e1
      simp [c32, hra, hrb, w1, callRefNumber, hr2, setRun, resO, enc_mk]
    · by_cases e2 : s = ⟨#[45]⟩
      · subst e2
        simp [c32, hra, hrb, w2, callRefNumber, hr2, setRun, resO, enc_mk]
      · by_cases e3 : s = ⟨#[42]⟩
        · subst e3
          simp [c32, hra, hrb, w3, callRefNumber, hr2, setRun, resO, enc_mk]
        · simp [c32, hra, hrb, e1, e2, e3, setRun, resO, nilV, enc_mk, enc_mk0]
  · rw [if_neg h]
    obtain ⟨ka, na, ta, la⟩ := a
    obtain ⟨kb, nb, tb, lb⟩ := b
    cases h3 : rightT (GV.mk ka na ta la)
    · rw [h3] at hra
      cases h4 : rightT (GV.mk kb nb tb lb)
      all_goals (rw [h4] at hrb; simp [c32, hra, hrb, setRun, resO, nilV, enc_mk, enc_mk0, GV.kind, GV.num, GV.text, GV.items])
    · rw [h3] at hra
      cases h4 : rightT (GV.mk kb nb tb lb)
      · rw [h4] at hrb; simp [c32, hra, hrb, setRun, resO, nilV, enc_mk, enc_mk0, GV.kind, GV.num, GV.text, GV.items]
      · rw [h4] at hrb
        have h12 : ¬ (ka = 1 ∧ kb = 1) := fun e => h ⟨e.1, e.2, h3, h4⟩
        by_cases h1 : ka = 1
        · have h2 : ¬ kb = 1 := fun e => h12 ⟨h1, e⟩
          subst h1
          simp [c32, hra, hrb, h2, setRun, resO, nilV, enc_mk, enc_mk0, GV.kind, GV.num, GV.text, GV.items]
        · simp [c32, hra, hrb, h1, setRun, resO, nilV, enc_mk, enc_mk0, GV.kind, GV.num, GV.text, GV.items]
theorem callROp (s : ByteArray) (a b : GV) (ha : a.size ≤ 100000000000) (hb : b.size ≤ 100000000000) (bs : Nat) (σ : Heap) : callT T 32 [.str s, a.enc, b.enc] bs σ = some (resO (opV s a b), σ) := call_clean rfl rfl rfl (by simp) (rOp_ok s a b ha hb)
end Go.Proofs.Ytkjfkbblfjmnaaa
end
section
set_option linter.unusedVariables false
set_option linter.unusedSimpArgs false
set_option linter.unnecessarySimpa false
namespace Go.Proofs.Ytkjfkbblfjmnaaa
open Go.Mach

/-! ### What is bound -/
def lookupV (env : List GB) (name : ByteArray) : Option GV := (env.find? fun b => decide (b.name = name)).map GB.value
def idxB (p : GB → Bool) (l : List GB) : Int := match l.findIdx? p with
  | some i => (i : Int)
  | none => -1
theorem findIdxB (p : GB → Bool) (l : List GB) (i : Nat) (hi : i < l.length) (h : ∀ j, (hj : j < l.length) → j < i → p l[j] = false) (hp : p l[i] = true) : l.findIdx? p = some i := by
  rw [List.findIdx?_eq_some_iff_getElem]
  exact ⟨hi, hp, fun j hj => by rw [h j (by omega) hj]; simp⟩
theorem indexB_ok (p : GB → Bool) (l : List GB) (g : Nat) (caps : List AV) (hl : l.length ≤ 100000000000) (hc : ∀ x ∈ l, ∀ bs σ, callT T g (x.enc :: caps) bs σ = some (.bool (p x), σ)) :
    pureT T c54 [.isl (GB.encs l) false, .func g caps] = some (.int .i64 (idxB p l)) := by
  apply pure_enter (by simp [c54])
  simp [c54]
  refine W_for T 0 19 l.length (fun i f σ => f 0 = .isl (GB.encs l) false ∧ f 1 = .func g caps ∧ f 7 = .int .i64 (l.length : Int) ∧ f 8 = .int .i64 (i : Int) ∧ ∀ j, (hj : j < l.length) → j < i → p l[j] = false) ?_ _ _ ?_
  · rintro i f σ hi ⟨h0, h1, h7, h8, hall⟩
    by_cases hlt : i < l.length
    · have hcl := hc l[i] (List.getElem_mem hlt)
      have hw : IntKind.i64.wrap ((i : Int) + 1) = (i : Int) + 1 := wr64 (by omega) (by omega)
      cases hp : p l[i]
      · simp [h0, h1, h7, h8, hlt, hcl, hp, GB.enc_mk, hw]
        intro j hj hji
        by_cases e : j = i
        · subst e; exact hp
        · exact hall j hj (by omega)
      · simp [h0, h1, h7, h8, hlt, hcl, hp, GB.enc_mk]
        simp [idxB, findIdxB p l i hlt hall hp]
    · have he : i = l.length := by omega
      subst he
      have hn : l.findIdx? p = none := by
        rw [List.findIdx?_eq_none_iff]
        intro x hx
        obtain ⟨j, hj, rfl⟩ := List.getElem_of_mem hx
        exact hall j hj hj
      simp [h0, h1, h7, h8, idxB, hn]
  · simp
theorem lookup1_ok (b : GB) (name : ByteArray) (bs : Nat) (σ : Heap) : callT T 55 [b.enc, .iptr [.str name] 0] bs σ = some (.bool (decide (b.name = name)), σ) := by
  refine call_clean rfl rfl rfl (by simp) ?_
  apply pure_enter (by simp [c55])
  simp [c55]
theorem idx_lookup (env : List GB) (name : ByteArray) : (idxB (fun b => decide (b.name = name)) env < 0 ∧ lookupV env name = none) ∨ (∃ i, ∃ h : i < env.length, idxB (fun b => decide (b.name = name)) env = (i : Int) ∧ lookupV env name = some env[i].value) := by
  unfold idxB lookupV
  cases h : env.findIdx? (fun b => decide (b.name = name)) with
  | none =>
    rw [List.findIdx?_eq_none_iff] at h
    refine .inl ⟨by decide, ?_⟩
    rw [List.find?_eq_none.2 (fun x hx => by rw [h x hx]; simp)]; rfl
  | some i =>
    rw [List.findIdx?_eq_some_iff_getElem] at h
    obtain ⟨hi, hp, hall⟩ := h
    refine .inr ⟨i, hi, rfl, ?_⟩
    have : env.find? (fun b => decide (b.name = name)) = some env[i] := by
      rw [List.find?_eq_some_iff_getElem]
      exact ⟨hp, i, hi, rfl, fun j hj => by have := hall j hj; simpa using this⟩
    rw [this]; rfl
theorem enc_refLt2 (n : Nat) (v : GV) : refLt2 n v.enc = true := by rw [GV.enc_eq]; rfl
theorem lookup_isl (env : List GB) (name : ByteArray) (hl : env.length ≤ 100000000000) (bs : Nat) (σ : Heap) : callT T 35 [.isl (GB.encs env) false, .str name] bs σ = some (resO (lookupV env name), σ) := by
  have hidx : ∀ bs (C : AObj), callT T 54 [.isl (GB.encs env) false, .func 55 [.ptr σ.length 0]] bs (σ ++ [.cells [.str name] 0 false, C]) = some (.int .i64 (idxB (fun b => decide (b.name = name)) env), σ ++ [.cells [.str name] 0 false, C]) := fun bs C =>
    call_scal rfl rfl rfl (indexB_ok _ env 55 [.iptr [.str name] 0] hl (fun x hx bs σ => lookup1_ok x name bs σ)) rfl (by simp) (by simp [frz]; rfl)
  refine heap_enter (af := c35) (args' := [.isl (GB.encs env) false, .str name]) (σ1 := σ) rfl rfl (by simp [c35]) (by simp [c35]) rfl ?_
  rcases idx_lookup env name with ⟨hneg, hv⟩ | ⟨i, hi, he, hv⟩
  · simp [c35, baseA, hidx, hneg, hv, setRun, res1, dropA_gc, refLt, refLt2, refLt1, refLt0, resO, nilV, GV.enc]
  · simp [c35, baseA, hidx, he, hv, hi, setRun, res1, dropA_gc, refLt, resO, enc_mk]
    exact ⟨enc_refLt2 _ _, rfl⟩
theorem bfresh_ok : ∀ (n : Nat) (v : GV), v.size ≤ n → n ≤ 1000000000 → pureT T c30 [v.enc] = some v.enc := by
  intro n
  induction n with
  | zero => intro v h; cases v; simp [GV.size] at h
  | succ n ih =>
    intro v hs hn
    have hil := items_le v
    have hlen := len_sizes v.items
    have hcall : ∀ x ∈ v.items, ∀ bs σ, callT T 30 [x.enc] bs σ = some (x.enc, σ) := fun x hx bs σ => call_clean rfl rfl rfl (by simp) (ih x (by have := (sizes_mem hx).1; omega) (by omega))
    apply pure_enter (by simp [c30])
    by_cases he : v.items = []
    · simp [c30, he, setRun]
      simp [GV.enc_eq v, he]
    · have hpos : ¬ ((v.items.length : Int) ≤ 0) := by have := List.length_pos_iff.2 he; omega
      have hpos2 : 0 < v.items.length := List.length_pos_iff.2 he
      simp [c30, hpos, hpos2, callClone v.items false he (by omega), setRun]
      refine W_for T 0 29 v.items.length (fun i f σ => f 1 = .ptr 0 0 ∧ f 2 = .ptr 1 0 ∧ f 14 = .sl 3 0 v.items.length 4 true ∧ f 15 = .int .i64 (v.items.length : Int) ∧ f 16 = .int .i64 (i : Int) ∧ ∃ rest, σ = [.cells [.int .i64 v.kind, .int .i64 v.num, .str v.text, .sl 3 0 v.items.length 4 true] 0 false, .cells [.int .i64 0, .int .i64 0, .str ⟨#[]⟩, .isl [] true] 0 false, .cells [] 0 false, .cells (flat (GV.encs v.items)) 0 true] ++ rest) ?_ _ _ ?_
      · rintro i f σ hi ⟨h1, h2, h13, h14, h15, rest, rfl⟩
        by_cases hlt : i < v.items.length
        · have hw : IntKind.i64.wrap ((i : Int) + 1) = (i : Int) + 1 := wr64 (by omega) (by omega)
          have hcl := hcall v.items[i] (List.getElem_mem hlt)
          have hwk := flat_win (s := 4) (es := GV.encs v.items) (i := i) (by simpa using hlt) (encsV_len _)
          have hs1 := flat_set (s := 4) (v := (v.items[i]).enc) (by simp) (es := GV.encs v.items) (i := i) (by simpa using hlt) (encsV_len _)
          have hset : (GV.encs v.items).set i (v.items[i]).enc = GV.encs v.items := by
            have := GV.encs_getE v.items i (by simpa using hlt)
            rw [← this, List.set_getElem_self]
          have hb : i * 4 + 4 ≤ (flat (GV.encs v.items)).length := by rw [flat_len (encsV_len _)]; simp; omega
          rw [hset] at hs1
          rw [GV.encs_getE] at hwk
          generalize v.items[i] = x at *
          simp at hwk hs1
          simp [h1, h2, h13, h14, h15, hlt, hw, hcl, hwk, hs1, hb, enc_mk, setRun]
        · have he2 : i = v.items.length := by omega
          subst he2
          have hcl := close1_flat (σ := [.cells [.int .i64 v.kind, .int .i64 v.num, .str v.text, .sl 3 0 v.items.length 4 true] 0 false, .cells [.int .i64 v.kind, .int .i64 v.num, .str v.text, .sl 3 0 v.items.length 4 true] 0 false, .cells [] 0 false, .cells (flat (GV.encs v.items)) 0 true] ++ rest) (id := 3) rfl (fun e => he ((encs_nil _).1 e)) (encsV_agg _) (encsV_clo _)
          simp at hcl
          simp [h1, h2, h13, h14, h15, setRun, hcl]
      · simp
theorem callBFresh (v : GV) (hs : v.size ≤ 1000000000) (bs : Nat) (σ : Heap) : callT T 30 [v.enc] bs σ = some (v.enc, σ) := call_clean rfl rfl rfl (by simp) (bfresh_ok v.size v (Nat.le_refl _) hs)
/-! ### Terms' values -/
mutual
def evalV (env : List GB) : GT → Option GV
  | .mk k n v args => if k = 1 then lookupV env n else if k = 2 then some v else match evalVs env args with
    | none => none
    | some l => if k = 3 then callV n l else if k = 4 ∧ l.length = 2 then opV n (l.getD 0 default) (l.getD 1 default) else none
def evalVs (env : List GB) : List GT → Option (List GV)
  | [] => some []
  | x :: xs => match evalV env x with
    | none => none
    | some v => (evalVs env xs).map (v :: ·)
end
theorem evalVs_snoc (env : List GB) (x : GT) : ∀ l, evalVs env (l ++ [x]) = match evalVs env l with
    | none => none
    | some vs => (evalV env x).map (fun v => vs ++ [v])
  | [] => by simp only [List.nil_append, evalVs]; cases evalV env x <;> rfl
  | y :: l => by
    simp only [List.cons_append, evalVs, evalVs_snoc env x l]
    cases evalV env y with
    | none => rfl
    | some v =>
      cases evalVs env l with
      | none => rfl
      | some vs => cases evalV env x <;> rfl
theorem evalVs_none (env : List GB) (l : List GT) : ∀ k, evalVs env (l.take k) = none → evalVs env l = none := by
  induction l with
  | nil => intro k h; cases k <;> simpa using h
  | cons x l ih =>
    intro k h
    cases k with
    | zero => simp [evalVs] at h
    | succ k =>
      simp only [List.take_succ_cons, evalVs] at h ⊢
      cases hx : evalV env x with
      | none => rfl
      | some v =>
        rw [hx] at h
        simp only [Option.map_eq_none_iff] at h ⊢
        exact ih k h
def resL (o : Option (List GV)) : AV := .tup [.isl (GV.encs (o.getD [])) false, .bool o.isSome]
theorem all_ok (env : List GB) (args : List GT) (hl : args.length ≤ 1000000000) (hc : ∀ x ∈ args, ∀ bs σ, callT T 29 [.isl (GB.encs env) false, x.enc] bs σ = some (resO (evalV env x), σ)) :
    pureT T c45 [.isl (GT.encs args) false, .meth 29 [.isl (GB.encs env) false]] = some (resL (evalVs env args)) := by
  apply pure_enter (by simp [c45])
  simp [c45]
  refine W_for T 0 30 args.length (fun i f σ => f 1 = .meth 29 [.isl (GB.encs env) false] ∧ f 10 = .isl (GT.encs args) false ∧ f 11 = .int .i64 (args.length : Int) ∧ f 12 = .int .i64 (i : Int) ∧ ∃ done, evalVs env (args.take i) = some done ∧ done.length = i ∧ LstAt σ 0 (GV.encs done) 4 (f 4)) ?_ _ _ ?_
  · rintro i f σ hi ⟨h1, h10, h11, h12, done, hd, hdl, hlst⟩
    by_cases hlt : i < args.length
    · have hw : IntKind.i64.wrap ((i : Int) + 1) = (i : Int) + 1 := wr64 (by omega) (by omega)
      have hcl := hc args[i] (List.getElem_mem hlt)
      have htk : evalVs env (args.take (i + 1)) = (evalV env args[i]).map (fun v => done ++ [v]) := by
        rw [List.take_add_one, List.getElem?_eq_getElem hlt, Option.toList_some, evalVs_snoc, hd]
      cases hx : evalV env args[i] with
      | none =>
        rw [hx] at hcl htk
        have hn : evalVs env args = none := evalVs_none env args (i + 1) htk
        simp [h1, h10, h11, h12, hlt, hcl, resO, GT.enc_mk, setRun, hn, resL]
      | some v =>
        rw [hx] at hcl htk
        have hdl2 : done.length ≤ 10000000000 := by omega
        simp only [Option.map_some] at htk
        rcases hlst with ⟨he, h4⟩ | ⟨kk, h4, hkl, hkk⟩
        · have hd0 : done = [] := (encs_nil _).1 he
          simp [h1, h10, h11, h12, h4, hlt, hcl, resO, GT.enc_mk, setRun, enc_mk, hw]
          exact ⟨_, htk, by simp [hdl], .inr ⟨σ.length + 3, by simp [hd0], by simp, by simp [hd0]⟩⟩
        · simp [h1, h10, h11, h12, h4, hlt, hcl, resO, GT.enc_mk, setRun, enc_mk, hw, List.getElem?_append_left hkl, hkk, List.set_append_left _ _ hkl, hdl2]
          exact ⟨_, htk, by simp [hdl], .inr ⟨kk, rfl, by simp; omega, by rw [List.getElem?_append_left (by simpa using hkl)]; simp [hkl]⟩⟩
    · have he : i = args.length := by omega
      subst he
      rw [List.take_length] at hd
      rcases hlst with ⟨he, h4⟩ | ⟨kk, h4, hkl, hkk⟩
      · simp [h1, h10, h11, h12, h4, resL, hd, he]
      · simp [h1, h10, h11, h12, h4, resL, hd]
  · exact ⟨by simp, by simp, by simp, by simp, [], rfl, rfl, .inl ⟨rfl, by simp⟩⟩
/-- Binds of which no value is too great to be walked. -/
def Small (env : List GB) : Prop := env.length ≤ 1000000000 ∧ ∀ b ∈ env, b.value.size ≤ 1000000000
theorem lookupV_mem {env : List GB} {n : ByteArray} {v : GV} (h : lookupV env n = some v) : ∃ b ∈ env, b.value = v ∧ b.name = n := by
  unfold lookupV at h
  obtain ⟨b, hb, rfl⟩ := Option.map_eq_some_iff.1 h
  exact ⟨b, List.mem_of_find?_eq_some hb, rfl, by simpa using List.find?_some hb⟩
theorem callV_size {s : ByteArray} {args : List GV} {v : GV} (h : callV s args = some v) : v.size ≤ 2936020 := by
  unfold callV at h
  split at h
  · rename_i hc
    obtain ⟨a, ha, h⟩ := Option.bind_eq_some_iff.1 h
    split at h
    · exact callD_size (rightT_size (List.all_eq_true.1 hc.2 a (List.mem_of_getElem? ha))) h
    · cases h
  · cases h
mutual
theorem evalV_size {env : List GB} (he : Small env) : ∀ (t : GT) (v : GV), t.size ≤ 1000000000 → evalV env t = some v → v.size ≤ 1000000000
  | .mk k n w args, v, hs, h => by
    simp only [evalV] at h
    have hw := GT.value_le (.mk k n w args)
    split at h
    · obtain ⟨b, hb, rfl, _⟩ := lookupV_mem h
      exact he.2 b hb
    · split at h
      · injection h with h; subst h; exact Nat.le_trans hw hs
      · split at h
        · cases h
        · split at h
          · have := callV_size h; omega
          · split at h
            · have := opV_size h; omega
            · cases h
theorem evalVs_size {env : List GB} (he : Small env) : ∀ (l : List GT) (vs : List GV), GT.sizes l ≤ 1000000000 → evalVs env l = some vs → vs.length = l.length ∧ ∀ v ∈ vs, v.size ≤ 1000000000
  | [], vs, _, h => by simp only [evalVs] at h; injection h with h; subst h; simp
  | x :: l, vs, hs, h => by
    simp only [GT.sizes] at hs
    simp only [evalVs] at h
    split at h
    · cases h
    · rename_i v hv
      obtain ⟨ws, hws, rfl⟩ := Option.map_eq_some_iff.1 h
      obtain ⟨h1, h2⟩ := evalVs_size he l ws (by omega) hws
      refine ⟨by simp [h1], fun u hu => ?_⟩
      rcases List.mem_cons.1 hu with rfl | hu
      · exact evalV_size he x _ (by omega) hv
      · exact h2 u hu
end
theorem eval_ok (env : List GB) (he : Small env) : ∀ (n : Nat) (t : GT), t.size ≤ n → n ≤ 1000000000 → pureT T c29 [.isl (GB.encs env) false, t.enc] = some (resO (evalV env t)) := by
  intro n
  induction n with
  | zero => intro t h; obtain ⟨k, nm, v, l⟩ := t; cases v; simp [GT.size, GV.size] at h
  | succ n ih =>
    intro t hs hn
    have hal := GT.args_le t
    have hln := GT.len_sizes t.args
    have hc : ∀ x ∈ t.args, ∀ bs σ, callT T 29 [.isl (GB.encs env) false, x.enc] bs σ = some (resO (evalV env x), σ) := fun x hx bs σ =>
      call_clean rfl rfl rfl (by simp) (ih x (by have := (GT.sizes_mem hx).1; omega) (by omega))
    have hall := fun bs σ => call_clean (T := T) (f := 45) (bs := bs) (σ := σ) rfl rfl rfl (by simp) (all_ok env t.args (by omega) hc)
    have hlk := fun bs σ => lookup_isl env t.name (by have := he.1; omega) bs σ
    apply pure_enter (by simp [c29])
    obtain ⟨k, nm, v, args⟩ := t
    simp only [GT.kind, GT.name, GT.value, GT.args] at hlk hall hal hln
    simp only [evalV]
    by_cases h1 : k = 1
    · subst h1
      simp [c29, hlk, setRun, resO, enc_mk, GT.kind, GT.name, GT.value, GT.args]
    · by_cases h2 : k = 2
      · subst h2
        simp [c29, setRun, resO, enc_mk, GT.kind, GT.name, GT.value, GT.args]
      · rw [if_neg h1, if_neg h2]
        cases hv : evalVs env args with
        | none =>
          rw [hv] at hall
          simp [c29, h1, h2, hall, resL, setRun, resO, nilV, enc_mk, enc_mk0, GT.kind, GT.name, GT.value, GT.args]
        | some l =>
          rw [hv] at hall
          obtain ⟨hl1, hl2⟩ := evalVs_size he args l (by omega) hv
          by_cases h3 : k = 3
          · subst h3
            have hbc := callBCall nm l (fun a ha => by have := hl2 a ha; omega) (by omega)
            simp [c29, hall, hbc, resL, setRun, resO, enc_mk, GT.kind, GT.name, GT.value, GT.args]
          · by_cases h4 : k = 4
            · subst h4
              by_cases hl2' : l.length = 2
              · obtain ⟨a, b, rfl⟩ : ∃ a b, l = [a, b] := by
                  match l, hl2' with
                  | [a, b], _ => exact ⟨a, b, rfl⟩
                have hbo := callBOp nm a b (by have := hl2 a (by simp); omega) (by have := hl2 b (by simp); omega)
                have he2 : GV.encs [a, b] = [a.enc, b.enc] := rfl
                simp [c29, hall, hbo, resL, setRun, resO, enc_mk, he2, GT.kind, GT.name, GT.value, GT.args]
              · have hl3 : ¬ ((l.length : Int) = 2) := by omega
                simp [c29, hall, resL, setRun, resO, nilV, enc_mk, enc_mk0, hl2', hl3, GT.kind, GT.name, GT.value, GT.args]
            · simp [c29, h1, h2, h3, h4, hall, resL, setRun, resO, nilV, enc_mk, enc_mk0, GT.kind, GT.name, GT.value, GT.args]
theorem callSEval (env : List GB) (he : Small env) (t : GT) (ht : t.size ≤ 1000000000) (bs : Nat) (σ : Heap) : callT T 29 [.isl (GB.encs env) false, t.enc] bs σ = some (resO (evalV env t), σ) := call_clean rfl rfl rfl (by simp) (eval_ok env he t.size t (Nat.le_refl _) ht)
theorem bEval_ok (env : List GB) (he : Small env) (t : GT) (ht : t.size ≤ 1000000000) : pureT T c12 [t.enc, .isl (GB.encs env) false] = some (resO (evalV env t)) := by
  have hc := callSEval env he t ht
  have hf := callBFresh ((evalV env t).getD nilV) (by
    cases h : evalV env t with
    | none => decide
    | some v => exact evalV_size he t v ht h)
  apply pure_enter (by simp [c12])
  obtain ⟨k, nm, v, args⟩ := t
  simp [c12, hc, hf, setRun, resO, enc_mk, GT.enc_mk]
theorem callBEval (env : List GB) (he : Small env) (t : GT) (ht : t.size ≤ 1000000000) (bs : Nat) (σ : Heap) : callT T 12 [t.enc, .isl (GB.encs env) false] bs σ = some (resO (evalV env t), σ) := call_clean rfl rfl rfl (by simp) (bEval_ok env he t ht)
theorem bLookup_ok (env : List GB) (he : Small env) (n : ByteArray) : pureT T c16 [.isl (GB.encs env) false, .str n] = some (resO (lookupV env n)) := by
  have hc := fun bs σ => lookup_isl env n (by have := he.1; omega) bs σ
  have hf := callBFresh ((lookupV env n).getD nilV) (by
    cases h : lookupV env n with
    | none => decide
    | some v => obtain ⟨b, hb, rfl, _⟩ := lookupV_mem h; exact he.2 b hb)
  apply pure_enter (by simp [c16])
  simp [c16, hc, hf, setRun, resO, enc_mk]
theorem callBLookup (env : List GB) (he : Small env) (n : ByteArray) (bs : Nat) (σ : Heap) : callT T 16 [.isl (GB.encs env) false, .str n] bs σ = some (resO (lookupV env n), σ) := call_clean rfl rfl rfl (by simp) (bLookup_ok env he n)
/-! ### The document's -/
theorem lookup_none {env : List GB} {n : ByteArray} : lookupV env n = none ↔ ∀ j, (h : j < env.length) → env[j].name ≠ n := by
  unfold lookupV
  rw [Option.map_eq_none_iff, List.find?_eq_none]
  constructor
  · intro h j hj; have := h env[j] (List.getElem_mem hj); simpa using this
  · intro h x hx; obtain ⟨j, hj, rfl⟩ := List.getElem_of_mem hx; simpa using h j hj
theorem lookup_at {env : List GB} {n : ByteArray} {i : Nat} (hi : i < env.length) (h : env[i].name = n) (hall : ∀ j, (h : j < env.length) → j < i → env[j].name ≠ n) : lookupV env n = some env[i].value := by
  unfold lookupV
  have : env.find? (fun b => decide (b.name = n)) = some env[i] := by
    rw [List.find?_eq_some_iff_getElem]
    exact ⟨by simpa using h, i, hi, rfl, fun j hj => by simpa using hall j (by omega) hj⟩
  rw [this]; rfl
theorem rLookup_ok (env : List GB) (hl : env.length ≤ 1000000000) (n : ByteArray) : pureT T c17 [.isl (GB.encs env) false, .str n] = some (resO (lookupV env n)) := by
  apply pure_enter (by simp [c17])
  simp [c17]
  refine W_for T 0 26 env.length (fun i f σ => f 0 = .isl (GB.encs env) false ∧ f 1 = .str n ∧ f 4 = .ptr 0 0 ∧ f 6 = .int .i64 (i : Int) ∧ σ = [.cells [.int .i64 0, .int .i64 0, .str ⟨#[]⟩, .isl [] true] 0 false] ∧ ∀ j, (h : j < env.length) → j < i → env[j].name ≠ n) ?_ _ _ ?_
  · rintro i f σ hi ⟨h0, h1, h4, h6, rfl, hall⟩
    by_cases hlt : i < env.length
    · have hw : IntKind.i64.wrap ((i : Int) + 1) = (i : Int) + 1 := wr64 (by omega) (by omega)
      by_cases hn : env[i].name = n
      · have hv := lookup_at hlt hn hall
        simp [h0, h1, h4, h6, hlt, hn, setRun, resO, enc_mk, hv]
      · simp [h0, h1, h4, h6, hlt, hn, hw]
        intro j hj hji
        by_cases e : j = i
        · subst e; exact hn
        · exact hall j hj (by omega)
    · have he : i = env.length := by omega
      subst he
      have hv : lookupV env n = none := lookup_none.2 fun j hj => hall j hj hj
      simp [h0, h1, h4, h6, setRun, resO, nilV, enc_mk, enc_mk0, hv]
  · simp
theorem callRLookup (env : List GB) (hl : env.length ≤ 1000000000) (n : ByteArray) (bs : Nat) (σ : Heap) : callT T 17 [.isl (GB.encs env) false, .str n] bs σ = some (resO (lookupV env n), σ) := call_clean rfl rfl rfl (by simp) (rLookup_ok env hl n)
theorem rEval_ok (env : List GB) (he : Small env) : ∀ (n : Nat) (t : GT), t.size ≤ n → n ≤ 1000000000 → pureT T c13 [t.enc, .isl (GB.encs env) false] = some (resO (evalV env t)) := by
  intro n
  induction n with
  | zero => intro t h; obtain ⟨k, nm, v, l⟩ := t; cases v; simp [GT.size, GV.size] at h
  | succ n ih =>
    intro t hs hn
    have hal := GT.args_le t
    have hln := GT.len_sizes t.args
    have hc : ∀ x ∈ t.args, ∀ bs σ, callT T 13 [x.enc, .isl (GB.encs env) false] bs σ = some (resO (evalV env x), σ) := fun x hx bs σ =>
      call_clean rfl rfl rfl (by simp) (ih x (by have := (GT.sizes_mem hx).1; omega) (by omega))
    have hlk := callRLookup env he.1 t.name
    apply pure_enter (by simp [c13])
    obtain ⟨k, nm, v, args⟩ := t
    simp only [GT.kind, GT.name, GT.value, GT.args] at hlk hal hln hc
    simp only [evalV]
    by_cases h1 : k = 1
    · subst h1
      simp [c13, hlk, setRun, resO, enc_mk, GT.kind, GT.name, GT.value, GT.args]
    · by_cases h2 : k = 2
      · subst h2
        simp [c13, setRun, resO, enc_mk, GT.kind, GT.name, GT.value, GT.args]
      · rw [if_neg h1, if_neg h2]
        by_cases h34 : k = 3 ∨ k = 4
        · obtain ⟨R, hR⟩ : ∃ R, R = (match evalVs env args with | none => none | some l => if k = 3 then callV nm l else if k = 4 ∧ l.length = 2 then opV nm (l.getD 0 default) (l.getD 1 default) else none) := ⟨_, rfl⟩
          rw [← hR]
          have hR0 : evalVs env args = none → R = none := fun h => by rw [hR, h]
          have hR3 : ∀ l, k = 3 → evalVs env args = some l → R = callV nm l := fun l hk h => by rw [hR, h]; simp [hk]
          have hR4 : ∀ l, k = 4 → evalVs env args = some l → R = if l.length = 2 then opV nm (l.getD 0 default) (l.getD 1 default) else none := fun l hk h => by rw [hR, h]; simp [hk]
          clear hR
          have hsz : ∀ l, evalVs env args = some l → l.length = args.length ∧ ∀ v ∈ l, v.size ≤ 1000000000 := fun l h => evalVs_size he args l (by omega) h
          rcases h34 with h | h
          all_goals
            simp [c13, h, setRun, GT.kind, GT.name, GT.value, GT.args]
            refine W_for T 0 75 args.length (fun i f σ => f 1 = .isl (GB.encs env) false ∧ f 2 = .ptr 0 0 ∧ f 4 = .ptr 1 0 ∧ f 7 = .int .i64 (i : Int) ∧ ∃ rest done, σ = [.cells [.int .i64 k, .str nm, .int .i64 v.kind, .int .i64 v.num, .str v.text, .isl (GV.encs v.items) false, .isl (GT.encs args) false] 0 false, .cells [.int .i64 0, .int .i64 0, .str ⟨#[]⟩, .isl [] true] 0 false] ++ rest ∧ evalVs env (args.take i) = some done ∧ done.length = i ∧ LstAt rest 2 (GV.encs done) 4 (f 6)) ?_ _ _ ?_
            · rintro i f σ hi ⟨g1, g2, g4, g7, rest, done, rfl, hd, hdl, hlst⟩
              by_cases hlt : i < args.length
              · have hw : IntKind.i64.wrap ((i : Int) + 1) = (i : Int) + 1 := wr64 (by omega) (by omega)
                have hcl := hc args[i] (List.getElem_mem hlt)
                have htk : evalVs env (args.take (i + 1)) = (evalV env args[i]).map (fun v => done ++ [v]) := by
                  rw [List.take_add_one, List.getElem?_eq_getElem hlt, Option.toList_some, evalVs_snoc, hd]
                cases hx : evalV env args[i] with
                | none =>
                  rw [hx] at hcl htk
                  have hn : R = none := hR0 (evalVs_none env args (i + 1) htk)
                  simp [h, g1, g2, g4, g7, hlt, hcl, resO, nilV, GT.enc_mk, setRun, hn, enc_mk0]
                | some w =>
                  rw [hx] at hcl htk
                  have hdl2 : done.length ≤ 10000000000 := by omega
                  simp only [Option.map_some] at htk
                  rcases hlst with ⟨he', h6⟩ | ⟨kk, h6, hkl, hkk⟩
                  · have hd0 : done = [] := (encs_nil _).1 he'
                    simp [h, g1, g2, g4, g7, h6, hlt, hcl, resO, GT.enc_mk, setRun, enc_mk, hw]
                    exact ⟨_, htk, by simp [hdl], .inr ⟨rest.length + 2, by simp [hd0], by simp, by simp [hd0]⟩⟩
                  · simp [h, g1, g2, g4, g7, h6, hlt, hcl, resO, GT.enc_mk, setRun, enc_mk, hw, List.getElem?_append_left hkl, hkk, List.set_append_left _ _ hkl, hdl2]
                    exact ⟨_, htk, by simp [hdl], .inr ⟨kk, rfl, by simp; omega, by rw [List.getElem?_append_left (by simpa using hkl)]; simp [hkl]⟩⟩
              · have he' : i = args.length := by omega
                subst he'
                rw [List.take_length] at hd
                obtain ⟨hsl, hsv⟩ := hsz done hd
                first
                  | (have hr := hR3 done h hd
                     have hrc := fun σ => call_clean (T := T) (f := 31) (bs := 0) (σ := σ) rfl rfl rfl (by simp) (rCall_ok nm done (fun a ha => by have := hsv a ha; omega) (by omega))
                     have hrd : ∀ (x : AV) σ, close1 σ x = some (.isl (GV.encs done) false, σ) → closeA σ x = close1 σ x → callT T 31 [.str nm, x] 0 σ = some (resO (callV nm done), σ) := fun x σ hx hA => call_data rfl rfl rfl (rCall_ok nm done (fun a ha => by have := hsv a ha; omega) (by omega)) (resO_scal _) (by simp) (by simp [closeT, hA, hx])
                     rcases hlst with ⟨he', h6⟩ | ⟨kk, h6, hkl, hkk⟩
                     · have hrd := fun σ => hrd (.isl [] true) σ (by rw [he']; rfl) rfl
                       simp [h, g1, g2, g4, g7, h6, setRun, hrd, hr, resO, enc_mk]
                     · have hrd := fun σ => hrd (.own (kk + 2) (GV.encs done)) σ rfl rfl
                       simp [h, g1, g2, g4, g7, h6, setRun, hrd, hr, resO, enc_mk])
                  | (have hr := hR4 done h hd
                     by_cases hl2 : done.length = 2
                     · obtain ⟨a, b, rfl⟩ : ∃ a b, done = [a, b] := by
                         match done, hl2 with
                         | [a, b], _ => exact ⟨a, b, rfl⟩
                       have hro := callROp nm a b (by have := hsv a (by simp); omega) (by have := hsv b (by simp); omega)
                       have he2 : GV.encs [a, b] = [a.enc, b.enc] := rfl
                       have hr : R = opV nm a b := hr
                       rcases hlst with ⟨he', h6⟩ | ⟨kk, h6, hkl, hkk⟩
                       · rw [he2] at he'; cases he'
                       · simp [h, g1, g2, g4, g7, h6, he2, setRun, hro, hr, resO, enc_mk]
                     · rw [if_neg hl2] at hr
                       have hl3 : ¬ ((done.length : Int) = 2) := by omega
                       rcases hlst with ⟨he', h6⟩ | ⟨kk, h6, hkl, hkk⟩
                       · simp [h, g1, g2, g4, g7, h6, setRun, hr, resO, nilV, enc_mk, enc_mk0]
                       · simp [h, g1, g2, g4, g7, h6, hl3, setRun, hr, resO, nilV, enc_mk, enc_mk0])
            · exact ⟨by simp, by simp, by simp, by simp, [], [], by simp [h], rfl, rfl, .inl ⟨rfl, by simp⟩⟩
        · simp [c13, h1, h2, show ¬ k = 3 from fun e => h34 (.inl e), show ¬ k = 4 from fun e => h34 (.inr e), setRun, resO, nilV, enc_mk, enc_mk0, GT.kind, GT.name, GT.value, GT.args]
          cases evalVs env args <;> simp
theorem callREval (env : List GB) (he : Small env) (t : GT) (ht : t.size ≤ 1000000000) (bs : Nat) (σ : Heap) : callT T 13 [t.enc, .isl (GB.encs env) false] bs σ = some (resO (evalV env t), σ) := call_clean rfl rfl rfl (by simp) (rEval_ok env he t.size t (Nat.le_refl _) ht)
end Go.Proofs.Ytkjfkbblfjmnaaa
end
section
set_option linter.unusedVariables false
set_option linter.unusedSimpArgs false
set_option linter.unnecessarySimpa false
namespace Go.Proofs.Ytkjfkbblfjmnaaa
open Go.Mach

/-! ### Where binds lie in memory of their own -/
def SlAt (σ : Heap) (x : AV) (env : List GB) : Prop :=
  (env = [] ∧ x = .isl [] true) ∨ (env ≠ [] ∧ ∃ id, x = .sl id 0 env.length 5 true ∧ σ[id]? = some (.cells (flat (GB.encs env)) 0 true))
theorem SlAt.more {σ : Heap} {x : AV} {env : List GB} (h : SlAt σ x env) (l : Heap) : SlAt (σ ++ l) x env := by
  rcases h with h | ⟨hne, id, hx, hi⟩
  · exact .inl h
  · exact .inr ⟨hne, id, hx, by rw [List.getElem?_append_left (List.getElem?_eq_some_iff.1 hi).1]; exact hi⟩
theorem SlAt.closed {σ : Heap} {x : AV} {env : List GB} (h : SlAt σ x env) : closeA σ x = close1 σ x ∧ ∃ σ1, close1 σ x = some (.isl (GB.encs env) false, σ1) := by
  rcases h with ⟨he, rfl⟩ | ⟨hne, id, rfl, hi⟩
  · subst he; exact ⟨rfl, σ, rfl⟩
  · have := close1_flat hi (fun e => hne ((GB.encs_nil env).1 e)) (encsB_agg env) (encsB_clo env)
    rw [GB.encs_length] at this
    exact ⟨rfl, _, this⟩
theorem SlAt.isSl {σ : Heap} {x : AV} {env : List GB} (h : SlAt σ x env) : isSl x = true ∧ lenA x = some env.length := by
  rcases h with ⟨he, rfl⟩ | ⟨hne, id, rfl, hi⟩
  · subst he; exact ⟨rfl, rfl⟩
  · exact ⟨rfl, rfl⟩
def isV (env : List GB) (t : GT) (v : GV) : Bool := match evalV env t with
  | some x => decide (cmpV x v = 0)
  | none => false
theorem is_ok (env : List GB) (he : Small env) (t : GT) (ht : t.size ≤ 1000000000) (v : GV) : pureT T c38 [.isl (GB.encs env) false, t.enc, v.enc] = some (.bool (isV env t v)) := by
  have hc := callSEval env he t ht
  apply pure_enter (by simp [c38])
  unfold isV
  cases h : evalV env t with
  | none =>
    rw [h] at hc
    simp [c38, hc, setRun, resO, GT.enc_mk]
  | some x =>
    rw [h] at hc
    have hx := evalV_size he t x ht h
    have hcm := valCmp x v (by omega)
    simp [c38, hc, hcm, setRun, resO, enc_mk, GT.enc_mk]
theorem callIs (env : List GB) (he : Small env) (t : GT) (ht : t.size ≤ 1000000000) (v : GV) {σ : Heap} {x : AV} (hs : SlAt σ x env) (bs : Nat) : callT T 38 [x, t.enc, v.enc] bs σ = some (.bool (sym (isV env t v)), σ) := by
  obtain ⟨hA, σ1, hc⟩ := hs.closed
  exact call_scal rfl rfl rfl (is_ok env he t ht v) rfl (by simp) (by simp [closeT, hA, hc]; rfl)
theorem lookup_sl (env : List GB) (name : ByteArray) (hl : env.length ≤ 100000000000) {σ : Heap} {x : AV} (hs : SlAt σ x env) (bs : Nat) : callT T 35 [x, .str name] bs σ = some (resO (lookupV env name), σ) := by
  rcases hs with ⟨he, rfl⟩ | ⟨hne, id, rfl, hi⟩
  · subst he
    have hidx : ∀ bs (C : AObj), callT T 54 [.isl [] true, .func 55 [.ptr σ.length 0]] bs (σ ++ [.cells [.str name] 0 false, C]) = some (.int .i64 (-1), σ ++ [.cells [.str name] 0 false, C]) := fun bs C =>
      call_scal rfl rfl rfl (indexB_ok (fun b => decide (b.name = name)) [] 55 [.iptr [.str name] 0] (by simp) (fun x hx bs σ => lookup1_ok x name bs σ)) rfl (by simp) (by simp [frz]; rfl)
    refine heap_enter (af := c35) (args' := [.isl [] true, .str name]) (σ1 := σ) rfl rfl (by simp [c35]) (by simp [c35]) rfl ?_
    simp [c35, baseA, hidx, lookupV, setRun, res1, dropA_gc, refLt, refLt2, refLt1, refLt0, resO, nilV, GV.enc]
  · have hil : id < σ.length := (List.getElem?_eq_some_iff.1 hi).1
    have hi2 : ∀ l : Heap, (σ ++ l)[id]? = some (.cells (flat (GB.encs env)) 0 true) := fun l => by rw [List.getElem?_append_left hil]; exact hi
    have hcl := fun l => close1_flat (hi2 l) (fun e => hne ((GB.encs_nil env).1 e)) (encsB_agg env) (encsB_clo env)
    simp only [GB.encs_length] at hcl
    have hidx : ∀ bs (C : AObj), callT T 54 [.sl id 0 env.length 5 true, .func 55 [.ptr σ.length 0]] bs (σ ++ [.cells [.str name] 0 false, C]) = some (.int .i64 (idxB (fun b => decide (b.name = name)) env), σ ++ [.cells [.str name] 0 false, C]) := fun bs C => by
      refine call_scal rfl rfl rfl (indexB_ok _ env 55 [.iptr [.str name] 0] hl (fun x hx bs σ => lookup1_ok x name bs σ)) rfl (by simp) ?_ (σ' := frz (frz (σ ++ [.cells [.str name] 0 false, C]) id (env.length * 5)) σ.length 1)
      have hfr : frz (σ ++ [.cells [.str name] 0 false, C]) id (env.length * 5) = σ.set id (.cells (flat (GB.encs env)) (max 0 (env.length * 5)) true) ++ [.cells [.str name] 0 false, C] := by
        simp only [frz, hi2]; rw [List.set_append_left _ _ hil]
      have hget : (σ.set id (.cells (flat (GB.encs env)) (max 0 (env.length * 5)) true) ++ [.cells [.str name] 0 false, C])[σ.length]? = some (.cells [.str name] 0 false) := by
        rw [List.getElem?_append_right (by simp)]; simp
      simp [closeT, hcl, hfr, hget]
    refine heap_enter (af := c35) (args' := [.sl id 0 env.length 5 true, .str name]) (σ1 := σ) rfl rfl (by simp [c35]) (by simp [c35]) rfl ?_
    rcases idx_lookup env name with ⟨hneg, hv⟩ | ⟨i, hi', he, hv⟩
    · simp [c35, baseA, hidx, hneg, hv, setRun, res1, dropA_gc, refLt, refLt2, refLt1, refLt0, resO, nilV, GV.enc]
    · have hwin := flat_win (s := 5) (es := GB.encs env) (i := i) (by simpa using hi') (encsB_len _)
      have hw4 : window (flat (GB.encs env)) (i * 5 + 1) 4 = some [.int .i64 env[i].value.kind, .int .i64 env[i].value.num, .str env[i].value.text, .isl (GV.encs env[i].value.items) false] := by
        rw [GB.encs_getE, GB.enc_cells] at hwin
        unfold window at hwin ⊢
        split at hwin
        · rename_i hle
          rw [if_pos (by omega)]
          injection hwin with hwin
          have : ((flat (GB.encs env)).drop (i * 5 + 1)).take 4 = (((flat (GB.encs env)).drop (i * 5)).take 5).drop 1 := by
            rw [List.drop_take, List.drop_drop]
          rw [this, hwin]; rfl
        · cases hwin
      simp [c35, baseA, hidx, he, hv, hi', hi2, hw4, setRun, res1, dropA_gc, refLt, resO, enc_mk]
      exact ⟨enc_refLt2 _ _, rfl⟩
theorem setRun_same {cs : List AV} {o n : Nat} {vs : List AV} (h : window cs o n = some vs) : setRun cs o vs = cs := by
  unfold window at h
  split at h
  · rename_i hle
    injection h with h
    have hl : vs.length = n := by rw [← h]; simp; omega
    rw [setRun_take _ _ _ (by omega), ← h]
    have : (List.take n (List.drop o cs)).length = n := by simp; omega
    rw [this, List.append_assoc, ← List.drop_drop, List.take_append_drop, List.take_append_drop]
  · cases h
/-! ### What arguments bind -/
def bind1 (env : List GB) (t : GT) (v : GV) : List GB := if t.kind = 1 ∧ lookupV env t.name = none then env ++ [⟨t.name, v⟩] else env
def boundV : List GB → List GT → List GV → List GB
  | env, t :: ts, v :: vs => boundV (bind1 env t v) ts vs
  | env, _, _ => env
theorem boundV_snoc : ∀ (env : List GB) (ts : List GT) (vs : List GV) (t : GT) (v : GV), ts.length = vs.length → boundV env (ts ++ [t]) (vs ++ [v]) = bind1 (boundV env ts vs) t v
  | env, [], [], t, v, _ => rfl
  | env, x :: ts, y :: vs, t, v, h => by
    simp only [List.cons_append, boundV]
    exact boundV_snoc (bind1 env x y) ts vs t v (by simpa using h)
theorem bind1_len (env : List GB) (t : GT) (v : GV) : (bind1 env t v).length ≤ env.length + 1 := by unfold bind1; split <;> simp
theorem boundV_len : ∀ (env : List GB) (ts : List GT) (vs : List GV), (boundV env ts vs).length ≤ env.length + ts.length
  | env, [], vs => by cases vs <;> simp [boundV]
  | env, t :: ts, [] => by simp [boundV]
  | env, t :: ts, v :: vs => by
    simp only [boundV]
    have h1 := boundV_len (bind1 env t v) ts vs
    have h2 := bind1_len env t v
    simp only [List.length_cons]; omega
theorem take_snoc {α : Type} {l : List α} {i : Nat} (h : i < l.length) : l.take (i + 1) = l.take i ++ [l[i]] := by rw [List.take_add_one, List.getElem?_eq_getElem h]; rfl
theorem bound_call (env : List GB) (args : List GT) (vs : List GV) (hlen : args.length = vs.length) (hl : env.length + args.length ≤ 1000000000) {σ : Heap} {x : AV} (hs : SlAt σ x env) (bs : Nat) (hbs : bs ≤ σ.length) :
    ∃ r, callT T 37 [x, .isl (GT.encs args) false, .isl (GV.encs vs) false] bs σ = some r ∧ SlAt r.2 r.1 (boundV env args vs) ∧ σ.length ≤ r.2.length := by
  refine heap_enterE (af := c37) (args' := [x, .isl (GT.encs args) false, .isl (GV.encs vs) false]) (σ1 := σ) rfl rfl (by simp [c37]) (by simp [c37]) rfl ?_
  simp [c37, baseA]
  refine W_for T bs 42 args.length (fun i f σ' => f 2 = .isl (GV.encs vs) false ∧ f 11 = .isl (GT.encs args) false ∧ f 12 = .int .i64 (args.length : Int) ∧ f 13 = .int .i64 (i : Int) ∧ SlAt σ' (f 0) (boundV env (args.take i) (vs.take i)) ∧ σ.length ≤ σ'.length) ?_ _ _ ?_
  · rintro i f σ' hi ⟨h2, h11, h12, h13, hsl, hsz⟩
    by_cases hlt : i < args.length
    · have hltv : i < vs.length := by omega
      have hw : IntKind.i64.wrap ((i : Int) + 1) = (i : Int) + 1 := wr64 (by omega) (by omega)
      have hsn := boundV_snoc env (args.take i) (vs.take i) args[i] vs[i] (by simp; omega)
      rw [← take_snoc hlt, ← take_snoc hltv] at hsn
      have hbl := boundV_len env (args.take i) (vs.take i)
      have htl : (args.take i).length ≤ args.length := by simp; omega
      rw [hsn]
      generalize boundV env (args.take i) (vs.take i) = e at *
      have hel : e.length ≤ 1000000000 := by omega
      have hb1 : bs ≤ σ'.length := by omega
      have hb2 : bs ≤ σ'.length + 1 := by omega
      generalize hxx : f 0 = xx at *
      have hlk := fun X => lookup_sl e args[i].name (by omega) (hsl.more [X]) bs
      by_cases hk : args[i].kind = 1
      · cases hv : lookupV e args[i].name with
        | some w =>
          simp only [hv] at hlk
          have hb : bind1 e args[i] vs[i] = e := by unfold bind1; rw [if_neg (by rw [hv]; simp)]
          rw [hb]
          simp [hxx, h2, h11, h12, h13, hlt, hk, hlk, resO, setRun, hb1, hb2, hw]
          exact ⟨hsl.more _, by omega⟩
        | none =>
          simp only [hv] at hlk
          have hb : bind1 e args[i] vs[i] = e ++ [⟨args[i].name, vs[i]⟩] := by unfold bind1; rw [if_pos ⟨hk, hv⟩]
          rw [hb]
          have hbe : (GB.mk args[i].name vs[i]).enc.cells.length = 5 := rfl
          rcases hsl with ⟨he0, rfl⟩ | ⟨hne, id, rfl, hid⟩
          · have ha := fun X Y => app_mt_nil (σ := σ' ++ [X, Y, .cells (GB.mk args[i].name vs[i]).enc.cells 0 false]) (id := σ'.length + 2) (fz := 0) (ext := false) (cs := (GB.mk args[i].name vs[i]).enc.cells) (sz := 5) (bytes := 72) (by simp) rfl (by omega) (by omega)
            try simp at ha
            simp [hxx, h2, h11, h12, h13, hlt, hltv, hk, hlk, resO, setRun, hb1, hb2, hw, ha]
            refine ⟨.inr ⟨by simp, σ'.length + 3, by simp [he0], ?_⟩, by omega⟩
            simp [he0, flat, GB.encs, GB.enc, AV.cells]
          · have hidl : id < σ'.length := (List.getElem?_eq_some_iff.1 hid).1
            have hfl := flat_len (encsB_len e)
            have ha := fun X Y => app_mt_sl (σ := σ' ++ [X, Y, .cells (GB.mk args[i].name vs[i]).enc.cells 0 false]) (id := σ'.length + 2) (k := id) (fz := 0) (ext := false) (cs := (GB.mk args[i].name vs[i]).enc.cells) (es := GB.encs e) (sz := 5) (bytes := 72) (by simp) rfl (by omega) (by omega) (by rw [List.getElem?_append_left hidl]; exact hid) hfl (flat_chunk (encsB_agg e)) (by simpa using hel)
            try simp at ha
            simp [hxx, h2, h11, h12, h13, hlt, hltv, hk, hlk, resO, setRun, hb1, hb2, hw, ha]
            refine ⟨.inr ⟨by simp, σ'.length + 3, by simp, ?_⟩, by omega⟩
            rw [List.getElem?_append_right (by simp)]
            have hfe : flat (GB.encs (e ++ [⟨args[i].name, vs[i]⟩])) = flat (GB.encs e) ++ (GB.mk args[i].name vs[i]).enc.cells := by
              simp [GB.encs, flat]
            rw [hfe]
            simp
      · have hb : bind1 e args[i] vs[i] = e := by unfold bind1; rw [if_neg (fun h => hk h.1)]
        rw [hb]
        simp [hxx, h2, h11, h12, h13, hlt, hk, setRun, hb1, hb2, hw]
        exact ⟨hsl.more _, by omega⟩
    · have he : i = args.length := by omega
      subst he
      have e1 : args.take args.length = args := List.take_length
      have e2 : vs.take args.length = vs := by rw [hlen]; exact List.take_length
      rw [e1, e2] at hsl
      simp [h2, h11, h12, h13, res1]
      exact ⟨hsl, hsz⟩
  · simp [boundV]
    exact hs
def matchV (args : List GT) (vs : List GV) (env : List GB) : Option (List GB) :=
  if args.length = vs.length ∧ (args.zip vs).all (fun p => isV (boundV env args vs) p.1 p.2) = true then some (boundV env args vs) else none
def resB (o : Option (List GB)) : AV := .tup [.isl (GB.encs (o.getD [])) false, .bool o.isSome]
@[simp] theorem resB_scal (o : Option (List GB)) : (resB o).scal = false := rfl
theorem callCloneB (env : List GB) (hl : env.length ≤ 10000000000) (c : Bool) (bs : Nat) (σ : Heap) : ∃ r, callT T 36 [.isl (GB.encs env) c] bs σ = some r ∧ SlAt r.2 r.1 env ∧ σ.length ≤ r.2.length := by
  rw [callT_pr (p := cloneBP) _ _ _ rfl _]
  by_cases he : env = []
  · subst he; exact ⟨_, rfl, .inl ⟨rfl, rfl⟩, Nat.le_refl _⟩
  · have hf := flat_len (encsB_len env)
    rw [GB.encs_length] at hf
    simp only [cloneBP, if_neg (fun h => he ((GB.encs_nil env).1 h)), GB.encs_length]
    rw [if_pos ⟨hf, hl⟩]
    refine ⟨_, rfl, .inr ⟨he, σ.length + 1, rfl, ?_⟩, by simp⟩
    rw [List.getElem?_append_right (by omega)]
    simp
theorem bind1_mem {env : List GB} {t : GT} {v : GV} {b : GB} (h : b ∈ bind1 env t v) : b ∈ env ∨ b.value = v := by
  unfold bind1 at h
  split at h
  · rcases List.mem_append.1 h with h | h
    · exact .inl h
    · simp at h; exact .inr (by rw [h])
  · exact .inl h
theorem boundV_mem : ∀ (env : List GB) (ts : List GT) (vs : List GV) (b : GB), b ∈ boundV env ts vs → b ∈ env ∨ b.value ∈ vs
  | env, [], vs, b, h => by cases vs <;> exact .inl h
  | env, t :: ts, [], b, h => .inl h
  | env, t :: ts, v :: vs, b, h => by
    rcases boundV_mem (bind1 env t v) ts vs b h with h | h
    · rcases bind1_mem h with h | h
      · exact .inl h
      · exact .inr (by rw [h]; simp)
    · exact .inr (List.mem_cons_of_mem _ h)
theorem bound_small {env : List GB} {ts : List GT} {vs : List GV} (he : Small env) (hl : env.length + ts.length ≤ 1000000000) (hv : ∀ v ∈ vs, v.size ≤ 1000000000) : Small (boundV env ts vs) :=
  ⟨Nat.le_trans (boundV_len env ts vs) hl, fun b hb => by rcases boundV_mem env ts vs b hb with h | h; exact he.2 b h; exact hv _ h⟩
theorem zip_all {args : List GT} {vs : List GV} (hlen : args.length = vs.length) (p : GT × GV → Bool) : (args.zip vs).all p = true ↔ ∀ i, (h : i < args.length) → p (args[i], vs[i]) = true := by
  rw [List.all_eq_true]
  constructor
  · intro h i hi
    have hz : i < (args.zip vs).length := by simp; omega
    have := h _ (List.getElem_mem hz)
    rwa [List.getElem_zip] at this
  · intro h x hx
    obtain ⟨i, hi, rfl⟩ := List.getElem_of_mem hx
    rw [List.getElem_zip]
    exact h i (by simp at hi; omega)
theorem match_ok (args : List GT) (vs : List GV) (env : List GB) (he : Small env) (hl : env.length + args.length ≤ 1000000000) (ha : ∀ t ∈ args, t.size ≤ 1000000000) (hv : ∀ v ∈ vs, v.size ≤ 1000000000) (hvl : vs.length ≤ 1000000000) :
    pureT T c18 [.isl (GT.encs args) false, .isl (GV.encs vs) false, .isl (GB.encs env) false] = some (resB (matchV args vs env)) := by
  apply pure_enter (by simp [c18])
  unfold matchV
  by_cases hlen : args.length = vs.length
  · obtain ⟨⟨x0, σ0⟩, hr0, hs0, _⟩ := callCloneB env (by omega) false 0 []
    obtain ⟨⟨x1, σ1⟩, hr1, hs1, _⟩ := bound_call env args vs hlen hl hs0 0 (Nat.zero_le _)
    have hlc : ((args.length : Int) = (vs.length : Int)) := by omega
    have hsm := bound_small he hl hv
    simp only at hs1
    have hR1 : (∀ i, (h : i < args.length) → isV (boundV env args vs) args[i] vs[i] = true) → (if args.length = vs.length ∧ (args.zip vs).all (fun p => isV (boundV env args vs) p.1 p.2) = true then some (boundV env args vs) else none) = some (boundV env args vs) := fun h => if_pos ⟨hlen, (zip_all hlen _).2 h⟩
    have hR0 : (∃ i, ∃ h : i < args.length, isV (boundV env args vs) args[i] vs[i] = false) → (if args.length = vs.length ∧ (args.zip vs).all (fun p => isV (boundV env args vs) p.1 p.2) = true then some (boundV env args vs) else none) = none := fun ⟨i, hi, h⟩ => if_neg fun hh => by
      have := (zip_all hlen _).1 hh.2 i hi; simp only at this; rw [h] at this; cases this
    generalize (if args.length = vs.length ∧ (args.zip vs).all (fun p => isV (boundV env args vs) p.1 p.2) = true then some (boundV env args vs) else none) = R at *
    generalize boundV env args vs = s at *
    simp [c18, hlc, hr0, hr1]
    refine W_for T 0 55 args.length (fun i f σ' => f 1 = .isl (GV.encs vs) false ∧ f 8 = x1 ∧ f 22 = .isl (GT.encs args) false ∧ f 23 = .int .i64 (args.length : Int) ∧ f 24 = .int .i64 (i : Int) ∧ SlAt σ' x1 s ∧ ∀ j, (h : j < args.length) → j < i → isV s args[j] vs[j] = true) ?_ _ _ ?_
    · rintro i f σ' hi ⟨h1, h8, h22, h23, h24, hsl, hall⟩
      by_cases hlt : i < args.length
      · have hltv : i < vs.length := by omega
        have hw : IntKind.i64.wrap ((i : Int) + 1) = (i : Int) + 1 := wr64 (by omega) (by omega)
        have hci := fun X => callIs s hsm args[i] (ha _ (List.getElem_mem hlt)) vs[i] (hsl.more [X]) 0
        cases hv' : isV s args[i] vs[i]
        · rw [hv'] at hci
          have hR := hR0 ⟨i, hlt, hv'⟩
          simp [h1, h8, h22, h23, h24, hlt, hltv, hci, setRun, GT.enc_mk, hR, resB, enc_mk]
        · rw [hv'] at hci
          simp [h1, h8, h22, h23, h24, hlt, hltv, hci, setRun, GT.enc_mk, hw, enc_mk]
          refine ⟨hsl.more _, fun j hj hji => ?_⟩
          by_cases e : j = i
          · subst e; exact hv'
          · exact hall j hj (by omega)
      · have he' : i = args.length := by omega
        subst he'
        have hR := hR1 fun j hj => hall j hj hj
        rcases hsl with ⟨hse, hx⟩ | ⟨hne, id, hx, hid⟩
        · simp [h1, h8, h22, h23, h24, hx]
          refine W_for T 0 55 0 (fun i f σ' => f 8 = .isl [] true ∧ f 39 = .int .i64 0 ∧ f 40 = .int .i64 0) ?_ _ _ ?_
          · rintro i f σ' hi ⟨h8, h39, h40⟩
            simp [h8, h39, h40, hR, hse, resB]
          · simp [hx, h8]
        · simp [h1, h8, h22, h23, h24, hx]
          refine W_for T 0 55 s.length (fun i f σ'' => f 8 = .sl id 0 s.length 5 true ∧ f 39 = .int .i64 (s.length : Int) ∧ f 40 = .int .i64 (i : Int) ∧ σ'' = σ') ?_ _ _ ?_
          · rintro i f σ'' hi ⟨h8, h39, h40, rfl⟩
            by_cases hlt : i < s.length
            · have hw : IntKind.i64.wrap ((i : Int) + 1) = (i : Int) + 1 := wr64 (by have := hsm.1; omega) (by have := hsm.1; omega)
              have hfr := callBFresh s[i].value (hsm.2 _ (List.getElem_mem hlt))
              have hwin := flat_win (s := 5) (es := GB.encs s) (i := i) (by simpa using hlt) (encsB_len _)
              have hw4 : window (flat (GB.encs s)) (i * 5 + 1) 4 = some s[i].value.enc.cells := by
                rw [GB.encs_getE, GB.enc_cells] at hwin
                unfold window at hwin ⊢
                split at hwin
                · rename_i hle
                  rw [if_pos (by omega)]
                  injection hwin with hwin
                  have : ((flat (GB.encs s)).drop (i * 5 + 1)).take 4 = (((flat (GB.encs s)).drop (i * 5)).take 5).drop 1 := by
                    rw [List.drop_take, List.drop_drop]
                  rw [this, hwin, GV.enc_cells]; rfl
                · cases hwin
              have hst : setRun (flat (GB.encs s)) (i * 5 + 1) s[i].value.enc.cells = flat (GB.encs s) := setRun_same hw4
              have hlen5 : i * 5 + 1 + 4 ≤ (flat (GB.encs s)).length := by rw [flat_len (encsB_len s)]; simp; omega
              have hidl : id < σ''.length := (List.getElem?_eq_some_iff.1 hid).1
              have hset : σ''.set id (.cells (flat (GB.encs s)) 0 true) = σ'' := List.set_getElem?_self hid
              simp at hw4 hst
              simp [h8, h39, h40, hlt, hid, hw4, hfr, hst, hlen5, hw, enc_mk, hset]
            · have he' : i = s.length := by omega
              subst he'
              have hcl := close1_flat hid (fun e => hne ((GB.encs_nil s).1 e)) (encsB_agg s) (encsB_clo s)
              rw [GB.encs_length] at hcl
              simp [h8, h39, h40, hR, resB, hcl]
          · simp [hx, h8]
    · simp
      exact ⟨hlc.symm, hs1⟩
  · have hlc : ¬ ((args.length : Int) = (vs.length : Int)) := by omega
    rw [if_neg (fun h => hlen h.1)]
    simp [c18, hlc, resB]
theorem callMatch (args : List GT) (vs : List GV) (env : List GB) (he : Small env) (hl : env.length + args.length ≤ 1000000000) (ha : ∀ t ∈ args, t.size ≤ 1000000000) (hv : ∀ v ∈ vs, v.size ≤ 1000000000) (hvl : vs.length ≤ 1000000000) (bs : Nat) (σ : Heap) :
    callT T 18 [.isl (GT.encs args) false, .isl (GV.encs vs) false, .isl (GB.encs env) false] bs σ = some (resB (matchV args vs env), σ) := call_clean rfl rfl rfl (by simp) (match_ok args vs env he hl ha hv hvl)
/-! ### The document's Match -/
theorem cmpI_self (a : Int) : cmpI a a = 0 := by simp [cmpI]
theorem cmpB_self : ∀ l : List UInt8, Lib.compareBytes l l = 0
  | [] => rfl
  | x :: l => by simp only [Lib.compareBytes, UInt8.lt_irrefl, if_false]; exact cmpB_self l
mutual
theorem cmpV_self : ∀ v : GV, cmpV v v = 0
  | .mk k n t l => by
    have := cmpVs_self l
    simp only [cmpV, cmpI_self, cmpB_self, this]
    simp
theorem cmpVs_self : ∀ l : List GV, cmpVs l l = 0
  | [] => rfl
  | x :: l => by
    have h1 := cmpV_self x
    have h2 := cmpVs_self l
    simp [cmpVs, h1, h2]
end
theorem lookup_append {env : List GB} {n : ByteArray} {v : GV} (b : GB) (h : lookupV env n = some v) : lookupV (env ++ [b]) n = some v := by
  unfold lookupV at h ⊢
  obtain ⟨c, hc, rfl⟩ := Option.map_eq_some_iff.1 h
  rw [List.find?_append, hc]; rfl
theorem lookup_new {env : List GB} {n : ByteArray} {v : GV} (h : lookupV env n = none) : lookupV (env ++ [⟨n, v⟩]) n = some v := by
  unfold lookupV at h ⊢
  rw [Option.map_eq_none_iff] at h
  rw [List.find?_append, h]; simp
theorem bind1_keep {env : List GB} {n : ByteArray} {v w : GV} {t : GT} (h : lookupV env n = some v) : lookupV (bind1 env t w) n = some v := by
  unfold bind1; split
  · exact lookup_append _ h
  · exact h
theorem bound_keep : ∀ (ts : List GT) (vs : List GV) {env : List GB} {n : ByteArray} {v : GV}, lookupV env n = some v → lookupV (boundV env ts vs) n = some v
  | [], vs, env, n, v, h => by cases vs <;> exact h
  | t :: ts, [], env, n, v, h => h
  | t :: ts, w :: vs, env, n, v, h => bound_keep ts vs (bind1_keep h)
theorem bound_split : ∀ (env : List GB) (ts : List GT) (vs : List GV) (i : Nat), boundV env ts vs = boundV (boundV env (ts.take i) (vs.take i)) (ts.drop i) (vs.drop i)
  | env, ts, vs, 0 => by cases ts <;> cases vs <;> rfl
  | env, [], vs, i + 1 => by cases vs <;> simp [boundV]
  | env, t :: ts, [], i + 1 => by simp [boundV]
  | env, t :: ts, v :: vs, i + 1 => by
    simp only [List.take_succ_cons, List.drop_succ_cons, boundV]
    exact bound_split (bind1 env t v) ts vs i
theorem isV_var {s : List GB} {t : GT} {v : GV} (hk : t.kind = 1) : isV s t v = (match lookupV s t.name with | some x => decide (cmpV x v = 0) | none => false) := by
  obtain ⟨k, n, w, args⟩ := t
  replace hk : k = 1 := hk
  subst hk
  simp [isV, evalV]
theorem callRLookupO (env : List GB) (hl : env.length ≤ 1000000000) (n : ByteArray) {x : AV} {σ : Heap} (hA : closeA σ x = close1 σ x) (hx : close1 σ x = some (.isl (GB.encs env) false, σ)) (bs : Nat) : callT T 17 [x, .str n] bs σ = some (resO (lookupV env n), σ) :=
  call_data rfl rfl rfl (rLookup_ok env hl n) (resO_scal _) (by simp) (by simp [closeT, hA, hx])
theorem callREvalO (env : List GB) (he : Small env) (t : GT) (ht : t.size ≤ 1000000000) {x : AV} {σ : Heap} (hA : closeA σ x = close1 σ x) (hx : close1 σ x = some (.isl (GB.encs env) false, σ)) (bs : Nat) : callT T 13 [t.enc, x] bs σ = some (resO (evalV env t), σ) :=
  call_data rfl rfl rfl (rEval_ok env he t.size t (Nat.le_refl _) ht) (resO_scal _) (by simp) (by simp [closeT, hA, hx])
theorem lst_closed {σ : Heap} {es : List AV} {x : AV} {sz off : Nat} {rest : Heap} (h : LstAt rest off es sz x) : closeA σ x = close1 σ x ∧ close1 σ x = some (.isl es false, σ) := by
  rcases h with ⟨rfl, rfl⟩ | ⟨k, rfl, _, _⟩
  · exact ⟨rfl, rfl⟩
  · exact ⟨rfl, rfl⟩
theorem lst_more {es : List AV} {x : AV} {sz off : Nat} {rest : Heap} (h : LstAt rest off es sz x) (l : Heap) : LstAt (rest ++ l) off es sz x := by
  rcases h with h | ⟨k, hx, hk, hg⟩
  · exact .inl h
  · exact .inr ⟨k, hx, by simp; omega, by rw [List.getElem?_append_left hk]; exact hg⟩
theorem rMatch_ok (args : List GT) (vs : List GV) (env : List GB) (he : Small env) (hl : env.length + args.length ≤ 1000000000) (ha : ∀ t ∈ args, t.size ≤ 1000000000) (hv : ∀ v ∈ vs, v.size ≤ 1000000000) (hvl : vs.length ≤ 1000000000) :
    pureT T c19 [.isl (GT.encs args) false, .isl (GV.encs vs) false, .isl (GB.encs env) false] = some (resB (matchV args vs env)) := by
  apply pure_enter (by simp [c19])
  unfold matchV
  by_cases hlen : args.length = vs.length
  · have hlc : ((args.length : Int) = (vs.length : Int)) := by omega
    have hsm := bound_small he hl hv
    have hR1 : (∀ i, (h : i < args.length) → isV (boundV env args vs) args[i] vs[i] = true) → (if args.length = vs.length ∧ (args.zip vs).all (fun p => isV (boundV env args vs) p.1 p.2) = true then some (boundV env args vs) else none) = some (boundV env args vs) := fun h => if_pos ⟨hlen, (zip_all hlen _).2 h⟩
    have hR0 : (∃ i, ∃ h : i < args.length, isV (boundV env args vs) args[i] vs[i] = false) → (if args.length = vs.length ∧ (args.zip vs).all (fun p => isV (boundV env args vs) p.1 p.2) = true then some (boundV env args vs) else none) = none := fun ⟨i, hi, h⟩ => if_neg fun hh => by
      have := (zip_all hlen _).1 hh.2 i hi; simp only at this; rw [h] at this; cases this
    generalize (if args.length = vs.length ∧ (args.zip vs).all (fun p => isV (boundV env args vs) p.1 p.2) = true then some (boundV env args vs) else none) = R at *
    have hkeep : ∀ i n v, lookupV (boundV env (args.take i) (vs.take i)) n = some v → lookupV (boundV env args vs) n = some v := fun i n v h => by rw [bound_split env args vs i]; exact bound_keep _ _ h
    have happ : ∃ x0 σ0, appendA [] 5 true 72 false (.isl [] true) (.isl (GB.encs env) false) = some (x0, σ0) ∧ LstAt σ0 0 (GB.encs env) 5 x0 := by
      by_cases he0 : env = []
      · subst he0; exact ⟨_, _, rfl, .inl ⟨rfl, rfl⟩⟩
      · have := app_isl_new (σ := []) (sz := 5) (bytes := 72) (ag := true) (c := false) (fun e => he0 ((GB.encs_nil env).1 e)) (GB.encs_okEl env) (by simp; omega) (by omega) (by omega)
        exact ⟨_, _, this, .inr ⟨0, rfl, by simp, by simp⟩⟩
    obtain ⟨x0, σ0, hap, hx0⟩ := happ
    simp [c19, hlc, hap]
    refine W_for T 0 99 args.length (fun i f σ => f 0 = .isl (GT.encs args) false ∧ f 1 = .isl (GV.encs vs) false ∧ f 9 = .int .i64 (i : Int) ∧ LstAt σ 0 (GB.encs (boundV env (args.take i) (vs.take i))) 5 (f 8) ∧ ∀ j, (h : j < args.length) → j < i → args[j].kind = 1 → isV (boundV env args vs) args[j] vs[j] = true) ?_ _ _ ?_
    · rintro i f σ hi ⟨h0, h1, h9, hlst, hall⟩
      by_cases hlt : i < args.length
      · have hltv : i < vs.length := by omega
        have hw : IntKind.i64.wrap ((i : Int) + 1) = (i : Int) + 1 := wr64 (by omega) (by omega)
        have hsn := boundV_snoc env (args.take i) (vs.take i) args[i] vs[i] (by simp; omega)
        rw [← take_snoc hlt, ← take_snoc hltv] at hsn
        have hbl := boundV_len env (args.take i) (vs.take i)
        have htl : (args.take i).length ≤ args.length := by simp; omega
        have hk1 := hkeep i
        have hk2 := hkeep (i + 1)
        rw [hsn] at hk2
        have hesm : Small (boundV env (args.take i) (vs.take i)) := bound_small he (by omega) (fun v h => hv v (List.mem_of_mem_take h))
        rw [hsn]
        generalize boundV env (args.take i) (vs.take i) = e at *
        have hel : e.length ≤ 1000000000 := by omega
        generalize hxx : f 8 = xx at *
        obtain ⟨hcA, hc1⟩ := lst_closed (σ := σ) hlst
        have hlk := callRLookupO e hel args[i].name hcA hc1 0
        by_cases hk : args[i].kind = 1
        · have hall' : isV (boundV env args vs) args[i] vs[i] = true → ∀ j, (h : j < args.length) → j < i + 1 → args[j].kind = 1 → isV (boundV env args vs) args[j] vs[j] = true := fun h j hj hji hkj => by
            by_cases e' : j = i
            · subst e'; exact h
            · exact hall j hj (by omega) hkj
          cases hlv : lookupV e args[i].name with
          | some w =>
            rw [hlv] at hlk
            have hb : bind1 e args[i] vs[i] = e := by unfold bind1; rw [if_neg (by rw [hlv]; simp)]
            rw [hb]
            obtain ⟨b, hbm, hbv, _⟩ := lookupV_mem hlv
            have hcm := refCmp w vs[i] (by rw [← hbv]; have := hesm.2 b hbm; omega)
            have hisv : isV (boundV env args vs) args[i] vs[i] = decide (cmpV w vs[i] = 0) := by rw [isV_var hk, hk1 _ _ hlv]
            by_cases hz : cmpV w vs[i] = 0
            · simp [hxx, h0, h1, h9, hlt, hltv, hk, hlk, hcm, hz, resO, setRun, hw, enc_mk]
              exact ⟨lst_more hlst _, hall' (by rw [hisv]; simp [hz])⟩
            · have hR := hR0 ⟨i, hlt, by rw [hisv]; simp [hz]⟩
              simp [hxx, h0, h1, h9, hlt, hltv, hk, hlk, hcm, hz, resO, setRun, hw, enc_mk, hR, resB]
          | none =>
            rw [hlv] at hlk
            have hb : bind1 e args[i] vs[i] = e ++ [⟨args[i].name, vs[i]⟩] := by unfold bind1; rw [if_pos ⟨hk, hlv⟩]
            rw [hb] at hk2 ⊢
            have hisv : isV (boundV env args vs) args[i] vs[i] = true := by rw [isV_var hk, hk2 _ _ (lookup_new hlv)]; simp [cmpV_self]
            have hel2 : e.length ≤ 10000000000 := by omega
            rcases hlst with ⟨he0, rfl⟩ | ⟨kk, rfl, hkl, hkk⟩
            · have he0' : e = [] := (GB.encs_nil e).1 he0
              simp [hxx, h0, h1, h9, hlt, hltv, hk, hlk, resO, setRun, hw, GB.enc_mk]
              exact ⟨.inr ⟨σ.length + 2, by simp [he0'], by simp, by simp [he0']⟩, hall' hisv⟩
            · simp only [Nat.add_zero] at hlk hxx
              simp [hxx, h0, h1, h9, hlt, hltv, hk, hlk, resO, setRun, hw, GB.enc_mk, List.getElem?_append_left hkl, hkk, List.set_append_left _ _ hkl, hel2]
              exact ⟨.inr ⟨kk, rfl, by simp; omega, by rw [List.getElem?_append_left (by simpa using hkl)]; simp [hkl]⟩, hall' hisv⟩
        · have hb : bind1 e args[i] vs[i] = e := by unfold bind1; rw [if_neg (fun h => hk h.1)]
          rw [hb]
          simp [hxx, h0, h1, h9, hlt, hk, hw]
          refine ⟨hlst, fun j hj hji hkj => ?_⟩
          by_cases e' : j = i
          · subst e'; exact absurd hkj hk
          · exact hall j hj (by omega) hkj
      · have he' : i = args.length := by omega
        subst he'
        have e1 : args.take args.length = args := List.take_length
        have e2 : vs.take args.length = vs := by rw [hlen]; exact List.take_length
        rw [e1, e2] at hlst
        have hall1 : ∀ j, (h : j < args.length) → args[j].kind = 1 → isV (boundV env args vs) args[j] vs[j] = true := fun j hj => hall j hj hj
        clear hall hkeep
        generalize boundV env args vs = s at *
        simp [h0, h1, h9]
        generalize hxx : f 8 = xx at *
        refine W_for T 0 99 args.length (fun i f σ' => f 0 = .isl (GT.encs args) false ∧ f 1 = .isl (GV.encs vs) false ∧ f 8 = xx ∧ f 12 = .int .i64 (i : Int) ∧ ∀ j, (h : j < args.length) → j < i → isV s args[j] vs[j] = true) ?_ _ _ ?_
        · rintro i f σ' hi ⟨h0, h1, h8, h12, hall⟩
          by_cases hlt : i < args.length
          · have hltv : i < vs.length := by omega
            have hw : IntKind.i64.wrap ((i : Int) + 1) = (i : Int) + 1 := wr64 (by omega) (by omega)
            have hall' : isV s args[i] vs[i] = true → ∀ j, (h : j < args.length) → j < i + 1 → isV s args[j] vs[j] = true := fun h j hj hji => by
              by_cases e' : j = i
              · subst e'; exact h
              · exact hall j hj (by omega)
            by_cases hk : args[i].kind = 1
            · simp [h0, h1, h8, h12, hlt, hk, hw]
              exact hall' (hall1 i hlt hk)
            · obtain ⟨hcA, hc1⟩ := lst_closed (σ := σ') hlst
              have hat := ha args[i] (List.getElem_mem hlt)
              have hev := callREvalO s hsm args[i] hat hcA hc1 0
              cases hx : evalV s args[i] with
              | none =>
                rw [hx] at hev
                have hR := hR0 ⟨i, hlt, by unfold isV; rw [hx]⟩
                simp [h0, h1, h8, h12, hlt, hltv, hk, hev, resO, setRun, GT.enc_mk, hR, resB]
              | some w =>
                rw [hx] at hev
                have hcm := refCmp w vs[i] (by have := evalV_size hsm args[i] w hat hx; omega)
                have hisv : isV s args[i] vs[i] = decide (cmpV w vs[i] = 0) := by unfold isV; rw [hx]
                by_cases hz : cmpV w vs[i] = 0
                · simp [h0, h1, h8, h12, hlt, hltv, hk, hev, hcm, hz, resO, setRun, GT.enc_mk, enc_mk, hw]
                  exact hall' (by rw [hisv]; simp [hz])
                · have hR := hR0 ⟨i, hlt, by rw [hisv]; simp [hz]⟩
                  simp [h0, h1, h8, h12, hlt, hltv, hk, hev, hcm, hz, resO, setRun, GT.enc_mk, enc_mk, hR, resB]
          · have he' : i = args.length := by omega
            subst he'
            have hR := hR1 fun j hj => hall j hj hj
            obtain ⟨hcA, hc1⟩ := lst_closed (σ := σ') hlst
            simp [h0, h1, h8, h12, hR, resB, hcA, hc1]
        · simp [h0, h1, hxx]
    · simp [boundV]
      exact hx0
  · have hlc : ¬ ((args.length : Int) = (vs.length : Int)) := by omega
    rw [if_neg (fun h => hlen h.1)]
    simp [c19, hlc, resB]
end Go.Proofs.Ytkjfkbblfjmnaaa
end
section
set_option linter.unusedVariables false
set_option linter.unusedSimpArgs false
set_option linter.unnecessarySimpa false
namespace Go.Proofs.Ytkjfkbblfjmnaaa
open Go.Mach

/-! ### Raw binds, made right -/
theorem pick9_ok (c n : Int) (h : n ≠ 0) : pureT T c22 [.int .i64 c, .int .i64 n] = some (.int .i64 ((if c < 0 then IntKind.i64.wrap (0 - IntKind.i64.wrap (c + 1)) else c).tmod n)) := by
  apply pure_enter (by simp [c22])
  by_cases hc : c < 0
  · simp [c22, hc, h]
  · simp [c22, hc, h]
theorem pick9 (c : Int) (n : Nat) (h : 0 < n) (h1 : GV.i64ok c) (bs : Nat) (σ : Heap) :
    callT T 22 [.int .i64 c, .int .i64 (n : Int)] bs σ = some (.int .i64 (pickN c n : Int), σ) := by
  refine call_clean rfl rfl rfl rfl ?_
  rw [pick9_ok c n (by omega), pick_eq c n h h1.1 h1.2]
theorem pick94 (c : Int) (h1 : GV.i64ok c) (bs : Nat) (σ : Heap) : callT T 22 [.int .i64 c, .int .i64 4] bs σ = some (.int .i64 (pickN c 4 : Int), σ) := pick9 c 4 (by omega) h1 bs σ
def bName (n : Nat) : ByteArray := if n = 0 then ⟨#[86]⟩ else if n = 1 then ⟨#[86, 97]⟩ else if n = 2 then ⟨#[83]⟩ else ⟨#[88]⟩
def bindV (b : GB) : GB := ⟨bName (pickN b.name.size 4), fit b.value⟩
def envV (l : List GB) : List GB := (l.take 8).map bindV
theorem env_ok (l : List GB) (hok : ∀ b ∈ l, b.ok) (hs : ∀ b ∈ l, b.size ≤ 100000000000) (hl : l.length ≤ 100000000000) : pureT T c10 [.isl (GB.encs l) false] = some (.isl (GB.encs (envV l)) false) := by
  apply pure_enter (by simp [c10])
  simp [c10]
  refine W_for T 0 36 (min l.length 8) (fun i f σ => f 0 = .isl (GB.encs l) false ∧ f 4 = .int .i64 (i : Int) ∧ LstAt σ 0 (GB.encs ((l.take i).map bindV)) 5 (f 3)) ?_ _ _ ?_
  · rintro i f σ hi ⟨h0, h4, hlst⟩
    by_cases hlt : i < min l.length 8
    · have hw : IntKind.i64.wrap ((i : Int) + 1) = (i : Int) + 1 := wr64 (by omega) (by omega)
      have hc1 : i < l.length := by omega
      have hc2 : (i : Int) < 8 := by omega
      have hm := List.getElem_mem hc1
      have hsz := hs _ hm
      have hns : l[i].name.size ≤ l[i].size ∧ l[i].value.size ≤ l[i].size := by simp only [GB.size]; omega
      have hp := pick94 (l[i].name.size : Int) ⟨by omega, by omega⟩
      have hf := callFit l[i].value (hok _ hm) (by omega)
      have hb : bindV l[i] = ⟨bName (pickN l[i].name.size 4), fit l[i].value⟩ := rfl
      have hlt4 := pickN_lt (c := (l[i].name.size : Int)) (n := 4) (by omega)
      have htk : (l.take (i + 1)).map bindV = (l.take i).map bindV ++ [bindV l[i]] := by rw [take_snoc hc1, List.map_append]; rfl
      have hlen : ((l.take i).map bindV).length = i := by simp; omega
      have hget : ∀ L : List AV, L = [AV.str ⟨#[86]⟩, .str ⟨#[86, 97]⟩, .str ⟨#[83]⟩, .str ⟨#[88]⟩] → (window L (pickN (l[i].name.size : Int) 4) 1).bind (mk false) = some (.str (bName (pickN (l[i].name.size : Int) 4))) := by
        intro L e; subst e
        generalize pickN (l[i].name.size : Int) 4 = m at hlt4
        match m, hlt4 with
        | 0, _ => rfl
        | 1, _ => rfl
        | 2, _ => rfl
        | 3, _ => rfl
      have hw2 := hget _ rfl
      rw [htk, hb]
      generalize pickN (l[i].name.size : Int) 4 = m at *
      generalize (l.take i).map bindV = done at *
      have hdl : done.length ≤ 10000000000 := by omega
      have hlt4' : (m : Int) < 4 := by omega
      generalize hxx : f 3 = xx at *
      rcases hlst with ⟨he, rfl⟩ | ⟨kk, rfl, hkl, hkk⟩
      · have hd0 : done = [] := (GB.encs_nil _).1 he
        simp [hxx, h0, h4, hc1, hc2, hw, hp, hf, hw2, hlt4', setRun, enc_mk, GB.enc_mk]
        exact ⟨by omega, .inr ⟨σ.length + 2, by simp [hd0], by simp, by simp [hd0]⟩⟩
      · simp only [Nat.add_zero] at hxx
        simp [hxx, h0, h4, hc1, hc2, hw, hp, hf, hw2, hlt4', setRun, enc_mk, GB.enc_mk, List.getElem?_append_left hkl, hkk, List.set_append_left _ _ hkl, hdl]
        exact ⟨by omega, .inr ⟨kk, rfl, by simp; omega, by rw [List.getElem?_append_left (by simpa using hkl)]; simp [hkl]⟩⟩
    · have he : i = min l.length 8 := by omega
      have htake : l.take i = l.take 8 := by
        rw [he]
        rcases Nat.lt_or_ge l.length 8 with h | h
        · rw [List.take_of_length_le (by omega), List.take_of_length_le (by omega)]
        · rw [Nat.min_eq_right h]
      rw [htake] at hlst
      obtain ⟨hcA, hc1⟩ := lst_closed (σ := σ) hlst
      have hb : ¬ i < l.length ∨ (i < l.length ∧ ¬ (i : Int) < 8) := by omega
      rcases hb with hb | ⟨hb, hb2⟩
      · rcases hlst with ⟨he2, h3⟩ | ⟨kk, h3, hkl, hkk⟩
        · rw [List.map_take] at he2
          simp [h0, h4, h3, setRun, hb, envV, he2]
        · simp [h0, h4, h3, setRun, hb, envV]
      · rcases hlst with ⟨he2, h3⟩ | ⟨kk, h3, hkl, hkk⟩
        · rw [List.map_take] at he2
          simp [h0, h4, h3, setRun, hb, hb2, envV, he2]
        · simp [h0, h4, h3, setRun, hb, hb2, envV]
  · exact ⟨by simp, by simp, .inl ⟨by simp, by simp⟩⟩
theorem callEnv (l : List GB) (hok : ∀ b ∈ l, b.ok) (hs : ∀ b ∈ l, b.size ≤ 100000000000) (hl : l.length ≤ 100000000000) (bs : Nat) (σ : Heap) : callT T 10 [.isl (GB.encs l) false] bs σ = some (.isl (GB.encs (envV l)) false, σ) := call_clean rfl rfl rfl (by simp) (env_ok l hok hs hl)
theorem gb_ext (a b : GB) : a = b ↔ a.name = b.name ∧ a.value = b.value := by cases a; cases b; simp
instance : DecidableEq GB := fun a b => decidable_of_iff _ (gb_ext a b).symm
theorem same9_ok (l l2 : List GB) (hl : l.length ≤ 100000000000) (hs : ∀ b ∈ l, b.value.size ≤ 100000000000) : pureT T c20 [.isl (GB.encs l) false, .isl (GB.encs l2) false] = some (.bool (decide (l = l2))) := by
  apply pure_enter (by simp [c20])
  by_cases hlen : l.length = l2.length
  · simp [c20, hlen]
    refine W_for T 0 42 l.length (fun i f σ => f 0 = .isl (GB.encs l) false ∧ f 1 = .isl (GB.encs l2) false ∧ f 5 = .int .i64 (i : Int) ∧ ∀ j, (h1 : j < l.length) → (h2 : j < l2.length) → j < i → l[j] = l2[j]) ?_ _ _ ?_
    · rintro i f σ hi ⟨h0, h1, h5, hall⟩
      by_cases hlt : i < l.length
      · have hlt2 : i < l2.length := by omega
        have hw : IntKind.i64.wrap ((i : Int) + 1) = (i : Int) + 1 := wr64 (by omega) (by omega)
        have hcl := callSame l[i].value l2[i].value (hs _ (List.getElem_mem hlt))
        have hall' : l[i] = l2[i] → ∀ j, (h1 : j < l.length) → (h2 : j < l2.length) → j < i + 1 → l[j] = l2[j] := fun h j h1 h2 hj => by
          by_cases e : j = i
          · subst e; exact h
          · exact hall j h1 h2 (by omega)
        by_cases hn : l[i].name = l2[i].name
        · by_cases hv : l[i].value = l2[i].value
          · have hx := (gb_ext _ _).2 ⟨hn, hv⟩
            rw [hv] at hcl
            simp [h0, h1, h5, hlt, hlt2, hw, hcl, hn, hv, enc_mk, sym]
            exact hall' hx
          · have hne : ¬ l = l2 := fun e => hv (by subst e; rfl)
            simp [h0, h1, h5, hlt, hlt2, hw, hcl, hn, hv, enc_mk, sym, hne]
        · have hne : ¬ l = l2 := fun e => hn (by subst e; rfl)
          simp [h0, h1, h5, hlt, hlt2, hw, hcl, hn, enc_mk, sym, hne]
      · have he : i = l.length := by omega
        subst he
        simp [h0, h1, h5]
        exact List.ext_getElem hlen fun j h1 h2 => hall j h1 h2 h1
    · simp
  · have hne : ¬ l = l2 := fun e => hlen (by rw [e])
    have hlen' : ¬ (l.length : Int) = (l2.length : Int) := by omega
    simp [c20, hlen', hne]
theorem callSame9 (l l2 : List GB) (hl : l.length ≤ 100000000000) (hs : ∀ b ∈ l, b.value.size ≤ 100000000000) (bs : Nat) (σ : Heap) : callT T 20 [.isl (GB.encs l) false, .isl (GB.encs l2) false] bs σ = some (.bool (sym (decide (l = l2))), σ) := call_clean rfl rfl rfl (by simp) (same9_ok l l2 hl hs)
theorem callRMatch (args : List GT) (vs : List GV) (env : List GB) (he : Small env) (hl : env.length + args.length ≤ 1000000000) (ha : ∀ t ∈ args, t.size ≤ 1000000000) (hv : ∀ v ∈ vs, v.size ≤ 1000000000) (hvl : vs.length ≤ 1000000000) (bs : Nat) (σ : Heap) :
    callT T 19 [.isl (GT.encs args) false, .isl (GV.encs vs) false, .isl (GB.encs env) false] bs σ = some (resB (matchV args vs env), σ) := call_clean rfl rfl rfl (by simp) (rMatch_ok args vs env he hl ha hv hvl)
set_option maxRecDepth 100000 in
theorem awake_eval : evalFn T 100 9 [] 0 [] = some (.bool true, []) := by kernel_rfl
/-! ### Bounds -/
theorem fit_small (v : GV) : (fit v).size ≤ 3000000 := Nat.le_trans (fit_size v) (by omega)
theorem relOf_size (s : ByteArray) : (relOf s).size ≤ 100 := by
  unfold relOf; have := nameFit_size s; split
  · decide
  · omega
theorem valOf_size (v : GV) : (valOf v).size ≤ 3000100 := by
  unfold valOf
  have h1 := fit_small v
  split
  · have h2 := relOf_size (fit v).text
    have h3 := items_le (fit v)
    simp only [GV.size]; omega
  · omega
theorem varOf_size (s : ByteArray) : (varOf s).size ≤ 100 := by
  unfold varOf; have := nameFit_size s; rw [ByteArray.size_append, ByteArray.size_extract]
  show 1 + _ ≤ _
  omega
theorem e0 : (ByteArray.mk #[]).size = 0 := rfl
theorem leaf_size (t : GT) : (leafT t).size ≤ 3001000 := by
  unfold leafT
  have h1 := varOf_size t.name
  have h2 := valOf_size t.value
  split
  · simp only [GT.size, GT.sizes, nilV, GV.size, GV.sizes, e0]; omega
  · simp only [GT.size, GT.sizes, e0]; omega
theorem fnOf_size (n : Nat) : (fnOf n).size ≤ 9 := by
  unfold fnOf; repeat' split
  all_goals decide
theorem opOf_size (n : Nat) : (opOf n).size ≤ 9 := by
  unfold opOf; repeat' split
  all_goals decide
theorem sizesT_le (l : List GT) (n : Nat) (h : ∀ x ∈ l, x.size ≤ n) : GT.sizes l ≤ l.length * n := by
  induction l with
  | nil => simp [GT.sizes]
  | cons x l ih =>
    have h1 := h x (by simp)
    have h2 := ih fun y hy => h y (by simp [hy])
    simp only [GT.sizes, List.length_cons, Nat.add_mul]; omega
theorem term_size : ∀ (d : Nat) (t : GT), (termV d t).size ≤ 3001000 * 2 ^ d + 100 * (2 ^ d - 1)
  | 0, t => by have := leaf_size t; simp only [termV]; omega
  | d + 1, t => by
    have hp : 1 ≤ 2 ^ d := Nat.one_le_two_pow
    have h1 := leaf_size t
    have h2 := varOf_size t.name
    have h3 := valOf_size t.value
    have hargs : ∀ n, n ≤ 2 → GT.sizes ((t.args.take n).map (termV d)) ≤ 2 * (3001000 * 2 ^ d + 100 * (2 ^ d - 1)) := fun n hn => by
      have := sizesT_le ((t.args.take n).map (termV d)) (3001000 * 2 ^ d + 100 * (2 ^ d - 1)) fun x hx => by
        obtain ⟨y, _, rfl⟩ := List.mem_map.1 hx
        exact term_size d y
      refine Nat.le_trans this (Nat.mul_le_mul_right _ ?_)
      simp; omega
    have hpw : 2 ^ (d + 1) = 2 * 2 ^ d := by rw [Nat.pow_succ]; omega
    rw [hpw]
    unfold termV
    split
    · omega
    · split
      · simp only [GT.size, GT.sizes, nilV, GV.size, GV.sizes, e0]; omega
      · split
        · simp only [GT.size, GT.sizes, e0]; omega
        · split
          · have ha := hargs (arityOf (fnOf (pickN (IntKind.i64.wrap ((t.name.size : Int) + t.kind)) 6))).toNat (by rw [fnOf_arity]; split <;> decide)
            have hf := fnOf_size (pickN (IntKind.i64.wrap ((t.name.size : Int) + t.kind)) 6)
            simp only [GT.size, nilV, GV.size, GV.sizes, e0]
            omega
          · have ha := hargs 2 (by omega)
            have hf := opOf_size (pickN t.name.size 3)
            simp only [GT.size, nilV, GV.size, GV.sizes, e0]
            omega
theorem term_small (d : Nat) (hd : d ≤ 8) (t : GT) : (termV d t).size ≤ 1000000000 := by
  have h := term_size d t
  have hp : 2 ^ d ≤ 2 ^ 8 := Nat.pow_le_pow_right (by omega) hd
  omega
theorem env_small (l : List GB) : Small (envV l) := ⟨by simp [envV]; omega, fun b hb => by
  obtain ⟨c, _, rfl⟩ := List.mem_map.1 hb
  have := fit_small c.value
  show (fit c.value).size ≤ _; omega⟩
end Go.Proofs.Ytkjfkbblfjmnaaa
end
section
set_option linter.unusedVariables false
set_option linter.unusedSimpArgs false
set_option linter.unnecessarySimpa false
namespace Go.Mach

/-! ### Arguments of the laws -/
structure IsT (P : Program) (tT tTL tV tL tI tS : TypeId) : Prop where
  fs : ∃ fs : Array Field, P.underlying tT = some (.struct fs) ∧ fs.toList.map (·.type) = [tI, tS, tV, tTL]
  list : P.underlying tTL = some (.slice tT)
  val : IsV P tV tL tI tS
structure IsB (P : Program) (tB tBL tV tL tI tS : TypeId) : Prop where
  fs : ∃ fs : Array Field, P.underlying tB = some (.struct fs) ∧ fs.toList.map (·.type) = [tS, tV]
  list : P.underlying tBL = some (.slice tB)
  val : IsV P tV tL tI tS
theorem TyA.asTerm {P : Program} {tT tTL tV tL tI tS : TypeId} (hT : IsT P tT tTL tV tL tI tS) {t : TypeId} {x : AV} (h : TyA P t x) : (t = tT → ∃ v : GT, x = v.enc ∧ v.ok) ∧ (t = tTL → ∃ l : List GT, x = .isl (GT.encs l) false ∧ GT.oks l) := by
  have e1 : IntKind.i64.min = -9223372036854775808 := by decide
  have e2 : IntKind.i64.max = 9223372036854775807 := by decide
  obtain ⟨fs0, hf0, hts⟩ := hT.fs
  have hV := hT.val
  induction h with
  | bool hu b => exact ⟨fun e => (by subst e; rw [hf0] at hu; cases hu), fun e => by subst e; rw [hT.list] at hu; cases hu⟩
  | int hu n hn => exact ⟨fun e => (by subst e; rw [hf0] at hu; cases hu), fun e => by subst e; rw [hT.list] at hu; cases hu⟩
  | str hu s => exact ⟨fun e => (by subst e; rw [hf0] at hu; cases hu), fun e => by subst e; rw [hT.list] at hu; cases hu⟩
  | @slice t e es hu hes ih =>
    refine ⟨fun e' => (by subst e'; rw [hf0] at hu; cases hu), fun e' => ?_⟩
    subst e'; rw [hT.list] at hu; injection hu with hu; injection hu with hu; subst hu
    have : ∀ l : List AV, (∀ y ∈ l, ∃ v : GT, y = v.enc ∧ v.ok) → ∃ l' : List GT, l = GT.encs l' ∧ GT.oks l' := by
      intro l
      induction l with
      | nil => intro _; exact ⟨[], rfl, trivial⟩
      | cons y l ihl =>
        intro h
        obtain ⟨v, rfl, hv⟩ := h y (by simp)
        obtain ⟨l', rfl, hl'⟩ := ihl fun z hz => h z (by simp [hz])
        exact ⟨v :: l', rfl, hv, hl'⟩
    obtain ⟨l', rfl, hl'⟩ := this es fun y hy => (ih y hy).1 rfl
    exact ⟨l', rfl, hl'⟩
  | @struct t fs vs hu hl hv ih =>
    refine ⟨fun e' => ?_, fun e' => by subst e'; rw [hT.list] at hu; cases hu⟩
    subst e'; rw [hf0] at hu; injection hu with hu; injection hu with hu; subst hu
    have hlen : vs.length = 4 := by rw [hl, ← List.length_map (f := (·.type)), hts]; rfl
    match vs, hlen with
    | [x0, x1, x2, x3], _ =>
      obtain ⟨k, rfl, k1, k2⟩ := (field_ty hts hv (i := 0) rfl rfl).asInt hV.int
      obtain ⟨s, rfl⟩ := (field_ty hts hv (i := 1) rfl rfl).asStr hV.str
      obtain ⟨v, rfl, hvo⟩ := ((field_ty hts hv (i := 2) rfl rfl).asValue hV).1 rfl
      have h3 : fs0.toList[3]?.map (·.type) = some tTL := by rw [← List.getElem?_map, hts]; rfl
      obtain ⟨f3, hf3, hft⟩ := Option.map_eq_some_iff.1 h3
      obtain ⟨l, rfl, hok⟩ := (ih 3 f3 x3 hf3 rfl).2 hft
      rw [e1] at k1; rw [e2] at k2
      refine ⟨.mk k s v l, by simp [GT.enc, flat], ⟨⟨k1, k2⟩, hvo, hok⟩⟩
theorem TyA.asBind {P : Program} {tB tBL tV tL tI tS : TypeId} (hB : IsB P tB tBL tV tL tI tS) {x : AV} (h : TyA P tB x) : ∃ v : GB, x = v.enc ∧ v.ok := by
  obtain ⟨fs0, hf0, hts⟩ := hB.fs
  have hV := hB.val
  cases h with
  | bool hu b => rw [hf0] at hu; cases hu
  | int hu n hn => rw [hf0] at hu; cases hu
  | str hu s => rw [hf0] at hu; cases hu
  | slice hu hes => rw [hf0] at hu; cases hu
  | @struct _ fs vs hu hl hv =>
    rw [hf0] at hu; injection hu with hu; injection hu with hu; subst hu
    have hlen : vs.length = 2 := by rw [hl, ← List.length_map (f := (·.type)), hts]; rfl
    match vs, hlen with
    | [x0, x1], _ =>
      obtain ⟨s, rfl⟩ := (field_ty hts hv (i := 0) rfl rfl).asStr hV.str
      obtain ⟨v, rfl, hvo⟩ := ((field_ty hts hv (i := 1) rfl rfl).asValue hV).1 rfl
      exact ⟨⟨s, v⟩, by simp [GB.enc, flat], hvo⟩
def fieldTys (P : Program) (t : TypeId) : Option (List TypeId) := match P.underlying t with
  | some (.struct fs) => some (fs.toList.map (·.type))
  | _ => none
theorem fieldTys_some {P : Program} {t : TypeId} {l : List TypeId} (h : fieldTys P t = some l) : ∃ fs : Array Field, P.underlying t = some (.struct fs) ∧ fs.toList.map (·.type) = l := by
  unfold fieldTys at h
  split at h
  · rename_i fs hu; injection h with h; exact ⟨fs, hu, h⟩
  · cases h
def OkT (l : List GT) : Prop := GT.oks l ∧ (∀ t ∈ l, t.size ≤ 1048576) ∧ l.length ≤ 1048576
def OkV (l : List GV) : Prop := GV.oks l ∧ (∀ t ∈ l, t.size ≤ 1048576) ∧ l.length ≤ 1048576
def OkB (l : List GB) : Prop := (∀ b ∈ l, b.ok) ∧ (∀ b ∈ l, b.size ≤ 1048576) ∧ l.length ≤ 1048576
theorem argT {P : Program} {tT tTL tV tL tI tS : TypeId} (hT : IsT P tT tTL tV tL tI tS) {x : AV} (h : TyA P tTL x) (hb : bulkA x ≤ 1048576) : ∃ l : List GT, x = .isl (GT.encs l) false ∧ OkT l := by
  obtain ⟨l, rfl, hl⟩ := (h.asTerm hT).2 rfl
  simp only [bulkA, GT.bulk_encs] at hb
  exact ⟨l, rfl, hl, fun t ht => by have := (GT.sizes_mem ht).1; omega, by have := GT.len_sizes l; omega⟩
theorem arg1T {P : Program} {tT tTL tV tL tI tS : TypeId} (hT : IsT P tT tTL tV tL tI tS) {x : AV} (h : TyA P tT x) (hb : bulkA x ≤ 1048576) : ∃ l : GT, x = l.enc ∧ l.ok ∧ l.size ≤ 1048576 := by
  obtain ⟨l, rfl, hl⟩ := (h.asTerm hT).1 rfl
  rw [GT.bulk_enc] at hb
  exact ⟨l, rfl, hl, hb⟩
theorem argV {P : Program} {tV tL tI tS : TypeId} (hT : IsV P tV tL tI tS) {x : AV} (h : TyA P tL x) (hb : bulkA x ≤ 1048576) : ∃ l : List GV, x = .isl (GV.encs l) false ∧ OkV l := by
  obtain ⟨l, rfl, hl⟩ := (h.asValue hT).2 rfl
  simp only [bulkA, GV.bulk_encs] at hb
  have hle : ∀ l : List GV, l.length ≤ GV.sizes l := fun l => by
    induction l with
    | nil => simp
    | cons x l ih =>
      have : 1 ≤ x.size := by cases x; simp only [GV.size]; omega
      simp only [GV.sizes, List.length_cons]; omega
  have hm : ∀ l : List GV, ∀ t ∈ l, t.size ≤ GV.sizes l := fun l => by
    induction l with
    | nil => intro t ht; cases ht
    | cons x l ih =>
      intro t ht
      rcases List.mem_cons.1 ht with rfl | ht
      · simp only [GV.sizes]; omega
      · have := ih t ht; simp only [GV.sizes]; omega
  exact ⟨l, rfl, hl, fun t ht => by have := hm l t ht; omega, by have := hle l; omega⟩
theorem arg1V {P : Program} {tV tL tI tS : TypeId} (hT : IsV P tV tL tI tS) {x : AV} (h : TyA P tV x) (hb : bulkA x ≤ 1048576) : ∃ l : GV, x = l.enc ∧ l.ok ∧ l.size ≤ 1048576 := by
  obtain ⟨l, rfl, hl⟩ := (h.asValue hT).1 rfl
  rw [GV.bulk_enc] at hb
  exact ⟨l, rfl, hl, hb⟩
theorem argB {P : Program} {tB tBL tV tL tI tS : TypeId} (hB : IsB P tB tBL tV tL tI tS) {x : AV} (h : TyA P tBL x) (hb : bulkA x ≤ 1048576) : ∃ l : List GB, x = .isl (GB.encs l) false ∧ OkB l := by
  obtain ⟨es, rfl, hes⟩ := h.asSlice hB.list
  have : ∀ l : List AV, (∀ y ∈ l, ∃ v : GB, y = v.enc ∧ v.ok) → ∃ l' : List GB, l = GB.encs l' ∧ ∀ b ∈ l', b.ok := by
    intro l
    induction l with
    | nil => intro _; exact ⟨[], rfl, by simp⟩
    | cons y l ihl =>
      intro h
      obtain ⟨v, rfl, hv⟩ := h y (by simp)
      obtain ⟨l', rfl, hl'⟩ := ihl fun z hz => h z (by simp [hz])
      exact ⟨v :: l', rfl, fun b hb => by rcases List.mem_cons.1 hb with rfl | hb; exact hv; exact hl' b hb⟩
  obtain ⟨l, rfl, hl⟩ := this es fun y hy => (hes y hy).asBind hB
  simp only [bulkA] at hb
  exact ⟨l, rfl, hl, fun b hb' => by have := GB.size_mem hb'; omega, by have := GB.len_le l; omega⟩
theorem argS {P : Program} {tS : TypeId} (hS : P.underlying tS = some .string) {x : AV} (h : TyA P tS x) (hb : bulkA x ≤ 1048576) : ∃ s : ByteArray, x = .str s ∧ s.size ≤ 1048576 := by
  obtain ⟨s, rfl⟩ := h.asStr hS
  simp only [bulkA] at hb
  exact ⟨s, rfl, by omega⟩
theorem argI {P : Program} {tI : TypeId} (hS : P.underlying tI = some (.int .i64)) {x : AV} (h : TyA P tI x) (hb : bulkA x ≤ 1048576) : ∃ n : Int, x = .int .i64 n ∧ GV.i64ok n := by
  have e1 : IntKind.i64.min = -9223372036854775808 := by decide
  have e2 : IntKind.i64.max = 9223372036854775807 := by decide
  obtain ⟨n, rfl, n1, n2⟩ := h.asInt hS
  rw [e1] at n1; rw [e2] at n2
  exact ⟨n, rfl, n1, n2⟩
end Go.Mach
namespace Go.Proofs.Ytkjfkbblfjmnaaa
open Go.Mach
theorem tyV : IsV Try.prog 28 23 3 9 := ⟨fieldTys_some (by kernel_rfl), by kernel_rfl, by kernel_rfl, by kernel_rfl⟩
theorem tyT : IsT Try.prog 30 22 28 23 3 9 := ⟨fieldTys_some (by kernel_rfl), by kernel_rfl, tyV⟩
theorem tyB : IsB Try.prog 43 24 28 23 3 9 := ⟨fieldTys_some (by kernel_rfl), by kernel_rfl, tyV⟩
end Go.Proofs.Ytkjfkbblfjmnaaa
end
section
set_option linter.unusedVariables false
set_option linter.unusedSimpArgs false
set_option linter.unnecessarySimpa false
namespace Go.Proofs.Ytkjfkbblfjmnaaa
open Go.Mach

theorem awake_ok : pureT T c9 [] = some (.bool true) := pureT_of_call rfl rfl rfl rfl (callT_of_eval awake_eval)
theorem callAwake (bs : Nat) (σ : Heap) : callT T 9 [] bs σ = some (.bool true, σ) := call_clean rfl rfl rfl rfl awake_ok
/-- A list that was made by append. -/
def IsL (es : List AV) (x : AV) : Prop := (es = [] ∧ x = .isl [] true) ∨ ∃ k, x = .own k es
theorem IsL.of {rest : Heap} {off : Nat} {es : List AV} {sz : Nat} {x : AV} (h : LstAt rest off es sz x) : IsL es x := by
  rcases h with h | ⟨k, h, _⟩
  · exact .inl h
  · exact .inr ⟨_, h⟩
theorem IsL.closed {es : List AV} {x : AV} (h : IsL es x) (σ : Heap) : closeA σ x = some (.isl es false, σ) := by
  rcases h with ⟨rfl, rfl⟩ | ⟨k, rfl⟩ <;> rfl
theorem callMatchL (args : List GT) (vs : List GV) (env : List GB) (he : Small env) (hl : env.length + args.length ≤ 1000000000) (ha : ∀ t ∈ args, t.size ≤ 1000000000) (hv : ∀ v ∈ vs, v.size ≤ 1000000000) (hvl : vs.length ≤ 1000000000) {x y : AV} (hx : IsL (GT.encs args) x) (hy : IsL (GV.encs vs) y) (bs : Nat) (σ : Heap) :
    callT T 18 [x, y, .isl (GB.encs env) false] bs σ = some (resB (matchV args vs env), σ) := call_data rfl rfl rfl (match_ok args vs env he hl ha hv hvl) (resB_scal _) (by simp) (by simp [closeT, hx.closed, hy.closed])
theorem callRMatchL (args : List GT) (vs : List GV) (env : List GB) (he : Small env) (hl : env.length + args.length ≤ 1000000000) (ha : ∀ t ∈ args, t.size ≤ 1000000000) (hv : ∀ v ∈ vs, v.size ≤ 1000000000) (hvl : vs.length ≤ 1000000000) {x y : AV} (hx : IsL (GT.encs args) x) (hy : IsL (GV.encs vs) y) (bs : Nat) (σ : Heap) :
    callT T 19 [x, y, .isl (GB.encs env) false] bs σ = some (resB (matchV args vs env), σ) := call_data rfl rfl rfl (rMatch_ok args vs env he hl ha hv hvl) (resB_scal _) (by simp) (by simp [closeT, hx.closed, hy.closed])
theorem callTerm8 (t : GT) (ht : t.ok) (hs : t.size ≤ 100000000000) (bs : Nat) (σ : Heap) : callT T 11 [t.enc, .int .i64 8] bs σ = some ((termV 8 t).enc, σ) := callTerm 8 t (by omega) ht hs bs σ
theorem callTerm4 (t : GT) (ht : t.ok) (hs : t.size ≤ 100000000000) (bs : Nat) (σ : Heap) : callT T 11 [t.enc, .int .i64 4] bs σ = some ((termV 4 t).enc, σ) := callTerm 4 t (by omega) ht hs bs σ
theorem sym_true (a : GV) : sym (decide (a = a)) = true := by simp [sym]
theorem sym_trueB (a : List GB) : sym (decide (a = a)) = true := by simp [sym]
theorem snoc_get {α : Type} (l : List α) (x : α) : (l ++ [x])[l.length]? = some x := by simp
theorem matchV_size {args : List GT} {vs : List GV} {env r : List GB} (he : Small env) (hl : env.length + args.length ≤ 1000000000) (hv : ∀ v ∈ vs, v.size ≤ 1000000000) (h : matchV args vs env = some r) : Small r := by
  unfold matchV at h
  split at h
  · injection h with h; subst h; exact bound_small he hl hv
  · cases h
theorem getD_small {args : List GT} {vs : List GV} {env : List GB} (he : Small env) (hl : env.length + args.length ≤ 1000000000) (hv : ∀ v ∈ vs, v.size ≤ 1000000000) : Small ((matchV args vs env).getD []) := by
  cases h : matchV args vs env with
  | none => exact ⟨by simp, fun b hb => by simp at hb⟩
  | some r => exact matchV_size he hl hv h
theorem evalD_size {env : List GB} (he : Small env) (t : GT) (ht : t.size ≤ 1000000000) : ((evalV env t).getD nilV).size ≤ 1000000000 := by
  cases h : evalV env t with
  | none => decide
  | some v => exact evalV_size he t v ht h
theorem lookD_size {env : List GB} (he : Small env) (n : ByteArray) : ((lookupV env n).getD nilV).size ≤ 1000000000 := by
  cases h : lookupV env n with
  | none => decide
  | some v => obtain ⟨b, hb, rfl, _⟩ := lookupV_mem h; exact he.2 b hb
/-! ### The same, of a list that was made by append -/
theorem IsL.len {es : List AV} {x : AV} (h : IsL es x) : lenV false x = some (.int .i64 (es.length : Int)) := by
  rcases h with ⟨rfl, rfl⟩ | ⟨k, rfl⟩ <;> rfl
theorem IsL.at {es : List AV} {x : AV} (h : IsL es x) (sz : Nat) (k : IntKind) (n : Int) : iaddrV sz x (.int k n) = if 0 ≤ n then (es[n.toNat]?.bind fun e => if e.cells.length = sz then some (.iptr e.cells 0) else none) else none := by
  rcases h with ⟨rfl, rfl⟩ | ⟨j, rfl⟩ <;> rfl
theorem slSl_take {sz : Nat} {es : List AV} {c : Bool} {n : Nat} (h : n ≤ es.length) : slSlV sz none (some (.int .i64 (n : Int))) (.isl es c) = some (.isl (es.take n) false) := by
  have h1 : slSlA sz 0 n (.isl es c) = some (.isl (es.take n) false) := by
    have hc : 0 ≤ n ∧ n ≤ es.length ∧ (0 = 0 ∨ es.all (lenIs sz) = true) := ⟨by omega, h, .inl rfl⟩
    unfold slSlA; simp only; rw [if_pos (by simpa using hc)]; simp
  have h2 : bndV es.length es.length (some (.int .i64 (n : Int))) = some n := by
    simp only [bndV]; rw [if_pos ⟨by omega, by omega⟩]; rfl
  have h0 : ¬ isSl (.isl es c) = false := by simp [isSl]
  have hl : lenA (.isl es c) = some es.length := rfl
  unfold slSlV
  rw [if_neg h0, hl]
  simp only [Option.bind_some, bndV_none, h2, h1]
/-! ### What is bound stays ahead -/
theorem bound_ext : ∀ (env : List GB) (ts : List GT) (vs : List GV), ∃ ext, boundV env ts vs = env ++ ext ∧ ∀ b ∈ ext, (∃ t ∈ ts, t.kind = 1 ∧ t.name = b.name) ∧ lookupV env b.name = none
  | env, [], vs => ⟨[], by cases vs <;> simp [boundV], by simp⟩
  | env, t :: ts, [] => ⟨[], by simp [boundV], by simp⟩
  | env, t :: ts, v :: vs => by
    obtain ⟨ext, h1, h2⟩ := bound_ext (bind1 env t v) ts vs
    simp only [boundV]
    by_cases h : t.kind = 1 ∧ lookupV env t.name = none
    · have hb : bind1 env t v = env ++ [⟨t.name, v⟩] := by unfold bind1; rw [if_pos h]
      rw [hb] at h1 h2 ⊢
      refine ⟨⟨t.name, v⟩ :: ext, by rw [h1]; simp, fun b hb => ?_⟩
      rcases List.mem_cons.1 hb with rfl | hb
      · exact ⟨⟨t, by simp, h.1, rfl⟩, h.2⟩
      · obtain ⟨⟨t', h3, h4, h5⟩, h6⟩ := h2 b hb
        refine ⟨⟨t', by simp [h3], h4, h5⟩, ?_⟩
        cases hl : lookupV env b.name with
        | none => rfl
        | some w => rw [lookup_append _ hl] at h6; cases h6
    · have hb : bind1 env t v = env := by unfold bind1; rw [if_neg h]
      rw [hb] at h1 h2 ⊢
      exact ⟨ext, h1, fun b hb => by
        obtain ⟨⟨t', h3, h4, h5⟩, h6⟩ := h2 b hb
        exact ⟨⟨t', by simp [h3], h4, h5⟩, h6⟩⟩
theorem encT_mk0 (k : Int) (n : ByteArray) (vk vn : Int) (vt : ByteArray) : AV.agg [.int .i64 k, .str n, .int .i64 vk, .int .i64 vn, .str vt, .isl [] false, .isl [] false] = (GT.mk k n (.mk vk vn vt []) []).enc := by simp only [GT.enc, GV.encs, GT.encs]
theorem encT_mkA (k : Int) (n : ByteArray) (vk vn : Int) (vt : ByteArray) (vl : List GV) : AV.agg [.int .i64 k, .str n, .int .i64 vk, .int .i64 vn, .str vt, .isl (GV.encs vl) false, .isl [] false] = (GT.mk k n (.mk vk vn vt vl) []).enc := by simp only [GT.enc, GT.encs]
theorem slSl_own {sz k : Nat} {x : AV} {es : List AV} (h : ∀ e ∈ x :: es, e.cells.length = sz) : slSlV sz (some (.int .i64 1)) none (.own k (x :: es)) = some (.isl es false) := by
  have hall : (x :: es).all (lenIs sz) = true := by rw [List.all_eq_true]; intro y hy; simp [lenIs, h y hy]
  have h1 : slSlA sz 1 (x :: es).length (.own k (x :: es)) = some (.isl es false) := by
    have hc : 1 ≤ (x :: es).length ∧ (x :: es).length ≤ (x :: es).length ∧ (1 = 0 ∨ (x :: es).all (lenIs sz) = true) := ⟨by simp, Nat.le_refl _, .inr hall⟩
    unfold slSlA; simp only; rw [if_pos hc, if_neg (by omega), List.take_length]; rfl
  have h2 : bndV (x :: es).length 0 (some (.int .i64 1)) = some 1 := by
    simp only [bndV]; rw [if_pos ⟨by omega, by simp only [List.length_cons]; omega⟩]; rfl
  have h0 : ¬ isSl (.own k (x :: es)) = false := by simp [isSl]
  have hl : lenA (.own k (x :: es)) = some (x :: es).length := rfl
  unfold slSlV
  rw [if_neg h0, hl]
  simp only [Option.bind_some, bndV_none, h2, h1]
theorem app_mt_list {σ : Heap} {sz bytes k : Nat} {ag : Bool} {es : List AV} (hne : es ≠ []) (hf : (flat es).length = es.length * sz) (h0 : 0 < sz) (hb : bytes ≤ 1000) (hl : es.length ≤ 1000000000) :
    appendA σ sz ag bytes true (.isl [] true) (.own k es) = some (.sl σ.length 0 es.length sz ag, σ ++ [.cells (flat es) 0 true]) := by
  have he : elemsN σ sz ag (.own k es) = some es := rfl
  have he2 : elemsA σ sz ag (.isl [] true) = some [] := rfl
  have hmul : es.length * bytes ≤ 1000000000 * 1000 := Nat.mul_le_mul hl hb
  have : ¬ (sz = 0 ∨ es.length * bytes > 70368744177664 ∨ es.length > 70368744177664) := by omega
  simp only [appendA, he, he2, Option.bind_some, isSl, List.length_nil, Nat.zero_add, if_neg hne, if_neg this]
  rw [if_neg (by decide), if_pos trivial, if_pos ⟨hf, by simp [flat]⟩]
  rfl
theorem callMatchG (args : List GT) (vs : List GV) (env : List GB) (he : Small env) (hl : env.length + args.length ≤ 1000000000) (ha : ∀ t ∈ args, t.size ≤ 1000000000) (hv : ∀ v ∈ vs, v.size ≤ 1000000000) (hvl : vs.length ≤ 1000000000) {xs : List AV} (bs : Nat) {σ σ' : Heap}
    (hc : closeT σ xs = some ([.isl (GT.encs args) false, .isl (GV.encs vs) false, .isl (GB.encs env) false], σ')) :
    callT T 18 xs bs σ = some (resB (matchV args vs env), σ') := call_data rfl rfl rfl (match_ok args vs env he hl ha hv hvl) (resB_scal _) (by simp) hc
/-! ### What arguments that are variables match -/
theorem lookup_bind1 (env : List GB) (t : GT) (v : GV) (n : ByteArray) : lookupV (bind1 env t v) n = match lookupV env n with
    | some x => some x
    | none => if t.kind = 1 ∧ t.name = n then some v else none := by
  cases h : lookupV env n with
  | some x => exact bind1_keep h
  | none =>
    by_cases hk : t.kind = 1 ∧ t.name = n
    · obtain ⟨h1, rfl⟩ := hk
      have hb : bind1 env t v = env ++ [⟨t.name, v⟩] := by unfold bind1; rw [if_pos ⟨h1, h⟩]
      rw [hb, lookup_new h]; simp [h1]
    · simp only [if_neg hk]
      unfold bind1
      split
      · rename_i hc
        have hne : ¬ t.name = n := fun e => hk ⟨hc.1, e⟩
        unfold lookupV at h ⊢
        rw [Option.map_eq_none_iff] at h
        rw [List.find?_append, h]; simp [hne]
      · exact h
theorem lookup_bound : ∀ (env : List GB) (ts : List GT) (vs : List GV) (n : ByteArray), lookupV (boundV env ts vs) n = match lookupV env n with
    | some x => some x
    | none => ((ts.zip vs).find? fun p => decide (p.1.kind = 1) && decide (p.1.name = n)).map (·.2)
  | env, [], vs, n => by cases vs <;> cases h : lookupV env n <;> simp [boundV, h]
  | env, t :: ts, [], n => by cases h : lookupV env n <;> simp [boundV, h]
  | env, t :: ts, v :: vs, n => by
    simp only [boundV]
    rw [lookup_bound (bind1 env t v) ts vs n, lookup_bind1]
    cases h : lookupV env n with
    | some x => rfl
    | none =>
      by_cases hk : t.kind = 1 ∧ t.name = n
      · simp [hk.1, hk.2]
      · simp only [if_neg hk, List.zip_cons_cons, List.find?_cons]
        have : (decide (t.kind = 1) && decide (t.name = n)) = false := by simpa using hk
        rw [this]
/-- The value of a name is that of the first argument that is this variable. -/
theorem lookup_first (ts : List GT) (vs : List GV) (n : ByteArray) (i : Nat) (hi : i < ts.length) (hi2 : i < vs.length) (h : ts[i].kind = 1 ∧ ts[i].name = n) (hall : ∀ j, (hj : j < ts.length) → j < i → ¬ (ts[j].kind = 1 ∧ ts[j].name = n)) : lookupV (boundV [] ts vs) n = some vs[i] := by
  rw [lookup_bound]
  have h0 : lookupV [] n = none := rfl
  rw [h0]
  have hz : i < (ts.zip vs).length := by simp; omega
  have : (ts.zip vs).find? (fun p => decide (p.1.kind = 1) && decide (p.1.name = n)) = some (ts[i], vs[i]) := by
    rw [List.find?_eq_some_iff_getElem]
    refine ⟨by simp [h], i, hz, by simp, fun j hj => ?_⟩
    have := hall j (by omega) hj
    simp only [List.getElem_zip]
    simp
    by_cases hk : ts[j].kind = 1
    · exact .inr fun e => this ⟨hk, e⟩
    · exact .inl hk
  simp [this]
theorem bound_apart : ∀ (env : List GB) (ts : List GT) (vs : List GV), ts.length = vs.length → (∀ t ∈ ts, t.kind = 1 ∧ lookupV env t.name = none) → ts.Pairwise (fun a b => a.name ≠ b.name) → boundV env ts vs = env ++ (ts.zip vs).map fun p => ⟨p.1.name, p.2⟩
  | env, [], [], _, _, _ => by simp [boundV]
  | env, t :: ts, v :: vs, hl, h, hp => by
    have ht := h t (by simp)
    have hb : bind1 env t v = env ++ [⟨t.name, v⟩] := by unfold bind1; rw [if_pos ht]
    rw [List.pairwise_cons] at hp
    simp only [boundV]
    rw [hb, bound_apart (env ++ [(⟨t.name, v⟩ : GB)]) ts vs (by simpa using hl) (fun x hx => ⟨(h x (by simp [hx])).1, by
      rw [← hb, lookup_bind1, (h x (by simp [hx])).2]
      simp only
      rw [if_neg (fun hc => hp.1 x hx hc.2)]⟩) hp.2]
    simp
/-- Two lists that are made side by side. -/
def Two (σ : Heap) (e1 : List AV) (s1 : Nat) (e2 : List AV) (s2 : Nat) (x1 x2 : AV) : Prop :=
  (e1 = [] ∧ e2 = [] ∧ x1 = .isl [] true ∧ x2 = .isl [] true) ∨ (∃ k1 k2, x1 = .own k1 e1 ∧ x2 = .own k2 e2 ∧ k1 < σ.length ∧ k2 < σ.length ∧ σ[k1]? = some (.tok e1.length s1) ∧ σ[k2]? = some (.tok e2.length s2) ∧ k1 ≠ k2)
theorem Two.lists {σ : Heap} {e1 e2 : List AV} {s1 s2 : Nat} {x1 x2 : AV} (h : Two σ e1 s1 e2 s2 x1 x2) : IsL e1 x1 ∧ IsL e2 x2 := by
  rcases h with ⟨h1, h2, h3, h4⟩ | ⟨k1, k2, h1, h2, _⟩
  · exact ⟨.inl ⟨h1, h3⟩, .inl ⟨h2, h4⟩⟩
  · exact ⟨.inr ⟨_, h1⟩, .inr ⟨_, h2⟩⟩
theorem Two.set {σ : Heap} {k1 k2 n1 n2 s1 s2 : Nat} (a1 : k1 < σ.length) (a2 : k2 < σ.length) (a5 : k1 ≠ k2) (L : Heap) {e1 e2 : List AV} (q1 : e1.length = n1) (q2 : e2.length = n2) :
    Two ((σ.set k1 (.tok n1 s1)).set k2 (.tok n2 s2) ++ L) e1 s1 e2 s2 (.own k1 e1) (.own k2 e2) :=
  .inr ⟨k1, k2, rfl, rfl, by simp; omega, by simp; omega, by rw [List.getElem?_append_left (by simpa using a1), List.getElem?_set_ne (Ne.symm a5), q1]; simp [a1], by rw [List.getElem?_append_left (by simpa using a2), q2]; simp [a2], a5⟩
theorem tok_ne {σ : Heap} {a b n m s s' : Nat} (ha : σ[a]? = some (.tok n s)) (hb : σ[b]? = some (.tok m s')) (h : s ≠ s') : a ≠ b := by
  intro e; subst e; rw [ha] at hb; injection hb with hb; injection hb with _ hb; exact h hb
end Go.Proofs.Ytkjfkbblfjmnaaa
end
section
set_option linter.unusedVariables false
set_option linter.unusedSimpArgs false
set_option linter.unnecessarySimpa false
namespace Go.Proofs.Ytkjfkbblfjmnaaa
open Go.Mach

/-- The terms that have values, with these. -/
def prs (e : List GB) (l : List GT) : List (GT × GV) := l.filterMap fun t => (evalV e t).map fun v => (t, v)
theorem prs_snoc (e : List GB) (l : List GT) (t : GT) : prs e (l ++ [t]) = prs e l ++ (match evalV e t with | some v => [(t, v)] | none => []) := by
  simp only [prs, List.filterMap_append]
  cases h : evalV e t <;> simp [h]
theorem prs_len (e : List GB) (l : List GT) : (prs e l).length ≤ l.length := List.length_filterMap_le _ _
theorem prs_mem {e : List GB} {l : List GT} {p : GT × GV} (h : p ∈ prs e l) : p.1 ∈ l ∧ evalV e p.1 = some p.2 := by
  obtain ⟨t, ht, hp⟩ := List.mem_filterMap.1 h
  obtain ⟨v, hv, rfl⟩ := Option.map_eq_some_iff.1 hp
  exact ⟨ht, hv⟩
theorem bound_same (e : List GB) : ∀ (ps : List (GT × GV)), (∀ p ∈ ps, evalV e p.1 = some p.2) → boundV e (ps.map (·.1)) (ps.map (·.2)) = e
  | [], _ => rfl
  | (t, v) :: ps, h => by
    have hb : bind1 e t v = e := by
      unfold bind1
      rw [if_neg]
      rintro ⟨hk, hl⟩
      have := h (t, v) (by simp)
      obtain ⟨k, n, w, args⟩ := t
      replace hk : k = 1 := hk
      subst hk
      simp only [evalV, if_true] at this
      rw [show lookupV e n = none from hl] at this
      cases this
    simp only [List.map_cons, boundV, hb]
    exact bound_same e ps fun p hp => h p (by simp [hp])
theorem again_match (e : List GB) (ps : List (GT × GV)) (h : ∀ p ∈ ps, evalV e p.1 = some p.2) : matchV (ps.map (·.1)) (ps.map (·.2)) e = some e := by
  unfold matchV
  rw [bound_same e ps h, if_pos]
  refine ⟨by simp, (zip_all (by simp) _).2 fun i hi => ?_⟩
  have hi' : i < ps.length := by simpa using hi
  have := h ps[i] (List.getElem_mem hi')
  simp only [List.getElem_map, isV, this, cmpV_self, decide_true]
theorem app_new_own {σ : Heap} {sz bytes k : Nat} {ag : Bool} {xs : List AV} (hx : xs ≠ []) (h2 : xs.all (okEl sz ag) = true) (hl : xs.length ≤ 10000000000) (hb : bytes ≤ 1000) (h0 : 0 < sz) :
    appendA σ sz ag bytes false (.isl [] true) (.own k xs) = some (.own σ.length xs, σ ++ [.tok xs.length sz]) := by
  have he : elemsA σ sz ag (.isl [] true) = some [] := rfl
  have he2 : elemsN σ sz ag (.own k xs) = some xs := rfl
  have hmul : xs.length * bytes ≤ 10000000000 * 1000 := Nat.mul_le_mul hl hb
  have : ¬ (sz = 0 ∨ xs.length * bytes > 70368744177664 ∨ xs.length > 70368744177664) := by omega
  simp only [appendA, he, he2, Option.bind_some, isSl, if_neg hx, List.length_nil, Nat.zero_add, if_neg this]
  simp [h2]
theorem app_own_nil {σ : Heap} {sz bytes k : Nat} {ag : Bool} : appendA σ sz ag bytes false (.isl [] true) (.own k []) = some (.isl [] true, σ) := rfl
theorem Two.more {σ : Heap} {e1 e2 : List AV} {s1 s2 : Nat} {x1 x2 : AV} (h : Two σ e1 s1 e2 s2 x1 x2) (L : Heap) : Two (σ ++ L) e1 s1 e2 s2 x1 x2 := by
  rcases h with h | ⟨k1, k2, h1, h2, h3, h4, h5, h6, h7⟩
  · exact .inl h
  · exact .inr ⟨k1, k2, h1, h2, by simp; omega, by simp; omega, by rw [List.getElem?_append_left h3]; exact h5, by rw [List.getElem?_append_left h4]; exact h6, h7⟩
theorem again_ok (l : List GT) (env : List GB) (hl : OkT l) (he : OkB env) : pureT T c7 [.isl (GT.encs l) false, .isl (GB.encs env) false] = some (.bool true) := by
  obtain ⟨hl, sl, ll⟩ := hl
  have hee := env_small env
  have hcE := callEnv env he.1 (fun b hb => by have := he.2.1 b hb; omega) (by have := he.2.2; omega)
  have hel : (envV env).length ≤ 8 := by simp [envV]; omega
  generalize envV env = e at *
  apply pure_enter (by simp [c7])
  simp [c7, callAwake, hcE]
  refine W_for T 0 99 (min l.length 6) (fun i f σ => f 0 = .isl (GT.encs l) false ∧ f 5 = .bool true ∧ f 6 = .isl (GB.encs e) false ∧ f 9 = .int .i64 (i : Int) ∧
    Two σ (GT.encs ((prs e ((l.take i).map (termV 4))).map (·.1))) 7 (GV.encs ((prs e ((l.take i).map (termV 4))).map (·.2))) 4 (f 7) (f 8)) ?_ _ _ ?_
  · rintro i f σ hi ⟨h0, h5, h6, h9, htwo⟩
    by_cases hlt : i < min l.length 6
    · have hw : IntKind.i64.wrap ((i : Int) + 1) = (i : Int) + 1 := wr64 (by omega) (by omega)
      have hc1 : i < l.length := by omega
      have hc2 : (i : Int) < 6 := by omega
      have hm := List.getElem_mem hc1
      have hts := sl _ hm
      have hct := callTerm4 l[i] ((GT.oks_iff _).1 hl _ hm) (by omega)
      have hus := term_small 4 (by omega) l[i]
      have hE := callBEval e hee (termV 4 l[i]) (by omega)
      have htk : (l.take (i + 1)).map (termV 4) = (l.take i).map (termV 4) ++ [termV 4 l[i]] := by rw [take_snoc hc1, List.map_append]; rfl
      have hpl := prs_len e ((l.take i).map (termV 4))
      have hlen : ((l.take i).map (termV 4)).length = i := by simp; omega
      rw [htk, prs_snoc]
      generalize prs e ((l.take i).map (termV 4)) = ps at *
      generalize termV 4 l[i] = t at *
      have hn1 : ps.length ≤ 10000000000 := by omega
      generalize hx1 : f 7 = x1 at *
      generalize hx2 : f 8 = x2 at *
      cases hev : evalV e t with
      | none =>
        rw [hev] at hE
        simp only [List.append_nil] at htwo ⊢
        simp [hx1, hx2, h0, h5, h6, h9, hc1, hc2, hct, hE, setRun, resO, enc_mk, GT.enc_mk, hw]
        exact ⟨by omega, htwo.more _⟩
      | some x =>
        rw [hev] at hE
        simp only [List.map_append, List.map_cons, List.map_nil]
        have d1 : (ps.map (·.1)).length = ps.length := by simp
        have d2 : (ps.map (·.2)).length = ps.length := by simp
        generalize ps.map (·.1) = dt at *
        generalize ps.map (·.2) = dv at *
        rcases htwo with ⟨a1, a2, rfl, rfl⟩ | ⟨k1, k2, rfl, rfl, a1, a2, a3, a4, a5⟩
        · have hd0 : dt = [] := (GT.encs_nil _).1 a1
          have hd1 : dv = [] := (encs_nil _).1 a2
          subst hd0 hd1
          simp [hx1, hx2, h0, h5, h6, h9, hc1, hc2, hct, hE, setRun, resO, enc_mk, GT.enc_mk, hw]
          exact ⟨by omega, .inr ⟨_, _, rfl, rfl, by simp, by simp, by simp, by simp, by omega⟩⟩
        · have g1 := fun X L => List.getElem?_append_left (l₁ := σ.set k1 X) (l₂ := L) (i := k2) (by simpa using a2)
          have g2 : ∀ X, (σ.set k1 X)[k2]? = some (.tok (GV.encs dv).length 4) := fun X => by rw [List.getElem?_set_ne a5]; exact a4
          have g3 : ∀ X L Y, (σ.set k1 X ++ L).set k2 Y = (σ.set k1 X).set k2 Y ++ L := fun X L Y => List.set_append_left _ _ (by simpa using a2)
          have hn2 : dt.length ≤ 10000000000 := by omega
          have hn3 : dv.length ≤ 10000000000 := by omega
          simp only [GT.encs_length, GV.encs_length] at a3 a4 g2
          simp [hx1, hx2, h0, h5, h6, h9, hc1, hc2, hct, hE, setRun, resO, enc_mk, GT.enc_mk, hw, List.getElem?_append_left a1, a3, List.set_append_left _ _ a1, g1, g2, g3, hn2, hn3]
          exact ⟨by omega, Two.set a1 a2 a5 _ (by simp) (by simp)⟩
    · have hi' : i = min l.length 6 := by omega
      have hpm := fun p hp => prs_mem (e := e) (l := (l.take i).map (termV 4)) (p := p) hp
      have hpl := prs_len e ((l.take i).map (termV 4))
      have hlen : ((l.take i).map (termV 4)).length = i := by simp; omega
      have hsz : ∀ p ∈ prs e ((l.take i).map (termV 4)), p.1.size ≤ 1000000000 := fun p hp => by
        obtain ⟨y, _, hy⟩ := List.mem_map.1 (hpm p hp).1
        rw [← hy]; exact term_small 4 (by omega) y
      generalize prs e ((l.take i).map (termV 4)) = ps at *
      have hM0 := again_match e ps fun p hp => (hpm p hp).2
      have hus : ∀ t ∈ ps.map (·.1), t.size ≤ 1000000000 := fun t ht => by obtain ⟨p, hp, rfl⟩ := List.mem_map.1 ht; exact hsz p hp
      have hws : ∀ t ∈ ps.map (·.2), t.size ≤ 1000000000 := fun t ht => by obtain ⟨p, hp, rfl⟩ := List.mem_map.1 ht; exact evalV_size hee p.1 p.2 (hsz p hp) (hpm p hp).2
      have d1 : (ps.map (·.1)).length = ps.length := by simp
      have d2 : (ps.map (·.2)).length = ps.length := by simp
      generalize ps.map (·.1) = u at *
      generalize ps.map (·.2) = w at *
      obtain ⟨hux, hwx⟩ := htwo.lists
      have hM := fun σ => callMatchL u w e hee (by omega) hus hws (by omega) hux hwx 0 σ
      rw [hM0] at hM
      have hno : matchV u (w ++ [numV 1]) e = none := by
        unfold matchV; rw [if_neg]; rintro ⟨h, _⟩; simp at h; omega
      have hS := callSame9 e e (by omega) (fun b hb => by have := hee.2 b hb; omega)
      rw [sym_trueB] at hS
      have hb : ¬ i < l.length ∨ (i < l.length ∧ ¬ (i : Int) < 6) := by omega
      have hM3 := fun k σ => callMatchG u (w ++ [numV 1]) e hee (by omega) hus (fun t ht => by
        rcases List.mem_append.1 ht with h | h
        · exact hws t h
        · simp at h; subst h; decide) (by simp; omega) (xs := [f 7, .own k (GV.encs (w ++ [numV 1])), .isl (GB.encs e) false]) 0 (σ := σ) (σ' := σ) (by simp [closeT, hux.closed])
      rw [hno] at hM3
      have hwl : w.length ≤ 10000000000 := by omega
      generalize hx1 : f 7 = ux at *
      generalize hx2 : f 8 = wx at *
      rcases hwx with ⟨hw0, rfl⟩ | ⟨k, rfl⟩
      · have hw0 : w = [] := (encs_nil _).1 hw0
        subst hw0
        simp only [List.nil_append, encs_one] at hM3
        rcases hb with hb | ⟨hb, hb2⟩
        all_goals first
          | simp [h0, h5, h6, h9, hx1, hx2, hb, hb2, hM, hM3, resB, hS, setRun, enc_mk, app_isl_nil2, callNumber]
          | simp [h0, h5, h6, h9, hx1, hx2, hb, hM, hM3, resB, hS, setRun, enc_mk, app_isl_nil2, callNumber]
      · by_cases hw0 : w = []
        · subst hw0
          simp only [List.nil_append, encs_one] at hM3
          simp only [encs_nil'] at hM hx2
          rcases hb with hb | ⟨hb, hb2⟩
          all_goals first
            | simp [h0, h5, h6, h9, hx1, hx2, hb, hb2, hM, hM3, resB, hS, setRun, enc_mk, app_own_nil, callNumber]
            | simp [h0, h5, h6, h9, hx1, hx2, hb, hM, hM3, resB, hS, setRun, enc_mk, app_own_nil, callNumber]
        · have hap := fun σ k => app_new_own (σ := σ) (sz := 4) (bytes := 56) (k := k) (ag := true) (xs := GV.encs w) (fun e => hw0 ((encs_nil _).1 e)) (encs_okEl w) (by simpa using hwl) (by omega) (by omega)
          rcases hb with hb | ⟨hb, hb2⟩
          all_goals first
            | simp [h0, h5, h6, h9, hx1, hx2, hb, hb2, hM, hM3, resB, hS, setRun, enc_mk, hap, callNumber, hwl]
            | simp [h0, h5, h6, h9, hx1, hx2, hb, hM, hM3, resB, hS, setRun, enc_mk, hap, callNumber, hwl]
  · simp
    exact .inl ⟨rfl, rfl, rfl, rfl⟩
end Go.Proofs.Ytkjfkbblfjmnaaa
end
