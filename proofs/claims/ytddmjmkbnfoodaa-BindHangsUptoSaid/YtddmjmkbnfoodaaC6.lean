import Derived.Test.YtddmjmkbnfoodaaC5
import Derived.Test.YtddmjmkbnfoodaaChecked
import Derived.KernelRfl
import Derived.Test.YtddmjmkbnfoodaaC4
set_option linter.unusedVariables false
set_option linter.unusedSimpArgs false
set_option linter.unnecessarySimpa false
section
namespace Go.Proofs.Ytddmjmkbnfoodaa
open Go.Mach
theorem enc_mk (k n : Int) (t : ByteArray) (l : List GV) : AV.agg [.int .i64 k, .int .i64 n, .str t, .isl (GV.encs l) false] = (GV.mk k n t l).enc := by simp only [GV.enc]
theorem enc_mk0 (k n : Int) (t : ByteArray) : AV.agg [.int .i64 k, .int .i64 n, .str t, .isl [] false] = (GV.mk k n t []).enc := by simp only [GV.enc, GV.encs]
@[simp] theorem gv_eta (v : GV) : GV.mk v.kind v.num v.text v.items = v := by cases v; rfl
@[simp] theorem encs_nil' : GV.encs [] = [] := rfl
@[simp] theorem encs_one (v : GV) : GV.encs [v] = [v.enc] := rfl
@[simp] theorem encs_snoc (l : List GV) (v : GV) : GV.encs l ++ [v.enc] = GV.encs (l ++ [v]) := by simp [GV.encs_map]
@[simp] theorem encs_okEl (l : List GV) : (GV.encs l).all (okEl 4 true) = true := by
  rw [List.all_eq_true]
  intro x hx
  rw [GV.encs_map] at hx
  obtain ⟨v, _, rfl⟩ := List.mem_map.1 hx
  rw [GV.enc_eq]; rfl
def LstAt (rest : Heap) (off : Nat) (es : List AV) (sz : Nat) (lst : AV) : Prop :=
  (es = [] ∧ lst = .isl [] true) ∨ (∃ k, lst = .own (k + off) es ∧ k < rest.length ∧ rest[k]? = some (.tok es.length sz))
theorem fit_list (d : Nat) (hd : d ≤ 100) (k n : Int) (t : ByteArray) (items : List GV) (hv : (GV.mk k n t items).ok) (hl : items.length ≤ 100000000000) (hk : pickN k 4 = 3) (g : GV → GV)
    (hg : ∀ x ∈ items, ∀ bs σ, callT T 28 [(if d ≤ 1 ∧ pickN x.kind 4 = 3 then GV.mk 0 x.num x.text x.items else x).enc, .int .i64 ((d : Int) - 1)] bs σ = some ((g x).enc, σ)) :
    pureT T c28 [(GV.mk k n t items).enc, .int .i64 d] = some (GV.mk 4 0 ⟨#[]⟩ ((items.take 16).map g)).enc := by
  apply pure_enter (by simp [c28])
  simp only [GV.ok] at hv
  have hp := pick4 k hv.1
  rw [hk] at hp
  simp [c28, hp, setRun]
  refine W_for T 0 107 (min items.length 16) (fun i f σ => f 1 = .int .i64 (d : Int) ∧ f 2 = .ptr 0 0 ∧ f 4 = .ptr 1 0 ∧ f 8 = .ptr 2 0 ∧ f 9 = .int .i64 (i : Int) ∧ ∃ lst rest,
    σ = [.cells [.int .i64 k, .int .i64 n, .str t, .isl (GV.encs items) false] 0 false, .cells [.int .i64 0, .int .i64 0, .str ⟨#[]⟩, .isl [] true] 0 false, .cells [.int .i64 4, .int .i64 0, .str ⟨#[]⟩, lst] 0 false] ++ rest ∧
    LstAt rest 3 (GV.encs ((items.take i).map g)) 4 lst) ?_ _ _ ?_
  · rintro i f σ hi ⟨h1, h2, h4, h8, h9, lst, rest, rfl, hlst⟩
    by_cases hlt : i < min items.length 16
    · have hw : IntKind.i64.wrap ((i : Int) + 1) = (i : Int) + 1 := wr64 (by omega) (by omega)
      have hwd : IntKind.i64.wrap ((d : Int) - 1) = (d : Int) - 1 := wr64 (by omega) (by omega)
      have hc1 : i < items.length := by omega
      have hc2 : (i : Int) < 16 := by omega
      have hok : GV.ok items[i] := (GV.oks_iff items).1 hv.2.2 _ (List.getElem_mem hc1)
      have hpk := pick4 items[i].kind (by revert hok; cases items[i]; simp only [GV.ok]; exact fun h => h.1)
      have hcl := hg items[i] (List.getElem_mem hc1)
      have htk : (items.take (i + 1)).map g = (items.take i).map g ++ [g items[i]] := by rw [List.take_add_one, List.getElem?_eq_getElem hc1, List.map_append]; rfl
      have hlen : ((items.take i).map g).length = i := by simp; omega
      generalize (items.take i).map g = done at *
      rw [htk]
      have hdl : done.length ≤ 10000000000 := by omega
      have hown : ∀ kk X, kk < rest.length → LstAt (rest.set kk (.tok (done.length + 1) 4) ++ X) 3 (GV.encs (done ++ [g items[i]])) 4 (.own (kk + 3) (GV.encs (done ++ [g items[i]]))) := fun kk X hk => .inr ⟨kk, rfl, by simp; omega, by rw [List.getElem?_append_left (by simpa using hk)]; simp [hk]⟩
      by_cases hc3 : d ≤ 1
      · have hc4 : (d : Int) ≤ 1 := by omega
        by_cases hc6 : pickN items[i].kind 4 = 3
        · simp only [hc3, hc6, and_self, if_true] at hcl
          rcases hlst with ⟨he, rfl⟩ | ⟨kk, rfl, hkl, hkk⟩
          · have hd0 : done = [] := (encs_nil _).1 he
            simp [h1, h2, h4, h8, h9, hc1, hc2, hw, hwd, hpk, setRun, enc_mk, hc4, hcl, gv_eta, hc6]
            refine ⟨by omega, _, _, ⟨rfl, rfl⟩, .inr ⟨rest.length + 2, ?_, by simp, by simp [hd0]⟩⟩
            simp [hd0]
          · simp [h1, h2, h4, h8, h9, hc1, hc2, hw, hwd, hpk, setRun, enc_mk, hc4, hcl, gv_eta, hc6, List.getElem?_append_left hkl, hkk, List.set_append_left _ _ hkl, hdl]
            exact ⟨by omega, _, _, ⟨rfl, rfl⟩, hown kk _ hkl⟩
        · have hc5 : ¬ (d ≤ 1 ∧ pickN items[i].kind 4 = 3) := by omega
          have hc7 : ¬ ((pickN items[i].kind 4 : Int) = 3) := by omega
          simp only [if_neg hc5] at hcl
          rcases hlst with ⟨he, rfl⟩ | ⟨kk, rfl, hkl, hkk⟩
          · have hd0 : done = [] := (encs_nil _).1 he
            simp [h1, h2, h4, h8, h9, hc1, hc2, hw, hwd, hpk, setRun, enc_mk, hc4, hcl, gv_eta, hc7]
            refine ⟨by omega, _, _, ⟨rfl, rfl⟩, .inr ⟨rest.length + 2, ?_, by simp, by simp [hd0]⟩⟩
            simp [hd0]
          · simp [h1, h2, h4, h8, h9, hc1, hc2, hw, hwd, hpk, setRun, enc_mk, hc4, hcl, gv_eta, hc7, List.getElem?_append_left hkl, hkk, List.set_append_left _ _ hkl, hdl]
            exact ⟨by omega, _, _, ⟨rfl, rfl⟩, hown kk _ hkl⟩
      · have hc4 : ¬ (d : Int) ≤ 1 := by omega
        have hc5 : ¬ (d ≤ 1 ∧ pickN items[i].kind 4 = 3) := by omega
        simp only [if_neg hc5] at hcl
        rcases hlst with ⟨he, rfl⟩ | ⟨kk, rfl, hkl, hkk⟩
        · have hd0 : done = [] := (encs_nil _).1 he
          simp [h1, h2, h4, h8, h9, hc1, hc2, hw, hwd, hpk, setRun, enc_mk, hc4, hcl, gv_eta]
          refine ⟨by omega, _, _, ⟨rfl, rfl⟩, .inr ⟨rest.length + 2, ?_, by simp, by simp [hd0]⟩⟩
          simp [hd0]
        · simp [h1, h2, h4, h8, h9, hc1, hc2, hw, hwd, hpk, setRun, enc_mk, hc4, hcl, gv_eta, List.getElem?_append_left hkl, hkk, List.set_append_left _ _ hkl, hdl]
          exact ⟨by omega, _, _, ⟨rfl, rfl⟩, hown kk _ hkl⟩
    · have he : i = min items.length 16 := by omega
      have htake : items.take i = items.take 16 := by
        rw [he]
        rcases Nat.lt_or_ge items.length 16 with h | h
        · rw [List.take_of_length_le (by omega), List.take_of_length_le (by omega)]
        · rw [Nat.min_eq_right h]
      rw [htake] at hlst
      have hb : ¬ i < items.length ∨ (i < items.length ∧ ¬ (i : Int) < 16) := by omega
      rcases hb with hb | ⟨hb, hb2⟩
      · rcases hlst with ⟨he2, rfl⟩ | ⟨kk, rfl, hkl, hkk⟩
        · simp [h1, h2, h4, h8, h9, setRun, hb, GV.enc, ← List.map_take, he2]
        · simp [h1, h2, h4, h8, h9, setRun, hb, GV.enc, ← List.map_take]
      · rcases hlst with ⟨he2, rfl⟩ | ⟨kk, rfl, hkl, hkk⟩
        · simp [h1, h2, h4, h8, h9, setRun, hb, hb2, GV.enc, ← List.map_take, he2]
        · simp [h1, h2, h4, h8, h9, setRun, hb, hb2, GV.enc, ← List.map_take]
  · exact ⟨by simp, by simp, by simp, by simp, by simp, _, [], by simp, .inl ⟨by simp, rfl⟩⟩
theorem text_le (v : GV) : v.text.size ≤ v.size := by obtain ⟨k, n, t, l⟩ := v; show t.size ≤ _; simp only [GV.size]; omega
theorem items_le (v : GV) : GV.sizes v.items + 5 ≤ v.size := by obtain ⟨k, n, t, l⟩ := v; show GV.sizes l + 5 ≤ _; simp only [GV.size]; omega
theorem gv_ext (a b : GV) : a = b ↔ a.kind = b.kind ∧ a.num = b.num ∧ a.text = b.text ∧ a.items = b.items := by
  obtain ⟨k, n, t, l⟩ := a; obtain ⟨k2, n2, t2, l2⟩ := b; simp [GV.kind, GV.num, GV.text, GV.items]
theorem fit_other (d : Int) (v : GV) (hv : v.ok) (hs : v.size ≤ 100000000000) (hk : pickN v.kind 4 ≠ 3) (dd : Nat) : pureT T c28 [v.enc, .int .i64 d] = some (fitV dd v).enc := by
  have hlt := pickN_lt (c := v.kind) (n := 4) (by omega)
  have hts : v.text.size ≤ 100000000000 := Nat.le_trans (text_le v) hs
  have hkk : GV.i64ok v.kind ∧ GV.i64ok v.num := by revert hv; cases v; simp only [GV.ok]; exact fun h => ⟨h.1, h.2.1⟩
  have hp := pick4 v.kind hkk.1
  have hpm := pickM v.num hkk.2
  have hn := lawName v.text hts
  have hm := pickN_lt (c := v.num) (n := 4294967295) (by omega)
  have hw : IntKind.i64.wrap ((pickN v.num 4294967295 : Int) - 2147483647) = (pickN v.num 4294967295 : Int) - 2147483647 := wr64 (by omega) (by omega)
  have hcase : pickN v.kind 4 = 0 ∨ pickN v.kind 4 = 1 ∨ pickN v.kind 4 = 2 := by omega
  rcases hcase with h | h | h
  · rw [h] at hp
    apply pure_enter (by simp [c28])
    cases dd <;> simp [c28, hp, hpm, hw, setRun, fitV, h, GV.enc]
  · have := fit_text d v hv hts h
    rw [this]
    cases dd <;> simp [fitV, h]
  · rw [h] at hp
    apply pure_enter (by simp [c28])
    cases dd <;> simp [c28, hp, hn, setRun, fitV, h, GV.enc]
theorem fit_ok : ∀ (d : Nat) (v : GV), d ≤ 100 → v.ok → v.size ≤ 100000000000 → (d = 0 → pickN v.kind 4 ≠ 3) → pureT T c28 [v.enc, .int .i64 d] = some (fitV d v).enc := by
  intro d
  induction d with
  | zero => intro v hd hv hs h0; exact fit_other _ v hv hs (h0 rfl) 0
  | succ d ih =>
    intro v hd hv hs _
    by_cases hk : pickN v.kind 4 = 3
    · obtain ⟨k, n, t, items⟩ := v
      have hk' : pickN k 4 = 3 := hk
      have hv' := hv
      simp only [GV.ok] at hv'
      have hs' := hs
      simp only [GV.size] at hs'
      have hl := len_sizes items
      rw [fit_list (d + 1) hd k n t items hv (by omega) hk' (fun x => fitV d (if d = 0 ∧ pickN x.kind 4 = 3 then .mk 0 x.num x.text x.items else x)) (fun x hx bs σ => ?_)]
      · simp only [fitV]
        rw [if_neg (by show ¬ pickN k 4 = 0; omega), if_neg (by show ¬ pickN k 4 = 1; omega), if_neg (by show ¬ pickN k 4 = 2; omega)]
      · have hxo : x.ok := (GV.oks_iff items).1 hv'.2.2 x hx
        have hxs := (sizes_mem hx).1
        have e : (((d + 1 : Nat) : Int) - 1) = (d : Int) := by omega
        rw [e]
        have hcond : (d + 1 ≤ 1 ∧ pickN x.kind 4 = 3) ↔ (d = 0 ∧ pickN x.kind 4 = 3) := by omega
        simp only [hcond]
        refine call_clean rfl rfl rfl (by simp) (ih _ (by omega) ?_ ?_ ?_)
        · split
          · revert hxo; cases x; simp only [GV.ok]; exact fun h => ⟨by simp [GV.i64ok], h.2.1, h.2.2⟩
          · exact hxo
        · split
          · have : (GV.mk 0 x.num x.text x.items).size = x.size := by cases x; simp only [GV.size]
            omega
          · omega
        · intro h0
          split
          · show pickN 0 4 ≠ 3; decide
          · rename_i hc; intro h3; exact hc ⟨h0, h3⟩
    · exact fit_other _ v hv hs hk (d + 1)
def fit (v : GV) : GV := fitV 4 v
theorem Fit_ok (v : GV) (hv : v.ok) (hs : v.size ≤ 100000000000) : pureT T c15 [v.enc] = some (fit v).enc := by
  have hr : ∀ bs σ, callT T 28 [v.enc, .int .i64 4] bs σ = some ((fit v).enc, σ) := fun bs σ => call_clean rfl rfl rfl (by simp) (fit_ok 4 v (by omega) hv hs (by omega))
  apply pure_enter (by simp [c15])
  simp [c15, hr, setRun, enc_mk]
theorem callFit (v : GV) (hv : v.ok) (hs : v.size ≤ 100000000000) (bs : Nat) (σ : Heap) : callT T 15 [v.enc] bs σ = some ((fit v).enc, σ) := call_clean rfl rfl rfl (by simp) (Fit_ok v hv hs)
mutual
def sameV : GV → GV → Bool
  | .mk k n t l, b => decide (k = b.kind) && decide (n = b.num) && decide (t = b.text) && sameVs l b.items
def sameVs : List GV → List GV → Bool
  | [], [] => true
  | x :: xs, y :: ys => sameV x y && sameVs xs ys
  | _, _ => false
end
mutual
theorem sameV_iff : ∀ a b : GV, sameV a b = true ↔ a = b
  | .mk k n t l, .mk k2 n2 t2 l2 => by
    have := sameVs_iff l l2
    simp [sameV, this, and_assoc]
theorem sameVs_iff : ∀ a b : List GV, sameVs a b = true ↔ a = b
  | [], [] => by simp [sameVs]
  | [], _ :: _ => by simp [sameVs]
  | _ :: _, [] => by simp [sameVs]
  | x :: xs, y :: ys => by
    have h1 := sameV_iff x y
    have h2 := sameVs_iff xs ys
    simp [sameVs, h1, h2]
end
instance : DecidableEq GV := fun a b => decidable_of_iff _ (sameV_iff a b)
theorem values_ok (l l2 : List GV) (hl : l.length ≤ 100000000000) (hc : ∀ x ∈ l, ∀ y ∈ l2, ∀ bs σ, callT T 9 [x.enc, y.enc] bs σ = some (.bool (sym (decide (x = y))), σ)) :
    pureT T c22 [.isl (GV.encs l) false, .isl (GV.encs l2) false] = some (.bool (decide (l = l2))) := by
  apply pure_enter (by simp [c22])
  by_cases hlen : l.length = l2.length
  · simp [c22, hlen]
    refine W_for T 0 29 l.length (fun i f σ => f 0 = .isl (GV.encs l) false ∧ f 1 = .isl (GV.encs l2) false ∧ f 5 = .int .i64 (i : Int) ∧ σ = [] ∧ ∀ j, (h1 : j < l.length) → (h2 : j < l2.length) → j < i → l[j] = l2[j]) ?_ _ _ ?_
    · rintro i f σ hi ⟨h0, h1, h5, rfl, hall⟩
      by_cases hlt : i < l.length
      · have hlt2 : i < l2.length := by omega
        have hw : IntKind.i64.wrap ((i : Int) + 1) = (i : Int) + 1 := wr64 (by omega) (by omega)
        have hcl := hc l[i] (List.getElem_mem hlt) l2[i] (List.getElem_mem hlt2)
        simp [h0, h1, h5, hlt, hlt2, hw, hcl]
        refine ⟨fun h j h1 h2 hj => ?_, fun h e => ?_⟩
        · by_cases e : j = i
          · subst e; exact h
          · exact hall j h1 h2 (by omega)
        · subst e; exact h rfl
      · have he : i = l.length := by omega
        subst he
        simp [h0, h1, h5]
        exact List.ext_getElem hlen fun j h1 h2 => hall j h1 h2 h1
    · simp
  · have hne : ¬ l = l2 := fun e => hlen (by rw [e])
    have hlen' : ¬ (l.length : Int) = (l2.length : Int) := by omega
    simp [c22, hlen', hne]
theorem same_ok : ∀ (n : Nat) (a b : GV), a.size ≤ n → n ≤ 100000000000 → pureT T c9 [a.enc, b.enc] = some (.bool (decide (a = b))) := by
  intro n
  induction n with
  | zero => intro a b h; cases a; simp [GV.size] at h
  | succ n ih =>
    intro a b hs hn
    have hl : GV.sizes a.items ≤ n := by have := items_le a; omega
    have hlen := len_sizes a.items
    have hv : ∀ bs σ, callT T 22 [.isl (GV.encs a.items) false, .isl (GV.encs b.items) false] bs σ = some (.bool (sym (decide (a.items = b.items))), σ) := fun bs σ =>
      call_clean rfl rfl rfl (by simp) (values_ok a.items b.items (by omega) fun x hx y hy bs σ => call_clean rfl rfl rfl (by simp) (ih x y (by have := (sizes_mem hx).1; omega) (by omega)))
    apply pure_enter (by simp [c9])
    simp [c9, hv, setRun, enc_mk]
    have := gv_ext a b
    grind
theorem callSame (a b : GV) (hs : a.size ≤ 100000000000) (bs : Nat) (σ : Heap) : callT T 9 [a.enc, b.enc] bs σ = some (.bool (sym (decide (a = b))), σ) := call_clean rfl rfl rfl (by simp) (same_ok a.size a b (Nat.le_refl _) hs)
end Go.Proofs.Ytddmjmkbnfoodaa
end
section
namespace Go.Proofs.Ytddmjmkbnfoodaa
open Go.Mach
theorem ba_list (t : ByteArray) (l : List UInt8) (h : t = ⟨l.toArray⟩) : t.data.toList = l ∧ t.size = l.length := by
  subst h; exact ⟨rfl, by show l.toArray.size = _; rw [List.size_toArray]⟩
theorem nameC_inner (b : UInt8) : innerB (nameC b).toNat = true := by
  have hb := b.toNat_lt
  generalize hk : b.toNat % 37 = k
  have hk37 : k < 37 := by omega
  simp only [nameC, hk]
  split
  · rw [UInt8.toNat_ofNat', Nat.mod_eq_of_lt (by omega)]; simp [innerB, letterB]; omega
  · split
    · rw [UInt8.toNat_ofNat', Nat.mod_eq_of_lt (by omega)]; simp [innerB, letterB]; omega
    · decide
theorem nameFit_list (s : ByteArray) : (nameFit s).data.toList = 110 :: (s.data.toList.take 15).map nameC ∧ (nameFit s).size = (110 :: (s.data.toList.take 15).map nameC : List UInt8).length := ba_list _ _ rfl
theorem nameFit_ok (s : ByteArray) : nameOK (nameFit s) = true := by
  obtain ⟨h1, h2⟩ := nameFit_list s
  simp only [nameOK, h1, h2, nameL, Bool.and_eq_true, decide_eq_true_eq, List.all_eq_true, List.length_cons, List.length_map, List.length_take]
  refine ⟨⟨by decide, fun c hc => ?_⟩, by omega⟩
  obtain ⟨b, _, rfl⟩ := List.mem_map.1 hc
  exact nameC_inner b
theorem nameFit_size (s : ByteArray) : 1 ≤ (nameFit s).size ∧ (nameFit s).size ≤ 16 := by
  rw [(nameFit_list s).2]
  simp only [List.length_cons, List.length_map, List.length_take]
  omega
theorem textC_plain (b : UInt8) : plainB (textC b).toNat = true := by
  generalize hk : b.toNat % 95 = k
  have hk37 : k < 95 := by omega
  simp only [textC, hk]
  split
  · decide
  · rw [UInt8.toNat_ofNat', Nat.mod_eq_of_lt (by omega)]; simp [plainB]; omega
theorem textFit_ok (s : ByteArray) : textOK (textFit s) = true := by
  obtain ⟨h1, h2⟩ := ba_list (textFit s) _ rfl
  simp only [textOK, h1, h2, Bool.and_eq_true, decide_eq_true_eq, List.all_eq_true, List.length_map, List.length_take]
  refine ⟨fun c hc => ?_, by omega⟩
  obtain ⟨b, _, rfl⟩ := List.mem_map.1 hc
  exact textC_plain b
theorem rb1 (m : Nat) (h : m < 4294967295) (lst : Bool) : rightB (.mk 1 ((m : Int) - 2147483647) ⟨#[]⟩ []) lst = true := by
  simp [rightB, GV.kind, GV.num, GV.text, GV.items]; omega
theorem rb2 (t : ByteArray) (h : textOK t = true) (lst : Bool) : rightB (.mk 2 0 t []) lst = true := by
  simp [rightB, GV.kind, GV.num, GV.text, GV.items, h]
theorem rb3 (t : ByteArray) (h : nameOK t = true) (lst : Bool) : rightB (.mk 3 0 t []) lst = true := by
  simp [rightB, GV.kind, GV.num, GV.text, GV.items, h]
theorem rb4 (l : List GV) (lst : Bool) (h : lst = true) : rightB (.mk 4 0 ⟨#[]⟩ l) lst = true := by
  simp [rightB, GV.kind, GV.num, GV.text, GV.items, h]
theorem rb_right (d : Nat) (v : GV) (h : ∀ lst, rightB v lst = true) : rightV d v = true := by cases d <;> exact h _
theorem fitV_right : ∀ (d : Nat) (v : GV), (d = 0 → pickN v.kind 4 ≠ 3) → rightV d (fitV d v) = true := by
  intro d
  induction d with
  | zero =>
    intro v h0
    have hlt := pickN_lt (c := v.kind) (n := 4) (by omega)
    have hm := pickN_lt (c := v.num) (n := 4294967295) (by omega)
    have h3 := h0 rfl
    unfold fitV
    by_cases h0 : pickN v.kind 4 = 0
    · rw [if_pos h0]; exact rb_right _ _ (rb1 _ hm)
    · rw [if_neg h0]
      by_cases h1 : pickN v.kind 4 = 1
      · rw [if_pos h1]; exact rb_right _ _ (rb2 _ (textFit_ok _))
      · have h2 : pickN v.kind 4 = 2 := by omega
        rw [if_neg h1, if_pos h2]; exact rb_right _ _ (rb3 _ (nameFit_ok _))
  | succ d ih =>
    intro v _
    have hm := pickN_lt (c := v.num) (n := 4294967295) (by omega)
    unfold fitV
    by_cases h0 : pickN v.kind 4 = 0
    · rw [if_pos h0]; exact rb_right _ _ (rb1 _ hm)
    · rw [if_neg h0]
      by_cases h1 : pickN v.kind 4 = 1
      · rw [if_pos h1]; exact rb_right _ _ (rb2 _ (textFit_ok _))
      · rw [if_neg h1]
        by_cases h2 : pickN v.kind 4 = 2
        · rw [if_pos h2]; exact rb_right _ _ (rb3 _ (nameFit_ok _))
        · rw [if_neg h2]
          refine rb4 _ _ (decide_eq_true ⟨by simp; omega, ?_⟩)
          show ((v.items.take 16).map _).all (rightV d) = true
          rw [List.all_eq_true]
          intro x hx
          obtain ⟨y, _, rfl⟩ := List.mem_map.1 hx
          refine ih _ fun h0 => ?_
          split
          · show pickN 0 4 ≠ 3; decide
          · rename_i hc; intro h3; exact hc ⟨h0, h3⟩
theorem fit_right (v : GV) : rightT (fit v) = true := fitV_right 4 v (by omega)
def maxSize : Nat → Nat
  | 0 => 42
  | d + 1 => 42 + 16 * maxSize d
theorem sizes_le {l : List GV} {m : Nat} (h : ∀ x ∈ l, x.size ≤ m) : GV.sizes l ≤ l.length * m := by
  induction l with
  | nil => simp [GV.sizes]
  | cons x l ih =>
    have h1 := h x (by simp)
    have h2 := ih fun y hy => h y (by simp [hy])
    simp only [GV.sizes, List.length_cons, Nat.add_mul]; omega
theorem right_size : ∀ (d : Nat) (v : GV), rightV d v = true → v.size ≤ maxSize d := by
  have base : ∀ (v : GV) (lst : Bool), rightB v lst = true → (lst = true → GV.sizes v.items ≤ 16 * 0 + GV.sizes v.items) → v.size ≤ 42 + (if v.kind = 4 ∧ lst = true then GV.sizes v.items else 0) := by
    intro v lst h _
    obtain ⟨k, n, t, l⟩ := v
    simp only [rightB, GV.kind, GV.num, GV.text, GV.items] at h
    simp only [GV.size, GV.kind, GV.items]
    have hnil : l = [] → GV.sizes l = 0 := fun e => by subst e; rfl
    by_cases h1 : k = 1
    · rw [if_pos h1, decide_eq_true_eq] at h; have := hnil h.2.1; have ht : t.size = 0 := by rw [h.1]; rfl
      omega
    · rw [if_neg h1] at h
      by_cases h2 : k = 2
      · rw [if_pos h2, decide_eq_true_eq] at h; have := hnil h.2.1; have := ((textOK_iff t).1 h.2.2).2; omega
      · rw [if_neg h2] at h
        by_cases h3 : k = 3
        · rw [if_pos h3, decide_eq_true_eq] at h; have := hnil h.2.1; have := ((nameOK_iff t).1 h.2.2).2.2; omega
        · rw [if_neg h3] at h
          by_cases h4 : k = 4
          · rw [if_pos h4, decide_eq_true_eq] at h
            have ht : t.size = 0 := by rw [h.2.1]; rfl
            rw [if_pos ⟨h4, h.2.2⟩]; omega
          · rw [if_neg h4] at h; cases h
  intro d
  induction d with
  | zero =>
    intro v h
    have := base v false h (fun h => by cases h)
    simp only [Bool.false_eq_true, and_false, if_false] at this
    simpa [maxSize] using this
  | succ d ih =>
    intro v h
    have hb := base v _ h (fun _ => by omega)
    simp only [maxSize]
    split at hb
    · rename_i hc
      have hl := hc.2
      rw [decide_eq_true_eq] at hl
      have hs := sizes_le (l := v.items) (m := maxSize d) fun x hx => ih x (List.all_eq_true.1 hl.2 x hx)
      have : v.items.length * maxSize d ≤ 16 * maxSize d := Nat.mul_le_mul_right _ hl.1
      omega
    · omega
theorem rightT_size {v : GV} (h : rightT v = true) : v.size ≤ 2936010 := Nat.le_trans (right_size 4 v h) (by decide)
theorem fit_size (v : GV) : (fit v).size ≤ 2936010 := rightT_size (fit_right v)
end Go.Proofs.Ytddmjmkbnfoodaa
end
section
namespace Go.Mach
inductive GT where
  | mk (kind : Int) (name : ByteArray) (value : GV) (args : List GT)
  deriving Inhabited
namespace GT
abbrev kind : GT → Int | .mk k _ _ _ => k
abbrev name : GT → ByteArray | .mk _ n _ _ => n
abbrev value : GT → GV | .mk _ _ v _ => v
abbrev args : GT → List GT | .mk _ _ _ l => l
mutual
def enc : GT → AV
  | .mk k n v l => .agg [.int .i64 k, .str n, .int .i64 v.kind, .int .i64 v.num, .str v.text, .isl (GV.encs v.items) false, .isl (encs l) false]
def encs : List GT → List AV
  | [] => []
  | v :: l => enc v :: encs l
end
theorem encs_map : ∀ l : List GT, encs l = l.map enc
  | [] => rfl
  | v :: l => by simp only [encs, List.map_cons, encs_map l]
@[simp] theorem encs_length (l : List GT) : (encs l).length = l.length := by simp [encs_map]
@[simp] theorem encs_get (l : List GT) (i : Nat) : (encs l)[i]? = l[i]?.map enc := by simp [encs_map]
@[simp] theorem encs_getE (l : List GT) (i : Nat) (h : i < (encs l).length) : (encs l)[i] = (l[i]'(by simpa using h)).enc := by simp [encs_map]
theorem encs_nil (l : List GT) : encs l = [] ↔ l = [] := by cases l <;> simp [encs]
@[simp] theorem encs_nil' : encs [] = [] := rfl
@[simp] theorem encs_one (v : GT) : encs [v] = [v.enc] := rfl
@[simp] theorem encs_snoc (l : List GT) (v : GT) : encs l ++ [v.enc] = encs (l ++ [v]) := by simp [encs_map]
@[simp] theorem eta (v : GT) : GT.mk v.kind v.name v.value v.args = v := by cases v; rfl
theorem enc_eq (v : GT) : v.enc = .agg [.int .i64 v.kind, .str v.name, .int .i64 v.value.kind, .int .i64 v.value.num, .str v.value.text, .isl (GV.encs v.value.items) false, .isl (encs v.args) false] := by cases v; simp only [enc]
theorem enc_mk (k : Int) (n : ByteArray) (vk vn : Int) (vt : ByteArray) (vl : List GV) (l : List GT) :
    AV.agg [.int .i64 k, .str n, .int .i64 vk, .int .i64 vn, .str vt, .isl (GV.encs vl) false, .isl (encs l) false] = (GT.mk k n (.mk vk vn vt vl) l).enc := by simp only [enc]
@[simp] theorem enc_cells (v : GT) : v.enc.cells = [.int .i64 v.kind, .str v.name, .int .i64 v.value.kind, .int .i64 v.value.num, .str v.value.text, .isl (GV.encs v.value.items) false, .isl (encs v.args) false] := by rw [enc_eq]; rfl
@[simp] theorem enc_solid (v : GT) : v.enc.solid = true := by rw [enc_eq]; rfl
@[simp] theorem enc_head (v : GT) (xs : List AV) : headYld (v.enc :: xs) = false := by rw [enc_eq]; rfl
@[simp] theorem enc_clean (v : GT) : v.enc.clean = true := by rw [enc_eq]; rfl
@[simp] theorem enc_closeA (σ : Heap) (v : GT) : closeA σ v.enc = some (v.enc, σ) := (clean_close (by simp)).1
@[simp] theorem enc_closeR (σ : Heap) (v : GT) : closeR σ v.enc = some (v.enc, σ) := by rw [enc_eq]; rfl
@[simp] theorem enc_datR (v : GT) : v.enc.datR = true := by rw [enc_eq]; rfl
@[simp] theorem enc_dat (v : GT) : v.enc.dat = true := by rw [enc_eq]; rfl
@[simp] theorem enc_clo (v : GT) : v.enc.clo = true := by rw [enc_eq]; rfl
@[simp] theorem encs_okEl (l : List GT) : (encs l).all (okEl 7 true) = true := by
  rw [List.all_eq_true]
  intro x hx
  rw [encs_map] at hx
  obtain ⟨v, _, rfl⟩ := List.mem_map.1 hx
  rw [enc_eq]; rfl
mutual
def ok : GT → Prop
  | .mk k _ v l => GV.i64ok k ∧ v.ok ∧ oks l
def oks : List GT → Prop
  | [] => True
  | v :: l => ok v ∧ oks l
end
theorem oks_iff : ∀ l : List GT, oks l ↔ ∀ v ∈ l, ok v
  | [] => by simp [oks]
  | v :: l => by simp [oks, oks_iff l]
mutual
def size : GT → Nat
  | .mk k n v l => n.size + v.size + sizes l + 3
def sizes : List GT → Nat
  | [] => 0
  | v :: l => size v + sizes l
end
mutual
theorem bulk_enc : ∀ v : GT, bulkA v.enc = v.size
  | .mk k n v l => by
    have h := bulk_encs l
    have h2 := GV.bulk_enc v
    rw [GV.enc_eq] at h2
    simp only [enc, bulkA, bulkAs, size, h] at h2 ⊢; omega
theorem bulk_encs : ∀ l : List GT, bulkAs (encs l) = sizes l
  | [] => by simp [encs, bulkAs, sizes]
  | v :: l => by
    have h1 := bulk_enc v
    have h2 := bulk_encs l
    simp only [encs, bulkAs, sizes, h1, h2]
end
theorem sizes_mem {l : List GT} {x : GT} (h : x ∈ l) : x.size + 5 ≤ GT.sizes l + 5 ∧ l.length ≤ GT.sizes l := by
  induction l with
  | nil => cases h
  | cons y l ih =>
    have hy : 5 ≤ y.size := by obtain ⟨k, n, v, l⟩ := y; cases v; simp [GT.size, GV.size]; omega
    rcases List.mem_cons.1 h with rfl | h
    · refine ⟨by simp [GT.sizes], ?_⟩
      have : ∀ l : List GT, l.length ≤ GT.sizes l := fun l => by
        induction l with
        | nil => simp [GT.sizes]
        | cons z l ih => have : 5 ≤ z.size := (by obtain ⟨k, n, v, l⟩ := z; cases v; simp [GT.size, GV.size]; omega); simp [GT.sizes]; omega
      have := this l
      simp [GT.sizes]; omega
    · obtain ⟨h1, h2⟩ := ih h
      simp [GT.sizes]; omega
theorem len_sizes (l : List GT) : l.length ≤ GT.sizes l := by
  cases l with
  | nil => simp
  | cons x l => exact (sizes_mem (List.mem_cons_self (a := x) (l := l))).2
theorem name_le (v : GT) : v.name.size ≤ v.size := by obtain ⟨k, n, t, l⟩ := v; show n.size ≤ _; simp only [GT.size]; omega
theorem value_le (v : GT) : v.value.size ≤ v.size := by obtain ⟨k, n, t, l⟩ := v; show t.size ≤ _; simp only [GT.size]; omega
theorem args_le (v : GT) : GT.sizes v.args + 3 ≤ v.size := by obtain ⟨k, n, t, l⟩ := v; show GT.sizes l + 3 ≤ _; simp only [GT.size]; omega
end GT
structure GB where
  name : ByteArray
  value : GV
  deriving Inhabited
namespace GB
def enc (b : GB) : AV := .agg [.str b.name, .int .i64 b.value.kind, .int .i64 b.value.num, .str b.value.text, .isl (GV.encs b.value.items) false]
def encs (l : List GB) : List AV := l.map enc
@[simp] theorem encs_length (l : List GB) : (encs l).length = l.length := by simp [encs]
@[simp] theorem encs_get (l : List GB) (i : Nat) : (encs l)[i]? = l[i]?.map enc := by simp [encs]
@[simp] theorem encs_getE (l : List GB) (i : Nat) (h : i < (encs l).length) : (encs l)[i] = (l[i]'(by simpa using h)).enc := by simp [encs]
theorem encs_nil (l : List GB) : encs l = [] ↔ l = [] := by cases l <;> simp [encs]
@[simp] theorem encs_nil' : encs [] = [] := rfl
@[simp] theorem encs_one (v : GB) : encs [v] = [v.enc] := rfl
@[simp] theorem encs_snoc (l : List GB) (v : GB) : encs l ++ [v.enc] = encs (l ++ [v]) := by simp [encs]
theorem enc_mk (n : ByteArray) (vk vn : Int) (vt : ByteArray) (vl : List GV) :
    AV.agg [.str n, .int .i64 vk, .int .i64 vn, .str vt, .isl (GV.encs vl) false] = (GB.mk n (.mk vk vn vt vl)).enc := rfl
@[simp] theorem enc_cells (b : GB) : b.enc.cells = [.str b.name, .int .i64 b.value.kind, .int .i64 b.value.num, .str b.value.text, .isl (GV.encs b.value.items) false] := rfl
@[simp] theorem enc_solid (v : GB) : v.enc.solid = true := rfl
@[simp] theorem enc_head (v : GB) (xs : List AV) : headYld (v.enc :: xs) = false := by cases v; rfl
@[simp] theorem enc_clean (v : GB) : v.enc.clean = true := rfl
@[simp] theorem enc_closeA (σ : Heap) (v : GB) : closeA σ v.enc = some (v.enc, σ) := (clean_close (by simp)).1
@[simp] theorem enc_closeR (σ : Heap) (v : GB) : closeR σ v.enc = some (v.enc, σ) := rfl
@[simp] theorem enc_datR (v : GB) : v.enc.datR = true := rfl
@[simp] theorem enc_dat (v : GB) : v.enc.dat = true := rfl
@[simp] theorem enc_clo (v : GB) : v.enc.clo = true := rfl
@[simp] theorem encs_okEl (l : List GB) : (encs l).all (okEl 5 true) = true := by
  rw [List.all_eq_true]
  intro x hx
  obtain ⟨v, _, rfl⟩ := List.mem_map.1 hx
  rfl
def size (b : GB) : Nat := b.name.size + b.value.size + 1
def ok (b : GB) : Prop := b.value.ok
theorem bulk_enc (b : GB) : bulkA b.enc = b.size := by
  have h2 := GV.bulk_enc b.value
  rw [GV.enc_eq] at h2
  simp only [enc, bulkA, bulkAs, size] at h2 ⊢; omega
theorem size_mem {l : List GB} {b : GB} (h : b ∈ l) : b.size ≤ bulkAs (encs l) := by
  induction l with
  | nil => cases h
  | cons c l ih =>
    simp only [encs, List.map_cons, bulkAs]
    have e := bulk_enc c
    rcases List.mem_cons.1 h with rfl | h
    · omega
    · have := ih h; simp only [encs] at this; omega
theorem len_le (l : List GB) : l.length ≤ bulkAs (encs l) := by
  induction l with
  | nil => simp
  | cons c l ih =>
    simp only [encs, List.map_cons, bulkAs, List.length_cons] at ih ⊢
    have e := bulk_enc c
    have : 1 ≤ c.size := by simp only [size]; omega
    omega
end GB
end Go.Mach
end
section
namespace Go.Mach
theorem setRun_take : ∀ (vs cs : List AV) (o : Nat), o + vs.length ≤ cs.length → setRun cs o vs = cs.take o ++ vs ++ cs.drop (o + vs.length)
  | [], cs, o, h => by simp [setRun]
  | v :: vs, cs, o, h => by
    simp only [List.length_cons] at h
    rw [setRun, setRun_take vs _ _ (by simp; omega)]
    rw [List.take_set, List.take_add_one, List.drop_set]
    have h1 : o < cs.length := by omega
    rw [if_pos (by omega)]
    simp only [List.getElem?_eq_getElem h1, Option.toList_some, List.length_cons]
    rw [List.set_append_right _ _ (by simp; omega)]
    simp only [List.length_take, Nat.min_eq_left (Nat.le_of_lt h1), Nat.sub_self, List.set_cons_zero]
    rw [show o + 1 + vs.length = o + (vs.length + 1) by omega]
    simp
theorem flat_cons (x : AV) (es : List AV) : flat (x :: es) = x.cells ++ flat es := by simp [flat]
theorem flat_len {s : Nat} : ∀ {es : List AV}, (∀ e ∈ es, e.cells.length = s) → (flat es).length = es.length * s
  | [], _ => by simp [flat]
  | x :: es, h => by
    rw [flat_cons, List.length_append, flat_len fun e he => h e (by simp [he]), h x (by simp), List.length_cons, Nat.add_mul]; omega
theorem flat_win {s : Nat} : ∀ {es : List AV} {i : Nat} (hi : i < es.length), (∀ e ∈ es, e.cells.length = s) → window (flat es) (i * s) s = some es[i].cells
  | x :: es, 0, hi, h => by
    have hx := h x (by simp)
    unfold window
    rw [flat_cons, if_pos (by simp; omega)]
    simp only [Nat.zero_mul, List.drop_zero, List.getElem_cons_zero]
    rw [List.take_append_of_le_length (by omega), List.take_of_length_le (by omega)]
  | x :: es, i + 1, hi, h => by
    have hx := h x (by simp)
    have hi' : i < es.length := by simpa using hi
    have ih := flat_win hi' (fun e he => h e (by simp [he]))
    have hl : (flat es).length = es.length * s := flat_len (fun e he => h e (List.mem_cons_of_mem _ he))
    unfold window at ih ⊢
    split at ih
    · rename_i hc
      rw [flat_cons, if_pos (by simp; rw [Nat.add_mul]; omega)]
      injection ih with ih
      rw [List.getElem_cons_succ, ← ih]
      have e : (i + 1) * s = x.cells.length + i * s := by rw [Nat.add_mul]; omega
      rw [e, List.drop_append, List.drop_of_length_le (by omega), List.nil_append, Nat.add_sub_cancel_left]
    · cases ih
theorem flat_set {s : Nat} {v : AV} (hv : v.cells.length = s) : ∀ {es : List AV} {i : Nat} (hi : i < es.length), (∀ e ∈ es, e.cells.length = s) → setRun (flat es) (i * s) v.cells = flat (es.set i v)
  | x :: es, 0, hi, h => by
    have hx := h x (by simp)
    rw [setRun_take _ _ _ (by rw [flat_cons]; simp; omega), flat_cons, List.set_cons_zero, flat_cons]
    simp only [Nat.zero_mul, List.take_zero, List.nil_append, Nat.zero_add]
    rw [List.drop_append, List.drop_of_length_le (by omega), hv, hx]; simp
  | x :: es, i + 1, hi, h => by
    have hx := h x (by simp)
    have hi' : i < es.length := by simpa using hi
    have ih := flat_set hv hi' (fun e he => h e (by simp [he]))
    have hl : (flat es).length = es.length * s := flat_len (fun e he => h e (List.mem_cons_of_mem _ he))
    have hle : i * s + s ≤ es.length * s := by rw [← Nat.succ_mul]; exact Nat.mul_le_mul_right _ hi'
    have hl' : (flat es).length = es.length * s := flat_len fun e he => h e (by simp [he])
    rw [setRun_take _ _ _ (by omega)] at ih
    rw [setRun_take _ _ _ (by rw [flat_cons, List.length_append, hl, Nat.add_mul]; omega), flat_cons, List.set_cons_succ, flat_cons, ← ih]
    have e : (i + 1) * s = x.cells.length + i * s := by rw [Nat.add_mul]; omega
    rw [e, List.take_append, List.drop_append]
    simp only [List.append_assoc]
    rw [List.take_of_length_le (by omega), List.drop_of_length_le (by omega)]
    simp only [List.nil_append]
    congr 2
    · rw [Nat.add_sub_cancel_left]
    · congr 2
      omega
theorem flat_chunk {s : Nat} : ∀ {es : List AV}, (∀ e ∈ es, ∃ cs, e = .agg cs ∧ cs.length = s) → chunk s true es.length (flat es) = some es
  | [], _ => rfl
  | x :: es, h => by
    obtain ⟨cs, rfl, hl⟩ := h x (by simp)
    have ih := flat_chunk (es := es) (fun e he => h e (List.mem_cons_of_mem _ he))
    simp only [List.length_cons, chunk]
    rw [flat_cons]
    show ((mk true ((cs ++ flat es).take s)).bind _) = _
    rw [List.take_append_of_le_length (by omega), List.take_of_length_le (by omega)]
    show ((chunk s true es.length ((cs ++ flat es).drop s)).map _) = _
    rw [List.drop_append, List.drop_of_length_le (by omega), hl, Nat.sub_self, List.drop_zero, List.nil_append, ih]; rfl
theorem encsV_len (l : List GV) : ∀ e ∈ GV.encs l, e.cells.length = 4 := fun e he => by
  rw [GV.encs_map] at he; obtain ⟨v, _, rfl⟩ := List.mem_map.1 he; simp
theorem encsV_agg (l : List GV) : ∀ e ∈ GV.encs l, ∃ cs, e = .agg cs ∧ cs.length = 4 := fun e he => by
  rw [GV.encs_map] at he; obtain ⟨v, _, rfl⟩ := List.mem_map.1 he; exact ⟨_, GV.enc_eq v, rfl⟩
def clo1n : AV → Bool
  | .isl _ true => false
  | x => x.clo1
theorem clo1n_all {l : List AV} (h : l.all clo1n = true) : l.all AV.clo1 = true ∧ l.map AV.nrm = l := by
  induction l with
  | nil => exact ⟨rfl, rfl⟩
  | cons x l ih =>
    simp only [List.all_cons, Bool.and_eq_true] at h
    obtain ⟨h1, h2⟩ := ih h.2
    have hx : x.clo1 = true ∧ x.nrm = x := by
      have := h.1
      cases x <;> first | exact ⟨rfl, rfl⟩ | (cases this; done) | skip
      rename_i es c
      cases c
      · exact ⟨rfl, rfl⟩
      · cases this
    exact ⟨by simp [h1, hx.1], by simp only [List.map_cons, hx.2, h2]⟩
theorem encsV_clo (l : List GV) : (flat (GV.encs l)).all clo1n = true := by
  rw [List.all_eq_true]; intro x hx
  obtain ⟨e, he, hxe⟩ := List.mem_flatMap.1 hx
  rw [GV.encs_map] at he; obtain ⟨v, _, rfl⟩ := List.mem_map.1 he
  rw [GV.enc_cells] at hxe
  simp at hxe; rcases hxe with rfl | rfl | rfl | rfl <;> rfl
theorem close1_flat {σ : Heap} {id s fz : Nat} {ext : Bool} {es : List AV} (h : σ[id]? = some (.cells (flat es) fz ext)) (hne : es ≠ []) (ha : ∀ e ∈ es, ∃ cs, e = .agg cs ∧ cs.length = s) (hc : (flat es).all clo1n = true) :
    close1 σ (.sl id 0 es.length s true) = some (.isl es false, frz σ id (es.length * s)) := by
  have hl : ∀ e ∈ es, e.cells.length = s := fun e he => by obtain ⟨cs, rfl, hl⟩ := ha e he; exact hl
  have h0 : es.length ≠ 0 := fun e => hne (List.eq_nil_of_length_eq_zero e)
  apply close1_of0
  simp only [close0, if_neg h0, h]
  rw [window_full (flat_len hl), Option.bind_some, if_pos (clo1n_all hc).1, (clo1n_all hc).2, flat_chunk ha]
  simp
theorem app_isl_nil {σ : Heap} {sz bytes : Nat} {ag mt c : Bool} {k : Nat} {es : List AV} : appendA σ sz ag bytes mt (.own k es) (.isl [] c) = some (.own k es, σ) := rfl
theorem app_isl_nil2 {σ : Heap} {sz bytes : Nat} {ag mt c c2 : Bool} {es : List AV} : appendA σ sz ag bytes mt (.isl es c2) (.isl [] c) = some (.isl es c2, σ) := rfl
theorem closeS_tidy {σ : Heap} {id off n sz fz : Nat} {ag ext : Bool} {cs : List AV} (h : σ[id]? = some (.cells cs fz ext)) (ht : cs.all AV.tidy = true) : closeS σ (.sl id off n sz ag) = σ := by simp [closeS, h, ht]
theorem app_isl_nil3 {σ : Heap} {sz bytes id fz : Nat} {ext c : Bool} {cs : List AV} (hs : σ[id]? = some (.cells cs fz ext)) (hl1 : cs.length = sz) : appendA σ sz true bytes false (.sl id 0 1 sz true) (.isl [] c) = some (.sl id 0 1 sz true, σ) := by
  have he := elems_ag1 hs hl1
  have he2 : elemsN σ sz true (.isl [] c) = some [] := rfl
  simp only [appendA, he, he2, Option.bind_some, isSl]
  simp
theorem app_isl_own {σ : Heap} {sz bytes : Nat} {ag c : Bool} {k : Nat} {es xs : List AV} (hx : xs ≠ []) (h1 : es.all (okEl sz ag) = true) (h2 : xs.all (okEl sz ag) = true) (hl : es.length + xs.length ≤ 10000000000) (hb : bytes ≤ 1000) (h0 : 0 < sz) (hk : σ[k]? = some (.tok es.length sz)) :
    appendA σ sz ag bytes false (.own k es) (.isl xs c) = some (.own k (es ++ xs), σ.set k (.tok (es.length + xs.length) sz)) := by
  have he : elemsA σ sz ag (.own k es) = some es := rfl
  have he2 : elemsN σ sz ag (.isl xs c) = some xs := rfl
  have hmul : (es.length + xs.length) * bytes ≤ 10000000000 * 1000 := Nat.mul_le_mul hl hb
  have : ¬ (sz = 0 ∨ (es.length + xs.length) * bytes > 70368744177664 ∨ es.length + xs.length > 70368744177664) := by omega
  simp only [appendA, he, he2, Option.bind_some, isSl, if_neg hx, if_neg this]
  simp [h1, h2, hk]
theorem app_isl_sl1 {σ : Heap} {sz bytes id : Nat} {c : Bool} {cs xs : List AV} (hs : σ[id]? = some (.cells cs 0 false)) (hl1 : cs.length = sz) (hc : cs.all AV.clo1 = true) (hx : xs ≠ []) (h2 : xs.all (okEl sz true) = true) (hl : 1 + xs.length ≤ 10000000000) (hb : bytes ≤ 1000) (h0 : 0 < sz) :
    appendA σ sz true bytes false (.sl id 0 1 sz true) (.isl xs c) = some (.own σ.length (.agg cs :: xs), σ ++ [.tok (1 + xs.length) sz]) := by
  have he := elems_ag1 hs hl1
  have he2 : elemsN σ sz true (.isl xs c) = some xs := rfl
  have hmul : (1 + xs.length) * bytes ≤ 10000000000 * 1000 := Nat.mul_le_mul hl hb
  have : ¬ (sz = 0 ∨ (1 + xs.length) * bytes > 70368744177664 ∨ 1 + xs.length > 70368744177664) := by omega
  have hok : okEl sz true (.agg cs) = true := by simp only [okEl, AV.clo, hc, AV.cells, hl1, decide_true, Bool.and_self]
  simp only [appendA, he, he2, Option.bind_some, isSl, if_neg hx, List.length_singleton, if_neg this]
  simp [h2, hs, hok, hl1]
theorem slSl_tail {sz : Nat} {x : AV} {es : List AV} {c : Bool} (h : ∀ e ∈ x :: es, e.cells.length = sz) : slSlV sz (some (.int .i64 1)) none (.isl (x :: es) c) = some (.isl es false) := by
  have hall : (x :: es).all (lenIs sz) = true := by rw [List.all_eq_true]; intro y hy; simp [lenIs, h y hy]
  have h1 : slSlA sz 1 (x :: es).length (.isl (x :: es) c) = some (.isl es false) := by
    have hc : 1 ≤ (x :: es).length ∧ (x :: es).length ≤ (x :: es).length ∧ (1 = 0 ∨ (x :: es).all (lenIs sz) = true) := ⟨by simp, Nat.le_refl _, .inr hall⟩
    simp only [slSlA, if_pos hc, List.take_of_length_le (Nat.le_refl _)]; rfl
  have h2 : bndV (x :: es).length 0 (some (.int .i64 1)) = some 1 := by
    simp only [bndV]; rw [if_pos ⟨by omega, by simp only [List.length_cons]; omega⟩]; rfl
  have h0 : ¬ isSl (.isl (x :: es) c) = false := by simp [isSl]
  have hl : lenA (.isl (x :: es) c) = some (x :: es).length := rfl
  unfold slSlV
  rw [if_neg h0, hl]
  simp only [Option.bind_some, bndV_none, h2, h1]
end Go.Mach
end
section
namespace Go.Mach
structure IsT (P : Program) (tT tTL tV tL tI tS : TypeId) : Prop where
  fs : ∃ fs : Array Field, P.underlying tT = some (.struct fs) ∧ fs.toList.map (·.type) = [tI, tS, tV, tTL]
  list : P.underlying tTL = some (.slice tT)
  val : IsV P tV tL tI tS
structure IsB (P : Program) (tB tBL tV tL tI tS : TypeId) : Prop where
  fs : ∃ fs : Array Field, P.underlying tB = some (.struct fs) ∧ fs.toList.map (·.type) = [tS, tV]
  list : P.underlying tBL = some (.slice tB)
  val : IsV P tV tL tI tS
theorem TyA.asTerm {P : Program} {tT tTL tV tL tI tS : TypeId} (hT : IsT P tT tTL tV tL tI tS) {t : TypeId} {x : AV} (h : TyA P t x) : (t = tT → ∃ v : GT, x = v.enc ∧ v.ok) ∧ (t = tTL → ∃ l : List GT, x = .isl (GT.encs l) false ∧ GT.oks l) := by
  have e1 : IntKind.i64.min = -9223372036854775808 := by decide
  have e2 : IntKind.i64.max = 9223372036854775807 := by decide
  obtain ⟨fs0, hf0, hts⟩ := hT.fs
  have hV := hT.val
  induction h with
  | bool hu b => exact ⟨fun e => (by subst e; rw [hf0] at hu; cases hu), fun e => by subst e; rw [hT.list] at hu; cases hu⟩
  | int hu n hn => exact ⟨fun e => (by subst e; rw [hf0] at hu; cases hu), fun e => by subst e; rw [hT.list] at hu; cases hu⟩
  | str hu s => exact ⟨fun e => (by subst e; rw [hf0] at hu; cases hu), fun e => by subst e; rw [hT.list] at hu; cases hu⟩
  | array hu hl hv => exact ⟨fun e => (by subst e; rw [hf0] at hu; cases hu), fun e => by subst e; rw [hT.list] at hu; cases hu⟩
  | @slice t e es hu hes ih =>
    refine ⟨fun e' => (by subst e'; rw [hf0] at hu; cases hu), fun e' => ?_⟩
    subst e'; rw [hT.list] at hu; injection hu with hu; injection hu with hu; subst hu
    have : ∀ l : List AV, (∀ y ∈ l, ∃ v : GT, y = v.enc ∧ v.ok) → ∃ l' : List GT, l = GT.encs l' ∧ GT.oks l' := by
      intro l
      induction l with
      | nil => intro _; exact ⟨[], rfl, trivial⟩
      | cons y l ihl =>
        intro h
        obtain ⟨v, rfl, hv⟩ := h y (by simp)
        obtain ⟨l', rfl, hl'⟩ := ihl fun z hz => h z (by simp [hz])
        exact ⟨v :: l', rfl, hv, hl'⟩
    obtain ⟨l', rfl, hl'⟩ := this es fun y hy => (ih y hy).1 rfl
    exact ⟨l', rfl, hl'⟩
  | @struct t fs vs hu hl hv ih =>
    refine ⟨fun e' => ?_, fun e' => by subst e'; rw [hT.list] at hu; cases hu⟩
    subst e'; rw [hf0] at hu; injection hu with hu; injection hu with hu; subst hu
    have hlen : vs.length = 4 := by rw [hl, ← List.length_map (f := (·.type)), hts]; rfl
    match vs, hlen with
    | [x0, x1, x2, x3], _ =>
      obtain ⟨k, rfl, k1, k2⟩ := (field_ty hts hv (i := 0) rfl rfl).asInt hV.int
      obtain ⟨s, rfl⟩ := (field_ty hts hv (i := 1) rfl rfl).asStr hV.str
      obtain ⟨v, rfl, hvo⟩ := ((field_ty hts hv (i := 2) rfl rfl).asValue hV).1 rfl
      have h3 : fs0.toList[3]?.map (·.type) = some tTL := by rw [← List.getElem?_map, hts]; rfl
      obtain ⟨f3, hf3, hft⟩ := Option.map_eq_some_iff.1 h3
      obtain ⟨l, rfl, hok⟩ := (ih 3 f3 x3 hf3 rfl).2 hft
      rw [e1] at k1; rw [e2] at k2
      refine ⟨.mk k s v l, by simp [GT.enc, flat], ⟨⟨k1, k2⟩, hvo, hok⟩⟩
theorem TyA.asBind {P : Program} {tB tBL tV tL tI tS : TypeId} (hB : IsB P tB tBL tV tL tI tS) {x : AV} (h : TyA P tB x) : ∃ v : GB, x = v.enc ∧ v.ok := by
  obtain ⟨fs0, hf0, hts⟩ := hB.fs
  have hV := hB.val
  cases h with
  | bool hu b => rw [hf0] at hu; cases hu
  | int hu n hn => rw [hf0] at hu; cases hu
  | str hu s => rw [hf0] at hu; cases hu
  | array hu hl hv => rw [hf0] at hu; cases hu
  | slice hu hes => rw [hf0] at hu; cases hu
  | @struct _ fs vs hu hl hv =>
    rw [hf0] at hu; injection hu with hu; injection hu with hu; subst hu
    have hlen : vs.length = 2 := by rw [hl, ← List.length_map (f := (·.type)), hts]; rfl
    match vs, hlen with
    | [x0, x1], _ =>
      obtain ⟨s, rfl⟩ := (field_ty hts hv (i := 0) rfl rfl).asStr hV.str
      obtain ⟨v, rfl, hvo⟩ := ((field_ty hts hv (i := 1) rfl rfl).asValue hV).1 rfl
      exact ⟨⟨s, v⟩, by simp [GB.enc, flat], hvo⟩
def fieldTys (P : Program) (t : TypeId) : Option (List TypeId) := match P.underlying t with
  | some (.struct fs) => some (fs.toList.map (·.type))
  | _ => none
theorem fieldTys_some {P : Program} {t : TypeId} {l : List TypeId} (h : fieldTys P t = some l) : ∃ fs : Array Field, P.underlying t = some (.struct fs) ∧ fs.toList.map (·.type) = l := by
  unfold fieldTys at h
  split at h
  · rename_i fs hu; injection h with h; exact ⟨fs, hu, h⟩
  · cases h
def OkB (l : List GB) : Prop := (∀ b ∈ l, b.ok) ∧ (∀ b ∈ l, b.size ≤ 1048576) ∧ l.length ≤ 1048576
theorem arg1T {P : Program} {tT tTL tV tL tI tS : TypeId} (hT : IsT P tT tTL tV tL tI tS) {x : AV} (h : TyA P tT x) (hb : bulkA x ≤ 1048576) : ∃ l : GT, x = l.enc ∧ l.ok ∧ l.size ≤ 1048576 := by
  obtain ⟨l, rfl, hl⟩ := (h.asTerm hT).1 rfl
  rw [GT.bulk_enc] at hb
  exact ⟨l, rfl, hl, hb⟩
theorem arg1V {P : Program} {tV tL tI tS : TypeId} (hT : IsV P tV tL tI tS) {x : AV} (h : TyA P tV x) (hb : bulkA x ≤ 1048576) : ∃ l : GV, x = l.enc ∧ l.ok ∧ l.size ≤ 1048576 := by
  obtain ⟨l, rfl, hl⟩ := (h.asValue hT).1 rfl
  rw [GV.bulk_enc] at hb
  exact ⟨l, rfl, hl, hb⟩
theorem argB {P : Program} {tB tBL tV tL tI tS : TypeId} (hB : IsB P tB tBL tV tL tI tS) {x : AV} (h : TyA P tBL x) (hb : bulkA x ≤ 1048576) : ∃ l : List GB, x = .isl (GB.encs l) false ∧ OkB l := by
  obtain ⟨es, rfl, hes⟩ := h.asSlice hB.list
  have : ∀ l : List AV, (∀ y ∈ l, ∃ v : GB, y = v.enc ∧ v.ok) → ∃ l' : List GB, l = GB.encs l' ∧ ∀ b ∈ l', b.ok := by
    intro l
    induction l with
    | nil => intro _; exact ⟨[], rfl, by simp⟩
    | cons y l ihl =>
      intro h
      obtain ⟨v, rfl, hv⟩ := h y (by simp)
      obtain ⟨l', rfl, hl'⟩ := ihl fun z hz => h z (by simp [hz])
      exact ⟨v :: l', rfl, fun b hb => by rcases List.mem_cons.1 hb with rfl | hb; exact hv; exact hl' b hb⟩
  obtain ⟨l, rfl, hl⟩ := this es fun y hy => (hes y hy).asBind hB
  simp only [bulkA] at hb
  exact ⟨l, rfl, hl, fun b hb' => by have := GB.size_mem hb'; omega, by have := GB.len_le l; omega⟩
end Go.Mach
namespace Go.Proofs.Ytddmjmkbnfoodaa
open Go.Mach
theorem tyV : IsV Try.prog 24 22 3 9 := ⟨fieldTys_some (by kernel_rfl), by kernel_rfl, by kernel_rfl, by kernel_rfl⟩
theorem tyT : IsT Try.prog 27 25 24 22 3 9 := ⟨fieldTys_some (by kernel_rfl), by kernel_rfl, tyV⟩
theorem tyB : IsB Try.prog 35 28 24 22 3 9 := ⟨fieldTys_some (by kernel_rfl), by kernel_rfl, tyV⟩
end Go.Proofs.Ytddmjmkbnfoodaa
end
section
namespace Go.Mach
structure GL where
  kind : Int
  name : ByteArray
  args : List GT
  deriving Inhabited
namespace GL
def enc (x : GL) : AV := .agg [.int .i64 x.kind, .str x.name, .isl (GT.encs x.args) false]
theorem enc_mk (kind' : Int) (name' : ByteArray) (args' : List GT) : AV.agg [.int .i64 kind', .str name', .isl (GT.encs args') false] = enc ⟨kind', name', args'⟩ := rfl
theorem enc_eq (x : GL) : x.enc = .agg [.int .i64 x.kind, .str x.name, .isl (GT.encs x.args) false] := rfl
@[simp] theorem eta (x : GL) : (⟨x.kind, x.name, x.args⟩ : GL) = x := rfl
@[simp] theorem enc_cells (x : GL) : x.enc.cells = [.int .i64 x.kind, .str x.name, .isl (GT.encs x.args) false] := rfl
@[simp] theorem enc_solid (x : GL) : x.enc.solid = true := rfl
@[simp] theorem enc_head (x : GL) (xs : List AV) : headYld (x.enc :: xs) = false := by cases x; rfl
@[simp] theorem enc_clean (x : GL) : x.enc.clean = true := rfl
@[simp] theorem enc_datR (x : GL) : x.enc.datR = true := rfl
@[simp] theorem enc_dat (x : GL) : x.enc.dat = true := rfl
@[simp] theorem enc_clo (x : GL) : x.enc.clo = true := rfl
@[simp] theorem enc_clo1 (x : GL) : x.enc.clo1 = false := rfl
@[simp] theorem enc_closeA (σ : Heap) (x : GL) : closeA σ x.enc = some (x.enc, σ) := (clean_close (by simp)).1
@[simp] theorem enc_closeR (σ : Heap) (x : GL) : closeR σ x.enc = some (x.enc, σ) := rfl
@[simp] theorem encs_okEl (l : List GL) : (l.map enc).all (okEl 3 true) = true := by
  rw [List.all_eq_true]; intro x hx
  obtain ⟨v, _, rfl⟩ := List.mem_map.1 hx
  rfl
def ok (x : GL) : Prop := GV.i64ok x.kind ∧ GT.oks x.args
def size (x : GL) : Nat := bulkA x.enc
theorem name_le (x : GL) : x.name.size + 1 ≤ x.size := by simp only [size, enc, bulkA, bulkAs]; omega
theorem args_le (x : GL) : GT.sizes x.args + 1 ≤ x.size := by simp only [size, enc, bulkA, bulkAs, GT.bulk_encs]; omega
end GL
structure GU where
  name : ByteArray
  args : List GV
  deriving Inhabited
namespace GU
def enc (x : GU) : AV := .agg [.str x.name, .isl (GV.encs x.args) false]
theorem enc_mk (name' : ByteArray) (args' : List GV) : AV.agg [.str name', .isl (GV.encs args') false] = enc ⟨name', args'⟩ := rfl
theorem enc_eq (x : GU) : x.enc = .agg [.str x.name, .isl (GV.encs x.args) false] := rfl
@[simp] theorem eta (x : GU) : (⟨x.name, x.args⟩ : GU) = x := rfl
@[simp] theorem enc_cells (x : GU) : x.enc.cells = [.str x.name, .isl (GV.encs x.args) false] := rfl
@[simp] theorem enc_solid (x : GU) : x.enc.solid = true := rfl
@[simp] theorem enc_head (x : GU) (xs : List AV) : headYld (x.enc :: xs) = false := by cases x; rfl
@[simp] theorem enc_clean (x : GU) : x.enc.clean = true := rfl
@[simp] theorem enc_datR (x : GU) : x.enc.datR = true := rfl
@[simp] theorem enc_dat (x : GU) : x.enc.dat = true := rfl
@[simp] theorem enc_clo (x : GU) : x.enc.clo = true := rfl
@[simp] theorem enc_clo1 (x : GU) : x.enc.clo1 = false := rfl
@[simp] theorem enc_closeA (σ : Heap) (x : GU) : closeA σ x.enc = some (x.enc, σ) := (clean_close (by simp)).1
@[simp] theorem enc_closeR (σ : Heap) (x : GU) : closeR σ x.enc = some (x.enc, σ) := rfl
@[simp] theorem encs_okEl (l : List GU) : (l.map enc).all (okEl 2 true) = true := by
  rw [List.all_eq_true]; intro x hx
  obtain ⟨v, _, rfl⟩ := List.mem_map.1 hx
  rfl
def ok (x : GU) : Prop := GV.oks x.args
def size (x : GU) : Nat := bulkA x.enc
theorem name_le (x : GU) : x.name.size + 1 ≤ x.size := by simp only [size, enc, bulkA, bulkAs]; omega
theorem args_le (x : GU) : GV.sizes x.args + 1 ≤ x.size := by simp only [size, enc, bulkA, bulkAs, GV.bulk_encs]; omega
end GU
structure GD where
  name : ByteArray
  arity : Int
  deriving Inhabited
namespace GD
def enc (x : GD) : AV := .agg [.str x.name, .int .i64 x.arity]
theorem enc_mk (name' : ByteArray) (arity' : Int) : AV.agg [.str name', .int .i64 arity'] = enc ⟨name', arity'⟩ := rfl
theorem enc_eq (x : GD) : x.enc = .agg [.str x.name, .int .i64 x.arity] := rfl
@[simp] theorem eta (x : GD) : (⟨x.name, x.arity⟩ : GD) = x := rfl
@[simp] theorem enc_cells (x : GD) : x.enc.cells = [.str x.name, .int .i64 x.arity] := rfl
@[simp] theorem enc_solid (x : GD) : x.enc.solid = true := rfl
@[simp] theorem enc_head (x : GD) (xs : List AV) : headYld (x.enc :: xs) = false := by cases x; rfl
@[simp] theorem enc_clean (x : GD) : x.enc.clean = true := rfl
@[simp] theorem enc_datR (x : GD) : x.enc.datR = true := rfl
@[simp] theorem enc_dat (x : GD) : x.enc.dat = true := rfl
@[simp] theorem enc_clo (x : GD) : x.enc.clo = true := rfl
@[simp] theorem enc_clo1 (x : GD) : x.enc.clo1 = false := rfl
@[simp] theorem enc_closeA (σ : Heap) (x : GD) : closeA σ x.enc = some (x.enc, σ) := (clean_close (by simp)).1
@[simp] theorem enc_closeR (σ : Heap) (x : GD) : closeR σ x.enc = some (x.enc, σ) := rfl
@[simp] theorem encs_okEl (l : List GD) : (l.map enc).all (okEl 2 true) = true := by
  rw [List.all_eq_true]; intro x hx
  obtain ⟨v, _, rfl⟩ := List.mem_map.1 hx
  rfl
def ok (x : GD) : Prop := GV.i64ok x.arity
def size (x : GD) : Nat := bulkA x.enc
theorem name_le (x : GD) : x.name.size + 1 ≤ x.size := by simp only [size, enc, bulkA, bulkAs]; omega
end GD
structure GR where
  label : ByteArray
  head : ByteArray
  args : List GT
  agg : ByteArray
  pos : Int
  body : List GL
  deriving Inhabited
namespace GR
def enc (x : GR) : AV := .agg [.str x.label, .str x.head, .isl (GT.encs x.args) false, .str x.agg, .int .i64 x.pos, .isl (x.body.map GL.enc) false]
theorem enc_mk (label' : ByteArray) (head' : ByteArray) (args' : List GT) (agg' : ByteArray) (pos' : Int) (body' : List GL) : AV.agg [.str label', .str head', .isl (GT.encs args') false, .str agg', .int .i64 pos', .isl (body'.map GL.enc) false] = enc ⟨label', head', args', agg', pos', body'⟩ := rfl
theorem enc_eq (x : GR) : x.enc = .agg [.str x.label, .str x.head, .isl (GT.encs x.args) false, .str x.agg, .int .i64 x.pos, .isl (x.body.map GL.enc) false] := rfl
@[simp] theorem eta (x : GR) : (⟨x.label, x.head, x.args, x.agg, x.pos, x.body⟩ : GR) = x := rfl
@[simp] theorem enc_cells (x : GR) : x.enc.cells = [.str x.label, .str x.head, .isl (GT.encs x.args) false, .str x.agg, .int .i64 x.pos, .isl (x.body.map GL.enc) false] := rfl
@[simp] theorem enc_solid (x : GR) : x.enc.solid = true := rfl
@[simp] theorem enc_head (x : GR) (xs : List AV) : headYld (x.enc :: xs) = false := by cases x; rfl
@[simp] theorem enc_clean (x : GR) : x.enc.clean = true := rfl
@[simp] theorem enc_datR (x : GR) : x.enc.datR = true := rfl
@[simp] theorem enc_dat (x : GR) : x.enc.dat = true := rfl
@[simp] theorem enc_clo (x : GR) : x.enc.clo = true := rfl
@[simp] theorem enc_clo1 (x : GR) : x.enc.clo1 = false := rfl
@[simp] theorem enc_closeA (σ : Heap) (x : GR) : closeA σ x.enc = some (x.enc, σ) := (clean_close (by simp)).1
@[simp] theorem enc_closeR (σ : Heap) (x : GR) : closeR σ x.enc = some (x.enc, σ) := rfl
@[simp] theorem encs_okEl (l : List GR) : (l.map enc).all (okEl 6 true) = true := by
  rw [List.all_eq_true]; intro x hx
  obtain ⟨v, _, rfl⟩ := List.mem_map.1 hx
  rfl
def ok (x : GR) : Prop := GT.oks x.args ∧ GV.i64ok x.pos ∧ (∀ y ∈ x.body, y.ok)
def size (x : GR) : Nat := bulkA x.enc
theorem args_le (x : GR) : GT.sizes x.args + 1 ≤ x.size := by simp only [size, enc, bulkA, bulkAs, GT.bulk_encs]; omega
end GR
structure GP where
  decls : List GD
  facts : List GU
  rules : List GR
  deriving Inhabited
namespace GP
def enc (x : GP) : AV := .agg [.isl (x.decls.map GD.enc) false, .isl (x.facts.map GU.enc) false, .isl (x.rules.map GR.enc) false]
theorem enc_mk (decls' : List GD) (facts' : List GU) (rules' : List GR) : AV.agg [.isl (decls'.map GD.enc) false, .isl (facts'.map GU.enc) false, .isl (rules'.map GR.enc) false] = enc ⟨decls', facts', rules'⟩ := rfl
theorem enc_eq (x : GP) : x.enc = .agg [.isl (x.decls.map GD.enc) false, .isl (x.facts.map GU.enc) false, .isl (x.rules.map GR.enc) false] := rfl
@[simp] theorem eta (x : GP) : (⟨x.decls, x.facts, x.rules⟩ : GP) = x := rfl
@[simp] theorem enc_cells (x : GP) : x.enc.cells = [.isl (x.decls.map GD.enc) false, .isl (x.facts.map GU.enc) false, .isl (x.rules.map GR.enc) false] := rfl
@[simp] theorem enc_solid (x : GP) : x.enc.solid = true := rfl
@[simp] theorem enc_head (x : GP) (xs : List AV) : headYld (x.enc :: xs) = false := by cases x; rfl
@[simp] theorem enc_clean (x : GP) : x.enc.clean = true := rfl
@[simp] theorem enc_datR (x : GP) : x.enc.datR = true := rfl
@[simp] theorem enc_dat (x : GP) : x.enc.dat = true := rfl
@[simp] theorem enc_clo (x : GP) : x.enc.clo = true := rfl
@[simp] theorem enc_clo1 (x : GP) : x.enc.clo1 = false := rfl
@[simp] theorem enc_closeA (σ : Heap) (x : GP) : closeA σ x.enc = some (x.enc, σ) := (clean_close (by simp)).1
@[simp] theorem enc_closeR (σ : Heap) (x : GP) : closeR σ x.enc = some (x.enc, σ) := rfl
@[simp] theorem encs_okEl (l : List GP) : (l.map enc).all (okEl 3 true) = true := by
  rw [List.all_eq_true]; intro x hx
  obtain ⟨v, _, rfl⟩ := List.mem_map.1 hx
  rfl
def ok (x : GP) : Prop := (∀ y ∈ x.decls, y.ok) ∧ (∀ y ∈ x.facts, y.ok) ∧ (∀ y ∈ x.rules, y.ok)
def size (x : GP) : Nat := bulkA x.enc
end GP
structure IsGL (P : Program) (tGL tT tTL tV tL tI tS : TypeId) : Prop where
  fs : ∃ fs : Array Field, P.underlying tGL = some (.struct fs) ∧ fs.toList.map (·.type) = [tI, tS, tTL]
  term : IsT P tT tTL tV tL tI tS
structure IsGU (P : Program) (tGU tT tTL tV tL tI tS : TypeId) : Prop where
  fs : ∃ fs : Array Field, P.underlying tGU = some (.struct fs) ∧ fs.toList.map (·.type) = [tS, tL]
  term : IsT P tT tTL tV tL tI tS
structure IsGD (P : Program) (tGD tT tTL tV tL tI tS : TypeId) : Prop where
  fs : ∃ fs : Array Field, P.underlying tGD = some (.struct fs) ∧ fs.toList.map (·.type) = [tS, tI]
  term : IsT P tT tTL tV tL tI tS
structure IsGR (P : Program) (tGR tGLL tGL tT tTL tV tL tI tS : TypeId) : Prop where
  fs : ∃ fs : Array Field, P.underlying tGR = some (.struct fs) ∧ fs.toList.map (·.type) = [tS, tS, tTL, tS, tI, tGLL]
  term : IsT P tT tTL tV tL tI tS
  bodyL : P.underlying tGLL = some (.slice tGL)
  bodyI : IsGL P tGL tT tTL tV tL tI tS
structure IsGP (P : Program) (tGP tGDL tGD tGUL tGU tGRL tGR tGLL tGL tT tTL tV tL tI tS : TypeId) : Prop where
  fs : ∃ fs : Array Field, P.underlying tGP = some (.struct fs) ∧ fs.toList.map (·.type) = [tGDL, tGUL, tGRL]
  term : IsT P tT tTL tV tL tI tS
  declsL : P.underlying tGDL = some (.slice tGD)
  declsI : IsGD P tGD tT tTL tV tL tI tS
  factsL : P.underlying tGUL = some (.slice tGU)
  factsI : IsGU P tGU tT tTL tV tL tI tS
  rulesL : P.underlying tGRL = some (.slice tGR)
  rulesI : IsGR P tGR tGLL tGL tT tTL tV tL tI tS
end Go.Mach
namespace Go.Proofs.Ytddmjmkbnfoodaa
open Go.Mach
end Go.Proofs.Ytddmjmkbnfoodaa
end
section
namespace Go.Proofs.Ytddmjmkbnfoodaa
open Go.Mach
abbrev sCons : ByteArray := ⟨#[102, 95, 99, 111, 110, 115]⟩
abbrev sAppend : ByteArray := ⟨#[102, 95, 97, 112, 112, 101, 110, 100]⟩
abbrev sConcat : ByteArray := ⟨#[102, 95, 99, 111, 110, 99, 97, 116]⟩
abbrev sMember : ByteArray := ⟨#[102, 95, 109, 101, 109, 98, 101, 114]⟩
abbrev sSize : ByteArray := ⟨#[102, 95, 115, 105, 122, 101]⟩
abbrev sFirst : ByteArray := ⟨#[102, 95, 102, 105, 114, 115, 116]⟩
abbrev sLast : ByteArray := ⟨#[102, 95, 108, 97, 115, 116]⟩
abbrev sRest : ByteArray := ⟨#[102, 95, 114, 101, 115, 116]⟩
abbrev sReverse : ByteArray := ⟨#[102, 95, 114, 101, 118, 101, 114, 115, 101]⟩
def nilV : GV := .mk 0 0 ⟨#[]⟩ []
def arityOf (s : ByteArray) : Int :=
  if s = sCons ∨ s = sAppend ∨ s = sConcat ∨ s = sMember then 2
  else if s = sSize ∨ s = sFirst ∨ s = sLast ∨ s = sRest ∨ s = sReverse then 1 else -1
theorem refArity_ok (s : ByteArray) : pureT T c17 [.str s] = some (.int .i64 (arityOf s)) := by
  apply pure_enter (by simp [c17])
  simp [c17]
  unfold arityOf
  grind
theorem refArity (s : ByteArray) (bs : Nat) (σ : Heap) : callT T 17 [.str s] bs σ = some (.int .i64 (arityOf s), σ) := call_clean rfl rfl rfl (by simp) (refArity_ok s)
end Go.Proofs.Ytddmjmkbnfoodaa
end
section
namespace Go.Proofs.Ytddmjmkbnfoodaa
open Go.Mach
theorem end_ok (b : Bool) : pureT T c53 [.bool b] = some (.func 64 [.iptr [.bool b] 0]) := by
  apply pure_enter (by simp [c53])
  simp [c53, frz, res1]
theorem callEnd (b : Bool) (bs : Nat) (σ : Heap) : callT T 53 [.bool b] bs σ = some (.func 64 [.iptr [.bool b] 0], σ) := call_clean rfl rfl rfl (by simp) (end_ok b)
def findV (s : ByteArray) : AV :=
  if s = sCons then .agg [.int .i64 2, .int .i64 1, .func 48 []]
  else if s = sAppend then .agg [.int .i64 2, .int .i64 0, .func 49 []]
  else if s = sConcat then .agg [.int .i64 2, .int .i64 0, .func 50 []]
  else if s = sMember then .agg [.int .i64 2, .int .i64 0, .func 51 []]
  else if s = sSize then .agg [.int .i64 1, .int .i64 0, .func 52 []]
  else if s = sFirst then .agg [.int .i64 1, .int .i64 0, .func 64 [.iptr [.bool false] 0]]
  else if s = sLast then .agg [.int .i64 1, .int .i64 0, .func 64 [.iptr [.bool true] 0]]
  else if s = sRest then .agg [.int .i64 1, .int .i64 0, .func 54 []]
  else if s = sReverse then .agg [.int .i64 1, .int .i64 0, .func 55 []]
  else .agg [.int .i64 (-1), .int .i64 0, .nilfunc]
theorem find_ok (s : ByteArray) : pureT T c39 [.str s] = some (findV s) := by
  apply pure_enter (by simp [c39])
  unfold findV
  by_cases h1 : s = sCons
  · subst h1; simp [c39, setRun]
  by_cases h2 : s = sAppend
  · subst h2; simp [c39, setRun]
  by_cases h3 : s = sConcat
  · subst h3; simp [c39, setRun]
  by_cases h4 : s = sMember
  · subst h4; simp [c39, setRun]
  by_cases h5 : s = sSize
  · subst h5; simp [c39, setRun]
  by_cases h6 : s = sFirst
  · subst h6; simp [c39, setRun, callEnd]
  by_cases h7 : s = sLast
  · subst h7; simp [c39, setRun, callEnd]
  by_cases h8 : s = sRest
  · subst h8; simp [c39, setRun]
  by_cases h9 : s = sReverse
  · subst h9; simp [c39, setRun]
  simp [c39, setRun, h1, h2, h3, h4, h5, h6, h7, h8, h9]
theorem callFind (s : ByteArray) (bs : Nat) (σ : Heap) : callT T 39 [.str s] bs σ = some (findV s, σ) := call_clean rfl rfl rfl (by simp) (find_ok s)
end Go.Proofs.Ytddmjmkbnfoodaa
end
section
namespace Go.Proofs.Ytddmjmkbnfoodaa
open Go.Mach
def varOf (s : ByteArray) : ByteArray := ⟨#[86]⟩ ++ (nameFit s).extract 1 (nameFit s).size
theorem lawVar_ok (s : ByteArray) (hs : s.size ≤ 100000000000) : pureT T c14 [.str s] = some (.str (varOf s)) := by
  have hn := nameFit_size s
  have hc := lawName s hs
  have h1 : (⟨#[86]⟩ : ByteArray).size = 1 := rfl
  have h2 : ((nameFit s).extract 1 (nameFit s).size).size = (nameFit s).size - 1 := by rw [ByteArray.size_extract]; omega
  apply pure_enter (by simp [c14])
  have h0 : (1 : Int) ≤ ((nameFit s).size : Int) := by omega
  have h3 : (1 : Int) + (((nameFit s).size - 1 : Nat) : Int) ≤ 9223372036854775807 := by omega
  simp [c14, hc, h0, h1, h3, varOf]
theorem lawVar (s : ByteArray) (hs : s.size ≤ 100000000000) (bs : Nat) (σ : Heap) : callT T 14 [.str s] bs σ = some (.str (varOf s), σ) := call_clean rfl rfl rfl (by simp) (lawVar_ok s hs)
def relOf (s : ByteArray) : ByteArray := if 0 ≤ arityOf (nameFit s) ∨ nameFit s = ⟨#[109, 97, 116, 101, 114, 105, 97, 108, 105, 122, 101]⟩ then ⟨#[110]⟩ else nameFit s
theorem lawRel_ok (s : ByteArray) (hs : s.size ≤ 100000000000) : pureT T c16 [.str s] = some (.str (relOf s)) := by
  have hc := lawName s hs
  have ha := refArity (nameFit s)
  apply pure_enter (by simp [c16])
  simp [c16, hc, ha]
  unfold relOf
  grind
theorem lawRel (s : ByteArray) (hs : s.size ≤ 100000000000) (bs : Nat) (σ : Heap) : callT T 16 [.str s] bs σ = some (.str (relOf s), σ) := call_clean rfl rfl rfl (by simp) (lawRel_ok s hs)
theorem pick4_ok (c n : Int) (h : n ≠ 0) : pureT T c13 [.int .i64 c, .int .i64 n] = some (.int .i64 ((if c < 0 then IntKind.i64.wrap (0 - IntKind.i64.wrap (c + 1)) else c).tmod n)) := by
  apply pure_enter (by simp [c13])
  by_cases hc : c < 0
  · simp [c13, hc, h]
  · simp [c13, hc, h]
theorem pickQ (c : Int) (n : Nat) (h : 0 < n) (h1 : GV.i64ok c) (bs : Nat) (σ : Heap) :
    callT T 13 [.int .i64 c, .int .i64 (n : Int)] bs σ = some (.int .i64 (pickN c n : Int), σ) := by
  refine call_clean rfl rfl rfl rfl ?_
  rw [pick4_ok c n (by omega), pick_eq c n h h1.1 h1.2]
theorem pickQ4 (c : Int) (h1 : GV.i64ok c) (bs : Nat) (σ : Heap) : callT T 13 [.int .i64 c, .int .i64 4] bs σ = some (.int .i64 (pickN c 4 : Int), σ) := pickQ c 4 (by omega) h1 bs σ
theorem pickQ6 (c : Int) (h1 : GV.i64ok c) (bs : Nat) (σ : Heap) : callT T 13 [.int .i64 c, .int .i64 6] bs σ = some (.int .i64 (pickN c 6 : Int), σ) := pickQ c 6 (by omega) h1 bs σ
theorem pickQ3 (c : Int) (h1 : GV.i64ok c) (bs : Nat) (σ : Heap) : callT T 13 [.int .i64 c, .int .i64 3] bs σ = some (.int .i64 (pickN c 3 : Int), σ) := pickQ c 3 (by omega) h1 bs σ
theorem wrap_ok (n : Int) : GV.i64ok (IntKind.i64.wrap n) := by unfold GV.i64ok; rw [IntKind.wrap_i64]; omega
def fnOf (n : Nat) : ByteArray := if n = 0 then sCons else if n = 1 then sSize else if n = 2 then sMember else if n = 3 then sFirst else if n = 4 then sReverse else sConcat
def opOf (n : Nat) : ByteArray := if n = 0 then ⟨#[43]⟩ else if n = 1 then ⟨#[45]⟩ else ⟨#[42]⟩
def valOf (v : GV) : GV := if (fit v).kind = 3 then .mk (fit v).kind (fit v).num (relOf (fit v).text) (fit v).items else fit v
def leafT (t : GT) : GT := if pickN t.kind 4 % 2 = 0 then .mk 1 (varOf t.name) nilV [] else .mk 2 ⟨#[]⟩ (valOf t.value) []
def termV : Nat → GT → GT
  | 0, t => leafT t
  | d + 1, t =>
    if d = 0 ∨ t.args.length < 2 then leafT t
    else if pickN t.kind 4 = 0 then .mk 1 (varOf t.name) nilV []
    else if pickN t.kind 4 = 1 then .mk 2 ⟨#[]⟩ (valOf t.value) []
    else if pickN t.kind 4 = 2 then
      .mk 3 (fnOf (pickN (IntKind.i64.wrap ((t.name.size : Int) + t.kind)) 6)) nilV ((t.args.take (arityOf (fnOf (pickN (IntKind.i64.wrap ((t.name.size : Int) + t.kind)) 6))).toNat).map (termV d))
    else .mk 4 (opOf (pickN t.name.size 3)) nilV ((t.args.take 2).map (termV d))
theorem term_leaf (d : Int) (t : GT) (ht : t.ok) (hs : t.size ≤ 100000000000) (h : d ≤ 1 ∨ t.args.length < 2) : pureT T c5 [t.enc, .int .i64 d] = some (leafT t).enc := by
  have hk : GV.i64ok t.kind ∧ t.value.ok := by revert ht; cases t; simp only [GT.ok]; exact fun h => ⟨h.1, h.2.1⟩
  have hp := pickQ4 t.kind hk.1
  have hv := lawVar t.name (Nat.le_trans (GT.name_le t) hs)
  have hf := callFit t.value hk.2 (Nat.le_trans (GT.value_le t) hs)
  have hpl := pickN_lt (c := t.kind) (n := 4) (by omega)
  have htm : ((pickN t.kind 4 : Int)).tmod 2 = ((pickN t.kind 4 % 2 : Nat) : Int) := rfl
  have hfs : (fit t.value).text.size ≤ 100000000000 := Nat.le_trans (Nat.le_trans (text_le _) (fit_size _)) (by omega)
  have hr := lawRel (fit t.value).text hfs
  apply pure_enter (by simp [c5])
  have hcond : d ≤ 1 ∨ (¬ d ≤ 1 ∧ ((t.args.length : Int) < 2)) := by omega
  rcases hcond with hd | ⟨hd, hl⟩
  · by_cases hz : pickN t.kind 4 % 2 = 0
    · simp [c5, hp, htm, hd, hz, hv, setRun]
      simp [leafT, hz, GT.enc, nilV]
    · have hz1 : pickN t.kind 4 % 2 = 1 := by omega
      simp [c5, hp, htm, hd, hz1, hf, setRun, enc_mk, hr]
      refine ⟨fun h => ?_, fun h => ?_⟩
      all_goals simp [leafT, hz1, GT.enc, valOf, h]
  · by_cases hz : pickN t.kind 4 % 2 = 0
    · simp [c5, hp, htm, hd, hl, hz, hv, setRun]
      simp [leafT, hz, GT.enc, nilV]
    · have hz1 : pickN t.kind 4 % 2 = 1 := by omega
      simp [c5, hp, htm, hd, hl, hz1, hf, setRun, enc_mk, hr]
      refine ⟨fun h => ?_, fun h => ?_⟩
      all_goals simp [leafT, hz1, GT.enc, valOf, h]
theorem fnOf_arity (n : Nat) : arityOf (fnOf n) = if n = 0 ∨ n = 2 ∨ 5 ≤ n then 2 else 1 := by
  unfold fnOf
  by_cases h0 : n = 0
  · subst h0; decide
  · by_cases h1 : n = 1
    · subst h1; decide
    · by_cases h2 : n = 2
      · subst h2; decide
      · by_cases h3 : n = 3
        · subst h3; decide
        · by_cases h4 : n = 4
          · subst h4; decide
          · rw [if_neg h0, if_neg h1, if_neg h2, if_neg h3, if_neg h4, if_pos (by omega)]; decide
theorem term_call (d : Nat) (hd0 : 0 < d) (hd : d ≤ 100) (t : GT) (ht : t.ok) (hs : t.size ≤ 100000000000) (h2 : 2 ≤ t.args.length) (hk : pickN t.kind 4 = 2) (g : GT → GT)
    (hg : ∀ x ∈ t.args, ∀ bs σ, callT T 5 [x.enc, .int .i64 (d : Int)] bs σ = some ((g x).enc, σ)) (fn : ByteArray) (hfn : fn = fnOf (pickN (IntKind.i64.wrap ((t.name.size : Int) + t.kind)) 6)) :
    pureT T c5 [t.enc, .int .i64 ((d : Int) + 1)] = some (GT.mk 3 fn nilV ((t.args.take (arityOf fn).toNat).map g)).enc := by
  have hk1 : GV.i64ok t.kind := by revert ht; cases t; simp only [GT.ok]; exact fun h => h.1
  have hp := pickQ4 t.kind hk1
  rw [hk] at hp
  have hp6 := pickQ6 _ (wrap_ok ((t.name.size : Int) + t.kind))
  have hlt := pickN_lt (c := IntKind.i64.wrap ((t.name.size : Int) + t.kind)) (n := 6) (by omega)
  have har := fnOf_arity (pickN (IntKind.i64.wrap ((t.name.size : Int) + t.kind)) 6)
  rw [← hfn] at har
  generalize pickN (IntKind.i64.wrap ((t.name.size : Int) + t.kind)) 6 = m at *
  have hdd : ¬ ((d : Int) + 1 ≤ 1) := by omega
  have hll : ¬ ((t.args.length : Int) < 2) := by omega
  have hget : ∀ σ : Heap, ∀ L : List AV, L = [AV.str sCons, .str sSize, .str sMember, .str sFirst, .str sReverse, .str sConcat] → (window L m 1).bind (mk false) = some (.str fn) := by
    intro σ L e; subst e hfn
    match m, hlt with
    | 0, _ => rfl
    | 1, _ => rfl
    | 2, _ => rfl
    | 3, _ => rfl
    | 4, _ => rfl
    | 5, _ => rfl
  obtain ⟨a, ha, ha1, ha2⟩ : ∃ a : Nat, arityOf fn = (a : Int) ∧ 1 ≤ a ∧ a ≤ 2 := by
    rw [har]; split
    · exact ⟨2, rfl, by omega, by omega⟩
    · exact ⟨1, rfl, by omega, by omega⟩
  have hary := refArity fn
  rw [ha] at hary ⊢
  have hw2 := hget [] _ rfl
  have hlt' : (m : Int) < 6 := by omega
  apply pure_enter (by simp [c5])
  simp [c5, hp, hdd, hll, hp6, hlt', setRun, hw2]
  refine W_for T 0 103 a (fun i f σ => f 1 = .int .i64 ((d : Int) + 1) ∧ f 2 = .ptr 0 0 ∧ f 4 = .ptr 1 0 ∧ f 7 = .str fn ∧ f 8 = .ptr 3 0 ∧ f 9 = .int .i64 (i : Int) ∧ ∃ S lst rest,
    σ = [.cells [.int .i64 t.kind, .str t.name, .int .i64 t.value.kind, .int .i64 t.value.num, .str t.value.text, .isl (GV.encs t.value.items) false, .isl (GT.encs t.args) false] 0 false,
      .cells [.int .i64 0, .str ⟨#[]⟩, .int .i64 0, .int .i64 0, .str ⟨#[]⟩, .isl [] true, .isl [] true] 0 false, S,
      .cells [.int .i64 3, .str fn, .int .i64 0, .int .i64 0, .str ⟨#[]⟩, .isl [] true, lst] 0 false] ++ rest ∧
    LstAt rest 4 (GT.encs ((t.args.take i).map g)) 7 lst) ?_ _ _ ?_
  · rintro i f σ hi ⟨h1, h2', h4, h7, h8, h9, S, lst, rest, rfl, hlst⟩
    by_cases hia : i < a
    · have hw : IntKind.i64.wrap ((i : Int) + 1) = (i : Int) + 1 := wr64 (by omega) (by omega)
      have hwd : IntKind.i64.wrap (d : Int) = (d : Int) := wr64 (by omega) (by omega)
      have hc1 : i < t.args.length := by omega
      have hcl := hg t.args[i] (List.getElem_mem hc1)
      have htk : (t.args.take (i + 1)).map g = (t.args.take i).map g ++ [g t.args[i]] := by rw [List.take_add_one, List.getElem?_eq_getElem hc1, List.map_append]; rfl
      have hlen : ((t.args.take i).map g).length = i := by simp; omega
      rw [htk]
      generalize (t.args.take i).map g = done at *
      have hdl : done.length ≤ 10000000000 := by omega
      rcases hlst with ⟨he, rfl⟩ | ⟨kk, rfl, hkl, hkk⟩
      · have hd0 : done = [] := (GT.encs_nil _).1 he
        simp [h1, h2', h4, h7, h8, h9, hia, hc1, hw, hwd, hary, setRun, hcl, GT.enc_mk]
        exact ⟨_, _, _, ⟨rfl, rfl, rfl⟩, .inr ⟨rest.length + 1, by simp [hd0], by simp, by simp [hd0]⟩⟩
      · simp [h1, h2', h4, h7, h8, h9, hia, hc1, hw, hwd, hary, setRun, hcl, GT.enc_mk, List.getElem?_append_left hkl, hkk, List.set_append_left _ _ hkl, hdl]
        exact ⟨_, _, _, ⟨rfl, rfl, rfl⟩, .inr ⟨kk, rfl, by simp; omega, by rw [List.getElem?_append_left (by simpa using hkl)]; simp [hkl]⟩⟩
    · have he : i = a := by omega
      subst he
      rcases hlst with ⟨he2, rfl⟩ | ⟨kk, rfl, hkl, hkk⟩
      · simp [h1, h2', h4, h7, h8, h9, hary, setRun, GT.enc, he2, ← List.map_take, nilV]
      · simp [h1, h2', h4, h7, h8, h9, hary, setRun, GT.enc, ← List.map_take, nilV]
  · exact ⟨by simp, by simp, by simp, by simp, by simp, by simp, _, _, [], rfl, .inl ⟨by simp, rfl⟩⟩
theorem term_op (d : Nat) (hd0 : 0 < d) (hd : d ≤ 100) (t : GT) (ht : t.ok) (hs : t.size ≤ 100000000000) (h2 : 2 ≤ t.args.length) (hk : pickN t.kind 4 = 3) (g : GT → GT)
    (hg : ∀ x ∈ t.args, ∀ bs σ, callT T 5 [x.enc, .int .i64 (d : Int)] bs σ = some ((g x).enc, σ)) (fn : ByteArray) (hfn : fn = opOf (pickN t.name.size 3)) :
    pureT T c5 [t.enc, .int .i64 ((d : Int) + 1)] = some (GT.mk 4 fn nilV ((t.args.take 2).map g)).enc := by
  have hk1 : GV.i64ok t.kind := by revert ht; cases t; simp only [GT.ok]; exact fun h => h.1
  have hp := pickQ4 t.kind hk1
  rw [hk] at hp
  have hns := GT.name_le t
  have hp3 := pickQ3 (t.name.size : Int) ⟨by omega, by omega⟩
  have hlt := pickN_lt (c := (t.name.size : Int)) (n := 3) (by omega)
  generalize pickN (t.name.size : Int) 3 = m at *
  have hdd : ¬ ((d : Int) + 1 ≤ 1) := by omega
  have hll : ¬ ((t.args.length : Int) < 2) := by omega
  have hget : ∀ L : List AV, L = [AV.str ⟨#[43]⟩, .str ⟨#[45]⟩, .str ⟨#[42]⟩] → (window L m 1).bind (mk false) = some (.str fn) := by
    intro L e; subst e hfn
    match m, hlt with
    | 0, _ => rfl
    | 1, _ => rfl
    | 2, _ => rfl
  have hw2 := hget _ rfl
  have hlt' : (m : Int) < 3 := by omega
  obtain ⟨x, y, l, hargs⟩ : ∃ x y l, t.args = x :: y :: l := by
    match t.args, h2 with
    | x :: y :: l, _ => exact ⟨x, y, l, rfl⟩
  have hx := hg x (by simp [hargs])
  have hy := hg y (by simp [hargs])
  have hwd : IntKind.i64.wrap (d : Int) = (d : Int) := wr64 (by omega) (by omega)
  have he : GT.encs t.args = x.enc :: y.enc :: GT.encs l := by rw [hargs]; rfl
  have hll : ¬ ((l.length : Int) + 1 + 1 < 2) := by omega
  apply pure_enter (by simp [c5])
  simp [c5, hp, hdd, hll, hp3, hlt', setRun, hw2, he, hwd, hx, hy, hargs, GT.enc_mk]
  simp [close1, close0, window, chunk, mk, GT.encs, GT.enc, GT.enc_eq (g x), GT.enc_eq (g y), nilV]
theorem term_ok : ∀ (d : Nat) (t : GT), d ≤ 100 → t.ok → t.size ≤ 100000000000 → pureT T c5 [t.enc, .int .i64 (d : Int)] = some (termV d t).enc := by
  intro d
  induction d with
  | zero => intro t hd ht hs; exact term_leaf 0 t ht hs (.inl (by omega))
  | succ d ih =>
    intro t hd ht hs
    unfold termV
    by_cases hl : d = 0 ∨ t.args.length < 2
    · rw [if_pos hl]
      refine term_leaf _ t ht hs ?_
      rcases hl with h | h
      · exact .inl (by omega)
      · exact .inr h
    · have hlt := pickN_lt (c := t.kind) (n := 4) (by omega)
      have hok : GT.oks t.args := by revert ht; cases t; simp only [GT.ok]; exact fun h => h.2.2
      have hargs := GT.args_le t
      have hcl : ∀ x ∈ t.args, ∀ bs σ, callT T 5 [x.enc, .int .i64 (d : Int)] bs σ = some ((termV d x).enc, σ) := fun x hx bs σ =>
        call_clean rfl rfl rfl (by simp) (ih x (by omega) ((GT.oks_iff _).1 hok x hx) (by have := (GT.sizes_mem hx).1; omega))
      have e : (((d + 1 : Nat)) : Int) = (d : Int) + 1 := by omega
      rw [if_neg hl, e]
      by_cases h2 : pickN t.kind 4 = 2
      · rw [if_neg (by omega), if_neg (by omega), if_pos h2]
        exact term_call d (by omega) (by omega) t ht hs (by omega) h2 _ hcl _ rfl
      · by_cases h3 : pickN t.kind 4 = 3
        · rw [if_neg (by omega), if_neg (by omega), if_neg h2]
          exact term_op d (by omega) (by omega) t ht hs (by omega) h3 _ hcl _ rfl
        · have hk1 : GV.i64ok t.kind ∧ t.value.ok := by revert ht; cases t; simp only [GT.ok]; exact fun h => ⟨h.1, h.2.1⟩
          have hp := pickQ4 t.kind hk1.1
          have hv := lawVar t.name (Nat.le_trans (GT.name_le t) hs)
          have hf := callFit t.value hk1.2 (Nat.le_trans (GT.value_le t) hs)
          have hfs : (fit t.value).text.size ≤ 100000000000 := Nat.le_trans (Nat.le_trans (text_le _) (fit_size _)) (by omega)
          have hr := lawRel (fit t.value).text hfs
          have hdd : ¬ ((d : Int) + 1 ≤ 1) := by omega
          have hll : ¬ ((t.args.length : Int) < 2) := by omega
          apply pure_enter (by simp [c5])
          by_cases h0 : pickN t.kind 4 = 0
          · rw [h0] at hp
            rw [if_pos h0]
            simp [c5, hp, hdd, hll, hv, setRun, GT.enc, nilV]
          · have h1 : pickN t.kind 4 = 1 := by omega
            rw [h1] at hp
            rw [if_neg h0, if_pos h1]
            simp [c5, hp, hdd, hll, hf, hr, setRun, enc_mk]
            refine ⟨fun h => ?_, fun h => ?_⟩
            all_goals simp [GT.enc, valOf, h]
theorem callTerm (d : Nat) (t : GT) (hd : d ≤ 100) (ht : t.ok) (hs : t.size ≤ 100000000000) (bs : Nat) (σ : Heap) : callT T 5 [t.enc, .int .i64 (d : Int)] bs σ = some ((termV d t).enc, σ) := call_clean rfl rfl rfl (by simp) (term_ok d t hd ht hs)
end Go.Proofs.Ytddmjmkbnfoodaa
end
section
namespace Go.Proofs.Ytddmjmkbnfoodaa
open Go.Mach
def resO (o : Option GV) : AV := .tup [(o.getD nilV).enc, .bool o.isSome]
def numV (n : Int) : GV := .mk 1 n ⟨#[]⟩ []
def listV (l : List GV) : GV := .mk 4 0 ⟨#[]⟩ l
def made (v : GV) : Option GV := if rightT v then some v else none
theorem nilV_enc : AV.agg [.int .i64 0, .int .i64 0, .str ⟨#[]⟩, .isl [] false] = nilV.enc := by simp [nilV, GV.enc]
@[simp] theorem resO_scal (o : Option GV) : (resO o).scal = false := by
  have : (o.getD nilV).enc.scal1 = false := by rw [GV.enc_eq]; rfl
  simp [resO, AV.scal, this]
theorem number_ok (n : Int) : pureT T c11 [.int .i64 n] = some (numV n).enc := by
  apply pure_enter (by simp [c11])
  simp [c11, setRun, numV, GV.enc]
theorem callNumber (n : Int) (bs : Nat) (σ : Heap) : callT T 11 [.int .i64 n] bs σ = some ((numV n).enc, σ) := call_clean rfl rfl rfl (by simp) (number_ok n)
theorem callClone0 (c : Bool) (bs : Nat) (σ : Heap) : callT T 32 [.isl [] c] bs σ = some (.isl [] true, σ) := callT_pr (p := cloneVP) _ _ _ rfl _
theorem callClone (l : List GV) (c : Bool) (hne : l ≠ []) (hl : l.length ≤ 10000000000) (bs : Nat) (σ : Heap) : callT T 32 [.isl (GV.encs l) c] bs σ = some (.sl (σ.length + 1) 0 l.length 4 true, σ ++ [.cells [] 0 false, .cells (flat (GV.encs l)) 0 true]) := by
  rw [callT_pr (p := cloneVP) _ _ _ rfl _]
  have hf := flat_len (encsV_len l)
  rw [GV.encs_length] at hf
  simp only [cloneVP, if_neg (fun h => hne ((encs_nil l).1 h)), GV.encs_length]
  rw [if_pos ⟨hf, hl⟩]
theorem callList0 (x : AV) (σ : Heap) (hx : close1 σ x = some (.isl [] false, σ)) (hA : closeA σ x = close1 σ x) : callT T 60 [x] 0 σ = some (.agg [.int .i64 4, .int .i64 0, .str ⟨#[]⟩, .isl [] true], σ ++ [.cells [.int .i64 4, .int .i64 0, .str ⟨#[]⟩, .isl [] true] 0 false]) := by
  refine heap_enter (af := c60) (args' := [.isl [] false]) (σ1 := σ) rfl rfl (by simp [c60]) (by simp [c60]) ?_ ?_
  · simp [c60, closeArgs, closeT, hA, hx]
  · simp [c60, callClone0, setRun, baseA]
theorem callListN (l : List GV) (hne : l ≠ []) (hl : l.length ≤ 10000000000) (x : AV) (σ σ1 : Heap) (hx : close1 σ x = some (.isl (GV.encs l) false, σ1)) (hA : closeA σ x = close1 σ x) : callT T 60 [x] 0 σ = some (.agg [.int .i64 4, .int .i64 0, .str ⟨#[]⟩, .sl (σ1.length + 2) 0 l.length 4 true],
    σ1 ++ [.cells [.int .i64 4, .int .i64 0, .str ⟨#[]⟩, .sl (σ1.length + 2) 0 l.length 4 true] 0 false, .cells [] 0 false, .cells (flat (GV.encs l)) 0 true]) := by
  refine heap_enter (af := c60) (args' := [.isl (GV.encs l) false]) (σ1 := σ1) rfl rfl (by simp [c60]) (by simp [c60]) ?_ ?_
  · simp [c60, closeArgs, closeT, hA, hx]
  · simp [c60, callClone l false hne hl, setRun, baseA]
theorem right2_ok (v : GV) (hs : v.size ≤ 100000000000) : pureT T c44 [v.enc] = some (resO (made v)) := by
  have hr := valRight v hs
  apply pure_enter (by simp [c44])
  simp [c44, hr, setRun, enc_mk, enc_mk0, nilV_enc]
  refine ⟨fun h => ?_, fun h => ?_⟩
  · simp [made, h, resO]
  · simp [made, h, resO, nilV, GV.enc]
theorem callRight2 (v : GV) (hs : v.size ≤ 100000000000) (bs : Nat) (σ : Heap) : callT T 44 [v.enc] bs σ = some (resO (made v), σ) := call_clean rfl rfl rfl (by simp) (right2_ok v hs)
theorem callRight0 (c : Bool) (bs : Nat) (σ : Heap) : callT T 44 [.agg [.int .i64 4, .int .i64 0, .str ⟨#[]⟩, .isl [] c]] bs σ = some (resO (made (listV [])), σ) := by
  have h := right2_ok (listV []) (by decide)
  exact call_data rfl rfl rfl h (resO_scal _) (by simp) (by simp [closeT, listV, GV.enc])
theorem callRightN {l : List GV} {id fz : Nat} {ext : Bool} {σ : Heap} (hne : l ≠ []) (hs : (listV l).size ≤ 100000000000) (h : σ[id]? = some (.cells (flat (GV.encs l)) fz ext)) (bs : Nat) :
    callT T 44 [.agg [.int .i64 4, .int .i64 0, .str ⟨#[]⟩, .sl id 0 l.length 4 true]] bs σ = some (resO (made (listV l)), frz σ id (l.length * 4)) := by
  have hr := right2_ok (listV l) hs
  have hc := close1_flat h (fun e => hne ((encs_nil l).1 e)) (encsV_agg l) (encsV_clo l)
  rw [GV.encs_length] at hc
  exact call_data rfl rfl rfl hr (resO_scal _) (by simp) (by simp [closeT, hc, listV, GV.enc])
def pre {α : Type} (ls : List (List α)) (i : Nat) : Nat := ((ls.take i).map List.length).sum
theorem pre_succ {α : Type} {ls : List (List α)} {i : Nat} (h : i < ls.length) : pre ls (i + 1) = pre ls i + ls[i].length := by
  unfold pre; rw [List.take_add_one, List.getElem?_eq_getElem h, List.map_append, List.sum_append]; simp
theorem pre_zero {α : Type} (ls : List (List α)) : pre ls 0 = 0 := rfl
theorem pre_le {α : Type} (ls : List (List α)) (i : Nat) : pre ls i ≤ ls.flatten.length := by
  have : ls = ls.take i ++ ls.drop i := (List.take_append_drop i ls).symm
  rw [List.length_flatten]
  conv => rhs; rw [this, List.map_append, List.sum_append]
  unfold pre; omega
theorem pre_all {α : Type} (ls : List (List α)) : pre ls ls.length = ls.flatten.length := by
  unfold pre; rw [List.take_length, List.length_flatten]
def cat {α : Type} (ls : List (List α)) (i : Nat) : List α := (ls.take i).flatten
theorem cat_succ {α : Type} {ls : List (List α)} {i : Nat} (h : i < ls.length) : cat ls (i + 1) = cat ls i ++ ls[i] := by
  unfold cat; rw [List.take_add_one, List.getElem?_eq_getElem h, List.flatten_append]; simp
theorem cat_len {α : Type} (ls : List (List α)) (i : Nat) : (cat ls i).length = pre ls i := by unfold cat pre; rw [List.length_flatten]
theorem cat_all {α : Type} (ls : List (List α)) : cat ls ls.length = ls.flatten := by unfold cat; rw [List.take_length]
theorem cat_zero {α : Type} (ls : List (List α)) : cat ls 0 = [] := rfl
theorem grow_call (n : Nat) (hn : n ≤ 1000000000) (bs : Nat) (σ : Heap) : callT T 71 [.isl [] true, .int .i64 (n : Int)] bs σ = if n = 0 then some (.isl [] true, σ) else some (.own σ.length [], σ ++ [.tok 0 4]) := by
  rw [callT_pr (p := growP) _ _ _ rfl _]
  simp only [growP]
  by_cases h : n = 0
  · subst h; rfl
  · rw [if_pos ⟨by omega, by omega⟩, if_neg h]
theorem concat_ok (ls : List (List GV)) (hn : ls.length ≤ 1000) (hl : ls.flatten.length ≤ 1000000000) : pureT T c61 [.isl (ls.map fun l => .isl (GV.encs l) false) false] = some (.isl (GV.encs ls.flatten) false) := by
  apply pure_enter (by simp [c61])
  simp [c61]
  refine W_for T 0 36 ls.length (fun i f σ => f 0 = .isl (ls.map fun l => .isl (GV.encs l) false) false ∧ f 9 = .isl (ls.map fun l => .isl (GV.encs l) false) false ∧ f 10 = .int .i64 (ls.length : Int) ∧ f 11 = .int .i64 (i : Int) ∧ f 3 = .int .i64 (pre ls i : Int) ∧ σ = []) ?_ _ _ ?_
  · rintro i f σ hi ⟨h0, h9, h10, h11, h3, rfl⟩
    by_cases hlt : i < ls.length
    · have hw : IntKind.i64.wrap ((i : Int) + 1) = (i : Int) + 1 := wr64 (by omega) (by omega)
      have hts := pre_succ hlt
      have hs1 := pre_le ls (i + 1)
      have hw2 : IntKind.i64.wrap ((pre ls i : Int) + (ls[i].length : Int)) = (pre ls (i + 1) : Int) := by rw [wr64 (by omega) (by omega), hts]; omega
      have hneg : ¬ ((pre ls (i + 1) : Int) < 0) := by omega
      simp [h0, h9, h10, h11, h3, hlt, hw, hw2, hneg]
    · have he : i = ls.length := by omega
      subst he
      rw [pre_all] at h3
      have hg := grow_call ls.flatten.length hl
      by_cases hz : ls.flatten.length = 0
      · have hall : ∀ l ∈ ls, l = [] := fun l h => by
          have := List.eq_nil_of_length_eq_zero hz
          rw [List.flatten_eq_nil_iff] at this
          exact this l h
        rw [hz] at hg h3
        simp only [if_true] at hg
        have hg' : ∀ bs σ, callT T 71 [.isl [] true, .int .i64 0] bs σ = some (.isl [] true, σ) := hg
        have hfe : ls.flatten = [] := List.eq_nil_of_length_eq_zero hz
        rw [hfe]
        have h3' : f 3 = .int .i64 0 := h3
        simp [h0, h9, h10, h11, h3', hg']
        refine W_for T 0 36 ls.length (fun i f σ => f 25 = .isl (ls.map fun l => .isl (GV.encs l) false) false ∧ f 26 = .int .i64 (ls.length : Int) ∧ f 27 = .int .i64 (i : Int) ∧ f 6 = .isl [] true ∧ σ = []) ?_ _ _ ?_
        · rintro i f σ hi ⟨h25, h26, h27, h6, rfl⟩
          by_cases hlt : i < ls.length
          · have hw : IntKind.i64.wrap ((i : Int) + 1) = (i : Int) + 1 := wr64 (by omega) (by omega)
            have he := hall ls[i] (List.getElem_mem hlt)
            simp [h25, h26, h27, h6, hlt, hw, he, app_isl_nil2]
          · have he : i = ls.length := by omega
            subst he
            simp [h25, h26, h27, h6]
        · simp
      · simp only [if_neg hz] at hg
        have hpl := fun i => pre_le ls i
        generalize ls.flatten.length = N at *
        simp [h0, h9, h10, h11, h3, hg]
        refine W_for T 0 36 ls.length (fun i f σ => f 25 = .isl (ls.map fun l => .isl (GV.encs l) false) false ∧ f 26 = .int .i64 (ls.length : Int) ∧ f 27 = .int .i64 (i : Int) ∧ f 6 = .own 0 (GV.encs (cat ls i)) ∧ σ = [.tok (pre ls i) 4]) ?_ _ _ ?_
        · rintro i f σ hi ⟨h25, h26, h27, h6, rfl⟩
          by_cases hlt : i < ls.length
          · have hw : IntKind.i64.wrap ((i : Int) + 1) = (i : Int) + 1 := wr64 (by omega) (by omega)
            have hts := pre_succ hlt
            have hs1 := hpl (i + 1)
            have hcl := cat_len ls i
            by_cases he : ls[i] = []
            · have : cat ls (i + 1) = cat ls i := by rw [cat_succ hlt, he, List.append_nil]
              have h2 : pre ls (i + 1) = pre ls i := by rw [hts, he]; rfl
              simp [h25, h26, h27, h6, hlt, hw, he, app_isl_nil, this, h2]
            · have ha := app_isl_own (σ := [.tok (pre ls i) 4]) (sz := 4) (bytes := 56) (ag := true) (c := false) (k := 0) (es := GV.encs (cat ls i)) (xs := GV.encs ls[i]) (fun e => he ((encs_nil _).1 e)) (encs_okEl _) (encs_okEl _) (by simp [hcl]; omega) (by omega) (by omega) (by simp [hcl])
              have hap : GV.encs (cat ls i) ++ GV.encs ls[i] = GV.encs (cat ls (i + 1)) := by rw [cat_succ hlt]; simp [GV.encs_map]
              have hlen : (cat ls i).length + ls[i].length = pre ls (i + 1) := by rw [hcl, hts]
              rw [hap] at ha
              simp [hlen] at ha
              simp [h25, h26, h27, h6, hlt, hw, ha]
          · have he : i = ls.length := by omega
            subst he
            simp [h25, h26, h27, h6, cat_all]
        · simp [pre_zero, cat_zero]
  · simp [pre_zero]
theorem callConcat2 (a b : List GV) (hl : a.length + b.length ≤ 1000000000) (id : Nat) (σ : Heap) (h : σ[id]? = some (.cells [.isl (GV.encs a) false, .isl (GV.encs b) false] 0 false)) (bs : Nat) :
    callT T 61 [.sl id 0 2 1 false] bs σ = some (.isl (GV.encs (a ++ b)) false, frz σ id 2) := by
  have hc := concat_ok [a, b] (by simp) (by simpa using hl)
  simp only [List.map_cons, List.map_nil, List.flatten_cons, List.flatten_nil, List.append_nil] at hc
  exact call_data rfl rfl rfl hc rfl rfl (by simp [closeT, close1, close0, h, window, chunk, mk])
def doCons (l args : List GV) : Option GV := match args with | a :: _ => made (listV (a :: l)) | [] => none
def doAppend (l args : List GV) : Option GV := made (listV (l ++ args.tail))
def doConcat (l args : List GV) : Option GV := match args with | _ :: b :: _ => if b.kind = 4 then made (listV (l ++ b.items)) else none | _ => none
def doMember (l args : List GV) : Option GV := match args with | _ :: b :: _ => some (numV (if l.any (fun x => decide (cmpV x b = 0)) then 1 else 0)) | _ => none
theorem listV_size (l : List GV) : (listV l).size = GV.sizes l + 5 := by
  have : (⟨#[]⟩ : ByteArray).size = 0 := rfl
  simp only [listV, GV.size, this]; omega
theorem sizes_append (a b : List GV) : GV.sizes (a ++ b) = GV.sizes a + GV.sizes b := by
  induction a with
  | nil => simp [GV.sizes]
  | cons x a ih => simp only [List.cons_append, GV.sizes, ih]; omega
theorem cons_ok (l : List GV) (a : GV) (as' : List GV) (hs : GV.sizes l + a.size ≤ 1000000000) : pureT T c48 [.isl (GV.encs l) false, .isl (GV.encs (a :: as')) false] = some (resO (doCons l (a :: as'))) := by
  have hlen := len_sizes l
  have hsz : (listV (a :: l)).size ≤ 100000000000 := by rw [listV_size]; simp only [GV.sizes]; omega
  have he : GV.encs (a :: as') = a.enc :: GV.encs as' := rfl
  apply pure_enter (by simp [c48])
  by_cases hl : l = []
  · subst hl
    have hc : ∀ A, close1 [A, .cells a.enc.cells 0 false] (.sl 1 0 1 4 true) = some (.isl (GV.encs [a]) false, [A, .cells a.enc.cells 4 false]) := fun A => by
      have := close1_flat (σ := [A, .cells a.enc.cells 0 false]) (id := 1) (fz := 0) (ext := false) (es := GV.encs [a]) (by rw [show flat (GV.encs [a]) = a.enc.cells by simp [flat]]; rfl) (by simp) (encsV_agg _) (encsV_clo _)
      simpa [frz] using this
    have hL := fun A => callListN [a] (by simp) (by simp) (.sl 1 0 1 4 true) _ _ (hc A) rfl
    have ha := fun A => app_isl_nil3 (σ := [A, .cells a.enc.cells 0 false]) (id := 1) (bytes := 56) (c := false) (sz := 4) rfl (by simp)
    have hR := fun A B C D => callRightN (l := [a]) (id := 4) (σ := [A, B, C, D, .cells (flat (GV.encs [a])) 0 true]) (by simp) hsz rfl 0
    have hcs : ∀ A, closeS [A, .cells a.enc.cells 0 false] (.sl 1 0 1 4 true) = [A, .cells a.enc.cells 0 false] := fun A => closeS_tidy (cs := a.enc.cells) (fz := 0) (ext := false) rfl (by rw [GV.enc_cells]; rfl)
    simp at hL hR ha hcs
    simp [c48, he, setRun, hcs, ha, hL, hR, resO, frz, enc_mk]
    exact ⟨rfl, rfl⟩
  · have ha := fun B => app_isl_sl1 (σ := [B, .cells a.enc.cells 0 false]) (sz := 4) (bytes := 56) (id := 1) (c := false) (cs := a.enc.cells) (xs := GV.encs l) rfl (by simp) (by simp) (fun e => hl ((encs_nil _).1 e)) (encs_okEl l) (by simp; omega) (by omega) (by omega)
    have hae : AV.agg a.enc.cells :: GV.encs l = GV.encs (a :: l) := by rw [GV.enc_cells, GV.enc_fold]; rfl
    simp only [hae] at ha
    have hL := fun σ k => callListN (a :: l) (by simp) (by simp; omega) (.own k (GV.encs (a :: l))) σ σ rfl rfl
    have hR := fun A B C D E => callRightN (l := a :: l) (id := 5) (σ := [A, B, C, D, E, .cells (flat (GV.encs (a :: l))) 0 true]) (by simp) hsz rfl 0
    have hcs : ∀ A, closeS [A, .cells a.enc.cells 0 false] (.sl 1 0 1 4 true) = [A, .cells a.enc.cells 0 false] := fun A => closeS_tidy (cs := a.enc.cells) (fz := 0) (ext := false) rfl (by rw [GV.enc_cells]; rfl)
    simp at ha hL hR hcs
    simp [c48, he, setRun, hcs, ha, hL, hR, resO, frz, enc_mk]
    exact ⟨rfl, rfl⟩
theorem both_lists (l : List GV) (hs : GV.sizes l ≤ 1000000000) (S : Heap) (hlen : S.length = 2) :
    (l = [] → ∀ c, callT T 60 [.isl (GV.encs l) c] 0 S = some (.agg [.int .i64 4, .int .i64 0, .str ⟨#[]⟩, .isl [] true], S ++ [.cells [.int .i64 4, .int .i64 0, .str ⟨#[]⟩, .isl [] true] 0 false])) ∧
    (l ≠ [] → ∀ c, callT T 60 [.isl (GV.encs l) c] 0 S = some (.agg [.int .i64 4, .int .i64 0, .str ⟨#[]⟩, .sl 4 0 l.length 4 true], S ++ [.cells [.int .i64 4, .int .i64 0, .str ⟨#[]⟩, .sl 4 0 l.length 4 true] 0 false, .cells [] 0 false, .cells (flat (GV.encs l)) 0 true])) := by
  have hl := len_sizes l
  refine ⟨fun h c => ?_, fun h c => ?_⟩
  · subst h; exact callList0 (.isl [] c) S rfl rfl
  · have := callListN l h (by omega) (.isl (GV.encs l) c) S S rfl rfl
    rw [hlen] at this; exact this
theorem append_ok (l as' : List GV) (a : GV) (hs : GV.sizes l + GV.sizes as' ≤ 1000000000) : pureT T c49 [.isl (GV.encs l) false, .isl (GV.encs (a :: as')) false] = some (resO (doAppend l (a :: as'))) := by
  have hl1 := len_sizes l
  have hl2 := len_sizes as'
  have hsz : (listV (l ++ as')).size ≤ 100000000000 := by rw [listV_size, sizes_append]; omega
  have he : GV.encs (a :: as') = a.enc :: GV.encs as' := rfl
  have hd : doAppend l (a :: as') = made (listV (l ++ as')) := rfl
  have hC := fun A => callConcat2 l as' (by omega) 1 [A, .cells [.isl (GV.encs l) false, .isl (GV.encs as') false] 0 false] rfl
  have hall := encsV_len (a :: as')
  have hcl : ∀ x ∈ GV.encs as', x.cells.length = 4 := fun x hx => encsV_len as' x hx
  have hL := fun A B => both_lists (l ++ as') (by rw [sizes_append]; omega) [A, B] rfl
  apply pure_enter (by simp [c49])
  have hsl := slSl_tail (c := false) (fun e h => encsV_len (a :: as') e h)
  by_cases hn : l ++ as' = []
  · have hL := fun A B => (hL A B).1 hn
    simp only [hn] at hL hC
    simp at hL hC
    have hR := callRight0
    simp [c49, he, setRun, hsl, hC, hL, hR, frz, resO, enc_mk]
    simp [doAppend, hn]
  · have hL := fun A B => (hL A B).2 hn
    have hR := fun A B C D => callRightN (l := l ++ as') (id := 4) (σ := [A, B, C, D, .cells (flat (GV.encs (l ++ as'))) 0 true]) hn hsz rfl 0
    generalize l ++ as' = r at *
    simp at hL hC hR
    simp [c49, he, setRun, hsl, hC, hL, hR, frz, resO, enc_mk, hd]
theorem concatF_ok (l as' : List GV) (a b : GV) (hs : GV.sizes l + b.size ≤ 1000000000) : pureT T c50 [.isl (GV.encs l) false, .isl (GV.encs (a :: b :: as')) false] = some (resO (doConcat l (a :: b :: as'))) := by
  have hl1 := len_sizes l
  have hl2 := len_sizes b.items
  have hbs := items_le b
  have hsz : (listV (l ++ b.items)).size ≤ 100000000000 := by rw [listV_size, sizes_append]; omega
  have he : GV.encs (a :: b :: as') = a.enc :: b.enc :: GV.encs as' := rfl
  have hd : doConcat l (a :: b :: as') = if b.kind = 4 then made (listV (l ++ b.items)) else none := rfl
  rw [hd]
  have hC := fun A => callConcat2 l b.items (by omega) 1 [A, .cells [.isl (GV.encs l) false, .isl (GV.encs b.items) false] 0 false] rfl
  have hL := fun A B => both_lists (l ++ b.items) (by rw [sizes_append]; omega) [A, B] rfl
  apply pure_enter (by simp [c50])
  by_cases hk : b.kind = 4
  · rw [if_pos hk]
    by_cases hn : l ++ b.items = []
    · have hL := fun A B => (hL A B).1 hn
      simp only [hn] at hL hC
      have hR := callRight0
      try simp at hL
      simp [c50, he, setRun, hk, hC, hL, hR, frz, resO, enc_mk, hn]
    · have hL := fun A B => (hL A B).2 hn
      have hR := fun A B C D => callRightN (l := l ++ b.items) (id := 4) (σ := [A, B, C, D, .cells (flat (GV.encs (l ++ b.items))) 0 true]) hn hsz rfl 0
      generalize l ++ b.items = r at *
      try simp at hL
      try simp at hR
      simp [c50, he, setRun, hk, hC, hL, hR, frz, resO, enc_mk]
  · rw [if_neg hk]
    simp [c50, he, setRun, hk, resO, nilV, GV.enc]
theorem size_ok (l args : List GV) (hl : l.length ≤ 1000000000) : pureT T c52 [.isl (GV.encs l) false, .isl (GV.encs args) false] = some (resO (some (numV l.length))) := by
  apply pure_enter (by simp [c52])
  simp [c52, setRun, callNumber, resO, enc_mk]
theorem rest_ok (l args : List GV) (hl : l.length ≤ 1000000000) : pureT T c54 [.isl (GV.encs l) false, .isl (GV.encs args) false] = some (resO (if l = [] then none else some (listV l.tail))) := by
  apply pure_enter (by simp [c54])
  cases l with
  | nil => simp [c54, setRun, resO, nilV, GV.enc]
  | cons x l =>
    have he : GV.encs (x :: l) = x.enc :: GV.encs l := rfl
    have hsl := slSl_tail (c := false) (fun e h => encsV_len (x :: l) e h)
    simp at hl
    have hlen : (GV.encs (x :: l)).length = l.length + 1 := by simp
    by_cases hn : l = []
    · subst hn
      have hL := fun A => callList0 (.isl [] false) [A] rfl rfl
      have hsl := slSl_tail (sz := 4) (x := x.enc) (es := []) (c := false) (by simp)
      try simp at hL
      simp [c54, he, setRun, hsl, hL, resO, listV, GV.enc]
    · have hL := fun A => callListN l hn (by omega) (.isl (GV.encs l) false) [A] [A] rfl rfl
      have hcl := fun A B C => close1_flat (σ := [A, B, C, .cells (flat (GV.encs l)) 0 true]) (id := 3) rfl (fun e => hn ((encs_nil l).1 e)) (encsV_agg l) (encsV_clo l)
      try simp at hL
      try simp at hcl
      have hne : ¬ ((l.length : Int) + 1 = 0) := by omega
      simp [c54, he, setRun, hsl, hL, resO, listV, GV.enc, hne, hcl, frz]
theorem indexE_ok (p : GV → Bool) (l : List GV) (g : Nat) (caps : List AV) (hl : l.length ≤ 100000000000) (hc : ∀ x ∈ l, ∀ bs σ, callT T g (x.enc :: caps) bs σ = some (.bool (p x), σ)) :
    pureT T c72 [.isl (GV.encs l) false, .func g caps] = some (.int .i64 (idxI p l)) := by
  apply pure_enter (by simp [c72])
  simp [c72]
  refine W_for T 0 19 l.length (fun i f σ => f 0 = .isl (GV.encs l) false ∧ f 1 = .func g caps ∧ f 7 = .int .i64 (l.length : Int) ∧ f 8 = .int .i64 (i : Int) ∧ ∀ j, (hj : j < l.length) → j < i → p l[j] = false) ?_ _ _ ?_
  · rintro i f σ hi ⟨h0, h1, h7, h8, hall⟩
    by_cases hlt : i < l.length
    · have e1 : l[i]? = some l[i] := List.getElem?_eq_getElem hlt
      have hcl := hc l[i] (List.getElem_mem hlt)
      cases hp : p l[i]
      · simp [h0, h1, h7, h8, hlt, hcl, hp]
        refine ⟨wr64 (by omega) (by omega), fun j hj hji => ?_⟩
        by_cases e : j = i
        · subst e; exact hp
        · exact hall j hj (by omega)
      · simp [h0, h1, h7, h8, hlt, hcl, hp]
        simp [idxI, findIdx_drop p l i hlt hall hp]
    · have he : i = l.length := by omega
      subst he
      have hn : l.findIdx? p = none := by
        rw [List.findIdx?_eq_none_iff]
        intro x hx
        obtain ⟨j, hj, rfl⟩ := List.getElem_of_mem hx
        exact hall j hj hj
      simp [h0, h1, h7, h8, idxI, hn]
  · simp
theorem containsE_ok (p : GV → Bool) (l : List GV) (g : Nat) (caps : List AV) (hcl : caps.all AV.cleanC = true) (hl : l.length ≤ 100000000000) (hc : ∀ x ∈ l, ∀ bs σ, callT T g (x.enc :: caps) bs σ = some (.bool (p x), σ)) :
    pureT T c62 [.isl (GV.encs l) false, .func g caps] = some (.bool (l.any p)) := by
  have h1 : ∀ bs σ, callT T 72 [.isl (GV.encs l) false, .func g caps] bs σ = some (.int .i64 (idxI p l), σ) := fun bs σ => call_clean rfl rfl rfl (by simp [hcl]) (indexE_ok p l g caps hl hc)
  apply pure_enter (by simp [c62])
  have h2 : (0 ≤ idxI p l) ↔ l.any p = true := by
    unfold idxI
    cases h : l.findIdx? p with
    | none => rw [List.findIdx?_eq_none_iff] at h; simp only [List.any_eq_true]; exact ⟨fun h => by omega, fun ⟨x, hx, hp⟩ => by rw [h x hx] at hp; cases hp⟩
    | some i =>
      rw [List.findIdx?_eq_some_iff_getElem] at h
      obtain ⟨hi, hp, _⟩ := h
      exact ⟨fun _ => List.any_eq_true.2 ⟨_, List.getElem_mem hi, hp⟩, fun _ => by simp⟩
  simp [c62, h1]
  refine ⟨fun h => by simpa using h2.1 h, fun h => ?_⟩
  have : ¬ l.any p = true := fun hh => by have := h2.2 hh; omega
  simpa using this
theorem member1_ok (x : GV) (a b : GV) (as' : List GV) (hs : x.size ≤ 100000000000) : pureT T c63 [x.enc, .iptr [.isl (GV.encs (a :: b :: as')) false] 0] = some (.bool (decide (cmpV x b = 0))) := by
  have he : GV.encs (a :: b :: as') = a.enc :: b.enc :: GV.encs as' := rfl
  have hc := valCmp x b hs
  apply pure_enter (by simp [c63])
  simp [c63, he, hc]
theorem member_ok (l as' : List GV) (a b : GV) (hs : GV.sizes l ≤ 1000000000) : pureT T c51 [.isl (GV.encs l) false, .isl (GV.encs (a :: b :: as')) false] = some (resO (doMember l (a :: b :: as'))) := by
  have hl1 := len_sizes l
  have hcl : ∀ x ∈ l, ∀ bs σ, callT T 63 [x.enc, .iptr [.isl (GV.encs (a :: b :: as')) false] 0] bs σ = some (.bool (decide (cmpV x b = 0)), σ) := fun x hx bs σ =>
    call_clean rfl rfl rfl (by simp) (member1_ok x a b as' (by have := (sizes_mem hx).1; omega))
  have hcont : ∀ bs A, callT T 62 [.isl (GV.encs l) false, .func 63 [.ptr 0 0]] bs [.cells [.isl (GV.encs (a :: b :: as')) false] 0 false, A] = some (.bool (sym (l.any fun x => decide (cmpV x b = 0))), [.cells [.isl (GV.encs (a :: b :: as')) false] 0 false, A]) := fun bs A =>
    call_scal rfl rfl rfl (containsE_ok _ l 63 [.iptr [.isl (GV.encs (a :: b :: as')) false] 0] (by simp) (by omega) hcl) rfl (by simp) (by simp [frz]; rfl)
  have hd : doMember l (a :: b :: as') = some (numV (if l.any (fun x => decide (cmpV x b = 0)) then 1 else 0)) := rfl
  rw [hd]
  generalize GV.encs (a :: b :: as') = es at *
  apply pure_enter (by simp [c51])
  generalize (l.any fun x => decide (cmpV x b = 0)) = r at *
  cases r <;> simp [c51, setRun, hcont, callNumber, resO, enc_mk]
end Go.Proofs.Ytddmjmkbnfoodaa
end
section
namespace Go.Proofs.Ytddmjmkbnfoodaa
open Go.Mach
def sw (l : List GV) (k : Nat) : List GV := (List.range l.length).map fun p => if p < k ∨ l.length - k ≤ p then l.getD (l.length - 1 - p) default else l.getD p default
@[simp] theorem sw_len (l : List GV) (k : Nat) : (sw l k).length = l.length := by simp [sw]
def gd (l : List GV) (p : Nat) : GV := (l[p]?).getD default
theorem gd_get {l : List GV} {p : Nat} (h : p < l.length) : l[p]? = some (gd l p) := by simp [gd, h]
theorem sw_get (l : List GV) (k p : Nat) : (sw l k)[p]? = if p < l.length then some (if p < k ∨ l.length - k ≤ p then gd l (l.length - 1 - p) else gd l p) else none := by
  simp only [sw, List.getElem?_map]
  by_cases h : p < l.length
  · rw [List.getElem?_range h, if_pos h]; rfl
  · rw [List.getElem?_eq_none (by simp; omega), if_neg h]; rfl
theorem sw_zero (l : List GV) : sw l 0 = l := by
  apply List.ext_getElem?
  intro p
  rw [sw_get]
  by_cases h : p < l.length
  · rw [if_pos h, if_neg (by omega), gd_get h]
  · rw [if_neg h, List.getElem?_eq_none (by omega)]
theorem sw_end (l : List GV) (k : Nat) (h : k = l.length / 2) : sw l k = l.reverse := by
  apply List.ext_getElem?
  intro p
  rw [sw_get]
  by_cases hp : p < l.length
  · rw [if_pos hp, List.getElem?_reverse hp, gd_get (by omega)]
    split
    · rfl
    · congr 2; omega
  · rw [if_neg hp, List.getElem?_eq_none (by simp; omega)]
theorem sw_step (l : List GV) (k : Nat) (h : 2 * k + 1 < l.length) : ((sw l k).set k (gd l (l.length - 1 - k))).set (l.length - 1 - k) (gd l k) = sw l (k + 1) := by
  apply List.ext_getElem?
  intro p
  rw [List.getElem?_set, List.getElem?_set, sw_get, sw_get, List.length_set, sw_len]
  by_cases hp : p < l.length
  · simp only [if_pos hp]
    by_cases e1 : l.length - 1 - k = p
    · rw [if_pos e1, if_pos (by omega), if_pos (by omega)]
      congr 2; omega
    · rw [if_neg e1]
      by_cases e2 : k = p
      · rw [if_pos e2, if_pos (by omega), if_pos (by omega)]
        congr 2; omega
      · rw [if_neg e2]
        by_cases e3 : p < k ∨ l.length - k ≤ p
        · rw [if_pos e3, if_pos (by omega)]
        · rw [if_neg e3, if_neg (by omega)]
  · rw [if_neg (by omega), if_neg (by omega), if_neg hp, if_neg hp]
theorem List.set_getElem?_self {α : Type} {l : List α} {i : Nat} {x : α} (h : l[i]? = some x) : l.set i x = l := by
  obtain ⟨hi, rfl⟩ := List.getElem?_eq_some_iff.1 h
  simp
theorem reverse_call0 (c : Bool) (bs : Nat) (σ : Heap) : callT T 65 [.isl [] c] bs σ = some (.tup [], σ) := by
  refine heap_enter (af := c65) (args' := [.isl [] c]) (σ1 := σ) rfl rfl (by simp [c65]) (by simp [c65]) rfl ?_
  simp [c65]
  refine W_for T _ 28 0 (fun i f σ' => f 2 = .int .i64 0 ∧ f 3 = .int .i64 (-1) ∧ σ' = σ) ?_ _ _ ?_
  · rintro i f σ' hi ⟨h2, h3, rfl⟩
    simp [h2, h3, res1]
  · simp [wr64]
theorem reverse_call (l : List GV) (id : Nat) (bs : Nat) (σ : Heap) (hl : l.length ≤ 1000000000) (h : σ[id]? = some (.cells (flat (GV.encs l)) 0 true)) :
    callT T 65 [.sl id 0 l.length 4 true] bs σ = some (.tup [], σ.set id (.cells (flat (GV.encs l.reverse)) 0 true)) := by
  have hid : id < σ.length := (List.getElem?_eq_some_iff.1 h).1
  refine heap_enter (af := c65) (args' := [.sl id 0 l.length 4 true]) (σ1 := σ) rfl rfl (by simp [c65]) (by simp [c65]) rfl ?_
  have hw0 : IntKind.i64.wrap ((l.length : Int) - 1) = (l.length : Int) - 1 := wr64 (by omega) (by omega)
  simp [c65, hw0]
  refine W_for T _ 28 (l.length / 2) (fun k f σ' => f 0 = .sl id 0 l.length 4 true ∧ f 2 = .int .i64 (k : Int) ∧ f 3 = .int .i64 ((l.length : Int) - 1 - (k : Int)) ∧ σ' = σ.set id (.cells (flat (GV.encs (sw l k))) 0 true)) ?_ _ _ ?_
  · rintro k f σ' hk ⟨h0, h2, h3, rfl⟩
    by_cases hlt : k < l.length / 2
    · have hw : IntKind.i64.wrap ((k : Int) + 1) = (k : Int) + 1 := wr64 (by omega) (by omega)
      have hw2 : IntKind.i64.wrap ((l.length : Int) - 1 - (k : Int) - 1) = (l.length : Int) - 1 - ((k : Int) + 1) := by rw [wr64 (by omega) (by omega)]; omega
      have hj : ((l.length : Int) - 1 - (k : Int)).toNat = l.length - 1 - k := by omega
      have hc1 : (k : Int) < (l.length : Int) - 1 - (k : Int) := by omega
      have hc2 : (k : Int) < (l.length : Int) := by omega
      have hc3 : (0 : Int) ≤ (l.length : Int) - 1 - (k : Int) := by omega
      have hc4 : (l.length : Int) - 1 - (k : Int) < (l.length : Int) := by omega
      have hc5 : (k : Int) ≤ (l.length : Int) - 1 := by omega
      have hwk := flat_win (s := 4) (es := GV.encs (sw l k)) (i := k) (by simp; omega) (encsV_len _)
      have hwj := flat_win (s := 4) (es := GV.encs (sw l k)) (i := l.length - 1 - k) (by simp; omega) (encsV_len _)
      have hlen := flat_len (encsV_len (sw l k))
      have hstep := sw_step l k (by omega)
      have hs1 := flat_set (s := 4) (v := (gd l (l.length - 1 - k)).enc) (by simp) (es := GV.encs (sw l k)) (i := k) (by simp; omega) (encsV_len _)
      have hs2 := flat_set (s := 4) (v := (gd l k).enc) (by simp) (es := GV.encs ((sw l k).set k (gd l (l.length - 1 - k)))) (i := l.length - 1 - k) (by simp; omega) (encsV_len _)
      have hset : ∀ (m : List GV) (i : Nat) (v : GV), (GV.encs m).set i v.enc = GV.encs (m.set i v) := fun m i v => by simp [GV.encs_map, List.map_set]
      rw [hset] at hs1 hs2
      rw [hstep] at hs2
      have hvk : (sw l k)[k]'(by simp; omega) = gd l k := by
        have := sw_get l k k
        rw [if_pos (by omega), if_neg (by omega), List.getElem?_eq_getElem (by simp; omega)] at this
        injection this
      have hvj : (sw l k)[l.length - 1 - k]'(by simp; omega) = gd l (l.length - 1 - k) := by
        have := sw_get l k (l.length - 1 - k)
        rw [if_pos (by omega), if_neg (by omega), List.getElem?_eq_getElem (by simp; omega)] at this
        injection this
      have hb1 : k * 4 + 4 ≤ (flat (GV.encs (sw l k))).length := by rw [hlen]; simp; omega
      have hb2 : (l.length - 1 - k) * 4 + 4 ≤ (flat (GV.encs ((sw l k).set k (gd l (l.length - 1 - k))))).length := by rw [flat_len (encsV_len _)]; simp; omega
      rw [GV.encs_getE, hvk] at hwk
      rw [GV.encs_getE, hvj] at hwj
      generalize gd l (l.length - 1 - k) = vj at *
      generalize gd l k = vk at *
      simp at hwk hwj hs1 hs2
      simp [h0, h2, h3, hw, hw2, hj, hc1, hc2, hc3, hc4, hc5, hid, hlt, baseA, hwk, hwj, hb1, hb2, hs1, hs2]
    · have he : k = l.length / 2 := by omega
      have hc1 : ¬ ((k : Int) < (l.length : Int) - 1 - (k : Int)) := by omega
      simp [h0, h2, h3, hc1, res1, sw_end l k he]
  · simp [sw_zero]
    exact (List.set_getElem?_self h).symm
theorem revF_ok (l args : List GV) (hl : l.length ≤ 1000000000) : pureT T c55 [.isl (GV.encs l) false, .isl (GV.encs args) false] = some (resO (some (listV l.reverse))) := by
  apply pure_enter (by simp [c55])
  by_cases hn : l = []
  · subst hn
    have hL := fun A => callList0 (.isl [] false) [A] rfl rfl
    have hR := fun c => reverse_call0 c 0
    try simp at hL
    simp [c55, setRun, hL, hR, resO, listV, GV.enc]
  · have hL := fun A => callListN l hn (by omega) (.isl (GV.encs l) false) [A] [A] rfl rfl
    have hR := fun A B C D => reverse_call l 3 0 [A, B, C, .cells (flat (GV.encs l)) 0 true, D] hl rfl
    have hcl := fun A B C D => close1_flat (σ := [A, B, C, .cells (flat (GV.encs l.reverse)) 0 true, D]) (id := 3) rfl (fun e => hn (by have := (encs_nil _).1 e; simpa using this)) (encsV_agg _) (encsV_clo _)
    try simp at hL
    try simp at hR
    try simp at hcl
    simp [c55, setRun, hL, hR, resO, listV, GV.enc, hcl]
theorem end1_ok (b : Bool) (l args : List GV) (hl : l.length ≤ 1000000000) : pureT T c64 [.isl (GV.encs l) false, .isl (GV.encs args) false, .iptr [.bool b] 0] = some (resO (if b then l.getLast? else l.head?)) := by
  apply pure_enter (by simp [c64])
  by_cases hn : l = []
  · subst hn
    cases b <;> simp [c64, setRun, resO, nilV, GV.enc]
  · have hpos : 0 < l.length := List.length_pos_iff.2 hn
    have hn0 : ¬ (l.length = 0) := by omega
    have hw : IntKind.i64.wrap ((l.length : Int) - 1) = (l.length : Int) - 1 := wr64 (by omega) (by omega)
    have hc1 : (1 : Int) ≤ (l.length : Int) := by omega
    have hc2 : ((l.length : Int) - 1).toNat = l.length - 1 := by omega
    have hc3 : l.length - 1 < l.length := by omega
    cases b
    · have e1 : l[0]? = some (l[0]'hpos) := List.getElem?_eq_getElem hpos
      have e2 : l.head? = some (l[0]'hpos) := by rw [List.head?_eq_getElem?, e1]
      have hlen : (GV.encs l)[0]? = some (l[0]'hpos).enc := by simp [e1]
      simp [c64, setRun, resO, hn, e1, e2, enc_mk, hn0]
    · have e1 : l[l.length - 1]? = some (l[l.length - 1]'hc3) := List.getElem?_eq_getElem hc3
      have e2 : l.getLast? = some (l[l.length - 1]'hc3) := by rw [List.getLast?_eq_getElem?, e1]
      simp [c64, setRun, resO, hn, hw, hc1, hc2, e1, e2, enc_mk, hn0]
theorem fresh_ok : ∀ (n : Nat) (v : GV), v.size ≤ n → n ≤ 1000000000 → pureT T c43 [v.enc] = some v.enc := by
  intro n
  induction n with
  | zero => intro v h; cases v; simp [GV.size] at h
  | succ n ih =>
    intro v hs hn
    have hil := items_le v
    have hlen := len_sizes v.items
    have hcall : ∀ x ∈ v.items, ∀ bs σ, callT T 43 [x.enc] bs σ = some (x.enc, σ) := fun x hx bs σ => call_clean rfl rfl rfl (by simp) (ih x (by have := (sizes_mem hx).1; omega) (by omega))
    apply pure_enter (by simp [c43])
    by_cases hk : v.kind = 4
    · by_cases he : v.items = []
      · simp [c43, hk, he, callClone0, setRun]
        refine W_for T 0 28 0 (fun i f σ => f 1 = .ptr 0 0 ∧ f 2 = .ptr 1 0 ∧ f 14 = .int .i64 0 ∧ f 15 = .int .i64 0 ∧ σ = [.cells [.int .i64 4, .int .i64 v.num, .str v.text, .isl [] true] 0 false, .cells [.int .i64 0, .int .i64 0, .str ⟨#[]⟩, .isl [] true] 0 false]) ?_ _ _ ?_
        · rintro i f σ hi ⟨h1, h2, h14, h15, rfl⟩
          simp [h1, h2, h14, h15, setRun]
          simp [GV.enc_eq v, hk, he]
        · simp
      · simp [c43, hk, callClone v.items false he (by omega), setRun]
        refine W_for T 0 28 v.items.length (fun i f σ => f 1 = .ptr 0 0 ∧ f 2 = .ptr 1 0 ∧ f 13 = .sl 3 0 v.items.length 4 true ∧ f 14 = .int .i64 (v.items.length : Int) ∧ f 15 = .int .i64 (i : Int) ∧ ∃ rest, σ = [.cells [.int .i64 4, .int .i64 v.num, .str v.text, .sl 3 0 v.items.length 4 true] 0 false, .cells [.int .i64 0, .int .i64 0, .str ⟨#[]⟩, .isl [] true] 0 false, .cells [] 0 false, .cells (flat (GV.encs v.items)) 0 true] ++ rest) ?_ _ _ ?_
        · rintro i f σ hi ⟨h1, h2, h13, h14, h15, rest, rfl⟩
          by_cases hlt : i < v.items.length
          · have hw : IntKind.i64.wrap ((i : Int) + 1) = (i : Int) + 1 := wr64 (by omega) (by omega)
            have hcl := hcall v.items[i] (List.getElem_mem hlt)
            have hwk := flat_win (s := 4) (es := GV.encs v.items) (i := i) (by simpa using hlt) (encsV_len _)
            have hs1 := flat_set (s := 4) (v := (v.items[i]).enc) (by simp) (es := GV.encs v.items) (i := i) (by simpa using hlt) (encsV_len _)
            have hset : (GV.encs v.items).set i (v.items[i]).enc = GV.encs v.items := by
              have := GV.encs_getE v.items i (by simpa using hlt)
              rw [← this, List.set_getElem_self]
            have hb : i * 4 + 4 ≤ (flat (GV.encs v.items)).length := by rw [flat_len (encsV_len _)]; simp; omega
            rw [hset] at hs1
            rw [GV.encs_getE] at hwk
            generalize v.items[i] = x at *
            simp at hwk hs1
            simp [h1, h2, h13, h14, h15, hlt, hw, hcl, hwk, hs1, hb, enc_mk, setRun]
          · have he2 : i = v.items.length := by omega
            subst he2
            have hcl := close1_flat (σ := [.cells [.int .i64 4, .int .i64 v.num, .str v.text, .sl 3 0 v.items.length 4 true] 0 false, .cells [.int .i64 4, .int .i64 v.num, .str v.text, .sl 3 0 v.items.length 4 true] 0 false, .cells [] 0 false, .cells (flat (GV.encs v.items)) 0 true] ++ rest) (id := 3) rfl (fun e => he ((encs_nil _).1 e)) (encsV_agg _) (encsV_clo _)
            simp at hcl
            simp [h1, h2, h13, h14, h15, setRun, hcl]
            simp [GV.enc_eq v, hk]
        · simp
    · simp [c43, hk, setRun]
theorem callFresh (v : GV) (hs : v.size ≤ 1000000000) (bs : Nat) (σ : Heap) : callT T 43 [v.enc] bs σ = some (v.enc, σ) := call_clean rfl rfl rfl (by simp) (fresh_ok v.size v (Nat.le_refl _) hs)
end Go.Proofs.Ytddmjmkbnfoodaa
end
section
namespace Go.Proofs.Ytddmjmkbnfoodaa
open Go.Mach
theorem call1_ok (x : GV) (hs : x.size ≤ 100000000000) (bs : Nat) (σ : Heap) : callT T 41 [x.enc] bs σ = some (.bool (!rightT x), σ) := by
  have hr := valRight x hs
  refine call_clean rfl rfl rfl (by simp) ?_
  apply pure_enter (by simp [c41])
  simp [c41, hr, enc_mk]
theorem bcall_gen (s : ByteArray) (ar ix f : Nat) (caps : List AV) (hf : findV s = .agg [.int .i64 (ar : Int), .int .i64 (ix : Int), .func f caps]) (hix : ix < ar) (args : List GV) (hsz : ∀ a ∈ args, a.size ≤ 100000000000) (hlen : args.length ≤ 1000000000) (D : GV → Option GV)
    (hdo : args.length = ar → (∀ a ∈ args, rightT a = true) → ∀ a, args[ix]? = some a → a.kind = 4 → (∀ bs σ, callT T f ([.isl (GV.encs a.items) false, .isl (GV.encs args) false] ++ caps) bs σ = some (resO (D a), σ)) ∧ (∀ v, D a = some v → v.size ≤ 1000000000)) :
    pureT T c30 [.str s, .isl (GV.encs args) false] = some (resO (if args.length = ar ∧ args.all rightT = true then (args[ix]?).bind fun a => if a.kind = 4 then D a else none else none)) := by
  have hfind := callFind s
  rw [hf] at hfind
  have hcont := fun bs σ => call_contains (fun x => !rightT x) args 41 [] (by simp) (by omega) (fun x hx bs σ => call1_ok x (hsz x hx) bs σ) bs σ
  apply pure_enter (by simp [c30])
  by_cases hl : args.length = ar
  · have hlc : (ar : Int) = (args.length : Int) := by omega
    by_cases hr : args.all rightT = true
    · have hany : args.any (fun x => !rightT x) = false := by
        rw [Bool.eq_false_iff]; intro h
        rw [List.any_eq_true] at h
        obtain ⟨x, hx, h⟩ := h
        rw [List.all_eq_true.1 hr x hx] at h; cases h
      have hix2 : ix < args.length := by omega
      obtain ⟨a, ha⟩ : ∃ a, args[ix]? = some a := ⟨_, List.getElem?_eq_getElem hix2⟩
      have hae : args[ix]'hix2 = a := by rw [List.getElem?_eq_getElem hix2] at ha; injection ha
      have hg : (GV.encs args)[ix]? = some a.enc := by simp [ha]
      rw [if_pos ⟨hl, hr⟩, ha, Option.bind_some]
      by_cases hk : a.kind = 4
      · rw [if_pos hk]
        obtain ⟨hd, hds⟩ := hdo hl (List.all_eq_true.1 hr) a ha hk
        have hfr := callFresh ((D a).getD nilV) (by
          cases hD : D a with
          | none => decide
          | some v => exact hds v hD)
        simp only [List.cons_append, List.nil_append, resO] at hd
        simp [c30, hfind, hlc, hcont, hany, ha, hk, hd, hfr, setRun, resO, enc_mk, gv_eta]
      · rw [if_neg hk]
        simp [c30, hfind, hlc, hcont, hany, ha, hk, setRun, resO, nilV, GV.enc]
    · have hany : args.any (fun x => !rightT x) = true := by
        rw [List.any_eq_true]
        simp only [List.all_eq_true, Classical.not_forall] at hr
        obtain ⟨x, hx, h⟩ := hr
        exact ⟨x, hx, by simpa using h⟩
      rw [if_neg (fun h => hr h.2)]
      simp [c30, hfind, hlc, hcont, hany, setRun, resO, nilV, GV.enc]
  · have hlc : ¬ (ar : Int) = (args.length : Int) := by omega
    rw [if_neg (fun h => hl h.1)]
    simp [c30, hfind, hlc, setRun, resO, nilV, GV.enc]
def callD (s : ByteArray) (args : List GV) (a : GV) : Option GV :=
  if s = sCons then doCons a.items args else if s = sAppend then doAppend a.items args else if s = sConcat then doConcat a.items args else if s = sMember then doMember a.items args
  else if s = sSize then some (numV a.items.length) else if s = sFirst then a.items.head? else if s = sLast then a.items.getLast? else if s = sRest then (if a.items = [] then none else some (listV a.items.tail)) else some (listV a.items.reverse)
def callV (s : ByteArray) (args : List GV) : Option GV :=
  if (args.length : Int) = arityOf s ∧ args.all rightT = true then (args[if s = sCons then 1 else 0]?).bind fun a => if a.kind = 4 then callD s args a else none else none
theorem made_some {v w : GV} (h : made v = some w) : w = v ∧ rightT v = true := by
  unfold made at h; split at h
  · rename_i hr; injection h with h; exact ⟨h.symm, hr⟩
  · cases h
theorem numV_size (n : Int) : (numV n).size = 5 := by simp only [numV, GV.size, GV.sizes]; rfl
theorem sizes_reverse (l : List GV) : GV.sizes l.reverse = GV.sizes l := by
  induction l with
  | nil => rfl
  | cons x l ih => rw [List.reverse_cons, sizes_append, ih]; simp only [GV.sizes]; omega
theorem callD_size {s : ByteArray} {args : List GV} {a v : GV} (ha : a.size ≤ 2936010) (h : callD s args a = some v) : v.size ≤ 2936020 := by
  have hil := items_le a
  have hm : ∀ {w}, made w = some v → v.size ≤ 2936020 := fun h => by obtain ⟨rfl, hr⟩ := made_some h; have := rightT_size hr; omega
  unfold callD at h
  split at h
  · cases args with
    | nil => cases h
    | cons b args => exact hm h
  split at h
  · exact hm h
  split at h
  · unfold doConcat at h
    split at h
    · split at h
      · exact hm h
      · cases h
    · cases h
  split at h
  · unfold doMember at h
    split at h
    · injection h with h; rw [← h, numV_size]; omega
    · cases h
  split at h
  · injection h with h; rw [← h, numV_size]; omega
  split at h
  · have := (sizes_mem (List.mem_of_head? h)).1; omega
  split at h
  · have := (sizes_mem (List.mem_of_getLast? h)).1; omega
  split at h
  · split at h
    · cases h
    · injection h with h
      rw [← h, listV_size]
      have : GV.sizes a.items.tail ≤ GV.sizes a.items := by cases a.items <;> simp [GV.sizes]
      omega
  · injection h with h
    rw [← h, listV_size, sizes_reverse]; omega
theorem bCall_ok (s : ByteArray) (args : List GV) (hsz : ∀ a ∈ args, a.size ≤ 100000000000) (hlen : args.length ≤ 1000000000) : pureT T c30 [.str s, .isl (GV.encs args) false] = some (resO (callV s args)) := by
  have hrs : (∀ a ∈ args, rightT a = true) → ∀ a ∈ args, a.size ≤ 2936010 := fun h a ha => rightT_size (h a ha)
  have one : ∀ (f : Nat) (caps : List AV), findV s = .agg [.int .i64 1, .int .i64 0, .func f caps] → arityOf s = 1 → s ≠ sCons →
      (∀ a : GV, a.size ≤ 2936010 → args = [a] → ∀ bs σ, callT T f ([.isl (GV.encs a.items) false, .isl (GV.encs args) false] ++ caps) bs σ = some (resO (callD s args a), σ)) →
      pureT T c30 [.str s, .isl (GV.encs args) false] = some (resO (callV s args)) := by
    intro f caps hf har hs hd
    have := bcall_gen s 1 0 f caps hf (by omega) args hsz hlen (callD s args) (fun hl hr a ha hk => by
      have ha0 : a ∈ args := List.mem_of_getElem? ha
      have hargs : args = [a] := by
        match args, hl, ha with
        | [x], _, ha => simp at ha; rw [ha]
      exact ⟨hd a (hrs hr a ha0) hargs, fun v hv => Nat.le_trans (callD_size (hrs hr a ha0) hv) (by omega)⟩)
    rw [this]
    unfold callV
    rw [har, if_neg hs]
    have : ((args.length : Int) = 1) ↔ args.length = 1 := by omega
    simp only [this]
  have two : ∀ (ix f : Nat) (caps : List AV), findV s = .agg [.int .i64 2, .int .i64 (ix : Int), .func f caps] → ix < 2 → arityOf s = 2 → ix = (if s = sCons then 1 else 0) →
      (∀ a b x : GV, a.size ≤ 2936010 → b.size ≤ 2936010 → x.size ≤ 2936010 → args = [a, b] → args[ix]? = some x → ∀ bs σ, callT T f ([.isl (GV.encs x.items) false, .isl (GV.encs args) false] ++ caps) bs σ = some (resO (callD s args x), σ)) →
      pureT T c30 [.str s, .isl (GV.encs args) false] = some (resO (callV s args)) := by
    intro ix f caps hf hix har hs hd
    have := bcall_gen s 2 ix f caps hf hix args hsz hlen (callD s args) (fun hl hr x hx hk => by
      have hx0 : x ∈ args := List.mem_of_getElem? hx
      obtain ⟨a, b, hargs⟩ : ∃ a b, args = [a, b] := by
        match args, hl with
        | [a, b], _ => exact ⟨a, b, rfl⟩
      exact ⟨hd a b x (hrs hr a (by simp [hargs])) (hrs hr b (by simp [hargs])) (hrs hr x hx0) hargs hx, fun v hv => Nat.le_trans (callD_size (hrs hr x hx0) hv) (by omega)⟩)
    rw [this]
    unfold callV
    rw [har, ← hs]
    have : ((args.length : Int) = 2) ↔ args.length = 2 := by omega
    simp only [this]
  have hitems : ∀ a : GV, a.size ≤ 2936010 → GV.sizes a.items ≤ 2936010 ∧ a.items.length ≤ 2936010 := fun a h => by have := items_le a; have := len_sizes a.items; omega
  by_cases h1 : s = sCons
  · refine two 1 48 [] (by simp [findV, h1]) (by omega) (by rw [h1]; decide) (by rw [if_pos h1]) fun a b x ha hb hx hargs hxi bs σ => ?_
    subst hargs
    have := hitems x hx
    exact call_clean rfl rfl rfl (by simp) ((cons_ok x.items a [b] (by omega)).trans (by simp [callD, h1]))
  by_cases h2 : s = sAppend
  · refine two 0 49 [] (by simp [findV, h2]) (by omega) (by rw [h2]; decide) (by rw [if_neg h1]) fun a b x ha hb hx hargs hxi bs σ => ?_
    subst hargs
    have := hitems x hx
    exact call_clean rfl rfl rfl (by simp) ((append_ok x.items [b] a (by simp only [GV.sizes]; omega)).trans (by simp [callD, h2]))
  by_cases h3 : s = sConcat
  · refine two 0 50 [] (by simp [findV, h3]) (by omega) (by rw [h3]; decide) (by rw [if_neg h1]) fun a b x ha hb hx hargs hxi bs σ => ?_
    subst hargs
    have := hitems x hx
    exact call_clean rfl rfl rfl (by simp) ((concatF_ok x.items [] a b (by omega)).trans (by simp [callD, h3]))
  by_cases h4 : s = sMember
  · refine two 0 51 [] (by simp [findV, h4]) (by omega) (by rw [h4]; decide) (by rw [if_neg h1]) fun a b x ha hb hx hargs hxi bs σ => ?_
    subst hargs
    have := hitems x hx
    exact call_clean rfl rfl rfl (by simp) ((member_ok x.items [] a b (by omega)).trans (by simp [callD, h4]))
  by_cases h5 : s = sSize
  · refine one 52 [] (by simp [findV, h5]) (by rw [h5]; decide) h1 fun a ha hargs bs σ => ?_
    have := hitems a ha
    exact call_clean rfl rfl rfl (by simp) ((size_ok a.items args (by omega)).trans (by simp [callD, h5]))
  by_cases h6 : s = sFirst
  · refine one 64 [.iptr [.bool false] 0] (by simp [findV, h6]) (by rw [h6]; decide) h1 fun a ha hargs bs σ => ?_
    have := hitems a ha
    exact call_clean rfl rfl rfl (by simp) ((end1_ok false a.items args (by omega)).trans (by simp [callD, h6]))
  by_cases h7 : s = sLast
  · refine one 64 [.iptr [.bool true] 0] (by simp [findV, h7]) (by rw [h7]; decide) h1 fun a ha hargs bs σ => ?_
    have := hitems a ha
    exact call_clean rfl rfl rfl (by simp) ((end1_ok true a.items args (by omega)).trans (by simp [callD, h7]))
  by_cases h8 : s = sRest
  · refine one 54 [] (by simp [findV, h8]) (by rw [h8]; decide) h1 fun a ha hargs bs σ => ?_
    have := hitems a ha
    exact call_clean rfl rfl rfl (by simp) ((rest_ok a.items args (by omega)).trans (by simp [callD, h8]))
  by_cases h9 : s = sReverse
  · refine one 55 [] (by simp [findV, h9]) (by rw [h9]; decide) h1 fun a ha hargs bs σ => ?_
    have := hitems a ha
    exact call_clean rfl rfl rfl (by simp) ((revF_ok a.items args (by omega)).trans (by simp [callD, h9]))
  have hf : findV s = .agg [.int .i64 (-1), .int .i64 0, .nilfunc] := by simp [findV, h1, h2, h3, h4, h5, h6, h7, h8, h9]
  have har : arityOf s = -1 := by simp [arityOf, h1, h2, h3, h4, h5, h6, h7, h8, h9]
  have hfind := callFind s
  rw [hf] at hfind
  have hv : callV s args = none := by unfold callV; rw [har, if_neg]; omega
  have hlc : ¬ (-1 : Int) = (args.length : Int) := by omega
  rw [hv]
  apply pure_enter (by simp [c30])
  simp [c30, hfind, hlc, setRun, resO, nilV, GV.enc]
theorem callBCall (s : ByteArray) (args : List GV) (hsz : ∀ a ∈ args, a.size ≤ 100000000000) (hlen : args.length ≤ 1000000000) (bs : Nat) (σ : Heap) : callT T 30 [.str s, .isl (GV.encs args) false] bs σ = some (resO (callV s args), σ) := call_clean rfl rfl rfl (by simp) (bCall_ok s args hsz hlen)
end Go.Proofs.Ytddmjmkbnfoodaa
end
section
namespace Go.Proofs.Ytddmjmkbnfoodaa
open Go.Mach
def opV (s : ByteArray) (a b : GV) : Option GV :=
  if a.kind = 1 ∧ b.kind = 1 ∧ rightT a = true ∧ rightT b = true then
    (if s = ⟨#[43]⟩ then made (numV (a.num + b.num)) else if s = ⟨#[45]⟩ then made (numV (a.num - b.num)) else if s = ⟨#[42]⟩ then made (numV (a.num * b.num)) else none)
  else none
theorem right_num {a : GV} (hk : a.kind = 1) (h : rightT a = true) : -2147483647 ≤ a.num ∧ a.num ≤ 2147483647 := by
  have h : rightB a _ = true := h
  unfold rightB at h
  rw [if_pos hk, decide_eq_true_eq] at h
  exact ⟨h.2.2.2, h.2.2.1⟩
theorem mul_bound {a b : Int} (ha : -2147483647 ≤ a ∧ a ≤ 2147483647) (hb : -2147483647 ≤ b ∧ b ≤ 2147483647) : -4611686014132420609 ≤ a * b ∧ a * b ≤ 4611686014132420609 := by
  have h1 : (a * b).natAbs ≤ 2147483647 * 2147483647 := by rw [Int.natAbs_mul]; exact Nat.mul_le_mul (by omega) (by omega)
  omega
theorem bOp_ok (s : ByteArray) (a b : GV) (ha : a.size ≤ 100000000000) (hb : b.size ≤ 100000000000) : pureT T c31 [.str s, a.enc, b.enc] = some (resO (opV s a b)) := by
  have hra := valRight a ha
  have hrb := valRight b hb
  apply pure_enter (by simp [c31])
  unfold opV
  by_cases h : a.kind = 1 ∧ b.kind = 1 ∧ rightT a = true ∧ rightT b = true
  · rw [if_pos h]
    obtain ⟨h1, h2, h3, h4⟩ := h
    have hna := right_num h1 h3
    have hnb := right_num h2 h4
    have hm := mul_bound hna hnb
    rw [h3] at hra
    rw [h4] at hrb
    have w1 : IntKind.i64.wrap (a.num + b.num) = a.num + b.num := wr64 (by omega) (by omega)
    have w2 : IntKind.i64.wrap (a.num - b.num) = a.num - b.num := wr64 (by omega) (by omega)
    have w3 : IntKind.i64.wrap (a.num * b.num) = a.num * b.num := wr64 (by omega) (by omega)
    have hr2 := fun n => callRight2 (numV n) (by rw [numV_size]; omega)
    obtain ⟨ka, na, ta, la⟩ := a
    obtain ⟨kb, nb, tb, lb⟩ := b
    replace h1 : ka = 1 := h1
    replace h2 : kb = 1 := h2
    subst h1 h2
    simp only [GV.num] at w1 w2 w3 ⊢
    by_cases e1 : s = ⟨#[43]⟩
    · subst e1
      simp [c31, hra, hrb, w1, callNumber, hr2, setRun, resO, enc_mk]
    · by_cases e2 : s = ⟨#[45]⟩
      · subst e2
        simp [c31, hra, hrb, w2, callNumber, hr2, setRun, resO, enc_mk]
      · by_cases e3 : s = ⟨#[42]⟩
        · subst e3
          simp [c31, hra, hrb, w3, callNumber, hr2, setRun, resO, enc_mk]
        · simp [c31, hra, hrb, e1, e2, e3, setRun, resO, nilV, enc_mk, enc_mk0]
  · rw [if_neg h]
    by_cases h1 : a.kind = 1
    · by_cases h2 : b.kind = 1
      · have h34 : rightT a = false ∨ rightT b = false := by
          cases h3 : rightT a
          · exact .inl rfl
          · cases h4 : rightT b
            · exact .inr rfl
            · exact absurd ⟨h1, h2, h3, h4⟩ h
        obtain ⟨ka, na, ta, la⟩ := a
        obtain ⟨kb, nb, tb, lb⟩ := b
        replace h1 : ka = 1 := h1
        replace h2 : kb = 1 := h2
        subst h1 h2
        cases h3 : rightT (GV.mk 1 na ta la)
        · rw [h3] at hra
          simp [c31, hra, setRun, resO, nilV, enc_mk, enc_mk0]
        · rw [h3] at hra
          have h4 : rightT (GV.mk 1 nb tb lb) = false := by rcases h34 with h | h; rw [h3] at h; cases h; exact h
          rw [h4] at hrb
          simp [c31, hra, hrb, setRun, resO, nilV, enc_mk, enc_mk0]
      · simp [c31, h1, h2, setRun, resO, nilV, GV.enc]
    · simp [c31, h1, setRun, resO, nilV, GV.enc]
theorem callBOp (s : ByteArray) (a b : GV) (ha : a.size ≤ 100000000000) (hb : b.size ≤ 100000000000) (bs : Nat) (σ : Heap) : callT T 31 [.str s, a.enc, b.enc] bs σ = some (resO (opV s a b), σ) := call_clean rfl rfl rfl (by simp) (bOp_ok s a b ha hb)
theorem opV_size {s : ByteArray} {a b v : GV} (h : opV s a b = some v) : v.size ≤ 2936020 := by
  have hm : ∀ {w}, made w = some v → v.size ≤ 2936020 := fun h => by obtain ⟨rfl, hr⟩ := made_some h; have := rightT_size hr; omega
  unfold opV at h
  split at h
  · split at h
    · exact hm h
    · split at h
      · exact hm h
      · split at h
        · exact hm h
        · cases h
  · cases h
end Go.Proofs.Ytddmjmkbnfoodaa
end
section
namespace Go.Proofs.Ytddmjmkbnfoodaa
open Go.Mach
end Go.Proofs.Ytddmjmkbnfoodaa
end
section
namespace Go.Proofs.Ytddmjmkbnfoodaa
open Go.Mach
def lookupV (env : List GB) (name : ByteArray) : Option GV := (env.find? fun b => decide (b.name = name)).map GB.value
def idxB (p : GB → Bool) (l : List GB) : Int := match l.findIdx? p with
  | some i => (i : Int)
  | none => -1
theorem findIdxB (p : GB → Bool) (l : List GB) (i : Nat) (hi : i < l.length) (h : ∀ j, (hj : j < l.length) → j < i → p l[j] = false) (hp : p l[i] = true) : l.findIdx? p = some i := by
  rw [List.findIdx?_eq_some_iff_getElem]
  exact ⟨hi, hp, fun j hj => by rw [h j (by omega) hj]; simp⟩
theorem indexB_ok (p : GB → Bool) (l : List GB) (g : Nat) (caps : List AV) (hl : l.length ≤ 100000000000) (hc : ∀ x ∈ l, ∀ bs σ, callT T g (x.enc :: caps) bs σ = some (.bool (p x), σ)) :
    pureT T c35 [.isl (GB.encs l) false, .func g caps] = some (.int .i64 (idxB p l)) := by
  apply pure_enter (by simp [c35])
  simp [c35]
  refine W_for T 0 19 l.length (fun i f σ => f 0 = .isl (GB.encs l) false ∧ f 1 = .func g caps ∧ f 7 = .int .i64 (l.length : Int) ∧ f 8 = .int .i64 (i : Int) ∧ ∀ j, (hj : j < l.length) → j < i → p l[j] = false) ?_ _ _ ?_
  · rintro i f σ hi ⟨h0, h1, h7, h8, hall⟩
    by_cases hlt : i < l.length
    · have hcl := hc l[i] (List.getElem_mem hlt)
      have hw : IntKind.i64.wrap ((i : Int) + 1) = (i : Int) + 1 := wr64 (by omega) (by omega)
      cases hp : p l[i]
      · simp [h0, h1, h7, h8, hlt, hcl, hp, GB.enc_mk, hw]
        intro j hj hji
        by_cases e : j = i
        · subst e; exact hp
        · exact hall j hj (by omega)
      · simp [h0, h1, h7, h8, hlt, hcl, hp, GB.enc_mk]
        simp [idxB, findIdxB p l i hlt hall hp]
    · have he : i = l.length := by omega
      subst he
      have hn : l.findIdx? p = none := by
        rw [List.findIdx?_eq_none_iff]
        intro x hx
        obtain ⟨j, hj, rfl⟩ := List.getElem_of_mem hx
        exact hall j hj hj
      simp [h0, h1, h7, h8, idxB, hn]
  · simp
theorem lookup1_ok (b : GB) (name : ByteArray) (bs : Nat) (σ : Heap) : callT T 36 [b.enc, .iptr [.str name] 0] bs σ = some (.bool (decide (b.name = name)), σ) := by
  refine call_clean rfl rfl rfl (by simp) ?_
  apply pure_enter (by simp [c36])
  simp [c36]
theorem idx_lookup (env : List GB) (name : ByteArray) : (idxB (fun b => decide (b.name = name)) env < 0 ∧ lookupV env name = none) ∨ (∃ i, ∃ h : i < env.length, idxB (fun b => decide (b.name = name)) env = (i : Int) ∧ lookupV env name = some env[i].value) := by
  unfold idxB lookupV
  cases h : env.findIdx? (fun b => decide (b.name = name)) with
  | none =>
    rw [List.findIdx?_eq_none_iff] at h
    refine .inl ⟨by decide, ?_⟩
    rw [List.find?_eq_none.2 (fun x hx => by rw [h x hx]; simp)]; rfl
  | some i =>
    rw [List.findIdx?_eq_some_iff_getElem] at h
    obtain ⟨hi, hp, hall⟩ := h
    refine .inr ⟨i, hi, rfl, ?_⟩
    have : env.find? (fun b => decide (b.name = name)) = some env[i] := by
      rw [List.find?_eq_some_iff_getElem]
      exact ⟨hp, i, hi, rfl, fun j hj => by have := hall j hj; simpa using this⟩
    rw [this]; rfl
theorem enc_refLt2 (n : Nat) (v : GV) : refLt2 n v.enc = true := by rw [GV.enc_eq]; rfl
theorem lookup_isl (env : List GB) (name : ByteArray) (hl : env.length ≤ 100000000000) (bs : Nat) (σ : Heap) : callT T 23 [.isl (GB.encs env) false, .str name] bs σ = some (resO (lookupV env name), σ) := by
  have hidx : ∀ bs (C : AObj), callT T 35 [.isl (GB.encs env) false, .func 36 [.ptr σ.length 0]] bs (σ ++ [.cells [.str name] 0 false, C]) = some (.int .i64 (idxB (fun b => decide (b.name = name)) env), σ ++ [.cells [.str name] 0 false, C]) := fun bs C =>
    call_scal rfl rfl rfl (indexB_ok _ env 36 [.iptr [.str name] 0] hl (fun x hx bs σ => lookup1_ok x name bs σ)) rfl (by simp) (by simp [frz]; rfl)
  refine heap_enter (af := c23) (args' := [.isl (GB.encs env) false, .str name]) (σ1 := σ) rfl rfl (by simp [c23]) (by simp [c23]) rfl ?_
  rcases idx_lookup env name with ⟨hneg, hv⟩ | ⟨i, hi, he, hv⟩
  · simp [c23, baseA, hidx, hneg, hv, setRun, res1, dropA_gc, refLt, refLt2, refLt1, refLt0, resO, nilV, GV.enc]
  · simp [c23, baseA, hidx, he, hv, hi, setRun, res1, dropA_gc, refLt, resO, enc_mk]
    exact ⟨enc_refLt2 _ _, rfl⟩
theorem bfresh_ok : ∀ (n : Nat) (v : GV), v.size ≤ n → n ≤ 1000000000 → pureT T c20 [v.enc] = some v.enc := by
  intro n
  induction n with
  | zero => intro v h; cases v; simp [GV.size] at h
  | succ n ih =>
    intro v hs hn
    have hil := items_le v
    have hlen := len_sizes v.items
    have hcall : ∀ x ∈ v.items, ∀ bs σ, callT T 20 [x.enc] bs σ = some (x.enc, σ) := fun x hx bs σ => call_clean rfl rfl rfl (by simp) (ih x (by have := (sizes_mem hx).1; omega) (by omega))
    apply pure_enter (by simp [c20])
    by_cases he : v.items = []
    · simp [c20, he, setRun]
      simp [GV.enc_eq v, he]
    · have hpos : ¬ ((v.items.length : Int) ≤ 0) := by have := List.length_pos_iff.2 he; omega
      have hpos2 : 0 < v.items.length := List.length_pos_iff.2 he
      simp [c20, hpos, hpos2, callClone v.items false he (by omega), setRun]
      refine W_for T 0 29 v.items.length (fun i f σ => f 1 = .ptr 0 0 ∧ f 2 = .ptr 1 0 ∧ f 14 = .sl 3 0 v.items.length 4 true ∧ f 15 = .int .i64 (v.items.length : Int) ∧ f 16 = .int .i64 (i : Int) ∧ ∃ rest, σ = [.cells [.int .i64 v.kind, .int .i64 v.num, .str v.text, .sl 3 0 v.items.length 4 true] 0 false, .cells [.int .i64 0, .int .i64 0, .str ⟨#[]⟩, .isl [] true] 0 false, .cells [] 0 false, .cells (flat (GV.encs v.items)) 0 true] ++ rest) ?_ _ _ ?_
      · rintro i f σ hi ⟨h1, h2, h13, h14, h15, rest, rfl⟩
        by_cases hlt : i < v.items.length
        · have hw : IntKind.i64.wrap ((i : Int) + 1) = (i : Int) + 1 := wr64 (by omega) (by omega)
          have hcl := hcall v.items[i] (List.getElem_mem hlt)
          have hwk := flat_win (s := 4) (es := GV.encs v.items) (i := i) (by simpa using hlt) (encsV_len _)
          have hs1 := flat_set (s := 4) (v := (v.items[i]).enc) (by simp) (es := GV.encs v.items) (i := i) (by simpa using hlt) (encsV_len _)
          have hset : (GV.encs v.items).set i (v.items[i]).enc = GV.encs v.items := by
            have := GV.encs_getE v.items i (by simpa using hlt)
            rw [← this, List.set_getElem_self]
          have hb : i * 4 + 4 ≤ (flat (GV.encs v.items)).length := by rw [flat_len (encsV_len _)]; simp; omega
          rw [hset] at hs1
          rw [GV.encs_getE] at hwk
          generalize v.items[i] = x at *
          simp at hwk hs1
          simp [h1, h2, h13, h14, h15, hlt, hw, hcl, hwk, hs1, hb, enc_mk, setRun]
        · have he2 : i = v.items.length := by omega
          subst he2
          have hcl := close1_flat (σ := [.cells [.int .i64 v.kind, .int .i64 v.num, .str v.text, .sl 3 0 v.items.length 4 true] 0 false, .cells [.int .i64 v.kind, .int .i64 v.num, .str v.text, .sl 3 0 v.items.length 4 true] 0 false, .cells [] 0 false, .cells (flat (GV.encs v.items)) 0 true] ++ rest) (id := 3) rfl (fun e => he ((encs_nil _).1 e)) (encsV_agg _) (encsV_clo _)
          simp at hcl
          simp [h1, h2, h13, h14, h15, setRun, hcl]
      · simp
theorem callBFresh (v : GV) (hs : v.size ≤ 1000000000) (bs : Nat) (σ : Heap) : callT T 20 [v.enc] bs σ = some (v.enc, σ) := call_clean rfl rfl rfl (by simp) (bfresh_ok v.size v (Nat.le_refl _) hs)
mutual
def evalV (env : List GB) : GT → Option GV
  | .mk k n v args => if k = 1 then lookupV env n else if k = 2 then some v else match evalVs env args with
    | none => none
    | some l => if k = 3 then callV n l else if k = 4 ∧ l.length = 2 then opV n (l.getD 0 default) (l.getD 1 default) else none
def evalVs (env : List GB) : List GT → Option (List GV)
  | [] => some []
  | x :: xs => match evalV env x with
    | none => none
    | some v => (evalVs env xs).map (v :: ·)
end
theorem evalVs_snoc (env : List GB) (x : GT) : ∀ l, evalVs env (l ++ [x]) = match evalVs env l with
    | none => none
    | some vs => (evalV env x).map (fun v => vs ++ [v])
  | [] => by simp only [List.nil_append, evalVs]; cases evalV env x <;> rfl
  | y :: l => by
    simp only [List.cons_append, evalVs, evalVs_snoc env x l]
    cases evalV env y with
    | none => rfl
    | some v =>
      cases evalVs env l with
      | none => rfl
      | some vs => cases evalV env x <;> rfl
theorem evalVs_none (env : List GB) (l : List GT) : ∀ k, evalVs env (l.take k) = none → evalVs env l = none := by
  induction l with
  | nil => intro k h; cases k <;> simpa using h
  | cons x l ih =>
    intro k h
    cases k with
    | zero => simp [evalVs] at h
    | succ k =>
      simp only [List.take_succ_cons, evalVs] at h ⊢
      cases hx : evalV env x with
      | none => rfl
      | some v =>
        rw [hx] at h
        simp only [Option.map_eq_none_iff] at h ⊢
        exact ih k h
def resL (o : Option (List GV)) : AV := .tup [.isl (GV.encs (o.getD [])) false, .bool o.isSome]
theorem all_ok (env : List GB) (args : List GT) (hl : args.length ≤ 1000000000) (hc : ∀ x ∈ args, ∀ bs σ, callT T 19 [.isl (GB.encs env) false, x.enc] bs σ = some (resO (evalV env x), σ)) :
    pureT T c29 [.isl (GT.encs args) false, .meth 19 [.isl (GB.encs env) false]] = some (resL (evalVs env args)) := by
  apply pure_enter (by simp [c29])
  simp [c29]
  refine W_for T 0 30 args.length (fun i f σ => f 1 = .meth 19 [.isl (GB.encs env) false] ∧ f 10 = .isl (GT.encs args) false ∧ f 11 = .int .i64 (args.length : Int) ∧ f 12 = .int .i64 (i : Int) ∧ ∃ done, evalVs env (args.take i) = some done ∧ done.length = i ∧ LstAt σ 0 (GV.encs done) 4 (f 4)) ?_ _ _ ?_
  · rintro i f σ hi ⟨h1, h10, h11, h12, done, hd, hdl, hlst⟩
    by_cases hlt : i < args.length
    · have hw : IntKind.i64.wrap ((i : Int) + 1) = (i : Int) + 1 := wr64 (by omega) (by omega)
      have hcl := hc args[i] (List.getElem_mem hlt)
      have htk : evalVs env (args.take (i + 1)) = (evalV env args[i]).map (fun v => done ++ [v]) := by
        rw [List.take_add_one, List.getElem?_eq_getElem hlt, Option.toList_some, evalVs_snoc, hd]
      cases hx : evalV env args[i] with
      | none =>
        rw [hx] at hcl htk
        have hn : evalVs env args = none := evalVs_none env args (i + 1) htk
        simp [h1, h10, h11, h12, hlt, hcl, resO, GT.enc_mk, setRun, hn, resL]
      | some v =>
        rw [hx] at hcl htk
        have hdl2 : done.length ≤ 10000000000 := by omega
        simp only [Option.map_some] at htk
        rcases hlst with ⟨he, h4⟩ | ⟨kk, h4, hkl, hkk⟩
        · have hd0 : done = [] := (encs_nil _).1 he
          simp [h1, h10, h11, h12, h4, hlt, hcl, resO, GT.enc_mk, setRun, enc_mk, hw]
          exact ⟨_, htk, by simp [hdl], .inr ⟨σ.length + 3, by simp [hd0], by simp, by simp [hd0]⟩⟩
        · simp [h1, h10, h11, h12, h4, hlt, hcl, resO, GT.enc_mk, setRun, enc_mk, hw, List.getElem?_append_left hkl, hkk, List.set_append_left _ _ hkl, hdl2]
          exact ⟨_, htk, by simp [hdl], .inr ⟨kk, rfl, by simp; omega, by rw [List.getElem?_append_left (by simpa using hkl)]; simp [hkl]⟩⟩
    · have he : i = args.length := by omega
      subst he
      rw [List.take_length] at hd
      rcases hlst with ⟨he, h4⟩ | ⟨kk, h4, hkl, hkk⟩
      · simp [h1, h10, h11, h12, h4, resL, hd, he]
      · simp [h1, h10, h11, h12, h4, resL, hd]
  · exact ⟨by simp, by simp, by simp, by simp, [], rfl, rfl, .inl ⟨rfl, by simp⟩⟩
def Small (env : List GB) : Prop := env.length ≤ 1000000000 ∧ ∀ b ∈ env, b.value.size ≤ 1000000000
theorem lookupV_mem {env : List GB} {n : ByteArray} {v : GV} (h : lookupV env n = some v) : ∃ b ∈ env, b.value = v ∧ b.name = n := by
  unfold lookupV at h
  obtain ⟨b, hb, rfl⟩ := Option.map_eq_some_iff.1 h
  exact ⟨b, List.mem_of_find?_eq_some hb, rfl, by simpa using List.find?_some hb⟩
theorem callV_size {s : ByteArray} {args : List GV} {v : GV} (h : callV s args = some v) : v.size ≤ 2936020 := by
  unfold callV at h
  split at h
  · rename_i hc
    obtain ⟨a, ha, h⟩ := Option.bind_eq_some_iff.1 h
    split at h
    · exact callD_size (rightT_size (List.all_eq_true.1 hc.2 a (List.mem_of_getElem? ha))) h
    · cases h
  · cases h
mutual
theorem evalV_size {env : List GB} (he : Small env) : ∀ (t : GT) (v : GV), t.size ≤ 1000000000 → evalV env t = some v → v.size ≤ 1000000000
  | .mk k n w args, v, hs, h => by
    simp only [evalV] at h
    have hw := GT.value_le (.mk k n w args)
    split at h
    · obtain ⟨b, hb, rfl, _⟩ := lookupV_mem h
      exact he.2 b hb
    · split at h
      · injection h with h; subst h; exact Nat.le_trans hw hs
      · split at h
        · cases h
        · split at h
          · have := callV_size h; omega
          · split at h
            · have := opV_size h; omega
            · cases h
theorem evalVs_size {env : List GB} (he : Small env) : ∀ (l : List GT) (vs : List GV), GT.sizes l ≤ 1000000000 → evalVs env l = some vs → vs.length = l.length ∧ ∀ v ∈ vs, v.size ≤ 1000000000
  | [], vs, _, h => by simp only [evalVs] at h; injection h with h; subst h; simp
  | x :: l, vs, hs, h => by
    simp only [GT.sizes] at hs
    simp only [evalVs] at h
    split at h
    · cases h
    · rename_i v hv
      obtain ⟨ws, hws, rfl⟩ := Option.map_eq_some_iff.1 h
      obtain ⟨h1, h2⟩ := evalVs_size he l ws (by omega) hws
      refine ⟨by simp [h1], fun u hu => ?_⟩
      rcases List.mem_cons.1 hu with rfl | hu
      · exact evalV_size he x _ (by omega) hv
      · exact h2 u hu
end
theorem eval_ok (env : List GB) (he : Small env) : ∀ (n : Nat) (t : GT), t.size ≤ n → n ≤ 1000000000 → pureT T c19 [.isl (GB.encs env) false, t.enc] = some (resO (evalV env t)) := by
  intro n
  induction n with
  | zero => intro t h; obtain ⟨k, nm, v, l⟩ := t; cases v; simp [GT.size, GV.size] at h
  | succ n ih =>
    intro t hs hn
    have hal := GT.args_le t
    have hln := GT.len_sizes t.args
    have hc : ∀ x ∈ t.args, ∀ bs σ, callT T 19 [.isl (GB.encs env) false, x.enc] bs σ = some (resO (evalV env x), σ) := fun x hx bs σ =>
      call_clean rfl rfl rfl (by simp) (ih x (by have := (GT.sizes_mem hx).1; omega) (by omega))
    have hall := fun bs σ => call_clean (T := T) (f := 29) (bs := bs) (σ := σ) rfl rfl rfl (by simp) (all_ok env t.args (by omega) hc)
    have hlk := fun bs σ => lookup_isl env t.name (by have := he.1; omega) bs σ
    apply pure_enter (by simp [c19])
    obtain ⟨k, nm, v, args⟩ := t
    simp only [GT.kind, GT.name, GT.value, GT.args] at hlk hall hal hln
    simp only [evalV]
    by_cases h1 : k = 1
    · subst h1
      simp [c19, hlk, setRun, resO, enc_mk, GT.kind, GT.name, GT.value, GT.args]
    · by_cases h2 : k = 2
      · subst h2
        simp [c19, setRun, resO, enc_mk, GT.kind, GT.name, GT.value, GT.args]
      · rw [if_neg h1, if_neg h2]
        cases hv : evalVs env args with
        | none =>
          rw [hv] at hall
          simp [c19, h1, h2, hall, resL, setRun, resO, nilV, enc_mk, enc_mk0, GT.kind, GT.name, GT.value, GT.args]
        | some l =>
          rw [hv] at hall
          obtain ⟨hl1, hl2⟩ := evalVs_size he args l (by omega) hv
          by_cases h3 : k = 3
          · subst h3
            have hbc := callBCall nm l (fun a ha => by have := hl2 a ha; omega) (by omega)
            simp [c19, hall, hbc, resL, setRun, resO, enc_mk, GT.kind, GT.name, GT.value, GT.args]
          · by_cases h4 : k = 4
            · subst h4
              by_cases hl2' : l.length = 2
              · obtain ⟨a, b, rfl⟩ : ∃ a b, l = [a, b] := by
                  match l, hl2' with
                  | [a, b], _ => exact ⟨a, b, rfl⟩
                have hbo := callBOp nm a b (by have := hl2 a (by simp); omega) (by have := hl2 b (by simp); omega)
                have he2 : GV.encs [a, b] = [a.enc, b.enc] := rfl
                simp [c19, hall, hbo, resL, setRun, resO, enc_mk, he2, GT.kind, GT.name, GT.value, GT.args]
              · have hl3 : ¬ ((l.length : Int) = 2) := by omega
                simp [c19, hall, resL, setRun, resO, nilV, enc_mk, enc_mk0, hl2', hl3, GT.kind, GT.name, GT.value, GT.args]
            · simp [c19, h1, h2, h3, h4, hall, resL, setRun, resO, nilV, enc_mk, enc_mk0, GT.kind, GT.name, GT.value, GT.args]
theorem callSEval (env : List GB) (he : Small env) (t : GT) (ht : t.size ≤ 1000000000) (bs : Nat) (σ : Heap) : callT T 19 [.isl (GB.encs env) false, t.enc] bs σ = some (resO (evalV env t), σ) := call_clean rfl rfl rfl (by simp) (eval_ok env he t.size t (Nat.le_refl _) ht)
theorem bEval_ok (env : List GB) (he : Small env) (t : GT) (ht : t.size ≤ 1000000000) : pureT T c7 [t.enc, .isl (GB.encs env) false] = some (resO (evalV env t)) := by
  have hc := callSEval env he t ht
  have hf := callBFresh ((evalV env t).getD nilV) (by
    cases h : evalV env t with
    | none => decide
    | some v => exact evalV_size he t v ht h)
  apply pure_enter (by simp [c7])
  obtain ⟨k, nm, v, args⟩ := t
  simp [c7, hc, hf, setRun, resO, enc_mk, GT.enc_mk]
theorem callBEval (env : List GB) (he : Small env) (t : GT) (ht : t.size ≤ 1000000000) (bs : Nat) (σ : Heap) : callT T 7 [t.enc, .isl (GB.encs env) false] bs σ = some (resO (evalV env t), σ) := call_clean rfl rfl rfl (by simp) (bEval_ok env he t ht)
theorem bLookup_ok (env : List GB) (he : Small env) (n : ByteArray) : pureT T c10 [.isl (GB.encs env) false, .str n] = some (resO (lookupV env n)) := by
  have hc := fun bs σ => lookup_isl env n (by have := he.1; omega) bs σ
  have hf := callBFresh ((lookupV env n).getD nilV) (by
    cases h : lookupV env n with
    | none => decide
    | some v => obtain ⟨b, hb, rfl, _⟩ := lookupV_mem h; exact he.2 b hb)
  apply pure_enter (by simp [c10])
  simp [c10, hc, hf, setRun, resO, enc_mk]
theorem callBLookup (env : List GB) (he : Small env) (n : ByteArray) (bs : Nat) (σ : Heap) : callT T 10 [.isl (GB.encs env) false, .str n] bs σ = some (resO (lookupV env n), σ) := call_clean rfl rfl rfl (by simp) (bLookup_ok env he n)
end Go.Proofs.Ytddmjmkbnfoodaa
end
section
namespace Go.Proofs.Ytddmjmkbnfoodaa
open Go.Mach
theorem fit_small (v : GV) : (fit v).size ≤ 3000000 := Nat.le_trans (fit_size v) (by omega)
theorem relOf_size (s : ByteArray) : (relOf s).size ≤ 100 := by
  unfold relOf; have := nameFit_size s; split
  · decide
  · omega
theorem valOf_size (v : GV) : (valOf v).size ≤ 3000100 := by
  unfold valOf
  have h1 := fit_small v
  split
  · have h2 := relOf_size (fit v).text
    have h3 := items_le (fit v)
    simp only [GV.size]; omega
  · omega
theorem varOf_size (s : ByteArray) : (varOf s).size ≤ 100 := by
  unfold varOf; have := nameFit_size s; rw [ByteArray.size_append, ByteArray.size_extract]
  show 1 + _ ≤ _
  omega
theorem e0 : (ByteArray.mk #[]).size = 0 := rfl
theorem leaf_size (t : GT) : (leafT t).size ≤ 3001000 := by
  unfold leafT
  have h1 := varOf_size t.name
  have h2 := valOf_size t.value
  split
  · simp only [GT.size, GT.sizes, nilV, GV.size, GV.sizes, e0]; omega
  · simp only [GT.size, GT.sizes, e0]; omega
theorem fnOf_size (n : Nat) : (fnOf n).size ≤ 9 := by
  unfold fnOf; repeat' split
  all_goals decide
theorem opOf_size (n : Nat) : (opOf n).size ≤ 9 := by
  unfold opOf; repeat' split
  all_goals decide
theorem sizesT_le (l : List GT) (n : Nat) (h : ∀ x ∈ l, x.size ≤ n) : GT.sizes l ≤ l.length * n := by
  induction l with
  | nil => simp [GT.sizes]
  | cons x l ih =>
    have h1 := h x (by simp)
    have h2 := ih fun y hy => h y (by simp [hy])
    simp only [GT.sizes, List.length_cons, Nat.add_mul]; omega
theorem term_size : ∀ (d : Nat) (t : GT), (termV d t).size ≤ 3001000 * 2 ^ d + 100 * (2 ^ d - 1)
  | 0, t => by have := leaf_size t; simp only [termV]; omega
  | d + 1, t => by
    have hp : 1 ≤ 2 ^ d := Nat.one_le_two_pow
    have h1 := leaf_size t
    have h2 := varOf_size t.name
    have h3 := valOf_size t.value
    have hargs : ∀ n, n ≤ 2 → GT.sizes ((t.args.take n).map (termV d)) ≤ 2 * (3001000 * 2 ^ d + 100 * (2 ^ d - 1)) := fun n hn => by
      have := sizesT_le ((t.args.take n).map (termV d)) (3001000 * 2 ^ d + 100 * (2 ^ d - 1)) fun x hx => by
        obtain ⟨y, _, rfl⟩ := List.mem_map.1 hx
        exact term_size d y
      refine Nat.le_trans this (Nat.mul_le_mul_right _ ?_)
      simp; omega
    have hpw : 2 ^ (d + 1) = 2 * 2 ^ d := by rw [Nat.pow_succ]; omega
    rw [hpw]
    unfold termV
    split
    · omega
    · split
      · simp only [GT.size, GT.sizes, nilV, GV.size, GV.sizes, e0]; omega
      · split
        · simp only [GT.size, GT.sizes, e0]; omega
        · split
          · have ha := hargs (arityOf (fnOf (pickN (IntKind.i64.wrap ((t.name.size : Int) + t.kind)) 6))).toNat (by rw [fnOf_arity]; split <;> decide)
            have hf := fnOf_size (pickN (IntKind.i64.wrap ((t.name.size : Int) + t.kind)) 6)
            simp only [GT.size, nilV, GV.size, GV.sizes, e0]
            omega
          · have ha := hargs 2 (by omega)
            have hf := opOf_size (pickN t.name.size 3)
            simp only [GT.size, nilV, GV.size, GV.sizes, e0]
            omega
theorem term_small (d : Nat) (hd : d ≤ 8) (t : GT) : (termV d t).size ≤ 1000000000 := by
  have h := term_size d t
  have hp : 2 ^ d ≤ 2 ^ 8 := Nat.pow_le_pow_right (by omega) hd
  omega
end Go.Proofs.Ytddmjmkbnfoodaa
end
section
namespace Go.Proofs.Ytddmjmkbnfoodaa
open Go.Mach
theorem take_snoc9 {α : Type} {l : List α} {i : Nat} (h : i < l.length) : l.take (i + 1) = l.take i ++ [l[i]] := by rw [List.take_add_one, List.getElem?_eq_getElem h]; rfl
theorem lst_closed9 {σ : Heap} {es : List AV} {x : AV} {sz off : Nat} {rest : Heap} (h : LstAt rest off es sz x) : closeA σ x = close1 σ x ∧ close1 σ x = some (.isl es false, σ) := by
  rcases h with ⟨rfl, rfl⟩ | ⟨k, rfl, _, _⟩
  · exact ⟨rfl, rfl⟩
  · exact ⟨rfl, rfl⟩
theorem pick9_ok (c n : Int) (h : n ≠ 0) : pureT T c18 [.int .i64 c, .int .i64 n] = some (.int .i64 ((if c < 0 then IntKind.i64.wrap (0 - IntKind.i64.wrap (c + 1)) else c).tmod n)) := by
  apply pure_enter (by simp [c18])
  by_cases hc : c < 0
  · simp [c18, hc, h]
  · simp [c18, hc, h]
theorem pick9 (c : Int) (n : Nat) (h : 0 < n) (h1 : GV.i64ok c) (bs : Nat) (σ : Heap) :
    callT T 18 [.int .i64 c, .int .i64 (n : Int)] bs σ = some (.int .i64 (pickN c n : Int), σ) := by
  refine call_clean rfl rfl rfl rfl ?_
  rw [pick9_ok c n (by omega), pick_eq c n h h1.1 h1.2]
theorem pick94 (c : Int) (h1 : GV.i64ok c) (bs : Nat) (σ : Heap) : callT T 18 [.int .i64 c, .int .i64 4] bs σ = some (.int .i64 (pickN c 4 : Int), σ) := pick9 c 4 (by omega) h1 bs σ
def bName (n : Nat) : ByteArray := if n = 0 then ⟨#[86]⟩ else if n = 1 then ⟨#[86, 97]⟩ else if n = 2 then ⟨#[83]⟩ else ⟨#[88]⟩
def bindV (b : GB) : GB := ⟨bName (pickN b.name.size 4), fit b.value⟩
def envV (l : List GB) : List GB := (l.take 8).map bindV
theorem env_ok (l : List GB) (hok : ∀ b ∈ l, b.ok) (hs : ∀ b ∈ l, b.size ≤ 100000000000) (hl : l.length ≤ 100000000000) : pureT T c6 [.isl (GB.encs l) false] = some (.isl (GB.encs (envV l)) false) := by
  apply pure_enter (by simp [c6])
  simp [c6]
  refine W_for T 0 36 (min l.length 8) (fun i f σ => f 0 = .isl (GB.encs l) false ∧ f 4 = .int .i64 (i : Int) ∧ LstAt σ 0 (GB.encs ((l.take i).map bindV)) 5 (f 3)) ?_ _ _ ?_
  · rintro i f σ hi ⟨h0, h4, hlst⟩
    by_cases hlt : i < min l.length 8
    · have hw : IntKind.i64.wrap ((i : Int) + 1) = (i : Int) + 1 := wr64 (by omega) (by omega)
      have hc1 : i < l.length := by omega
      have hc2 : (i : Int) < 8 := by omega
      have hm := List.getElem_mem hc1
      have hsz := hs _ hm
      have hns : l[i].name.size ≤ l[i].size ∧ l[i].value.size ≤ l[i].size := by simp only [GB.size]; omega
      have hp := pick94 (l[i].name.size : Int) ⟨by omega, by omega⟩
      have hf := callFit l[i].value (hok _ hm) (by omega)
      have hb : bindV l[i] = ⟨bName (pickN l[i].name.size 4), fit l[i].value⟩ := rfl
      have hlt4 := pickN_lt (c := (l[i].name.size : Int)) (n := 4) (by omega)
      have htk : (l.take (i + 1)).map bindV = (l.take i).map bindV ++ [bindV l[i]] := by rw [take_snoc9 hc1, List.map_append]; rfl
      have hlen : ((l.take i).map bindV).length = i := by simp; omega
      have hget : ∀ L : List AV, L = [AV.str ⟨#[86]⟩, .str ⟨#[86, 97]⟩, .str ⟨#[83]⟩, .str ⟨#[88]⟩] → (window L (pickN (l[i].name.size : Int) 4) 1).bind (mk false) = some (.str (bName (pickN (l[i].name.size : Int) 4))) := by
        intro L e; subst e
        generalize pickN (l[i].name.size : Int) 4 = m at hlt4
        match m, hlt4 with
        | 0, _ => rfl
        | 1, _ => rfl
        | 2, _ => rfl
        | 3, _ => rfl
      have hw2 := hget _ rfl
      rw [htk, hb]
      generalize pickN (l[i].name.size : Int) 4 = m at *
      generalize (l.take i).map bindV = done at *
      have hdl : done.length ≤ 10000000000 := by omega
      have hlt4' : (m : Int) < 4 := by omega
      generalize hxx : f 3 = xx at *
      rcases hlst with ⟨he, rfl⟩ | ⟨kk, rfl, hkl, hkk⟩
      · have hd0 : done = [] := (GB.encs_nil _).1 he
        simp [hxx, h0, h4, hc1, hc2, hw, hp, hf, hw2, hlt4', setRun, enc_mk, GB.enc_mk]
        exact ⟨by omega, .inr ⟨σ.length + 2, by simp [hd0], by simp, by simp [hd0]⟩⟩
      · simp only [Nat.add_zero] at hxx
        simp [hxx, h0, h4, hc1, hc2, hw, hp, hf, hw2, hlt4', setRun, enc_mk, GB.enc_mk, List.getElem?_append_left hkl, hkk, List.set_append_left _ _ hkl, hdl]
        exact ⟨by omega, .inr ⟨kk, rfl, by simp; omega, by rw [List.getElem?_append_left (by simpa using hkl)]; simp [hkl]⟩⟩
    · have he : i = min l.length 8 := by omega
      have htake : l.take i = l.take 8 := by
        rw [he]
        rcases Nat.lt_or_ge l.length 8 with h | h
        · rw [List.take_of_length_le (by omega), List.take_of_length_le (by omega)]
        · rw [Nat.min_eq_right h]
      rw [htake] at hlst
      obtain ⟨hcA, hc1⟩ := lst_closed9 (σ := σ) hlst
      have hb : ¬ i < l.length ∨ (i < l.length ∧ ¬ (i : Int) < 8) := by omega
      rcases hb with hb | ⟨hb, hb2⟩
      · rcases hlst with ⟨he2, h3⟩ | ⟨kk, h3, hkl, hkk⟩
        · rw [List.map_take] at he2
          simp [h0, h4, h3, setRun, hb, envV, he2]
        · simp [h0, h4, h3, setRun, hb, envV]
      · rcases hlst with ⟨he2, h3⟩ | ⟨kk, h3, hkl, hkk⟩
        · rw [List.map_take] at he2
          simp [h0, h4, h3, setRun, hb, hb2, envV, he2]
        · simp [h0, h4, h3, setRun, hb, hb2, envV]
  · exact ⟨by simp, by simp, .inl ⟨by simp, by simp⟩⟩
theorem callEnv (l : List GB) (hok : ∀ b ∈ l, b.ok) (hs : ∀ b ∈ l, b.size ≤ 100000000000) (hl : l.length ≤ 100000000000) (bs : Nat) (σ : Heap) : callT T 6 [.isl (GB.encs l) false] bs σ = some (.isl (GB.encs (envV l)) false, σ) := call_clean rfl rfl rfl (by simp) (env_ok l hok hs hl)
set_option maxRecDepth 100000 in
theorem awake_eval : evalFn T 100 4 [] 0 [] = some (.bool true, []) := by kernel_rfl
theorem env_small (l : List GB) : Small (envV l) := ⟨by simp [envV]; omega, fun b hb => by
  obtain ⟨c, _, rfl⟩ := List.mem_map.1 hb
  have := fit_small c.value
  show (fit c.value).size ≤ _; omega⟩
theorem awake_ok : pureT T c4 [] = some (.bool true) := pureT_of_call rfl rfl rfl rfl (callT_of_eval awake_eval)
theorem callAwake (bs : Nat) (σ : Heap) : callT T 4 [] bs σ = some (.bool true, σ) := call_clean rfl rfl rfl rfl awake_ok
theorem callTerm8 (t : GT) (ht : t.ok) (hs : t.size ≤ 100000000000) (bs : Nat) (σ : Heap) : callT T 5 [t.enc, .int .i64 8] bs σ = some ((termV 8 t).enc, σ) := callTerm 8 t (by omega) ht hs bs σ
theorem sym_true (a : GV) : sym (decide (a = a)) = true := by simp [sym]
theorem evalD_size {env : List GB} (he : Small env) (t : GT) (ht : t.size ≤ 1000000000) : ((evalV env t).getD nilV).size ≤ 1000000000 := by
  cases h : evalV env t with
  | none => decide
  | some v => exact evalV_size he t v ht h
end Go.Proofs.Ytddmjmkbnfoodaa
end
section
namespace Go.Proofs.Ytddmjmkbnfoodaa
open Go.Mach
section
variable {bs n : Nat} {f : FR} {σ : Heap}
theorem W_rfn {x : AX} {rc : RCode} {Q : AExit → FR → Heap → Prop} {g : Nat} {caps : List AV} {v : AV} {σ' σ2 : Heap} {e : AExit} (hg : g ≠ yno) (hx : evF n f x = .func g caps)
    (hc : callT T g (.yld σ.length :: caps) bs (σ ++ [.lp rc (lst n f) .ready none]) = some (v, σ')) (he : endLp σ.length (lst n f) σ' = some (e, lst n f, σ2)) (hQ : Q e f σ2) : W T bs n (.rfn x rc) f σ Q := by
  refine ⟨e, f, σ2, ?_, hQ⟩
  rw [execT_rfn, ev_lst, hx]
  simp only [callN, if_neg hg, hc, Option.bind_some, he]
theorem round_call {id nt : Nat} {rc : RCode} {a b : ACode} {f1 : FR} {st : LoopState} {pd : Option Code} {xs : List AV} {v : AV} {σ' : Heap} (hσ : σ[id]? = some (.lp rc (lst n f) st pd)) (hrd : rds rc = some (nt, a, b)) (hn : nt ≤ n)
    (hp : xs.length = rc.params.size) (hput : putAll rc.params.toList xs (lst n f) = lst n f1)
    (hw : W T bs n a f1 σ fun e f2 σ1 => e = .normal ∧ ∃ σ2, begLp id σ1 = some σ2 ∧ W T bs n b f2 σ2 fun e f3 σ3 => endRd id (e, lst n f3, σ3) = some (v, σ')) :
    callT T yno (.yld id :: xs) bs σ = some (v, σ') := by
  rw [callT_yld T bs σ T_ok.yn.1 T_ok.yn.2]
  obtain ⟨e, f2, σ1, hr, rfl, σ2, hb, e3, f3, σ3, hr3, hend⟩ := hw
  have hT : T.rd rc = some (nt, a, b) := hrd
  have hlen : (lst n f).length = n := by simp [lst]
  simp only [roundA, hσ, hT, Option.bind_some, hlen]
  rw [if_pos ⟨hp, hn⟩, hput, hr]
  simp only [Option.bind_some, bodyA, hb, hr3]
  exact hend
theorem put1 (d : Nat) (x : AV) (hd : d < n) : putAll [d] [x] (lst n f) = lst n (upF f d x) := by
  have := setDst_lst n f (some d) x
  simpa [putAll, setDst] using this
end
mutual
def vs1 : GT → List ByteArray
  | .mk k n _ l => if k = 1 then [n] else vsL l
def vsL : List GT → List ByteArray
  | [] => []
  | t :: l => vs1 t ++ vsL l
end
theorem vs1_eq (t : GT) : vs1 t = if t.kind = 1 then [t.name] else vsL t.args := by cases t; rfl
theorem vsL_append : ∀ (a b : List GT), vsL (a ++ b) = vsL a ++ vsL b
  | [], b => rfl
  | t :: a, b => by simp [vsL, vsL_append a b]
def runS {S : Type} (step : S → ByteArray → S × Bool) : S → List ByteArray → S × Bool
  | s, [] => (s, true)
  | s, n :: ns => if (step s n).2 = true then runS step (step s n).1 ns else ((step s n).1, false)
theorem runS_append {S : Type} (step : S → ByteArray → S × Bool) : ∀ (a b : List ByteArray) (s : S), runS step s (a ++ b) = if (runS step s a).2 = true then runS step (runS step s a).1 b else ((runS step s a).1, false)
  | [], b, s => by simp [runS]
  | n :: a, b, s => by
    simp only [List.cons_append, runS]
    by_cases h : (step s n).2 = true
    · simp only [if_pos h]; exact runS_append step a b _
    · simp only [if_neg h]; simp
section
variable {S : Type} (H X : S → Heap → Prop) (step : S → ByteArray → S × Bool) (cnt : S → Nat) (C : Nat)
def Counts : Prop := ∀ s m, (step s m).2 = true → cnt (step s m).1 = cnt s + 1
theorem Counts.run {step : S → ByteArray → S × Bool} {cnt : S → Nat} (h : Counts step cnt) : ∀ (l : List ByteArray) (s : S), (runS step s l).2 = true → cnt (runS step s l).1 = cnt s + l.length
  | [], s, _ => rfl
  | m :: l, s, hr => by
    simp only [runS] at hr ⊢
    by_cases hb : (step s m).2 = true
    · rw [if_pos hb] at hr ⊢
      rw [h.run l _ hr, h s m hb, List.length_cons]; omega
    · rw [if_neg hb] at hr; cases hr
structure Rounds (bs id iy ie : Nat) : Prop where
  more : ∀ s σ o, H s σ → H s (σ ++ [o])
  y : ∀ s σ, H s σ → σ[iy]? = some (.cells [.yld id] 0 false)
  e : ∀ s σ, H s σ → σ[ie]? = some (.cells [.func 34 [.ptr iy 0, .ptr ie 0]] 0 false)
  ct : Counts step cnt
  rd : ∀ s σ m, H s σ → cnt s < C → bs ≤ σ.length → ∃ σ', callT T yno [.yld id, .str m] bs σ = some (.bool (step s m).2, σ') ∧ ((step s m).2 = true → H (step s m).1 σ') ∧ ((step s m).2 = false → X (step s m).1 σ') ∧ σ.length ≤ σ'.length
theorem GT.size_args (t : GT) : GT.sizes t.args + 3 ≤ t.size := by cases t; simp only [GT.size, GT.args]; omega
theorem each_ok {bs id iy ie : Nat} (R : Rounds H X step cnt C bs id iy ie) : ∀ (k : Nat) (l : List GT) (s : S) (σ : Heap), GT.sizes l ≤ k → k ≤ 100000000000 → H s σ → cnt s + (vsL l).length ≤ C → bs ≤ σ.length →
    ∃ σ', callT T 34 [.isl (GT.encs l) false, .ptr iy 0, .ptr ie 0] bs σ = some (.bool (runS step s (vsL l)).2, σ') ∧ ((runS step s (vsL l)).2 = true → H (runS step s (vsL l)).1 σ') ∧ ((runS step s (vsL l)).2 = false → X (runS step s (vsL l)).1 σ') ∧ σ.length ≤ σ'.length := by
  intro k
  induction k using Nat.strongRecOn with
  | ind k ih =>
    intro l s σ hs hk hH hC hbs
    have hlen := GT.len_sizes l
    suffices hh : ∃ r, callT T 34 [.isl (GT.encs l) false, .ptr iy 0, .ptr ie 0] bs σ = some r ∧ (r.1 = .bool (runS step s (vsL l)).2 ∧ ((runS step s (vsL l)).2 = true → H (runS step s (vsL l)).1 r.2) ∧ ((runS step s (vsL l)).2 = false → X (runS step s (vsL l)).1 r.2) ∧ σ.length ≤ r.2.length) by
      obtain ⟨r, h1, h2, h3⟩ := hh
      exact ⟨r.2, by rw [h1, ← h2], h3⟩
    refine heap_enterE (args' := [.isl (GT.encs l) false, .ptr iy 0, .ptr ie 0]) (σ1 := σ) (af := c34) rfl rfl (by simp [c34]) (by simp [c34]) rfl ?_
    simp [c34, baseA]
    refine W_for T bs 27 l.length (fun i f τ => f 1 = .ptr iy 0 ∧ f 2 = .ptr ie 0 ∧ f 7 = .isl (GT.encs l) false ∧ f 8 = .int .i64 (l.length : Int) ∧ f 9 = .int .i64 (i : Int) ∧ (runS step s (vsL (l.take i))).2 = true ∧ H (runS step s (vsL (l.take i))).1 τ ∧ σ.length ≤ τ.length) ?_ _ _ ?_
    · rintro i f τ hi ⟨h1, h2, h7, h8, h9, hgo, hH2, hτ⟩
      by_cases hlt : i < l.length
      · have hw : IntKind.i64.wrap ((i : Int) + 1) = (i : Int) + 1 := wr64 (by omega) (by omega)
        have hsz := GT.sizes_mem (List.getElem_mem hlt)
        have htk : vsL (l.take (i + 1)) = vsL (l.take i) ++ vs1 l[i] := by
          rw [List.take_succ_eq_append_getElem hlt, vsL_append]; simp [vsL]
        have hobj : AObj.cells l[i].enc.cells 0 false = AObj.cells [.int .i64 l[i].kind, .str l[i].name, .int .i64 l[i].value.kind, .int .i64 l[i].value.num, .str l[i].value.text, .isl (GV.encs l[i].value.items) false, .isl (GT.encs l[i].args) false] 0 false := by rw [GT.enc_eq]; rfl
        have hH3 := R.more _ _ (.cells l[i].enc.cells 0 false) hH2
        have hy := R.y _ _ hH3
        have he := R.e _ _ hH3
        rw [hobj] at hH3 hy he
        have hgn : ∀ x : S × Bool, runS step s (vsL (l.take i) ++ vs1 l[i]) = runS step (runS step s (vsL (l.take i))).1 (vs1 l[i]) := fun _ => by rw [runS_append, if_pos hgo]
        have hall : runS step s (vsL l) = if (runS step s (vsL (l.take (i + 1)))).2 = true then runS step (runS step s (vsL (l.take (i + 1)))).1 (vsL (l.drop (i + 1))) else ((runS step s (vsL (l.take (i + 1)))).1, false) := by
          rw [← runS_append, ← vsL_append, List.take_append_drop]
        rw [htk, runS_append, if_pos hgo] at hall
        rw [htk, runS_append, if_pos hgo]
        obtain ⟨s1, hs1⟩ : ∃ s1, (runS step s (vsL (l.take i))).1 = s1 := ⟨_, rfl⟩
        rw [hs1] at hall hH3 ⊢
        rw [vs1_eq] at hall ⊢
        have hcn : cnt s1 + (vs1 l[i]).length ≤ C := by
          have h1 := R.ct.run _ _ hgo
          rw [hs1] at h1
          have h2 : vsL l = vsL (l.take i) ++ (vs1 l[i] ++ vsL (l.drop (i + 1))) := by
            rw [← List.append_assoc, ← htk, ← vsL_append, List.take_append_drop]
          rw [h2, List.length_append, List.length_append] at hC
          omega
        rw [vs1_eq] at hcn
        by_cases hkind : l[i].kind = 1
        · have hc1 : cnt s1 < C := by rw [if_pos hkind] at hcn; simp at hcn; omega
          rw [hkind] at hH3 hy he
          rw [if_pos hkind] at hall ⊢
          obtain ⟨τ2, hc, hH4, hX4, hl4⟩ := R.rd _ _ l[i].name hH3 hc1 (by simp; omega)
          simp only [runS] at hall ⊢
          simp only [List.length_append, List.length_singleton] at hl4
          by_cases hb : (step s1 l[i].name).2 = true
          · rw [hb] at hc
            simp [h1, h2, h7, h8, h9, hlt, hw, hkind, hy, hc, hb]
            exact ⟨hH4 hb, by omega⟩
          · have hb' : (step s1 l[i].name).2 = false := by simpa using hb
            rw [hb'] at hc
            simp [h1, h2, h7, h8, h9, hlt, hw, hkind, hy, hc, hb', hall]
            exact ⟨hX4 hb', by omega⟩
        · have hc2 : cnt s1 + (vsL l[i].args).length ≤ C := by rw [if_neg hkind] at hcn; exact hcn
          rw [if_neg hkind] at hall ⊢
          obtain ⟨τ2, hc, hH4, hX4, hl4⟩ := ih (GT.sizes l[i].args) (by have := GT.size_args l[i]; omega) l[i].args s1 _ (Nat.le_refl _) (by have := GT.size_args l[i]; omega) hH3 hc2 (by simp; omega)
          simp only [List.length_append, List.length_singleton] at hl4
          by_cases hb : (runS step s1 (vsL l[i].args)).2 = true
          · rw [hb] at hc
            simp [h1, h2, h7, h8, h9, hlt, hw, hkind, he, hc, hb]
            exact ⟨hH4 hb, by omega⟩
          · have hb' : (runS step s1 (vsL l[i].args)).2 = false := by simpa using hb
            rw [hb'] at hc
            simp [h1, h2, h7, h8, h9, hlt, hw, hkind, he, hc, hb', hall]
            exact ⟨hX4 hb', by omega⟩
      · have he : i = l.length := by omega
        subst he
        simp [h1, h2, h7, h8, h9]
        rw [List.take_length] at hgo hH2
        simp [hgo]
        exact ⟨hH2, hτ⟩
    · simp [runS, vsL]
      exact hH
structure Rounds1 (bs id N : Nat) : Prop where
  more : ∀ s σ o, H s σ → H s (σ ++ [o])
  len : ∀ s σ, H s σ → N ≤ σ.length
  ct : Counts step cnt
  rd : ∀ s σ m, H s σ → cnt s < C → bs ≤ σ.length → ∃ σ', callT T yno [.yld id, .str m] bs σ = some (.bool (step s m).2, σ') ∧ ((step s m).2 = true → H (step s m).1 σ') ∧ ((step s m).2 = false → X (step s m).1 σ') ∧ σ.length ≤ σ'.length ∧
    ∀ j cs, N ≤ j → σ[j]? = some (.cells cs 0 false) → σ'[j]? = some (.cells cs 0 false)
theorem iter_ok {bs id N il : Nat} (R : Rounds1 H X step cnt C bs id N) (l : List GT) (s : S) (σ : Heap) {fz : Nat} {ext : Bool} (hl : GT.sizes l ≤ 100000000000) (hH : H s σ) (hC : cnt s + (vsL l).length ≤ C) (hbs : bs ≤ σ.length) (hil : σ[il]? = some (.cells [.isl (GT.encs l) false] fz ext)) :
    ∃ σ', callT T 33 [.yld id, .ptr il 0] bs σ = some (.tup [], σ') ∧ ((runS step s (vsL l)).2 = true → H (runS step s (vsL l)).1 σ') ∧ ((runS step s (vsL l)).2 = false → X (runS step s (vsL l)).1 σ') ∧ σ.length ≤ σ'.length := by
  have hN := R.len _ _ hH
  have hlt : il < σ.length := (List.getElem?_eq_some_iff.1 hil).1
  have R2 : Rounds (fun s τ => H s τ ∧ σ.length + 1 < τ.length ∧ τ[σ.length]? = some (.cells [.yld id] 0 false) ∧ τ[σ.length + 1]? = some (.cells [.func 34 [.ptr σ.length 0, .ptr (σ.length + 1) 0]] 0 false)) X step cnt C bs id σ.length (σ.length + 1) := by
    refine ⟨fun s τ o h => ⟨R.more _ _ _ h.1, by simp; omega, ?_, ?_⟩, fun s τ h => h.2.2.1, fun s τ h => h.2.2.2, R.ct, fun s τ m h hc hb => ?_⟩
    · rw [List.getElem?_append_left (by omega)]; exact h.2.2.1
    · rw [List.getElem?_append_left (by omega)]; exact h.2.2.2
    · obtain ⟨τ', h1, h2, h3, h4, h5⟩ := R.rd s τ m h.1 hc hb
      exact ⟨τ', h1, fun e => ⟨h2 e, by omega, h5 _ _ (by omega) h.2.2.1, h5 _ _ (by omega) h.2.2.2⟩, h3, h4⟩
  have e1 : σ ++ [AObj.cells [.yld id] 0 false, AObj.cells [.func 34 [.ptr σ.length 0, .ptr (σ.length + 1) 0]] 0 false] = (σ ++ [AObj.cells [.yld id] 0 false]) ++ [AObj.cells [.func 34 [.ptr σ.length 0, .ptr (σ.length + 1) 0]] 0 false] := by simp
  obtain ⟨σ2, hc, h1, h2, h3⟩ := each_ok _ X step cnt C R2 (GT.sizes l) l s (σ ++ [AObj.cells [.yld id] 0 false, AObj.cells [.func 34 [.ptr σ.length 0, .ptr (σ.length + 1) 0]] 0 false]) (Nat.le_refl _) hl
    ⟨by rw [e1]; exact R.more _ _ _ (R.more _ _ _ hH), by simp, by simp, by simp⟩ hC (by simp; omega)
  refine ⟨σ2, ?_, fun e => (h1 e).1, h2, by simp at h3; omega⟩
  have hil2 : (σ ++ [AObj.cells [.yld id] 0 false, AObj.cells [.func 34 [.ptr σ.length 0, .ptr (σ.length + 1) 0]] 0 false])[il]? = some (.cells [.isl (GT.encs l) false] fz ext) := by rw [List.getElem?_append_left hlt]; exact hil
  refine heap_enter (args' := [.yld id, .ptr il 0]) (σ1 := σ) (af := c33) rfl rfl (by simp [c33]) (by simp [c33]) rfl ?_
  have hb1 : bs ≤ σ.length + 1 := by omega
  simp [c33, baseA, hil2, hc, hb1, res1]
end
theorem variables_sl (t : GT) {k : Nat} (bs : Nat) (σ : Heap) (h : σ[k]? = some (.cells t.enc.cells 0 false)) : callT T 21 [.sl k 0 1 7 true] bs σ = some (.func 33 [.ptr σ.length 0], σ.set k (.cells t.enc.cells 7 false) ++ [.cells [.isl (GT.encs [t]) false] 0 false]) := by
  refine heap_enter (args' := [.isl [t.enc] false]) (σ1 := σ.set k (.cells t.enc.cells 7 false)) (af := c21) rfl rfl (by simp [c21]) (by simp [c21]) ?_ ?_
  · rw [GT.enc_eq] at h ⊢
    simp only [AV.cells] at h ⊢
    have h0 : close0 σ (.sl k 0 1 7 true) = some (.isl [.agg [.int .i64 t.kind, .str t.name, .int .i64 t.value.kind, .int .i64 t.value.num, .str t.value.text, .isl (GV.encs t.value.items) false, .isl (GT.encs t.args) false]] false, σ.set k (.cells [.int .i64 t.kind, .str t.name, .int .i64 t.value.kind, .int .i64 t.value.num, .str t.value.text, .isl (GV.encs t.value.items) false, .isl (GT.encs t.args) false] 7 false)) := by
      simp [close0, h, window, chunk, frz, AV.nrm]
    simp [closeArgs, c21, close1, h0]
  · simp [c21, baseA, res1]
end Go.Proofs.Ytddmjmkbnfoodaa
end
section
namespace Go.Proofs.Ytddmjmkbnfoodaa
open Go.Mach
def memB (m : ByteArray) (b : List ByteArray) : Bool := b.any fun n => decide (m = n)
theorem memB_iff (m : ByteArray) (b : List ByteArray) : memB m b = true ↔ m ∈ b := by simp [memB]
def idxN (m : ByteArray) : List ByteArray → Nat
  | [] => 0
  | n :: b => if m = n then 0 else idxN m b + 1
theorem idxN_get (m : ByteArray) : ∀ b : List ByteArray, memB m b = true → b[idxN m b]? = some m
  | [], h => by simp [memB] at h
  | n :: b, h => by
    simp only [idxN]
    by_cases e : m = n
    · subst e; simp
    · have h' : memB m b = true := by simpa [memB, e] using h
      simp [e, idxN_get m b h']
def addB (b : List ByteArray) (m : ByteArray) : List ByteArray := if memB m b = true then b else b ++ [m]
def mpN (b : List ByteArray) : AObj := .mp (b.map fun n => (.str n, .bool true))
theorem mfind_names (m : ByteArray) : ∀ (b : List ByteArray) (i : Nat), mfind false [2] [.str m] i (b.map fun n => (AV.str n, AV.bool true)) = some (if memB m b = true then some (i + idxN m b, .bool true) else none)
  | [], i => rfl
  | n :: b, i => by
    have ih := mfind_names m b (i + 1)
    simp only [List.map_cons, mfind, keyC, Option.bind_some, eqcs_str, eqcs_nil, Option.map_some, Bool.and_true, Bool.false_eq_true, if_false]
    by_cases h : m = n
    · subst h; simp [memB, idxN]
    · have hm : memB m (n :: b) = memB m b := by simp [memB, h]
      simp only [decide_eq_false h, ih, hm, idxN, if_neg h]
      split
      · congr 3; omega
      · rfl
theorem mlook_n {σ : Heap} {id : Nat} {b : List ByteArray} (h : σ[id]? = some (mpN b)) (m : ByteArray) : mlookA σ false [2] (.bool false) false (.map id) (.str m) = some (.bool (memB m b)) := by
  simp only [mlookA, keyC, Option.bind_some, eqcs_str, eqcs_nil, Option.map_some, Option.isSome_some, if_true, mapOf, h, mpN, mfind_names, Bool.false_eq_true, if_false]
  cases hb : memB m b <;> simp [lookV]
theorem mset_n {σ : Heap} {id : Nat} {b : List ByteArray} (h : σ[id]? = some (mpN b)) (m : ByteArray) : msetA σ false [2] (.map id) (.str m) (.bool true) = some (σ.set id (mpN (addB b m))) := by
  have hcl : closeA σ (.bool true) = some (.bool true, σ) := by simp
  simp only [msetA, keyC, Option.bind_some, eqcs_str, eqcs_nil, Option.map_some, Option.isSome_some, true_and, hcl, h, mpN, mfind_names, Bool.false_eq_true, if_false]
  cases hb : memB m b
  · simp [addB, hb]
  · have hi : (b.map fun n => (AV.str n, AV.bool true)).set (idxN m b) (.str m, .bool true) = b.map fun n => (AV.str n, AV.bool true) := by
      apply List.ext_getElem?
      intro j
      rw [List.getElem?_set]
      split
      · rename_i e; subst e
        have hg := idxN_get m b hb
        have hlt := (List.getElem?_eq_some_iff.1 hg).1
        rw [List.getElem?_map, hg, if_pos (by simpa using hlt)]; rfl
      · rfl
    simp [addB, hb, hi]
theorem set_same {σ : Heap} {i : Nat} {o : AObj} (h : σ[i]? = some o) : σ.set i o = σ := by
  apply List.ext_getElem?
  intro j
  rw [List.getElem?_set]
  split
  · rename_i e; subst e; rw [if_pos (List.getElem?_eq_some_iff.1 h).1, h]
  · rfl
theorem endRd_n {H : Heap} {i : Nat} {rc : RCode} {tm ρ : Regs} {st : LoopState} {pd : Option Go.Code} (h : H[i]? = some (.lp rc tm st pd)) : endRd i (.normal, ρ, H) = some (.bool true, H.set i (.lp rc tm .ready none)) := by simp [endRd, h]
mutual
theorem vs1_len : ∀ t : GT, (vs1 t).length ≤ t.size
  | .mk k n v l => by
    have := vsL_len l
    simp only [vs1, GT.size]
    split <;> simp <;> omega
theorem vsL_len : ∀ l : List GT, (vsL l).length ≤ GT.sizes l
  | [] => by simp [vsL]
  | t :: l => by
    have h1 := vs1_len t
    have h2 := vsL_len l
    simp only [vsL, List.length_append, GT.sizes]; omega
end
theorem rd14 : rds (rcOf Try.f8) = some r8 := by unfold rds; rw [if_pos rfl]
theorem ps14 : (rcOf Try.f8).params = #[9] := by kernel_rfl
def stepV (s : List ByteArray × Nat) (m : ByteArray) : (List ByteArray × Nat) × Bool := ((addB s.1 m, s.2 + 1), true)
def LstS (σ : Heap) (N : Nat) (b : List ByteArray) (x : AV) : Prop := (b = [] ∧ x = .isl [] true) ∨ ∃ k, N ≤ k ∧ x = .own k (b.map .str) ∧ σ[k]? = some (.tok b.length 1)
def JV (f : FR) (s : List ByteArray × Nat) (σ : Heap) : Prop :=
  7 ≤ σ.length ∧ s.1.length ≤ s.2 ∧ σ[2]? = some (mpN s.1) ∧ σ[3]? = some (.cells [.map 2] 0 false) ∧ σ[6]? = some (.lp (rcOf Try.f8) (lst 20 f) .ready none) ∧ ∃ x, σ[1]? = some (.cells [x] 0 false) ∧ LstS σ 7 s.1 x
theorem roundV {f : FR} (h2 : f 2 = .ptr 1 0) (h3 : f 3 = .ptr 3 0) (s : List ByteArray × Nat) (σ : Heap) (m : ByteArray) (hJ : JV f s σ) (hC : s.2 < 2000000000) :
    ∃ σ', callT T yno [.yld 6, .str m] 0 σ = some (.bool true, σ') ∧ JV f (stepV s m).1 σ' ∧ σ.length ≤ σ'.length ∧ ∀ j cs, 7 ≤ j → σ[j]? = some (.cells cs 0 false) → σ'[j]? = some (.cells cs 0 false) := by
  obtain ⟨hN, hb, hm, hmp, hlp, x, hx, hL⟩ := hJ
  have g1 : ∀ o, (σ.set 6 o)[1]? = some (.cells [x] 0 false) := fun o => by rw [List.getElem?_set_ne (by decide)]; exact hx
  have g2 : ∀ o, (σ.set 6 o)[2]? = some (mpN s.1) := fun o => by rw [List.getElem?_set_ne (by decide)]; exact hm
  have g3 : ∀ o, (σ.set 6 o)[3]? = some (.cells [.map 2] 0 false) := fun o => by rw [List.getElem?_set_ne (by decide)]; exact hmp
  by_cases hin : memB m s.1 = true
  · refine ⟨σ, round_call (f1 := upF f 9 (.str m)) hlp rd14 (Nat.le_refl _) (by rw [ps14]; rfl) (by rw [ps14]; exact put1 9 (.str m) (by decide)) (wpC_sound T 0 20 ?_), ?_, Nat.le_refl _, fun _ _ _ h => h⟩
    · simp [r8]
      refine ⟨_, by simp [begLp, hlp]; rfl, wpC_sound T 0 20 ?_⟩
      simp [h2, h3, g1, g2, g3, mlook_n (g2 _), hin]
      rw [endRd_n (list_set_at (by omega)), List.set_set, set_same hlp]
    · simp [JV, stepV, addB, hin]
      exact ⟨hN, by omega, hm, hmp, hlp, x, hx, hL⟩
  · have hin' : memB m s.1 = false := by simpa using hin
    have hadd : addB s.1 m = s.1 ++ [m] := by simp [addB, hin']
    have l6 : 6 < σ.length := by omega
    have l3 : 3 < σ.length := by omega
    have l2 : 2 < σ.length := by omega
    have l1 : 1 < σ.length := by omega
    have ll : ¬ σ.length + 1 < σ.length := by omega
    have l5 : ¬ σ.length = 5 := by omega
    have lnil : ¬ σ = [] := by rintro rfl; simp at l1
    rcases hL with ⟨hb0, rfl⟩ | ⟨k, hk, rfl, htok⟩
    · refine ⟨_, round_call (f1 := upF f 9 (.str m)) hlp rd14 (Nat.le_refl _) (by rw [ps14]; rfl) (by rw [ps14]; exact put1 9 (.str m) (by decide)) (wpC_sound T 0 20 (by
        simp [r8]
        refine ⟨_, by simp [begLp, hlp]; rfl, wpC_sound T 0 20 ?_⟩
        have g4 : ((List.set σ 6 (AObj.lp (rcOf Try.f8) (lst 20 f) .busy none)).set 2 (mpN (addB s.1 m)) ++ [AObj.cells [AV.str m] 0 false, AObj.tok 1 1])[1]? = some (.cells [.isl [] true] 0 false) := by
          rw [List.getElem?_append_left (by simp; omega)]; simp [hx]
        have g5 : ((List.set σ 6 (AObj.lp (rcOf Try.f8) (lst 20 f) .busy none)).set 2 (mpN (addB s.1 m)) ++ [AObj.cells [AV.str m] 0 false, AObj.tok 1 1])[1]'(by simp) = .cells [.isl [] true] 0 false := Option.some_inj.1 ((List.getElem?_eq_getElem _).symm.trans g4)
        simp [h2, h3, g1, g2, g3, mlook_n (g2 _), mset_n (g2 _), hin', g4, g5]
        refine endRd_n (rc := rcOf Try.f8) (tm := lst 20 f) (st := .busy) (pd := none) ?_
        simp [-getElem?_pos, List.getElem?_set, List.getElem?_append, l6, l2, l1])), ?_, ?_, ?_⟩
      · have hb1 : s.1.length = 0 := by rw [hb0]; rfl
        have hadd0 : addB s.1 m = [m] := by rw [hadd, hb0]; rfl
        refine ⟨by simp; omega, by simp only [stepV, hadd, List.length_append, List.length_singleton]; omega, ?_, ?_, ?_, .own (σ.length + 1) [.str m], ?_, .inr ⟨σ.length + 1, by omega, ?_, ?_⟩⟩
        · simp [-getElem?_pos, List.getElem?_set, List.getElem?_append, l6, l2, l1, l3, stepV]
        · simp [-getElem?_pos, List.getElem?_set, List.getElem?_append, l6, l2, l1, l3, hmp]
        · simp [-getElem?_pos, List.getElem?_set, List.getElem?_append, l6, l2, l1, l3]
        · simp [-getElem?_pos, List.getElem?_set, List.getElem?_append, l6, l2, l1, l3]
        · simp [stepV, hadd0]
        · simp [-getElem?_pos, stepV, hadd0, List.getElem?_set, List.getElem?_append, ll, l5, lnil]
          rfl
      · simp
      · intro j cs hj hc
        have hjl := (List.getElem?_eq_some_iff.1 hc).1
        have j6 : ¬ 6 = j := by rintro rfl; rw [hlp] at hc; cases hc
        have j2 : ¬ 2 = j := by omega
        have j1 : ¬ 1 = j := by omega
        simp [-getElem?_pos, List.getElem?_set, List.getElem?_append, hjl, j6, j2, j1, hc]
    · have hkl : k < σ.length := (List.getElem?_eq_some_iff.1 htok).1
      have k6 : ¬ 6 = k := by rintro rfl; rw [hlp] at htok; cases htok
      have k2 : ¬ 2 = k := by omega
      have k1 : ¬ 1 = k := by omega
      have hok : (s.1.map AV.str).all (okEl 1 false) = true := by simp [okEl]
      have hlen : s.1.length ≤ 10000000000 := by omega
      refine ⟨_, round_call (f1 := upF f 9 (.str m)) hlp rd14 (Nat.le_refl _) (by rw [ps14]; rfl) (by rw [ps14]; exact put1 9 (.str m) (by decide)) (wpC_sound T 0 20 (by
        simp [r8]
        refine ⟨_, by simp [begLp, hlp]; rfl, wpC_sound T 0 20 ?_⟩
        have g6 : ((List.set σ 6 (AObj.lp (rcOf Try.f8) (lst 20 f) .busy none)).set 2 (mpN (addB s.1 m)) ++ [AObj.cells [AV.str m] 0 false])[k]? = some (.tok s.1.length 1) := by
          simp [-getElem?_pos, List.getElem?_set, List.getElem?_append, hkl, k6, k2, htok]
        have g7 : (((List.set σ 6 (AObj.lp (rcOf Try.f8) (lst 20 f) .busy none)).set 2 (mpN (addB s.1 m)) ++ [AObj.cells [AV.str m] 0 false]).set k (.tok (s.1.length + 1) 1))[1]? = some (.cells [.own k (s.1.map .str)] 0 false) := by
          simp [-getElem?_pos, List.getElem?_set, List.getElem?_append, l1, Ne.symm k1, hx]
        have g8 := Option.some_inj.1 ((List.getElem?_eq_getElem (by simp; omega)).symm.trans g7)
        simp [h2, h3, g1, g2, g3, mlook_n (g2 _), mset_n (g2 _), hin', g6, hok, hlen, g7, g8]
        refine endRd_n (rc := rcOf Try.f8) (tm := lst 20 f) (st := .busy) (pd := none) ?_
        simp [-getElem?_pos, List.getElem?_set, List.getElem?_append, l6, l2, l1, hkl, k6, Ne.symm k6])), ?_, ?_, ?_⟩
      · refine ⟨by simp; omega, by simp only [stepV, hadd, List.length_append, List.length_singleton]; omega, ?_, ?_, ?_, .own k (s.1.map .str ++ [.str m]), ?_, .inr ⟨k, hk, ?_, ?_⟩⟩
        · simp [-getElem?_pos, List.getElem?_set, List.getElem?_append, l6, l2, l1, l3, stepV, Ne.symm k2]
        · simp [-getElem?_pos, List.getElem?_set, List.getElem?_append, l6, l2, l1, l3, hmp, show ¬ k = 3 by omega]
        · simp [-getElem?_pos, List.getElem?_set, List.getElem?_append, l6, l2, l1, l3, show 5 < σ.length by omega, lnil]
        · simp [-getElem?_pos, List.getElem?_set, List.getElem?_append, l6, l2, l1, l3, show 5 < σ.length by omega, lnil]
        · simp [stepV, hadd]
        · simp [-getElem?_pos, stepV, hadd, List.getElem?_set, List.getElem?_append, hkl, k6, k1]
      · simp
      · intro j cs hj hc
        have hjl := (List.getElem?_eq_some_iff.1 hc).1
        have j6 : ¬ 6 = j := by rintro rfl; rw [hlp] at hc; cases hc
        have jk : ¬ k = j := by rintro rfl; rw [htok] at hc; cases hc
        have j2 : ¬ 2 = j := by omega
        have j1 : ¬ 1 = j := by omega
        simp [-getElem?_pos, List.getElem?_set, List.getElem?_append, hjl, j6, j2, j1, jk, hc]
def nub (ns : List ByteArray) : List ByteArray := ns.foldl addB []
def encN (b : List ByteArray) : AV := .isl (b.map .str) false
theorem run_nub : ∀ (ns : List ByteArray) (s : List ByteArray × Nat), runS stepV s ns = ((ns.foldl addB s.1, s.2 + ns.length), true)
  | [], s => rfl
  | n :: ns, s => by
    simp only [runS, stepV, if_true, List.foldl_cons, List.length_cons]
    rw [run_nub ns]
    simp; omega
theorem vars_ok (t : GT) (ht : t.size ≤ 1000000000) : pureT T c8 [t.enc] = some (encN (nub (vs1 t))) := by
  apply pure_enter (by simp [c8])
  have hv : callT T 21 [.sl 4 0 1 7 true] 0 [.cells [.int .i64 t.kind, .str t.name, .int .i64 t.value.kind, .int .i64 t.value.num, .str t.value.text, .isl (GV.encs t.value.items) false, .isl (GT.encs t.args) false] 0 false, .cells [.isl [] true] 0 false, .mp [], .cells [.map 2] 0 false,
      .cells [.int .i64 t.kind, .str t.name, .int .i64 t.value.kind, .int .i64 t.value.num, .str t.value.text, .isl (GV.encs t.value.items) false, .isl (GT.encs t.args) false] 0 false] = some (.func 33 [.ptr 5 0],
      [.cells [.int .i64 t.kind, .str t.name, .int .i64 t.value.kind, .int .i64 t.value.num, .str t.value.text, .isl (GV.encs t.value.items) false, .isl (GT.encs t.args) false] 0 false, .cells [.isl [] true] 0 false, .mp [], .cells [.map 2] 0 false,
      .cells [.int .i64 t.kind, .str t.name, .int .i64 t.value.kind, .int .i64 t.value.num, .str t.value.text, .isl (GV.encs t.value.items) false, .isl (GT.encs t.args) false] 7 false, .cells [.isl (GT.encs [t]) false] 0 false]) := by
    have := variables_sl t (k := 4) 0 [.cells [.int .i64 t.kind, .str t.name, .int .i64 t.value.kind, .int .i64 t.value.num, .str t.value.text, .isl (GV.encs t.value.items) false, .isl (GT.encs t.args) false] 0 false, .cells [.isl [] true] 0 false, .mp [], .cells [.map 2] 0 false,
      .cells [.int .i64 t.kind, .str t.name, .int .i64 t.value.kind, .int .i64 t.value.num, .str t.value.text, .isl (GV.encs t.value.items) false, .isl (GT.encs t.args) false] 0 false] (by rw [GT.enc_eq]; rfl)
    rw [GT.enc_eq] at this
    exact this
  simp [c8, setRun, hv]
  generalize hf : upF _ _ _ = f
  have h2 : f 2 = .ptr 1 0 := by rw [← hf]; simp
  have h3 : f 3 = .ptr 3 0 := by rw [← hf]; simp
  have h8 : f 8 = .func 33 [.ptr 5 0] := by rw [← hf]; simp
  have R : Rounds1 (JV f) (fun _ _ => False) stepV (·.2) 2000000000 0 6 7 := by
    refine ⟨?_, fun s σ h => h.1, fun s m _ => rfl, fun s σ m h hc hb => ?_⟩
    · rintro s σ o ⟨a1, a2, a3, a4, a5, x, a6, a7⟩
      have l1 : 1 < σ.length := by omega
      refine ⟨by simp; omega, a2, ?_, ?_, ?_, x, ?_, ?_⟩
      · rw [List.getElem?_append_left (by omega)]; exact a3
      · rw [List.getElem?_append_left (by omega)]; exact a4
      · rw [List.getElem?_append_left (by omega)]; exact a5
      · rw [List.getElem?_append_left (by omega)]; exact a6
      · rcases a7 with h | ⟨k, b1, b2, b3⟩
        · exact .inl h
        · exact .inr ⟨k, b1, b2, by rw [List.getElem?_append_left (List.getElem?_eq_some_iff.1 b3).1]; exact b3⟩
    · obtain ⟨σ', r1, r2, r3, r4⟩ := roundV h2 h3 s σ m h hc
      exact ⟨σ', r1, fun _ => r2, (fun e => by simp [stepV] at e), r3, r4⟩
  have hvl : vsL [t] = vs1 t := by simp [vsL]
  have hvs := vs1_len t
  obtain ⟨σ', hc, hH, _, hlen⟩ := iter_ok (JV f) (fun _ _ => False) stepV (·.2) 2000000000 R [t] ([], 0) (il := 5) (fz := 0) (ext := false) ([.cells [.int .i64 t.kind, .str t.name, .int .i64 t.value.kind, .int .i64 t.value.num, .str t.value.text, .isl (GV.encs t.value.items) false, .isl (GT.encs t.args) false] 0 false, .cells [.isl [] true] 0 false, .mp [], .cells [.map 2] 0 false,
      .cells [.int .i64 t.kind, .str t.name, .int .i64 t.value.kind, .int .i64 t.value.num, .str t.value.text, .isl (GV.encs t.value.items) false, .isl (GT.encs t.args) false] 7 false, .cells [.isl (GT.encs [t]) false] 0 false] ++ [.lp (rcOf Try.f8) (lst 20 f) .ready none])
    (by simp [GT.sizes]; omega) ⟨by simp, by simp, rfl, rfl, rfl, _, rfl, .inl ⟨rfl, rfl⟩⟩ (by rw [hvl]; simp; omega) (Nat.zero_le _) rfl
  have hH := hH (by rw [run_nub])
  rw [run_nub, hvl] at hH
  obtain ⟨b1, b2, b3, b4, b5, x, b6, b7⟩ := hH
  refine W_rfn (g := 33) (caps := [.ptr 5 0]) (by decide) (by simp [h8]) hc (e := .normal) (σ2 := σ'.set 6 (.lp (rcOf Try.f8) (lst 20 f) .exhausted none)) (by simp [endLp, b5, pdX]) ?_
  refine wpK_sound T 0 20 _ _ _ _ ?_
  have b6' : (σ'.set 6 (.lp (rcOf Try.f8) (lst 20 f) .exhausted none))[1]? = some (.cells [x] 0 false) := by rw [List.getElem?_set_ne (by decide)]; exact b6
  simp only [wpK_blk, wpK_ret, wpK_nil]
  simp [endP, h2, b6', res1]
  rcases b7 with ⟨e, rfl⟩ | ⟨k, _, rfl, _⟩
  · have e : nub (vs1 t) = [] := e
    simp [encN, e]
  · have hcl : ∀ σ : Heap, close1 σ (.own k (List.map AV.str (List.foldl addB [] (vs1 t)))) = some (.isl (List.map AV.str (List.foldl addB [] (vs1 t))) false, σ) := fun σ => by simp [close1, close0]
    simp [encN, nub, hcl]
end Go.Proofs.Ytddmjmkbnfoodaa
end
section
namespace Go.Mach
def LX (N sz : Nat) (σ : Heap) (es : List AV) (x : AV) : Prop :=
  (es = [] ∧ x = .isl [] true) ∨
  (∃ k cs fz, x = .sl k 0 1 sz true ∧ N ≤ k ∧ σ[k]? = some (.cells cs fz false) ∧ cs.length = sz ∧ cs.all AV.clo1 = true ∧ es = [.agg (cs.map AV.nrm)]) ∨
  (∃ k, x = .own k es ∧ N ≤ k ∧ σ[k]? = some (.tok es.length sz) ∧ es.all (okEl sz true) = true)
def LO (N sz : Nat) (ag : Bool) (σ : Heap) (es : List AV) (x : AV) : Prop :=
  (es = [] ∧ x = .isl [] true) ∨ (∃ k, x = .own k es ∧ N ≤ k ∧ σ[k]? = some (.tok es.length sz) ∧ es.all (okEl sz ag) = true)
theorem LO.nil (N sz : Nat) (ag : Bool) (σ : Heap) : LO N sz ag σ [] (.isl [] true) := .inl ⟨rfl, rfl⟩
theorem LO.closeS {N sz : Nat} {ag : Bool} {σ : Heap} {es : List AV} {x : AV} (h : LO N sz ag σ es x) (τ : Heap) : Go.Mach.closeS τ x = τ := by
  rcases h with ⟨_, rfl⟩ | ⟨k, rfl, _⟩ <;> rfl
theorem LO.len {N sz : Nat} {ag : Bool} {σ : Heap} {es : List AV} {x : AV} (h : LO N sz ag σ es x) : lenV false x = some (.int .i64 (es.length : Int)) := by
  rcases h with ⟨rfl, rfl⟩ | ⟨k, rfl, _⟩ <;> simp
theorem LO.solid {N sz : Nat} {ag : Bool} {σ : Heap} {es : List AV} {x : AV} (h : LO N sz ag σ es x) : x.solid = true := by
  rcases h with ⟨rfl, rfl⟩ | ⟨k, rfl, _⟩ <;> rfl
theorem LO.cells {N sz : Nat} {ag : Bool} {σ : Heap} {es : List AV} {x : AV} (h : LO N sz ag σ es x) : x.cells = [x] := by
  rcases h with ⟨rfl, rfl⟩ | ⟨k, rfl, _⟩ <;> rfl
theorem LO.close {N sz : Nat} {ag : Bool} {σ : Heap} {es : List AV} {x : AV} (h : LO N sz ag σ es x) (τ : Heap) : close0 τ x = some (.isl es false, τ) := by
  rcases h with ⟨rfl, rfl⟩ | ⟨k, rfl, _⟩ <;> rfl
theorem LO.close1 {N sz : Nat} {ag : Bool} {σ : Heap} {es : List AV} {x : AV} (h : LO N sz ag σ es x) (τ : Heap) : Go.Mach.close1 τ x = some (.isl es false, τ) := close1_of0 (h.close τ)
theorem LO.closeA {N sz : Nat} {ag : Bool} {σ : Heap} {es : List AV} {x : AV} (h : LO N sz ag σ es x) (τ : Heap) : Go.Mach.closeA τ x = some (.isl es false, τ) := by
  have hc := h.close1 τ
  rcases h with ⟨rfl, rfl⟩ | ⟨k, rfl, _⟩ <;> exact hc
theorem LO.keep {N sz : Nat} {ag : Bool} {σ τ : Heap} {es : List AV} {x : AV} (h : LO N sz ag σ es x) (hk : ∀ i o, N ≤ i → σ[i]? = some o → τ[i]? = some o) : LO N sz ag τ es x := by
  rcases h with h | ⟨k, h1, h2, h3, h4⟩
  · exact .inl h
  · exact .inr ⟨k, h1, h2, hk _ _ h2 h3, h4⟩
theorem LO.at {N sz : Nat} {ag : Bool} {σ : Heap} {es : List AV} {x : AV} (h : LO N sz ag σ es x) {i : Nat} (hi : i < es.length) (hz : (es[i]).cells.length = sz) : iaddrV sz x (.int .i64 (i : Int)) = some (.iptr (es[i]).cells 0) := by
  rcases h with ⟨rfl, rfl⟩ | ⟨k, rfl, _⟩
  · simp at hi
  · simp [hi, hz]
theorem LX.len {N sz : Nat} {σ : Heap} {es : List AV} {x : AV} (h : LX N sz σ es x) : lenV false x = some (.int .i64 (es.length : Int)) := by
  rcases h with ⟨rfl, rfl⟩ | ⟨k, cs, fz, rfl, _, _, _, _, rfl⟩ | ⟨k, rfl, _⟩ <;> simp
theorem LX.solid {N sz : Nat} {σ : Heap} {es : List AV} {x : AV} (h : LX N sz σ es x) : x.solid = true := by
  rcases h with ⟨rfl, rfl⟩ | ⟨k, cs, fz, rfl, _⟩ | ⟨k, rfl, _⟩ <;> rfl
theorem LX.cells {N sz : Nat} {σ : Heap} {es : List AV} {x : AV} (h : LX N sz σ es x) : x.cells = [x] := by
  rcases h with ⟨rfl, rfl⟩ | ⟨k, cs, fz, rfl, _⟩ | ⟨k, rfl, _⟩ <;> rfl
theorem LX.keep {N sz : Nat} {σ τ : Heap} {es : List AV} {x : AV} (h : LX N sz σ es x) (hk : ∀ i o, N ≤ i → σ[i]? = some o → τ[i]? = some o) : LX N sz τ es x := by
  rcases h with h | ⟨k, cs, fz, h1, h2, h3, h4⟩ | ⟨k, h1, h2, h3, h4⟩
  · exact .inl h
  · exact .inr (.inl ⟨k, cs, fz, h1, h2, hk _ _ h2 h3, h4⟩)
  · exact .inr (.inr ⟨k, h1, h2, hk _ _ h2 h3, h4⟩)
theorem close0_one {σ : Heap} {k sz fz : Nat} {ext : Bool} {cs : List AV} (hk : σ[k]? = some (.cells cs fz ext)) (hl : cs.length = sz) (hc : cs.all AV.clo1 = true) : close0 σ (.sl k 0 1 sz true) = some (.isl [.agg (cs.map AV.nrm)] false, frz σ k sz) := by
  subst hl
  have hw : window cs 0 cs.length = some cs := window_full rfl
  have hc2 : ¬ (1 : Nat) = 0 := by decide
  simp only [close0, if_neg hc2, hk, Nat.one_mul, Nat.zero_add, hw, Option.bind_some, hc, if_true]
  have ht : List.take cs.length (List.map AV.nrm cs) = List.map AV.nrm cs := List.take_of_length_le (by simp)
  simp [chunk, mk, ht]
theorem LX.frz {N sz k m : Nat} {σ : Heap} {es : List AV} {y : AV} (h : LX N sz σ es y) : LX N sz (Go.Mach.frz σ k m) es y := by
  unfold Go.Mach.frz
  split
  · rename_i cs0 fz0 ext0 h0
    have hk := (List.getElem?_eq_some_iff.1 h0).1
    rcases h with h | ⟨j, cs, fz, h1, h2, h3, h4⟩ | ⟨j, h1, h2, h3, h4⟩
    · exact .inl h
    · by_cases e : k = j
      · subst e
        rw [h0] at h3; injection h3 with h3; injection h3 with e1 e2 e3; subst e1 e3
        exact .inr (.inl ⟨k, cs0, _, h1, h2, list_set_at hk, h4⟩)
      · exact .inr (.inl ⟨j, cs, fz, h1, h2, by rw [List.getElem?_set_ne e]; exact h3, h4⟩)
    · have e : k ≠ j := by rintro rfl; rw [h0] at h3; cases h3
      exact .inr (.inr ⟨j, h1, h2, by rw [List.getElem?_set_ne e]; exact h3, h4⟩)
  · exact h
theorem LX.close {N sz : Nat} {σ : Heap} {es : List AV} {x : AV} (h : LX N sz σ es x) : ∃ σ', close0 σ x = some (.isl es false, σ') ∧ σ'.length = σ.length ∧ (∀ i, i < N → σ'[i]? = σ[i]?) ∧ ∀ N2 sz2 es2 y, LX N2 sz2 σ es2 y → LX N2 sz2 σ' es2 y := by
  rcases h with ⟨rfl, rfl⟩ | ⟨k, cs, fz, rfl, hN, hk, hl, hc, rfl⟩ | ⟨k, rfl, _⟩
  · exact ⟨σ, rfl, rfl, fun _ _ => rfl, fun _ _ _ _ h => h⟩
  · refine ⟨_, close0_one hk hl hc, ?_, fun i hi => ?_, fun _ _ _ _ h => h.frz⟩
    · simp only [Go.Mach.frz, hk, List.length_set]
    · simp only [Go.Mach.frz, hk]; rw [List.getElem?_set_ne (by omega)]
  · exact ⟨σ, rfl, rfl, fun _ _ => rfl, fun _ _ _ _ h => h⟩
theorem LX.closeA {N sz : Nat} {σ : Heap} {es : List AV} {x : AV} (h : LX N sz σ es x) : ∃ σ', Go.Mach.closeA σ x = some (.isl es false, σ') ∧ σ'.length = σ.length ∧ ∀ i, i < N → σ'[i]? = σ[i]? := by
  obtain ⟨σ', h1, h2, h3, _⟩ := h.close
  refine ⟨σ', ?_, h2, h3⟩
  rcases h with ⟨rfl, rfl⟩ | ⟨k, cs, fz, rfl, hN, hk, hl, hc, rfl⟩ | ⟨k, rfl, _⟩ <;> exact close1_of0 h1
theorem LO.isl {N sz bytes : Nat} {ag b : Bool} {σ : Heap} {es : List AV} {x : AV} (h : LO N sz ag σ es x) (ys : List AV) (hok : ys.all (okEl sz ag) = true) (hl : es.length + ys.length ≤ 1000000000) (h0 : 0 < sz) (hb : bytes ≤ 1000) (hN : N ≤ σ.length) :
    ∃ x' σ', appendA σ sz ag bytes false x (.isl ys b) = some (x', σ') ∧ LO N sz ag σ' (es ++ ys) x' ∧ σ.length ≤ σ'.length ∧ ∀ i, i < N → σ'[i]? = σ[i]? := by
  cases ys with
  | nil =>
    refine ⟨x, σ, ?_, by simpa using h, Nat.le_refl _, fun _ _ => rfl⟩
    rcases h with ⟨_, rfl⟩ | ⟨k, rfl, _⟩ <;> simp [appendA, elemsN, elemsA, isSl]
  | cons y ys =>
    have hn : ¬ (sz = 0 ∨ (es.length + (y :: ys).length) * bytes > 70368744177664 ∨ es.length + (y :: ys).length > 70368744177664) := by
      have : (es.length + (y :: ys).length) * bytes ≤ 1000000000 * 1000 := Nat.mul_le_mul hl hb
      omega
    have hne : (y :: ys) ≠ [] := by simp
    have he2 : elemsN σ sz ag (.isl (y :: ys) b) = some (y :: ys) := rfl
    rcases h with ⟨rfl, rfl⟩ | ⟨k, rfl, hkN, ht, hes⟩
    · refine ⟨.own σ.length (y :: ys), σ ++ [.tok (y :: ys).length sz], ?_, .inr ⟨σ.length, by simp, hN, by simp, hok⟩, by simp, fun j hj => by rw [List.getElem?_append_left (by omega)]⟩
      have he1 : elemsA σ sz ag (.isl [] true) = some [] := rfl
      simp only [List.length_nil] at hn
      simp only [appendA, he1, he2, Option.bind_some, isSl, if_neg hne, List.length_nil, if_neg hn, hok, Bool.false_eq_true, if_false]
      simp
    · have hk := (List.getElem?_eq_some_iff.1 ht).1
      refine ⟨.own k (es ++ y :: ys), σ.set k (.tok (es ++ y :: ys).length sz), ?_, .inr ⟨k, rfl, hkN, list_set_at hk, by rw [List.all_append, hes, hok]; rfl⟩, by simp, fun j hj => by rw [List.getElem?_set_ne (by omega)]⟩
      have he1 : elemsA σ sz ag (.own k es) = some es := rfl
      simp only [appendA, he1, he2, Option.bind_some, isSl, if_neg hne, ht, hok, hes, Bool.false_eq_true, if_false]
      rw [if_neg hn]
      simp
section
variable {T : Tab} {bs n : Nat}
def LastOk (y z : AV) : Prop := (y.clo1 = true ∧ y.nrm = z) ∨ ∃ k ys, y = .own k ys ∧ z = .isl ys false
theorem LastOk.isl (es : List AV) (b : Bool) : LastOk (.isl es b) (.isl es false) := .inl ⟨rfl, rfl⟩
end
end Go.Mach
end
section
namespace Go.Mach
def apart (x y : AV) : Prop := ∀ k es es2, x = .own k es → y ≠ .own k es2
theorem apart.symm {x y : AV} (h : apart x y) : apart y x := fun k es es2 h1 h2 => h k es2 es h2 h1
section
variable {T : Tab} {bs n : Nat}
end
theorem LO.cat {N M sz bytes : Nat} {ag : Bool} {σ : Heap} {es ys : List AV} {x y : AV} (h : LO N sz ag σ es x) (hy : LO M sz ag σ ys y) (hl : es.length + ys.length ≤ 1000000000) (h0 : 0 < sz) (hb : bytes ≤ 1000) (hN : N ≤ σ.length) :
    ∃ x' σ', appendC σ sz ag bytes false x y = some (x', σ') ∧ LO N sz ag σ' (es ++ ys) x' ∧ σ.length ≤ σ'.length ∧ ∀ i, i < N → σ'[i]? = σ[i]? := by
  have hX : closeX σ y = σ := by rcases hy with ⟨_, rfl⟩ | ⟨k, rfl, _⟩ <;> rfl
  have e1 : appendC σ sz ag bytes false x y = appendA σ sz ag bytes false x y := by
    unfold appendC; simp only [Bool.false_eq_true, if_false]; rw [hX, h.closeS σ]
  have e2 : ∃ b, appendA σ sz ag bytes false x y = appendA σ sz ag bytes false x (.isl ys b) := by
    rcases hy with ⟨rfl, rfl⟩ | ⟨k, rfl, _⟩
    · exact ⟨true, rfl⟩
    · exact ⟨false, rfl⟩
  have hok : ys.all (okEl sz ag) = true := by
    rcases hy with ⟨rfl, rfl⟩ | ⟨k, rfl, _, _, hq⟩
    · rfl
    · exact hq
  obtain ⟨b, e2⟩ := e2
  rw [e1, e2]
  exact h.isl ys hok hl h0 hb hN
end Go.Mach
end
