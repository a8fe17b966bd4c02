import Derived.Test.YtiikmmbfhbianaaC6
section
set_option linter.unusedVariables false
set_option linter.unusedSimpArgs false
set_option linter.unnecessarySimpa false
namespace Go.Proofs.Ytiikmmbfhbianaa
open Go.Mach
def varOf (s : ByteArray) : ByteArray := ⟨#[86]⟩ ++ (nameFit s).extract 1 (nameFit s).size
theorem lawVar_ok (s : ByteArray) (hs : s.size ≤ 100000000000) : pureT T c26 [.str s] = some (.str (varOf s)) := by
  have hn := nameFit_size s
  have hc := lawName s hs
  have h1 : (⟨#[86]⟩ : ByteArray).size = 1 := rfl
  have h2 : ((nameFit s).extract 1 (nameFit s).size).size = (nameFit s).size - 1 := by rw [ByteArray.size_extract]; omega
  apply pure_enter (by simp [c26])
  have h0 : (1 : Int) ≤ ((nameFit s).size : Int) := by omega
  have h3 : (1 : Int) + (((nameFit s).size - 1 : Nat) : Int) ≤ 9223372036854775807 := by omega
  simp [c26, hc, h0, h1, h3, varOf]
theorem lawVar (s : ByteArray) (hs : s.size ≤ 100000000000) (bs : Nat) (σ : Heap) : callT T 26 [.str s] bs σ = some (.str (varOf s), σ) := call_clean rfl rfl rfl (by simp) (lawVar_ok s hs)
def relOf (s : ByteArray) : ByteArray := if 0 ≤ arityOf (nameFit s) ∨ nameFit s = ⟨#[109, 97, 116, 101, 114, 105, 97, 108, 105, 122, 101]⟩ then ⟨#[110]⟩ else nameFit s
theorem lawRel_ok (s : ByteArray) (hs : s.size ≤ 100000000000) : pureT T c28 [.str s] = some (.str (relOf s)) := by
  have hc := lawName s hs
  have ha := refArity (nameFit s)
  apply pure_enter (by simp [c28])
  simp [c28, hc, ha]
  unfold relOf
  grind
theorem lawRel (s : ByteArray) (hs : s.size ≤ 100000000000) (bs : Nat) (σ : Heap) : callT T 28 [.str s] bs σ = some (.str (relOf s), σ) := call_clean rfl rfl rfl (by simp) (lawRel_ok s hs)
theorem pick4_ok (c n : Int) (h : n ≠ 0) : pureT T c25 [.int .i64 c, .int .i64 n] = some (.int .i64 ((if c < 0 then IntKind.i64.wrap (0 - IntKind.i64.wrap (c + 1)) else c).tmod n)) := by
  apply pure_enter (by simp [c25])
  by_cases hc : c < 0
  · simp [c25, hc, h]
  · simp [c25, hc, h]
theorem pickQ (c : Int) (n : Nat) (h : 0 < n) (h1 : GV.i64ok c) (bs : Nat) (σ : Heap) :
    callT T 25 [.int .i64 c, .int .i64 (n : Int)] bs σ = some (.int .i64 (pickN c n : Int), σ) := by
  refine call_clean rfl rfl rfl rfl ?_
  rw [pick4_ok c n (by omega), pick_eq c n h h1.1 h1.2]
theorem pickQ4 (c : Int) (h1 : GV.i64ok c) (bs : Nat) (σ : Heap) : callT T 25 [.int .i64 c, .int .i64 4] bs σ = some (.int .i64 (pickN c 4 : Int), σ) := pickQ c 4 (by omega) h1 bs σ
theorem pickQ6 (c : Int) (h1 : GV.i64ok c) (bs : Nat) (σ : Heap) : callT T 25 [.int .i64 c, .int .i64 6] bs σ = some (.int .i64 (pickN c 6 : Int), σ) := pickQ c 6 (by omega) h1 bs σ
theorem pickQ3 (c : Int) (h1 : GV.i64ok c) (bs : Nat) (σ : Heap) : callT T 25 [.int .i64 c, .int .i64 3] bs σ = some (.int .i64 (pickN c 3 : Int), σ) := pickQ c 3 (by omega) h1 bs σ
theorem wrap_ok (n : Int) : GV.i64ok (IntKind.i64.wrap n) := by unfold GV.i64ok; rw [IntKind.wrap_i64]; omega
def fnOf (n : Nat) : ByteArray := if n = 0 then sCons else if n = 1 then sSize else if n = 2 then sMember else if n = 3 then sFirst else if n = 4 then sReverse else sConcat
def opOf (n : Nat) : ByteArray := if n = 0 then ⟨#[43]⟩ else if n = 1 then ⟨#[45]⟩ else ⟨#[42]⟩
def valOf (v : GV) : GV := if (fit v).kind = 3 then .mk (fit v).kind (fit v).num (relOf (fit v).text) (fit v).items else fit v
def leafT (t : GT) : GT := if pickN t.kind 4 % 2 = 0 then .mk 1 (varOf t.name) nilV [] else .mk 2 ⟨#[]⟩ (valOf t.value) []
def termV : Nat → GT → GT
  | 0, t => leafT t
  | d + 1, t =>
    if d = 0 ∨ t.args.length < 2 then leafT t
    else if pickN t.kind 4 = 0 then .mk 1 (varOf t.name) nilV []
    else if pickN t.kind 4 = 1 then .mk 2 ⟨#[]⟩ (valOf t.value) []
    else if pickN t.kind 4 = 2 then
      .mk 3 (fnOf (pickN (IntKind.i64.wrap ((t.name.size : Int) + t.kind)) 6)) nilV ((t.args.take (arityOf (fnOf (pickN (IntKind.i64.wrap ((t.name.size : Int) + t.kind)) 6))).toNat).map (termV d))
    else .mk 4 (opOf (pickN t.name.size 3)) nilV ((t.args.take 2).map (termV d))
theorem term_leaf (d : Int) (t : GT) (ht : t.ok) (hs : t.size ≤ 100000000000) (h : d ≤ 1 ∨ t.args.length < 2) : pureT T c13 [t.enc, .int .i64 d] = some (leafT t).enc := by
  have hk : GV.i64ok t.kind ∧ t.value.ok := by revert ht; cases t; simp only [GT.ok]; exact fun h => ⟨h.1, h.2.1⟩
  have hp := pickQ4 t.kind hk.1
  have hv := lawVar t.name (Nat.le_trans (GT.name_le t) hs)
  have hf := callFit t.value hk.2 (Nat.le_trans (GT.value_le t) hs)
  have hpl := pickN_lt (c := t.kind) (n := 4) (by omega)
  have htm : ((pickN t.kind 4 : Int)).tmod 2 = ((pickN t.kind 4 % 2 : Nat) : Int) := rfl
  have hfs : (fit t.value).text.size ≤ 100000000000 := Nat.le_trans (Nat.le_trans (text_le _) (fit_size _)) (by omega)
  have hr := lawRel (fit t.value).text hfs
  apply pure_enter (by simp [c13])
  have hcond : d ≤ 1 ∨ (¬ d ≤ 1 ∧ ((t.args.length : Int) < 2)) := by omega
  rcases hcond with hd | ⟨hd, hl⟩
  · by_cases hz : pickN t.kind 4 % 2 = 0
    · simp [c13, hp, htm, hd, hz, hv, setRun]
      simp [leafT, hz, GT.enc, nilV]
    · have hz1 : pickN t.kind 4 % 2 = 1 := by omega
      simp [c13, hp, htm, hd, hz1, hf, setRun, enc_mk, hr]
      refine ⟨fun h => ?_, fun h => ?_⟩
      all_goals simp [leafT, hz1, GT.enc, valOf, h]
  · by_cases hz : pickN t.kind 4 % 2 = 0
    · simp [c13, hp, htm, hd, hl, hz, hv, setRun]
      simp [leafT, hz, GT.enc, nilV]
    · have hz1 : pickN t.kind 4 % 2 = 1 := by omega
      simp [c13, hp, htm, hd, hl, hz1, hf, setRun, enc_mk, hr]
      refine ⟨fun h => ?_, fun h => ?_⟩
      all_goals simp [leafT, hz1, GT.enc, valOf, h]
theorem fnOf_arity (n : Nat) : arityOf (fnOf n) = if n = 0 ∨ n = 2 ∨ 5 ≤ n then 2 else 1 := by
  unfold fnOf
  by_cases h0 : n = 0
  · subst h0; decide
  · by_cases h1 : n = 1
    · subst h1; decide
    · by_cases h2 : n = 2
      · subst h2; decide
      · by_cases h3 : n = 3
        · subst h3; decide
        · by_cases h4 : n = 4
          · subst h4; decide
          · rw [if_neg h0, if_neg h1, if_neg h2, if_neg h3, if_neg h4, if_pos (by omega)]; decide
theorem term_call (d : Nat) (hd0 : 0 < d) (hd : d ≤ 100) (t : GT) (ht : t.ok) (hs : t.size ≤ 100000000000) (h2 : 2 ≤ t.args.length) (hk : pickN t.kind 4 = 2) (g : GT → GT)
    (hg : ∀ x ∈ t.args, ∀ bs σ, callT T 13 [x.enc, .int .i64 (d : Int)] bs σ = some ((g x).enc, σ)) (fn : ByteArray) (hfn : fn = fnOf (pickN (IntKind.i64.wrap ((t.name.size : Int) + t.kind)) 6)) :
    pureT T c13 [t.enc, .int .i64 ((d : Int) + 1)] = some (GT.mk 3 fn nilV ((t.args.take (arityOf fn).toNat).map g)).enc := by
  have hk1 : GV.i64ok t.kind := by revert ht; cases t; simp only [GT.ok]; exact fun h => h.1
  have hp := pickQ4 t.kind hk1
  rw [hk] at hp
  have hp6 := pickQ6 _ (wrap_ok ((t.name.size : Int) + t.kind))
  have hlt := pickN_lt (c := IntKind.i64.wrap ((t.name.size : Int) + t.kind)) (n := 6) (by omega)
  have har := fnOf_arity (pickN (IntKind.i64.wrap ((t.name.size : Int) + t.kind)) 6)
  rw [← hfn] at har
  generalize pickN (IntKind.i64.wrap ((t.name.size : Int) + t.kind)) 6 = m at *
  have hdd : ¬ ((d : Int) + 1 ≤ 1) := by omega
  have hll : ¬ ((t.args.length : Int) < 2) := by omega
  have hget : ∀ σ : Heap, ∀ L : List AV, L = [AV.str sCons, .str sSize, .str sMember, .str sFirst, .str sReverse, .str sConcat] → (window L m 1).bind (mk false) = some (.str fn) := by
    intro σ L e; subst e hfn
    match m, hlt with
    | 0, _ => rfl
    | 1, _ => rfl
    | 2, _ => rfl
    | 3, _ => rfl
    | 4, _ => rfl
    | 5, _ => rfl
  obtain ⟨a, ha, ha1, ha2⟩ : ∃ a : Nat, arityOf fn = (a : Int) ∧ 1 ≤ a ∧ a ≤ 2 := by
    rw [har]; split
    · exact ⟨2, rfl, by omega, by omega⟩
    · exact ⟨1, rfl, by omega, by omega⟩
  have hary := refArity fn
  rw [ha] at hary ⊢
  have hw2 := hget [] _ rfl
  have hlt' : (m : Int) < 6 := by omega
  apply pure_enter (by simp [c13])
  simp [c13, hp, hdd, hll, hp6, hlt', setRun, hw2]
  refine W_for T 0 103 a (fun i f σ => f 1 = .int .i64 ((d : Int) + 1) ∧ f 2 = .ptr 0 0 ∧ f 4 = .ptr 1 0 ∧ f 7 = .str fn ∧ f 8 = .ptr 3 0 ∧ f 9 = .int .i64 (i : Int) ∧ ∃ S lst rest,
    σ = [.cells [.int .i64 t.kind, .str t.name, .int .i64 t.value.kind, .int .i64 t.value.num, .str t.value.text, .isl (GV.encs t.value.items) false, .isl (GT.encs t.args) false] 0 false,
      .cells [.int .i64 0, .str ⟨#[]⟩, .int .i64 0, .int .i64 0, .str ⟨#[]⟩, .isl [] true, .isl [] true] 0 false, S,
      .cells [.int .i64 3, .str fn, .int .i64 0, .int .i64 0, .str ⟨#[]⟩, .isl [] true, lst] 0 false] ++ rest ∧
    LstAt rest 4 (GT.encs ((t.args.take i).map g)) 7 lst) ?_ _ _ ?_
  · rintro i f σ hi ⟨h1, h2', h4, h7, h8, h9, S, lst, rest, rfl, hlst⟩
    by_cases hia : i < a
    · have hw : IntKind.i64.wrap ((i : Int) + 1) = (i : Int) + 1 := wr64 (by omega) (by omega)
      have hwd : IntKind.i64.wrap (d : Int) = (d : Int) := wr64 (by omega) (by omega)
      have hc1 : i < t.args.length := by omega
      have hcl := hg t.args[i] (List.getElem_mem hc1)
      have htk : (t.args.take (i + 1)).map g = (t.args.take i).map g ++ [g t.args[i]] := by rw [List.take_add_one, List.getElem?_eq_getElem hc1, List.map_append]; rfl
      have hlen : ((t.args.take i).map g).length = i := by simp; omega
      rw [htk]
      generalize (t.args.take i).map g = done at *
      have hdl : done.length ≤ 10000000000 := by omega
      rcases hlst with ⟨he, rfl⟩ | ⟨kk, rfl, hkl, hkk⟩
      · have hd0 : done = [] := (GT.encs_nil _).1 he
        simp [h1, h2', h4, h7, h8, h9, hia, hc1, hw, hwd, hary, setRun, hcl, GT.enc_mk]
        exact ⟨_, _, _, ⟨rfl, rfl, rfl⟩, .inr ⟨rest.length + 1, by simp [hd0], by simp, by simp [hd0]⟩⟩
      · simp [h1, h2', h4, h7, h8, h9, hia, hc1, hw, hwd, hary, setRun, hcl, GT.enc_mk, List.getElem?_append_left hkl, hkk, List.set_append_left _ _ hkl, hdl]
        exact ⟨_, _, _, ⟨rfl, rfl, rfl⟩, .inr ⟨kk, rfl, by simp; omega, by rw [List.getElem?_append_left (by simpa using hkl)]; simp [hkl]⟩⟩
    · have he : i = a := by omega
      subst he
      rcases hlst with ⟨he2, rfl⟩ | ⟨kk, rfl, hkl, hkk⟩
      · simp [h1, h2', h4, h7, h8, h9, hary, setRun, GT.enc, he2, ← List.map_take, nilV]
      · simp [h1, h2', h4, h7, h8, h9, hary, setRun, GT.enc, ← List.map_take, nilV]
  · exact ⟨by simp, by simp, by simp, by simp, by simp, by simp, _, _, [], rfl, .inl ⟨by simp, rfl⟩⟩
theorem term_op (d : Nat) (hd0 : 0 < d) (hd : d ≤ 100) (t : GT) (ht : t.ok) (hs : t.size ≤ 100000000000) (h2 : 2 ≤ t.args.length) (hk : pickN t.kind 4 = 3) (g : GT → GT)
    (hg : ∀ x ∈ t.args, ∀ bs σ, callT T 13 [x.enc, .int .i64 (d : Int)] bs σ = some ((g x).enc, σ)) (fn : ByteArray) (hfn : fn = opOf (pickN t.name.size 3)) :
    pureT T c13 [t.enc, .int .i64 ((d : Int) + 1)] = some (GT.mk 4 fn nilV ((t.args.take 2).map g)).enc := by
  have hk1 : GV.i64ok t.kind := by revert ht; cases t; simp only [GT.ok]; exact fun h => h.1
  have hp := pickQ4 t.kind hk1
  rw [hk] at hp
  have hns := GT.name_le t
  have hp3 := pickQ3 (t.name.size : Int) ⟨by omega, by omega⟩
  have hlt := pickN_lt (c := (t.name.size : Int)) (n := 3) (by omega)
  generalize pickN (t.name.size : Int) 3 = m at *
  have hdd : ¬ ((d : Int) + 1 ≤ 1) := by omega
  have hll : ¬ ((t.args.length : Int) < 2) := by omega
  have hget : ∀ L : List AV, L = [AV.str ⟨#[43]⟩, .str ⟨#[45]⟩, .str ⟨#[42]⟩] → (window L m 1).bind (mk false) = some (.str fn) := by
    intro L e; subst e hfn
    match m, hlt with
    | 0, _ => rfl
    | 1, _ => rfl
    | 2, _ => rfl
  have hw2 := hget _ rfl
  have hlt' : (m : Int) < 3 := by omega
  obtain ⟨x, y, l, hargs⟩ : ∃ x y l, t.args = x :: y :: l := by
    match t.args, h2 with
    | x :: y :: l, _ => exact ⟨x, y, l, rfl⟩
  have hx := hg x (by simp [hargs])
  have hy := hg y (by simp [hargs])
  have hwd : IntKind.i64.wrap (d : Int) = (d : Int) := wr64 (by omega) (by omega)
  have he : GT.encs t.args = x.enc :: y.enc :: GT.encs l := by rw [hargs]; rfl
  have hll : ¬ ((l.length : Int) + 1 + 1 < 2) := by omega
  apply pure_enter (by simp [c13])
  simp [c13, hp, hdd, hll, hp3, hlt', setRun, hw2, he, hwd, hx, hy, hargs, GT.enc_mk]
  simp [close1, close0, window, chunk, mk, GT.encs, GT.enc, GT.enc_eq (g x), GT.enc_eq (g y), nilV]
theorem term_ok : ∀ (d : Nat) (t : GT), d ≤ 100 → t.ok → t.size ≤ 100000000000 → pureT T c13 [t.enc, .int .i64 (d : Int)] = some (termV d t).enc := by
  intro d
  induction d with
  | zero => intro t hd ht hs; exact term_leaf 0 t ht hs (.inl (by omega))
  | succ d ih =>
    intro t hd ht hs
    unfold termV
    by_cases hl : d = 0 ∨ t.args.length < 2
    · rw [if_pos hl]
      refine term_leaf _ t ht hs ?_
      rcases hl with h | h
      · exact .inl (by omega)
      · exact .inr h
    · have hlt := pickN_lt (c := t.kind) (n := 4) (by omega)
      have hok : GT.oks t.args := by revert ht; cases t; simp only [GT.ok]; exact fun h => h.2.2
      have hargs := GT.args_le t
      have hcl : ∀ x ∈ t.args, ∀ bs σ, callT T 13 [x.enc, .int .i64 (d : Int)] bs σ = some ((termV d x).enc, σ) := fun x hx bs σ =>
        call_clean rfl rfl rfl (by simp) (ih x (by omega) ((GT.oks_iff _).1 hok x hx) (by have := (GT.sizes_mem hx).1; omega))
      have e : (((d + 1 : Nat)) : Int) = (d : Int) + 1 := by omega
      rw [if_neg hl, e]
      by_cases h2 : pickN t.kind 4 = 2
      · rw [if_neg (by omega), if_neg (by omega), if_pos h2]
        exact term_call d (by omega) (by omega) t ht hs (by omega) h2 _ hcl _ rfl
      · by_cases h3 : pickN t.kind 4 = 3
        · rw [if_neg (by omega), if_neg (by omega), if_neg h2]
          exact term_op d (by omega) (by omega) t ht hs (by omega) h3 _ hcl _ rfl
        · have hk1 : GV.i64ok t.kind ∧ t.value.ok := by revert ht; cases t; simp only [GT.ok]; exact fun h => ⟨h.1, h.2.1⟩
          have hp := pickQ4 t.kind hk1.1
          have hv := lawVar t.name (Nat.le_trans (GT.name_le t) hs)
          have hf := callFit t.value hk1.2 (Nat.le_trans (GT.value_le t) hs)
          have hfs : (fit t.value).text.size ≤ 100000000000 := Nat.le_trans (Nat.le_trans (text_le _) (fit_size _)) (by omega)
          have hr := lawRel (fit t.value).text hfs
          have hdd : ¬ ((d : Int) + 1 ≤ 1) := by omega
          have hll : ¬ ((t.args.length : Int) < 2) := by omega
          apply pure_enter (by simp [c13])
          by_cases h0 : pickN t.kind 4 = 0
          · rw [h0] at hp
            rw [if_pos h0]
            simp [c13, hp, hdd, hll, hv, setRun, GT.enc, nilV]
          · have h1 : pickN t.kind 4 = 1 := by omega
            rw [h1] at hp
            rw [if_neg h0, if_pos h1]
            simp [c13, hp, hdd, hll, hf, hr, setRun, enc_mk]
            refine ⟨fun h => ?_, fun h => ?_⟩
            all_goals simp [GT.enc, valOf, h]
theorem callTerm (d : Nat) (t : GT) (hd : d ≤ 100) (ht : t.ok) (hs : t.size ≤ 100000000000) (bs : Nat) (σ : Heap) : callT T 13 [t.enc, .int .i64 (d : Int)] bs σ = some ((termV d t).enc, σ) := call_clean rfl rfl rfl (by simp) (term_ok d t hd ht hs)
end Go.Proofs.Ytiikmmbfhbianaa
end
section
set_option linter.unusedVariables false
set_option linter.unusedSimpArgs false
set_option linter.unnecessarySimpa false
namespace Go.Proofs.Ytiikmmbfhbianaa
open Go.Mach
theorem fit_small (v : GV) : (fit v).size ≤ 3000000 := Nat.le_trans (fit_size v) (by omega)
theorem relOf_size (s : ByteArray) : (relOf s).size ≤ 100 := by
  unfold relOf; have := nameFit_size s; split
  · decide
  · omega
theorem valOf_size (v : GV) : (valOf v).size ≤ 3000100 := by
  unfold valOf
  have h1 := fit_small v
  split
  · have h2 := relOf_size (fit v).text
    have h3 := items_le (fit v)
    simp only [GV.size]; omega
  · omega
theorem varOf_size (s : ByteArray) : (varOf s).size ≤ 100 := by
  unfold varOf; have := nameFit_size s; rw [ByteArray.size_append, ByteArray.size_extract]
  show 1 + _ ≤ _
  omega
theorem e0 : (ByteArray.mk #[]).size = 0 := rfl
theorem leaf_size (t : GT) : (leafT t).size ≤ 3001000 := by
  unfold leafT
  have h1 := varOf_size t.name
  have h2 := valOf_size t.value
  split
  · simp only [GT.size, GT.sizes, nilV, GV.size, GV.sizes, e0]; omega
  · simp only [GT.size, GT.sizes, e0]; omega
theorem fnOf_size (n : Nat) : (fnOf n).size ≤ 9 := by
  unfold fnOf; repeat' split
  all_goals decide
theorem opOf_size (n : Nat) : (opOf n).size ≤ 9 := by
  unfold opOf; repeat' split
  all_goals decide
theorem sizesT_le (l : List GT) (n : Nat) (h : ∀ x ∈ l, x.size ≤ n) : GT.sizes l ≤ l.length * n := by
  induction l with
  | nil => simp [GT.sizes]
  | cons x l ih =>
    have h1 := h x (by simp)
    have h2 := ih fun y hy => h y (by simp [hy])
    simp only [GT.sizes, List.length_cons, Nat.add_mul]; omega
theorem term_size : ∀ (d : Nat) (t : GT), (termV d t).size ≤ 3001000 * 2 ^ d + 100 * (2 ^ d - 1)
  | 0, t => by have := leaf_size t; simp only [termV]; omega
  | d + 1, t => by
    have hp : 1 ≤ 2 ^ d := Nat.one_le_two_pow
    have h1 := leaf_size t
    have h2 := varOf_size t.name
    have h3 := valOf_size t.value
    have hargs : ∀ n, n ≤ 2 → GT.sizes ((t.args.take n).map (termV d)) ≤ 2 * (3001000 * 2 ^ d + 100 * (2 ^ d - 1)) := fun n hn => by
      have := sizesT_le ((t.args.take n).map (termV d)) (3001000 * 2 ^ d + 100 * (2 ^ d - 1)) fun x hx => by
        obtain ⟨y, _, rfl⟩ := List.mem_map.1 hx
        exact term_size d y
      refine Nat.le_trans this (Nat.mul_le_mul_right _ ?_)
      simp; omega
    have hpw : 2 ^ (d + 1) = 2 * 2 ^ d := by rw [Nat.pow_succ]; omega
    rw [hpw]
    unfold termV
    split
    · omega
    · split
      · simp only [GT.size, GT.sizes, nilV, GV.size, GV.sizes, e0]; omega
      · split
        · simp only [GT.size, GT.sizes, e0]; omega
        · split
          · have ha := hargs (arityOf (fnOf (pickN (IntKind.i64.wrap ((t.name.size : Int) + t.kind)) 6))).toNat (by rw [fnOf_arity]; split <;> decide)
            have hf := fnOf_size (pickN (IntKind.i64.wrap ((t.name.size : Int) + t.kind)) 6)
            simp only [GT.size, nilV, GV.size, GV.sizes, e0]
            omega
          · have ha := hargs 2 (by omega)
            have hf := opOf_size (pickN t.name.size 3)
            simp only [GT.size, nilV, GV.size, GV.sizes, e0]
            omega
end Go.Proofs.Ytiikmmbfhbianaa
end
section
set_option linter.unusedVariables false
set_option linter.unusedSimpArgs false
set_option linter.unnecessarySimpa false
namespace Go.Proofs.Ytiikmmbfhbianaa
open Go.Mach
section
variable {bs n : Nat} {f : FR} {σ : Heap}
theorem W_rfn {x : AX} {rc : RCode} {Q : AExit → FR → Heap → Prop} {g : Nat} {caps : List AV} {v : AV} {σ' σ2 : Heap} {e : AExit} (hg : g ≠ yno) (hx : evF n f x = .func g caps)
    (hc : callT T g (.yld σ.length :: caps) bs (σ ++ [.lp rc (lst n f) .ready none]) = some (v, σ')) (he : endLp σ.length (lst n f) σ' = some (e, lst n f, σ2)) (hQ : Q e f σ2) : W T bs n (.rfn x rc) f σ Q := by
  refine ⟨e, f, σ2, ?_, hQ⟩
  rw [execT_rfn, ev_lst, hx]
  simp only [callN, if_neg hg, hc, Option.bind_some, he]
theorem round_call {id nt : Nat} {rc : RCode} {a b : ACode} {f1 : FR} {st : LoopState} {pd : Option Code} {xs : List AV} {v : AV} {σ' : Heap} (hσ : σ[id]? = some (.lp rc (lst n f) st pd)) (hrd : rds rc = some (nt, a, b)) (hn : nt ≤ n)
    (hp : xs.length = rc.params.size) (hput : putAll rc.params.toList xs (lst n f) = lst n f1)
    (hw : W T bs n a f1 σ fun e f2 σ1 => e = .normal ∧ ∃ σ2, begLp id σ1 = some σ2 ∧ W T bs n b f2 σ2 fun e f3 σ3 => endRd id (e, lst n f3, σ3) = some (v, σ')) :
    callT T yno (.yld id :: xs) bs σ = some (v, σ') := by
  rw [callT_yld T bs σ T_ok.yn.1 T_ok.yn.2]
  obtain ⟨e, f2, σ1, hr, rfl, σ2, hb, e3, f3, σ3, hr3, hend⟩ := hw
  have hT : T.rd rc = some (nt, a, b) := hrd
  have hlen : (lst n f).length = n := by simp [lst]
  simp only [roundA, hσ, hT, Option.bind_some, hlen]
  rw [if_pos ⟨hp, hn⟩, hput, hr]
  simp only [Option.bind_some, bodyA, hb, hr3]
  exact hend
theorem put1 (d : Nat) (x : AV) (hd : d < n) : putAll [d] [x] (lst n f) = lst n (upF f d x) := by
  have := setDst_lst n f (some d) x
  simpa [putAll, setDst] using this
end
mutual
def vs1 : GT → List ByteArray
  | .mk k n _ l => if k = 1 then [n] else vsL l
def vsL : List GT → List ByteArray
  | [] => []
  | t :: l => vs1 t ++ vsL l
end
theorem vs1_eq (t : GT) : vs1 t = if t.kind = 1 then [t.name] else vsL t.args := by cases t; rfl
theorem vsL_append : ∀ (a b : List GT), vsL (a ++ b) = vsL a ++ vsL b
  | [], b => rfl
  | t :: a, b => by simp [vsL, vsL_append a b]
def runS {S : Type} (step : S → ByteArray → S × Bool) : S → List ByteArray → S × Bool
  | s, [] => (s, true)
  | s, n :: ns => if (step s n).2 = true then runS step (step s n).1 ns else ((step s n).1, false)
theorem runS_append {S : Type} (step : S → ByteArray → S × Bool) : ∀ (a b : List ByteArray) (s : S), runS step s (a ++ b) = if (runS step s a).2 = true then runS step (runS step s a).1 b else ((runS step s a).1, false)
  | [], b, s => by simp [runS]
  | n :: a, b, s => by
    simp only [List.cons_append, runS]
    by_cases h : (step s n).2 = true
    · simp only [if_pos h]; exact runS_append step a b _
    · simp only [if_neg h]; simp
section
variable {S : Type} (H X : S → Heap → Prop) (step : S → ByteArray → S × Bool) (cnt : S → Nat) (C : Nat)
def Counts : Prop := ∀ s m, (step s m).2 = true → cnt (step s m).1 = cnt s + 1
theorem Counts.run {step : S → ByteArray → S × Bool} {cnt : S → Nat} (h : Counts step cnt) : ∀ (l : List ByteArray) (s : S), (runS step s l).2 = true → cnt (runS step s l).1 = cnt s + l.length
  | [], s, _ => rfl
  | m :: l, s, hr => by
    simp only [runS] at hr ⊢
    by_cases hb : (step s m).2 = true
    · rw [if_pos hb] at hr ⊢
      rw [h.run l _ hr, h s m hb, List.length_cons]; omega
    · rw [if_neg hb] at hr; cases hr
structure Rounds (bs id iy ie : Nat) : Prop where
  more : ∀ s σ o, H s σ → H s (σ ++ [o])
  y : ∀ s σ, H s σ → σ[iy]? = some (.cells [.yld id] 0 false)
  e : ∀ s σ, H s σ → σ[ie]? = some (.cells [.func 48 [.ptr iy 0, .ptr ie 0]] 0 false)
  ct : Counts step cnt
  rd : ∀ s σ m, H s σ → cnt s < C → bs ≤ σ.length → ∃ σ', callT T yno [.yld id, .str m] bs σ = some (.bool (step s m).2, σ') ∧ ((step s m).2 = true → H (step s m).1 σ') ∧ ((step s m).2 = false → X (step s m).1 σ') ∧ σ.length ≤ σ'.length
theorem GT.size_args (t : GT) : GT.sizes t.args + 3 ≤ t.size := by cases t; simp only [GT.size, GT.args]; omega
theorem each_ok {bs id iy ie : Nat} (R : Rounds H X step cnt C bs id iy ie) : ∀ (k : Nat) (l : List GT) (s : S) (σ : Heap), GT.sizes l ≤ k → k ≤ 100000000000 → H s σ → cnt s + (vsL l).length ≤ C → bs ≤ σ.length →
    ∃ σ', callT T 48 [.isl (GT.encs l) false, .ptr iy 0, .ptr ie 0] bs σ = some (.bool (runS step s (vsL l)).2, σ') ∧ ((runS step s (vsL l)).2 = true → H (runS step s (vsL l)).1 σ') ∧ ((runS step s (vsL l)).2 = false → X (runS step s (vsL l)).1 σ') ∧ σ.length ≤ σ'.length := by
  intro k
  induction k using Nat.strongRecOn with
  | ind k ih =>
    intro l s σ hs hk hH hC hbs
    have hlen := GT.len_sizes l
    suffices hh : ∃ r, callT T 48 [.isl (GT.encs l) false, .ptr iy 0, .ptr ie 0] bs σ = some r ∧ (r.1 = .bool (runS step s (vsL l)).2 ∧ ((runS step s (vsL l)).2 = true → H (runS step s (vsL l)).1 r.2) ∧ ((runS step s (vsL l)).2 = false → X (runS step s (vsL l)).1 r.2) ∧ σ.length ≤ r.2.length) by
      obtain ⟨r, h1, h2, h3⟩ := hh
      exact ⟨r.2, by rw [h1, ← h2], h3⟩
    refine heap_enterE (args' := [.isl (GT.encs l) false, .ptr iy 0, .ptr ie 0]) (σ1 := σ) (af := c48) rfl rfl (by simp [c48]) (by simp [c48]) rfl ?_
    simp [c48, baseA]
    refine W_for T bs 27 l.length (fun i f τ => f 1 = .ptr iy 0 ∧ f 2 = .ptr ie 0 ∧ f 7 = .isl (GT.encs l) false ∧ f 8 = .int .i64 (l.length : Int) ∧ f 9 = .int .i64 (i : Int) ∧ (runS step s (vsL (l.take i))).2 = true ∧ H (runS step s (vsL (l.take i))).1 τ ∧ σ.length ≤ τ.length) ?_ _ _ ?_
    · rintro i f τ hi ⟨h1, h2, h7, h8, h9, hgo, hH2, hτ⟩
      by_cases hlt : i < l.length
      · have hw : IntKind.i64.wrap ((i : Int) + 1) = (i : Int) + 1 := wr64 (by omega) (by omega)
        have hsz := GT.sizes_mem (List.getElem_mem hlt)
        have htk : vsL (l.take (i + 1)) = vsL (l.take i) ++ vs1 l[i] := by
          rw [List.take_succ_eq_append_getElem hlt, vsL_append]; simp [vsL]
        have hobj : AObj.cells l[i].enc.cells 0 false = AObj.cells [.int .i64 l[i].kind, .str l[i].name, .int .i64 l[i].value.kind, .int .i64 l[i].value.num, .str l[i].value.text, .isl (GV.encs l[i].value.items) false, .isl (GT.encs l[i].args) false] 0 false := by rw [GT.enc_eq]; rfl
        have hH3 := R.more _ _ (.cells l[i].enc.cells 0 false) hH2
        have hy := R.y _ _ hH3
        have he := R.e _ _ hH3
        rw [hobj] at hH3 hy he
        have hgn : ∀ x : S × Bool, runS step s (vsL (l.take i) ++ vs1 l[i]) = runS step (runS step s (vsL (l.take i))).1 (vs1 l[i]) := fun _ => by rw [runS_append, if_pos hgo]
        have hall : runS step s (vsL l) = if (runS step s (vsL (l.take (i + 1)))).2 = true then runS step (runS step s (vsL (l.take (i + 1)))).1 (vsL (l.drop (i + 1))) else ((runS step s (vsL (l.take (i + 1)))).1, false) := by
          rw [← runS_append, ← vsL_append, List.take_append_drop]
        rw [htk, runS_append, if_pos hgo] at hall
        rw [htk, runS_append, if_pos hgo]
        obtain ⟨s1, hs1⟩ : ∃ s1, (runS step s (vsL (l.take i))).1 = s1 := ⟨_, rfl⟩
        rw [hs1] at hall hH3 ⊢
        rw [vs1_eq] at hall ⊢
        have hcn : cnt s1 + (vs1 l[i]).length ≤ C := by
          have h1 := R.ct.run _ _ hgo
          rw [hs1] at h1
          have h2 : vsL l = vsL (l.take i) ++ (vs1 l[i] ++ vsL (l.drop (i + 1))) := by
            rw [← List.append_assoc, ← htk, ← vsL_append, List.take_append_drop]
          rw [h2, List.length_append, List.length_append] at hC
          omega
        rw [vs1_eq] at hcn
        by_cases hkind : l[i].kind = 1
        · have hc1 : cnt s1 < C := by rw [if_pos hkind] at hcn; simp at hcn; omega
          rw [hkind] at hH3 hy he
          rw [if_pos hkind] at hall ⊢
          obtain ⟨τ2, hc, hH4, hX4, hl4⟩ := R.rd _ _ l[i].name hH3 hc1 (by simp; omega)
          simp only [runS] at hall ⊢
          simp only [List.length_append, List.length_singleton] at hl4
          by_cases hb : (step s1 l[i].name).2 = true
          · rw [hb] at hc
            simp [h1, h2, h7, h8, h9, hlt, hw, hkind, hy, hc, hb]
            exact ⟨hH4 hb, by omega⟩
          · have hb' : (step s1 l[i].name).2 = false := by simpa using hb
            rw [hb'] at hc
            simp [h1, h2, h7, h8, h9, hlt, hw, hkind, hy, hc, hb', hall]
            exact ⟨hX4 hb', by omega⟩
        · have hc2 : cnt s1 + (vsL l[i].args).length ≤ C := by rw [if_neg hkind] at hcn; exact hcn
          rw [if_neg hkind] at hall ⊢
          obtain ⟨τ2, hc, hH4, hX4, hl4⟩ := ih (GT.sizes l[i].args) (by have := GT.size_args l[i]; omega) l[i].args s1 _ (Nat.le_refl _) (by have := GT.size_args l[i]; omega) hH3 hc2 (by simp; omega)
          simp only [List.length_append, List.length_singleton] at hl4
          by_cases hb : (runS step s1 (vsL l[i].args)).2 = true
          · rw [hb] at hc
            simp [h1, h2, h7, h8, h9, hlt, hw, hkind, he, hc, hb]
            exact ⟨hH4 hb, by omega⟩
          · have hb' : (runS step s1 (vsL l[i].args)).2 = false := by simpa using hb
            rw [hb'] at hc
            simp [h1, h2, h7, h8, h9, hlt, hw, hkind, he, hc, hb', hall]
            exact ⟨hX4 hb', by omega⟩
      · have he : i = l.length := by omega
        subst he
        simp [h1, h2, h7, h8, h9]
        rw [List.take_length] at hgo hH2
        simp [hgo]
        exact ⟨hH2, hτ⟩
    · simp [runS, vsL]
      exact hH
structure Rounds1 (bs id N : Nat) : Prop where
  more : ∀ s σ o, H s σ → H s (σ ++ [o])
  len : ∀ s σ, H s σ → N ≤ σ.length
  ct : Counts step cnt
  rd : ∀ s σ m, H s σ → cnt s < C → bs ≤ σ.length → ∃ σ', callT T yno [.yld id, .str m] bs σ = some (.bool (step s m).2, σ') ∧ ((step s m).2 = true → H (step s m).1 σ') ∧ ((step s m).2 = false → X (step s m).1 σ') ∧ σ.length ≤ σ'.length ∧
    ∀ j cs, N ≤ j → σ[j]? = some (.cells cs 0 false) → σ'[j]? = some (.cells cs 0 false)
theorem iter_ok {bs id N il : Nat} (R : Rounds1 H X step cnt C bs id N) (l : List GT) (s : S) (σ : Heap) {fz : Nat} {ext : Bool} (hl : GT.sizes l ≤ 100000000000) (hH : H s σ) (hC : cnt s + (vsL l).length ≤ C) (hbs : bs ≤ σ.length) (hil : σ[il]? = some (.cells [.isl (GT.encs l) false] fz ext)) :
    ∃ σ', callT T 47 [.yld id, .ptr il 0] bs σ = some (.tup [], σ') ∧ ((runS step s (vsL l)).2 = true → H (runS step s (vsL l)).1 σ') ∧ ((runS step s (vsL l)).2 = false → X (runS step s (vsL l)).1 σ') ∧ σ.length ≤ σ'.length := by
  have hN := R.len _ _ hH
  have hlt : il < σ.length := (List.getElem?_eq_some_iff.1 hil).1
  have R2 : Rounds (fun s τ => H s τ ∧ σ.length + 1 < τ.length ∧ τ[σ.length]? = some (.cells [.yld id] 0 false) ∧ τ[σ.length + 1]? = some (.cells [.func 48 [.ptr σ.length 0, .ptr (σ.length + 1) 0]] 0 false)) X step cnt C bs id σ.length (σ.length + 1) := by
    refine ⟨fun s τ o h => ⟨R.more _ _ _ h.1, by simp; omega, ?_, ?_⟩, fun s τ h => h.2.2.1, fun s τ h => h.2.2.2, R.ct, fun s τ m h hc hb => ?_⟩
    · rw [List.getElem?_append_left (by omega)]; exact h.2.2.1
    · rw [List.getElem?_append_left (by omega)]; exact h.2.2.2
    · obtain ⟨τ', h1, h2, h3, h4, h5⟩ := R.rd s τ m h.1 hc hb
      exact ⟨τ', h1, fun e => ⟨h2 e, by omega, h5 _ _ (by omega) h.2.2.1, h5 _ _ (by omega) h.2.2.2⟩, h3, h4⟩
  have e1 : σ ++ [AObj.cells [.yld id] 0 false, AObj.cells [.func 48 [.ptr σ.length 0, .ptr (σ.length + 1) 0]] 0 false] = (σ ++ [AObj.cells [.yld id] 0 false]) ++ [AObj.cells [.func 48 [.ptr σ.length 0, .ptr (σ.length + 1) 0]] 0 false] := by simp
  obtain ⟨σ2, hc, h1, h2, h3⟩ := each_ok _ X step cnt C R2 (GT.sizes l) l s (σ ++ [AObj.cells [.yld id] 0 false, AObj.cells [.func 48 [.ptr σ.length 0, .ptr (σ.length + 1) 0]] 0 false]) (Nat.le_refl _) hl
    ⟨by rw [e1]; exact R.more _ _ _ (R.more _ _ _ hH), by simp, by simp, by simp⟩ hC (by simp; omega)
  refine ⟨σ2, ?_, fun e => (h1 e).1, h2, by simp at h3; omega⟩
  have hil2 : (σ ++ [AObj.cells [.yld id] 0 false, AObj.cells [.func 48 [.ptr σ.length 0, .ptr (σ.length + 1) 0]] 0 false])[il]? = some (.cells [.isl (GT.encs l) false] fz ext) := by rw [List.getElem?_append_left hlt]; exact hil
  refine heap_enter (args' := [.yld id, .ptr il 0]) (σ1 := σ) (af := c47) rfl rfl (by simp [c47]) (by simp [c47]) rfl ?_
  have hb1 : bs ≤ σ.length + 1 := by omega
  simp [c47, baseA, hil2, hc, hb1, res1]
end
theorem variables_isl (l : List GT) (bs : Nat) (σ : Heap) : callT T 30 [.isl (GT.encs l) false] bs σ = some (.func 47 [.ptr σ.length 0], σ ++ [.cells [.isl (GT.encs l) false] 0 false]) := by
  refine heap_enter (args' := [.isl (GT.encs l) false]) (σ1 := σ) (af := c30) rfl rfl (by simp [c30]) (by simp [c30]) (by simp [closeArgs, c30]) ?_
  simp [c30, baseA, res1]
theorem variables_sl (t : GT) {k : Nat} (bs : Nat) (σ : Heap) (h : σ[k]? = some (.cells t.enc.cells 0 false)) : callT T 30 [.sl k 0 1 7 true] bs σ = some (.func 47 [.ptr σ.length 0], σ.set k (.cells t.enc.cells 7 false) ++ [.cells [.isl (GT.encs [t]) false] 0 false]) := by
  refine heap_enter (args' := [.isl [t.enc] false]) (σ1 := σ.set k (.cells t.enc.cells 7 false)) (af := c30) rfl rfl (by simp [c30]) (by simp [c30]) ?_ ?_
  · rw [GT.enc_eq] at h ⊢
    simp only [AV.cells] at h ⊢
    have h0 : close0 σ (.sl k 0 1 7 true) = some (.isl [.agg [.int .i64 t.kind, .str t.name, .int .i64 t.value.kind, .int .i64 t.value.num, .str t.value.text, .isl (GV.encs t.value.items) false, .isl (GT.encs t.args) false]] false, σ.set k (.cells [.int .i64 t.kind, .str t.name, .int .i64 t.value.kind, .int .i64 t.value.num, .str t.value.text, .isl (GV.encs t.value.items) false, .isl (GT.encs t.args) false] 7 false)) := by
      simp [close0, h, window, chunk, frz, AV.nrm]
    simp [closeArgs, c30, close1, h0]
  · simp [c30, baseA, res1]
end Go.Proofs.Ytiikmmbfhbianaa
end
section
set_option linter.unusedVariables false
set_option linter.unusedSimpArgs false
set_option linter.unnecessarySimpa false
namespace Go.Proofs.Ytiikmmbfhbianaa
open Go.Mach
def memB (m : ByteArray) (b : List ByteArray) : Bool := b.any fun n => decide (m = n)
theorem memB_iff (m : ByteArray) (b : List ByteArray) : memB m b = true ↔ m ∈ b := by simp [memB]
def idxN (m : ByteArray) : List ByteArray → Nat
  | [] => 0
  | n :: b => if m = n then 0 else idxN m b + 1
theorem idxN_get (m : ByteArray) : ∀ b : List ByteArray, memB m b = true → b[idxN m b]? = some m
  | [], h => by simp [memB] at h
  | n :: b, h => by
    simp only [idxN]
    by_cases e : m = n
    · subst e; simp
    · have h' : memB m b = true := by simpa [memB, e] using h
      simp [e, idxN_get m b h']
def addB (b : List ByteArray) (m : ByteArray) : List ByteArray := if memB m b = true then b else b ++ [m]
def mpN (b : List ByteArray) : AObj := .mp (b.map fun n => (.str n, .bool true))
theorem mfind_names (m : ByteArray) : ∀ (b : List ByteArray) (i : Nat), mfind false [2] [.str m] i (b.map fun n => (AV.str n, AV.bool true)) = some (if memB m b = true then some (i + idxN m b, .bool true) else none)
  | [], i => rfl
  | n :: b, i => by
    have ih := mfind_names m b (i + 1)
    simp only [List.map_cons, mfind, keyC, Option.bind_some, eqcs_str, eqcs_nil, Option.map_some, Bool.and_true, Bool.false_eq_true, if_false]
    by_cases h : m = n
    · subst h; simp [memB, idxN]
    · have hm : memB m (n :: b) = memB m b := by simp [memB, h]
      simp only [decide_eq_false h, ih, hm, idxN, if_neg h]
      split
      · congr 3; omega
      · rfl
theorem mlook_n {σ : Heap} {id : Nat} {b : List ByteArray} (h : σ[id]? = some (mpN b)) (m : ByteArray) : mlookA σ false [2] (.bool false) false (.map id) (.str m) = some (.bool (memB m b)) := by
  simp only [mlookA, keyC, Option.bind_some, eqcs_str, eqcs_nil, Option.map_some, Option.isSome_some, if_true, mapOf, h, mpN, mfind_names, Bool.false_eq_true, if_false]
  cases hb : memB m b <;> simp [lookV]
theorem mset_n {σ : Heap} {id : Nat} {b : List ByteArray} (h : σ[id]? = some (mpN b)) (m : ByteArray) : msetA σ false [2] (.map id) (.str m) (.bool true) = some (σ.set id (mpN (addB b m))) := by
  have hcl : closeA σ (.bool true) = some (.bool true, σ) := by simp
  simp only [msetA, keyC, Option.bind_some, eqcs_str, eqcs_nil, Option.map_some, Option.isSome_some, true_and, hcl, h, mpN, mfind_names, Bool.false_eq_true, if_false]
  cases hb : memB m b
  · simp [addB, hb]
  · have hi : (b.map fun n => (AV.str n, AV.bool true)).set (idxN m b) (.str m, .bool true) = b.map fun n => (AV.str n, AV.bool true) := by
      apply List.ext_getElem?
      intro j
      rw [List.getElem?_set]
      split
      · rename_i e; subst e
        have hg := idxN_get m b hb
        have hlt := (List.getElem?_eq_some_iff.1 hg).1
        rw [List.getElem?_map, hg, if_pos (by simpa using hlt)]; rfl
      · rfl
    simp [addB, hb, hi]
theorem rd14 : rds (rcOf Try.f14) = some r14 := by unfold rds; rw [if_pos rfl]
theorem ps14 : (rcOf Try.f14).params = #[9] := by kernel_rfl
def stepV (s : List ByteArray × Nat) (m : ByteArray) : (List ByteArray × Nat) × Bool := ((addB s.1 m, s.2 + 1), true)
def LstS (σ : Heap) (N : Nat) (b : List ByteArray) (x : AV) : Prop := (b = [] ∧ x = .isl [] true) ∨ ∃ k, N ≤ k ∧ x = .own k (b.map .str) ∧ σ[k]? = some (.tok b.length 1)
def JV (f : FR) (s : List ByteArray × Nat) (σ : Heap) : Prop :=
  7 ≤ σ.length ∧ s.1.length ≤ s.2 ∧ σ[2]? = some (mpN s.1) ∧ σ[3]? = some (.cells [.map 2] 0 false) ∧ σ[6]? = some (.lp (rcOf Try.f14) (lst 20 f) .ready none) ∧ ∃ x, σ[1]? = some (.cells [x] 0 false) ∧ LstS σ 7 s.1 x
theorem set_same {σ : Heap} {i : Nat} {o : AObj} (h : σ[i]? = some o) : σ.set i o = σ := by
  apply List.ext_getElem?
  intro j
  rw [List.getElem?_set]
  split
  · rename_i e; subst e; rw [if_pos (List.getElem?_eq_some_iff.1 h).1, h]
  · rfl
theorem endRd_n {H : Heap} {i : Nat} {rc : RCode} {tm ρ : Regs} {st : LoopState} {pd : Option Go.Code} (h : H[i]? = some (.lp rc tm st pd)) : endRd i (.normal, ρ, H) = some (.bool true, H.set i (.lp rc tm .ready none)) := by simp [endRd, h]
theorem roundV {f : FR} (h2 : f 2 = .ptr 1 0) (h3 : f 3 = .ptr 3 0) (s : List ByteArray × Nat) (σ : Heap) (m : ByteArray) (hJ : JV f s σ) (hC : s.2 < 2000000000) :
    ∃ σ', callT T yno [.yld 6, .str m] 0 σ = some (.bool true, σ') ∧ JV f (stepV s m).1 σ' ∧ σ.length ≤ σ'.length ∧ ∀ j cs, 7 ≤ j → σ[j]? = some (.cells cs 0 false) → σ'[j]? = some (.cells cs 0 false) := by
  obtain ⟨hN, hb, hm, hmp, hlp, x, hx, hL⟩ := hJ
  have g1 : ∀ o, (σ.set 6 o)[1]? = some (.cells [x] 0 false) := fun o => by rw [List.getElem?_set_ne (by decide)]; exact hx
  have g2 : ∀ o, (σ.set 6 o)[2]? = some (mpN s.1) := fun o => by rw [List.getElem?_set_ne (by decide)]; exact hm
  have g3 : ∀ o, (σ.set 6 o)[3]? = some (.cells [.map 2] 0 false) := fun o => by rw [List.getElem?_set_ne (by decide)]; exact hmp
  by_cases hin : memB m s.1 = true
  · refine ⟨σ, round_call (f1 := upF f 9 (.str m)) hlp rd14 (Nat.le_refl _) (by rw [ps14]; rfl) (by rw [ps14]; exact put1 9 (.str m) (by decide)) (wpC_sound T 0 20 ?_), ?_, Nat.le_refl _, fun _ _ _ h => h⟩
    · simp [r14]
      refine ⟨_, by simp [begLp, hlp]; rfl, wpC_sound T 0 20 ?_⟩
      simp [h2, h3, g1, g2, g3, mlook_n (g2 _), hin]
      rw [endRd_n (list_set_at (by omega)), List.set_set, set_same hlp]
    · simp [JV, stepV, addB, hin]
      exact ⟨hN, by omega, hm, hmp, hlp, x, hx, hL⟩
  · have hin' : memB m s.1 = false := by simpa using hin
    have hadd : addB s.1 m = s.1 ++ [m] := by simp [addB, hin']
    have l6 : 6 < σ.length := by omega
    have l3 : 3 < σ.length := by omega
    have l2 : 2 < σ.length := by omega
    have l1 : 1 < σ.length := by omega
    have ll : ¬ σ.length + 1 < σ.length := by omega
    have l5 : ¬ σ.length = 5 := by omega
    have lnil : ¬ σ = [] := by rintro rfl; simp at l1
    rcases hL with ⟨hb0, rfl⟩ | ⟨k, hk, rfl, htok⟩
    · refine ⟨_, round_call (f1 := upF f 9 (.str m)) hlp rd14 (Nat.le_refl _) (by rw [ps14]; rfl) (by rw [ps14]; exact put1 9 (.str m) (by decide)) (wpC_sound T 0 20 (by
        simp [r14]
        refine ⟨_, by simp [begLp, hlp]; rfl, wpC_sound T 0 20 ?_⟩
        have g4 : ((List.set σ 6 (AObj.lp (rcOf Try.f14) (lst 20 f) .busy none)).set 2 (mpN (addB s.1 m)) ++ [AObj.cells [AV.str m] 0 false, AObj.tok 1 1])[1]? = some (.cells [.isl [] true] 0 false) := by
          rw [List.getElem?_append_left (by simp; omega)]; simp [hx]
        have g5 : ((List.set σ 6 (AObj.lp (rcOf Try.f14) (lst 20 f) .busy none)).set 2 (mpN (addB s.1 m)) ++ [AObj.cells [AV.str m] 0 false, AObj.tok 1 1])[1]'(by simp) = .cells [.isl [] true] 0 false := Option.some_inj.1 ((List.getElem?_eq_getElem _).symm.trans g4)
        simp [h2, h3, g1, g2, g3, mlook_n (g2 _), mset_n (g2 _), hin', g4, g5]
        refine endRd_n (rc := rcOf Try.f14) (tm := lst 20 f) (st := .busy) (pd := none) ?_
        simp [-getElem?_pos, List.getElem?_set, List.getElem?_append, l6, l2, l1])), ?_, ?_, ?_⟩
      · have hb1 : s.1.length = 0 := by rw [hb0]; rfl
        have hadd0 : addB s.1 m = [m] := by rw [hadd, hb0]; rfl
        refine ⟨by simp; omega, by simp only [stepV, hadd, List.length_append, List.length_singleton]; omega, ?_, ?_, ?_, .own (σ.length + 1) [.str m], ?_, .inr ⟨σ.length + 1, by omega, ?_, ?_⟩⟩
        · simp [-getElem?_pos, List.getElem?_set, List.getElem?_append, l6, l2, l1, l3, stepV]
        · simp [-getElem?_pos, List.getElem?_set, List.getElem?_append, l6, l2, l1, l3, hmp]
        · simp [-getElem?_pos, List.getElem?_set, List.getElem?_append, l6, l2, l1, l3]
        · simp [-getElem?_pos, List.getElem?_set, List.getElem?_append, l6, l2, l1, l3]
        · simp [stepV, hadd0]
        · simp [-getElem?_pos, stepV, hadd0, List.getElem?_set, List.getElem?_append, ll, l5, lnil]
          rfl
      · simp
      · intro j cs hj hc
        have hjl := (List.getElem?_eq_some_iff.1 hc).1
        have j6 : ¬ 6 = j := by rintro rfl; rw [hlp] at hc; cases hc
        have j2 : ¬ 2 = j := by omega
        have j1 : ¬ 1 = j := by omega
        simp [-getElem?_pos, List.getElem?_set, List.getElem?_append, hjl, j6, j2, j1, hc]
    · have hkl : k < σ.length := (List.getElem?_eq_some_iff.1 htok).1
      have k6 : ¬ 6 = k := by rintro rfl; rw [hlp] at htok; cases htok
      have k2 : ¬ 2 = k := by omega
      have k1 : ¬ 1 = k := by omega
      have hok : (s.1.map AV.str).all (okEl 1 false) = true := by simp [okEl]
      have hlen : s.1.length ≤ 10000000000 := by omega
      refine ⟨_, round_call (f1 := upF f 9 (.str m)) hlp rd14 (Nat.le_refl _) (by rw [ps14]; rfl) (by rw [ps14]; exact put1 9 (.str m) (by decide)) (wpC_sound T 0 20 (by
        simp [r14]
        refine ⟨_, by simp [begLp, hlp]; rfl, wpC_sound T 0 20 ?_⟩
        have g6 : ((List.set σ 6 (AObj.lp (rcOf Try.f14) (lst 20 f) .busy none)).set 2 (mpN (addB s.1 m)) ++ [AObj.cells [AV.str m] 0 false])[k]? = some (.tok s.1.length 1) := by
          simp [-getElem?_pos, List.getElem?_set, List.getElem?_append, hkl, k6, k2, htok]
        have g7 : (((List.set σ 6 (AObj.lp (rcOf Try.f14) (lst 20 f) .busy none)).set 2 (mpN (addB s.1 m)) ++ [AObj.cells [AV.str m] 0 false]).set k (.tok (s.1.length + 1) 1))[1]? = some (.cells [.own k (s.1.map .str)] 0 false) := by
          simp [-getElem?_pos, List.getElem?_set, List.getElem?_append, l1, Ne.symm k1, hx]
        have g8 := Option.some_inj.1 ((List.getElem?_eq_getElem (by simp; omega)).symm.trans g7)
        simp [h2, h3, g1, g2, g3, mlook_n (g2 _), mset_n (g2 _), hin', g6, hok, hlen, g7, g8]
        refine endRd_n (rc := rcOf Try.f14) (tm := lst 20 f) (st := .busy) (pd := none) ?_
        simp [-getElem?_pos, List.getElem?_set, List.getElem?_append, l6, l2, l1, hkl, k6, Ne.symm k6])), ?_, ?_, ?_⟩
      · refine ⟨by simp; omega, by simp only [stepV, hadd, List.length_append, List.length_singleton]; omega, ?_, ?_, ?_, .own k (s.1.map .str ++ [.str m]), ?_, .inr ⟨k, hk, ?_, ?_⟩⟩
        · simp [-getElem?_pos, List.getElem?_set, List.getElem?_append, l6, l2, l1, l3, stepV, Ne.symm k2]
        · simp [-getElem?_pos, List.getElem?_set, List.getElem?_append, l6, l2, l1, l3, hmp, show ¬ k = 3 by omega]
        · simp [-getElem?_pos, List.getElem?_set, List.getElem?_append, l6, l2, l1, l3, show 5 < σ.length by omega, lnil]
        · simp [-getElem?_pos, List.getElem?_set, List.getElem?_append, l6, l2, l1, l3, show 5 < σ.length by omega, lnil]
        · simp [stepV, hadd]
        · simp [-getElem?_pos, stepV, hadd, List.getElem?_set, List.getElem?_append, hkl, k6, k1]
      · simp
      · intro j cs hj hc
        have hjl := (List.getElem?_eq_some_iff.1 hc).1
        have j6 : ¬ 6 = j := by rintro rfl; rw [hlp] at hc; cases hc
        have jk : ¬ k = j := by rintro rfl; rw [htok] at hc; cases hc
        have j2 : ¬ 2 = j := by omega
        have j1 : ¬ 1 = j := by omega
        simp [-getElem?_pos, List.getElem?_set, List.getElem?_append, hjl, j6, j2, j1, jk, hc]
def nub (ns : List ByteArray) : List ByteArray := ns.foldl addB []
def encN (b : List ByteArray) : AV := .isl (b.map .str) false
theorem run_nub : ∀ (ns : List ByteArray) (s : List ByteArray × Nat), runS stepV s ns = ((ns.foldl addB s.1, s.2 + ns.length), true)
  | [], s => rfl
  | n :: ns, s => by
    simp only [runS, stepV, if_true, List.foldl_cons, List.length_cons]
    rw [run_nub ns]
    simp; omega
mutual
theorem vs1_len : ∀ t : GT, (vs1 t).length ≤ t.size
  | .mk k n v l => by
    have := vsL_len l
    simp only [vs1, GT.size]
    split <;> simp <;> omega
theorem vsL_len : ∀ l : List GT, (vsL l).length ≤ GT.sizes l
  | [] => by simp [vsL]
  | t :: l => by
    have h1 := vs1_len t
    have h2 := vsL_len l
    simp only [vsL, List.length_append, GT.sizes]; omega
end
theorem vars_ok (t : GT) (ht : t.size ≤ 1000000000) : pureT T c14 [t.enc] = some (encN (nub (vs1 t))) := by
  apply pure_enter (by simp [c14])
  have hv : callT T 30 [.sl 4 0 1 7 true] 0 [.cells [.int .i64 t.kind, .str t.name, .int .i64 t.value.kind, .int .i64 t.value.num, .str t.value.text, .isl (GV.encs t.value.items) false, .isl (GT.encs t.args) false] 0 false, .cells [.isl [] true] 0 false, .mp [], .cells [.map 2] 0 false,
      .cells [.int .i64 t.kind, .str t.name, .int .i64 t.value.kind, .int .i64 t.value.num, .str t.value.text, .isl (GV.encs t.value.items) false, .isl (GT.encs t.args) false] 0 false] = some (.func 47 [.ptr 5 0],
      [.cells [.int .i64 t.kind, .str t.name, .int .i64 t.value.kind, .int .i64 t.value.num, .str t.value.text, .isl (GV.encs t.value.items) false, .isl (GT.encs t.args) false] 0 false, .cells [.isl [] true] 0 false, .mp [], .cells [.map 2] 0 false,
      .cells [.int .i64 t.kind, .str t.name, .int .i64 t.value.kind, .int .i64 t.value.num, .str t.value.text, .isl (GV.encs t.value.items) false, .isl (GT.encs t.args) false] 7 false, .cells [.isl (GT.encs [t]) false] 0 false]) := by
    have := variables_sl t (k := 4) 0 [.cells [.int .i64 t.kind, .str t.name, .int .i64 t.value.kind, .int .i64 t.value.num, .str t.value.text, .isl (GV.encs t.value.items) false, .isl (GT.encs t.args) false] 0 false, .cells [.isl [] true] 0 false, .mp [], .cells [.map 2] 0 false,
      .cells [.int .i64 t.kind, .str t.name, .int .i64 t.value.kind, .int .i64 t.value.num, .str t.value.text, .isl (GV.encs t.value.items) false, .isl (GT.encs t.args) false] 0 false] (by rw [GT.enc_eq]; rfl)
    rw [GT.enc_eq] at this
    exact this
  simp [c14, setRun, hv]
  generalize hf : upF _ _ _ = f
  have h2 : f 2 = .ptr 1 0 := by rw [← hf]; simp
  have h3 : f 3 = .ptr 3 0 := by rw [← hf]; simp
  have h8 : f 8 = .func 47 [.ptr 5 0] := by rw [← hf]; simp
  have R : Rounds1 (JV f) (fun _ _ => False) stepV (·.2) 2000000000 0 6 7 := by
    refine ⟨?_, fun s σ h => h.1, fun s m _ => rfl, fun s σ m h hc hb => ?_⟩
    · rintro s σ o ⟨a1, a2, a3, a4, a5, x, a6, a7⟩
      have l1 : 1 < σ.length := by omega
      refine ⟨by simp; omega, a2, ?_, ?_, ?_, x, ?_, ?_⟩
      · rw [List.getElem?_append_left (by omega)]; exact a3
      · rw [List.getElem?_append_left (by omega)]; exact a4
      · rw [List.getElem?_append_left (by omega)]; exact a5
      · rw [List.getElem?_append_left (by omega)]; exact a6
      · rcases a7 with h | ⟨k, b1, b2, b3⟩
        · exact .inl h
        · exact .inr ⟨k, b1, b2, by rw [List.getElem?_append_left (List.getElem?_eq_some_iff.1 b3).1]; exact b3⟩
    · obtain ⟨σ', r1, r2, r3, r4⟩ := roundV h2 h3 s σ m h hc
      exact ⟨σ', r1, fun _ => r2, (fun e => by simp [stepV] at e), r3, r4⟩
  have hvl : vsL [t] = vs1 t := by simp [vsL]
  have hvs := vs1_len t
  obtain ⟨σ', hc, hH, _, hlen⟩ := iter_ok (JV f) (fun _ _ => False) stepV (·.2) 2000000000 R [t] ([], 0) (il := 5) (fz := 0) (ext := false) ([.cells [.int .i64 t.kind, .str t.name, .int .i64 t.value.kind, .int .i64 t.value.num, .str t.value.text, .isl (GV.encs t.value.items) false, .isl (GT.encs t.args) false] 0 false, .cells [.isl [] true] 0 false, .mp [], .cells [.map 2] 0 false,
      .cells [.int .i64 t.kind, .str t.name, .int .i64 t.value.kind, .int .i64 t.value.num, .str t.value.text, .isl (GV.encs t.value.items) false, .isl (GT.encs t.args) false] 7 false, .cells [.isl (GT.encs [t]) false] 0 false] ++ [.lp (rcOf Try.f14) (lst 20 f) .ready none])
    (by simp [GT.sizes]; omega) ⟨by simp, by simp, rfl, rfl, rfl, _, rfl, .inl ⟨rfl, rfl⟩⟩ (by rw [hvl]; simp; omega) (Nat.zero_le _) rfl
  have hH := hH (by rw [run_nub])
  rw [run_nub, hvl] at hH
  obtain ⟨b1, b2, b3, b4, b5, x, b6, b7⟩ := hH
  refine W_rfn (g := 47) (caps := [.ptr 5 0]) (by decide) (by simp [h8]) hc (e := .normal) (σ2 := σ'.set 6 (.lp (rcOf Try.f14) (lst 20 f) .exhausted none)) (by simp [endLp, b5, pdX]) ?_
  refine wpK_sound T 0 20 _ _ _ _ ?_
  have b6' : (σ'.set 6 (.lp (rcOf Try.f14) (lst 20 f) .exhausted none))[1]? = some (.cells [x] 0 false) := by rw [List.getElem?_set_ne (by decide)]; exact b6
  simp only [wpK_blk, wpK_ret, wpK_nil]
  simp [endP, h2, b6', res1]
  rcases b7 with ⟨e, rfl⟩ | ⟨k, _, rfl, _⟩
  · have e : nub (vs1 t) = [] := e
    simp [encN, e]
  · have hcl : ∀ σ : Heap, close1 σ (.own k (List.map AV.str (List.foldl addB [] (vs1 t)))) = some (.isl (List.map AV.str (List.foldl addB [] (vs1 t))) false, σ) := fun σ => by simp [close1, close0]
    simp [encN, nub, hcl]
end Go.Proofs.Ytiikmmbfhbianaa
end
section
set_option linter.unusedVariables false
set_option linter.unusedSimpArgs false
set_option linter.unnecessarySimpa false
namespace Go.Proofs.Ytiikmmbfhbianaa
open Go.Mach
def arityP (p : GP) (n : ByteArray) : Int := match p.decls.find? (fun d => decide (d.name = n)) with
  | some d => d.arity
  | none => 0
theorem idxG_find {α : Type} (q : α → Bool) (l : List α) : (idxG q l < 0 ∧ l.find? q = none) ∨ ∃ i, ∃ h : i < l.length, idxG q l = (i : Int) ∧ l.find? q = some l[i] := by
  unfold idxG
  cases h : l.findIdx? q with
  | none =>
    refine .inl ⟨by simp, ?_⟩
    rw [List.findIdx?_eq_none_iff] at h
    rw [List.find?_eq_none]
    exact fun x hx => by simp [h x hx]
  | some i =>
    obtain ⟨hi, hp, hall⟩ := List.findIdx?_eq_some_iff_getElem.1 h
    refine .inr ⟨i, hi, rfl, ?_⟩
    rw [List.find?_eq_some_iff_append]
    refine ⟨hp, l.take i, l.drop (i + 1), by rw [List.getElem_cons_drop, List.take_append_drop], fun x hx => ?_⟩
    obtain ⟨j, hj, rfl⟩ := List.getElem_of_mem hx
    have := hall j (by simp at hj; omega)
    simpa using this
theorem arity1_call (d : GD) (n : ByteArray) {k : Nat} (bs : Nat) (σ : Heap) (h : σ[k]? = some (.cells [.str n] 0 false)) : callT T 32 [d.enc, .ptr k 0] bs σ = some (.bool (decide (d.name = n)), σ) := by
  have hk : k < σ.length := (List.getElem?_eq_some_iff.1 h).1
  have hk2 : ∀ o, (σ ++ [o])[k]? = some (.cells [.str n] 0 false) := fun o => by rw [List.getElem?_append_left hk]; exact h
  refine heap_enter (af := c32) (args' := [d.enc, .ptr k 0]) (σ1 := σ) rfl rfl (by simp [c32]) (by simp [c32]) rfl ?_
  simp [c32, baseA, hk2, dropA_gc, refLt, res1, refLt2_bool, refLt2_int, take_1]
theorem arity_ok (p : GP) (n : ByteArray) (hl : p.decls.length ≤ 100000000000) : pureT T c20 [p.enc, .str n] = some (.int .i64 (arityP p n)) := by
  have hi := fun σ (h : σ[1]? = some (AObj.cells [.str n] 0 false)) bs => idxDecl (fun d => decide (d.name = n)) p.decls 32 [.ptr 1 0] hl σ (fun x _ bs => arity1_call x n bs σ h) bs
  apply pure_enter (by simp [c20])
  rcases idxG_find (fun d : GD => decide (d.name = n)) p.decls with ⟨h1, h2⟩ | ⟨i, hlt, h1, h2⟩
  · have h3 : arityP p n = 0 := by simp only [arityP, h2]
    simp [c20, hi, h1, h3]
  · have h3 : arityP p n = p.decls[i].arity := by simp only [arityP, h2]
    rw [h1] at hi
    have h4 : ¬ ((i : Int) < 0) := by omega
    simp [c20, hi, h4, h3, hlt]
theorem callArity (p : GP) (n : ByteArray) (hl : p.decls.length ≤ 100000000000) (bs : Nat) (σ : Heap) : callT T 20 [p.enc, .str n] bs σ = some (.int .i64 (arityP p n), σ) := call_clean rfl rfl rfl (by simp) (arity_ok p n hl)
theorem rd44 : rds (rcOf Try.f44) = some r44 := by
  have hne : rcOf Try.f44 ≠ rcOf Try.f14 := fun h => by
    have h1 : (rcOf Try.f44).params = #[8] := by kernel_rfl
    have h2 := ps14
    rw [h, h2] at h1
    exact absurd h1 (by decide)
  unfold rds; rw [if_neg hne, if_pos rfl]
theorem ps44 : (rcOf Try.f44).params = #[8] := by kernel_rfl
def stepA (b : List ByteArray) (s : Nat) (m : ByteArray) : Nat × Bool := (s + 1, memB m b)
theorem run_all (b : List ByteArray) : ∀ (ns : List ByteArray) (s : Nat), (runS (stepA b) s ns).2 = ns.all (fun m => memB m b)
  | [], s => rfl
  | n :: ns, s => by
    simp only [runS, List.all_cons]
    have e : (stepA b s n).2 = memB n b := rfl
    by_cases h : (stepA b s n).2 = true
    · rw [if_pos h, run_all b ns]; rw [e] at h; simp [h]
    · rw [if_neg h]; rw [e] at h; simp [h]
def JA (σ : Heap) (k : Nat) (b : List ByteArray) (f : FR) (τ : Heap) : Prop :=
  σ.length + 4 ≤ τ.length ∧ τ[σ.length]? = some (.cells [.map k] 0 false) ∧ τ[σ.length + 1]? = some (.cells [.bool false] 0 false) ∧ τ[σ.length + 3]? = some (.lp (rcOf Try.f44) (lst 13 f) .ready none) ∧ ∀ j, j < σ.length → τ[j]? = σ[j]?
def XA (σ : Heap) (f : FR) (τ : Heap) : Prop :=
  σ.length + 4 ≤ τ.length ∧ τ[σ.length + 1]? = some (.cells [.bool false] 0 false) ∧ τ[σ.length + 3]? = some (.lp (rcOf Try.f44) (lst 13 f) .done (some .ret)) ∧ ∀ j, j < σ.length → τ[j]? = σ[j]?
theorem endRd_r {H : Heap} {i : Nat} {rc : RCode} {tm ρ : Regs} {st : LoopState} {pd : Option Go.Code} (h : H[i]? = some (.lp rc tm st pd)) : endRd i (.ret, ρ, H) = some (.bool false, H.set i (.lp rc tm .done (some .ret))) := by simp [endRd, h]
theorem roundA_ok {σ : Heap} {k : Nat} {b : List ByteArray} {f : FR} (hk : σ[k]? = some (mpN b)) (h2 : f 2 = .ptr σ.length 0) (h4 : f 4 = .ptr (σ.length + 1) 0) (τ : Heap) (m : ByteArray) (hJ : JA σ k b f τ) :
    ∃ τ', callT T yno [.yld (σ.length + 3), .str m] σ.length τ = some (.bool (memB m b), τ') ∧ (memB m b = true → JA σ k b f τ') ∧ (memB m b = false → XA σ f τ') ∧ τ.length ≤ τ'.length ∧ ∀ j cs, σ.length + 4 ≤ j → τ[j]? = some (.cells cs 0 false) → τ'[j]? = some (.cells cs 0 false) := by
  obtain ⟨hN, hm, hc, hlp, hall⟩ := hJ
  have hkl : k < σ.length := (List.getElem?_eq_some_iff.1 hk).1
  have n1 : ¬ σ.length + 3 = σ.length := by omega
  have n2 : ¬ σ.length + 3 = k := by omega
  have n3 : ¬ σ.length + 3 = σ.length + 1 := by omega
  have g1 : ∀ o, (τ.set (σ.length + 3) o)[σ.length]? = some (.cells [.map k] 0 false) := fun o => by rw [List.getElem?_set_ne n1]; exact hm
  have g2 : ∀ o, (τ.set (σ.length + 3) o)[k]? = some (mpN b) := fun o => by rw [List.getElem?_set_ne n2, hall k hkl]; exact hk
  have g3 : ∀ o, (τ.set (σ.length + 3) o)[σ.length + 1]? = some (.cells [.bool false] 0 false) := fun o => by rw [List.getElem?_set_ne n3]; exact hc
  cases hin : memB m b
  · refine ⟨_, round_call (f1 := upF f 8 (.str m)) hlp rd44 (Nat.le_refl _) (by rw [ps44]; rfl) (by rw [ps44]; exact put1 8 (.str m) (by decide)) (wpC_sound T σ.length 13 (by
      simp [r44]
      refine ⟨_, by simp [begLp, hlp]; rfl, wpC_sound T σ.length 13 ?_⟩
      simp [h2, h4, g1, g3, mlook_n (g2 _), hin]
      refine endRd_r (rc := rcOf Try.f44) (tm := lst 13 f) (st := .busy) (pd := none) ?_
      rw [List.getElem?_set_ne (by omega)]; exact list_set_at (by omega))), (fun e => by cases e), fun _ => ⟨by simp; omega, ?_, ?_, fun j hj => ?_⟩, by simp, fun j cs hj hcj => ?_⟩
    · rw [List.getElem?_set_ne (by omega)]; exact list_set_at (by simp; omega)
    · exact list_set_at (by simp; omega)
    · rw [List.getElem?_set_ne (by omega), List.getElem?_set_ne (by omega), List.getElem?_set_ne (by omega)]; exact hall j hj
    · rw [List.getElem?_set_ne (by omega), List.getElem?_set_ne (by omega), List.getElem?_set_ne (by omega)]; exact hcj
  · refine ⟨τ, round_call (f1 := upF f 8 (.str m)) hlp rd44 (Nat.le_refl _) (by rw [ps44]; rfl) (by rw [ps44]; exact put1 8 (.str m) (by decide)) (wpC_sound T σ.length 13 ?_), fun _ => ⟨hN, hm, hc, hlp, hall⟩, (fun e => by cases e), Nat.le_refl _, fun _ _ _ h => h⟩
    simp [r44]
    refine ⟨_, by simp [begLp, hlp]; rfl, wpC_sound T σ.length 13 ?_⟩
    simp [h2, h4, g1, g3, mlook_n (g2 _), hin]
    rw [endRd_n (list_set_at (by omega)), List.set_set, set_same hlp]
theorem take_of {σ τ : Heap} (hl : σ.length ≤ τ.length) (h : ∀ j, j < σ.length → τ[j]? = σ[j]?) : τ.take σ.length = σ := by
  apply List.ext_getElem?
  intro j
  rw [List.getElem?_take]
  split
  · rename_i hj; exact h j hj
  · rename_i hj; rw [List.getElem?_eq_none (by omega)]
def allB (b : List ByteArray) (l : List GT) : Bool := (vsL l).all fun m => memB m b
theorem callAllB (b : List ByteArray) (l : List GT) (hl : GT.sizes l ≤ 1000000000) {k : Nat} (bs : Nat) (σ : Heap) (hk : σ[k]? = some (mpN b)) : callT T 44 [.map k, .isl (GT.encs l) false] bs σ = some (.bool (allB b l), σ) := by
  refine heap_enter (af := c44) (args' := [.map k, .isl (GT.encs l) false]) (σ1 := σ) rfl rfl (by simp [c44]) (by simp [c44]) (by simp [closeArgs, c44]) ?_
  have hv := fun bs τ => variables_isl l bs τ
  simp [c44, baseA, hv]
  generalize hf : upF _ _ _ = f
  have h2 : f 2 = .ptr σ.length 0 := by rw [← hf]; simp
  have h4 : f 4 = .ptr (σ.length + 1) 0 := by rw [← hf]; simp
  have h7 : f 7 = .func 47 [.ptr (σ.length + 2) 0] := by rw [← hf]; simp
  have R : Rounds1 (fun _ => JA σ k b f) (fun _ => XA σ f) (stepA b) (fun s => s) 2000000000 σ.length (σ.length + 3) (σ.length + 4) := by
    refine ⟨?_, fun s τ h => h.1, fun s m _ => rfl, fun s τ m h hc hb => ?_⟩
    · rintro s τ o ⟨a1, a2, a3, a4, a5⟩
      refine ⟨by simp; omega, ?_, ?_, ?_, fun j hj => ?_⟩
      · rw [List.getElem?_append_left (by omega)]; exact a2
      · rw [List.getElem?_append_left (by omega)]; exact a3
      · rw [List.getElem?_append_left (by omega)]; exact a4
      · rw [List.getElem?_append_left (by omega)]; exact a5 j hj
    · exact roundA_ok hk h2 h4 τ m h
  have e0 : σ ++ [AObj.cells [AV.map k] 0 false, AObj.cells [AV.bool false] 0 false, AObj.cells [AV.isl (GT.encs l) false] 0 false] ++ [.lp (rcOf Try.f44) (lst 13 f) .ready none] = σ ++ [AObj.cells [AV.map k] 0 false, AObj.cells [AV.bool false] 0 false, AObj.cells [AV.isl (GT.encs l) false] 0 false, .lp (rcOf Try.f44) (lst 13 f) .ready none] := by simp
  have hvs := vsL_len l
  obtain ⟨σ', hc, hH, hX, hlen⟩ := iter_ok (fun _ => JA σ k b f) (fun _ => XA σ f) (stepA b) (fun s => s) 2000000000 R l 0 (il := σ.length + 2) (fz := 0) (ext := false) (σ ++ [AObj.cells [AV.map k] 0 false, AObj.cells [AV.bool false] 0 false, AObj.cells [AV.isl (GT.encs l) false] 0 false] ++ [.lp (rcOf Try.f44) (lst 13 f) .ready none])
    (by omega) (by rw [e0]; exact ⟨by simp, by simp, by simp, by simp, fun j hj => List.getElem?_append_left hj⟩) (by omega) (by simp) (by rw [e0]; simp)
  rw [run_all] at hH hX
  have hlen3 : (σ ++ [AObj.cells [AV.map k] 0 false, AObj.cells [AV.bool false] 0 false, AObj.cells [AV.isl (GT.encs l) false] 0 false]).length = σ.length + 3 := by simp
  by_cases hb : allB b l = true
  · obtain ⟨b1, b2, b3, b4, b5⟩ := hH hb
    refine W_rfn (g := 47) (caps := [.ptr (σ.length + 2) 0]) (by decide) (by simp [h7]) (by rw [hlen3]; exact hc) (e := .normal) (σ2 := σ'.set (σ.length + 3) (.lp (rcOf Try.f44) (lst 13 f) .exhausted none)) (by rw [hlen3]; simp [endLp, b4, pdX]) ?_
    refine wpK_sound T σ.length 13 _ _ _ _ ?_
    have c3 : ∀ o, (σ'.set (σ.length + 3) o)[σ.length + 1]? = some (.cells [.bool false] 0 false) := fun o => by rw [List.getElem?_set_ne (by omega)]; exact b3
    have c4 : ∀ o o', ((σ'.set (σ.length + 3) o).set (σ.length + 1) o').take σ.length = σ := fun o o' => take_of (by simp; omega) fun j hj => by rw [List.getElem?_set_ne (by omega), List.getElem?_set_ne (by omega)]; exact b5 j hj
    have c5 : ∀ o o', ((σ'.set (σ.length + 3) o).set (σ.length + 1) o')[σ.length + 1]? = some o' := fun o o' => list_set_at (by simp; omega)
    simp [h4, c3, c4, c5, hb, dropA_gc, refLt, res1, refLt2_bool]
  · have hb' : allB b l = false := by simpa using hb
    obtain ⟨b1, b3, b4, b5⟩ := hX hb'
    refine W_rfn (g := 47) (caps := [.ptr (σ.length + 2) 0]) (by decide) (by simp [h7]) (by rw [hlen3]; exact hc) (e := .ret) (σ2 := σ'.set (σ.length + 3) (.lp (rcOf Try.f44) (lst 13 f) .exhausted (some .ret))) (by rw [hlen3]; simp [endLp, b4, pdX]) ?_
    refine contQ_ret T σ.length 13 ?_
    have c3 : ∀ o, (σ'.set (σ.length + 3) o)[σ.length + 1]? = some (.cells [.bool false] 0 false) := fun o => by rw [List.getElem?_set_ne (by omega)]; exact b3
    have c4 : ∀ o, (σ'.set (σ.length + 3) o).take σ.length = σ := fun o => take_of (by simp; omega) fun j hj => by rw [List.getElem?_set_ne (by omega)]; exact b5 j hj
    simp [h4, c3, c4, hb', dropA_gc, refLt, res1, refLt2_bool]
def tops (l : List GT) : List ByteArray := (l.filter fun t => decide (t.kind = 1)).map GT.name
def takesB (b : List ByteArray) (x : GL) : List ByteArray := if x.kind = 1 then (tops x.args).foldl addB b else b
def takesP (b : List ByteArray) (x : GL) : Int × List ByteArray :=
  if allB (takesB b x) x.args = false then (61, takesB b x) else if x.kind ≠ 4 then (0, takesB b x) else if memB x.name (takesB b x) = true then (62, takesB b x) else (0, addB (takesB b x) x.name)
theorem take_set {σ τ : Heap} {k : Nat} {o : AObj} (hl : σ.length ≤ τ.length) (hk : k < σ.length) (h : ∀ j, j < σ.length → j ≠ k → τ[j]? = σ[j]?) (hk2 : τ[k]? = some o) : τ.take σ.length = σ.set k o := by
  apply List.ext_getElem?
  intro j
  rw [List.getElem?_take, List.getElem?_set]
  split
  · rename_i hj
    by_cases e : k = j
    · subst e; rw [if_pos rfl]; simp [hk, hk2]
    · rw [if_neg e]; exact h j hj fun e' => e e'.symm
  · rename_i hj
    rw [if_neg (by omega), List.getElem?_eq_none (by omega)]
def fstC : ACode → ACode
  | .seq a _ => a
  | c => c
def sndC : ACode → ACode
  | .seq _ b => b
  | c => c
theorem takes_tail {σ : Heap} {k : Nat} {b1 : List ByteArray} (x : GL) (hl : x.size ≤ 1000000000) (hkl : k < σ.length) (f : FR) (τ : Heap) (h0 : f 0 = .map k) (h3 : f 3 = .ptr σ.length 0) (hN : σ.length + 1 ≤ τ.length)
    (hx : τ[σ.length]? = some (.cells [.int .i64 x.kind, .str x.name, .isl (GT.encs x.args) false] 0 false)) (hk : τ[k]? = some (mpN b1)) (hall : ∀ j, j < σ.length → j ≠ k → τ[j]? = σ[j]?)
    {r : Int × List ByteArray} (hr : r = if allB b1 x.args = false then (61, b1) else if x.kind ≠ 4 then (0, b1) else if memB x.name b1 = true then (62, b1) else (0, addB b1 x.name)) :
    wpK T σ.length 42 [.code (sndC (sndC c43.body))] f τ (endR 42 [.tmp 4] true .gc σ.length (.int .i64 r.1, σ.set k (mpN r.2))) := by
  have hsz : GT.sizes x.args ≤ 1000000000 := by have := GL.args_le x; omega
  have hc := fun bs => callAllB b1 x.args hsz bs τ hk
  have ht := take_set (by omega) hkl hall hk
  simp [c43, sndC, h0, h3, hx, hc]
  by_cases ha : allB b1 x.args = true
  · by_cases h4 : x.kind = 4
    · by_cases hm : memB x.name b1 = true
      · simp [ha] at hr
        simp [h4, hm] at hr
        subst hr
        simp [h0, h3, hx, ha, h4, mlook_n hk, hm, dropA_gc, refLt, res1, refLt2_int, ht]
      · have hm' : memB x.name b1 = false := by simpa using hm
        simp [ha] at hr
        simp [h4, hm'] at hr
        subst hr
        have ht2 : (τ.set k (mpN (addB b1 x.name))).take σ.length = σ.set k (mpN (addB b1 x.name)) := take_set (by simp; omega) hkl (fun j hj hne => by rw [List.getElem?_set_ne (fun e => hne e.symm)]; exact hall j hj hne) (list_set_at (by omega))
        simp [h0, h3, hx, ha, h4, mlook_n hk, mset_n hk, hm', dropA_gc, refLt, res1, refLt2_int, ht2]
    · simp [ha] at hr
      simp [h4] at hr
      subst hr
      simp [h0, h3, hx, ha, h4, dropA_gc, refLt, res1, refLt2_int, ht]
  · have ha' : allB b1 x.args = false := by simpa using ha
    simp [ha'] at hr
    subst hr
    simp [ha', dropA_gc, refLt, res1, refLt2_int, ht]
theorem callTakes (b : List ByteArray) (x : GL) (hl : x.size ≤ 1000000000) {k : Nat} (bs : Nat) (σ : Heap) (hk : σ[k]? = some (mpN b)) : callT T 43 [.map k, x.enc] bs σ = some (.int .i64 (takesP b x).1, σ.set k (mpN (takesP b x).2)) := by
  have hkl : k < σ.length := (List.getElem?_eq_some_iff.1 hk).1
  have hsz : GT.sizes x.args ≤ 1000000000 := by have := GL.args_le x; omega
  have hlen := GT.len_sizes x.args
  have tail := fun b1 => takes_tail (σ := σ) (k := k) (b1 := b1) x hl hkl
  refine heap_enter (af := c43) (args' := [.map k, x.enc]) (σ1 := σ) rfl rfl (by simp [c43]) (by simp [c43]) (by simp [closeArgs, c43]) ?_
  show wpK T σ.length 42 [.code c43.body] _ σ (endR 42 [.tmp 4] true .gc σ.length _)
  have hb : c43.body = .seq (fstC c43.body) (.seq (fstC (sndC c43.body)) (sndC (sndC c43.body))) := rfl
  rw [hb]
  generalize sndC (sndC c43.body) = K at tail
  by_cases h1 : x.kind = 1
  · simp [c43, fstC, sndC, h1]
    refine W_for T σ.length 42 x.args.length (fun i f τ => f 0 = .map k ∧ f 3 = .ptr σ.length 0 ∧ f 11 = .isl (GT.encs x.args) false ∧ f 12 = .int .i64 (x.args.length : Int) ∧ f 13 = .int .i64 (i : Int) ∧ σ.length + 1 ≤ τ.length ∧
      τ[σ.length]? = some (.cells [.int .i64 x.kind, .str x.name, .isl (GT.encs x.args) false] 0 false) ∧ τ[k]? = some (mpN ((tops (x.args.take i)).foldl addB b)) ∧ ∀ j, j < σ.length → j ≠ k → τ[j]? = σ[j]?) ?_ _ _ ?_
    · rintro i f τ hi ⟨h0, h3, h11, h12, h13, hN, hx, hm, hall⟩
      by_cases hlt : i < x.args.length
      · have hw : IntKind.i64.wrap ((i : Int) + 1) = (i : Int) + 1 := wr64 (by omega) (by omega)
        have htk : tops (x.args.take (i + 1)) = tops (x.args.take i) ++ tops [x.args[i]] := by
          unfold tops; rw [List.take_succ_eq_append_getElem hlt, List.filter_append, List.map_append]
        rw [htk, List.foldl_append]
        have hm2 : ∀ o, (τ ++ [o])[k]? = some (mpN ((tops (x.args.take i)).foldl addB b)) := fun o => by rw [List.getElem?_append_left (by omega)]; exact hm
        generalize (tops (x.args.take i)).foldl addB b = b1 at *
        by_cases hk1 : x.args[i].kind = 1
        · simp [h0, h3, h11, h12, h13, hlt, hw, hk1, mset_n (hm2 _)]
          refine ⟨by omega, ?_, ?_, fun j hj hne => ?_⟩
          · rw [List.getElem?_set_ne (by omega), List.getElem?_append_left (by omega)]; exact hx
          · have : tops [x.args[i]] = [x.args[i].name] := by simp [tops, hk1]
            rw [this]; exact list_set_at (by simp; omega)
          · rw [List.getElem?_set_ne (fun e => hne e.symm), List.getElem?_append_left (by omega)]; exact hall j hj hne
        · have : tops [x.args[i]] = [] := by simp [tops, hk1]
          simp [h0, h3, h11, h12, h13, hlt, hw, hk1, this]
          refine ⟨by omega, ?_, hm2 _, fun j hj hne => ?_⟩
          · rw [List.getElem?_append_left (by omega)]; exact hx
          · rw [List.getElem?_append_left (by omega)]; exact hall j hj hne
      · have he : i = x.args.length := by omega
        subst he
        simp [h0, h3, h11, h12, h13]
        rw [List.take_length] at hm
        refine tail _ _ τ (by simp [h0]) (by simp [h3]) hN hx hm hall ?_
        simp [takesP, takesB, h1]
    · simp [h1, hk]
      exact ⟨by rw [List.getElem?_append_left hkl]; simpa [tops] using hk, fun j hj _ => List.getElem?_append_left hj⟩
  · simp [c43, fstC, sndC, h1]
    refine tail b _ _ (by simp) (by simp) (by simp) (by simp) (by rw [List.getElem?_append_left hkl]; exact hk) (fun j hj _ => List.getElem?_append_left hj) ?_
    simp [takesP, takesB, h1]
def badL (p : GP) (l : GL) : Bool := (decide (l.kind = 1) || decide (l.kind = 2)) && decide (arityP p l.name ≠ (l.args.length : Int))
def relsB (p : GP) (r : GR) : Bool := decide (arityP p r.head = (r.args.length : Int)) && !(r.body.any (badL p))
theorem rel1_call (p : GP) (hl : p.decls.length ≤ 100000000000) (l : GL) {k : Nat} (bs : Nat) (σ : Heap) (h : σ[k]? = some (.cells p.enc.cells 0 false)) : callT T 63 [l.enc, .ptr k 0] bs σ = some (.bool (badL p l), σ) := by
  have hk : k < σ.length := (List.getElem?_eq_some_iff.1 h).1
  have hk2 : ∀ o, (σ ++ [o])[k]? = some (.cells [.isl (p.decls.map GD.enc) false, .isl (p.facts.map GU.enc) false, .isl (p.rules.map GR.enc) false] 0 false) := fun o => by rw [List.getElem?_append_left hk]; exact h
  have hA := callArity p l.name hl
  refine heap_enter (af := c63) (args' := [l.enc, .ptr k 0]) (σ1 := σ) rfl rfl (by simp [c63]) (by simp [c63]) rfl ?_
  by_cases h1 : l.kind = 1
  · simp [c63, baseA, hk2, h1, hA, ← GP.enc_eq, dropA_gc, refLt, res1, refLt2_bool, refLt2_int, take_1, badL]
  · by_cases h2 : l.kind = 2
    · simp [c63, baseA, hk2, h1, h2, hA, ← GP.enc_eq, dropA_gc, refLt, res1, refLt2_bool, refLt2_int, take_1, badL]
    · simp [c63, baseA, hk2, h1, h2, hA, ← GP.enc_eq, dropA_gc, refLt, res1, refLt2_bool, refLt2_int, take_1, badL]
theorem rels_ok (p : GP) (hl : p.decls.length ≤ 100000000000) (r : GR) (hb : r.body.length ≤ 100000000000) : pureT T c42 [p.enc, r.enc] = some (.bool (relsB p r)) := by
  have hA := callArity p r.head hl
  have hC := fun σ (h : σ[0]? = some (AObj.cells [.isl (p.decls.map GD.enc) false, .isl (p.facts.map GU.enc) false, .isl (p.rules.map GR.enc) false] 0 false)) bs => conLiteral (badL p) r.body 63 [.ptr 0 0] hb σ (fun x _ bs => rel1_call p hl x bs σ h) bs
  apply pure_enter (by simp [c42])
  by_cases h1 : arityP p r.head = (r.args.length : Int)
  · simp [c42, h1, hA, hC, ← GP.enc_eq, relsB, sym]
  · simp [c42, h1, hA, hC, ← GP.enc_eq, relsB]
theorem callRels (p : GP) (hl : p.decls.length ≤ 100000000000) (r : GR) (hb : r.body.length ≤ 100000000000) (bs : Nat) (σ : Heap) : callT T 42 [p.enc, r.enc] bs σ = some (.bool (relsB p r), σ) := call_clean rfl rfl rfl (by simp) (rels_ok p hl r hb)
def goB : List ByteArray → List GL → Int × List ByteArray
  | b, [] => (0, b)
  | b, l :: ls => if (takesP b l).1 ≠ 0 then takesP b l else goB (takesP b l).2 ls
def ruleP (p : GP) (r : GR) : Int := if relsB p r = false then 60 else if (goB [] r.body).1 ≠ 0 then (goB [] r.body).1 else if allB (goB [] r.body).2 r.args = false then 61 else 0
theorem goB_stop : ∀ (a c : List GL) (b : List ByteArray), (goB b a).1 ≠ 0 → goB b (a ++ c) = goB b a
  | [], c, b, h => absurd rfl h
  | l :: a, c, b, h => by
    by_cases h1 : (takesP b l).1 ≠ 0
    · simp only [List.cons_append, goB, if_pos h1]
    · have e : goB b (l :: a) = goB (takesP b l).2 a := by simp only [goB, if_neg h1]
      rw [e] at h ⊢
      rw [← goB_stop a c _ h]
      simp only [List.cons_append, goB, if_neg h1]
theorem goB_on : ∀ (a c : List GL) (b : List ByteArray), (goB b a).1 = 0 → goB b (a ++ c) = goB (goB b a).2 c
  | [], c, b, h => rfl
  | l :: a, c, b, h => by
    by_cases h1 : (takesP b l).1 ≠ 0
    · have e : goB b (l :: a) = takesP b l := by simp only [goB, if_pos h1]
      rw [e] at h; exact absurd h h1
    · have e : goB b (l :: a) = goB (takesP b l).2 a := by simp only [goB, if_neg h1]
      rw [e] at h ⊢
      rw [← goB_on a c _ h]
      simp only [List.cons_append, goB, if_neg h1]
theorem rule_ok (p : GP) (hl : p.decls.length ≤ 100000000000) (r : GR) (hr : r.size ≤ 1000000000) : pureT T c23 [p.enc, r.enc] = some (.int .i64 (ruleP p r)) := by
  have hbl := GR.body_len r
  have hsz : GT.sizes r.args ≤ 1000000000 := by have := GR.args_le r; omega
  have hR := callRels p hl r (by omega)
  apply pure_enter (by simp [c23])
  by_cases h1 : relsB p r = true
  · simp [c23, hR, h1, ← GP.enc_eq, ← GR.enc_eq]
    refine W_for T 0 33 r.body.length (fun i f τ => f 3 = .ptr 1 0 ∧ f 5 = .map 2 ∧ f 15 = .isl (r.body.map GL.enc) false ∧ f 16 = .int .i64 (r.body.length : Int) ∧ f 17 = .int .i64 (i : Int) ∧ 3 ≤ τ.length ∧ (goB [] (r.body.take i)).1 = 0 ∧
      τ[1]? = some (.cells [.str r.label, .str r.head, .isl (GT.encs r.args) false, .str r.agg, .int .i64 r.pos, .isl (r.body.map GL.enc) false] 0 false) ∧ τ[2]? = some (mpN (goB [] (r.body.take i)).2)) ?_ _ _ ?_
    · rintro i f τ hi ⟨h3, h5, h15, h16, h17, hN, hgo, hr1, hm⟩
      by_cases hlt : i < r.body.length
      · have hw : IntKind.i64.wrap ((i : Int) + 1) = (i : Int) + 1 := wr64 (by omega) (by omega)
        have e0 : r.body[i]? = some r.body[i] := List.getElem?_eq_getElem hlt
        have htk : r.body.take (i + 1) = r.body.take i ++ [r.body[i]] := List.take_succ_eq_append_getElem hlt
        have hdr : r.body = r.body.take (i + 1) ++ r.body.drop (i + 1) := (List.take_append_drop _ _).symm
        have hxs := GR.body_mem r (List.getElem_mem hlt)
        have hm2 : ∀ o, (τ ++ [o])[2]? = some (mpN (goB [] (r.body.take i)).2) := fun o => by rw [List.getElem?_append_left (by omega)]; exact hm
        have hr2 : ∀ o o', ((τ ++ [o]).set 2 o')[1]? = some (.cells [.str r.label, .str r.head, .isl (GT.encs r.args) false, .str r.agg, .int .i64 r.pos, .isl (r.body.map GL.enc) false] 0 false) := fun o o' => by rw [List.getElem?_set_ne (by decide), List.getElem?_append_left (by omega)]; exact hr1
        have hT := callTakes (goB [] (r.body.take i)).2 r.body[i] (by omega) (k := 2) 0 (τ ++ [.cells [.int .i64 r.body[i].kind, .str r.body[i].name, .isl (GT.encs r.body[i].args) false] 0 false]) (hm2 _)
        have e1 : goB [] (r.body.take (i + 1)) = if (takesP (goB [] (r.body.take i)).2 r.body[i]).1 ≠ 0 then takesP (goB [] (r.body.take i)).2 r.body[i] else (0, (takesP (goB [] (r.body.take i)).2 r.body[i]).2) := by
          rw [htk, goB_on _ _ _ hgo]; rfl
        by_cases hz : (takesP (goB [] (r.body.take i)).2 r.body[i]).1 = 0
        · rw [hz] at hT
          have e2 : goB [] (r.body.take (i + 1)) = (0, (takesP (goB [] (r.body.take i)).2 r.body[i]).2) := by rw [e1]; simp [hz]
          rw [e2]
          simp [h3, h5, h15, h16, h17, hlt, e0, hw, hT, ← GL.enc_eq]
          exact ⟨by omega, by rw [List.getElem?_append_left (by omega)]; exact hr1, list_set_at (by simp; omega)⟩
        · have e2 : goB [] (r.body.take (i + 1)) = takesP (goB [] (r.body.take i)).2 r.body[i] := by rw [e1]; simp [hz]
          have e3 : goB [] r.body = takesP (goB [] (r.body.take i)).2 r.body[i] := by
            rw [← e2]; conv => lhs; rw [hdr]
            exact goB_stop _ _ _ (by rw [e2]; exact hz)
          simp [h3, h5, h15, h16, h17, hlt, e0, hw, hT, hz, ← GL.enc_eq, ruleP, h1, e3]
          done
      · have he : i = r.body.length := by omega
        subst he
        rw [List.take_length] at hgo hm
        have hA := fun bs => callAllB (goB [] r.body).2 r.args hsz (k := 2) bs τ hm
        by_cases ha : allB (goB [] r.body).2 r.args = true
        · simp [h3, h5, h15, h16, h17, hr1, hA, ha, ruleP, h1, hgo]
          done
        · have ha' : allB (goB [] r.body).2 r.args = false := by simpa using ha
          simp [h3, h5, h15, h16, h17, hr1, hA, ha', ruleP, h1, hgo]
          done
    · simp [goB, mpN]
  · have h1' : relsB p r = false := by simpa using h1
    simp [c23, hR, h1', ← GP.enc_eq, ← GR.enc_eq, ruleP]
theorem callRule6 (p : GP) (hl : p.decls.length ≤ 100000000000) (r : GR) (hr : r.size ≤ 1000000000) (bs : Nat) (σ : Heap) : callT T 23 [p.enc, r.enc] bs σ = some (.int .i64 (ruleP p r), σ) := call_clean rfl rfl rfl (by simp) (rule_ok p hl r hr)
end Go.Proofs.Ytiikmmbfhbianaa
end
section
set_option linter.unusedVariables false
set_option linter.unusedSimpArgs false
set_option linter.unnecessarySimpa false
namespace Go.Proofs.Ytiikmmbfhbianaa
open Go.Mach
def firstP (p : GP) : List GR → Nat → Int × Int
  | [], _ => (0, -1)
  | r :: rs, i => if ruleP p r ≠ 0 then (ruleP p r, (i : Int)) else firstP p rs (i + 1)
def badF (p : GP) (t : GU) : Bool := decide (arityP p t.name ≠ (t.args.length : Int))
def dupD : List ByteArray → List GD → Bool
  | _, [] => false
  | b, d :: ds => memB d.name b || dupD (addB b d.name) ds
def checkP (p : GP) : Int × Int := if progB p = false then (40, -1) else if dupD [] p.decls = true then (60, -1) else if p.facts.any (badF p) = true then (60, -1) else firstP p p.rules 0
def pCells (p : GP) : AObj := .cells [.isl (p.decls.map GD.enc) false, .isl (p.facts.map GU.enc) false, .isl (p.rules.map GR.enc) false] 0 false
abbrev res2 (r : Int × Int) : AV := .tup [.int .i64 r.1, .int .i64 r.2]
abbrev T2 : ACode := sndC (sndC (sndC (sndC c10.body)))
theorem check_rules (p : GP) (hp : p.size ≤ 1000000000) (f : FR) (τ : Heap) (h1 : f 1 = .ptr 0 0) (h0 : τ[0]? = some (pCells p)) : wpK T 0 63 [.code (sndC T2)] f τ (endP 63 [.tmp 2, .tmp 3] (res2 (firstP p p.rules 0))) := by
  have hl := GP.rules_len p
  have hdl := GP.decls_len p
  unfold pCells at h0
  simp [T2, c10, sndC, h1, h0]
  refine W_for T 0 63 p.rules.length (fun i f τ => f 1 = .ptr 0 0 ∧ f 48 = .isl (p.rules.map GR.enc) false ∧ f 49 = .int .i64 (p.rules.length : Int) ∧ f 50 = .int .i64 (i : Int) ∧ 1 ≤ τ.length ∧ τ[0]? = some (.cells [.isl (p.decls.map GD.enc) false, .isl (p.facts.map GU.enc) false, .isl (p.rules.map GR.enc) false] 0 false) ∧ firstP p p.rules 0 = firstP p (p.rules.drop i) i) ?_ _ _ ?_
  · rintro i f τ hi ⟨h1, h48, h49, h50, hN, h0, hf⟩
    by_cases hlt : i < p.rules.length
    · have hw : IntKind.i64.wrap ((i : Int) + 1) = (i : Int) + 1 := wr64 (by omega) (by omega)
      have e0 : p.rules[i]? = some p.rules[i] := List.getElem?_eq_getElem hlt
      have hrs := GP.rules_mem p (List.getElem_mem hlt)
      have hR := callRule6 p (by omega) p.rules[i] (by omega)
      have h02 : ∀ o, (τ ++ [o])[0]? = some (.cells [.isl (p.decls.map GD.enc) false, .isl (p.facts.map GU.enc) false, .isl (p.rules.map GR.enc) false] 0 false) := fun o => by rw [List.getElem?_append_left (by omega)]; exact h0
      have h03 : ∀ o (h : 0 < (τ ++ [o]).length), (τ ++ [o])[0]'h = .cells [.isl (p.decls.map GD.enc) false, .isl (p.facts.map GU.enc) false, .isl (p.rules.map GR.enc) false] 0 false := fun o h => Option.some_inj.1 ((List.getElem?_eq_getElem h).symm.trans (h02 o))
      rw [List.drop_eq_getElem_cons hlt] at hf
      simp only [firstP] at hf
      by_cases hz : ruleP p p.rules[i] = 0
      · rw [if_neg (by simpa using hz)] at hf
        rw [hz] at hR
        simp [h1, h48, h49, h50, hlt, e0, hw, h02, h03, hR, ← GP.enc_eq, ← GR.enc_eq, hf]
      · rw [if_pos hz] at hf
        simp [h1, h48, h49, h50, hlt, e0, hw, h02, h03, hR, ← GP.enc_eq, ← GR.enc_eq, hf, hz, endP, res1]
    · have he : i = p.rules.length := by omega
      subst he
      rw [List.drop_length] at hf
      simp [h1, h48, h49, h50, hf, firstP, endP, res1]
  · simp [h1, h0]
    exact (List.getElem?_eq_some_iff.1 h0).1
theorem check_facts (p : GP) (hp : p.size ≤ 1000000000) (f : FR) (τ : Heap) (h1 : f 1 = .ptr 0 0) (h0 : τ[0]? = some (pCells p)) : wpK T 0 63 [.code T2] f τ (endP 63 [.tmp 2, .tmp 3] (res2 (if p.facts.any (badF p) = true then (60, -1) else firstP p p.rules 0))) := by
  have hl := GP.facts_len p
  have hdl := GP.decls_len p
  have tail := check_rules p hp
  obtain ⟨B, hB⟩ : ∃ B, p.facts.any (badF p) = B := ⟨_, rfl⟩
  rw [hB]
  have hb : T2 = .seq (fstC T2) (sndC T2) := rfl
  rw [hb]
  generalize sndC T2 = K at tail
  unfold pCells at h0
  simp [T2, c10, sndC, fstC, h1, h0]
  refine W_for T 0 63 p.facts.length (fun i f τ => f 1 = .ptr 0 0 ∧ f 32 = .isl (p.facts.map GU.enc) false ∧ f 33 = .int .i64 (p.facts.length : Int) ∧ f 34 = .int .i64 (i : Int) ∧ 1 ≤ τ.length ∧ τ[0]? = some (.cells [.isl (p.decls.map GD.enc) false, .isl (p.facts.map GU.enc) false, .isl (p.rules.map GR.enc) false] 0 false) ∧ B = (p.facts.drop i).any (badF p)) ?_ _ _ ?_
  · rintro i f τ hi ⟨h1, h48, h49, h50, hN, h0, hf⟩
    by_cases hlt : i < p.facts.length
    · have hw : IntKind.i64.wrap ((i : Int) + 1) = (i : Int) + 1 := wr64 (by omega) (by omega)
      have e0 : p.facts[i]? = some p.facts[i] := List.getElem?_eq_getElem hlt
      have hA := callArity p p.facts[i].name (by omega)
      have h02 : ∀ o, (τ ++ [o])[0]? = some (.cells [.isl (p.decls.map GD.enc) false, .isl (p.facts.map GU.enc) false, .isl (p.rules.map GR.enc) false] 0 false) := fun o => by rw [List.getElem?_append_left (by omega)]; exact h0
      have h03 : ∀ o (h : 0 < (τ ++ [o]).length), (τ ++ [o])[0]'h = .cells [.isl (p.decls.map GD.enc) false, .isl (p.facts.map GU.enc) false, .isl (p.rules.map GR.enc) false] 0 false := fun o h => Option.some_inj.1 ((List.getElem?_eq_getElem h).symm.trans (h02 o))
      rw [List.drop_eq_getElem_cons hlt] at hf
      simp only [List.any_cons] at hf
      by_cases hz : arityP p p.facts[i].name = (p.facts[i].args.length : Int)
      · have hbf : badF p p.facts[i] = false := by simp [badF, hz]
        rw [hbf, Bool.false_or] at hf
        simp [h1, h48, h49, h50, hlt, e0, hw, h02, h03, hA, hz, ← GP.enc_eq, hf]
      · have hbf : badF p p.facts[i] = true := by simp [badF, hz]
        rw [hbf, Bool.true_or] at hf
        simp [h1, h48, h49, h50, hlt, e0, hw, h02, h03, hA, hz, ← GP.enc_eq, hf, endP, res1]
    · have he : i = p.facts.length := by omega
      subst he
      rw [List.drop_length, List.any_nil] at hf
      simp [h1, h48, h49, h50, hf]
      exact tail (upF f 35 (.bool false)) τ (by simp [h1]) h0
  · simp only [List.drop_zero, hB]
    simp [h1, h0]
    exact (List.getElem?_eq_some_iff.1 h0).1
theorem check_ok (p : GP) (hp : p.size ≤ 1000000000) : pureT T c10 [p.enc] = some (res2 (checkP p)) := by
  have hl := GP.decls_len p
  have tail := check_facts p hp
  have hR := callPRight p (by omega)
  apply pure_enter (by simp [c10])
  show wpK T 0 63 [.code c10.body] _ [] (endP 63 [.tmp 2, .tmp 3] _)
  have hb : c10.body = .seq (fstC c10.body) (.seq (fstC (sndC c10.body)) (.seq (fstC (sndC (sndC c10.body))) (.seq (fstC (sndC (sndC (sndC c10.body)))) T2))) := rfl
  rw [hb]
  generalize T2 = K at tail
  by_cases hr : progB p = true
  · simp [c10, sndC, fstC, hR, hr, ← GP.enc_eq, sym]
    refine W_for T 0 63 p.decls.length (fun i f τ => f 1 = .ptr 0 0 ∧ f 4 = .map 1 ∧ f 17 = .isl (p.decls.map GD.enc) false ∧ f 18 = .int .i64 (p.decls.length : Int) ∧ f 19 = .int .i64 (i : Int) ∧ 2 ≤ τ.length ∧ τ[0]? = some (pCells p) ∧ ∃ b, τ[1]? = some (mpN b) ∧ dupD [] p.decls = dupD b (p.decls.drop i)) ?_ _ _ ?_
    · rintro i f τ hi ⟨h1, h4, h48, h49, h50, hN, h0, b, hm, hf⟩
      by_cases hlt : i < p.decls.length
      · have hw : IntKind.i64.wrap ((i : Int) + 1) = (i : Int) + 1 := wr64 (by omega) (by omega)
        have e0 : p.decls[i]? = some p.decls[i] := List.getElem?_eq_getElem hlt
        have hm2 : ∀ o, (τ ++ [o])[1]? = some (mpN b) := fun o => by rw [List.getElem?_append_left (by omega)]; exact hm
        have h03 : ∀ o (h : 0 < (τ ++ [o]).length), (τ ++ [o])[0]'h = pCells p := fun o h => Option.some_inj.1 ((List.getElem?_eq_getElem h).symm.trans (by rw [List.getElem?_append_left (by omega)]; exact h0))
        rw [List.drop_eq_getElem_cons hlt] at hf
        simp only [dupD] at hf
        cases hin : memB p.decls[i].name b
        · rw [hin, Bool.false_or] at hf
          simp [h1, h4, h48, h49, h50, hlt, e0, hw, mlook_n (hm2 _), mset_n (hm2 _), hin]
          refine ⟨by omega, ?_, addB b p.decls[i].name, ?_, hf⟩
          · first | exact h03 _ _ | (rw [List.getElem?_append_left (by omega)]; exact h0)
          · first | exact list_set_at (by simp; omega) | (simp; omega)
        · rw [hin, Bool.true_or] at hf
          simp [h1, h4, h48, h49, h50, hlt, e0, hw, mlook_n (hm2 _), hin, endP, res1, checkP, hr, hf]
      · have he : i = p.decls.length := by omega
        subst he
        rw [List.drop_length] at hf
        have hf2 : dupD [] p.decls = false := hf
        simp [h1, h4, h48, h49, h50]
        have ht := tail (upF f 20 (.bool false)) τ (by simp [h1]) h0
        simpa [checkP, hr, hf2] using ht
    · simp [pCells]
      exact ⟨[], rfl, rfl⟩
  · have hr' : progB p = false := by simpa using hr
    simp [c10, sndC, fstC, hR, hr', ← GP.enc_eq, sym, endP, res1, checkP]
end Go.Proofs.Ytiikmmbfhbianaa
end
section
set_option linter.unusedVariables false
set_option linter.unusedSimpArgs false
set_option linter.unnecessarySimpa false
namespace Go.Proofs.Ytiikmmbfhbianaa
open Go.Mach
def txs (l : List ByteArray) : AV := .isl (l.map .str) false
theorem texts_ok (a b : List ByteArray) (ha : a.length ≤ 100000000000) (hb : b.length ≤ 100000000000) : pureT T c15 [txs a, txs b] = some (.bool (decide (a = b))) := by
  apply pure_enter (by simp [c15])
  by_cases hlen : a.length = b.length
  · simp [c15, txs, hlen]
    refine W_for T 0 26 a.length (fun i f σ => f 0 = .isl (a.map .str) false ∧ f 1 = .isl (b.map .str) false ∧ f 5 = .int .i64 (i : Int) ∧ ∀ j, (h1 : j < a.length) → (h2 : j < b.length) → j < i → a[j] = b[j]) ?_ _ _ ?_
    · rintro i f σ hi ⟨h0, h1, h5, hall⟩
      by_cases hlt : i < a.length
      · have hlt2 : i < b.length := by omega
        have hw : IntKind.i64.wrap ((i : Int) + 1) = (i : Int) + 1 := wr64 (by omega) (by omega)
        have e1 : a[i]? = some a[i] := List.getElem?_eq_getElem hlt
        have e2 : b[i]? = some b[i] := List.getElem?_eq_getElem hlt2
        by_cases he : a[i] = b[i]
        · simp [h0, h1, h5, hlt, hlt2, hw, e1, e2, he]
          intro j h1 h2 hj
          by_cases e : j = i
          · subst e; exact he
          · exact hall j h1 h2 (by omega)
        · have hne : ¬ a = b := fun e => he (by subst e; rfl)
          simp [h0, h1, h5, hlt, hlt2, hw, e1, e2, he, hne]
      · have he : i = a.length := by omega
        subst he
        have : a = b := List.ext_getElem hlen fun j h1 h2 => hall j h1 h2 h1
        simp [h0, h1, h5, this]
    · simp
  · have hne : ¬ a = b := fun e => hlen (by rw [e])
    have hlen' : ¬ (a.length : Int) = (b.length : Int) := by omega
    simp [c15, txs, hlen', hne]
def relsD : List GD := [⟨⟨#[108, 105, 110, 107]⟩, 3⟩, ⟨⟨#[112]⟩, 2⟩, ⟨⟨#[113]⟩, 2⟩, ⟨⟨#[114]⟩, 1⟩, ⟨⟨#[115]⟩, 3⟩, ⟨⟨#[116]⟩, 2⟩]
theorem relations6_ok : pureT T c19 [] = some (.isl (relsD.map GD.enc) false) := by
  apply pure_enter (by simp [c19])
  simp [c19, setRun, endP, res1, relsD, GD.enc]
  exact ⟨_, rfl⟩
def numT (n : Int) : GT := .mk 2 ⟨#[]⟩ (.mk 1 n ⟨#[]⟩ []) []
theorem num6_ok (n : Int) : pureT T c16 [.int .i64 n] = some (numT n).enc := by
  apply pure_enter (by simp [c16])
  simp [c16, setRun, endP, res1, numT, GT.enc, GV.kind, GV.num, GV.text, GV.items, GV.encs]
theorem callRelations6 (bs : Nat) (σ : Heap) : callT T 19 [] bs σ = some (.isl (relsD.map GD.enc) false, σ) := call_clean rfl rfl rfl rfl relations6_ok
theorem callNum6 (n : Int) (bs : Nat) (σ : Heap) : callT T 16 [.int .i64 n] bs σ = some ((numT n).enc, σ) := call_clean rfl rfl rfl rfl (num6_ok n)
theorem pick6_ok (c n : Int) (h : n ≠ 0) : pureT T c11 [.int .i64 c, .int .i64 n] = some (.int .i64 ((if c < 0 then IntKind.i64.wrap (0 - IntKind.i64.wrap (c + 1)) else c).tmod n)) := by
  apply pure_enter (by simp [c11])
  by_cases hc : c < 0
  · simp [c11, hc, h]
  · simp [c11, hc, h]
theorem pick6 (c : Int) (n : Nat) (h : 0 < n) (h1 : GV.i64ok c) (bs : Nat) (σ : Heap) :
    callT T 11 [.int .i64 c, .int .i64 (n : Int)] bs σ = some (.int .i64 (pickN c n : Int), σ) := by
  refine call_clean rfl rfl rfl rfl ?_
  rw [pick6_ok c n (by omega), pick_eq c n h h1.1 h1.2]
def vName (n : Nat) : ByteArray := [⟨#[83]⟩, ⟨#[68]⟩, ⟨#[88]⟩, ⟨#[89]⟩, ⟨#[90]⟩, ⟨#[67]⟩].getD n ⟨#[]⟩
def vT (c : Int) : GT := .mk 1 (vName (pickN c 6)) (.mk 0 0 ⟨#[]⟩ []) []
theorem v6_ok (c : Int) (hc : GV.i64ok c) : pureT T c18 [.int .i64 c] = some (vT c).enc := by
  have hp := fun bs σ => pick6 c 6 (by omega) hc bs σ
  have hlt : pickN c 6 < 6 := pickN_lt (by omega)
  apply pure_enter (by simp [c18])
  unfold vT
  simp only [Int.cast_ofNat_Int] at hp
  generalize pickN c 6 = n at *
  match n, hlt with
  | 0, _ => simp [c18, setRun, hp, endP, res1, GT.enc, GV.kind, GV.num, GV.text, GV.items, GV.encs, vName]
  | 1, _ => simp [c18, setRun, hp, endP, res1, GT.enc, GV.kind, GV.num, GV.text, GV.items, GV.encs, vName]
  | 2, _ => simp [c18, setRun, hp, endP, res1, GT.enc, GV.kind, GV.num, GV.text, GV.items, GV.encs, vName]
  | 3, _ => simp [c18, setRun, hp, endP, res1, GT.enc, GV.kind, GV.num, GV.text, GV.items, GV.encs, vName]
  | 4, _ => simp [c18, setRun, hp, endP, res1, GT.enc, GV.kind, GV.num, GV.text, GV.items, GV.encs, vName]
  | 5, _ => simp [c18, setRun, hp, endP, res1, GT.enc, GV.kind, GV.num, GV.text, GV.items, GV.encs, vName]
theorem callV6 (c : Int) (hc : GV.i64ok c) (bs : Nat) (σ : Heap) : callT T 18 [.int .i64 c] bs σ = some ((vT c).enc, σ) := call_clean rfl rfl rfl rfl (v6_ok c hc)
end Go.Proofs.Ytiikmmbfhbianaa
end
section
set_option linter.unusedVariables false
set_option linter.unusedSimpArgs false
set_option linter.unnecessarySimpa false
set_option maxRecDepth 100000
namespace Go.Proofs.Ytiikmmbfhbianaa
open Go.Mach
def awS : GT := .mk 1 ⟨#[83]⟩ (.mk 0 0 ⟨#[]⟩ []) []
def awX : GT := .mk 1 ⟨#[88]⟩ (.mk 0 0 ⟨#[]⟩ []) []
def awP : GP := ⟨relsD, [], [⟨⟨#[114, 49]⟩, ⟨#[112]⟩, [awS, awX], ⟨#[]⟩, 0, [⟨1, ⟨#[114]⟩, [awS]⟩]⟩]⟩
def awQ : GP := ⟨relsD, [], []⟩
theorem awP_check : checkP awP = (61, 0) := by decide +kernel
theorem awQ_check : checkP awQ = (0, -1) := by decide +kernel
theorem aw_arity : arityP awP ⟨#[108, 105, 110, 107]⟩ = 3 := by decide +kernel
theorem aw_vars : nub (vs1 awS) = [⟨#[83]⟩] := by decide +kernel
theorem v0 : vT 0 = awS := by rfl
theorem v2 : vT 2 = awX := by rfl
def awO : AObj := .cells [.int .i64 1, .str ⟨#[83]⟩, .int .i64 0, .int .i64 0, .str ⟨#[]⟩, .isl [] false, .isl [] false] 0 false
def awH : Heap := [awO, awO, .cells [.int .i64 1, .str ⟨#[114]⟩, .sl 1 0 1 7 true] 0 false, .cells [.isl (relsD.map GD.enc) false, .isl [] true, .sl 5 0 1 6 true] 0 false,
  .cells [.int .i64 1, .str ⟨#[83]⟩, .int .i64 0, .int .i64 0, .str ⟨#[]⟩, .isl [] false, .isl [] false, .int .i64 1, .str ⟨#[88]⟩, .int .i64 0, .int .i64 0, .str ⟨#[]⟩, .isl [] false, .isl [] false] 0 false,
  .cells [.str ⟨#[114, 49]⟩, .str ⟨#[112]⟩, .sl 4 0 2 7 true, .str ⟨#[]⟩, .int .i64 0, .sl 2 0 1 3 true] 0 false]
abbrev awA : AV := .agg [.isl (relsD.map GD.enc) false, .isl [] true, .sl 5 0 1 6 true]
theorem aw_close : ∃ σ, closeT awH [awA] = some ([awP.enc], σ) := ⟨_, rfl⟩
theorem aw_close2 : ∃ σ, closeT awH [awA, .str ⟨#[108, 105, 110, 107]⟩] = some ([awP.enc, .str ⟨#[108, 105, 110, 107]⟩], σ) := ⟨_, rfl⟩
theorem aw_c1 : callT T 10 [awA] 0 awH = some (.tup [.int .i64 61, .int .i64 0], awH) := by
  obtain ⟨σ, h⟩ := aw_close
  have := call_pure (T := T) (f := 10) (bs := 0) rfl rfl rfl h (by simp) (check_ok awP (by decide +kernel))
  rw [awP_check] at this
  exact this
theorem aw_c2 (σ : Heap) : callT T 10 [.agg [.isl (relsD.map GD.enc) false, .isl [] true, .isl [] true]] 0 σ = some (.tup [.int .i64 0, .int .i64 (-1)], σ) := by
  have := call_pure (T := T) (f := 10) (bs := 0) (σ := σ) (σ' := σ) rfl rfl rfl (show closeT σ [.agg [.isl (relsD.map GD.enc) false, .isl [] true, .isl [] true]] = some ([awQ.enc], σ) from rfl) (by simp) (check_ok awQ (by decide +kernel))
  rw [awQ_check] at this
  exact this
theorem aw_c3 : callT T 20 [awA, .str ⟨#[108, 105, 110, 107]⟩] 0 awH = some (.int .i64 3, awH) := by
  obtain ⟨σ, h⟩ := aw_close2
  have := call_pure (T := T) (f := 20) (bs := 0) rfl rfl rfl h (by simp) (arity_ok awP ⟨#[108, 105, 110, 107]⟩ (by decide +kernel))
  rw [aw_arity] at this
  exact this
theorem aw_c4 (σ : Heap) : callT T 14 [.agg [.int .i64 1, .str ⟨#[83]⟩, .int .i64 0, .int .i64 0, .str ⟨#[]⟩, .isl [] false, .isl [] false]] 0 σ = some (.isl [.str ⟨#[83]⟩] false, σ) := by
  have := call_clean (T := T) (f := 14) (bs := 0) (σ := σ) rfl rfl rfl (by simp) (vars_ok awS (by decide +kernel))
  rw [aw_vars] at this
  exact this
theorem aw_c5 : callT T 15 [.isl [.str ⟨#[83]⟩] false, .sl 6 0 1 1 false] 0 (awH ++ [.cells [.str ⟨#[83]⟩] 0 false]) = some (.bool true, awH ++ [.cells [.str ⟨#[83]⟩] 0 false]) := by
  have h : ∃ σ, closeT (awH ++ [.cells [.str ⟨#[83]⟩] 0 false]) [.isl [.str ⟨#[83]⟩] false, .sl 6 0 1 1 false] = some ([txs [⟨#[83]⟩], txs [⟨#[83]⟩]], σ) := ⟨_, rfl⟩
  obtain ⟨σ, h⟩ := h
  have := call_pure (T := T) (f := 15) (bs := 0) rfl rfl rfl h (by simp [txs]) (texts_ok [⟨#[83]⟩] [⟨#[83]⟩] (by decide) (by decide))
  exact this
theorem awake6_ok : pureT T c8 [] = some (.bool true) := by
  have h0 := callV6 0 (by unfold GV.i64ok; omega)
  have h2 := callV6 2 (by unfold GV.i64ok; omega)
  rw [v0] at h0
  rw [v2] at h2
  apply pure_enter (by simp [c8])
  simp [c8, h0, h2, callRelations6, setRun, awS, awX, GT.enc, GT.kind, GT.name, GT.value, GT.args, GV.kind, GV.num, GV.text, GV.items, GV.encs]
  have c1 := aw_c1
  have c3 := aw_c3
  have c5 := aw_c5
  simp only [awH, awO, List.cons_append, List.nil_append] at c1 c3 c5
  simp [c1, aw_c2, callRelations6, setRun, c3, aw_c4, c5, endP, res1]
theorem callAwake6 (bs : Nat) (σ : Heap) : callT T 8 [] bs σ = some (.bool true, σ) := call_clean rfl rfl rfl rfl awake6_ok
end Go.Proofs.Ytiikmmbfhbianaa
end
section
set_option linter.unusedVariables false
set_option linter.unusedSimpArgs false
set_option linter.unnecessarySimpa false
namespace Go.Proofs.Ytiikmmbfhbianaa
open Go.Mach
theorem mem_addB (b : List ByteArray) (n m : ByteArray) : m ∈ addB b n ↔ m ∈ b ∨ m = n := by
  unfold addB
  split
  · rename_i h
    have := (memB_iff n b).1 h
    constructor
    · exact .inl
    · rintro (h | rfl)
      · exact h
      · exact this
  · simp
theorem mem_fold6 : ∀ (ns b : List ByteArray) (m : ByteArray), m ∈ ns.foldl addB b ↔ m ∈ b ∨ m ∈ ns
  | [], b, m => by simp
  | n :: ns, b, m => by rw [List.foldl_cons, mem_fold6 ns, mem_addB, List.mem_cons, or_assoc]
theorem addB_mem {b : List ByteArray} {n : ByteArray} (h : n ∈ b) : addB b n = b := by unfold addB; rw [if_pos ((memB_iff n b).2 h)]
theorem fold_addB (c b : List ByteArray) (n : ByteArray) : (addB c n).foldl addB b = addB (c.foldl addB b) n := by
  by_cases h : n ∈ c
  · rw [addB_mem h, addB_mem ((mem_fold6 c b n).2 (.inr h))]
  · have h' : ¬ memB n c = true := fun e => h ((memB_iff n c).1 e)
    have : addB c n = c ++ [n] := by unfold addB; rw [if_neg h']
    rw [this, List.foldl_append]; rfl
theorem fold_fold : ∀ (ns c b : List ByteArray), (ns.foldl addB c).foldl addB b = ns.foldl addB (c.foldl addB b)
  | [], c, b => rfl
  | n :: ns, c, b => by rw [List.foldl_cons, List.foldl_cons, fold_fold ns, fold_addB]
theorem nub_two (xs ys : List ByteArray) : nub (nub xs ++ nub ys) = nub (xs ++ ys) := by
  simp only [nub, List.foldl_append, fold_fold, List.foldl_nil]
def LstN (σ : Heap) (es : List ByteArray) (x : AV) : Prop := (es = [] ∧ x = .isl [] true) ∨ ∃ k, x = .own k (es.map .str) ∧ σ[k]? = some (.tok es.length 1)
theorem okEl_names (es : List ByteArray) : (es.map AV.str).all (okEl 1 false) = true := by simp [okEl]
theorem LstN.closeS {σ : Heap} {es : List ByteArray} {x : AV} (h : LstN σ es x) (τ : Heap) : Go.Mach.closeS τ x = τ := by
  rcases h with ⟨_, rfl⟩ | ⟨k, rfl, _⟩ <;> rfl
theorem LstN.len {σ : Heap} {es : List ByteArray} {x : AV} (h : LstN σ es x) : lenV false x = some (.int .i64 (es.length : Int)) := by
  rcases h with ⟨rfl, rfl⟩ | ⟨k, rfl, _⟩ <;> simp
theorem LstN.at {σ : Heap} {es : List ByteArray} {x : AV} (h : LstN σ es x) {i : Nat} (hi : i < es.length) : iaddrV 1 x (.int .i64 (i : Int)) = some (.iptr [.str es[i]] 0) := by
  rcases h with ⟨rfl, rfl⟩ | ⟨k, rfl, _⟩
  · simp at hi
  · simp [hi]
theorem LstN.keep {σ τ : Heap} {es : List ByteArray} {x : AV} (h : LstN σ es x) (hk : ∀ (k n : Nat), σ[k]? = some (AObj.tok n 1) → τ[k]? = some (AObj.tok n 1)) : LstN τ es x := by
  rcases h with h | ⟨k, h1, h2⟩
  · exact .inl h
  · exact .inr ⟨k, h1, hk _ _ h2⟩
theorem LstN.arg {σ : Heap} {es : List ByteArray} {x : AV} (h : LstN σ es x) (τ : Heap) : closeA τ x = some (.isl (es.map .str) false, τ) := by
  rcases h with ⟨rfl, rfl⟩ | ⟨k, rfl, _⟩
  · rfl
  · simp [close1, close0]
theorem app_names {σ : Heap} {es : List ByteArray} {x : AV} (h : LstN σ es x) (ys : List ByteArray) (hl : es.length + ys.length ≤ 1000000000) :
    ∃ x' σ', appendA σ 1 false 16 false x (.isl (ys.map .str) false) = some (x', σ') ∧ LstN σ' (es ++ ys) x' ∧ σ.length ≤ σ'.length ∧ ∀ (j : Nat) cs f e, σ[j]? = some (AObj.cells cs f e) → σ'[j]? = some (AObj.cells cs f e) := by
  cases ys with
  | nil =>
    refine ⟨x, σ, ?_, by simpa using h, Nat.le_refl _, fun _ _ _ _ h => h⟩
    rcases h with ⟨_, rfl⟩ | ⟨k, rfl, _⟩ <;> simp [appendA, elemsN, elemsA, isSl]
  | cons y ys =>
    have hn : ¬ ((1 : Nat) = 0 ∨ (es.length + ((y :: ys).map AV.str).length) * 16 > 70368744177664 ∨ es.length + ((y :: ys).map AV.str).length > 70368744177664) := by
      simp only [List.length_map]; omega
    have hne : (y :: ys).map AV.str ≠ [] := by simp
    have hx := okEl_names (y :: ys)
    have he2 : elemsN σ 1 false (.isl ((y :: ys).map .str) false) = some ((y :: ys).map .str) := rfl
    rcases h with ⟨rfl, rfl⟩ | ⟨k, rfl, ht⟩
    · refine ⟨.own σ.length ((y :: ys).map .str), σ ++ [.tok (y :: ys).length 1], ?_, .inr ⟨σ.length, by simp, by simp⟩, by simp, fun j cs f e hj => by rw [List.getElem?_append_left (List.getElem?_eq_some_iff.1 hj).1]; exact hj⟩
      have he1 : elemsA σ 1 false (.isl [] true) = some [] := rfl
      simp only [List.length_nil] at hn
      simp only [appendA, he1, he2, Option.bind_some, isSl, if_neg hne, List.length_nil, if_neg hn, hx, Bool.false_eq_true, if_false]
      simp
    · have hk := (List.getElem?_eq_some_iff.1 ht).1
      refine ⟨.own k ((es ++ y :: ys).map .str), σ.set k (.tok (es ++ y :: ys).length 1), ?_, .inr ⟨k, rfl, list_set_at hk⟩, by simp, fun j cs f e hj => ?_⟩
      · have he1 : elemsA σ 1 false (.own k (es.map .str)) = some (es.map .str) := rfl
        have hes := okEl_names es
        simp only [appendA, he1, he2, Option.bind_some, isSl, if_neg hne, List.length_map, ht, hx, hes, Bool.false_eq_true, if_false]
        simp only [List.length_map] at hn
        rw [if_neg hn]
        simp
      · have : k ≠ j := by rintro rfl; rw [ht] at hj; cases hj
        rw [List.getElem?_set_ne this]; exact hj
end Go.Proofs.Ytiikmmbfhbianaa
end
section
set_option linter.unusedVariables false
set_option linter.unusedSimpArgs false
set_option linter.unnecessarySimpa false
set_option maxRecDepth 100000
namespace Go.Proofs.Ytiikmmbfhbianaa
open Go.Mach
theorem fold_len6 : ∀ (ns b : List ByteArray), (ns.foldl addB b).length ≤ b.length + ns.length
  | [], b => by simp
  | n :: ns, b => by
    rw [List.foldl_cons]
    have := fold_len6 ns (addB b n)
    have h2 : (addB b n).length ≤ b.length + 1 := by unfold addB; split <;> simp
    simp only [List.length_cons]; omega
theorem nub_len6 (ns : List ByteArray) : (nub ns).length ≤ ns.length := by have := fold_len6 ns []; simpa [nub] using this
theorem callTerm7 (t : GT) (ht : t.ok) (hs : t.size ≤ 100000000000) (bs : Nat) (σ : Heap) : callT T 13 [t.enc, .int .i64 7] bs σ = some ((termV 7 t).enc, σ) := callTerm 7 t (by omega) ht hs bs σ
theorem callVars6 (t : GT) (ht : t.size ≤ 1000000000) (bs : Nat) (σ : Heap) : callT T 14 [t.enc] bs σ = some (.isl ((nub (vs1 t)).map .str) false, σ) := call_clean rfl rfl rfl (by simp) (vars_ok t ht)
theorem close_pair (x y : GT) (τ : Heap) : ∃ σ', closeT (τ ++ [AObj.cells [AV.int .i64 x.kind, .str x.name, .int .i64 x.value.kind, .int .i64 x.value.num, .str x.value.text, .isl (GV.encs x.value.items) false, .isl (GT.encs x.args) false, AV.int .i64 y.kind, .str y.name, .int .i64 y.value.kind, .int .i64 y.value.num, .str y.value.text, .isl (GV.encs y.value.items) false, .isl (GT.encs y.args) false] 0 false, AObj.cells [.int .i64 4, .str ⟨#[43]⟩, .int .i64 0, .int .i64 0, .str ⟨#[]⟩, .isl [] true, .sl τ.length 0 2 7 true] 0 false]) [AV.agg [.int .i64 4, .str ⟨#[43]⟩, .int .i64 0, .int .i64 0, .str ⟨#[]⟩, .isl [] true, .sl τ.length 0 2 7 true]] = some ([(GT.mk 4 ⟨#[43]⟩ (.mk 0 0 ⟨#[]⟩ []) [x, y]).enc], σ') := by
  have hc : close0 (τ ++ [AObj.cells [AV.int .i64 x.kind, .str x.name, .int .i64 x.value.kind, .int .i64 x.value.num, .str x.value.text, .isl (GV.encs x.value.items) false, .isl (GT.encs x.args) false, AV.int .i64 y.kind, .str y.name, .int .i64 y.value.kind, .int .i64 y.value.num, .str y.value.text, .isl (GV.encs y.value.items) false, .isl (GT.encs y.args) false] 0 false, AObj.cells [.int .i64 4, .str ⟨#[43]⟩, .int .i64 0, .int .i64 0, .str ⟨#[]⟩, .isl [] true, .sl τ.length 0 2 7 true] 0 false]) (.sl τ.length 0 2 7 true) = some (.isl (GT.encs [x, y]) false, frz (τ ++ [AObj.cells [AV.int .i64 x.kind, .str x.name, .int .i64 x.value.kind, .int .i64 x.value.num, .str x.value.text, .isl (GV.encs x.value.items) false, .isl (GT.encs x.args) false, AV.int .i64 y.kind, .str y.name, .int .i64 y.value.kind, .int .i64 y.value.num, .str y.value.text, .isl (GV.encs y.value.items) false, .isl (GT.encs y.args) false] 0 false, AObj.cells [.int .i64 4, .str ⟨#[43]⟩, .int .i64 0, .int .i64 0, .str ⟨#[]⟩, .isl [] true, .sl τ.length 0 2 7 true] 0 false]) τ.length 14) := by
    simp only [close0, List.getElem?_concat_length]
    simp [window, chunk, mk, GT.encs, GT.enc_eq x, GT.enc_eq y, AV.nrm]
  have hc1 := close1_of0 hc
  refine ⟨frz (τ ++ [AObj.cells [AV.int .i64 x.kind, .str x.name, .int .i64 x.value.kind, .int .i64 x.value.num, .str x.value.text, .isl (GV.encs x.value.items) false, .isl (GT.encs x.args) false, AV.int .i64 y.kind, .str y.name, .int .i64 y.value.kind, .int .i64 y.value.num, .str y.value.text, .isl (GV.encs y.value.items) false, .isl (GT.encs y.args) false] 0 false, AObj.cells [.int .i64 4, .str ⟨#[43]⟩, .int .i64 0, .int .i64 0, .str ⟨#[]⟩, .isl [] true, .sl τ.length 0 2 7 true] 0 false]) τ.length 14, ?_⟩
  have e : (GT.mk 4 ⟨#[43]⟩ (.mk 0 0 ⟨#[]⟩ []) [x, y]).enc = .agg [.int .i64 4, .str ⟨#[43]⟩, .int .i64 0, .int .i64 0, .str ⟨#[]⟩, .isl [] false, .isl (GT.encs [x, y]) false] := rfl
  rw [e]
  have i1 : ∀ (σ : Heap) k n, close1 σ (AV.int k n) = some (.int k n, σ) := fun _ _ _ => rfl
  have s1 : ∀ (σ : Heap) n, close1 σ (AV.str n) = some (.str n, σ) := fun _ _ => rfl
  have l1 : ∀ (σ : Heap) n b, close1 σ (AV.isl n b) = some (.isl n false, σ) := fun _ _ _ => rfl
  simp only [closeT, closeA, closeL, i1, s1, l1, hc1, Option.bind_some, Option.map_some]
set_option maxHeartbeats 1000000 in
theorem scopeVars_ok (a b : GT) (ha : a.ok) (hb : b.ok) (sa : a.size ≤ 1048576) (sb : b.size ≤ 1048576) : pureT T c5 [a.enc, b.enc] = some (.bool true) := by
  have hx := callTerm7 a ha (by omega)
  have hy := callTerm7 b hb (by omega)
  have sx := term_size 7 a
  have sy := term_size 7 b
  generalize termV 7 a = x at *
  generalize termV 7 b = y at *
  have sx : x.size ≤ 400000000 := by omega
  have sy : y.size ≤ 400000000 := by omega
  have vx := callVars6 x (by omega)
  have vy := callVars6 y (by omega)
  have nx : (nub (vs1 x)).length ≤ 400000000 := by have := vs1_len x; have := nub_len6 (vs1 x); omega
  have ny : (nub (vs1 y)).length ≤ 400000000 := by have := vs1_len y; have := nub_len6 (vs1 y); omega
  have hz := nub_two (vs1 x) (vs1 y)
  obtain ⟨A, hA⟩ : ∃ A : AObj, A = AObj.cells [.int .i64 a.kind, .str a.name, .int .i64 a.value.kind, .int .i64 a.value.num, .str a.value.text, .isl (GV.encs a.value.items) false, .isl (GT.encs a.args) false] 0 false := ⟨_, rfl⟩
  obtain ⟨w1, σ1, e1, L1, l1, k1⟩ := app_names (σ := [AObj.cells [.int .i64 a.kind, .str a.name, .int .i64 a.value.kind, .int .i64 a.value.num, .str a.value.text, .isl (GV.encs a.value.items) false, .isl (GT.encs a.args) false] 0 false,
    AObj.cells [.int .i64 b.kind, .str b.name, .int .i64 b.value.kind, .int .i64 b.value.num, .str b.value.text, .isl (GV.encs b.value.items) false, .isl (GT.encs b.args) false] 0 false,
    AObj.cells [.int .i64 x.kind, .str x.name, .int .i64 x.value.kind, .int .i64 x.value.num, .str x.value.text, .isl (GV.encs x.value.items) false, .isl (GT.encs x.args) false] 0 false,
    AObj.cells [.int .i64 y.kind, .str y.name, .int .i64 y.value.kind, .int .i64 y.value.num, .str y.value.text, .isl (GV.encs y.value.items) false, .isl (GT.encs y.args) false] 0 false]) (es := []) (x := .isl [] true) (.inl ⟨rfl, rfl⟩) (nub (vs1 x)) (by simp; omega)
  have x1 := k1 2 _ _ _ rfl
  have y1 := k1 3 _ _ _ rfl
  obtain ⟨w2, σ2, e2, L2, l2, k2⟩ := app_names L1 (nub (vs1 y)) (by simp; omega)
  have x2 := k2 2 _ _ _ x1
  have y2 := k2 3 _ _ _ y1
  rw [List.nil_append] at L2
  have hL : (nub (vs1 x) ++ nub (vs1 y)).length ≤ 800000000 := by simp; omega
  have hsz : (GT.mk 4 ⟨#[43]⟩ (.mk 0 0 ⟨#[]⟩ []) [x, y]).size ≤ 1000000000 := by
    have z1 : (ByteArray.mk #[43]).size = 1 := rfl
    have z0 : (ByteArray.mk #[]).size = 0 := rfl
    simp only [GT.size, GT.sizes, GV.size, GV.sizes, z1, z0]; omega
  have hv0 : nub (vs1 (GT.mk 4 ⟨#[43]⟩ (.mk 0 0 ⟨#[]⟩ []) [x, y])) = nub (vs1 x ++ vs1 y) := by simp [vs1, vsL]
  have hN : ∀ bs σ, callT T 14 [(GT.mk 4 ⟨#[43]⟩ (.mk 0 0 ⟨#[]⟩ []) [x, y]).enc] bs σ = some (.isl ((nub (vs1 x ++ vs1 y)).map .str) false, σ) := fun bs σ => by
    have := callVars6 (GT.mk 4 ⟨#[43]⟩ (.mk 0 0 ⟨#[]⟩ []) [x, y]) (by
      have z1 : (ByteArray.mk #[43]).size = 1 := rfl
      have z0 : (ByteArray.mk #[]).size = 0 := rfl
      simp only [GT.size, GT.sizes, GV.size, GV.sizes, z1, z0]; omega) bs σ
    simpa [vs1, vsL] using this
  rw [← hz] at hN hv0
  generalize nub (vs1 x) ++ nub (vs1 y) = es at *
  apply pure_enter (by simp [c5])
  simp [c5, callAwake6, hx, hy, vx, vy, ← GT.enc_eq, e1, L1.closeS, e2, L2.len]
  refine W_for T 0 73 es.length (fun i f τ => f 5 = .bool true ∧ f 6 = .ptr 2 0 ∧ f 7 = .ptr 3 0 ∧ f 28 = w2 ∧ f 29 = .int .i64 (es.length : Int) ∧ f 30 = .int .i64 (i : Int) ∧ 4 ≤ τ.length ∧
    τ[2]? = some (AObj.cells [.int .i64 x.kind, .str x.name, .int .i64 x.value.kind, .int .i64 x.value.num, .str x.value.text, .isl (GV.encs x.value.items) false, .isl (GT.encs x.args) false] 0 false) ∧
    τ[3]? = some (AObj.cells [.int .i64 y.kind, .str y.name, .int .i64 y.value.kind, .int .i64 y.value.num, .str y.value.text, .isl (GV.encs y.value.items) false, .isl (GT.encs y.args) false] 0 false) ∧
    LstN τ (nub (es.take i)) (f 10)) ?_ _ _ ?_
  · rintro i f τ hi ⟨h5, h6, h7, h28, h29, h30, hN4, hx2, hy2, hw⟩
    by_cases hlt : i < es.length
    · have hwr : IntKind.i64.wrap ((i : Int) + 1) = (i : Int) + 1 := wr64 (by omega) (by omega)
      have hat := L2.at hlt
      have htk : nub (es.take (i + 1)) = addB (nub (es.take i)) es[i] := by
        rw [List.take_succ_eq_append_getElem hlt]; simp only [nub, List.foldl_append]; rfl
      have hwl : (nub (es.take i)).length ≤ 800000000 := by have := nub_len6 (es.take i); simp at this; omega
      rw [htk]
      generalize nub (es.take i) = ws at *
      generalize es[i] = m at *
      generalize hw0 : f 10 = w at *
      have hwl2 := hw.len
      simp [h28, h29, h30, hlt, hat]
      refine W_for T 0 73 ws.length (fun j f τ' => f 5 = .bool true ∧ f 6 = .ptr 2 0 ∧ f 7 = .ptr 3 0 ∧ f 28 = w2 ∧ f 29 = .int .i64 (es.length : Int) ∧ f 30 = .int .i64 (i : Int) ∧ f 10 = w ∧ f 12 = .str m ∧ f 14 = .int .i64 (j : Int) ∧ f 13 = .bool (memB m (ws.take j)) ∧ τ' = τ) ?_ _ _ ?_
      · rintro j f τ' hj ⟨h5, h6, h7, h28, h29, h30, h10, h12, h14, h13, rfl⟩
        by_cases hjl : j < ws.length
        · have hwj : IntKind.i64.wrap ((j : Int) + 1) = (j : Int) + 1 := wr64 (by omega) (by omega)
          have hat2 := hw.at hjl
          have hmt : memB m (ws.take (j + 1)) = (memB m (ws.take j) || decide (m = ws[j])) := by
            unfold memB; rw [List.take_succ_eq_append_getElem hjl, List.any_append]; simp only [List.any_cons, List.any_nil, Bool.or_false]
          rw [hmt]
          by_cases hin : memB m (ws.take j) = true
          · rw [hin] at h13
            simp [h5, h6, h7, h28, h29, h30, h10, h12, h14, h13, hwl2, hjl, hwj, hat2, hin]
          · have hin' : memB m (ws.take j) = false := by simpa using hin
            rw [hin'] at h13
            simp [h5, h6, h7, h28, h29, h30, h10, h12, h14, h13, hwl2, hjl, hwj, hat2, hin']
            exact ⟨fun h => h.symm, fun h e => h e.symm⟩
        · have he : j = ws.length := by omega
          subst he
          rw [List.take_length] at h13
          by_cases hin : memB m ws = true
          · rw [hin] at h13
            have had : addB ws m = ws := by unfold addB; rw [if_pos hin]
            simp [h5, h6, h7, h28, h29, h30, h10, h12, h14, h13, hwl2, hwr, had, hlt]
            exact ⟨hN4, hx2, hy2, hw⟩
          · have hin' : memB m ws = false := by simpa using hin
            rw [hin'] at h13
            have had : addB ws m = ws ++ [m] := by unfold addB; rw [if_neg hin]
            rcases hw with ⟨rfl, rfl⟩ | ⟨k, rfl, ht⟩
            · simp [h5, h6, h7, h28, h29, h30, h10, h12, h14, h13, hwl2, hwr, had, hlt]
              exact ⟨by omega, by rw [List.getElem?_append_left (by omega)]; exact hx2, by rw [List.getElem?_append_left (by omega)]; exact hy2, .inr ⟨τ'.length + 1, rfl, by simp⟩⟩
            · have hk := (List.getElem?_eq_some_iff.1 ht).1
              have ht2 : ∀ o, (τ' ++ [o])[k]? = some (AObj.tok ws.length 1) := fun o => by rw [List.getElem?_append_left hk]; exact ht
              have hok := okEl_names ws
              have hl10 : ws.length ≤ 10000000000 := by omega
              simp [h5, h6, h7, h28, h29, h30, h10, h12, h14, h13, hwl2, hwr, had, hlt, ht2, hok, hl10]
              have k2 : k ≠ 2 := by rintro rfl; rw [hx2] at ht; cases ht
              have k3 : k ≠ 3 := by rintro rfl; rw [hy2] at ht; cases ht
              exact ⟨by omega, by rw [List.getElem?_set_ne k2, List.getElem?_append_left (by omega)]; exact hx2, by rw [List.getElem?_set_ne k3, List.getElem?_append_left (by omega)]; exact hy2, .inr ⟨k, by simp, by rw [list_set_at (by simp; omega)]; simp⟩⟩
      · simp [h5, h6, h7, h28, h29, h30, hw0, memB]
    · have he : i = es.length := by omega
      subst he
      rw [List.take_length] at hw
      have hwa := hw.arg
      have hn3 := fun bs σ => callNum6 3 bs σ
      have hv3 : ∀ bs σ, callT T 14 [(numT 3).enc] bs σ = some (.isl [] false, σ) := fun bs σ => by
        have := callVars6 (numT 3) (by decide +kernel) bs σ
        rwa [show nub (vs1 (numT 3)) = [] by decide +kernel] at this
      have hwl : (nub es).length ≤ 800000000 := by have := nub_len6 es; omega
      obtain ⟨σ', hcl⟩ := close_pair x y τ
      have hV : callT T 14 [AV.agg [.int .i64 4, .str ⟨#[43]⟩, .int .i64 0, .int .i64 0, .str ⟨#[]⟩, .isl [] true, .sl τ.length 0 2 7 true]] 0 (τ ++ [AObj.cells [AV.int .i64 x.kind, .str x.name, .int .i64 x.value.kind, .int .i64 x.value.num, .str x.value.text, .isl (GV.encs x.value.items) false, .isl (GT.encs x.args) false, AV.int .i64 y.kind, .str y.name, .int .i64 y.value.kind, .int .i64 y.value.num, .str y.value.text, .isl (GV.encs y.value.items) false, .isl (GT.encs y.args) false] 0 false, AObj.cells [.int .i64 4, .str ⟨#[43]⟩, .int .i64 0, .int .i64 0, .str ⟨#[]⟩, .isl [] true, .sl τ.length 0 2 7 true] 0 false]) = some (.isl ((nub es).map .str) false, σ') := by
        have := call_pure (T := T) (f := 14) (bs := 0) rfl rfl rfl hcl (by rw [GT.enc_eq]; rfl) (vars_ok (GT.mk 4 ⟨#[43]⟩ (.mk 0 0 ⟨#[]⟩ []) [x, y]) hsz)
        rw [hv0] at this
        exact this
      have hT : ∀ bs σ, callT T 15 [.isl ((nub es).map .str) false, f 10] bs σ = some (.bool true, σ) := fun bs σ => by
        have := call_pure (T := T) (f := 15) (bs := bs) (σ := σ) (args := [.isl ((nub es).map .str) false, f 10]) (args' := [txs (nub es), txs (nub es)]) (σ' := σ) rfl rfl rfl (by simp [closeT, hwa, close1, close0, txs]) (by simp [txs]) (texts_ok (nub es) (nub es) (by omega) (by omega))
        simpa using this
      simp [h5, h6, h7, h28, h29, h30, hx2, hy2, setRun, hV, hT, hn3, hv3]
  · simp [LstN, nub]
    exact ⟨by simp at l1; omega, x2, y2⟩
end Go.Proofs.Ytiikmmbfhbianaa
end
