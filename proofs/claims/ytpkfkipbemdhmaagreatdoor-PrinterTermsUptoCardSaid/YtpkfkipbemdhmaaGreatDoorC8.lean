import Derived.Test.YtpkfkipbemdhmaaGreatDoorC7
import Derived.Test.YtpkfkipbemdhmaaGreatDoorC6
import Derived.KernelRfl
section
set_option linter.unusedVariables false
set_option linter.unusedSimpArgs false
set_option linter.unnecessarySimpa false
namespace Go.Proofs.YtpkfkipbemdhmaaGreatDoor
open Go.Mach

theorem lc_join : ∀ (i : Nat) (l : List GL), joinF (fun _ => shLit) [44, 32] (i + 1) l = shLitC l
  | _, [] => rfl
  | i, x :: l => by simp only [joinF, shLitC, lc_join (i + 1) l]; simp
theorem ls_join (l : List GL) : joinF (fun _ => shLit) [44, 32] 0 l = shLitS l := by
  cases l with
  | nil => rfl
  | cons x l => simp only [joinF, shLitS, lc_join]; simp
theorem pc_join : ∀ (i : Nat) (l : List GV), joinF (fun _ => pr) [44] (i + 1) l = prc l
  | _, [] => rfl
  | i, x :: l => by simp only [joinF, prc, pc_join (i + 1) l]; simp
theorem ps_join (l : List GV) : joinF (fun _ => pr) [44] 0 l = prs l := by
  cases l with
  | nil => rfl
  | cons x l => simp only [joinF, prs, pc_join]; simp
theorem wrule_ok (x : GR) (hx : ruleB x = true) (hs : x.size ≤ 10000000000) (σ : Heap) (id tt : Nat) (c0 : List UInt8) (τ : Heap) (bs : Nat) (hid : id < σ.length) (ht : tt ∈ bldTs) (hl : c0.length + (shRule x).length ≤ 70368744177664) :
    callT T 46 [.ptr id 0, x.enc] bs (σ.set id (.bld tt 5 c0) ++ τ) = some (.tup [], σ.set id (.bld tt 5 (c0 ++ shRule x)) ++ τ) := by
  have hal := x.args_le
  have hbl := x.body_len
  have hbm := fun y hy => x.body_mem (y := y) hy
  simp only [ruleB, Bool.and_eq_true, decide_eq_true_eq, List.all_eq_true] at hx
  obtain ⟨⟨⟨⟨⟨a1, a2⟩, a3⟩, a4⟩, a5⟩, a6⟩ := hx
  have n1 := rel_size a1
  have n2 := rel_size a2
  have n3 := agg_len a6
  have e1 : x.label.data.toList.length = x.label.size := by simp
  have z1 : (ByteArray.mk #[32]).size = 1 := rfl
  have z2 : (ByteArray.mk #[32, 58, 45, 32]).size = 4 := rfl
  have q1 : (x.label.size : Int) + 1 ≤ 9223372036854775807 := by omega
  have hsl : ∀ o : AObj, (σ.set id o ++ τ).length = σ.length + τ.length := fun o => by simp
  generalize hA : shAtom x.head.data.toList x.args x.agg.data.toList x.pos = A at *
  have hR : shRule x = x.label.data.toList ++ 32 :: (A ++ 32 :: 58 :: 45 :: 32 :: (shLitS x.body ++ [46])) := by rw [← hA]; rfl
  rw [hR] at hl ⊢
  simp only [List.length_append, List.length_cons, List.length_nil, e1] at hl
  have s1 := fun r bs => ws_at (σ := σ) (τ := τ ++ r) (s := x.label ++ ⟨#[32]⟩) (l := c0) bs hid ht (by simp only [ByteArray.size_append, z1]; omega)
  have d1 : (x.label ++ ⟨#[32]⟩).data.toList = x.label.data.toList ++ [32] := by simp
  rw [d1] at s1
  have s2 := fun r bs => watom x.head x.agg x.pos x.args (by omega) (by omega) (by omega) (args_ex (args_all a3)) σ id tt (c0 ++ (x.label.data.toList ++ [32])) (τ ++ r) bs hid ht (by rw [hA]; simp only [List.length_append, List.length_cons, List.length_nil, e1]; omega)
  rw [hA] at s2
  have s3 := fun r bs => ws_at (σ := σ) (τ := τ ++ r) (s := ⟨#[32, 58, 45, 32]⟩) (l := c0 ++ (x.label.data.toList ++ [32]) ++ A) bs hid ht (by simp only [List.length_append, List.length_cons, List.length_nil, e1, z2]; omega)
  have s4 : ∀ (o : AObj) (bs : Nat), callT T 91 [.ptr id 0, .isl (x.body.map GL.enc) false, .str ⟨#[44, 32]⟩, .func 92 [.ptr (σ.length + τ.length) 0]] bs (σ.set id (.bld tt 5 (c0 ++ (x.label.data.toList ++ [32]) ++ A ++ [32, 58, 45, 32])) ++ (τ ++ [.cells [.ptr id 0] 0 false, o])) =
      some (.tup [], σ.set id (.bld tt 5 (c0 ++ (x.label.data.toList ++ [32]) ++ A ++ [32, 58, 45, 32] ++ shLitS x.body)) ++ (τ ++ [.cells [.ptr id 0] 0 false, o])) := fun o bs => by
    rw [← ls_join]
    refine listLiteral (fun _ => shLit) ⟨#[44, 32]⟩ x.body 92 [.ptr (σ.length + τ.length) 0] σ id tt _ (τ ++ [.cells [.ptr id 0] 0 false, o]) hid ht (by omega) (by show _ + (joinF (fun _ => shLit) [44, 32] 0 x.body).length ≤ _; rw [ls_join]; simp only [List.length_append, List.length_cons, List.length_nil, e1]; omega) (fun i hi cur ρ bs hb2 => ?_) bs
    have hm := List.getElem_mem hi
    have hw := fun r bs => wlit_ok x.body[i] (a5 _ hm) (by have := hbm _ hm; omega) σ id tt cur (τ ++ r) bs hid ht hb2
    refine heap_enter (af := c92) (args' := [.int .i64 (i : Int), x.body[i].enc, .ptr (σ.length + τ.length) 0]) rfl rfl (by simp [c92]) (by simp [c92]) rfl ?_
    simp [c92, baseA, key_at, hw, ← GL.enc_eq, dropA_gc, refLt, res1]
    exact take_eq [_] (by simp; rfl) (by simp)
  have s5 := fun r bs => wb_at (σ := σ) (τ := τ ++ r) (n := 46) (l := c0 ++ (x.label.data.toList ++ [32]) ++ A ++ [32, 58, 45, 32] ++ shLitS x.body) bs hid ht (by simp only [List.length_append, List.length_cons, List.length_nil, e1]; omega) (by decide) (by decide)
  simp at s1 s2 s3 s4 s5
  refine heap_enter (af := c46) (args' := [.ptr id 0, x.enc]) (σ1 := σ.set id (.bld tt 5 c0) ++ τ) rfl rfl (by simp [c46]) (by simp [c46]) rfl ?_
  simp [c46, baseA, GR.enc_eq, s1, s2, s3, s4, s5, z1, q1, dropA_gc, refLt, res1]
  exact take_app2
theorem wtup_ok (x : GU) (hx : tupB x = true) (hs : x.size ≤ 10000000000) (σ : Heap) (id tt : Nat) (c0 : List UInt8) (τ : Heap) (bs : Nat) (hid : id < σ.length) (ht : tt ∈ bldTs) (hl : c0.length + (shTup x).length ≤ 70368744177664) :
    callT T 44 [.ptr id 0, x.enc] bs (σ.set id (.bld tt 5 c0) ++ τ) = some (.tup [], σ.set id (.bld tt 5 (c0 ++ shTup x)) ++ τ) := by
  have hal := x.args_le
  have hlen := len_sizes x.args
  simp only [tupB, Bool.and_eq_true, decide_eq_true_eq, List.all_eq_true] at hx
  obtain ⟨⟨⟨a1, a2⟩, a3⟩, a4⟩ := hx
  have n1 := rel_size a1
  have e1 : x.name.data.toList.length = x.name.size := by simp
  have z1 : (ByteArray.mk #[40, 64]).size = 2 := rfl
  have z2 : (ByteArray.mk #[41, 46]).size = 2 := rfl
  have q1 : (x.name.size : Int) + 2 ≤ 9223372036854775807 := by omega
  have hsl : ∀ o : AObj, (σ.set id o ++ τ).length = σ.length + τ.length := fun o => by simp
  have hR : shTup x = x.name.data.toList ++ 40 :: 64 :: (prs x.args ++ [41, 46]) := rfl
  rw [hR] at hl ⊢
  simp only [List.length_append, List.length_cons, List.length_nil, e1] at hl
  have s1 := fun r bs => ws_at (σ := σ) (τ := τ ++ r) (s := x.name ++ ⟨#[40, 64]⟩) (l := c0) bs hid ht (by simp only [ByteArray.size_append, z1]; omega)
  have d1 : (x.name ++ ⟨#[40, 64]⟩).data.toList = x.name.data.toList ++ [40, 64] := by simp
  rw [d1] at s1
  have s4 : ∀ (o : AObj) (bs : Nat), callT T 87 [.ptr id 0, .isl (GV.encs x.args) false, .str ⟨#[44]⟩, .func 88 [.ptr (σ.length + τ.length) 0]] bs (σ.set id (.bld tt 5 (c0 ++ (x.name.data.toList ++ [40, 64]))) ++ (τ ++ [.cells [.ptr id 0] 0 false, o])) =
      some (.tup [], σ.set id (.bld tt 5 (c0 ++ (x.name.data.toList ++ [40, 64]) ++ prs x.args)) ++ (τ ++ [.cells [.ptr id 0] 0 false, o])) := fun o bs => by
    rw [← ps_join]
    refine listValue (fun _ => pr) ⟨#[44]⟩ x.args 88 [.ptr (σ.length + τ.length) 0] σ id tt _ (τ ++ [.cells [.ptr id 0] 0 false, o]) hid ht (by omega) (by show _ + (joinF (fun _ => pr) [44] 0 x.args).length ≤ _; rw [ps_join]; simp only [List.length_append, List.length_cons, List.length_nil, e1]; omega) (fun i hi cur ρ bs hb2 => ?_) bs
    have hm := List.getElem_mem hi
    have hv := a4 _ hm
    have hpv := valPrint x.args[i] (right_okV _ _ hv) (by have := rightT_size hv; omega)
    have hws := fun r bs => ws_at (σ := σ) (τ := τ ++ r) (s := printV x.args[i]) (l := cur) bs hid ht (by rw [printV_size hv]; exact hb2)
    rw [printV_list hv] at hws
    refine heap_enter (af := c88) (args' := [.int .i64 (i : Int), x.args[i].enc, .ptr (σ.length + τ.length) 0]) rfl rfl (by simp [c88]) (by simp [c88]) rfl ?_
    simp [c88, baseA, key_at, hws, hpv, ← GV.enc_eq, dropA_gc, refLt, res1]
    exact take_eq [_] (by simp; rfl) (by simp)
  have s5 := fun r bs => ws_at (σ := σ) (τ := τ ++ r) (s := ⟨#[41, 46]⟩) (l := c0 ++ (x.name.data.toList ++ [40, 64]) ++ prs x.args) bs hid ht (by simp only [List.length_append, List.length_cons, List.length_nil, e1, z2]; omega)
  simp at s1 s4 s5
  refine heap_enter (af := c44) (args' := [.ptr id 0, x.enc]) (σ1 := σ.set id (.bld tt 5 c0) ++ τ) rfl rfl (by simp [c44]) (by simp [c44]) rfl ?_
  simp [c44, baseA, GU.enc_eq, s1, s4, s5, z1, q1, dropA_gc, refLt, res1]
  exact take_app2
end Go.Proofs.YtpkfkipbemdhmaaGreatDoor
end
section
set_option linter.unusedVariables false
set_option linter.unusedSimpArgs false
set_option linter.unnecessarySimpa false
namespace Go.Proofs.YtpkfkipbemdhmaaGreatDoor
open Go.Mach

theorem flat_take {α : Type} (f : α → List UInt8) (l : List α) (i : Nat) (h : i < l.length) : (l.take (i + 1)).flatMap f = (l.take i).flatMap f ++ f l[i] := by
  rw [List.take_add_one, List.getElem?_eq_getElem h, List.flatMap_append]; simp
theorem flat_le {α : Type} (f : α → List UInt8) (l : List α) (i : Nat) : ((l.take i).flatMap f).length ≤ (l.flatMap f).length := by
  have := congrArg (fun x => (x.flatMap f).length) (List.take_append_drop i l)
  simp only [List.flatMap_append, List.length_append] at this
  omega
set_option maxRecDepth 100000 in
theorem print1_ok (p : GP) (hp : progB p = true) (hs : p.size ≤ 10000000000) (σ : Heap) (id tt : Nat) (c0 : List UInt8) (τ : Heap) (bs : Nat) (hid : id < σ.length) (ht : tt ∈ bldTs) (hl : c0.length + (shProg p).length ≤ 70368744177664) :
    callT T 41 [.ptr id 0, p.enc] bs (σ.set id (.bld tt 5 c0) ++ τ) = some (.tup [], σ.set id (.bld tt 5 (c0 ++ shProg p)) ++ τ) := by
  simp only [progB, Bool.and_eq_true, decide_eq_true_eq, List.all_eq_true] at hp
  obtain ⟨⟨⟨b1, b2⟩, b3⟩, b4⟩ := hp
  have m1 := fun y hy => p.decls_mem (y := y) hy
  have m2 := fun y hy => p.facts_mem (y := y) hy
  have m3 := fun y hy => p.rules_mem (y := y) hy
  obtain ⟨ds, us, rs⟩ := p
  simp only at b1 b2 b3 b4 m1 m2 m3
  simp only [shProg] at hl ⊢
  simp only [List.length_append] at hl
  have hsl : ∀ o : AObj, (σ.set id o ++ τ).length = σ.length + τ.length := fun o => by simp
  refine heap_enter (af := c41) (args' := [.ptr id 0, GP.enc ⟨ds, us, rs⟩]) (σ1 := σ.set id (.bld tt 5 c0) ++ τ) rfl rfl (by simp [c41]) (by simp [c41]) rfl ?_
  simp [c41, baseA, GP.enc_eq]
  refine W_for T _ 61 ds.length (fun i f ρ => f 0 = .ptr id 0 ∧ f 3 = .ptr (σ.length + τ.length) 0 ∧ f 11 = .isl (ds.map GD.enc) false ∧ f 12 = .int .i64 (ds.length : Int) ∧ f 13 = .int .i64 (i : Int) ∧
    ∃ rest, ρ = σ.set id (.bld tt 5 (c0 ++ (ds.take i).flatMap shDecl)) ++ (τ ++ .cells [.isl (ds.map GD.enc) false, .isl (us.map GU.enc) false, .isl (rs.map GR.enc) false] 0 false :: rest)) ?_ _ _ ?_
  rotate_left 1
  · simp
  rintro i f ρ hi ⟨g0, g3, g11, g12, g13, rest, rfl⟩
  by_cases hlt : i < ds.length
  · have e1 : ds[i]? = some ds[i] := List.getElem?_eq_getElem hlt
    have hm := List.getElem_mem hlt
    have hd := b4 _ hm
    have hdl := decl_len hd
    simp only [declB, Bool.and_eq_true, decide_eq_true_eq] at hd
    have n1 := rel_size hd.1
    have hw : IntKind.i64.wrap ((i : Int) + 1) = (i : Int) + 1 := wr64 (by omega) (by omega)
    have hle := flat_le shDecl ds (i + 1)
    rw [flat_take shDecl ds i hlt] at hle ⊢
    generalize (ds.take i).flatMap shDecl = cur at *
    have hit := callItoa (n := ds[i].arity) (h := by have := hd.2; unfold GV.i64ok; omega)
    have hil := Lib.itoa_length_le ds[i].arity (by omega) (by omega)
    have z1 : (ByteArray.mk #[109, 97, 116, 101, 114, 105, 97, 108, 105, 122, 101, 40]).size = 12 := rfl
    have z2 : (ByteArray.mk #[44]).size = 1 := rfl
    have z3 : (ByteArray.mk #[41, 46, 10]).size = 3 := rfl
    have z4 := ba_size (Lib.itoa ds[i].arity)
    have q1 : (12 : Int) + (ds[i].name.size : Int) ≤ 9223372036854775807 := by omega
    have q2 : (12 : Int) + (ds[i].name.size : Int) + 1 ≤ 9223372036854775807 := by omega
    have q3 : (12 : Int) + (ds[i].name.size : Int) + 1 + ((Lib.itoa ds[i].arity).length : Int) ≤ 9223372036854775807 := by omega
    have q4 : (12 : Int) + (ds[i].name.size : Int) + 1 + ((Lib.itoa ds[i].arity).length : Int) + 3 ≤ 9223372036854775807 := by omega
    have hsd : ((((⟨#[109, 97, 116, 101, 114, 105, 97, 108, 105, 122, 101, 40]⟩ ++ ds[i].name) ++ ⟨#[44]⟩) ++ ⟨(Lib.itoa ds[i].arity).toArray⟩) ++ ⟨#[41, 46, 10]⟩ : ByteArray).data.toList = shDecl ds[i] := by
      simp [shDecl, sMat]
    have hsz : ((((⟨#[109, 97, 116, 101, 114, 105, 97, 108, 105, 122, 101, 40]⟩ ++ ds[i].name) ++ ⟨#[44]⟩) ++ ⟨(Lib.itoa ds[i].arity).toArray⟩) ++ ⟨#[41, 46, 10]⟩ : ByteArray).size = (shDecl ds[i]).length := by
      rw [← hsd]; simp [ByteArray.size_append, z1, z2, z3, z4]; omega
    have hws := fun r bs => ws_at (σ := σ) (τ := τ ++ r) (l := c0 ++ cur) (s := ((((⟨#[109, 97, 116, 101, 114, 105, 97, 108, 105, 122, 101, 40]⟩ ++ ds[i].name) ++ ⟨#[44]⟩) ++ ⟨(Lib.itoa ds[i].arity).toArray⟩) ++ ⟨#[41, 46, 10]⟩)) bs hid ht (by rw [hsz]; simp only [List.length_append] at hle ⊢; omega)
    rw [hsd] at hws
    simp only [List.append_assoc] at hws
    simp [g0, g3, g11, g12, g13, hlt, hw, hit, hws, z1, z2, z3, z4, q1, q2, q3, q4, ByteArray.size_append]
  · have he : i = ds.length := by omega
    subst he
    simp [g0, g3, g11, g12, g13, key_at]
    refine W_for T _ 61 us.length (fun i f ρ => f 0 = .ptr id 0 ∧ f 3 = .ptr (σ.length + τ.length) 0 ∧ f 32 = .isl (us.map GU.enc) false ∧ f 33 = .int .i64 (us.length : Int) ∧ f 34 = .int .i64 (i : Int) ∧
      ∃ rest, ρ = σ.set id (.bld tt 5 (c0 ++ (ds.flatMap shDecl ++ (us.take i).flatMap (fun t => shTup t ++ [10])))) ++ (τ ++ .cells [.isl (ds.map GD.enc) false, .isl (us.map GU.enc) false, .isl (rs.map GR.enc) false] 0 false :: rest)) ?_ _ _ ?_
    rotate_left 1
    · simp [g0, g3]
    clear g0 g3 g11 g12 g13
    rintro i f ρ hi ⟨g0, g3, g11, g12, g13, rest, rfl⟩
    by_cases hlt : i < us.length
    · have e1 : us[i]? = some us[i] := List.getElem?_eq_getElem hlt
      have hm := List.getElem_mem hlt
      have hd := b2 _ hm
      have hw : IntKind.i64.wrap ((i : Int) + 1) = (i : Int) + 1 := wr64 (by omega) (by omega)
      have hle := flat_le (fun t => shTup t ++ [10]) us (i + 1)
      rw [flat_take (fun t => shTup t ++ [10]) us i hlt] at hle ⊢
      generalize (us.take i).flatMap (fun t => shTup t ++ [10]) = cur at *
      simp only [List.length_append, List.length_cons, List.length_nil] at hle
      have hwt := fun r bs => wtup_ok us[i] hd (by have := m2 _ hm; omega) σ id tt (c0 ++ (ds.flatMap shDecl ++ cur)) (τ ++ r) bs hid ht (by simp only [List.length_append]; omega)
      have hwb := fun r bs => wb_at (σ := σ) (τ := τ ++ r) (n := 10) (l := c0 ++ (ds.flatMap shDecl ++ cur) ++ shTup us[i]) bs hid ht (by simp only [List.length_append]; omega) (by decide) (by decide)
      simp at hwt hwb
      simp [g0, g3, g11, g12, g13, hlt, hw, hwt, hwb, ← GU.enc_eq]
      done
    · have he : i = us.length := by omega
      subst he
      simp [g0, g3, g11, g12, g13, key_at]
      refine W_for T _ 61 rs.length (fun i f ρ => f 0 = .ptr id 0 ∧ f 3 = .ptr (σ.length + τ.length) 0 ∧ f 47 = .isl (rs.map GR.enc) false ∧ f 48 = .int .i64 (rs.length : Int) ∧ f 49 = .int .i64 (i : Int) ∧
        ∃ rest, ρ = σ.set id (.bld tt 5 (c0 ++ (ds.flatMap shDecl ++ (us.flatMap (fun t => shTup t ++ [10]) ++ (rs.take i).flatMap (fun r => shRule r ++ [10]))))) ++ (τ ++ .cells [.isl (ds.map GD.enc) false, .isl (us.map GU.enc) false, .isl (rs.map GR.enc) false] 0 false :: rest)) ?_ _ _ ?_
      rotate_left 1
      · simp [g0, g3]
      clear g0 g3 g11 g12 g13
      rintro i f ρ hi ⟨g0, g3, g11, g12, g13, rest, rfl⟩
      by_cases hlt : i < rs.length
      · have e1 : rs[i]? = some rs[i] := List.getElem?_eq_getElem hlt
        have hm := List.getElem_mem hlt
        have hd := b3 _ hm
        have hw : IntKind.i64.wrap ((i : Int) + 1) = (i : Int) + 1 := wr64 (by omega) (by omega)
        have hle := flat_le (fun t => shRule t ++ [10]) rs (i + 1)
        rw [flat_take (fun t => shRule t ++ [10]) rs i hlt] at hle ⊢
        generalize (rs.take i).flatMap (fun t => shRule t ++ [10]) = cur at *
        simp only [List.length_append, List.length_cons, List.length_nil] at hle
        have hwt := fun r bs => wrule_ok rs[i] hd (by have := m3 _ hm; omega) σ id tt (c0 ++ (ds.flatMap shDecl ++ (us.flatMap (fun t => shTup t ++ [10]) ++ cur))) (τ ++ r) bs hid ht (by simp only [List.length_append]; omega)
        have hwb := fun r bs => wb_at (σ := σ) (τ := τ ++ r) (n := 10) (l := c0 ++ (ds.flatMap shDecl ++ (us.flatMap (fun t => shTup t ++ [10]) ++ cur)) ++ shRule rs[i]) bs hid ht (by simp only [List.length_append]; omega) (by decide) (by decide)
        simp at hwt hwb
        simp [g0, g3, g11, g12, g13, hlt, hw, hwt, hwb, ← GR.enc_eq]
        done
      · have he : i = rs.length := by omega
        subst he
        simp [g0, g3, g11, g12, g13, dropA_gc, refLt, res1]
        exact take_app2
end Go.Proofs.YtpkfkipbemdhmaaGreatDoor
end
section
set_option linter.unusedVariables false
set_option linter.unusedSimpArgs false
set_option linter.unnecessarySimpa false
namespace Go.Proofs.YtpkfkipbemdhmaaGreatDoor
open Go.Mach

/-! ### What is printed -/
def textProgram (x : GP) : ByteArray := if progB x = true then S (shProg x) else S []
theorem textProgram_ok (b : Bool) (x : GP) (hb : b = true → progB x = true) (hs : x.size ≤ 10000000000) : pureT T c40 [.bool b, x.enc, .func 41 []] = some (.str (if b = true then S (shProg x) else S [])) := by
  apply pure_enter (by simp [c40])
  cases b
  · simp [c40, S]
  · have hx := hb rfl
    have hln := prog_len hx
    have hw := fun o bs => print1_ok x hx (by omega) [o, .dead] 1 80 [] [] bs (by simp) (by decide) (by simp only [List.length_nil]; omega)
    have hst := fun o bs => callStr (σ := [o, .bld 80 5 (shProg x)]) (id := 1) (l := shProg x) bs rfl (by omega)
    simp at hw hst
    simp [c40, hw, hst, setRun, S, ← GP.enc_eq]
theorem pProgram_ok (x : GP) (hs : x.size ≤ 10000000000) : pureT T c12 [x.enc] = some (.str (textProgram x)) := by
  have h1 := callPRight x (by omega)
  have h2 : ∀ bs σ, callT T 40 [.bool (progB x), x.enc, .func 41 []] bs σ = some (.str (textProgram x), σ) := fun bs σ => call_clean rfl rfl rfl (by simp) (by rw [textProgram_ok (progB x) x (fun h => h) hs]; rfl)
  apply pure_enter (by simp [c12])
  generalize (progB x) = b at *
  simp [c12, h1, h2, sym, ← GP.enc_eq]
theorem sayProgram (x : GP) (hs : x.size ≤ 10000000000) (bs : Nat) (σ : Heap) : callT T 12 [x.enc] bs σ = some (.str (textProgram x), σ) := call_clean rfl rfl rfl (by simp) (pProgram_ok x hs)
def textTerm (x : GT) : ByteArray := if termR 8 x = true then S (shT x) else S []
theorem textTerm_ok (b : Bool) (x : GT) (hb : b = true → termR 8 x = true) (hs : x.size ≤ 10000000000) : pureT T c51 [.bool b, x.enc, .func 53 []] = some (.str (if b = true then S (shT x) else S [])) := by
  apply pure_enter (by simp [c51])
  cases b
  · simp [c51, S]
  · have hx := hb rfl
    have hln := sh_len x 8 hx
    have hw := fun o bs => callWTerm x (by omega) ⟨8, hx⟩ [o, .dead] 1 80 [] [] bs (by simp) (by decide) (by simp only [List.length_nil]; omega)
    have hst := fun o bs => callStr (σ := [o, .bld 80 5 (shT x)]) (id := 1) (l := shT x) bs rfl (by omega)
    simp at hw hst
    simp [c51, hw, hst, setRun, S, ← GT.enc_eq]
theorem pTerm_ok (x : GT) (hs : x.size ≤ 10000000000) : pureT T c16 [x.enc] = some (.str (textTerm x)) := by
  have h1 := callFine x (by omega)
  have h2 : ∀ bs σ, callT T 51 [.bool (termR 8 x), x.enc, .func 53 []] bs σ = some (.str (textTerm x), σ) := fun bs σ => call_clean rfl rfl rfl (by simp) (by rw [textTerm_ok (termR 8 x) x (fun h => h) hs]; rfl)
  apply pure_enter (by simp [c16])
  generalize (termR 8 x) = b at *
  simp [c16, h1, h2, sym, ← GT.enc_eq]
theorem sayTerm (x : GT) (hs : x.size ≤ 10000000000) (bs : Nat) (σ : Heap) : callT T 16 [x.enc] bs σ = some (.str (textTerm x), σ) := call_clean rfl rfl rfl (by simp) (pTerm_ok x hs)
def textLiteral (x : GL) : ByteArray := if litB x = true then S (shLit x) else S []
theorem textLiteral_ok (b : Bool) (x : GL) (hb : b = true → litB x = true) (hs : x.size ≤ 10000000000) : pureT T c55 [.bool b, x.enc, .func 57 []] = some (.str (if b = true then S (shLit x) else S [])) := by
  apply pure_enter (by simp [c55])
  cases b
  · simp [c55, S]
  · have hx := hb rfl
    have hln := lit_len hx
    have hw := fun o bs => wlit_ok x hx (by omega) [o, .dead] 1 80 [] [] bs (by simp) (by decide) (by simp only [List.length_nil]; omega)
    have hst := fun o bs => callStr (σ := [o, .bld 80 5 (shLit x)]) (id := 1) (l := shLit x) bs rfl (by omega)
    simp at hw hst
    simp [c55, hw, hst, setRun, S, ← GL.enc_eq]
theorem pLiteral_ok (x : GL) (hs : x.size ≤ 10000000000) : pureT T c18 [x.enc] = some (.str (textLiteral x)) := by
  have h1 := callPLit x (by omega)
  have h2 : ∀ bs σ, callT T 55 [.bool (litB x), x.enc, .func 57 []] bs σ = some (.str (textLiteral x), σ) := fun bs σ => call_clean rfl rfl rfl (by simp) (by rw [textLiteral_ok (litB x) x (fun h => h) hs]; rfl)
  apply pure_enter (by simp [c18])
  generalize (litB x) = b at *
  simp [c18, h1, h2, sym, ← GL.enc_eq]
theorem sayLiteral (x : GL) (hs : x.size ≤ 10000000000) (bs : Nat) (σ : Heap) : callT T 18 [x.enc] bs σ = some (.str (textLiteral x), σ) := call_clean rfl rfl rfl (by simp) (pLiteral_ok x hs)
def textRule (x : GR) : ByteArray := if ruleB x = true then S (shRule x) else S []
theorem textRule_ok (b : Bool) (x : GR) (hb : b = true → ruleB x = true) (hs : x.size ≤ 10000000000) : pureT T c58 [.bool b, x.enc, .func 46 []] = some (.str (if b = true then S (shRule x) else S [])) := by
  apply pure_enter (by simp [c58])
  cases b
  · simp [c58, S]
  · have hx := hb rfl
    have hln := rule_len hx
    have hw := fun o bs => wrule_ok x hx (by omega) [o, .dead] 1 80 [] [] bs (by simp) (by decide) (by simp only [List.length_nil]; omega)
    have hst := fun o bs => callStr (σ := [o, .bld 80 5 (shRule x)]) (id := 1) (l := shRule x) bs rfl (by omega)
    simp at hw hst
    simp [c58, hw, hst, setRun, S, ← GR.enc_eq]
theorem pRule_ok (x : GR) (hs : x.size ≤ 10000000000) : pureT T c21 [x.enc] = some (.str (textRule x)) := by
  have h1 := callPRule x (by omega)
  have h2 : ∀ bs σ, callT T 58 [.bool (ruleB x), x.enc, .func 46 []] bs σ = some (.str (textRule x), σ) := fun bs σ => call_clean rfl rfl rfl (by simp) (by rw [textRule_ok (ruleB x) x (fun h => h) hs]; rfl)
  apply pure_enter (by simp [c21])
  generalize (ruleB x) = b at *
  simp [c21, h1, h2, sym, ← GR.enc_eq]
theorem sayRule (x : GR) (hs : x.size ≤ 10000000000) (bs : Nat) (σ : Heap) : callT T 21 [x.enc] bs σ = some (.str (textRule x), σ) := call_clean rfl rfl rfl (by simp) (pRule_ok x hs)
def textTuple (x : GU) : ByteArray := if tupB x = true then S (shTup x) else S []
theorem textTuple_ok (b : Bool) (x : GU) (hb : b = true → tupB x = true) (hs : x.size ≤ 10000000000) : pureT T c59 [.bool b, x.enc, .func 44 []] = some (.str (if b = true then S (shTup x) else S [])) := by
  apply pure_enter (by simp [c59])
  cases b
  · simp [c59, S]
  · have hx := hb rfl
    have hln := tup_len hx
    have hw := fun o bs => wtup_ok x hx (by omega) [o, .dead] 1 80 [] [] bs (by simp) (by decide) (by simp only [List.length_nil]; omega)
    have hst := fun o bs => callStr (σ := [o, .bld 80 5 (shTup x)]) (id := 1) (l := shTup x) bs rfl (by omega)
    simp at hw hst
    simp [c59, hw, hst, setRun, S, ← GU.enc_eq]
theorem pTuple_ok (x : GU) (hs : x.size ≤ 10000000000) : pureT T c22 [x.enc] = some (.str (textTuple x)) := by
  have h1 := callPTup x (by omega)
  have h2 : ∀ bs σ, callT T 59 [.bool (tupB x), x.enc, .func 44 []] bs σ = some (.str (textTuple x), σ) := fun bs σ => call_clean rfl rfl rfl (by simp) (by rw [textTuple_ok (tupB x) x (fun h => h) hs]; rfl)
  apply pure_enter (by simp [c22])
  generalize (tupB x) = b at *
  simp [c22, h1, h2, sym, ← GU.enc_eq]
theorem sayTuple (x : GU) (hs : x.size ≤ 10000000000) (bs : Nat) (σ : Heap) : callT T 22 [x.enc] bs σ = some (.str (textTuple x), σ) := call_clean rfl rfl rfl (by simp) (pTuple_ok x hs)
end Go.Proofs.YtpkfkipbemdhmaaGreatDoor
end
section
set_option linter.unusedVariables false
set_option linter.unusedSimpArgs false
set_option linter.unnecessarySimpa false
namespace Go.Proofs.YtpkfkipbemdhmaaGreatDoor
open Go.Mach

/-! ### Raw terms, made right -/
def varOf (s : ByteArray) : ByteArray := ⟨#[86]⟩ ++ (nameFit s).extract 1 (nameFit s).size
theorem lawVar_ok (s : ByteArray) (hs : s.size ≤ 100000000000) : pureT T c32 [.str s] = some (.str (varOf s)) := by
  have hn := nameFit_size s
  have hc := lawName s hs
  have h1 : (⟨#[86]⟩ : ByteArray).size = 1 := rfl
  have h2 : ((nameFit s).extract 1 (nameFit s).size).size = (nameFit s).size - 1 := by rw [ByteArray.size_extract]; omega
  apply pure_enter (by simp [c32])
  have h0 : (1 : Int) ≤ ((nameFit s).size : Int) := by omega
  have h3 : (1 : Int) + (((nameFit s).size - 1 : Nat) : Int) ≤ 9223372036854775807 := by omega
  simp [c32, hc, h0, h1, h3, varOf]
theorem lawVar (s : ByteArray) (hs : s.size ≤ 100000000000) (bs : Nat) (σ : Heap) : callT T 32 [.str s] bs σ = some (.str (varOf s), σ) := call_clean rfl rfl rfl (by simp) (lawVar_ok s hs)
def relOf (s : ByteArray) : ByteArray := if 0 ≤ arityOf (nameFit s) ∨ nameFit s = ⟨#[109, 97, 116, 101, 114, 105, 97, 108, 105, 122, 101]⟩ then ⟨#[110]⟩ else nameFit s
theorem lawRel_ok (s : ByteArray) (hs : s.size ≤ 100000000000) : pureT T c29 [.str s] = some (.str (relOf s)) := by
  have hc := lawName s hs
  have ha := refArity (nameFit s)
  apply pure_enter (by simp [c29])
  simp [c29, hc, ha]
  unfold relOf
  grind
theorem lawRel (s : ByteArray) (hs : s.size ≤ 100000000000) (bs : Nat) (σ : Heap) : callT T 29 [.str s] bs σ = some (.str (relOf s), σ) := call_clean rfl rfl rfl (by simp) (lawRel_ok s hs)
theorem pick4_ok (c n : Int) (h : n ≠ 0) : pureT T c20 [.int .i64 c, .int .i64 n] = some (.int .i64 ((if c < 0 then IntKind.i64.wrap (0 - IntKind.i64.wrap (c + 1)) else c).tmod n)) := by
  apply pure_enter (by simp [c20])
  by_cases hc : c < 0
  · simp [c20, hc, h]
  · simp [c20, hc, h]
theorem pickQ (c : Int) (n : Nat) (h : 0 < n) (h1 : GV.i64ok c) (bs : Nat) (σ : Heap) :
    callT T 20 [.int .i64 c, .int .i64 (n : Int)] bs σ = some (.int .i64 (pickN c n : Int), σ) := by
  refine call_clean rfl rfl rfl rfl ?_
  rw [pick4_ok c n (by omega), pick_eq c n h h1.1 h1.2]
theorem pickQ4 (c : Int) (h1 : GV.i64ok c) (bs : Nat) (σ : Heap) : callT T 20 [.int .i64 c, .int .i64 4] bs σ = some (.int .i64 (pickN c 4 : Int), σ) := pickQ c 4 (by omega) h1 bs σ
theorem pickQ6 (c : Int) (h1 : GV.i64ok c) (bs : Nat) (σ : Heap) : callT T 20 [.int .i64 c, .int .i64 6] bs σ = some (.int .i64 (pickN c 6 : Int), σ) := pickQ c 6 (by omega) h1 bs σ
theorem pickQ3 (c : Int) (h1 : GV.i64ok c) (bs : Nat) (σ : Heap) : callT T 20 [.int .i64 c, .int .i64 3] bs σ = some (.int .i64 (pickN c 3 : Int), σ) := pickQ c 3 (by omega) h1 bs σ
theorem wrap_ok (n : Int) : GV.i64ok (IntKind.i64.wrap n) := by unfold GV.i64ok; rw [IntKind.wrap_i64]; omega
/-- What a call's name is. -/
def fnOf (n : Nat) : ByteArray := if n = 0 then sCons else if n = 1 then sSize else if n = 2 then sMember else if n = 3 then sFirst else if n = 4 then sReverse else sConcat
def opOf (n : Nat) : ByteArray := if n = 0 then ⟨#[43]⟩ else if n = 1 then ⟨#[45]⟩ else ⟨#[42]⟩
def valOf (v : GV) : GV := if (fit v).kind = 3 then .mk (fit v).kind (fit v).num (relOf (fit v).text) (fit v).items else fit v
def leafT (t : GT) : GT := if pickN t.kind 4 % 2 = 0 then .mk 1 (varOf t.name) nilV [] else .mk 2 ⟨#[]⟩ (valOf t.value) []
def termV : Nat → GT → GT
  | 0, t => leafT t
  | d + 1, t =>
    if d = 0 ∨ t.args.length < 2 then leafT t
    else if pickN t.kind 4 = 0 then .mk 1 (varOf t.name) nilV []
    else if pickN t.kind 4 = 1 then .mk 2 ⟨#[]⟩ (valOf t.value) []
    else if pickN t.kind 4 = 2 then
      .mk 3 (fnOf (pickN (IntKind.i64.wrap ((t.name.size : Int) + t.kind)) 6)) nilV ((t.args.take (arityOf (fnOf (pickN (IntKind.i64.wrap ((t.name.size : Int) + t.kind)) 6))).toNat).map (termV d))
    else .mk 4 (opOf (pickN t.name.size 3)) nilV ((t.args.take 2).map (termV d))
theorem term_leaf (d : Int) (t : GT) (ht : t.ok) (hs : t.size ≤ 100000000000) (h : d ≤ 1 ∨ t.args.length < 2) : pureT T c14 [t.enc, .int .i64 d] = some (leafT t).enc := by
  have hk : GV.i64ok t.kind ∧ t.value.ok := by revert ht; cases t; simp only [GT.ok]; exact fun h => ⟨h.1, h.2.1⟩
  have hp := pickQ4 t.kind hk.1
  have hv := lawVar t.name (Nat.le_trans (GT.name_le t) hs)
  have hf := callFit t.value hk.2 (Nat.le_trans (GT.value_le t) hs)
  have hpl := pickN_lt (c := t.kind) (n := 4) (by omega)
  have htm : ((pickN t.kind 4 : Int)).tmod 2 = ((pickN t.kind 4 % 2 : Nat) : Int) := rfl
  have hfs : (fit t.value).text.size ≤ 100000000000 := Nat.le_trans (Nat.le_trans (text_le _) (fit_size _)) (by omega)
  have hr := lawRel (fit t.value).text hfs
  apply pure_enter (by simp [c14])
  have hcond : d ≤ 1 ∨ (¬ d ≤ 1 ∧ ((t.args.length : Int) < 2)) := by omega
  rcases hcond with hd | ⟨hd, hl⟩
  · by_cases hz : pickN t.kind 4 % 2 = 0
    · simp [c14, hp, htm, hd, hz, hv, setRun]
      simp [leafT, hz, GT.enc, nilV]
    · have hz1 : pickN t.kind 4 % 2 = 1 := by omega
      simp [c14, hp, htm, hd, hz1, hf, setRun, enc_mk, hr]
      refine ⟨fun h => ?_, fun h => ?_⟩
      all_goals simp [leafT, hz1, GT.enc, valOf, h]
  · by_cases hz : pickN t.kind 4 % 2 = 0
    · simp [c14, hp, htm, hd, hl, hz, hv, setRun]
      simp [leafT, hz, GT.enc, nilV]
    · have hz1 : pickN t.kind 4 % 2 = 1 := by omega
      simp [c14, hp, htm, hd, hl, hz1, hf, setRun, enc_mk, hr]
      refine ⟨fun h => ?_, fun h => ?_⟩
      all_goals simp [leafT, hz1, GT.enc, valOf, h]
theorem fnOf_arity (n : Nat) : arityOf (fnOf n) = if n = 0 ∨ n = 2 ∨ 5 ≤ n then 2 else 1 := by
  unfold fnOf
  by_cases h0 : n = 0
  · subst h0; decide
  · by_cases h1 : n = 1
    · subst h1; decide
    · by_cases h2 : n = 2
      · subst h2; decide
      · by_cases h3 : n = 3
        · subst h3; decide
        · by_cases h4 : n = 4
          · subst h4; decide
          · rw [if_neg h0, if_neg h1, if_neg h2, if_neg h3, if_neg h4, if_pos (by omega)]; decide
theorem term_call (d : Nat) (hd0 : 0 < d) (hd : d ≤ 100) (t : GT) (ht : t.ok) (hs : t.size ≤ 100000000000) (h2 : 2 ≤ t.args.length) (hk : pickN t.kind 4 = 2) (g : GT → GT)
    (hg : ∀ x ∈ t.args, ∀ bs σ, callT T 14 [x.enc, .int .i64 (d : Int)] bs σ = some ((g x).enc, σ)) (fn : ByteArray) (hfn : fn = fnOf (pickN (IntKind.i64.wrap ((t.name.size : Int) + t.kind)) 6)) :
    pureT T c14 [t.enc, .int .i64 ((d : Int) + 1)] = some (GT.mk 3 fn nilV ((t.args.take (arityOf fn).toNat).map g)).enc := by
  have hk1 : GV.i64ok t.kind := by revert ht; cases t; simp only [GT.ok]; exact fun h => h.1
  have hp := pickQ4 t.kind hk1
  rw [hk] at hp
  have hp6 := pickQ6 _ (wrap_ok ((t.name.size : Int) + t.kind))
  have hlt := pickN_lt (c := IntKind.i64.wrap ((t.name.size : Int) + t.kind)) (n := 6) (by omega)
  have har := fnOf_arity (pickN (IntKind.i64.wrap ((t.name.size : Int) + t.kind)) 6)
  rw [← hfn] at har
  generalize pickN (IntKind.i64.wrap ((t.name.size : Int) + t.kind)) 6 = m at *
  have hdd : ¬ ((d : Int) + 1 ≤ 1) := by omega
  have hll : ¬ ((t.args.length : Int) < 2) := by omega
  have hget : ∀ σ : Heap, ∀ L : List AV, L = [AV.str sCons, .str sSize, .str sMember, .str sFirst, .str sReverse, .str sConcat] → (window L m 1).bind (mk false) = some (.str fn) := by
    intro σ L e; subst e hfn
    match m, hlt with
    | 0, _ => rfl
    | 1, _ => rfl
    | 2, _ => rfl
    | 3, _ => rfl
    | 4, _ => rfl
    | 5, _ => rfl
  obtain ⟨a, ha, ha1, ha2⟩ : ∃ a : Nat, arityOf fn = (a : Int) ∧ 1 ≤ a ∧ a ≤ 2 := by
    rw [har]; split
    · exact ⟨2, rfl, by omega, by omega⟩
    · exact ⟨1, rfl, by omega, by omega⟩
  have hary := refArity fn
  rw [ha] at hary ⊢
  have hw2 := hget [] _ rfl
  have hlt' : (m : Int) < 6 := by omega
  apply pure_enter (by simp [c14])
  simp [c14, hp, hdd, hll, hp6, hlt', setRun, hw2]
  refine W_for T 0 103 a (fun i f σ => f 1 = .int .i64 ((d : Int) + 1) ∧ f 2 = .ptr 0 0 ∧ f 4 = .ptr 1 0 ∧ f 7 = .str fn ∧ f 8 = .ptr 3 0 ∧ f 9 = .int .i64 (i : Int) ∧ ∃ S lst rest,
    σ = [.cells [.int .i64 t.kind, .str t.name, .int .i64 t.value.kind, .int .i64 t.value.num, .str t.value.text, .isl (GV.encs t.value.items) false, .isl (GT.encs t.args) false] 0 false,
      .cells [.int .i64 0, .str ⟨#[]⟩, .int .i64 0, .int .i64 0, .str ⟨#[]⟩, .isl [] true, .isl [] true] 0 false, S,
      .cells [.int .i64 3, .str fn, .int .i64 0, .int .i64 0, .str ⟨#[]⟩, .isl [] true, lst] 0 false] ++ rest ∧
    LstAt rest 4 (GT.encs ((t.args.take i).map g)) 7 lst) ?_ _ _ ?_
  · rintro i f σ hi ⟨h1, h2', h4, h7, h8, h9, S, lst, rest, rfl, hlst⟩
    by_cases hia : i < a
    · have hw : IntKind.i64.wrap ((i : Int) + 1) = (i : Int) + 1 := wr64 (by omega) (by omega)
      have hwd : IntKind.i64.wrap (d : Int) = (d : Int) := wr64 (by omega) (by omega)
      have hc1 : i < t.args.length := by omega
      have hcl := hg t.args[i] (List.getElem_mem hc1)
      have htk : (t.args.take (i + 1)).map g = (t.args.take i).map g ++ [g t.args[i]] := by rw [List.take_add_one, List.getElem?_eq_getElem hc1, List.map_append]; rfl
      have hlen : ((t.args.take i).map g).length = i := by simp; omega
      rw [htk]
      generalize (t.args.take i).map g = done at *
      have hdl : done.length ≤ 10000000000 := by omega
      rcases hlst with ⟨he, rfl⟩ | ⟨kk, rfl, hkl, hkk⟩
      · have hd0 : done = [] := (GT.encs_nil _).1 he
        simp [h1, h2', h4, h7, h8, h9, hia, hc1, hw, hwd, hary, setRun, hcl, GT.enc_mk]
        exact ⟨_, _, _, ⟨rfl, rfl, rfl⟩, .inr ⟨rest.length + 1, by simp [hd0], by simp, by simp [hd0]⟩⟩
      · simp [h1, h2', h4, h7, h8, h9, hia, hc1, hw, hwd, hary, setRun, hcl, GT.enc_mk, List.getElem?_append_left hkl, hkk, List.set_append_left _ _ hkl, hdl]
        exact ⟨_, _, _, ⟨rfl, rfl, rfl⟩, .inr ⟨kk, rfl, by simp; omega, by rw [List.getElem?_append_left (by simpa using hkl)]; simp [hkl]⟩⟩
    · have he : i = a := by omega
      subst he
      rcases hlst with ⟨he2, rfl⟩ | ⟨kk, rfl, hkl, hkk⟩
      · simp [h1, h2', h4, h7, h8, h9, hary, setRun, GT.enc, he2, ← List.map_take, nilV]
      · simp [h1, h2', h4, h7, h8, h9, hary, setRun, GT.enc, ← List.map_take, nilV]
  · exact ⟨by simp, by simp, by simp, by simp, by simp, by simp, _, _, [], rfl, .inl ⟨by simp, rfl⟩⟩
theorem term_op (d : Nat) (hd0 : 0 < d) (hd : d ≤ 100) (t : GT) (ht : t.ok) (hs : t.size ≤ 100000000000) (h2 : 2 ≤ t.args.length) (hk : pickN t.kind 4 = 3) (g : GT → GT)
    (hg : ∀ x ∈ t.args, ∀ bs σ, callT T 14 [x.enc, .int .i64 (d : Int)] bs σ = some ((g x).enc, σ)) (fn : ByteArray) (hfn : fn = opOf (pickN t.name.size 3)) :
    pureT T c14 [t.enc, .int .i64 ((d : Int) + 1)] = some (GT.mk 4 fn nilV ((t.args.take 2).map g)).enc := by
  have hk1 : GV.i64ok t.kind := by revert ht; cases t; simp only [GT.ok]; exact fun h => h.1
  have hp := pickQ4 t.kind hk1
  rw [hk] at hp
  have hns := GT.name_le t
  have hp3 := pickQ3 (t.name.size : Int) ⟨by omega, by omega⟩
  have hlt := pickN_lt (c := (t.name.size : Int)) (n := 3) (by omega)
  generalize pickN (t.name.size : Int) 3 = m at *
  have hdd : ¬ ((d : Int) + 1 ≤ 1) := by omega
  have hll : ¬ ((t.args.length : Int) < 2) := by omega
  have hget : ∀ L : List AV, L = [AV.str ⟨#[43]⟩, .str ⟨#[45]⟩, .str ⟨#[42]⟩] → (window L m 1).bind (mk false) = some (.str fn) := by
    intro L e; subst e hfn
    match m, hlt with
    | 0, _ => rfl
    | 1, _ => rfl
    | 2, _ => rfl
  have hw2 := hget _ rfl
  have hlt' : (m : Int) < 3 := by omega
  obtain ⟨x, y, l, hargs⟩ : ∃ x y l, t.args = x :: y :: l := by
    match t.args, h2 with
    | x :: y :: l, _ => exact ⟨x, y, l, rfl⟩
  have hx := hg x (by simp [hargs])
  have hy := hg y (by simp [hargs])
  have hwd : IntKind.i64.wrap (d : Int) = (d : Int) := wr64 (by omega) (by omega)
  have he : GT.encs t.args = x.enc :: y.enc :: GT.encs l := by rw [hargs]; rfl
  have hll : ¬ ((l.length : Int) + 1 + 1 < 2) := by omega
  apply pure_enter (by simp [c14])
  simp [c14, hp, hdd, hll, hp3, hlt', setRun, hw2, he, hwd, hx, hy, hargs, GT.enc_mk]
  simp [close1, close0, window, chunk, mk, GT.encs, GT.enc, GT.enc_eq (g x), GT.enc_eq (g y), nilV]
theorem term_ok : ∀ (d : Nat) (t : GT), d ≤ 100 → t.ok → t.size ≤ 100000000000 → pureT T c14 [t.enc, .int .i64 (d : Int)] = some (termV d t).enc := by
  intro d
  induction d with
  | zero => intro t hd ht hs; exact term_leaf 0 t ht hs (.inl (by omega))
  | succ d ih =>
    intro t hd ht hs
    unfold termV
    by_cases hl : d = 0 ∨ t.args.length < 2
    · rw [if_pos hl]
      refine term_leaf _ t ht hs ?_
      rcases hl with h | h
      · exact .inl (by omega)
      · exact .inr h
    · have hlt := pickN_lt (c := t.kind) (n := 4) (by omega)
      have hok : GT.oks t.args := by revert ht; cases t; simp only [GT.ok]; exact fun h => h.2.2
      have hargs := GT.args_le t
      have hcl : ∀ x ∈ t.args, ∀ bs σ, callT T 14 [x.enc, .int .i64 (d : Int)] bs σ = some ((termV d x).enc, σ) := fun x hx bs σ =>
        call_clean rfl rfl rfl (by simp) (ih x (by omega) ((GT.oks_iff _).1 hok x hx) (by have := (GT.sizes_mem hx).1; omega))
      have e : (((d + 1 : Nat)) : Int) = (d : Int) + 1 := by omega
      rw [if_neg hl, e]
      by_cases h2 : pickN t.kind 4 = 2
      · rw [if_neg (by omega), if_neg (by omega), if_pos h2]
        exact term_call d (by omega) (by omega) t ht hs (by omega) h2 _ hcl _ rfl
      · by_cases h3 : pickN t.kind 4 = 3
        · rw [if_neg (by omega), if_neg (by omega), if_neg h2]
          exact term_op d (by omega) (by omega) t ht hs (by omega) h3 _ hcl _ rfl
        · have hk1 : GV.i64ok t.kind ∧ t.value.ok := by revert ht; cases t; simp only [GT.ok]; exact fun h => ⟨h.1, h.2.1⟩
          have hp := pickQ4 t.kind hk1.1
          have hv := lawVar t.name (Nat.le_trans (GT.name_le t) hs)
          have hf := callFit t.value hk1.2 (Nat.le_trans (GT.value_le t) hs)
          have hfs : (fit t.value).text.size ≤ 100000000000 := Nat.le_trans (Nat.le_trans (text_le _) (fit_size _)) (by omega)
          have hr := lawRel (fit t.value).text hfs
          have hdd : ¬ ((d : Int) + 1 ≤ 1) := by omega
          have hll : ¬ ((t.args.length : Int) < 2) := by omega
          apply pure_enter (by simp [c14])
          by_cases h0 : pickN t.kind 4 = 0
          · rw [h0] at hp
            rw [if_pos h0]
            simp [c14, hp, hdd, hll, hv, setRun, GT.enc, nilV]
          · have h1 : pickN t.kind 4 = 1 := by omega
            rw [h1] at hp
            rw [if_neg h0, if_pos h1]
            simp [c14, hp, hdd, hll, hf, hr, setRun, enc_mk]
            refine ⟨fun h => ?_, fun h => ?_⟩
            all_goals simp [GT.enc, valOf, h]
theorem callTerm (d : Nat) (t : GT) (hd : d ≤ 100) (ht : t.ok) (hs : t.size ≤ 100000000000) (bs : Nat) (σ : Heap) : callT T 14 [t.enc, .int .i64 (d : Int)] bs σ = some ((termV d t).enc, σ) := call_clean rfl rfl rfl (by simp) (term_ok d t hd ht hs)
end Go.Proofs.YtpkfkipbemdhmaaGreatDoor
end
section
set_option linter.unusedVariables false
set_option linter.unusedSimpArgs false
set_option linter.unnecessarySimpa false
namespace Go.Proofs.YtpkfkipbemdhmaaGreatDoor
open Go.Mach

/-! ### What the laws make of raw parts is right -/
theorem varOf_list (s : ByteArray) : (varOf s).data.toList = 86 :: (s.data.toList.take 15).map nameC := by
  have h := (nameFit_list s).1
  have h2 := (nameFit_list s).2
  unfold varOf
  simp [h]
  apply List.take_of_length_le
  rw [h2]; simp
theorem var_right (s : ByteArray) : varOK (varOf s) = true := by
  have h := varOf_list s
  have hs : (varOf s).size = (varOf s).data.toList.length := by simp
  simp only [varOK, hs, h, varL, Bool.and_eq_true, decide_eq_true_eq, List.all_eq_true, List.length_cons, List.length_map, List.length_take]
  refine ⟨⟨by decide, fun c hc => ?_⟩, by omega⟩
  obtain ⟨b, _, rfl⟩ := List.mem_map.1 hc
  simp [nameC_inner b]
theorem rel_right (s : ByteArray) : relOK (relOf s) = true := by
  unfold relOf
  split
  · decide +kernel
  · rename_i h
    have h := not_or.1 h
    simp only [relOK, nameFit_ok, Bool.true_and, Bool.and_eq_true, decide_eq_true_eq]
    exact ⟨by omega, h.2⟩
theorem val_right (v : GV) : rightT (valOf v) = true ∧ ((valOf v).kind ≠ 3 ∨ arityOf (valOf v).text < 0) := by
  have hf := fit_right v
  unfold valOf
  generalize fit v = x at *
  split
  · rename_i hk
    rcases right_cases hf with ⟨n, rfl, h1, h2⟩ | ⟨t, rfl, h1⟩ | ⟨t, rfl, h1⟩ | ⟨l, rfl, h1, h2, h3⟩ <;> simp [GV.kind] at hk
    obtain ⟨r1, r2, r3⟩ := rel_name (rel_right t)
    exact ⟨by simp [GV.kind, GV.num, GV.text, GV.items, rightT, rightV, rightB, r1], .inr r2⟩
  · rename_i hk
    exact ⟨hf, .inl hk⟩
theorem leaf_right (d : Nat) (t : GT) : termR (d + 1) (leafT t) = true := by
  unfold leafT
  split
  · simp [termR, termB, GT.kind, GT.value, GT.args, GT.name, bareV, nilV, var_right, GV.kind, GV.num, GV.text, GV.items]
  · obtain ⟨h1, h2⟩ := val_right t.value
    simp only [termR, termB, GT.kind, GT.value, GT.args, GT.name]
    simp [h1]
    exact h2
theorem fn_range (n : Nat) : arityOf (fnOf n) = 1 ∨ arityOf (fnOf n) = 2 := by rw [fnOf_arity]; split <;> simp
theorem op_right (n : Nat) : opOK (opOf n) = true := by
  unfold opOf
  split
  · decide
  split <;> decide
theorem term_right : ∀ (d : Nat) (t : GT), termR (d + 1) (termV (d + 1) t) = true
  | d, t => by
    induction d generalizing t with
    | zero => simp only [termV, true_or, if_true]; exact leaf_right 0 t
    | succ d ih =>
      rw [termV]
      split
      · exact leaf_right _ t
      · rename_i hc
        have hc := not_or.1 hc
        split
        · simp [termR, termB, GT.kind, GT.value, GT.args, GT.name, bareV, nilV, var_right, GV.kind, GV.num, GV.text, GV.items]
        split
        · obtain ⟨h1, h2⟩ := val_right t.value
          simp only [termR, termB, GT.kind, GT.value, GT.args, GT.name]
          simp [h1]
          exact h2
        split
        · generalize pickN (IntKind.i64.wrap ((t.name.size : Int) + t.kind)) 6 = q
          have hr := fn_range q
          have hlen : ((t.args.take (arityOf (fnOf q)).toNat).map (termV (d + 1))).length = (arityOf (fnOf q)).toNat := by simp; omega
          have hall : ((t.args.take (arityOf (fnOf q)).toNat).map (termV (d + 1))).all (termR (d + 1)) = true := by
            rw [List.all_eq_true]; intro x hx
            obtain ⟨y, _, rfl⟩ := List.mem_map.1 hx; exact ih y
          rw [termR]
          simp only [termB, GT.kind, GT.value, GT.args, GT.name, hlen, hall]
          simp [bareV, nilV, GV.kind, GV.num, GV.text, GV.items]
          omega
        · have hlen : ((t.args.take 2).map (termV (d + 1))).length = 2 := by simp; omega
          have hall : ((t.args.take 2).map (termV (d + 1))).all (termR (d + 1)) = true := by
            rw [List.all_eq_true]; intro x hx
            obtain ⟨y, _, rfl⟩ := List.mem_map.1 hx; exact ih y
          rw [termR]
          simp only [termB, GT.kind, GT.value, GT.args, GT.name, hlen, hall, op_right]
          simp [bareV, nilV, GV.kind, GV.num, GV.text, GV.items]
/-! ### Are terms the same? -/
mutual
def sameT : GT → GT → Bool
  | .mk k n v l, .mk k2 n2 v2 l2 => decide (k = k2) && decide (n = n2) && decide (v = v2) && sameTs l l2
def sameTs : List GT → List GT → Bool
  | [], [] => true
  | x :: l, y :: m => sameT x y && sameTs l m
  | _, _ => false
end
mutual
theorem sameT_iff : ∀ a b : GT, sameT a b = true ↔ a = b
  | .mk k n v l, .mk k2 n2 v2 l2 => by
    have := sameTs_iff l l2
    simp only [sameT, Bool.and_eq_true, decide_eq_true_eq, this, GT.mk.injEq, and_assoc]
theorem sameTs_iff : ∀ a b : List GT, sameTs a b = true ↔ a = b
  | [], [] => by simp [sameTs]
  | [], _ :: _ => by simp [sameTs]
  | _ :: _, [] => by simp [sameTs]
  | x :: l, y :: m => by
    have h1 := sameT_iff x y
    have h2 := sameTs_iff l m
    simp only [sameTs, Bool.and_eq_true, h1, h2, List.cons.injEq]
end
instance : DecidableEq GT := fun a b => decidable_of_iff _ (sameT_iff a b)
theorem gt_ext (a b : GT) : a = b ↔ a.kind = b.kind ∧ a.name = b.name ∧ a.value = b.value ∧ a.args = b.args := by
  cases a; cases b; simp [GT.kind, GT.name, GT.value, GT.args]
end Go.Proofs.YtpkfkipbemdhmaaGreatDoor
end
section
set_option linter.unusedVariables false
set_option linter.unusedSimpArgs false
set_option linter.unnecessarySimpa false
namespace Go.Proofs.YtpkfkipbemdhmaaGreatDoor
open Go.Mach

theorem sameTs_ok : ∀ (n : Nat) (a b : List GT), GT.sizes a ≤ n → n ≤ 100000000000 → pureT T c17 [.isl (GT.encs a) false, .isl (GT.encs b) false] = some (.bool (decide (a = b))) := by
  intro n
  induction n using Nat.strongRecOn with
  | ind n ih =>
    intro a b hs hn
    have hlen := GT.len_sizes a
    apply pure_enter (by simp [c17])
    by_cases hl : a.length = b.length
    · simp [c17, hl]
      refine W_for T 0 73 a.length (fun i f σ => f 0 = .isl (GT.encs a) false ∧ f 1 = .isl (GT.encs b) false ∧ f 5 = .int .i64 (i : Int) ∧ ∀ j, (h1 : j < a.length) → (h2 : j < b.length) → j < i → a[j] = b[j]) ?_ _ _ ?_
      · rintro i f σ hi ⟨h0, h1, h5, hall⟩
        by_cases hlt : i < a.length
        · have hlt2 : i < b.length := by omega
          have ha := List.getElem_mem hlt
          have hsz := (GT.sizes_mem ha).1
          have hal := GT.args_le a[i]
          have hvl := GT.value_le a[i]
          have hS := callSame a[i].value b[i].value (by omega)
          have hR : ∀ bs σ, callT T 17 [.isl (GT.encs a[i].args) false, .isl (GT.encs b[i].args) false] bs σ = some (.bool (sym (decide (a[i].args = b[i].args))), σ) := fun bs σ => call_clean rfl rfl rfl (by simp) (ih (GT.sizes a[i].args) (by omega) _ _ (Nat.le_refl _) (by omega))
          have hw : IntKind.i64.wrap ((i : Int) + 1) = (i : Int) + 1 := wr64 (by omega) (by omega)
          have hno : ¬ (a[i] = b[i]) → ¬ (a = b) := fun h e => h (by subst e; rfl)
          have hyes : a[i] = b[i] → ∀ j, (h1 : j < a.length) → (h2 : j < b.length) → j < i + 1 → a[j] = b[j] := fun h j h1 h2 hj => by
            by_cases e : j = i
            · subst e; exact h
            · exact hall j h1 h2 (by omega)
          simp only [gt_ext a[i] b[i]] at hno hyes
          simp [h0, h1, h5, hlt, hlt2, hS, hR, hw, ← GV.enc_eq, enc_mk]
          repeat' (first | apply And.intro | intro _)
          all_goals first | exact hno (by grind) | exact hyes (by grind) _ (by assumption) (by assumption) (by assumption) | omega | grind
        · have he : i = a.length := by omega
          subst he
          have : a = b := List.ext_getElem hl fun j h1 h2 => hall j h1 h2 h1
          simp [h0, h1, h5, this]
      · simp
    · have : ¬ (a = b) := fun e => hl (by rw [e])
      have h2 : ¬ ((a.length : Int) = (b.length : Int)) := by omega
      simp [c17, h2, this]
theorem callSameTs (a b : List GT) (hs : GT.sizes a ≤ 100000000000) (bs : Nat) (σ : Heap) : callT T 17 [.isl (GT.encs a) false, .isl (GT.encs b) false] bs σ = some (.bool (sym (decide (a = b))), σ) := call_clean rfl rfl rfl (by simp) (sameTs_ok _ a b (Nat.le_refl _) hs)
instance : DecidableEq GL := fun a b => decidable_of_iff (a.kind = b.kind ∧ a.name = b.name ∧ a.args = b.args) ⟨fun h => gl_ext h.1 h.2.1 h.2.2, fun h => by rw [h]; simp⟩
theorem gl_iff (a b : GL) : a = b ↔ a.kind = b.kind ∧ a.name = b.name ∧ a.args = b.args := ⟨fun h => by rw [h]; simp, fun h => gl_ext h.1 h.2.1 h.2.2⟩
theorem sameLs_ok (a b : List GL) (hla : a.length ≤ 1000000) (hs : ∀ x ∈ a, x.size ≤ 100000000000) : pureT T c19 [.isl (a.map GL.enc) false, .isl (b.map GL.enc) false] = some (.bool (decide (a = b))) := by
  apply pure_enter (by simp [c19])
  by_cases hl : a.length = b.length
  · simp [c19, hl]
    refine W_for T 0 55 a.length (fun i f σ => f 0 = .isl (a.map GL.enc) false ∧ f 1 = .isl (b.map GL.enc) false ∧ f 5 = .int .i64 (i : Int) ∧ ∀ j, (h1 : j < a.length) → (h2 : j < b.length) → j < i → a[j] = b[j]) ?_ _ _ ?_
    · rintro i f σ hi ⟨h0, h1, h5, hall⟩
      by_cases hlt : i < a.length
      · have hlt2 : i < b.length := by omega
        have e1 : a[i]? = some a[i] := List.getElem?_eq_getElem hlt
        have e2 : b[i]? = some b[i] := List.getElem?_eq_getElem hlt2
        have ha := List.getElem_mem hlt
        have hsz := hs _ ha
        have hal := a[i].args_le
        have hR := callSameTs a[i].args b[i].args (by omega)
        have hw : IntKind.i64.wrap ((i : Int) + 1) = (i : Int) + 1 := wr64 (by omega) (by omega)
        have hno : ¬ (a[i] = b[i]) → ¬ (a = b) := fun h e => h (by subst e; rfl)
        have hyes : a[i] = b[i] → ∀ j, (h1 : j < a.length) → (h2 : j < b.length) → j < i + 1 → a[j] = b[j] := fun h j h1 h2 hj => by
          by_cases e : j = i
          · subst e; exact h
          · exact hall j h1 h2 (by omega)
        simp only [gl_iff a[i] b[i]] at hno hyes
        simp [h0, h1, h5, hlt, hlt2, hR, hw, e1, e2]
        repeat' (first | apply And.intro | intro _)
        all_goals first | exact hno (by grind) | exact hyes (by grind) _ (by assumption) (by assumption) (by assumption) | omega | grind
      · have he : i = a.length := by omega
        subst he
        have : a = b := List.ext_getElem hl fun j h1 h2 => hall j h1 h2 h1
        simp [h0, h1, h5, this]
    · simp
  · have : ¬ (a = b) := fun e => hl (by rw [e])
    have h2 : ¬ ((a.length : Int) = (b.length : Int)) := by omega
    simp [c19, h2, this]
theorem callSameLs (a b : List GL) (hla : a.length ≤ 1000000) (hs : ∀ x ∈ a, x.size ≤ 100000000000) (bs : Nat) (σ : Heap) : callT T 19 [.isl (a.map GL.enc) false, .isl (b.map GL.enc) false] bs σ = some (.bool (sym (decide (a = b))), σ) := call_clean rfl rfl rfl (by simp) (sameLs_ok a b hla hs)
/-! ### Literals of raw ones -/
def termI (l : List GT) (i : Nat) : GT := match l[i]? with
  | some t => termV 8 t
  | none => .mk 1 ⟨#[88]⟩ nilV []
theorem lawterm_ok (l : List GT) (i : Nat) (hl : GT.oks l) (hs : GT.sizes l ≤ 1000000000) (hi : i ≤ 100) : pureT T c50 [.isl (GT.encs l) false, .int .i64 (i : Int)] = some (termI l i).enc := by
  apply pure_enter (by simp [c50])
  by_cases hlt : i < l.length
  · have hm := List.getElem_mem hlt
    have hc : ∀ bs σ, callT T 14 [l[i].enc, .int .i64 8] bs σ = some ((termV 8 l[i]).enc, σ) := callTerm 8 l[i] (by omega) ((GT.oks_iff l).1 hl _ hm) (by have := (GT.sizes_mem hm).1; omega)
    have e : termI l i = termV 8 l[i] := by simp [termI, List.getElem?_eq_getElem hlt]
    rw [e]
    simp [c50, hlt, hc, ← GT.enc_eq, setRun]
  · have e : termI l i = .mk 1 ⟨#[88]⟩ nilV [] := by simp [termI, List.getElem?_eq_none (Nat.le_of_not_lt hlt)]
    rw [e]
    simp [c50, hlt, setRun, GT.enc, nilV]
theorem callLawterm0 (l : List GT) (hl : GT.oks l) (hs : GT.sizes l ≤ 1000000000) (bs : Nat) (σ : Heap) : callT T 50 [.isl (GT.encs l) false, .int .i64 0] bs σ = some ((termI l 0).enc, σ) := call_clean rfl rfl rfl (by simp) (lawterm_ok l 0 hl hs (by omega))
theorem callLawterm1 (l : List GT) (hl : GT.oks l) (hs : GT.sizes l ≤ 1000000000) (bs : Nat) (σ : Heap) : callT T 50 [.isl (GT.encs l) false, .int .i64 1] bs σ = some ((termI l 1).enc, σ) := call_clean rfl rfl rfl (by simp) (lawterm_ok l 1 hl hs (by omega))
end Go.Proofs.YtpkfkipbemdhmaaGreatDoor
end
section
set_option linter.unusedVariables false
set_option linter.unusedSimpArgs false
set_option linter.unnecessarySimpa false
namespace Go.Proofs.YtpkfkipbemdhmaaGreatDoor
open Go.Mach

/-- Behind the one element of a slice of its own. -/
theorem app_two {σ : Heap} {k j sz fk fj bytes : Nat} {ej : Bool} {cs ds : List AV} (hk : σ[k]? = some (.cells cs fk false)) (hj : σ[j]? = some (.cells ds fj ej)) (hc : cs.length = sz) (hd : ds.length = sz) (h0 : 0 < sz) (hb : bytes ≤ 1000) :
    appendA σ sz true bytes true (.sl k 0 1 sz true) (.sl j 0 1 sz true) = some (.sl σ.length 0 2 sz true, σ ++ [.cells (cs ++ ds.map AV.nrm) 0 true]) := by
  have e1 := elems_ag1 hk hc
  have e2 := elemsN_ag1 hj hd
  have hne : ¬ (sz = 0 ∨ (1 + 1) * bytes > 70368744177664 ∨ 1 + 1 > 70368744177664) := by omega
  simp only [appendA, e1, e2, Option.bind_some, isSl, List.length_singleton, if_neg hne, hk]
  simp [flat, AV.cells, hc, hd]
/-- The first argument of an atom, of raw ones. -/
def firstOf (l : List GT) : GT := match l with
  | t :: _ => if pickN t.kind 4 = 1 then .mk 2 ⟨#[]⟩ (.mk 3 0 (relOf t.name) []) [] else .mk 1 ⟨#[83]⟩ nilV []
  | [] => .mk 1 ⟨#[83]⟩ nilV []
def argsOf (l : List GT) : List GT := firstOf l :: ((l.drop 1).take 7).map (termV 8)
theorem args_right (l : List GT) : argsB (argsOf l) = true := by
  have hf : termR 8 (firstOf l) = true ∧ headOK (argsOf l) = true := by
    unfold argsOf headOK firstOf
    have hv : termR 8 (.mk 1 ⟨#[83]⟩ nilV []) = true := by decide +kernel
    cases l with
    | nil => exact ⟨hv, by simp [GT.kind]⟩
    | cons t l =>
      simp only
      split
      · obtain ⟨r1, r2, r3⟩ := rel_name (rel_right t.name)
        refine ⟨?_, by simp [GT.kind, GT.value, GV.kind]⟩
        simp [termR, termB, GT.kind, GT.value, GT.args, GT.name, GV.kind, GV.num, GV.text, GV.items, rightT, rightV, rightB, r1, r2]
      · exact ⟨hv, by simp [GT.kind]⟩
  have hall : (argsOf l).all (termR 8) = true := by
    rw [List.all_eq_true]; intro x hx
    rcases List.mem_cons.1 hx with rfl | hx
    · exact hf.1
    · obtain ⟨y, _, rfl⟩ := List.mem_map.1 hx; exact term_right 7 y
  have hlen : 1 ≤ (argsOf l).length ∧ (argsOf l).length ≤ 8 := by simp [argsOf]; omega
  simp only [argsB, hall, hf.2, Bool.and_true, decide_eq_true_eq]; exact hlen
/-- What one has of them so far. -/
theorem args_take (l : List GT) (j : Nat) (h : j + 1 < l.length) : ((l.drop 1).take (j + 1)).map (termV 8) = ((l.drop 1).take j).map (termV 8) ++ [termV 8 l[j + 1]] := by
  have e : (l.drop 1)[j]? = some l[j + 1] := by rw [List.getElem?_drop, show 1 + j = j + 1 by omega, List.getElem?_eq_getElem h]
  rw [List.take_add_one, e, List.map_append]; rfl
/-- Cells of terms, but for what has no elements (told so or so). -/
def cur (l : List GT) (j : Nat) : List GT := firstOf l :: ((l.drop 1).take j).map (termV 8)
theorem cur_snoc (l : List GT) (j : Nat) (h : j + 1 < l.length) : cur l (j + 1) = cur l j ++ [termV 8 l[j + 1]] := by simp only [cur, args_take l j h, List.cons_append]
theorem cur_len (l : List GT) (j : Nat) (h : j ≤ l.length - 1) : (cur l j).length = j + 1 := by simp [cur]; omega
def rawFirst (l : List GT) : List AV := match l with
  | t :: _ => if pickN t.kind 4 = 1 then [.int .i64 2, .str ⟨#[]⟩, .int .i64 3, .int .i64 0, .str (relOf t.name), .isl [] true, .isl [] true] else [.int .i64 1, .str ⟨#[83]⟩, .int .i64 0, .int .i64 0, .str ⟨#[]⟩, .isl [] true, .isl [] true]
  | [] => [.int .i64 1, .str ⟨#[83]⟩, .int .i64 0, .int .i64 0, .str ⟨#[]⟩, .isl [] true, .isl [] true]
theorem rawFirst_nrm (l : List GT) : (rawFirst l).map AV.nrm = (firstOf l).enc.cells := by
  unfold rawFirst firstOf
  cases l with
  | nil => rfl
  | cons t l =>
    simp only
    split <;> simp [AV.nrm, GT.enc_cells, GT.kind, GT.name, GT.value, GT.args, GV.kind, GV.num, GV.text, GV.items, nilV]
theorem rawFirst_len (l : List GT) : (rawFirst l).length = 7 := by
  unfold rawFirst
  cases l with
  | nil => rfl
  | cons t l => simp only; split <;> rfl
/-- What lies in memory for so many of them. -/
def rawCur (l : List GT) (j : Nat) : List AV := rawFirst l ++ flat (GT.encs (((l.drop 1).take j).map (termV 8)))
theorem encsT_agg7 (l : List GT) : ∀ e ∈ GT.encs l, ∃ cs, e = .agg cs ∧ cs.length = 7 := fun e he => by
  rw [GT.encs_map] at he
  obtain ⟨v, _, rfl⟩ := List.mem_map.1 he
  exact ⟨_, v.enc_eq, rfl⟩
theorem close_terms {σ : Heap} {k fz : Nat} {ext : Bool} {cs : List AV} {L : List GT} (h : σ[k]? = some (.cells cs fz ext)) (hn : cs.map AV.nrm = flat (GT.encs L)) (hc : cs.all AV.clo1 = true) (hne : L ≠ []) :
    close1 σ (.sl k 0 L.length 7 true) = some (.isl (GT.encs L) false, frz σ k (0 + L.length * 7)) := by
  have hl0 : L.length ≠ 0 := fun e => hne (List.length_eq_zero_iff.1 e)
  have hlen : cs.length = L.length * 7 := by
    have := congrArg List.length hn
    rw [List.length_map, Go.Mach.flat_len (encsT_len L), GT.encs_length] at this; exact this
  refine close1_of0 ?_
  unfold close0
  simp only [if_neg hl0, h, window_full hlen, Option.bind_some, hc, if_true, hn]
  have hch := flat_chunk (encsT_agg7 L)
  rw [GT.encs_length] at hch
  rw [hch]; rfl
theorem flat_cons (x : GT) (l : List GT) : flat (GT.encs (x :: l)) = x.enc.cells ++ flat (GT.encs l) := by simp [flat, GT.encs]
theorem flat_nrm (l : List GT) : (flat (GT.encs l)).map AV.nrm = flat (GT.encs l) ∧ (flat (GT.encs l)).all AV.clo1 = true := by
  induction l with
  | nil => exact ⟨rfl, rfl⟩
  | cons x l ih =>
    rw [flat_cons]
    constructor
    · rw [List.map_append, ih.1]; simp [AV.nrm]
    · rw [List.all_append, ih.2]; simp [AV.clo1]
theorem rawFirst_clo (l : List GT) : (rawFirst l).all AV.clo1 = true := by
  unfold rawFirst
  cases l with
  | nil => rfl
  | cons t l => simp only; split <;> rfl
theorem rawCur_nrm (l : List GT) (j : Nat) : (rawCur l j).map AV.nrm = flat (GT.encs (cur l j)) ∧ (rawCur l j).all AV.clo1 = true := by
  obtain ⟨h1, h2⟩ := flat_nrm (((l.drop 1).take j).map (termV 8))
  constructor
  · rw [rawCur, List.map_append, rawFirst_nrm, h1, cur, flat_cons]
  · rw [rawCur, List.all_append, rawFirst_clo, h2]; rfl
/-- So many elements, as they are read back. -/
def rawEls (l : List GT) (j : Nat) : List AV := .agg (rawFirst l) :: GT.encs (((l.drop 1).take j).map (termV 8))
theorem rawEls_flat (l : List GT) (j : Nat) : flat (rawEls l j) = rawCur l j := by simp [rawEls, rawCur, flat, AV.cells]
theorem rawEls_agg (l : List GT) (j : Nat) : ∀ e ∈ rawEls l j, ∃ cs, e = .agg cs ∧ cs.length = 7 := fun e he => by
  rcases List.mem_cons.1 he with rfl | he
  · exact ⟨_, rfl, rawFirst_len l⟩
  · exact encsT_agg7 _ e he
theorem rawEls_len (l : List GT) (j : Nat) (h : j ≤ l.length - 1) : (rawEls l j).length = j + 1 := by simp [rawEls]; omega
theorem lawargs_ok (l : List GT) (hl : GT.oks l) (hs : GT.sizes l ≤ 1000000000) : pureT T c31 [.isl (GT.encs l) false] = some (.isl (GT.encs (argsOf l)) false) := by
  have hlen := GT.len_sizes l
  apply pure_enter (by simp [c31])
  cases l with
  | nil =>
    simp [c31]
    refine W_for T 0 46 0 (fun i f σ => f 0 = .isl [] false ∧ f 4 = .int .i64 1 ∧ f 3 = .sl 0 0 1 7 true ∧ σ[0]? = some (.cells (rawFirst []) 0 false)) ?_ _ _ ?_
    · rintro i f σ hi ⟨g0, g4, g3, hk⟩
      simp [g0, g4, g3]
      have h := rawCur_nrm [] 0
      have e : rawCur [] 0 = rawFirst [] := by simp [rawCur, flat]
      rw [e] at h
      exact ⟨_, close_terms (L := argsOf []) hk h.1 h.2 (by simp [argsOf])⟩
    · simp [rawFirst]
  | cons t l =>
    have ht := (GT.oks_iff (t :: l)).1 hl t (by simp)
    have hp := pickQ4 t.kind (by obtain ⟨k, n, v, ar⟩ := t; simp only [GT.ok] at ht; exact ht.1)
    have hr := lawRel t.name (by have := GT.name_le t; simp only [GT.sizes] at hs; omega)
    have round : ∀ (σ : Heap) (L : List GT) (j : Nat) (x : AV), L = t :: l → j + 1 < L.length → σ ≠ [] →
        ((j = 0 ∧ x = .sl 0 0 1 7 true ∧ σ[0]? = some (.cells (rawFirst L) 0 false)) ∨ (0 < j ∧ ∃ k, x = .sl k 0 (j + 1) 7 true ∧ σ[k]? = some (.cells (rawCur L j) 0 true))) →
        ∀ y : GT, y = termV 8 (L.getD (j + 1) default) → ∃ σ2, appendA (σ ++ [.cells y.enc.cells 0 false]) 7 true 104 true x (.sl σ.length 0 1 7 true) = some (.sl (σ.length + 1) 0 (j + 2) 7 true, σ2) ∧ σ2[σ.length + 1]? = some (.cells (rawCur L (j + 1)) 0 true) := by
      intro σ L j x hLe hj hne h y hy
      have hy2 : rawCur L (j + 1) = rawCur L j ++ y.enc.cells := by
        have e : L.getD (j + 1) default = L[j + 1] := by simp [List.getD, List.getElem?_eq_getElem hj]
        rw [e] at hy
        simp only [rawCur, args_take L j hj, ← hy, List.append_assoc]
        congr 1
        simp [flat, GT.encs_map]
      have hyn : y.enc.cells.map AV.nrm = y.enc.cells := by simp [AV.nrm]
      have hlast : (σ ++ [AObj.cells y.enc.cells 0 false])[σ.length]? = some (.cells y.enc.cells 0 false) := by simp
      rcases h with ⟨rfl, rfl, h0⟩ | ⟨hj0, k, rfl, hk⟩
      · have h00 : (σ ++ [AObj.cells y.enc.cells 0 false])[0]? = some (.cells (rawFirst L) 0 false) := by rw [List.getElem?_append_left (List.length_pos_iff.2 hne)]; exact h0
        have := app_two (bytes := 104) h00 hlast (rawFirst_len L) (by simp) (by omega) (by omega)
        rw [this]
        refine ⟨_, by simp; rfl, ?_⟩
        have e : rawCur L 0 = rawFirst L := by simp [rawCur, flat]
        rw [hy2, e]; simp
      · have hkl : k < σ.length := (List.getElem?_eq_some_iff.1 hk).1
        have hrl := rawEls_len L j (by omega)
        have hfl : (flat (rawEls L j)).length = (rawEls L j).length * 7 := Go.Mach.flat_len fun e he => by obtain ⟨cs, rfl, h⟩ := rawEls_agg L j e he; exact h
        have := app_mt_sl (σ := σ ++ [.cells y.enc.cells 0 false]) (id := σ.length) (k := k) (fz := 0) (ext := false) (cs := y.enc.cells) (es := rawEls L j) (sz := 7) (bytes := 104) hlast (by simp) (by omega) (by omega)
          (by rw [List.getElem?_append_left hkl, rawEls_flat]; exact hk) hfl (flat_chunk (rawEls_agg L j)) (by rw [hrl]; subst hLe; simp only [List.length_cons] at hj ⊢; have := GT.len_sizes (t :: l); simp only [List.length_cons] at this; omega)
        rw [hrl] at this
        rw [this, rawEls_flat]
        refine ⟨_, by simp; rfl, ?_⟩
        rw [List.getElem?_append_right (by simp)]
        rw [hy2]; simp
    have hlc : l.length + 1 ≤ 1000000000 := by simp only [List.length_cons] at hlen; omega
    have h8 := fun (x : GT) (hx : x ∈ t :: l) (bs : Nat) (σ : Heap) => (callTerm 8 x (by omega) ((GT.oks_iff (t :: l)).1 hl x hx) (by have := (GT.sizes_mem hx).1; omega) bs σ : callT T 14 [x.enc, .int .i64 8] bs σ = _)
    have hk' : (((pickN t.kind 4 : Nat) : Int) = 1) = (pickN t.kind 4 = 1) := propext ⟨fun h => by omega, fun h => by omega⟩
    by_cases hk : pickN t.kind 4 = 1
    all_goals
      simp [c31, hp, hr, hk', hk, GT.encs]
      refine W_for T 0 46 (min l.length 7) (fun j f σ => f 0 = .isl (t.enc :: GT.encs l) false ∧ f 4 = .int .i64 ((j : Int) + 1) ∧ σ ≠ [] ∧
        ((j = 0 ∧ f 3 = .sl 0 0 1 7 true ∧ σ[0]? = some (.cells (rawFirst (t :: l)) 0 false)) ∨ (0 < j ∧ ∃ k, f 3 = .sl k 0 (j + 1) 7 true ∧ σ[k]? = some (.cells (rawCur (t :: l) j) 0 true)))) ?_ _ _ ?_
    rotate_left 1
    · simp [rawFirst, hk]
    rotate_left 1
    · simp [rawFirst, hk]
    all_goals
      rintro j f σ hj ⟨g0, g4, hne, hst⟩
      by_cases hlt : j < min l.length 7
      · have hj1 : j + 1 < (t :: l).length := by simp only [List.length_cons]; omega
        obtain ⟨σ2, ha, hb⟩ := round σ (t :: l) j (f 3) rfl hj1 hne hst _ rfl
        have he : (t :: l).getD (j + 1) default = l[j] := by simp [List.getD, List.getElem?_eq_getElem (show j < l.length by omega)]
        rw [he] at ha
        have hT : ∀ bs σ, callT T 14 [l[j].enc, .int .i64 8] bs σ = some ((termV 8 l[j]).enc, σ) := h8 l[j] (by simp)
        have hw : IntKind.i64.wrap ((j : Int) + 1 + 1) = (j : Int) + 1 + 1 := wr64 (by omega) (by omega)
        have c1 : j < l.length := by omega
        have c2 : (j : Int) + 1 < 8 := by omega
        have c3 : ((j : Int) + 1).toNat = j + 1 := by omega
        have c4 : 0 ≤ (j : Int) + 1 := by omega
        obtain ⟨x3, hx3⟩ : ∃ x, f 3 = x := ⟨_, rfl⟩
        rw [hx3] at ha
        simp at ha
        simp [g0, g4, hx3, c1, c2, c3, c4, hT, hw, ha, ← GT.enc_eq]
        exact ⟨hlt, by rintro rfl; simp at hb, hb⟩
      · have hj2 : j = min l.length 7 := by omega
        have c1 : ¬ (j < l.length ∧ (j : Int) + 1 < 8) := by omega
        have hfin : ∃ k n fz ext cs, f 3 = .sl k 0 n 7 true ∧ σ[k]? = some (.cells cs fz ext) ∧ n = (argsOf (t :: l)).length ∧ cs.map AV.nrm = flat (GT.encs (argsOf (t :: l))) ∧ cs.all AV.clo1 = true := by
          have hcur : cur (t :: l) j = argsOf (t :: l) := by
            unfold cur argsOf
            have : List.take j (List.drop 1 (t :: l)) = List.take 7 (List.drop 1 (t :: l)) := by
              simp only [List.drop_succ_cons, List.drop_zero]
              rw [hj2]; simp [List.take_eq_take_iff, Nat.min_comm]
            rw [this]
          have hcl : (argsOf (t :: l)).length = j + 1 := by rw [← hcur]; exact cur_len _ _ (by simp; omega)
          have hn := rawCur_nrm (t :: l) j
          rw [hcur] at hn
          rcases hst with ⟨rfl, h3, hk⟩ | ⟨_, k, h3, hk⟩
          · have e : rawCur (t :: l) 0 = rawFirst (t :: l) := by simp [rawCur, flat]
            rw [e] at hn
            exact ⟨_, _, _, _, _, h3, hk, by rw [hcl], hn.1, hn.2⟩
          · exact ⟨_, _, _, _, _, h3, hk, by rw [hcl], hn.1, hn.2⟩
        obtain ⟨k, n, fz, ext, cs, h3, hkk, hn, hn1, hn2⟩ := hfin
        have hcls := close_terms hkk hn1 hn2 (by simp [argsOf])
        rw [← hn] at hcls
        by_cases d1 : j < l.length
        · have d2 : ¬ ((j : Int) + 1 < 8) := by omega
          simp [g0, g4, d1, d2, h3, hcls]
        · simp [g0, g4, d1, h3, hcls]
theorem callLawArgs (l : List GT) (hl : GT.oks l) (hs : GT.sizes l ≤ 1000000000) (bs : Nat) (σ : Heap) : callT T 31 [.isl (GT.encs l) false] bs σ = some (.isl (GT.encs (argsOf l)) false, σ) := call_clean rfl rfl rfl (by simp) (lawargs_ok l hl hs)
end Go.Proofs.YtpkfkipbemdhmaaGreatDoor
end
section
set_option linter.unusedVariables false
set_option linter.unusedSimpArgs false
set_option linter.unnecessarySimpa false
namespace Go.Proofs.YtpkfkipbemdhmaaGreatDoor
open Go.Mach

set_option maxRecDepth 100000 in
theorem awake4_eval : evalFn T 200 9 [] 0 [] = some (.bool true, []) := by kernel_rfl
theorem awake4_ok : pureT T c9 [] = some (.bool true) := pureT_of_call rfl rfl rfl rfl (callT_of_eval awake4_eval)
theorem callAwake4 (bs : Nat) (σ : Heap) : callT T 9 [] bs σ = some (.bool true, σ) := call_clean rfl rfl rfl rfl awake4_ok
end Go.Proofs.YtpkfkipbemdhmaaGreatDoor
end
section
set_option linter.unusedVariables false
set_option linter.unusedSimpArgs false
set_option linter.unnecessarySimpa false
namespace Go.Proofs.YtpkfkipbemdhmaaGreatDoor
open Go.Mach

def testOf (n : Nat) : ByteArray := if n = 0 then ⟨#[61, 61]⟩ else if n = 1 then ⟨#[33, 61]⟩ else if n = 2 then ⟨#[60]⟩ else if n = 3 then ⟨#[60, 61]⟩ else if n = 4 then ⟨#[62]⟩ else ⟨#[62, 61]⟩
def litOf (x : GL) : GL :=
  if pickN x.kind 4 = 0 then ⟨1, relOf x.name, argsOf x.args⟩
  else if pickN x.kind 4 = 1 then ⟨2, relOf x.name, argsOf x.args⟩
  else if pickN x.kind 4 = 2 then ⟨3, testOf (pickN x.name.size 6), [termI x.args 0, termI x.args 1]⟩
  else ⟨4, varOf x.name, [termI x.args 0]⟩
theorem termI_right (l : List GT) (i : Nat) : termR 8 (termI l i) = true := by
  unfold termI
  split
  · exact term_right 7 _
  · decide +kernel
theorem test_right (n : Nat) : tOK (testOf n) = true := by
  unfold testOf
  repeat' split
  all_goals decide
theorem lit_right (x : GL) : litB (litOf x) = true := by
  unfold litOf
  split
  · simp [litB, rel_right, args_right]
  split
  · simp [litB, rel_right, args_right]
  split
  · simp [litB, test_right, termI_right]
  · simp [litB, var_right, termI_right]
theorem testOf_at {p : Nat} (h : p < 6) : window [AV.str ⟨#[61, 61]⟩, .str ⟨#[33, 61]⟩, .str ⟨#[60]⟩, .str ⟨#[60, 61]⟩, .str ⟨#[62]⟩, .str ⟨#[62, 61]⟩] p 1 = some [.str (testOf p)] := by
  have : p = 0 ∨ p = 1 ∨ p = 2 ∨ p = 3 ∨ p = 4 ∨ p = 5 := by omega
  rcases this with rfl | rfl | rfl | rfl | rfl | rfl <;> rfl
theorem lawlit_ok (x : GL) (ho : x.ok) (hs : x.size ≤ 1000000000) : pureT T c15 [x.enc] = some (litOf x).enc := by
  have h1 := x.name_le
  have h2 := x.args_le
  obtain ⟨k, n, l⟩ := x
  obtain ⟨hk, hl⟩ := ho
  simp only at h1 h2 hk hl
  have hp := pickQ4 k hk
  have hp6 := pickQ6 (n.size : Int) (by unfold GV.i64ok; omega)
  have hlt6 := pickN_lt (c := (n.size : Int)) (n := 6) (by omega)
  have hwin := testOf_at hlt6
  have hr := lawRel n (by omega)
  have hv := lawVar n (by omega)
  have ha := callLawArgs l hl (by omega)
  have t0 := callLawterm0 l hl (by omega)
  have t1 := callLawterm1 l hl (by omega)
  have hc6 : ((pickN (n.size : Int) 6 : Nat) : Int) < 6 := by omega
  have e0 : (((pickN k 4 : Nat) : Int) = 0) = (pickN k 4 = 0) := propext ⟨fun h => by omega, fun h => by omega⟩
  have e1 : (((pickN k 4 : Nat) : Int) = 1) = (pickN k 4 = 1) := propext ⟨fun h => by omega, fun h => by omega⟩
  have e2 : (((pickN k 4 : Nat) : Int) = 2) = (pickN k 4 = 2) := propext ⟨fun h => by omega, fun h => by omega⟩
  apply pure_enter (by simp [c15])
  unfold litOf
  simp only
  generalize pickN (n.size : Int) 6 = q at *
  by_cases k0 : pickN k 4 = 0
  · simp [c15, GL.enc_eq, hp, hr, ha, k0, setRun]
  by_cases k1 : pickN k 4 = 1
  · simp [c15, GL.enc_eq, hp, hr, ha, k1, setRun]
  by_cases k2 : pickN k 4 = 2
  · have hcl := close1_flat (σ := []) (id := 0) (s := 7) (fz := 0) (ext := false) (es := GT.encs [termI l 0, termI l 1])
    simp [c15, GL.enc_eq, hp, hp6, hlt6, hc6, hwin, t0, t1, k2, setRun]
    rw [show (AV.sl 3 0 2 7 true) = .sl 3 0 [termI l 0, termI l 1].length 7 true from rfl, close_terms (L := [termI l 0, termI l 1]) rfl (by simp [flat, GT.encs, AV.nrm]) (by simp [AV.clo1]) (by simp)]
    exact ⟨_, rfl⟩
  · simp [c15, GL.enc_eq, hp, hv, t0, e0, e1, e2, k0, k1, k2, setRun]
    rw [show (AV.sl 2 0 1 7 true) = .sl 2 0 [termI l 0].length 7 true from rfl, close_terms (L := [termI l 0]) rfl (by simp [flat, GT.encs, AV.nrm]) (by simp [AV.clo1]) (by simp)]
    exact ⟨_, rfl⟩
theorem callLawLit (x : GL) (ho : x.ok) (hs : x.size ≤ 1000000000) (bs : Nat) (σ : Heap) : callT T 15 [x.enc] bs σ = some ((litOf x).enc, σ) := call_clean rfl rfl rfl (by simp) (lawlit_ok x ho hs)
end Go.Proofs.YtpkfkipbemdhmaaGreatDoor
end
section
set_option linter.unusedVariables false
set_option linter.unusedSimpArgs false
set_option linter.unnecessarySimpa false
namespace Go.Proofs.YtpkfkipbemdhmaaGreatDoor
open Go.Mach

/-! ### How great right terms are -/
theorem fn_two {n : ByteArray} {k : Nat} (h : arityOf n = (k : Int)) : k ≤ 2 := by
  unfold arityOf at h
  split at h
  · omega
  split at h <;> omega
theorem sizes_two {l : List GT} {c : Nat} (hl : l.length ≤ 2) (h : ∀ x ∈ l, x.size ≤ c) : GT.sizes l ≤ 2 * c := by
  match l, hl with
  | [], _ => simp [GT.sizes]
  | [x], _ => have := h x (by simp); simp only [GT.sizes]; omega
  | [x, y], _ => have h1 := h x (by simp); have h2 := h y (by simp); simp only [GT.sizes]; omega
theorem op_size {n : ByteArray} (h : opOK n = true) : n.size = 1 := by
  rcases of_decide_eq_true h with rfl | rfl | rfl <;> rfl
theorem termR_size : ∀ (d : Nat) (t : GT), termR d t = true → t.size + 2936040 ≤ 2 ^ d * 2936040
  | 0, t, h => by cases h
  | d + 1, t, h => by
    have h2 : 2 ^ (d + 1) * 2936040 = 2 * (2 ^ d * 2936040) := by rw [Nat.pow_succ]; omega
    have h1 : 1 ≤ 2 ^ d := Nat.one_le_two_pow
    have h3 : 2936040 ≤ 2 ^ d * 2936040 := by omega
    obtain ⟨_, ⟨n, rfl, hn⟩ | ⟨v, rfl, hv, _⟩ | ⟨n, l, rfl, hn, hl⟩ | ⟨n, l, rfl, ho, hl2, hl⟩⟩ := term_cases h
    · have := var_size hn
      have e0 : (ByteArray.mk #[]).size = 0 := rfl
      simp only [GT.size, GV.size, GV.sizes, GT.sizes, e0]; omega
    · have := rightT_size hv
      have e0 : (ByteArray.mk #[]).size = 0 := rfl
      simp only [GT.size, GT.sizes, e0]; omega
    · have hk := fn_two hn
      have hns := ((nameOK_iff n).1 (fn_name (n := n) (by omega))).2.2
      have e0 : (ByteArray.mk #[]).size = 0 := rfl
      have hs := sizes_two (c := 2 ^ d * 2936040 - 2936040) hk fun x hx => by have := termR_size d x (hl x hx); omega
      simp only [GT.size, GV.size, GV.sizes, e0]; omega
    · have hns := op_size ho
      have e0 : (ByteArray.mk #[]).size = 0 := rfl
      have hs := sizes_two (c := 2 ^ d * 2936040 - 2936040) (Nat.le_of_eq hl2) fun x hx => by have := termR_size d x (hl x hx); omega
      simp only [GT.size, GV.size, GV.sizes, e0]; omega
theorem term8_size {t : GT} (h : termR 8 t = true) : t.size ≤ 748690200 := by have := termR_size 8 t h; omega
theorem sizes_n {l : List GT} {c : Nat} (h : ∀ x ∈ l, x.size ≤ c) : GT.sizes l ≤ l.length * c := by
  induction l with
  | nil => simp [GT.sizes]
  | cons x l ih =>
    have h1 := h x (by simp)
    have h2 := ih fun y hy => h y (by simp [hy])
    simp only [GT.sizes, List.length_cons, Nat.add_mul]; omega
theorem litB_size {x : GL} (h : litB x = true) : x.size ≤ 6000000000 := by
  have hsz : x.size = x.name.size + GT.sizes x.args + 4 := by simp only [GL.size, GL.enc, bulkA, bulkAs, GT.bulk_encs]; omega
  rw [hsz]
  rcases lit_cases h with ⟨hk, h1, h2⟩ | ⟨hk, h1, y, z, e, hy, hz⟩ | ⟨hk, h1, y, e, hy⟩
  · have hn := rel_size h1
    have h8 : x.args.length ≤ 8 := by simp only [argsB, Bool.and_eq_true, decide_eq_true_eq] at h2; exact h2.1.1.2
    have := sizes_n (l := x.args) (c := 748690200) fun y hy => term8_size (args_all h2 y hy)
    have h9 : x.args.length * 748690200 ≤ 8 * 748690200 := Nat.mul_le_mul_right _ h8
    omega
  · have hn := test_size h1
    have h2 := term8_size hy
    have h3 := term8_size hz
    rw [e]; simp only [GT.sizes]; omega
  · have hn := var_size h1
    have h2 := term8_size hy
    rw [e]; simp only [GT.sizes]; omega
/-! ### PrinterTerms -/
theorem frz_get {σ : Heap} {k n j : Nat} (h : j ≠ k) : (frz σ k n)[j]? = σ[j]? := by
  unfold frz
  split
  · rw [List.getElem?_set, if_neg (Ne.symm h)]
  · rfl
theorem same1T {x y : GT} (hs : x.size ≤ 10000000000) {σ : Heap} {k j : Nat} (hkj : j ≠ k) (hk : σ[k]? = some (.cells x.enc.cells 0 false)) (hj : σ[j]? = some (.cells y.enc.cells 0 false)) (bs : Nat) :
    callT T 17 [.sl k 0 1 7 true, .sl j 0 1 7 true] bs σ = some (.bool (sym (decide (x = y))), σ) := by
  have h := sameTs_ok _ [x] [y] (Nat.le_refl _) (by simp only [GT.sizes]; omega)
  have e : decide ([x] = [y]) = decide (x = y) := by simp
  rw [e] at h
  have f1 : flat (GT.encs [x]) = x.enc.cells := by simp [flat, GT.encs]
  have f2 : flat (GT.encs [y]) = y.enc.cells := by simp [flat, GT.encs]
  have c1 := close_terms (σ := σ) (k := k) (L := [x]) hk (by rw [f1]; simp [AV.nrm]) (by simp [AV.clo1]) (by simp)
  have c2 := close_terms (σ := frz σ k (0 + [x].length * 7)) (k := j) (L := [y]) (by rw [frz_get hkj]; exact hj) (by rw [f2]; simp [AV.nrm]) (by simp [AV.clo1]) (by simp)
  simp only [List.length_singleton] at c1 c2
  refine call_scal rfl rfl rfl h rfl (by simp) (σ' := frz (frz σ k (0 + 1 * 7)) j (0 + 1 * 7)) ?_
  simp only [closeT, closeA, c1, c2, Option.bind_some, Option.map_some]
theorem close_lit {σ : Heap} {k : Nat} {x : GL} (h : σ[k]? = some (.cells x.enc.cells 0 false)) : close1 σ (.sl k 0 1 3 true) = some (.isl [x.enc] false, frz σ k (0 + 1 * 3)) := by
  refine close1_of0 ?_
  simp only [close0, h]
  rfl
theorem same1L {x y : GL} (hs : x.size ≤ 10000000000) {σ : Heap} {k j : Nat} (hkj : j ≠ k) (hk : σ[k]? = some (.cells x.enc.cells 0 false)) (hj : σ[j]? = some (.cells y.enc.cells 0 false)) (bs : Nat) :
    callT T 19 [.sl k 0 1 3 true, .sl j 0 1 3 true] bs σ = some (.bool (sym (decide (x = y))), σ) := by
  have h := sameLs_ok [x] [y] (by simp) (by simp; omega)
  have e : decide ([x] = [y]) = decide (x = y) := by simp
  rw [e] at h
  have c1 := close_lit hk
  have c2 := close_lit (σ := frz σ k (0 + 1 * 3)) (k := j) (x := y) (by rw [frz_get hkj]; exact hj)
  refine call_scal rfl rfl rfl h rfl (by simp) (σ' := frz (frz σ k (0 + 1 * 3)) j (0 + 1 * 3)) ?_
  simp only [closeT, closeA, c1, c2, Option.bind_some, Option.map_some, List.map_cons, List.map_nil]
theorem S_eq {a b : List UInt8} : (S a = S b) ↔ a = b := ⟨fun h => by have := congrArg (fun x : ByteArray => x.data.toList) h; simpa [S] using this, fun h => by rw [h]⟩
set_option maxRecDepth 100000 in
set_option maxHeartbeats 2000000 in
theorem terms_ok (a b : GT) (l m : GL) (ha : a.ok) (hb : b.ok) (hl : l.ok) (hm : m.ok) (sa : a.size ≤ 1048576) (sb : b.size ≤ 1048576) (sl : l.size ≤ 1048576) (sm : m.size ≤ 1048576) :
    pureT T c4 [a.enc, b.enc, l.enc, m.enc] = some (.bool true) := by
  have q1 : ∀ bs σ, callT T 14 [a.enc, .int .i64 8] bs σ = some ((termV 8 a).enc, σ) := callTerm 8 a (by omega) ha (by omega)
  have q2 : ∀ bs σ, callT T 14 [b.enc, .int .i64 8] bs σ = some ((termV 8 b).enc, σ) := callTerm 8 b (by omega) hb (by omega)
  have q3 := callLawLit l hl (by omega)
  have q4 := callLawLit m hm (by omega)
  have r1 := term_right 7 a
  have r2 := term_right 7 b
  have r3 := lit_right l
  have r4 := lit_right m
  have z1 := term8_size r1
  have z2 := term8_size r2
  have z3 := litB_size r3
  have z4 := litB_size r4
  generalize termV 8 a = x at *
  generalize termV 8 b = y at *
  generalize litOf l = u at *
  generalize litOf m = v at *
  have p1 := sayTerm x (by omega)
  have p2 := sayTerm y (by omega)
  have p3 := sayLiteral u (by omega)
  have p4 := sayLiteral v (by omega)
  have e1 : textTerm x = S (shT x) := by simp only [textTerm]; rw [if_pos r1]
  have e2 : textTerm y = S (shT y) := by simp only [textTerm]; rw [if_pos r2]
  have e3 : textLiteral u = S (shLit u) := by simp only [textLiteral]; rw [if_pos r3]
  have e4 : textLiteral v = S (shLit v) := by simp only [textLiteral]; rw [if_pos r4]
  rw [e1] at p1; rw [e2] at p2; rw [e3] at p3; rw [e4] at p4
  have i1 : (S (shT x) = S (shT y)) = (x = y) := propext (S_eq.trans (term_inj r1 r2))
  have i2 : (S (shLit u) = S (shLit v)) = (u = v) := propext (S_eq.trans (lit_inj r3 r4))
  have n1 : ¬ (S (shT x) = ⟨#[]⟩) := fun h => by
    obtain ⟨c, w, e, _⟩ := th_head r1
    rw [show (⟨#[]⟩ : ByteArray) = S [] from rfl, S_eq, e] at h; cases h
  have n2 : ¬ (S (shLit u) = ⟨#[]⟩) := fun h => by
    obtain ⟨c, w, e⟩ := lit_head r3
    rw [show (⟨#[]⟩ : ByteArray) = S [] from rfl, S_eq, e] at h; cases h
  have s1 := fun (σ : Heap) k j h1 h2 h3 bs => same1T (x := x) (y := y) (by omega) (σ := σ) (k := k) (j := j) h1 h2 h3 bs
  have s2 := fun (σ : Heap) k j h1 h2 h3 bs => same1L (x := u) (y := v) (by omega) (σ := σ) (k := k) (j := j) h1 h2 h3 bs
  rw [GT.enc_cells] at s1
  simp only [GL.enc_cells] at s2
  apply pure_enter (by simp [c4])
  simp [c4, callAwake4, q1, q2, q3, q4, p1, p2, p3, p4, ← GT.enc_eq, GL.enc_mk, i1, i2, n1, n2, s1, s2, setRun]
end Go.Proofs.YtpkfkipbemdhmaaGreatDoor
end
