import Derived.Test.YtpgakkhfjjhpdaaGreatDoorC5
import Derived.Test.YtpgakkhfjjhpdaaGreatDoorC3
set_option linter.unusedVariables false
set_option linter.unusedSimpArgs false
set_option linter.unnecessarySimpa false
section
namespace Go.Proofs.YtpgakkhfjjhpdaaGreatDoor
open Go.Mach
theorem tc_join (sep:List UInt8):∀ (i:Nat) (l:List GT),joinF (fun _=>shT) sep (i+1) l=shTc sep l
 | _,[]=>rfl
 | i,x :: l=>by simp only [joinF,shTc,tc_join sep (i+1) l]; simp
theorem ts_join (sep:List UInt8) (l:List GT):joinF (fun _=>shT) sep 0 l=shTs sep l:=by
 cases l with
 | nil=>rfl
 | cons x l=>simp only [joinF,shTs,tc_join]; simp
theorem term_value {d:Nat} {k:Int} {n:ByteArray} {v:GV} {l:List GT} (h:termR d (.mk k n v l)=true) (hk:k=2):rightT v=true:=by
 obtain ⟨_,⟨n',e,hn⟩ | ⟨v',e,hv,_⟩ | ⟨n',l',e,hn,_⟩ | ⟨n',l',e,_⟩⟩:=term_cases h <;> injection e with e1 e2 e3 e4 <;> subst e1
 ·omega
 ·rw [e3]; exact hv
 ·omega
 ·omega
theorem term_args {d:Nat} {k:Int} {n:ByteArray} {v:GV} {l:List GT} (h:termR d (.mk k n v l)=true):∀ x∈l,∃ e,termR e x=true:=by
 intro x hx
 obtain ⟨_,⟨n',e,hn⟩ | ⟨v',e,hv,_⟩ | ⟨n',l',e,hn,hl⟩ | ⟨n',l',e,_,_,hl⟩⟩:=term_cases h <;> injection e with e1 e2 e3 e4 <;> subst e4
 ·cases hx
 ·cases hx
 ·exact ⟨_,hl x hx⟩
 ·exact ⟨_,hl x hx⟩
theorem take_eq {L A:Heap} (B:Heap) {n:Nat} (h1:L=A++B) (h2:n=A.length):L.take n=A:=by rw [h1,h2]; simp
theorem printV_list {v:GV} (h:rightT v=true):(printV v).data.toList=pr v:=by simp [printV,h,S]
theorem printV_size {v:GV} (h:rightT v=true):(printV v).size=(pr v).length:=by simp only [printV,h,if_true]; rfl
theorem wterm_ok:∀ (m:Nat) (t:GT),t.size≤m→m≤10000000000→(∃ d,termR d t=true)→∀ (σ:Heap) (id tt:Nat) (c0:List UInt8) (τ:Heap) (bs:Nat),id<σ.length→tt∈bldTs→c0.length+(shT t).length≤70368744177664 →
  callT T 128 [.ptr id 0,t.enc] bs (σ.set id (.bld tt 5 c0)++τ)=some (.tup [],σ.set id (.bld tt 5 (c0++shT t))++τ):=by
 intro m
 induction m with
 | zero=>intro t h; obtain ⟨k,n,⟨vk,vn,vt,vl⟩,l⟩:=t; simp [GT.size] at h
 | succ m ih=>
  intro t hs hm hd σ id tt c0 τ bs hid ht hlen
  obtain ⟨d,hd⟩:=hd
  obtain ⟨k,n,v,l⟩:=t
  simp only [GT.size] at hs
  have hsl:∀ o:AObj,(σ.set id o++τ).length=σ.length+τ.length:=fun o=>by simp
  have hns:n.data.toList.length=n.size:=by simp
  refine heap_enter (af:=c128) (args':=[.ptr id 0,(GT.mk k n v l).enc]) (σ1:=σ.set id (.bld tt 5 c0)++τ) rfl rfl (by simp [c128]) (by simp [c128]) rfl ?_
  by_cases h1:k=1
  ·subst h1
   have hp:shT (.mk 1 n v l)=n.data.toList:=by simp [shT]
   rw [hp] at hlen ⊢
   have hws:=fun r bs=>ws_at (σ:=σ) (τ:=τ++r) (s:=n) (l:=c0) bs hid ht (by omega)
   simp [c128,baseA,GT.enc_eq,GT.kind,GT.name,GT.value,GT.args,hws,dropA_gc,refLt,res1]
   exact take_app2
  by_cases h2:k=2
  ·subst h2
   have hv:=term_value hd rfl
   have hp:shT (.mk 2 n v l)=pr v:=by simp [shT]
   rw [hp] at hlen ⊢
   have hpv:=valPrint v (right_okV _ _ hv) (by have:=rightT_size hv; omega)
   have hws:=fun r bs=>ws_at (σ:=σ) (τ:=τ++r) (s:=printV v) (l:=c0) bs hid ht (by rw [printV_size hv]; exact hlen)
   rw [printV_list hv] at hws
   simp [c128,baseA,GT.enc_eq,GT.kind,GT.name,GT.value,GT.args,hws,hpv,dropA_gc,refLt,res1]
   exact take_app2
  have hlist:∀ (sep:ByteArray) (cur:List UInt8) (o:AObj) (bs:Nat),cur.length+(shTs sep.data.toList l).length≤70368744177664 →
    callT T 126 [.ptr id 0,.isl (GT.encs l) false,.str sep,.func 149 [.ptr (σ.length+τ.length) 0]] bs (σ.set id (.bld tt 5 cur)++(τ++[.cells [.ptr id 0] 0 false,o])) =
     some (.tup [],σ.set id (.bld tt 5 (cur++shTs sep.data.toList l))++(τ++[.cells [.ptr id 0] 0 false,o])):=fun sep cur o bs hb=>by
   rw [←ts_join] at hb ⊢
   refine listTerm (fun _=>shT) sep l 149 [.ptr (σ.length+τ.length) 0] σ id tt cur (τ++[.cells [.ptr id 0] 0 false,o]) hid ht (by have:=GT.len_sizes l; omega) hb (fun i hi cur ρ bs hb2=>?_) bs
   have hx:=zqT hi
   have hw:=fun r bs=>ih l[i] (by have:=(GT.sizes_mem hx).1; omega) (by omega) (term_args hd _ hx) σ id tt cur (τ++r) bs hid ht hb2
   have hk:∀ r:Heap,(σ.set id (.bld tt 5 cur)++(τ++.cells [.ptr id 0] 0 false :: r))[σ.length+τ.length]?=some (.cells [.ptr id 0] 0 false):=fun r=>by
    rw [←zqP,zqB (by simp)]; simp
   refine heap_enter (af:=c149) (args':=[.int .i64 (i:Int),l[i].enc,.ptr (σ.length+τ.length) 0]) rfl rfl (by simp [c149]) (by simp [c149]) rfl ?_
   simp [c149,baseA,hk,hw,←GT.enc_eq,dropA_gc,refLt,res1]
   exact take_eq [_] (by simp; rfl) (by simp)
  by_cases h3:k=3
  ·subst h3
   have hp:shT (.mk 3 n v l)=n.data.toList++40 :: (shTs [44] l++[41]):=by simp [shT]
   rw [hp] at hlen ⊢
   simp only [zqJ,zqU,List.length_nil,hns] at hlen
   have hws:=fun r bs=>ws_at (σ:=σ) (τ:=τ++r) (s:=n) (l:=c0) bs hid ht (by omega)
   have hwb:=fun r bs=>wb_at (σ:=σ) (τ:=τ++r) (n:=40) (l:=c0++n.data.toList) bs hid ht (by simp only [zqJ,hns]; omega) (by decide) (by decide)
   have hli:=fun o bs=>hlist ⟨#[44]⟩ (c0++n.data.toList++[40]) o bs (by simp only [zqJ,zqU,List.length_nil,hns]; show _+(shTs [44] l).length≤_; omega)
   have hwe:=fun r bs=>wb_at (σ:=σ) (τ:=τ++r) (n:=41) (l:=c0++n.data.toList++[40]++shTs [44] l) bs hid ht (by simp only [zqJ,zqU,List.length_nil,hns]; omega) (by decide) (by decide)
   simp [-List.append_assoc] at hws hwb hli hwe
   simp only [zqP,List.cons_append,List.nil_append] at hws hwb hli hwe
   simp [c128,baseA,GT.enc_eq,GT.kind,GT.name,GT.value,GT.args,hws,hwb,hli,hwe,dropA_gc,refLt,res1]
   exact take_app2
  have hp:shT (.mk k n v l)=40 :: (shTs n.data.toList l++[41]):=by simp [shT,h1,h2,h3]
  rw [hp] at hlen ⊢
  simp only [zqJ,zqU,List.length_nil] at hlen
  have hwb:=fun r bs=>wb_at (σ:=σ) (τ:=τ++r) (n:=40) (l:=c0) bs hid ht (by omega) (by decide) (by decide)
  have hli:=fun o bs=>hlist n (c0++[40]) o bs (by simp only [zqJ,zqU,List.length_nil]; omega)
  have hwe:=fun r bs=>wb_at (σ:=σ) (τ:=τ++r) (n:=41) (l:=c0++[40]++shTs n.data.toList l) bs hid ht (by simp only [zqJ,zqU,List.length_nil]; omega) (by decide) (by decide)
  simp [-List.append_assoc] at hwb hli hwe
  simp only [zqP,List.cons_append,List.nil_append] at hwb hli hwe
  simp [c128,baseA,GT.enc_eq,GT.kind,GT.name,GT.value,GT.args,hwb,hli,hwe,dropA_gc,refLt,res1,h1,h2,h3]
  exact take_app2
theorem callWTerm (t:GT) (hs:t.size≤10000000000) (hd:∃ d,termR d t=true) (σ:Heap) (id tt:Nat) (c0:List UInt8) (τ:Heap) (bs:Nat) (hid:id<σ.length) (ht:tt∈bldTs) (hl:c0.length+(shT t).length≤70368744177664) :
  callT T 128 [.ptr id 0,t.enc] bs (σ.set id (.bld tt 5 c0)++τ)=some (.tup [],σ.set id (.bld tt 5 (c0++shT t))++τ):=wterm_ok t.size t (Nat.le_refl _) hs hd σ id tt c0 τ bs hid ht hl
open Go.Mach
theorem at_join (agg:List UInt8) (p:Int):∀ (i:Nat) (l:List GT),joinF (shAt agg p) [44] (i+1) l=shAtC agg p (i+1) l
 | _,[]=>rfl
 | i,x :: l=>by simp only [joinF,shAtC,at_join agg p (i+1) l]; simp
theorem ats_join (agg:List UInt8) (p:Int) (l:List GT):joinF (shAt agg p) [44] 0 l=shAtS agg p 0 l:=by
 cases l with
 | nil=>rfl
 | cons x l=>simp only [joinF,shAtS,at_join]; simp
theorem watom (name agg:ByteArray) (at':Int) (l:List GT) (hn:name.size≤10000000000) (hg:agg.size≤10000000000) (hs:GT.sizes l≤10000000000) (hd:∀ x∈l,∃ d,termR d x=true) (σ:Heap) (id tt:Nat) (c0:List UInt8) (τ:Heap) (bs:Nat) (hid:id<σ.length) (ht:tt∈bldTs)
  (hl:c0.length+(shAtom name.data.toList l agg.data.toList at').length≤70368744177664) :
  callT T 103 [.ptr id 0,.str name,.isl (GT.encs l) false,.str agg,.int .i64 at'] bs (σ.set id (.bld tt 5 c0)++τ)=some (.tup [],σ.set id (.bld tt 5 (c0++shAtom name.data.toList l agg.data.toList at'))++τ):=by
 have hlen:=GT.len_sizes l
 have hnn:name.data.toList.length=name.size:=by simp
 have hgg:agg.data.toList.length=agg.size:=by simp
 have hsl:∀ o:AObj,(σ.set id o++τ).length=σ.length+τ.length:=fun o=>by simp
 simp only [shAtom,zqJ,zqU,List.length_nil,hnn] at hl
 have hlist:∀ (cur:List UInt8) (bs:Nat),cur.length+(shAtS agg.data.toList at' 0 l).length≤70368744177664 →
   callT T 126 [.ptr id 0,.isl (GT.encs l) false,.str ⟨#[44]⟩,.func 127 [.ptr (σ.length+τ.length+1) 0,.ptr (σ.length+τ.length+2) 0,.ptr (σ.length+τ.length) 0]] bs
    (σ.set id (.bld tt 5 cur)++(τ++[.cells [.ptr id 0] 0 false,.cells [.str agg] 0 false,.cells [.int .i64 at'] 0 false])) =
   some (.tup [],σ.set id (.bld tt 5 (cur++shAtS agg.data.toList at' 0 l))++(τ++[.cells [.ptr id 0] 0 false,.cells [.str agg] 0 false,.cells [.int .i64 at'] 0 false])):=fun cur bs hb=>by
  rw [←ats_join] at hb ⊢
  refine listTerm (shAt agg.data.toList at') ⟨#[44]⟩ l 127 _ σ id tt cur (τ++[.cells [.ptr id 0] 0 false,.cells [.str agg] 0 false,.cells [.int .i64 at'] 0 false]) hid ht (by omega) hb (fun i hi cur ρ bs hb2=>?_) bs
  have hx:=zqT hi
  have hxs:=(GT.sizes_mem hx).1
  have hxn:=GT.name_le l[i]
  have hk:∀ (j:Nat) (o:AObj) (r:Heap),([AObj.cells [.ptr id 0] 0 false,.cells [.str agg] 0 false,.cells [.int .i64 at'] 0 false]:Heap)[j]?=some o→(σ.set id (.bld tt 5 cur)++(τ++.cells [.ptr id 0] 0 false :: .cells [.str agg] 0 false :: .cells [.int .i64 at'] 0 false :: r))[σ.length+τ.length+j]?=some o:=fun j o r h=>by
   rw [←zqP,zqB (by simp)]
   have e:σ.length+τ.length+j - (σ.set id (.bld tt 5 cur)++τ).length=j:=by rw [hsl]; omega
   rw [e]
   have hj:j<3:=by have:=(zqI.1 h).1; simpa using this
   rw [←h]
   have:j=0∨j=1∨j=2:=by omega
   rcases this with rfl | rfl | rfl <;> simp
  have hk0:=fun r=>hk 0 _ r rfl
  have hk1:=fun r=>hk 1 _ r rfl
  have hk2:=fun r=>hk 2 _ r rfl
  rw [Nat.add_zero] at hk0
  refine heap_enter (af:=c127) (args':=[.int .i64 (i:Int),l[i].enc,.ptr (σ.length+τ.length+1) 0,.ptr (σ.length+τ.length+2) 0,.ptr (σ.length+τ.length) 0]) rfl rfl (by simp [c127]) (by simp [c127]) rfl ?_
  by_cases hc:agg.data.toList≠[]∧(i:Int)=at'
  ·have hag:agg≠⟨#[]⟩:=fun e=>hc.1 (ba_list_nil.2 e)
   have hsh:shAt agg.data.toList at' i l[i]=agg.data.toList++60 :: (l[i].name.data.toList++[62]):=by rw [shAt,if_pos hc]
   rw [hsh] at hb2 ⊢
   have hnx:l[i].name.data.toList.length=l[i].name.size:=by simp
   simp only [zqJ,zqU,List.length_nil,hgg,hnx] at hb2
   have hws:=fun r bs=>ws_at (σ:=σ) (τ:=τ++r) (s:=((agg++⟨#[60]⟩)++l[i].name)++⟨#[62]⟩) (l:=cur) bs hid ht (by have e1:(ByteArray.mk #[60]).size=1:=rfl; have e2:(ByteArray.mk #[62]).size=1:=rfl; simp only [ByteArray.size_append,e1,e2]; omega)
   have z1:(ByteArray.mk #[60]).size=1:=rfl
   have z2:(ByteArray.mk #[62]).size=1:=rfl
   have q1:(agg.size:Int)+1≤9223372036854775807:=by omega
   have q2:(agg.size:Int)+1+(l[i].name.size:Int)≤9223372036854775807:=by omega
   have q3:(agg.size:Int)+1+(l[i].name.size:Int)+1≤9223372036854775807:=by omega
   simp at hws
   simp [c127,baseA,hk0,hk1,hk2,hws,hag,hc.2,←GT.enc_eq,dropA_gc,refLt,res1,z1,z2,q1,q2,q3,ByteArray.size_append]
   exact take_eq [_] (by simp; rfl) (by simp)
  ·have hsh:shAt agg.data.toList at' i l[i]=shT l[i]:=by rw [shAt,if_neg hc]
   rw [hsh] at hb2 ⊢
   have hw:=fun r bs=>callWTerm l[i] (by omega) (hd _ hx) σ id tt cur (τ++r) bs hid ht hb2
   by_cases hag:agg=⟨#[]⟩
   ·subst hag
    simp [c127,baseA,hk0,hk1,hk2,hw,←GT.enc_eq,dropA_gc,refLt,res1]
    exact take_eq [_] (by simp; rfl) (by simp)
   ·have hat:¬ ((i:Int)=at'):=fun e=>hc ⟨fun h=>hag (ba_list_nil.1 h),e⟩
    simp [c127,baseA,hk0,hk1,hk2,hw,hag,hat,←GT.enc_eq,dropA_gc,refLt,res1]
    exact take_eq [_] (by simp; rfl) (by simp)
 have z1:(ByteArray.mk #[40,64]).size=2:=rfl
 have q1:(name.size:Int)+2≤9223372036854775807:=by omega
 have hws:=fun r bs=>ws_at (σ:=σ) (τ:=τ++r) (s:=name++⟨#[40,64]⟩) (l:=c0) bs hid ht (by simp only [ByteArray.size_append,z1]; omega)
 have hn2:(name++⟨#[40,64]⟩).data.toList.length=name.size+2:=by simp
 have b1:(c0++(name++⟨#[40,64]⟩).data.toList).length+(shAtS agg.data.toList at' 0 l).length≤70368744177664:=by rw [zqJ,hn2]; omega
 have hli:=fun bs=>hlist (c0++(name++⟨#[40,64]⟩).data.toList) bs b1
 have b2:(c0++(name++⟨#[40,64]⟩).data.toList++shAtS agg.data.toList at' 0 l).length+1≤70368744177664:=by rw [zqJ,zqJ,hn2]; omega
 have hwe:=fun r bs=>wb_at (σ:=σ) (τ:=τ++r) (n:=41) (l:=c0++(name++⟨#[40,64]⟩).data.toList++shAtS agg.data.toList at' 0 l) bs hid ht b2 (by decide) (by decide)
 simp [Nat.add_assoc] at hws hli hwe
 refine heap_enter (af:=c103) (args':=[.ptr id 0,.str name,.isl (GT.encs l) false,.str agg,.int .i64 at']) (σ1:=σ.set id (.bld tt 5 c0)++τ) rfl rfl (by simp [c103]) (by simp [c103]) rfl ?_
 simp [c103,baseA,hws,hli,hwe,z1,q1,dropA_gc,refLt,res1,shAtom]
 exact take_app2
open Go.Mach
theorem key_at {σ τ r:Heap} {id:Nat} {o a:AObj}:(σ.set id o++(τ++a :: r))[σ.length+τ.length]?=some a:=by
 rw [←zqP,zqB (by simp)]; simp
theorem args_ex {l:List GT} (h:∀ x∈l,termR 8 x=true):∀ x∈l,∃ d,termR d x=true:=fun x hx=>⟨8,h x hx⟩
theorem rel_size {s:ByteArray} (h:relOK s=true):s.size≤16:=((nameOK_iff s).1 (rel_name h).1).2.2
theorem var_size {s:ByteArray} (h:varOK s=true):s.size≤16:=((varOK_iff s).1 h).2.2
theorem test_size {s:ByteArray} (h:tOK s=true):s.size≤2:=by
 rcases of_decide_eq_true h with rfl | rfl | rfl | rfl | rfl | rfl <;> decide
theorem wlit_ok (x : GL) (hx : litB x = true) (hs : x.size ≤ 10000000000) (σ : Heap) (id tt : Nat) (c0 : List UInt8) (τ : Heap) (bs : Nat) (hid : id < σ.length) (ht : tt ∈ bldTs) (hl : c0.length + (shLit x).length ≤ 70368744177664) :
    callT T 106 [.ptr id 0, x.enc] bs (σ.set id (.bld tt 5 c0) ++ τ) = some (.tup [], σ.set id (.bld tt 5 (c0 ++ shLit x)) ++ τ) := by
  have hal := x.args_le
  have hsl : ∀ o : AObj, (σ.set id o ++ τ).length = σ.length + τ.length := fun o => by simp
  refine heap_enter (af := c106) (args' := [.ptr id 0, x.enc]) (σ1 := σ.set id (.bld tt 5 c0) ++ τ) rfl rfl (by simp [c106]) (by simp [c106]) rfl ?_
  have z0 : (ByteArray.mk #[32]).size = 1 := rfl
  have z4 : (ByteArray.mk #[32, 58, 61, 32]).size = 4 := rfl
  rcases lit_cases hx with ⟨hk, h1, h2⟩ | ⟨hk, h1, y, z, e, hy, hz⟩ | ⟨hk, h1, y, e, hy⟩
  · have hn := rel_size h1
    rcases hk with hk | hk
    · rw [sh1 hk] at hl ⊢
      have hat := fun r bs => watom x.name ⟨#[]⟩ 0 x.args (by omega) (by decide) (by omega) (args_ex (args_all h2)) σ id tt c0 (τ ++ r) bs hid ht hl
      simp at hat
      simp [c106, baseA, GL.enc_eq, hk, hat, dropA_gc, refLt, res1]
      exact take_app2
    · rw [sh2 hk] at hl ⊢
      simp only [zqU] at hl
      have hwb := fun r bs => wb_at (σ := σ) (τ := τ ++ r) (n := 33) (l := c0) bs hid ht (by omega) (by decide) (by decide)
      have hat := fun r bs => watom x.name ⟨#[]⟩ 0 x.args (by omega) (by decide) (by omega) (args_ex (args_all h2)) σ id tt (c0 ++ [33]) (τ ++ r) bs hid ht (by simp only [zqJ, zqU, List.length_nil]; show _ + (shAtom x.name.data.toList x.args [] 0).length ≤ _; omega)
      simp at hat hwb
      simp [c106, baseA, GL.enc_eq, hk, hat, hwb, dropA_gc, refLt, res1]
      exact take_app2
  · have hn := test_size h1
    have hp : shLit x = shTs (32 :: (x.name.data.toList ++ [32])) x.args := by simp [shLit, hk]
    rw [hp] at hl ⊢
    have hsep : ((⟨#[32]⟩ ++ x.name) ++ ⟨#[32]⟩ : ByteArray).data.toList = 32 :: (x.name.data.toList ++ [32]) := by simp
    have hli : ∀ (o : AObj) (bs : Nat), callT T 126 [.ptr id 0, .isl (GT.encs x.args) false, .str ((⟨#[32]⟩ ++ x.name) ++ ⟨#[32]⟩), .func 129 [.ptr (σ.length + τ.length) 0]] bs (σ.set id (.bld tt 5 c0) ++ (τ ++ [.cells [.ptr id 0] 0 false, o])) =
          some (.tup [], σ.set id (.bld tt 5 (c0 ++ shTs (32 :: (x.name.data.toList ++ [32])) x.args)) ++ (τ ++ [.cells [.ptr id 0] 0 false, o])) := fun o bs => by
      rw [← hsep, ← ts_join] at hl ⊢
      refine listTerm (fun _ => shT) _ x.args 129 [.ptr (σ.length + τ.length) 0] σ id tt c0 (τ ++ [.cells [.ptr id 0] 0 false, o]) hid ht (by have := GT.len_sizes x.args; omega) hl (fun i hi cur ρ bs hb2 => ?_) bs
      have hm := zqT hi
      have hex : ∃ d, termR d x.args[i] = true := by
        refine args_ex (l := x.args) (fun w hw => ?_) _ hm
        rw [e] at hw; simp at hw; rcases hw with rfl | rfl; exact hy; exact hz
      have hw := fun r bs => callWTerm x.args[i] (by have := (GT.sizes_mem hm).1; omega) hex σ id tt cur (τ ++ r) bs hid ht hb2
      refine heap_enter (af := c129) (args' := [.int .i64 (i : Int), x.args[i].enc, .ptr (σ.length + τ.length) 0]) rfl rfl (by simp [c129]) (by simp [c129]) rfl ?_
      simp [c129, baseA, key_at, hw, ← GT.enc_eq, dropA_gc, refLt, res1]
      exact take_eq [_] (by simp; rfl) (by simp)
    have q1 : (1 : Int) + (x.name.size : Int) ≤ 9223372036854775807 := by omega
    have q2 : (1 : Int) + (x.name.size : Int) + 1 ≤ 9223372036854775807 := by omega
    simp [c106, baseA, GL.enc_eq, hk, hli, z0, q1, q2, dropA_gc, refLt, res1, ByteArray.size_append]
    exact take_app2
  · have hn := var_size h1
    have hns : x.name.data.toList.length = x.name.size := by simp
    rw [sh4 hk e] at hl ⊢
    simp only [zqJ, zqU, hns] at hl
    have hy8 : y.size ≤ 10000000000 := by have := (GT.sizes_mem (l := x.args) (x := y) (by simp [e])).1; omega
    have b1 : (x.name ++ ⟨#[32, 58, 61, 32]⟩).data.toList.length = x.name.size + 4 := by simp
    have hws := fun r bs => ws_at (σ := σ) (τ := τ ++ r) (s := x.name ++ ⟨#[32, 58, 61, 32]⟩) (l := c0) bs hid ht (by simp only [ByteArray.size_append, z4]; omega)
    have hw := fun r bs => callWTerm y hy8 ⟨8, hy⟩ σ id tt (c0 ++ (x.name ++ ⟨#[32, 58, 61, 32]⟩).data.toList) (τ ++ r) bs hid ht (by rw [zqJ, b1]; omega)
    have q1 : (x.name.size : Int) + 4 ≤ 9223372036854775807 := by omega
    simp at hws hw
    simp [c106, baseA, GL.enc_eq, hk, hws, hw, z4, q1, e, ← GT.enc_eq, dropA_gc, refLt, res1]
    exact take_app2
open Go.Mach
mutual
theorem sh_len:∀ (t:GT) (d:Nat),termR d t=true→(shT t).length+1≤27 * t.size
 | .mk k n v l,d,h=>by
  obtain ⟨hd,h'⟩:=term_cases h
  rcases h' with ⟨n',e,hn⟩ | ⟨v',e,hv,_⟩ | ⟨n',l',e,hn,hl⟩ | ⟨n',l',e,ho,h2,hl⟩ <;> injection e with e1 e2 e3 e4 <;> subst e1 e2 e3 e4
  ·have:n.data.toList.length=n.size:=by simp
   simp only [shT,if_true,this,GT.size,GV.size,GT.sizes,GV.sizes]; omega
  ·have:=pr_len v (right_okV _ _ hv)
   have hp:shT (.mk 2 ⟨#[]⟩ v [])=pr v:=by simp [shT]
   rw [hp]
   simp only [GT.size]; omega
  ·have hp:shT (.mk 3 n nil0 l)=n.data.toList++40 :: (shTs [44] l++[41]):=by simp [shT]
   have hh:=shs_len l [44] (d - 1) (by simp) hl
   have:n.data.toList.length=n.size:=by simp
   rw [hp]
   simp only [zqJ,zqU,List.length_nil,this,GT.size,GV.size,GV.sizes]; omega
  ·have hp:shT (.mk 4 n nil0 l)=40 :: (shTs n.data.toList l++[41]):=by simp [shT]
   obtain ⟨c,q1,_⟩:=op_char ho
   have hh:=shs_len l n.data.toList (d - 1) (by rw [q1]; simp) hl
   rw [hp]
   simp only [zqJ,zqU,List.length_nil,GT.size,GV.size,GV.sizes]; omega
theorem shs_len:∀ (l:List GT) (sep:List UInt8) (d:Nat),sep.length≤1→(∀ x∈l,termR d x=true)→(shTs sep l).length≤27 * GT.sizes l
 | [],sep,d,_,_=>by simp [shTs]
 | x :: l,sep,d,hs,h=>by
  have h1:=sh_len x d (h x (by simp))
  have h2:=shc_len l sep d hs fun y hy=>h y (by simp [hy])
  simp only [shTs,zqJ,GT.sizes]; omega
theorem shc_len:∀ (l:List GT) (sep:List UInt8) (d:Nat),sep.length≤1→(∀ x∈l,termR d x=true)→(shTc sep l).length≤27 * GT.sizes l
 | [],sep,d,_,_=>by simp [shTc]
 | x :: l,sep,d,hs,h=>by
  have h1:=sh_len x d (h x (by simp))
  have h2:=shc_len l sep d hs fun y hy=>h y (by simp [hy])
  simp only [shTc,zqJ,GT.sizes]; omega
end
theorem at_len {agg:List UInt8} {p:Int} {i d:Nat} {t:GT} (ha:agg.length≤5) (h:termR d t=true):(shAt agg p i t).length+1≤28 * t.size:=by
 have h1:=sh_len t d h
 have:t.name.data.toList.length=t.name.size:=by simp
 have h3:t.name.size+3≤t.size:=by obtain ⟨k,n,⟨vk,vn,vt,vl⟩,l⟩:=t; simp only [GT.size,GT.name,GV.size]; omega
 unfold shAt
 split
 ·simp only [zqJ,zqU,List.length_nil,this]; omega
 ·omega
theorem atc_len {agg:List UInt8} {p:Int} {d:Nat} (ha:agg.length≤5):∀ (i:Nat) (l:List GT),(∀ x∈l,termR d x=true)→(shAtC agg p i l).length≤28 * GT.sizes l
 | _,[],_=>by simp [shAtC]
 | i,x :: l,h=>by
  have h1:=at_len (p:=p) (i:=i) ha (h x (by simp))
  have h2:=atc_len ha (p:=p) (i+1) l fun y hy=>h y (by simp [hy])
  simp only [shAtC,zqJ,zqU,GT.sizes]; omega
theorem ats_len {agg:List UInt8} {p:Int} {d:Nat} (ha:agg.length≤5) (i:Nat) (l:List GT) (h:∀ x∈l,termR d x=true):(shAtS agg p i l).length≤28 * GT.sizes l:=by
 cases l with
 | nil=>simp [shAtS]
 | cons x l=>
  have h1:=at_len (p:=p) (i:=i) ha (h x (by simp))
  have h2:=atc_len ha (p:=p) (i+1) l fun y hy=>h y (by simp [hy])
  simp only [shAtS,zqJ,GT.sizes]; omega
theorem lit_len {x:GL} (h:litB x=true):(shLit x).length+2≤28 * x.size:=by
 have hsz:x.size=x.name.size+GT.sizes x.args+4:=by simp only [GL.size,GL.enc,bulkA,bulkAs,GT.bulk_encs]; omega
 have hn:x.name.data.toList.length=x.name.size:=by simp
 rw [hsz]
 rcases lit_cases h with ⟨hk,h1,h2⟩ | ⟨hk,h1,y,z,e,hy,hz⟩ | ⟨hk,h1,y,e,hy⟩
 ·have hh:=ats_len (agg:=[]) (p:=0) (by simp) 0 x.args (args_all h2)
  rcases hk with hk | hk
  ·rw [sh1 hk]; simp only [shAtom,zqJ,zqU,List.length_nil,hn]; omega
  ·rw [sh2 hk]; simp only [shAtom,zqJ,zqU,List.length_nil,hn]; omega
 ·rw [sh3 hk e,e]
  have h2:=sh_len y 8 hy
  have h3:=sh_len z 8 hz
  simp only [zqJ,zqU,hn,GT.sizes]; omega
 ·rw [sh4 hk e,e]
  have h2:=sh_len y 8 hy
  simp only [zqJ,zqU,hn,GT.sizes]; omega
theorem litc_len:∀ l:List GL,(∀ x∈l,litB x=true)→(shLitC l).length≤28 * bulkAs (l.map GL.enc)
 | [],_=>by simp [shLitC]
 | x :: l,h=>by
  have h1:=lit_len (h x (by simp))
  have h2:=litc_len l fun y hy=>h y (by simp [hy])
  have e:bulkA x.enc=x.size:=rfl
  simp only [shLitC,zqJ,zqU,List.map_cons,bulkAs,e]; omega
theorem lits_len (l:List GL) (h:∀ x∈l,litB x=true):(shLitS l).length≤28 * bulkAs (l.map GL.enc):=by
 cases l with
 | nil=>simp [shLitS]
 | cons x l=>
  have h1:=lit_len (h x (by simp))
  have h2:=litc_len l fun y hy=>h y (by simp [hy])
  have e:bulkA x.enc=x.size:=rfl
  simp only [shLitS,zqJ,List.map_cons,bulkAs,e]; omega
theorem agg_len {r:GR} (h:aggB r=true):r.agg.size≤5:=by
 have hn:r.agg.data.toList.length=r.agg.size:=by simp
 rcases (agg_L h).1 with e | e | e | e <;> (rw [←hn,e]; decide)
theorem rule_len {x:GR} (h:ruleB x=true):(shRule x).length+1≤28 * x.size:=by
 have hsz:x.size=x.label.size+x.head.size+GT.sizes x.args+x.agg.size+bulkAs (x.body.map GL.enc)+7:=by simp only [GR.size,GR.enc,bulkA,bulkAs,GT.bulk_encs]; omega
 have hn:x.label.data.toList.length=x.label.size:=by simp
 have hn2:x.head.data.toList.length=x.head.size:=by simp
 have hn3:x.agg.data.toList.length=x.agg.size:=by simp
 simp only [ruleB,zqL,decide_eq_true_eq,zqQ] at h
 obtain ⟨⟨⟨⟨⟨a1,a2⟩,a3⟩,a4⟩,a5⟩,a6⟩:=h
 have h1:=ats_len (agg:=x.agg.data.toList) (p:=x.pos) (by rw [hn3]; exact agg_len a6) 0 x.args (args_all a3)
 have h2:=lits_len x.body a5
 rw [hsz]
 simp only [shRule,shAtom,zqJ,zqU,List.length_nil,hn,hn2]; omega
open Go.Mach
theorem lc_join:∀ (i:Nat) (l:List GL),joinF (fun _=>shLit) [44,32] (i+1) l=shLitC l
 | _,[]=>rfl
 | i,x :: l=>by simp only [joinF,shLitC,lc_join (i+1) l]; simp
theorem ls_join (l:List GL):joinF (fun _=>shLit) [44,32] 0 l=shLitS l:=by
 cases l with
 | nil=>rfl
 | cons x l=>simp only [joinF,shLitS,lc_join]; simp
theorem wrule_ok (x:GR) (hx:ruleB x=true) (hs:x.size≤10000000000) (σ:Heap) (id tt:Nat) (c0:List UInt8) (τ:Heap) (bs:Nat) (hid:id<σ.length) (ht:tt∈bldTs) (hl:c0.length+(shRule x).length≤70368744177664) :
  callT T 72 [.ptr id 0,x.enc] bs (σ.set id (.bld tt 5 c0)++τ)=some (.tup [],σ.set id (.bld tt 5 (c0++shRule x))++τ):=by
 have hal:=x.args_le
 have hbl:=x.body_len
 have hbm:=fun y hy=>x.body_mem (y:=y) hy
 simp only [ruleB,zqL,decide_eq_true_eq,zqQ] at hx
 obtain ⟨⟨⟨⟨⟨a1,a2⟩,a3⟩,a4⟩,a5⟩,a6⟩:=hx
 have n1:=rel_size a1
 have n2:=rel_size a2
 have n3:=agg_len a6
 have e1:x.label.data.toList.length=x.label.size:=by simp
 have z1:(ByteArray.mk #[32]).size=1:=rfl
 have z2:(ByteArray.mk #[32,58,45,32]).size=4:=rfl
 have q1:(x.label.size:Int)+1≤9223372036854775807:=by omega
 have hsl:∀ o:AObj,(σ.set id o++τ).length=σ.length+τ.length:=fun o=>by simp
 generalize hA:shAtom x.head.data.toList x.args x.agg.data.toList x.pos=A at *
 have hR:shRule x=x.label.data.toList++32 :: (A++32 :: 58 :: 45 :: 32 :: (shLitS x.body++[46])):=by rw [←hA]; rfl
 rw [hR] at hl ⊢
 simp only [zqJ,zqU,List.length_nil,e1] at hl
 have s1:=fun r bs=>ws_at (σ:=σ) (τ:=τ++r) (s:=x.label++⟨#[32]⟩) (l:=c0) bs hid ht (by simp only [ByteArray.size_append,z1]; omega)
 have d1:(x.label++⟨#[32]⟩).data.toList=x.label.data.toList++[32]:=by simp
 rw [d1] at s1
 have s2:=fun r bs=>watom x.head x.agg x.pos x.args (by omega) (by omega) (by omega) (args_ex (args_all a3)) σ id tt (c0++(x.label.data.toList++[32])) (τ++r) bs hid ht (by rw [hA]; simp only [zqJ,zqU,List.length_nil,e1]; omega)
 rw [hA] at s2
 have s3:=fun r bs=>ws_at (σ:=σ) (τ:=τ++r) (s:=⟨#[32,58,45,32]⟩) (l:=c0++(x.label.data.toList++[32])++A) bs hid ht (by simp only [zqJ,zqU,List.length_nil,e1,z2]; omega)
 have s4:∀ (o:AObj) (bs:Nat),callT T 104 [.ptr id 0,.isl (x.body.map GL.enc) false,.str ⟨#[44,32]⟩,.func 105 [.ptr (σ.length+τ.length) 0]] bs (σ.set id (.bld tt 5 (c0++(x.label.data.toList++[32])++A++[32,58,45,32]))++(τ++[.cells [.ptr id 0] 0 false,o])) =
   some (.tup [],σ.set id (.bld tt 5 (c0++(x.label.data.toList++[32])++A++[32,58,45,32]++shLitS x.body))++(τ++[.cells [.ptr id 0] 0 false,o])):=fun o bs=>by
  rw [←ls_join]
  refine listLiteral (fun _=>shLit) ⟨#[44,32]⟩ x.body 105 [.ptr (σ.length+τ.length) 0] σ id tt _ (τ++[.cells [.ptr id 0] 0 false,o]) hid ht (by omega) (by show _+(joinF (fun _=>shLit) [44,32] 0 x.body).length≤_; rw [ls_join]; simp only [zqJ,zqU,List.length_nil,e1]; omega) (fun i hi cur ρ bs hb2=>?_) bs
  have hm:=zqT hi
  have hw:=fun r bs=>wlit_ok x.body[i] (a5 _ hm) (by have:=hbm _ hm; omega) σ id tt cur (τ++r) bs hid ht hb2
  refine heap_enter (af:=c105) (args':=[.int .i64 (i:Int),x.body[i].enc,.ptr (σ.length+τ.length) 0]) rfl rfl (by simp [c105]) (by simp [c105]) rfl ?_
  simp [c105,baseA,key_at,hw,←GL.enc_eq,dropA_gc,refLt,res1]
  exact take_eq [_] (by simp; rfl) (by simp)
 have s5:=fun r bs=>wb_at (σ:=σ) (τ:=τ++r) (n:=46) (l:=c0++(x.label.data.toList++[32])++A++[32,58,45,32]++shLitS x.body) bs hid ht (by simp only [zqJ,zqU,List.length_nil,e1]; omega) (by decide) (by decide)
 simp at s1 s2 s3 s4 s5
 refine heap_enter (af:=c72) (args':=[.ptr id 0,x.enc]) (σ1:=σ.set id (.bld tt 5 c0)++τ) rfl rfl (by simp [c72]) (by simp [c72]) rfl ?_
 simp [c72,baseA,GR.enc_eq,s1,s2,s3,s4,s5,z1,q1,dropA_gc,refLt,res1]
 exact take_app2
open Go.Mach
open Go.Mach
def textRule (x:GR):ByteArray:=if ruleB x=true then S (shRule x) else S []
theorem textRule_ok (b:Bool) (x:GR) (hb:b=true→ruleB x=true) (hs:x.size≤10000000000):pureT T c71 [.bool b,x.enc,.func 72 []]=some (.str (if b=true then S (shRule x) else S [])):=by
 apply pure_enter (by simp [c71])
 cases b
 ·simp [c71,S]
 ·have hx:=hb rfl
  have hln:=rule_len hx
  have hw:=fun o bs=>wrule_ok x hx (by omega) [o,.dead] 1 139 [] [] bs (by simp) (by decide) (by simp only [List.length_nil]; omega)
  have hst:=fun o bs=>callStr (σ:=[o,.bld 139 5 (shRule x)]) (id:=1) (l:=shRule x) bs rfl (by omega)
  simp at hw hst
  simp [c71,hw,hst,setRun,S,←GR.enc_eq]
theorem pRule_ok (x:GR) (hs:x.size≤10000000000):pureT T c44 [x.enc]=some (.str (textRule x)):=by
 have h1:=callPRule x (by omega)
 have h2:∀ bs σ,callT T 71 [.bool (ruleB x),x.enc,.func 72 []] bs σ=some (.str (textRule x),σ):=fun bs σ=>call_clean rfl rfl rfl (by simp) (by rw [textRule_ok (ruleB x) x (fun h=>h) hs]; rfl)
 apply pure_enter (by simp [c44])
 generalize (ruleB x)=b at *
 simp [c44,h1,h2,sym,←GR.enc_eq]
theorem sayRule (x:GR) (hs:x.size≤10000000000) (bs:Nat) (σ:Heap):callT T 44 [x.enc] bs σ=some (.str (textRule x),σ):=call_clean rfl rfl rfl (by simp) (pRule_ok x hs)
open Go.Mach
open Go.Mach
mutual
def sameT:GT→GT→Bool
 | .mk k n v l,.mk k2 n2 v2 l2=>decide (k=k2) && decide (n=n2) && decide (v=v2) && sameTs l l2
def sameTs:List GT→List GT→Bool
 | [],[]=>true
 | x :: l,y :: m=>sameT x y && sameTs l m
 | _,_=>false
end
mutual
theorem sameT_iff:∀ a b:GT,sameT a b=true↔a=b
 | .mk k n v l,.mk k2 n2 v2 l2=>by
  have:=sameTs_iff l l2
  simp only [sameT,zqL,decide_eq_true_eq,this,GT.mk.injEq,and_assoc]
theorem sameTs_iff:∀ a b:List GT,sameTs a b=true↔a=b
 | [],[]=>by simp [sameTs]
 | [],_ :: _=>by simp [sameTs]
 | _ :: _,[]=>by simp [sameTs]
 | x :: l,y :: m=>by
  have h1:=sameT_iff x y
  have h2:=sameTs_iff l m
  simp only [sameTs,zqL,h1,h2,List.cons.injEq]
end
instance:DecidableEq GT:=fun a b=>decidable_of_iff _ (sameT_iff a b)
theorem gt_ext (a b:GT):a=b↔a.kind=b.kind∧a.name=b.name∧a.value=b.value∧a.args=b.args:=by
 cases a; cases b; simp [GT.kind,GT.name,GT.value,GT.args]
open Go.Mach
theorem sameTs_ok:∀ (n:Nat) (a b:List GT),GT.sizes a≤n→n≤100000000000→pureT T c42 [.isl (GT.encs a) false,.isl (GT.encs b) false]=some (.bool (decide (a=b))):=by
 intro n
 induction n using Nat.strongRecOn with
 | ind n ih=>
  intro a b hs hn
  have hlen:=GT.len_sizes a
  apply pure_enter (by simp [c42])
  by_cases hl:a.length=b.length
  ·simp [c42,hl]
   refine W_for T 0 73 a.length (fun i f σ=>f 0=.isl (GT.encs a) false∧f 1=.isl (GT.encs b) false∧f 5=.int .i64 (i:Int)∧∀ j,(h1:j<a.length)→(h2:j<b.length)→j<i→a[j]=b[j]) ?_ _ _ ?_
   ·rintro i f σ hi ⟨h0,h1,h5,hall⟩
    by_cases hlt:i<a.length
    ·have hlt2:i<b.length:=by omega
     have ha:=zqT hlt
     have hsz:=(GT.sizes_mem ha).1
     have hal:=GT.args_le a[i]
     have hvl:=GT.value_le a[i]
     have hS:=callSame a[i].value b[i].value (by omega)
     have hR:∀ bs σ,callT T 42 [.isl (GT.encs a[i].args) false,.isl (GT.encs b[i].args) false] bs σ=some (.bool (sym (decide (a[i].args=b[i].args))),σ):=fun bs σ=>call_clean rfl rfl rfl (by simp) (ih (GT.sizes a[i].args) (by omega) _ _ (Nat.le_refl _) (by omega))
     have hw:IntKind.i64.wrap ((i:Int)+1)=(i:Int)+1:=wr64 (by omega) (by omega)
     have hno:¬ (a[i]=b[i])→¬ (a=b):=fun h e=>h (by subst e; rfl)
     have hyes:a[i]=b[i]→∀ j,(h1:j<a.length)→(h2:j<b.length)→j<i+1→a[j]=b[j]:=fun h j h1 h2 hj=>by
      by_cases e:j=i
      ·subst e; exact h
      ·exact hall j h1 h2 (by omega)
     simp only [gt_ext a[i] b[i]] at hno hyes
     simp [h0,h1,h5,hlt,hlt2,hS,hR,hw,←GV.enc_eq,enc_mk]
     repeat' (first | apply And.intro | intro _)
     all_goals first | exact hno (by grind) | exact hyes (by grind) _ (by assumption) (by assumption) (by assumption) | omega | grind
    ·have he:i=a.length:=by omega
     subst he
     have:a=b:=List.ext_getElem hl fun j h1 h2=>hall j h1 h2 h1
     simp [h0,h1,h5,this]
   ·simp
  ·have:¬ (a=b):=fun e=>hl (by rw [e])
   have h2:¬ ((a.length:Int)=(b.length:Int)):=by omega
   simp [c42,h2,this]
theorem callSameTs (a b:List GT) (hs:GT.sizes a≤100000000000) (bs:Nat) (σ:Heap):callT T 42 [.isl (GT.encs a) false,.isl (GT.encs b) false] bs σ=some (.bool (sym (decide (a=b))),σ):=call_clean rfl rfl rfl (by simp) (sameTs_ok _ a b (Nat.le_refl _) hs)
instance:DecidableEq GL:=fun a b=>decidable_of_iff (a.kind=b.kind∧a.name=b.name∧a.args=b.args) ⟨fun h=>gl_ext h.1 h.2.1 h.2.2,fun h=>by rw [h]; simp⟩
theorem gl_iff (a b:GL):a=b↔a.kind=b.kind∧a.name=b.name∧a.args=b.args:=⟨fun h=>by rw [h]; simp,fun h=>gl_ext h.1 h.2.1 h.2.2⟩
theorem sameLs_ok (a b:List GL) (hla:a.length≤1000000) (hs:∀ x∈a,x.size≤100000000000):pureT T c43 [.isl (a.map GL.enc) false,.isl (b.map GL.enc) false]=some (.bool (decide (a=b))):=by
 apply pure_enter (by simp [c43])
 by_cases hl:a.length=b.length
 ·simp [c43,hl]
  refine W_for T 0 55 a.length (fun i f σ=>f 0=.isl (a.map GL.enc) false∧f 1=.isl (b.map GL.enc) false∧f 5=.int .i64 (i:Int)∧∀ j,(h1:j<a.length)→(h2:j<b.length)→j<i→a[j]=b[j]) ?_ _ _ ?_
  ·rintro i f σ hi ⟨h0,h1,h5,hall⟩
   by_cases hlt:i<a.length
   ·have hlt2:i<b.length:=by omega
    have e1:a[i]?=some a[i]:=zqF hlt
    have e2:b[i]?=some b[i]:=zqF hlt2
    have ha:=zqT hlt
    have hsz:=hs _ ha
    have hal:=a[i].args_le
    have hR:=callSameTs a[i].args b[i].args (by omega)
    have hw:IntKind.i64.wrap ((i:Int)+1)=(i:Int)+1:=wr64 (by omega) (by omega)
    have hno:¬ (a[i]=b[i])→¬ (a=b):=fun h e=>h (by subst e; rfl)
    have hyes:a[i]=b[i]→∀ j,(h1:j<a.length)→(h2:j<b.length)→j<i+1→a[j]=b[j]:=fun h j h1 h2 hj=>by
     by_cases e:j=i
     ·subst e; exact h
     ·exact hall j h1 h2 (by omega)
    simp only [gl_iff a[i] b[i]] at hno hyes
    simp [h0,h1,h5,hlt,hlt2,hR,hw,e1,e2]
    repeat' (first | apply And.intro | intro _)
    all_goals first | exact hno (by grind) | exact hyes (by grind) _ (by assumption) (by assumption) (by assumption) | omega | grind
   ·have he:i=a.length:=by omega
    subst he
    have:a=b:=List.ext_getElem hl fun j h1 h2=>hall j h1 h2 h1
    simp [h0,h1,h5,this]
  ·simp
 ·have:¬ (a=b):=fun e=>hl (by rw [e])
  have h2:¬ ((a.length:Int)=(b.length:Int)):=by omega
  simp [c43,h2,this]
theorem callSameLs (a b:List GL) (hla:a.length≤1000000) (hs:∀ x∈a,x.size≤100000000000) (bs:Nat) (σ:Heap):callT T 43 [.isl (a.map GL.enc) false,.isl (b.map GL.enc) false] bs σ=some (.bool (sym (decide (a=b))),σ):=call_clean rfl rfl rfl (by simp) (sameLs_ok a b hla hs)
open Go.Mach
theorem r4upper_ok (t:ByteArray) (ht:t.size≤100000000000):pureT T c123 [.str t]=some (.bool (varOK t)):=by
 apply pure_enter (by simp [c123])
 have hn:varOK t=true↔(∀ i,i<t.size→varG t i=true)∧t.size≠0∧t.size≤16:=varOK_iff t
 by_cases h0:1≤t.size
 ·have hno0:¬ (65≤bt t 0∧bt t 0≤90)→varOK t=false:=fun h=>varOK_no (i:=0) (by omega) (by omega)
  have hb:=@idx_bt t 0 (by omega)
  have hb':t.data[0]?.map (fun b=>(AV.int .u8 (b.toNat:Int)))=some (.int .u8 (bt t 0)):=by simpa using hb
  have hlong:¬ t.size≤16→varOK t=false:=fun h=>by rw [Bool.eq_false_iff,Ne,hn]; omega
  simp [c123,hb']
  refine ⟨fun h=>by omega,fun h=>⟨fun h=>hlong (by omega),fun h2=>⟨fun h=>hno0 (by omega),fun h3=>⟨fun h=>hno0 (by omega),fun h4=>?_⟩⟩⟩⟩
  refine W_for T 0 59 (t.size - 1) (fun i f σ=>f 0=.str t∧f 3=.int .i64 ((i:Int)+1)∧σ=[]∧∀ j,j<i+1→varG t j=true) ?_ _ _ ?_
  ·rintro i f σ hi ⟨h0,h3,rfl,hall⟩
   by_cases hlt:i+1<t.size
   ·have hno:=@varOK_no t (i+1) hlt
    have hyes:_→∀ j,j<i+1+1→varG t j=true:=fun h j hj=>by
     by_cases e:j=i+1
     ·subst e; exact (varG_iff t (i+1)).2 h
     ·exact hall j (by omega)
    have hb:=@idx_bt t (i+1) hlt
    have hb':t.data[i+1]?.map (fun b=>(AV.int .u8 (b.toNat:Int)))=some (.int .u8 (bt t (i+1))):=by simpa using hb
    have hw:IntKind.i64.wrap ((i:Int)+1+1)=(i:Int)+1+1:=wr64 (by omega) (by omega)
    have hc1:((i:Int)+1<(t.size:Int)):=by omega
    have hc2:(0:Int)≤(i:Int)+1:=by omega
    have hc3:((i:Int)+1).toNat=i+1:=by omega
    have hc4:i<t.size - 1:=by omega
    simp [h0,h3,hc1,hc2,hc3,hb',hw,hc4]
    repeat' (first | apply And.intro | intro _)
    all_goals first | exact hno (by omega) | exact hyes (by omega) _ (by assumption)
   ·have hc1:¬ ((i:Int)+1<(t.size:Int)):=by omega
    simp [h0,h3,hc1]
    exact hn.2 ⟨fun j hj=>hall j (by omega),by omega,by omega⟩
  ·simp
   exact (varG_iff t 0).2 (by omega)
 ·have:t.size=0:=by omega
  have hf:varOK t=false:=by rw [Bool.eq_false_iff,Ne,hn]; omega
  simp [c123,this,hf]
theorem callR4Upper (t:ByteArray) (ht:t.size≤100000000000) (bs:Nat) (σ:Heap):callT T 123 [.str t] bs σ=some (.bool (sym (varOK t)),σ):=call_clean rfl rfl rfl rfl (r4upper_ok t ht)
theorem r4rel_ok (t:ByteArray) (ht:t.size≤100000000000):pureT T c62 [.str t]=some (.bool (relOK t)):=by
 have h1:=refName_call t ht
 have h2:=refArity t
 apply pure_enter (by simp [c62])
 unfold relOK sMat
 generalize nameOK t=b at *
 cases b
 ·simp [c62,h1,h2]
 ·by_cases h3:arityOf t<0
  ·by_cases h4:t=⟨#[109,97,116,101,114,105,97,108,105,122,101]⟩
   ·simp [c62,h1,h2,h3,←h4]
   ·simp [c62,h1,h2,h3,h4]
  ·simp [c62,h1,h2,h3]
theorem callR4Rel (t:ByteArray) (ht:t.size≤100000000000) (bs:Nat) (σ:Heap):callT T 62 [.str t] bs σ=some (.bool (sym (relOK t)),σ):=call_clean rfl rfl rfl rfl (r4rel_ok t ht)
theorem r4none_ok (v:GV):pureT T c161 [v.enc]=some (.bool (bareV v)):=by
 obtain ⟨k,n,s,l⟩:=v
 apply pure_enter (by simp [c161])
 unfold bareV
 simp [c161,GV.enc_eq,GV.kind,GV.num,GV.text,GV.items]
 repeat' (first | apply And.intro | intro _)
 all_goals first | (simp_all; done) | omega | grind
theorem callR4None (v:GV) (bs:Nat) (σ:Heap):callT T 161 [v.enc] bs σ=some (.bool (sym (bareV v)),σ):=call_clean rfl rfl rfl (by simp) (r4none_ok v)
theorem r4in_ok (l:List ByteArray) (s:ByteArray) (hl:l.length≤100000000000):pureT T c96 [.isl (l.map .str) false,.str s]=some (.bool (l.any fun x=>decide (x=s))):=by
 apply pure_enter (by simp [c96])
 simp [c96]
 refine W_for T 0 18 l.length (fun i f σ=>f 0=.isl (l.map .str) false∧f 1=.str s∧f 5=.int .i64 (i:Int)∧∀ j,(hj:j<l.length)→j<i→l[j]≠s) ?_ _ _ ?_
 ·rintro i f σ hi ⟨h0,h1,h5,hall⟩
  by_cases hlt:i<l.length
  ·have e1:l[i]?=some l[i]:=zqF hlt
   have hw:IntKind.i64.wrap ((i:Int)+1)=(i:Int)+1:=wr64 (by omega) (by omega)
   by_cases hp:l[i]=s
   ·have:∃ x∈l,x=s:=⟨_,zqT hlt,hp⟩
    simp [h0,h1,h5,hlt,e1,hp,hw]
    simpa using this
   ·simp [h0,h1,h5,hlt,e1,hp,hw]
    intro j hj hji
    by_cases e:j=i
    ·subst e; exact hp
    ·exact hall j hj (by omega)
  ·have he:i=l.length:=by omega
   subst he
   simp [h0,h1,h5]
   intro x hx e
   obtain ⟨j,hj,rfl⟩:=zqS hx
   exact hall j hj hj e
 ·simp
theorem inOps (s:ByteArray) (o:AObj) (bs:Nat):callT T 96 [.sl 1 0 3 1 false,.str s] bs [o,.cells [.str ⟨#[43]⟩,.str ⟨#[45]⟩,.str ⟨#[42]⟩] 0 false]=some (.bool (sym (opOK s)),[o,.cells [.str ⟨#[43]⟩,.str ⟨#[45]⟩,.str ⟨#[42]⟩] 0 false]):=by
 have h:=r4in_ok [⟨#[43]⟩,⟨#[45]⟩,⟨#[42]⟩] s (by decide)
 have e:([⟨#[43]⟩,⟨#[45]⟩,⟨#[42]⟩]:List ByteArray).any (fun x=>decide (x=s))=opOK s:=by
  rw [Bool.eq_iff_iff]; simp only [List.any_cons,List.any_nil,Bool.or_false,Bool.or_eq_true,decide_eq_true_eq,opOK]; grind
 rw [e] at h
 exact call_scal rfl rfl rfl h rfl (by simp) rfl
theorem r4term_ok:∀ (d:Nat) (t:GT),d≤100→t.size≤100000000000→pureT T c145 [t.enc,.int .i64 (d:Int)]=some (.bool (termR d t)):=by
 intro d
 induction d with
 | zero=>
  intro t hd hs
  apply pure_enter (by simp [c145])
  simp [c145,termR]
 | succ d ih=>
  intro t hd hs
  obtain ⟨k,n,⟨vk,vn,vt,vl⟩,l⟩:=t
  simp only [GT.size,GV.size] at hs
  have hlen:=GT.len_sizes l
  have hw:IntKind.i64.wrap (d:Int)=(d:Int):=wr64 (by omega) (by omega)
  have hr:∀ x∈l,∀ bs σ,callT T 145 [x.enc,.int .i64 d] bs σ=some (.bool (sym (termR d x)),σ):=fun x hx bs σ=>call_clean rfl rfl rfl (by simp) (ih x (by omega) (by have:=(GT.sizes_mem hx).1; omega))
  have hvar:=callR4Upper n (by omega)
  have hnone:=callR4None (.mk vk vn vt vl)
  have hval:=refRight (.mk vk vn vt vl) (by simp only [GV.size]; omega)
  have har1:=refArity vt
  have har2:=refArity n
  have hin:=inOps n
  have hd1:¬ ((d:Int)+1<1):=by omega
  have hd2:(d:Int)+1 - 1=(d:Int):=by omega
  apply pure_enter (by simp [c145])
  by_cases h1:k=1
  ·subst h1
   simp [c145,GT.enc_eq,GT.kind,GT.name,GT.value,GT.args,GV.kind,GV.num,GV.text,GV.items,hvar,hnone,enc_mk,setRun,termR,termB,hd1]
   repeat' (first | apply And.intro | intro _)
   all_goals first | (simp_all; done) | omega | grind
  by_cases h2:k=2
  ·subst h2
   simp [c145,GT.enc_eq,GT.kind,GT.name,GT.value,GT.args,GV.kind,GV.num,GV.text,GV.items,hval,har1,enc_mk,setRun,termR,termB,hd1]
   repeat' (first | apply And.intro | intro _)
   all_goals first | (simp_all; done) | omega | grind
  by_cases h3:k=3
  ·subst h3
   have hsplit:termR (d+1) (.mk 3 n (.mk vk vn vt vl) l)=(decide (arityOf n=(l.length:Int)) && (bareV (.mk vk vn vt vl) && l.all (termR d))):=by
    rw [Bool.eq_iff_iff]; simp only [termR,termB,GT.kind,GT.name,GT.value,GT.args]
    simp
    grind
   rw [hsplit]
   generalize bareV (.mk vk vn vt vl)=b0 at *
   by_cases hc:arityOf n=(l.length:Int)
   ·simp [c145,GT.enc_eq,GT.kind,GT.name,GT.value,GT.args,GV.kind,GV.num,GV.text,GV.items,hnone,har2,hc,enc_mk,setRun,hd1]
    refine ⟨fun hb0=>?_,fun hb0=>?_⟩
    all_goals
     refine W_for T 0 111 l.length (fun i f σ=>f 1=.int .i64 ((d:Int)+1)∧f 2=.ptr 0 0∧f 9=.bool (b0 && (l.take i).all (termR d))∧f 10=.int .i64 (i:Int)∧∃ rest,σ=[.cells [.int .i64 3,.str n,.int .i64 vk,.int .i64 vn,.str vt,.isl (GV.encs vl) false,.isl (GT.encs l) false] 0 false]++rest) ?_ _ _ ?_
     ·rintro i f σ hi ⟨g1,g2,g9,g10,rest,rfl⟩
      by_cases hlt:i<l.length
      ·have hm:=zqT hlt
       have hrx:=hr l[i] hm
       have hw2:IntKind.i64.wrap ((i:Int)+1)=(i:Int)+1:=wr64 (by omega) (by omega)
       have htk:(l.take (i+1)).all (termR d)=((l.take i).all (termR d) && termR d l[i]):=by
        rw [List.take_add_one,zqF hlt,List.all_append]; simp
       rw [htk,←Bool.and_assoc]
       generalize (b0 && (l.take i).all (termR d))=b1 at *
       generalize termR d l[i]=b2 at *
       cases b1 <;> simp [g1,g2,g9,g10,hlt,hrx,hw,hw2,←GT.enc_eq,hd2]
      ·have he:i=l.length:=by omega
       subst he
       rw [List.take_length] at g9
       simp [g1,g2,g9,g10]
     ·simp [hb0]
   ·simp [c145,GT.enc_eq,GT.kind,GT.name,GT.value,GT.args,GV.kind,GV.num,GV.text,GV.items,har2,hc,enc_mk,setRun,hd1]
  by_cases h4:k=4
  ·subst h4
   have hsplit:termR (d+1) (.mk 4 n (.mk vk vn vt vl) l)=(opOK n && decide (l.length=2) && (bareV (.mk vk vn vt vl) && l.all (termR d))):=by
    rw [Bool.eq_iff_iff]; simp only [termR,termB,GT.kind,GT.name,GT.value,GT.args]
    simp
    grind
   rw [hsplit]
   generalize bareV (.mk vk vn vt vl)=b0 at *
   by_cases hc:opOK n=true∧l.length=2
   ·have hc2:(l.length:Int)=2:=by omega
    simp [c145,GT.enc_eq,GT.kind,GT.name,GT.value,GT.args,GV.kind,GV.num,GV.text,GV.items,hnone,hin,hc,hc2,enc_mk,setRun,hd1]
    refine ⟨fun hb0=>?_,fun hb0=>?_⟩
    all_goals
     refine W_for T 0 111 l.length (fun i f σ=>f 1=.int .i64 ((d:Int)+1)∧f 2=.ptr 0 0∧f 9=.bool (b0 && (l.take i).all (termR d))∧f 10=.int .i64 (i:Int)∧∃ rest,σ=[.cells [.int .i64 4,.str n,.int .i64 vk,.int .i64 vn,.str vt,.isl (GV.encs vl) false,.isl (GT.encs l) false] 0 false]++rest) ?_ _ _ ?_
     ·rintro i f σ hi ⟨g1,g2,g9,g10,rest,rfl⟩
      by_cases hlt:i<l.length
      ·have hm:=zqT hlt
       have hrx:=hr l[i] hm
       have hw2:IntKind.i64.wrap ((i:Int)+1)=(i:Int)+1:=wr64 (by omega) (by omega)
       have htk:(l.take (i+1)).all (termR d)=((l.take i).all (termR d) && termR d l[i]):=by
        rw [List.take_add_one,zqF hlt,List.all_append]; simp
       rw [htk,←Bool.and_assoc]
       generalize (b0 && (l.take i).all (termR d))=b1 at *
       generalize termR d l[i]=b2 at *
       cases b1 <;> simp [g1,g2,g9,g10,hlt,hrx,hw,hw2,←GT.enc_eq,hd2]
      ·have he:i=l.length:=by omega
       subst he
       rw [List.take_length] at g9
       simp [g1,g2,g9,g10]
     ·simp [hb0]
   ·have hf:(opOK n && decide (l.length=2))=false:=by rw [Bool.eq_false_iff]; simpa using hc
    have hc3:opOK n=true→¬ ((l.length:Int)=2):=fun h e=>hc ⟨h,by omega⟩
    rw [hf]
    cases ho:opOK n
    ·rw [ho] at hin
     simp [c145,GT.enc_eq,GT.kind,GT.name,GT.value,GT.args,GV.kind,GV.num,GV.text,GV.items,hin,enc_mk,setRun,hd1]
    ·have hc4:=hc3 ho
     rw [ho] at hin
     simp [c145,GT.enc_eq,GT.kind,GT.name,GT.value,GT.args,GV.kind,GV.num,GV.text,GV.items,hin,hc4,enc_mk,setRun,hd1]
  simp [c145,GT.enc_eq,GT.kind,GT.name,GT.value,GT.args,GV.kind,GV.num,GV.text,GV.items,termR,termB,hd1,h1,h2,h3,h4]
open Go.Mach
theorem callR4Term (t:GT) (hs:t.size≤100000000000) (bs:Nat) (σ:Heap):callT T 145 [t.enc,.int .i64 8] bs σ=some (.bool (sym (termR 8 t)),σ):=call_clean rfl rfl rfl (by simp) (r4term_ok 8 t (by omega) hs)
theorem r4terms_ok (l:List GT) (hs:GT.sizes l≤10000000000):pureT T c122 [.isl (GT.encs l) false]=some (.bool (l.all (termR 8))):=by
 have hlen:=GT.len_sizes l
 apply pure_enter (by simp [c122])
 simp [c122]
 refine W_for T 0 18 l.length (fun i f σ=>f 0=.isl (GT.encs l) false∧f 3=.int .i64 (i:Int)∧∀ j,(hj:j<l.length)→j<i→termR 8 l[j]=true) ?_ _ _ ?_
 ·rintro i f σ hi ⟨h0,h3,hall⟩
  by_cases hlt:i<l.length
  ·have hm:=zqT hlt
   have hw:IntKind.i64.wrap ((i:Int)+1)=(i:Int)+1:=wr64 (by omega) (by omega)
   have hc:=callR4Term l[i] (by have:=(GT.sizes_mem hm).1; omega)
   cases hp:termR 8 l[i]
   ·rw [hp] at hc
    simp [h0,h3,hlt,hc,hw,←GT.enc_eq]
    exact ⟨_,hm,hp⟩
   ·rw [hp] at hc
    simp [h0,h3,hlt,hc,hw,←GT.enc_eq]
    intro j hj hji
    by_cases e:j=i
    ·subst e; exact hp
    ·exact hall j hj (by omega)
  ·have he:i=l.length:=by omega
   subst he
   simp [h0,h3]
   intro x hx
   obtain ⟨j,hj,rfl⟩:=zqS hx
   exact hall j hj hj
 ·simp
theorem callR4Terms (l:List GT) (hs:GT.sizes l≤10000000000) (bs:Nat) (σ:Heap):callT T 122 [.isl (GT.encs l) false] bs σ=some (.bool (sym (l.all (termR 8))),σ):=call_clean rfl rfl rfl (by simp) (r4terms_ok l hs)
theorem r4args_ok (l:List GT) (hs:GT.sizes l≤10000000000):pureT T c94 [.isl (GT.encs l) false]=some (.bool (argsB l)):=by
 have hall:=callR4Terms l hs
 have hlen:=GT.len_sizes l
 apply pure_enter (by simp [c94])
 unfold argsB headOK
 generalize l.all (termR 8)=b at *
 match l with
 | []=>
  simp only [GT.encs] at hall
  simp [c94,hall]
 | x :: l=>
  simp only [zqU] at *
  simp [c94,hall]
  repeat' (first | apply And.intro | intro _)
  all_goals first | (simp_all; done) | omega | grind
theorem callR4Args (l:List GT) (hs:GT.sizes l≤10000000000) (bs:Nat) (σ:Heap):callT T 94 [.isl (GT.encs l) false] bs σ=some (.bool (sym (argsB l)),σ):=call_clean rfl rfl rfl (by simp) (r4args_ok l hs)
theorem inSix (s:ByteArray) (o:AObj) (bs:Nat):callT T 96 [.sl 1 0 6 1 false,.str s] bs [o,.cells [.str ⟨#[61,61]⟩,.str ⟨#[33,61]⟩,.str ⟨#[60]⟩,.str ⟨#[60,61]⟩,.str ⟨#[62]⟩,.str ⟨#[62,61]⟩] 0 false] =
  some (.bool (sym (tOK s)),[o,.cells [.str ⟨#[61,61]⟩,.str ⟨#[33,61]⟩,.str ⟨#[60]⟩,.str ⟨#[60,61]⟩,.str ⟨#[62]⟩,.str ⟨#[62,61]⟩] 0 false]):=by
 have h:=r4in_ok six s (by decide)
 have e:six.any (fun x=>decide (x=s))=tOK s:=by rw [←six_any]; congr 1; funext x; exact decide_eq_decide.2 ⟨Eq.symm,Eq.symm⟩
 rw [e] at h
 exact call_scal rfl rfl rfl h rfl (by simp) rfl
theorem r4lit_ok (x:GL) (hs:x.size≤10000000000):pureT T c95 [x.enc]=some (.bool (litB x)):=by
 have h1:=x.name_le
 have h2:=x.args_le
 obtain ⟨k,n,l⟩:=x
 simp only at h1 h2
 have hrel:=callR4Rel n (by omega)
 have hvar:=callR4Upper n (by omega)
 have hargs:=callR4Args l (by omega)
 have hall:=callR4Terms l (by omega)
 have hcon:=inSix n
 apply pure_enter (by simp [c95])
 unfold litB
 by_cases k1:k=1
 ·subst k1
  simp [c95,GL.enc_eq,hrel,hargs]
  cases relOK n <;> simp
 by_cases k2:k=2
 ·subst k2
  simp [c95,GL.enc_eq,hrel,hargs]
  cases relOK n <;> simp
 by_cases k3:k=3
 ·subst k3
  generalize l.all (termR 8)=b at *
  simp [c95,GL.enc_eq,hcon,hall]
  repeat' (first | apply And.intro | intro _)
  all_goals first | (simp_all; done) | omega | grind
 by_cases k4:k=4
 ·subst k4
  generalize l.all (termR 8)=b at *
  simp [c95,GL.enc_eq,hvar,hall]
  repeat' (first | apply And.intro | intro _)
  all_goals first | (simp_all; done) | omega | grind
 simp [c95,GL.enc_eq,k1,k2,k3,k4]
theorem callR4Lit (x:GL) (hs:x.size≤10000000000) (bs:Nat) (σ:Heap):callT T 95 [x.enc] bs σ=some (.bool (sym (litB x)),σ):=call_clean rfl rfl rfl (by simp) (r4lit_ok x hs)
open Go.Mach
theorem r4tup_ok (x:GU) (hs:x.size≤10000000000):pureT T c63 [x.enc]=some (.bool (tupB x)):=by
 have h1:=x.name_le
 have h2:=x.args_le
 obtain ⟨n,l⟩:=x
 simp only at h1 h2
 have hrel:=callR4Rel n (by omega)
 have hlen:=len_sizes l
 apply pure_enter (by simp [c63])
 unfold tupB
 simp only
 cases hn:relOK n
 ·rw [hn] at hrel
  simp [c63,GU.enc_eq,hrel]
 rw [hn] at hrel
 match l with
 | []=>simp [c63,GU.enc_eq,hrel]
 | x :: l=>
  by_cases h8:(x :: l).length≤8
  ·by_cases hk:x.kind=3
   ·have d1:¬ ((((x :: l).length:Nat):Int)<1):=by simp only [zqU]; omega
    have d2:¬ (8<(((x :: l).length:Nat):Int)):=by omega
    have e0:(x :: l)[0]?=some x:=rfl
    have hsp:(true && decide (1≤(x :: l).length∧(x :: l).length≤8) && decide (x.kind=3) && (x :: l).all rightT)=(x :: l).all rightT:=by
     have:1≤(x :: l).length∧(x :: l).length≤8:=⟨by simp,h8⟩
     simp only [this,hk,and_self,decide_true,Bool.true_and]
    simp only [hsp]
    generalize hL:x :: l=L at *
    simp [c63,GU.enc_eq,hrel,d1,d2,e0,hk]
    refine W_for T 0 46 L.length (fun i f σ=>f 1=.ptr 0 0∧f 4=.int .i64 (i:Int)∧σ=[.cells [.str n,.isl (GV.encs L) false] 0 false]∧∀ j,(hj:j<L.length)→j<i→rightT L[j]=true) ?_ _ _ ?_
    ·rintro i f σ hi ⟨g1,g4,rfl,hall⟩
     by_cases hlt:i<L.length
     ·have hm:=zqT hlt
      have hw:IntKind.i64.wrap ((i:Int)+1)=(i:Int)+1:=wr64 (by omega) (by omega)
      have hc:=refRight L[i] (by have:=(sizes_mem hm).1; omega)
      cases hp:rightT L[i]
      ·rw [hp] at hc
       simp [g1,g4,hlt,hc,hw,←GV.enc_eq]
       exact ⟨_,hm,hp⟩
      ·rw [hp] at hc
       simp [g1,g4,hlt,hc,hw,←GV.enc_eq]
       intro j hj hji
       by_cases e:j=i
       ·subst e; exact hp
       ·exact hall j hj (by omega)
     ·have he:i=L.length:=by omega
      subst he
      simp [g1,g4]
      intro y hy
      obtain ⟨j,hj,rfl⟩:=zqS hy
      exact hall j hj hj
    ·simp
   ·simp only [zqU] at *
    have d1:¬ ((l.length:Int)+1<1):=by omega
    have d2:¬ (8<(l.length:Int)+1):=by omega
    simp [c63,GU.enc_eq,hrel,d1,d2,hk]
  ·simp only [zqU] at *
   have d1:¬ ((l.length:Int)+1<1):=by omega
   have d2:8<(l.length:Int)+1:=by omega
   simp [c63,GU.enc_eq,hrel,d1,d2]
   try omega
theorem callR4Tup (x:GU) (hs:x.size≤10000000000) (bs:Nat) (σ:Heap):callT T 63 [x.enc] bs σ=some (.bool (sym (tupB x)),σ):=call_clean rfl rfl rfl (by simp) (r4tup_ok x hs)
open Go.Mach
theorem inThree (s:ByteArray) (o:AObj) (bs:Nat):callT T 96 [.sl 1 0 3 1 false,.str s] bs [o,.cells [.str sMin,.str sMax,.str sCount] 0 false]=some (.bool (sym (decide (s=sMin∨s=sMax∨s=sCount))),[o,.cells [.str sMin,.str sMax,.str sCount] 0 false]):=by
 have h:=r4in_ok [sMin,sMax,sCount] s (by decide)
 have e:([sMin,sMax,sCount]:List ByteArray).any (fun x=>decide (x=s))=decide (s=sMin∨s=sMax∨s=sCount):=by
  rw [Bool.eq_iff_iff]; simp only [List.any_cons,List.any_nil,Bool.or_false,Bool.or_eq_true,decide_eq_true_eq]; grind
 rw [e] at h
 exact call_scal rfl rfl rfl h rfl (by simp) rfl
theorem r4rule_ok (x:GR) (hs:x.size≤10000000000):pureT T c64 [x.enc]=some (.bool (ruleB x)):=by
 have h1:=x.label_le
 have h2:=x.head_le
 have h3:=x.args_le
 have h4:=x.agg_le
 have h5:=x.body_len
 have h6:=fun y hy=>x.body_mem (y:=y) hy
 obtain ⟨lab,hd,l,agg,at',body⟩:=x
 simp only at h1 h2 h3 h4 h5 h6
 have hlen:=GT.len_sizes l
 have hr1:=callR4Rel lab (by omega)
 have hr2:=callR4Rel hd (by omega)
 have hargs:=callR4Args l (by omega)
 have hin:=inThree agg
 apply pure_enter (by simp [c64])
 unfold ruleB
 simp only
 generalize relOK lab=b1 at *
 generalize relOK hd=b2 at *
 generalize argsB l=b3 at *
 cases b1
 ·simp [c64,GR.enc_eq,hr1,hr2,hargs]
 cases b2
 ·simp [c64,GR.enc_eq,hr1,hr2,hargs]
 cases b3
 ·simp [c64,GR.enc_eq,hr1,hr2,hargs]
 by_cases c1:body.length<1
 ·have c1':(body.length:Int)<1:=by omega
  simp [c64,GR.enc_eq,hr1,hr2,hargs,c1']
  omega
 by_cases c2:8<body.length
 ·have c1':¬ (body.length:Int)<1:=by omega
  have c2':8<(body.length:Int):=by omega
  simp [c64,GR.enc_eq,hr1,hr2,hargs,c1',c2']
  omega
 have c1':¬ (body.length:Int)<1:=by omega
 have c2':¬ 8<(body.length:Int):=by omega
 have c3:1≤body.length∧body.length≤8:=by omega
 simp only [c3,and_self,decide_true,Bool.and_true,Bool.true_and]
 simp [c64,GR.enc_eq,hr1,hr2,hargs,c1',c2']
 refine W_for T 0 89 body.length (fun i f σ=>f 1=.ptr 0 0∧f 6=.int .i64 (i:Int)∧σ=[.cells [.str lab,.str hd,.isl (GT.encs l) false,.str agg,.int .i64 at',.isl (body.map GL.enc) false] 0 false]∧∀ j,(hj:j<body.length)→j<i→litB body[j]=true) ?_ _ _ ?_
 ·rintro i f σ hi ⟨g1,g6,rfl,hall⟩
  by_cases hlt:i<body.length
  ·have hm:=zqT hlt
   have e1:body[i]?=some body[i]:=zqF hlt
   have hw:IntKind.i64.wrap ((i:Int)+1)=(i:Int)+1:=wr64 (by omega) (by omega)
   have hc:=callR4Lit body[i] (by have:=h6 _ hm; omega)
   cases hp:litB body[i]
   ·rw [hp] at hc
    have hf:body.all litB=false:=by rw [Bool.eq_false_iff]; intro h; rw [zqQ.1 h _ hm] at hp; cases hp
    simp [g1,g6,hlt,e1,hc,hw,hf,←GL.enc_eq]
   ·rw [hp] at hc
    simp [g1,g6,hlt,e1,hc,hw,←GL.enc_eq]
    intro j hj hji
    by_cases e:j=i
    ·subst e; exact hp
    ·exact hall j hj (by omega)
  ·have he:i=body.length:=by omega
   subst he
   have hf:body.all litB=true:=by
    rw [zqQ]; intro y hy
    obtain ⟨j,hj,rfl⟩:=zqS hy
    exact hall j hj hj
   unfold aggB
   simp only [hf,Bool.true_and]
   by_cases g0:agg=⟨#[]⟩
   ·subst g0
    simp [g1,g6]
   rw [if_neg g0]
   by_cases g2:agg=sMin∨agg=sMax∨agg=sCount
   ·by_cases g3:1≤at'∧at'<(l.length:Int)
    ·obtain ⟨t,ht⟩:∃ t,l[at'.toNat]?=some t:=⟨_,zqF (by omega)⟩
     have g4:0≤at':=by omega
     simp [g1,g6,g0,hin,g2,g3,g4,ht]
    ·simp [g1,g6,g0,hin,g2,g3]
     try grind
   ·simp [g1,g6,g0,hin,g2]
 ·simp
theorem callR4Rule (x:GR) (hs:x.size≤10000000000) (bs:Nat) (σ:Heap):callT T 64 [x.enc] bs σ=some (.bool (sym (ruleB x)),σ):=call_clean rfl rfl rfl (by simp) (r4rule_ok x hs)
open Go.Mach
theorem all_no {α:Type} {p:α→Bool} {l:List α} {x:α} (h:x∈l) (hp:p x=false):l.all p=false:=by
 rw [Bool.eq_false_iff]; intro hh; rw [zqQ.1 hh _ h] at hp; cases hp
theorem all_yes {α:Type} {p:α→Bool} {l:List α} (h:∀ j,(hj:j<l.length)→j<l.length→p l[j]=true):l.all p=true:=by
 rw [zqQ]; intro y hy
 obtain ⟨j,hj,rfl⟩:=zqS hy
 exact h j hj hj
theorem all_step {α:Type} {p:α→Bool} {l:List α} {i:Nat} (hlt:i<l.length) (hp:p l[i]=true) (h:∀ j,(hj:j<l.length)→j<i→p l[j]=true):∀ j,(hj:j<l.length)→j<i+1→p l[j]=true:=fun j hj hji=>by
 by_cases e:j=i
 ·subst e; exact hp
 ·exact h j hj (by omega)
set_option maxRecDepth 100000 in
theorem r4right_ok (x:GP) (hs:x.size≤10000000000):pureT T c37 [x.enc]=some (.bool (progB x)):=by
 have m1:=fun y hy=>x.decls_mem (y:=y) hy
 have m2:=fun y hy=>x.facts_mem (y:=y) hy
 have m3:=fun y hy=>x.rules_mem (y:=y) hy
 obtain ⟨ds,us,rs⟩:=x
 simp only at m1 m2 m3
 apply pure_enter (by simp [c37])
 unfold progB
 simp only
 by_cases c1:ds.length≤64∧us.length≤64∧rs.length≤64
 ·have d1:¬ (64<(ds.length:Int)):=by omega
  have d2:¬ (64<(us.length:Int)):=by omega
  have d3:¬ (64<(rs.length:Int)):=by omega
  simp only [c1,and_self,decide_true,Bool.true_and]
  simp [c37,GP.enc_eq,d1,d2,d3]
  refine W_for T 0 89 ds.length (fun i f σ=>f 1=.ptr 0 0∧f 3=.int .i64 (i:Int)∧σ=[.cells [.isl (ds.map GD.enc) false,.isl (us.map GU.enc) false,.isl (rs.map GR.enc) false] 0 false]∧∀ j,(hj:j<ds.length)→j<i→declB ds[j]=true) ?_ _ _ ?_
  rotate_left 1
  ·simp
  rintro i f σ hi ⟨g1,g3,rfl,hall⟩
  by_cases hlt:i<ds.length
  ·have hm:=zqT hlt
   have e1:ds[i]?=some ds[i]:=zqF hlt
   have hw:IntKind.i64.wrap ((i:Int)+1)=(i:Int)+1:=wr64 (by omega) (by omega)
   have hrel:=callR4Rel ds[i].name (by have:=m1 _ hm; have:=ds[i].name_le; omega)
   cases hp:declB ds[i]
   ·have hf:=all_no hm hp
    have hp2:¬ (relOK ds[i].name=true∧1≤ds[i].arity∧ds[i].arity≤8):=by simpa [declB] using hp
    simp [g1,g3,hlt,e1,hrel,hw,hf]
    grind
   ·have hp2:relOK ds[i].name=true∧1≤ds[i].arity∧ds[i].arity≤8:=by simpa [declB] using hp
    have p1:¬ (ds[i].arity<1):=by omega
    have p2:¬ (8<ds[i].arity):=by omega
    rw [hp2.1] at hrel
    simp [g1,g3,hlt,e1,hrel,hw,p1,p2]
    exact all_step hlt hp hall
  ·have he:i=ds.length:=by omega
   subst he
   have hf1:=all_yes hall
   simp only [hf1,Bool.and_true]
   simp [g1,g3]
   refine W_for T 0 89 us.length (fun i f σ=>f 1=.ptr 0 0∧f 5=.int .i64 (i:Int)∧σ=[.cells [.isl (ds.map GD.enc) false,.isl (us.map GU.enc) false,.isl (rs.map GR.enc) false] 0 false]∧∀ j,(hj:j<us.length)→j<i→tupB us[j]=true) ?_ _ _ ?_
   rotate_left 1
   ·simp [g1]
   clear g1 g3
   rintro i f σ hi ⟨g1,g3,rfl,hall⟩
   by_cases hlt:i<us.length
   ·have hm:=zqT hlt
    have e1:us[i]?=some us[i]:=zqF hlt
    have hw:IntKind.i64.wrap ((i:Int)+1)=(i:Int)+1:=wr64 (by omega) (by omega)
    have hc:=callR4Tup us[i] (by have:=m2 _ hm; omega)
    cases hp:tupB us[i]
    ·have hf:=all_no hm hp
     rw [hp] at hc
     simp [g1,g3,hlt,e1,hc,hw,hf,←GU.enc_eq]
    ·rw [hp] at hc
     simp [g1,g3,hlt,e1,hc,hw,←GU.enc_eq]
     exact all_step hlt hp hall
   ·have he:i=us.length:=by omega
    subst he
    have hf2:=all_yes hall
    simp only [hf2,Bool.true_and]
    simp [g1,g3]
    refine W_for T 0 89 rs.length (fun i f σ=>f 1=.ptr 0 0∧f 7=.int .i64 (i:Int)∧σ=[.cells [.isl (ds.map GD.enc) false,.isl (us.map GU.enc) false,.isl (rs.map GR.enc) false] 0 false]∧∀ j,(hj:j<rs.length)→j<i→ruleB rs[j]=true) ?_ _ _ ?_
    rotate_left 1
    ·simp [g1]
    clear g1 g3
    rintro i f σ hi ⟨g1,g3,rfl,hall⟩
    by_cases hlt:i<rs.length
    ·have hm:=zqT hlt
     have e1:rs[i]?=some rs[i]:=zqF hlt
     have hw:IntKind.i64.wrap ((i:Int)+1)=(i:Int)+1:=wr64 (by omega) (by omega)
     have hc:=callR4Rule rs[i] (by have:=m3 _ hm; omega)
     cases hp:ruleB rs[i]
     ·have hf:=all_no hm hp
      rw [hp] at hc
      simp [g1,g3,hlt,e1,hc,hw,hf,←GR.enc_eq]
     ·rw [hp] at hc
      simp [g1,g3,hlt,e1,hc,hw,←GR.enc_eq]
      exact all_step hlt hp hall
    ·have he:i=rs.length:=by omega
     subst he
     have hf3:=all_yes hall
     simp [g1,g3,hf3]
 ·have hf:decide (ds.length≤64∧us.length≤64∧rs.length≤64)=false:=decide_eq_false c1
  simp only [hf,Bool.false_and]
  by_cases d1:64<(ds.length:Int)
  ·simp [c37,GP.enc_eq,d1]
  by_cases d2:64<(us.length:Int)
  ·simp [c37,GP.enc_eq,d1,d2]
  have d3:64<(rs.length:Int):=by omega
  simp [c37,GP.enc_eq,d1,d2,d3]
theorem callR4Right (x:GP) (hs:x.size≤10000000000) (bs:Nat) (σ:Heap):callT T 37 [x.enc] bs σ=some (.bool (sym (progB x)),σ):=call_clean rfl rfl rfl (by simp) (r4right_ok x hs)
open Go.Mach
def joinB (ls:List ByteArray) (sep:ByteArray):List UInt8:=joinF (fun _ (x:ByteArray)=>x.data.toList) sep.data.toList 0 ls
theorem S_ap (a:List UInt8) (b:ByteArray):S a++b=S (a++b.data.toList):=bytes_ext (by simp [S])
theorem S_sz (a:List UInt8):(S a).size=a.length:=rfl
theorem joined_ok (ls:List ByteArray) (sep:ByteArray) (hl:ls.length≤1000000) (hb:(joinB ls sep).length≤1000000000000):pureT T c100 [.isl (ls.map .str) false,.str sep]=some (.str (S (joinB ls sep))):=by
 apply pure_enter (by simp [c100])
 simp [c100]
 refine W_for T 0 25 ls.length (fun i f σ=>f 0=.isl (ls.map .str) false∧f 1=.str sep∧f 5=.str (S (joinF (fun _ (x:ByteArray)=>x.data.toList) sep.data.toList 0 (ls.take i)))∧f 6=.int .i64 (i:Int)) ?_ _ _ ?_
 ·rintro i f σ hi ⟨g0,g1,g5,g6⟩
  by_cases hlt:i<ls.length
  ·have e1:ls[i]?=some ls[i]:=zqF hlt
   have hw:IntKind.i64.wrap ((i:Int)+1)=(i:Int)+1:=wr64 (by omega) (by omega)
   have hj:=joinF_take (fun _ (x:ByteArray)=>x.data.toList) sep.data.toList ls i hlt
   have hle:=joinF_le (fun _ (x:ByteArray)=>x.data.toList) sep.data.toList ls (i+1)
   have hb':(joinF (fun _ (x:ByteArray)=>x.data.toList) sep.data.toList 0 ls).length≤1000000000000:=hb
   rw [hj] at hle ⊢
   generalize joinF (fun _ (x:ByteArray)=>x.data.toList) sep.data.toList 0 (ls.take i)=cur at *
   have hn:ls[i].data.toList.length=ls[i].size:=by simp
   have hn2:sep.data.toList.length=sep.size:=by simp
   by_cases h0:i=0
   ·have h0':¬ (0<i):=by omega
    rw [if_pos h0] at hle ⊢
    simp only [zqJ,List.length_nil,hn] at hle
    have q:(cur.length:Int)+(ls[i].size:Int)≤9223372036854775807:=by omega
    simp [g0,g1,g5,g6,hlt,e1,hw,h0',S_sz,S_ap,q]
   ·have h0':0<i:=by omega
    rw [if_neg h0] at hle ⊢
    simp only [zqJ,hn,hn2] at hle
    have q0:(cur.length:Int)+(sep.size:Int)≤9223372036854775807:=by omega
    have q:(cur.length:Int)+(sep.size:Int)+(ls[i].size:Int)≤9223372036854775807:=by omega
    simp [g0,g1,g5,g6,hlt,e1,hw,h0',S_sz,S_ap,q0,q]
  ·have he:i=ls.length:=by omega
   subst he
   rw [List.take_length] at g5
   simp [g0,g1,g5,g6,joinB]
 ·simp [joinF,S]
open Go.Mach
theorem chkO_e1 (ρ:Regs) (σ σ':Heap) (x:AX):(chkO ρ σ σ' [x]=some ())=(objOf σ (ev ρ x)=objOf σ' (ev ρ x)):=by
 have:=sameO_iff (objOf σ (ev ρ x)) (objOf σ' (ev ρ x))
 unfold chkO
 simp only [List.all_cons,List.all_nil,Bool.and_true]
 rw [←this]
 split <;> simp_all
theorem sz_mk (a:Array UInt8):(ByteArray.mk a).size=a.size:=rfl
theorem joinB_map {α:Type} (f:α→List UInt8) (l:List α) (sep:ByteArray):joinB (l.map fun x=>S (f x)) sep=joinF (fun _=>f) sep.data.toList 0 l:=by
 unfold joinB
 suffices h:∀ i,joinF (fun _ (x:ByteArray)=>x.data.toList) sep.data.toList i (l.map fun x=>S (f x))=joinF (fun _=>f) sep.data.toList i l from h 0
 induction l with
 | nil=>intro i; rfl
 | cons x l ih=>intro i; simp only [List.map_cons,joinF,ih,S_toList]
theorem joinB_terms (l:List GT) (sep:ByteArray):joinB (l.map fun x=>S (shT x)) sep=shTs sep.data.toList l:=by rw [joinB_map,ts_join]
def TxAt (σ:Heap) (x:AV) (ls:List ByteArray):Prop:=(ls=[]∧x=.isl [] true)∨∃ k ext,x=.sl k 0 ls.length 1 false∧σ[k]?=some (.cells (ls.map .str) 0 ext)
theorem tx_close {σ:Heap} {x:AV} {ls:List ByteArray} (h:TxAt σ x ls):∃ σ1,close1 σ x=some (.isl (ls.map .str) false,σ1):=by
 rcases h with ⟨rfl,rfl⟩ | ⟨k,ext,rfl,hk⟩
 ·exact ⟨_,rfl⟩
 ·by_cases h0:ls.length=0
  ·have:ls=[]:=List.length_eq_zero_iff.1 h0
   subst this
   exact ⟨_,rfl⟩
  ·have hcl:(ls.map AV.str).all AV.clo1=true:=by rw [zqQ]; intro y hy; obtain ⟨z,_,rfl⟩:=List.mem_map.1 hy; rfl
   have hnr:(ls.map AV.str).map AV.nrm=ls.map AV.str:=by rw [List.map_map]; rfl
   have hch:=chunk_one (ls.map AV.str)
   rw [List.length_map] at hch
   refine ⟨frz σ k (0+ls.length * 1),close1_of0 ?_⟩
   unfold close0
   simp only [if_neg h0,hk,window_full (show (ls.map AV.str).length=ls.length * 1 by simp),Option.bind_some,hcl,if_true,hnr,hch,Option.map_some]
theorem tx_args {σ:Heap} {x:AV} {ls:List ByteArray} (h:TxAt σ x ls) (s:ByteArray):∃ σ1,closeT σ [x,.str s]=some ([.isl (ls.map .str) false,.str s],σ1):=by
 obtain ⟨σ1,h1⟩:=tx_close h
 refine ⟨σ1,?_⟩
 have h2:closeA σ x=close1 σ x:=by rcases h with ⟨_,rfl⟩ | ⟨k,ext,rfl,_⟩ <;> rfl
 simp [closeT,h2,h1]
theorem callJoinedX (ls:List ByteArray) (sep:ByteArray) (hl:ls.length≤1000000) (hb:(joinB ls sep).length≤1000000000000) (bs:Nat) {σ:Heap} {x:AV} (h:TxAt σ x ls) :
  callT T 100 [x,.str sep] bs σ=some (.str (S (joinB ls sep)),σ):=by
 obtain ⟨σ1,hc⟩:=tx_args h sep
 exact call_scal rfl rfl rfl (joined_ok ls sep hl hb) rfl (by simp) hc
theorem callShJoinedX (l:List GT) (sep:ByteArray) (hl:l.length≤1000000) (hb:(shTs sep.data.toList l).length≤1000000000000) (bs:Nat) {σ:Heap} {x:AV} (h:TxAt σ x (l.map fun x=>S (shT x))) :
  callT T 100 [x,.str sep] bs σ=some (.str (S (shTs sep.data.toList l)),σ):=by
 have:=callJoinedX (l.map fun x=>S (shT x)) sep (by simpa using hl) (by rw [joinB_terms]; exact hb) bs h
 rwa [joinB_terms] at this
theorem app_tx {σ:Heap} {j fz:Nat} {e:Bool} {s:ByteArray} {x:AV} {ls:List ByteArray} (h:(ls=[]∧x=.isl [] true)∨∃ k,x=.sl k 0 ls.length 1 false∧σ[k]?=some (.cells (ls.map .str) 0 true)) (hj:σ[j]?=some (.cells [.str s] fz e)) (hn:ls.length≤1000000000) :
  ∃ σ1,appendA σ 1 false 16 true x (.sl j 0 1 1 false)=some (.sl σ.length 0 (ls++[s]).length 1 false,σ1++[.cells ((ls++[s]).map .str) 0 true])∧(σ1=σ∨∃ k,x=.sl k 0 ls.length 1 false∧σ1=σ.set k .dead):=by
 have e2:=elemsN_s1 hj
 rcases h with ⟨rfl,rfl⟩ | ⟨k,rfl,hk⟩
 ·refine ⟨σ,?_,.inl rfl⟩
  have he2:elemsA σ 1 false (.isl [] true)=some []:=rfl
  have hne:¬ ((1:Nat)=0∨(0+1) * 16 > 70368744177664∨0+1 > 70368744177664):=by omega
  simp only [appendA,e2,he2,Option.bind_some,isSl,List.length_nil,List.length_singleton,if_neg hne]
  simp [flat,AV.cells]
 ·refine ⟨σ.set k .dead,?_,.inr ⟨k,rfl,rfl⟩⟩
  have hfl:∀ l:List ByteArray,flat (l.map AV.str)=l.map AV.str:=fun l=>by
   induction l with
   | nil=>rfl
   | cons a l ih=>simp only [flat,List.map_cons,List.flatMap_cons,AV.cells] at ih ⊢; rw [ih]; rfl
  have he2:elemsA σ 1 false (.sl k 0 ls.length 1 false)=some (ls.map .str):=by
   simp only [elemsA,hk]
   rw [window_full (by simp),Option.bind_some]
   have:=chunk_one (ls.map AV.str); rwa [List.length_map] at this
  have hne:¬ ((1:Nat)=0∨(ls.length+1) * 16 > 70368744177664∨ls.length+1 > 70368744177664):=by omega
  have hf1:flat [(AV.str s).nrm]=[.str s]:=rfl
  simp only [appendA,e2,he2,Option.bind_some,isSl,List.length_map,List.length_singleton,if_neg hne]
  have hf2:flat [AV.str s]=[.str s]:=rfl
  simp [hk,hfl,hf1,hf2]
theorem printedX (l:List GT) (hs:GT.sizes l≤1000000000) (hc:∀ x∈l,∀ bs σ,callT T 124 [x.enc] bs σ=some (.str (S (shT x)),σ)) (bs:Nat) (σ0:Heap) :
  ∃ r,callT T 98 [.isl (GT.encs l) false] bs σ0=some r∧∃ R,r.2=σ0++R∧((l=[]∧r.1=.isl [] true)∨∃ k,r.1=.sl (σ0.length+k) 0 l.length 1 false∧R[k]?=some (.cells (l.map fun x=>.str (S (shT x))) 0 true)):=by
 have hlen:=GT.len_sizes l
 refine heap_enterE (af:=c98) (args':=[.isl (GT.encs l) false]) (σ1:=σ0) rfl rfl (by simp [c98]) (by simp [c98]) (clean_closeT (by simp)).1 ?_
 simp [c98,baseA]
 refine W_for T _ 20 l.length (fun i f σ=>f 0=.isl (GT.encs l) false∧f 4=.int .i64 (i:Int)∧∃ R,σ=σ0++R∧((i=0∧f 3=.isl [] true)∨∃ k,f 3=.sl (σ0.length+k) 0 i 1 false∧R[k]?=some (.cells ((l.take i).map fun x=>.str (S (shT x))) 0 true))) ?_ _ _ ?_
 ·rintro i f σ hi ⟨g0,g4,R,rfl,g3⟩
  by_cases hlt:i<l.length
  ·have hx:=hc l[i] (zqT hlt)
   have hw:IntKind.i64.wrap ((i:Int)+1)=(i:Int)+1:=wr64 (by omega) (by omega)
   have htk:(l.take (i+1)).map (fun x=>S (shT x))=(l.take i).map (fun x=>S (shT x))++[S (shT l[i])]:=by
    rw [List.take_add_one,zqF hlt,List.map_append]; rfl
   have hln:((l.take i).map fun x=>S (shT x)).length=i:=by simp; omega
   have hst:((l.take i).map (fun x=>S (shT x))=[]∧f 3=.isl [] true)∨∃ k,f 3=.sl k 0 ((l.take i).map fun x=>S (shT x)).length 1 false∧(σ0++(R++[AObj.cells [.str (S (shT l[i]))] 0 false]))[k]?=some (.cells (((l.take i).map fun x=>S (shT x)).map .str) 0 true):=by
    rcases g3 with ⟨rfl,g3⟩ | ⟨k,g3,hk⟩
    ·exact .inl ⟨rfl,g3⟩
    ·refine .inr ⟨σ0.length+k,by rw [hln]; exact g3,?_⟩
     have hkl:k<R.length:=(zqI.1 hk).1
     rw [zqB (by omega),Nat.add_sub_cancel_left,zqA hkl,hk,List.map_map]; rfl
   have hj:(σ0++(R++[AObj.cells [.str (S (shT l[i]))] 0 false]))[σ0.length+R.length]?=some (.cells [.str (S (shT l[i]))] 0 false):=by
    rw [zqB (by omega),Nat.add_sub_cancel_left]; simp
   obtain ⟨σ1,ha,h1⟩:=app_tx hst hj (by omega)
   have hR2:∃ R2,σ1=σ0++R2∧R2.length=R.length+1:=by
    rcases h1 with rfl | ⟨k,h3,rfl⟩
    ·exact ⟨_,rfl,by simp⟩
    ·rcases g3 with ⟨_,g3⟩ | ⟨k',g3,_⟩
     ·rw [g3] at h3; cases h3
     ·rw [g3] at h3; injection h3 with h3; subst h3
      exact ⟨_,by rw [List.set_append_right _ _ (by omega)],by simp⟩
   obtain ⟨R2,rfl,hR2⟩:=hR2
   obtain ⟨x3,hx3⟩:∃ x,f 3=x:=⟨_,rfl⟩
   rw [hx3,←htk] at ha
   have hle:(σ0++(R++[AObj.cells [.str (S (shT l[i]))] 0 false])).length=σ0.length+R2.length:=by simp [hR2]
   rw [hle] at ha
   have hll:((l.take (i+1)).map fun x=>S (shT x)).length=i+1:=by simp; omega
   rw [hll] at ha
   simp [g0,g4,hx3,hlt,hx,hw,←GT.enc_eq,ha]
   rfl
  ·have he:i=l.length:=by omega
   subst he
   rw [List.take_length] at g3
   simp [g0,g4,res1]
   rcases g3 with ⟨h0,g3⟩ | ⟨k,g3,hk⟩
   ·exact .inl ⟨List.length_eq_zero_iff.1 h0,g3⟩
   ·exact .inr ⟨k,g3,hk⟩
 ·simp
theorem printedAt (l:List GT) (hs:GT.sizes l≤1000000000) (hc:∀ x∈l,∀ bs σ,callT T 124 [x.enc] bs σ=some (.str (S (shT x)),σ)) (bs:Nat) (σ0:Heap) :
  ∃ x R,callT T 98 [.isl (GT.encs l) false] bs σ0=some (x,σ0++R)∧(∀ τ X,τ.length=σ0.length→TxAt (τ++(R++X)) x (l.map fun x=>S (shT x))) ∧
   ((l=[]∧x=.isl [] true)∨∃ k,x=.sl (σ0.length+k) 0 l.length 1 false∧R[k]?=some (.cells (l.map fun x=>.str (S (shT x))) 0 true)):=by
 obtain ⟨⟨x,σ1⟩,h1,R,h2,h3⟩:=printedX l hs hc bs σ0
 simp only at h2 h3; subst h2
 refine ⟨x,R,h1,fun τ X hτ=>?_,h3⟩
 rcases h3 with ⟨rfl,h3⟩ | ⟨k,h3,hk⟩
 ·exact .inl ⟨rfl,h3⟩
 ·refine .inr ⟨σ0.length+k,true,by simpa using h3,?_⟩
  have hkl:k<R.length:=(zqI.1 hk).1
  rw [←hτ,zqB (by omega),Nat.add_sub_cancel_left,zqA hkl,hk,List.map_map]; rfl
theorem term_few {d:Nat} {k:Int} {n:ByteArray} {v:GV} {l:List GT} (h:termR d (.mk k n v l)=true):l.length≤2:=by
 obtain ⟨_,⟨n',e,hn⟩ | ⟨v',e,hv,_⟩ | ⟨n',l',e,hn,hl⟩ | ⟨n',l',e,_,h2,hl⟩⟩:=term_cases h <;> injection e with e1 e2 e3 e4 <;> subst e4
 ·simp
 ·simp
 ·unfold arityOf at hn
  split at hn
  ·omega
  ·split at hn <;> omega
 ·omega
theorem shown_ok:∀ (m:Nat) (t:GT),t.size≤m→m≤1000000000→(∃ d,termR d t=true)→pureT T c124 [t.enc]=some (.str (S (shT t))):=by
 intro m
 induction m with
 | zero=>intro t h; obtain ⟨k,n,⟨vk,vn,vt,vl⟩,l⟩:=t; simp [GT.size] at h
 | succ m ih=>
  intro t hs hm hd
  obtain ⟨d,hd⟩:=hd
  have hlen:=sh_len t d hd
  obtain ⟨k,n,⟨vk,vn,vt,vl⟩,l⟩:=t
  simp only [GT.size] at hs hlen
  have hll:=GT.len_sizes l
  have hcl:∀ x∈l,∀ bs σ,callT T 124 [x.enc] bs σ=some (.str (S (shT x)),σ):=fun x hx bs σ=>
   call_clean rfl rfl rfl (by simp) (ih x (by have:=(GT.sizes_mem hx).1; omega) (by omega) (term_args hd x hx))
  have har:=term_few hd
  apply pure_enter (by simp [c124])
  by_cases h1:k=1
  ·subst h1
   have hp:shT (.mk 1 n (.mk vk vn vt vl) l)=n.data.toList:=by simp [shT]
   rw [hp,S_data]
   simp [c124,GT.enc_eq,GT.kind,GT.name,GT.value,GT.args]
  by_cases h2:k=2
  ·subst h2
   have hv:=term_value hd rfl
   have hp:shT (.mk 2 n (.mk vk vn vt vl) l)=pr (.mk vk vn vt vl):=by simp [shT]
   have hpv:=refPrint (.mk vk vn vt vl) (right_okV _ _ hv) (by have:=rightT_size hv; omega)
   have hpv2:printV (.mk vk vn vt vl)=S (pr (.mk vk vn vt vl)):=by simp [printV,hv]
   rw [hpv2] at hpv
   rw [hp]
   simp [c124,GT.enc_eq,GT.kind,GT.name,GT.value,GT.args,GV.kind,GV.num,GV.text,GV.items,enc_mk,hpv]
  obtain ⟨x,R,hpr,hat,_⟩:=printedAt l (by omega) hcl 0 [.cells (GT.mk k n (.mk vk vn vt vl) l).enc.cells 0 false]
  have hat:=hat [.cells (GT.mk k n (.mk vk vn vt vl) l).enc.cells 0 false] [] rfl
  rw [List.append_nil] at hat
  by_cases h3:k=3
  ·subst h3
   have hp:shT (.mk 3 n (.mk vk vn vt vl) l)=n.data.toList++40 :: (shTs [44] l++[41]):=by simp [shT]
   rw [hp] at hlen ⊢
   simp only [zqJ,zqU,List.length_nil] at hlen
   have hns:n.data.toList.length=n.size:=by simp
   have hj:=callShJoinedX l ⟨#[44]⟩ (by omega) (by show (shTs [44] l).length≤_; omega) 0 hat
   have e:n++⟨#[40]⟩++S (shTs [44] l)++⟨#[41]⟩=S (n.data.toList++40 :: (shTs [44] l++[41])):=bytes_ext (by simp [S])
   have q0:(n.size:Int)+1≤9223372036854775807:=by omega
   have q1:(n.size:Int)+1+((shTs [44] l).length:Int)≤9223372036854775807:=by omega
   have q2:(n.size:Int)+1+((shTs [44] l).length:Int)+1≤9223372036854775807:=by omega
   simp [GT.enc_eq,GT.kind,GT.name,GT.value,GT.args,GV.kind,GV.num,GV.text,GV.items] at hpr hj
   simp [c124,GT.enc_eq,GT.kind,GT.name,GT.value,GT.args,GV.kind,GV.num,GV.text,GV.items,hpr,hj,S_sz,sz_mk,chkO_e1,objOf,q0,q1,q2,e]
  have hp:shT (.mk k n (.mk vk vn vt vl) l)=40 :: (shTs n.data.toList l++[41]):=by simp [shT,h1,h2,h3]
  rw [hp] at hlen ⊢
  simp only [zqJ,zqU,List.length_nil] at hlen
  have hj:=callShJoinedX l n (by omega) (by omega) 0 hat
  have e:(⟨#[40]⟩:ByteArray)++S (shTs n.data.toList l)++⟨#[41]⟩=S (40 :: (shTs n.data.toList l++[41])):=bytes_ext (by simp [S])
  have q1:(1:Int)+((shTs n.data.toList l).length:Int)≤9223372036854775807:=by omega
  have q2:(1:Int)+((shTs n.data.toList l).length:Int)+1≤9223372036854775807:=by omega
  simp [GT.enc_eq,GT.kind,GT.name,GT.value,GT.args,GV.kind,GV.num,GV.text,GV.items] at hpr hj
  simp [c124,GT.enc_eq,GT.kind,GT.name,GT.value,GT.args,GV.kind,GV.num,GV.text,GV.items,hpr,hj,S_sz,sz_mk,chkO_e1,objOf,q1,q2,e,h1,h2,h3]
theorem callShown (t:GT) (hs:t.size≤1000000000) (hd:∃ d,termR d t=true) (bs:Nat) (σ:Heap):callT T 124 [t.enc] bs σ=some (.str (S (shT t)),σ):=call_clean rfl rfl rfl (by simp) (shown_ok t.size t (Nat.le_refl _) hs hd)
theorem callPrinted (l:List GT) (hs:GT.sizes l≤1000000000) (hd:∀ x∈l,termR 8 x=true) (bs:Nat) (σ0:Heap) :
  ∃ x R,callT T 98 [.isl (GT.encs l) false] bs σ0=some (x,σ0++R)∧(∀ τ X,τ.length=σ0.length→TxAt (τ++(R++X)) x (l.map fun x=>S (shT x))) ∧
   ((l=[]∧x=.isl [] true)∨∃ k,x=.sl (σ0.length+k) 0 l.length 1 false∧R[k]?=some (.cells (l.map fun x=>.str (S (shT x))) 0 true)):=
 printedAt l hs (fun x hx bs σ=>callShown x (by have:=(GT.sizes_mem hx).1; omega) ⟨8,hd x hx⟩ bs σ) bs σ0
open Go.Mach
def textLiteral (x:GL):ByteArray:=if litB x=true then S (shLit x) else S []
theorem shAt_nil (p:Int):shAt [] p=fun _=>shT:=by funext i t; simp [shAt]
theorem atS_nil (p:Int) (l:List GT):shAtS [] p 0 l=shTs [44] l:=by rw [←ats_join,shAt_nil,ts_join]
theorem r4Lit_ok (x:GL) (hs:x.size≤1000000000):pureT T c99 [x.enc]=some (.str (textLiteral x)):=by
 have h1:=callR4Lit x (by omega)
 have hal:=x.args_le
 have hnl:=x.name_le
 apply pure_enter (by simp [c99])
 unfold textLiteral
 cases hb:litB x
 ·rw [hb] at h1
  simp [c99,h1,←GL.enc_eq,S]
 ·rw [hb] at h1
  have hln:=lit_len hb
  have hlc:=lit_cases hb
  obtain ⟨k,n,l⟩:=x
  simp only at hal hnl hlc
  have hns:n.data.toList.length=n.size:=by simp
  have hll:=GT.len_sizes l
  have hall:∀ y∈l,termR 8 y=true:=by
   rcases hlc with ⟨_,_,ha⟩ | ⟨_,_,a,b,rfl,ha,hb⟩ | ⟨_,_,a,rfl,ha⟩
   ·exact args_all ha
   ·intro y hy; simp at hy; rcases hy with rfl | rfl <;> assumption
   ·intro y hy; simp at hy; subst hy; exact ha
  obtain ⟨x,R,hpr,hat,hshape⟩:=callPrinted l (by omega) hall 0 [.cells [.int .i64 k,.str n,.isl (GT.encs l) false] 0 false]
  have hat:=hat [.cells [.int .i64 k,.str n,.isl (GT.encs l) false] 0 false] [] rfl
  rw [List.append_nil] at hat
  simp at hpr
  have hlen1:l.length≤1000000:=by
   rcases hlc with ⟨_,_,ha⟩ | ⟨_,_,a,b,rfl,ha,hb⟩ | ⟨_,_,a,rfl,ha⟩
   ·have:1≤l.length∧l.length≤8:=by have:=ha; simp only [argsB,zqL,decide_eq_true_eq] at this; exact this.1.1
    omega
   ·simp
   ·simp
  rw [GL.enc_eq] at h1
  simp only [GL.kind,GL.name,GL.args] at h1
  have hj:∀ sep:ByteArray,(shTs sep.data.toList l).length≤1000000000000→callT T 100 [x,.str sep] 0 (.cells [.int .i64 k,.str n,.isl (GT.encs l) false] 0 false :: R)=some (.str (S (shTs sep.data.toList l)),.cells [.int .i64 k,.str n,.isl (GT.encs l) false] 0 false :: R):=
   fun sep hsep=>callShJoinedX l sep hlen1 hsep 0 hat
  rcases hlc with ⟨hk | hk,_,_⟩ | ⟨hk,_,a,b,hl,_⟩ | ⟨hk,_,a,hl,_⟩
  ·subst hk
   have hp:shLit ⟨1,n,l⟩=n.data.toList++40 :: 64 :: (shTs [44] l++[41]):=by rw [sh1 rfl,shAtom,atS_nil]
   rw [hp] at hln ⊢
   simp only [zqJ,zqU,List.length_nil,hns] at hln
   have hj:=hj ⟨#[44]⟩ (by show (shTs [44] l).length≤_; omega)
   simp at hj
   have e:n++⟨#[40,64]⟩++S (shTs [44] l)++⟨#[41]⟩=S (n.data.toList++40 :: 64 :: (shTs [44] l++[41])):=bytes_ext (by simp [S])
   have q0:(n.size:Int)+2≤9223372036854775807:=by omega
   have q1:(n.size:Int)+2+((shTs [44] l).length:Int)≤9223372036854775807:=by omega
   have q2:(n.size:Int)+2+((shTs [44] l).length:Int)+1≤9223372036854775807:=by omega
   simp [c99,GL.enc_eq,h1,hpr,hj,S_sz,sz_mk,chkO_e1,objOf,q0,q1,q2,e]
  ·subst hk
   have hp:shLit ⟨2,n,l⟩=33 :: (n.data.toList++40 :: 64 :: (shTs [44] l++[41])):=by rw [sh2 rfl,shAtom,atS_nil]
   rw [hp] at hln ⊢
   simp only [zqJ,zqU,List.length_nil,hns] at hln
   have hj:=hj ⟨#[44]⟩ (by show (shTs [44] l).length≤_; omega)
   simp at hj
   have e:(⟨#[33]⟩:ByteArray)++n++⟨#[40,64]⟩++S (shTs [44] l)++⟨#[41]⟩=S (33 :: (n.data.toList++40 :: 64 :: (shTs [44] l++[41]))):=bytes_ext (by simp [S])
   have q:(1:Int)+(n.size:Int)≤9223372036854775807:=by omega
   have q0:(1:Int)+(n.size:Int)+2≤9223372036854775807:=by omega
   have q1:(1:Int)+(n.size:Int)+2+((shTs [44] l).length:Int)≤9223372036854775807:=by omega
   have q2:(1:Int)+(n.size:Int)+2+((shTs [44] l).length:Int)+1≤9223372036854775807:=by omega
   simp [c99,GL.enc_eq,h1,hpr,hj,S_sz,sz_mk,chkO_e1,objOf,q,q0,q1,q2,e]
  ·subst hk
   have hp:shLit ⟨3,n,l⟩=shTs (32 :: (n.data.toList++[32])) l:=by simp [shLit]
   rw [hp] at hln ⊢
   have e:(⟨#[32]⟩:ByteArray)++n++⟨#[32]⟩=S (32 :: (n.data.toList++[32])):=bytes_ext (by simp [S])
   have hj:=hj (S (32 :: (n.data.toList++[32]))) (by rw [S_toList]; omega)
   rw [S_toList] at hj
   have q:(1:Int)+(n.size:Int)≤9223372036854775807:=by omega
   have q0:(1:Int)+(n.size:Int)+1≤9223372036854775807:=by omega
   simp [c99,GL.enc_eq,h1,hpr,hj,S_sz,sz_mk,q,q0,e]
  ·subst hk
   subst hl
   have hp:shLit ⟨4,n,[a]⟩=n.data.toList++32 :: 58 :: 61 :: 32 :: shT a:=by simp [shLit]
   rw [hp] at hln ⊢
   simp only [zqJ,zqU,List.length_nil,hns] at hln
   rcases hshape with ⟨h0,_⟩ | ⟨kk,hx,hR⟩
   ·cases h0
   subst hx
   have e:n++⟨#[32,58,61,32]⟩++S (shT a)=S (n.data.toList++32 :: 58 :: 61 :: 32 :: shT a):=bytes_ext (by simp [S])
   have q0:(n.size:Int)+4≤9223372036854775807:=by omega
   have q1:(n.size:Int)+4+((shT a).length:Int)≤9223372036854775807:=by omega
   have hget:∀ o:AObj,(o :: R)[1+kk]?=some (.cells [.str (S (shT a))] 0 true):=fun o=>by rw [Nat.add_comm]; exact hR
   simp [GT.encs] at hpr h1
   simp [c99,GL.enc_eq,h1,hpr,S_sz,sz_mk,q0,q1,e,GT.encs,hget]
theorem callR4LitP (x:GL) (hs:x.size≤1000000000) (bs:Nat) (σ:Heap):callT T 99 [x.enc] bs σ=some (.str (textLiteral x),σ):=call_clean rfl rfl rfl (by simp) (r4Lit_ok x hs)
open Go.Mach
def ixm (f:Nat→GT→List UInt8):Nat→List GT→List ByteArray
 | _,[]=>[]
 | i,x :: l=>S (f i x) :: ixm f (i+1) l
theorem joinB_ixm (f:Nat→GT→List UInt8) (sep:ByteArray) (l:List GT):joinB (ixm f 0 l) sep=joinF f sep.data.toList 0 l:=by
 unfold joinB
 suffices h:∀ i,joinF (fun _ (x:ByteArray)=>x.data.toList) sep.data.toList i (ixm f i l)=joinF f sep.data.toList i l from h 0
 induction l with
 | nil=>intro i; rfl
 | cons x l ih=>intro i; simp only [ixm,joinF,ih,S_toList]
theorem ixm_len (f:Nat→GT→List UInt8):∀ (i:Nat) (l:List GT),(ixm f i l).length=l.length
 | _,[]=>rfl
 | i,x :: l=>by simp only [ixm,zqU,ixm_len]
theorem ixm_get (f:Nat→GT→List UInt8):∀ (i:Nat) (l:List GT) (j:Nat),(ixm f i l)[j]?=l[j]?.map fun t=>S (f (i+j) t)
 | _,[],_=>by simp [ixm]
 | i,x :: l,0=>by simp [ixm]
 | i,x :: l,j+1=>by simp only [ixm,zqD,ixm_get f (i+1) l j]; rw [show i+1+j=i+(j+1) by omega]
theorem ixm_nil (p:Int) (l:List GT):ixm (shAt [] p) 0 l=l.map fun t=>S (shT t):=by
 apply List.ext_getElem?; intro j
 rw [ixm_get,shAt_nil,List.getElem?_map]
theorem ixm_set {agg:List UInt8} (h:agg≠[]) (l:List GT) (p:Nat) (hp:p<l.length):(l.map fun t=>AV.str (S (shT t))).set p (.str (S (agg++60 :: ((l[p]).name.data.toList++[62]))))=(ixm (shAt agg (p:Int)) 0 l).map .str:=by
 apply List.ext_getElem?; intro j
 rw [List.getElem?_map,ixm_get,List.getElem?_set,List.getElem?_map,List.length_map]
 by_cases e:p=j
 ·subst e
  simp [hp,zqF hp,shAt,h]
 ·rw [if_neg e]
  have hne:¬ ((j:Int)=(p:Int)):=by omega
  cases hj:l[j]? with
  | none=>rfl
  | some t=>simp [shAt,hne]
theorem callJoinedO (ls:List ByteArray) (sep:ByteArray) (k:Nat) (hl:ls.length≤1000000) (hb:(joinB ls sep).length≤1000000000000) (bs:Nat) (σ:Heap) :
  callT T 100 [.own k (ls.map .str),.str sep] bs σ=some (.str (S (joinB ls sep)),σ):=
 call_scal rfl rfl rfl (joined_ok ls sep hl hb) rfl (by simp) rfl
set_option maxRecDepth 100000 in
theorem r4Rule_ok (x:GR) (hs:x.size≤1000000000):pureT T c67 [x.enc]=some (.str (textRule x)):=by
 have h1:=callR4Rule x (by omega)
 have hal:=x.args_le
 have hbl:=x.body_len
 have hbm:=fun y hy=>x.body_mem (y:=y) hy
 apply pure_enter (by simp [c67])
 unfold textRule
 cases hb:ruleB x
 ·rw [hb] at h1
  simp [c67,h1,←GR.enc_eq,S]
 ·rw [hb] at h1
  have hln:=rule_len hb
  simp only [ruleB,zqL,decide_eq_true_eq,zqQ] at hb
  obtain ⟨⟨⟨⟨⟨a1,a2⟩,a3⟩,a4⟩,a5⟩,a6⟩:=hb
  have n1:=rel_size a1
  have n2:=rel_size a2
  have n3:=agg_len a6
  have a7:1≤x.args.length∧x.args.length≤8:=by have:=a3; simp only [argsB,zqL,decide_eq_true_eq] at this; exact this.1.1
  obtain ⟨lab,hd,l,agg,pos,body⟩:=x
  simp only at hal hbl hbm a1 a2 a3 a4 a5 a6 a7 n1 n2 n3
  have e1:lab.data.toList.length=lab.size:=by simp
  have e2:hd.data.toList.length=hd.size:=by simp
  rw [GR.enc_eq] at h1
  simp only at h1
  obtain ⟨x,R,hpr,hat,hshape⟩:=callPrinted l (by omega) (args_all a3) 0 [.cells [.str lab,.str hd,.isl (GT.encs l) false,.str agg,.int .i64 pos,.isl (body.map GL.enc) false] 0 false]
  simp only [List.length_singleton] at hat hshape
  simp at hpr
  have hpl:shRule ⟨lab,hd,l,agg,pos,body⟩=lab.data.toList++32 :: (hd.data.toList++40 :: 64 :: (joinF (shAt agg.data.toList pos) [44] 0 l++[41])++32 :: 58 :: 45 :: 32 :: (joinF (fun _=>shLit) [44,32] 0 body++[46])):=by
   simp only [shRule,shAtom,ats_join,ls_join]
  rw [hpl] at hln ⊢
  simp only [zqJ,zqU,List.length_nil,e1,e2] at hln
  have hlits:=fun (y:GL) (hy:y∈body) (bs:Nat) (σ:Heap)=>callR4LitP y (by have:=hbm y hy; omega) bs σ
  have hlit:∀ y∈body,∀ bs σ,callT T 99 [y.enc] bs σ=some (.str (S (shLit y)),σ):=fun y hy bs σ=>by
   rw [hlits y hy bs σ]; unfold textLiteral; rw [if_pos (a5 y hy)]
  by_cases hagg:agg=⟨#[]⟩
  obtain ⟨R1,hR1⟩:∃ R1,R1=R:=⟨_,rfl⟩
  have hat2:∀ X,TxAt (AObj.cells [.str lab,.str hd,.isl (GT.encs l) false,.str agg,.int .i64 pos,.isl (body.map GL.enc) false] 0 false :: (R1++X)) x (ixm (shAt agg.data.toList pos) 0 l):=fun X=>by
   rw [hR1]
   have:=hat [AObj.cells [.str lab,.str hd,.isl (GT.encs l) false,.str agg,.int .i64 pos,.isl (body.map GL.enc) false] 0 false] X rfl
   rw [hagg] at this ⊢
   rw [show (⟨#[]⟩:ByteArray).data.toList=[] from rfl,ixm_nil]
   exact this
  have hagg':(agg=⟨#[]⟩)=True:=eq_true hagg
  simp [c67,GR.enc_eq,h1,hpr,sz_mk,hagg',-List.append_eq]
  rw [←hR1]
  rotate_left 1
  have hne:agg.data.toList≠[]:=fun h=>hagg (ba_list_nil.1 h)
  simp only [aggB,if_neg hagg,zqL,decide_eq_true_eq] at a6
  obtain ⟨⟨_,p1,p2⟩,p3⟩:=a6
  obtain ⟨p,rfl⟩:∃ p:Nat,pos=(p:Int):=⟨pos.toNat,by omega⟩
  have hp:p<l.length:=by omega
  rw [Int.toNat_natCast,zqF hp] at p3
  simp only [Option.map_some,Option.some.injEq] at p3
  have hsh:shT l[p]=(l[p]).name.data.toList:=by
   generalize l[p]=t at p3
   obtain ⟨k,n,v,ll⟩:=t
   simp only [GT.kind] at p3; subst p3
   simp [shT]
  rcases hshape with ⟨h0,_⟩ | ⟨k,hx,hR⟩
  ·rw [h0] at hp; simp at hp
  rw [Nat.add_comm 1 k] at hx
  have hkl:k<R.length:=(zqI.1 hR).1
  have hset:=ixm_set hne l p hp
  obtain ⟨R1,hR1⟩:∃ R1,R1=R.set k (.cells ((l.map fun x=>AV.str (S (shT x))).set p (.str (S (agg.data.toList++60 :: ((l[p]).name.data.toList++[62]))))) 0 true):=⟨_,rfl⟩
  have hat2:∀ X,TxAt (AObj.cells [.str lab,.str hd,.isl (GT.encs l) false,.str agg,.int .i64 (p:Int),.isl (body.map GL.enc) false] 0 false :: (R1++X)) x (ixm (shAt agg.data.toList (p:Int)) 0 l):=fun X=>by
   refine .inr ⟨k+1,true,by rw [hx,ixm_len],?_⟩
   rw [zqD,hR1,zqA (by simpa using hkl),←hset]
   simp [hkl]
  have hwin:window (l.map fun x=>AV.str (S (shT x))) p 1=some [.str (S (shT l[p]))]:=by
   unfold window
   rw [if_pos (by simp; omega),zqM (by simpa using hp)]
   simp
  have e5:agg++⟨#[60]⟩++S (shT l[p])++⟨#[62]⟩=S (agg.data.toList++60 :: ((l[p]).name.data.toList++[62])):=bytes_ext (by simp [S,hsh])
  have e6:(shT l[p]).length≤100000000000:=by
   have:=sh_len l[p] 8 (args_all a3 _ (zqT hp))
   have:=(GT.sizes_mem (zqT hp)).1
   omega
  have q0:(agg.size:Int)+1≤9223372036854775807:=by omega
  have q1:(agg.size:Int)+1+((shT l[p]).length:Int)≤9223372036854775807:=by omega
  have q2:(agg.size:Int)+1+((shT l[p]).length:Int)+1≤9223372036854775807:=by omega
  simp [c67,GR.enc_eq,h1,hpr,sz_mk,S_sz,hagg,hx,hp,hR,hwin,q0,q1,q2,e5,setRun,show p+1≤l.length by omega]
  rw [←hR1,←hx]
  generalize hpos:(p:Int)=pos at *
  rotate_left 1
  all_goals
   clear hat hpr
   refine W_for T 0 62 body.length (fun i f σ=>f 1=.ptr 0 0∧f 4=x∧f 6=.int .i64 (i:Int)∧∃ X,σ=AObj.cells [.str lab,.str hd,.isl (GT.encs l) false,.str agg,.int .i64 pos,.isl (body.map GL.enc) false] 0 false :: (R1++X) ∧
     ((i=0∧f 5=.isl [] true)∨∃ k,f 5=.own (R1.length+k+1) ((body.take i).map fun y=>.str (S (shLit y)))∧X[k]?=some (.tok i 1))) ?_ _ _ ?_
   rotate_left 1
   ·simp
   rintro i f σ hi ⟨g1,g4,g6,X,rfl,g5⟩
   by_cases hlt:i<body.length
   ·have e1:body[i]?=some body[i]:=zqF hlt
    have hx:=hlit body[i] (zqT hlt)
    have hw:IntKind.i64.wrap ((i:Int)+1)=(i:Int)+1:=wr64 (by omega) (by omega)
    have htk:(body.take (i+1)).map (fun x=>AV.str (S (shLit x)))=(body.take i).map (fun x=>AV.str (S (shLit x)))++[.str (S (shLit body[i]))]:=by
     rw [List.take_add_one,zqF hlt,List.map_append]; rfl
    rw [htk]
    have hall:((body.take i).map fun x=>AV.str (S (shLit x))).all (okEl 1 false)=true:=by
     rw [zqQ]; intro y hy
     obtain ⟨x,_,rfl⟩:=List.mem_map.1 hy; rfl
    have hel:((body.take i).map fun x=>AV.str (S (shLit x))).length=i:=by simp; omega
    have hnil:i=0→(body.take i).map (fun x=>AV.str (S (shLit x)))=[]:=fun h=>by subst h; rfl
    generalize hES:(body.take i).map (fun x=>AV.str (S (shLit x)))=es at *
    rcases g5 with ⟨h0,g5⟩ | ⟨kk,g5,hk⟩
    ·rw [hnil h0]
     simp [g1,g4,g6,g5,hlt,e1,hx,hw,←GL.enc_eq]
     simp [h0]
    ·have hkl:kk<X.length:=(zqI.1 hk).1
     have hne:i≤10000000000:=by omega
     simp [g1,g4,g6,g5,hlt,e1,hx,hw,←GL.enc_eq,hk,hel,hall,hne,zqA hkl,List.set_append_left _ _ hkl]
     rw [zqA (by simpa using hkl)]; simp [hkl]
   ·have he:i=body.length:=by omega
    subst he
    rcases g5 with ⟨h0,g5⟩ | ⟨kk,g5,hk⟩
    ·omega
    rw [List.take_length] at g5
    have j1:=callJoinedX (ixm (shAt agg.data.toList pos) 0 l) ⟨#[44]⟩ (by rw [ixm_len]; omega) (by rw [joinB_ixm]; show (joinF _ [44] 0 l).length≤_; omega) 0 (hat2 X)
    rw [joinB_ixm] at j1
    have j2:=callJoinedO (body.map fun y=>S (shLit y)) ⟨#[44,32]⟩ (R1.length+kk+1) (by simp; omega) (by rw [joinB_map]; show (joinF _ [44,32] 0 body).length≤_; omega) 0 (AObj.cells [.str lab,.str hd,.isl (GT.encs l) false,.str agg,.int .i64 pos,.isl (body.map GL.enc) false] 0 false :: (R1++X))
    rw [joinB_map,List.map_map] at j2
    have e4:(AV.str ∘ fun y=>S (shLit y))=fun y=>AV.str (S (shLit y)):=rfl
    rw [e4] at j2
    simp only [show (⟨#[44]⟩:ByteArray).data.toList=[44] from rfl,show (⟨#[44,32]⟩:ByteArray).data.toList=[44,32] from rfl] at j1 j2
    generalize joinF (shAt agg.data.toList pos) [44] 0 l=A at *
    generalize joinF (fun _=>shLit) [44,32] 0 body=B at *
    have e6:lab++⟨#[32]⟩++hd++⟨#[40,64]⟩++S A++⟨#[41,32,58,45,32]⟩++S B++⟨#[46]⟩=S (lab.data.toList++32 :: (hd.data.toList++40 :: 64 :: (A++41 :: 32 :: 58 :: 45 :: 32 :: (B++[46])))):=bytes_ext (by simp [S])
    have q1:(lab.size:Int)+1≤9223372036854775807:=by omega
    have q2:(lab.size:Int)+1+(hd.size:Int)≤9223372036854775807:=by omega
    have q3:(lab.size:Int)+1+(hd.size:Int)+2≤9223372036854775807:=by omega
    have q4:(lab.size:Int)+1+(hd.size:Int)+2+(A.length:Int)≤9223372036854775807:=by omega
    have q5:(lab.size:Int)+1+(hd.size:Int)+2+(A.length:Int)+5≤9223372036854775807:=by omega
    have q6:(lab.size:Int)+1+(hd.size:Int)+2+(A.length:Int)+5+(B.length:Int)≤9223372036854775807:=by omega
    have q7:(lab.size:Int)+1+(hd.size:Int)+2+(A.length:Int)+5+(B.length:Int)+1≤9223372036854775807:=by omega
    simp [g1,g4,g6,g5,j1,j2,sz_mk,S_sz,q1,q2,q3,q4,q5,q6,q7,e6]
theorem callR4RuleP (x:GR) (hs:x.size≤1000000000) (bs:Nat) (σ:Heap):callT T 67 [x.enc] bs σ=some (.str (textRule x),σ):=call_clean rfl rfl rfl (by simp) (r4Rule_ok x hs)
open Go.Mach
theorem callValues (l l2:List GV) (hs:GV.sizes l≤10000000000) (bs:Nat) (σ:Heap):callT T 41 [.isl (GV.encs l) false,.isl (GV.encs l2) false] bs σ=some (.bool (sym (decide (l=l2))),σ):=
 call_clean rfl rfl rfl (by simp) (values_ok l l2 (by have:=len_sizes l; omega) fun x hx y hy bs σ=>callSame x y (by have:=(sizes_mem hx).1; omega) bs σ)
instance:DecidableEq GU:=fun a b=>decidable_of_iff (a.name=b.name∧a.args=b.args) ⟨fun h=>gu_ext h.1 h.2,fun h=>by rw [h]; simp⟩
instance:DecidableEq GD:=fun a b=>decidable_of_iff (a.name=b.name∧a.arity=b.arity) ⟨fun h=>gd_ext h.1 h.2,fun h=>by rw [h]; simp⟩
instance:DecidableEq GR:=fun a b=>decidable_of_iff (a.label=b.label∧a.head=b.head∧a.args=b.args∧a.agg=b.agg∧a.pos=b.pos∧a.body=b.body) ⟨fun h=>gr_ext h.1 h.2.1 h.2.2.1 h.2.2.2.1 h.2.2.2.2.1 h.2.2.2.2.2,fun h=>by rw [h]; simp⟩
instance:DecidableEq GP:=fun a b=>decidable_of_iff (a.decls=b.decls∧a.facts=b.facts∧a.rules=b.rules) ⟨fun h=>gp_ext h.1 h.2.1 h.2.2,fun h=>by rw [h]; simp⟩
theorem gu_iff (a b:GU):a=b↔a.name=b.name∧a.args=b.args:=⟨fun h=>by rw [h]; simp,fun h=>gu_ext h.1 h.2⟩
theorem gd_iff (a b:GD):a=b↔a.name=b.name∧a.arity=b.arity:=⟨fun h=>by rw [h]; simp,fun h=>gd_ext h.1 h.2⟩
theorem gr_iff (a b:GR):a=b↔a.label=b.label∧a.head=b.head∧a.args=b.args∧a.agg=b.agg∧a.pos=b.pos∧a.body=b.body:=⟨fun h=>by rw [h]; simp,fun h=>gr_ext h.1 h.2.1 h.2.2.1 h.2.2.2.1 h.2.2.2.2.1 h.2.2.2.2.2⟩
theorem gp_iff (a b:GP):a=b↔a.decls=b.decls∧a.facts=b.facts∧a.rules=b.rules:=⟨fun h=>by rw [h]; simp,fun h=>gp_ext h.1 h.2.1 h.2.2⟩
theorem sameU_ok (a b:GU) (hs:a.size≤1000000000):pureT T c26 [a.enc,b.enc]=some (.bool (decide (a=b))):=by
 have h1:=a.args_le
 have hv:=callValues a.args b.args (by omega)
 apply pure_enter (by simp [c26])
 simp [c26,GU.enc_eq,hv,gu_iff a b]
 repeat' (first | apply And.intro | intro _)
 all_goals first | (simp_all; done) | grind
theorem callSameU (a b:GU) (hs:a.size≤1000000000) (bs:Nat) (σ:Heap):callT T 26 [a.enc,b.enc] bs σ=some (.bool (sym (decide (a=b))),σ):=call_clean rfl rfl rfl (by simp) (sameU_ok a b hs)
theorem sameR_ok (a b:GR) (hs:a.size≤1000000000) (hl:a.body.length≤1000000):pureT T c27 [a.enc,b.enc]=some (.bool (decide (a=b))):=by
 have h1:=a.args_le
 have h2:=fun y hy=>a.body_mem (y:=y) hy
 have hv:=callSameTs a.args b.args (by omega)
 have hw:=callSameLs a.body b.body hl fun x hx=>by have:=h2 x hx; omega
 apply pure_enter (by simp [c27])
 simp [c27,GR.enc_eq,hv,hw,gr_iff a b]
 repeat' (first | apply And.intro | intro _)
 all_goals first | (simp_all; done) | grind
theorem callSameR (a b:GR) (hs:a.size≤1000000000) (hl:a.body.length≤1000000) (bs:Nat) (σ:Heap):callT T 27 [a.enc,b.enc] bs σ=some (.bool (sym (decide (a=b))),σ):=call_clean rfl rfl rfl (by simp) (sameR_ok a b hs hl)
theorem ext_step {α:Type} {a b:List α} {i:Nat} (h:∀ j,(h1:j<a.length)→(h2:j<b.length)→j<i→a[j]=b[j]) (h1:i<a.length) (h2:i<b.length) (e:a[i]=b[i]):∀ j,(h1:j<a.length)→(h2:j<b.length)→j<i+1→a[j]=b[j]:=fun j g1 g2 hj=>by
 by_cases e2:j=i
 ·subst e2; exact e
 ·exact h j g1 g2 (by omega)
theorem ext_no {α:Type} {a b:List α} {i:Nat} (h1:i<a.length) (h2:i<b.length) (e:¬ a[i]=b[i]):¬ a=b:=fun h=>e (by subst h; rfl)
set_option maxRecDepth 100000 in
theorem sameP_ok (a b:GP) (hs:a.size≤1000000000) (hl:∀ r∈a.rules,r.body.length≤1000000):pureT T c14 [a.enc,b.enc]=some (.bool (decide (a=b))):=by
 have l1:=a.decls_len
 have l2:=a.facts_len
 have l3:=a.rules_len
 have m2:=fun y hy=>a.facts_mem (y:=y) hy
 have m3:=fun y hy=>a.rules_mem (y:=y) hy
 have hiff:=gp_iff a b
 obtain ⟨ds,us,rs⟩:=a
 obtain ⟨ds2,us2,rs2⟩:=b
 simp only at l1 l2 l3 m2 m3 hl hiff
 apply pure_enter (by simp [c14])
 have hdec:decide ((⟨ds,us,rs⟩:GP)=⟨ds2,us2,rs2⟩)=decide (ds=ds2∧us=us2∧rs=rs2):=decide_eq_decide.2 hiff
 rw [hdec]
 by_cases c1:ds.length=ds2.length
 case neg=>
  have n1:¬ (ds=ds2):=fun e=>c1 (by rw [e])
  have n2:¬ ((ds.length:Int)=(ds2.length:Int)):=by omega
  simp [c14,GP.enc_eq,n1,n2]
 by_cases c2:us.length=us2.length
 case neg=>
  have n1:¬ (us=us2):=fun e=>c2 (by rw [e])
  have n2:¬ ((us.length:Int)=(us2.length:Int)):=by omega
  simp [c14,GP.enc_eq,c1,n1,n2]
 by_cases c3:rs.length=rs2.length
 case neg=>
  have n1:¬ (rs=rs2):=fun e=>c3 (by rw [e])
  have n2:¬ ((rs.length:Int)=(rs2.length:Int)):=by omega
  simp [c14,GP.enc_eq,c1,c2,n1,n2]
 simp [c14,GP.enc_eq,c1,c2,c3]
 refine W_for T 0 89 ds2.length (fun i f σ=>f 2=.ptr 0 0∧f 3=.ptr 1 0∧f 5=.int .i64 (i:Int)∧σ=[.cells [.isl (ds.map GD.enc) false,.isl (us.map GU.enc) false,.isl (rs.map GR.enc) false] 0 false,.cells [.isl (ds2.map GD.enc) false,.isl (us2.map GU.enc) false,.isl (rs2.map GR.enc) false] 0 false] ∧
  ∀ j,(h1:j<ds.length)→(h2:j<ds2.length)→j<i→ds[j]=ds2[j]) ?_ _ _ ?_
 rotate_left 1
 ·simp
 rintro i f σ hi ⟨g1,g2,g3,rfl,hall⟩
 by_cases hlt:i<ds2.length
 ·have hlt0:i<ds.length:=by omega
  have e1:ds[i]?=some ds[i]:=zqF hlt0
  have e2:ds2[i]?=some ds2[i]:=zqF hlt
  have hw:IntKind.i64.wrap ((i:Int)+1)=(i:Int)+1:=wr64 (by omega) (by omega)
  by_cases he:ds[i]=ds2[i]
  ·have hstep:=ext_step hall hlt0 hlt he
   obtain ⟨q1,q2⟩:=(gd_iff _ _).1 he
   simp [g1,g2,g3,c1,hlt,hlt0,e1,e2,hw,GD.enc_eq,q1,q2]
   exact fun j _ h2 hj=>hstep j (by omega) h2 hj
  ·have hn:=ext_no hlt0 hlt he
   have hq:(!decide (ds[i].name=ds2[i].name) || !(ds[i].arity == ds2[i].arity))=true:=by
    rw [Bool.eq_iff_iff]
    simp only [Bool.or_eq_true,Bool.not_eq_true',decide_eq_false_iff_not,beq_eq_false_iff_ne,iff_true]
    by_cases h1:ds[i].name=ds2[i].name
    ·exact .inr fun h2=>he ((gd_iff _ _).2 ⟨h1,h2⟩)
    ·exact .inl h1
   simp [g1,g2,g3,c1,hlt,hlt0,e1,e2,hw,GD.enc_eq,hn,hq]
 ·have he:i=ds2.length:=by omega
  subst he
  have hds:ds=ds2:=List.ext_getElem c1 fun j h1 h2=>hall j h1 h2 h2
  simp only [hds,true_and]
  simp [g1,g2,g3]
  refine W_for T 0 89 us2.length (fun i f σ=>f 2=.ptr 0 0∧f 3=.ptr 1 0∧f 6=.int .i64 (i:Int)∧σ=[.cells [.isl (ds2.map GD.enc) false,.isl (us.map GU.enc) false,.isl (rs.map GR.enc) false] 0 false,.cells [.isl (ds2.map GD.enc) false,.isl (us2.map GU.enc) false,.isl (rs2.map GR.enc) false] 0 false] ∧
   ∀ j,(h1:j<us.length)→(h2:j<us2.length)→j<i→us[j]=us2[j]) ?_ _ _ ?_
  rotate_left 1
  ·simp [g1,g2]
  clear g1 g2 g3 hall hi hlt
  rintro i f σ hi ⟨g1,g2,g3,rfl,hall⟩
  by_cases hlt:i<us2.length
  ·have hlt0:i<us.length:=by omega
   have e1:us[i]?=some us[i]:=zqF hlt0
   have e2:us2[i]?=some us2[i]:=zqF hlt
   have hw:IntKind.i64.wrap ((i:Int)+1)=(i:Int)+1:=wr64 (by omega) (by omega)
   have hc:=callSameU us[i] us2[i] (by have:=m2 _ (zqT hlt0); omega)
   by_cases he:us[i]=us2[i]
   ·have hstep:=ext_step hall hlt0 hlt he
    simp only [he,decide_true,sym_true] at hc
    simp [g1,g2,g3,c2,hlt,hlt0,hw,←GU.enc_eq,hc,he]
    exact fun j _ h2 hj=>hstep j (by omega) h2 hj
   ·have hn:=ext_no hlt0 hlt he
    simp only [he,decide_false,sym_false] at hc
    simp [g1,g2,g3,c2,hlt,hlt0,hw,←GU.enc_eq,hc,hn]
  ·have he:i=us2.length:=by omega
   subst he
   have hus:us=us2:=List.ext_getElem c2 fun j h1 h2=>hall j h1 h2 h2
   simp only [hus,true_and]
   simp [g1,g2,g3]
   refine W_for T 0 89 rs2.length (fun i f σ=>f 2=.ptr 0 0∧f 3=.ptr 1 0∧f 7=.int .i64 (i:Int)∧σ=[.cells [.isl (ds2.map GD.enc) false,.isl (us2.map GU.enc) false,.isl (rs.map GR.enc) false] 0 false,.cells [.isl (ds2.map GD.enc) false,.isl (us2.map GU.enc) false,.isl (rs2.map GR.enc) false] 0 false] ∧
    ∀ j,(h1:j<rs.length)→(h2:j<rs2.length)→j<i→rs[j]=rs2[j]) ?_ _ _ ?_
   rotate_left 1
   ·simp [g1,g2]
   clear g1 g2 g3 hall hi hlt
   rintro i f σ hi ⟨g1,g2,g3,rfl,hall⟩
   by_cases hlt:i<rs2.length
   ·have hlt0:i<rs.length:=by omega
    have e1:rs[i]?=some rs[i]:=zqF hlt0
    have e2:rs2[i]?=some rs2[i]:=zqF hlt
    have hw:IntKind.i64.wrap ((i:Int)+1)=(i:Int)+1:=wr64 (by omega) (by omega)
    have hm:=zqT hlt0
    have hc:=callSameR rs[i] rs2[i] (by have:=m3 _ hm; omega) (hl _ hm)
    by_cases he:rs[i]=rs2[i]
    ·have hstep:=ext_step hall hlt0 hlt he
     simp only [he,decide_true,sym_true] at hc
     simp [g1,g2,g3,c3,hlt,hlt0,hw,←GR.enc_eq,hc,he]
     exact fun j _ h2 hj=>hstep j (by omega) h2 hj
    ·have hn:=ext_no hlt0 hlt he
     simp only [he,decide_false,sym_false] at hc
     simp [g1,g2,g3,c3,hlt,hlt0,hw,←GR.enc_eq,hc,hn]
   ·have he:i=rs2.length:=by omega
    subst he
    have hrs:rs=rs2:=List.ext_getElem c3 fun j h1 h2=>hall j h1 h2 h2
    simp [g1,g2,g3,hrs]
open Go.Mach
section
variable {bs n:Nat} {f:FR} {σ:Heap}
theorem W_rfn {x:AX} {rc:RCode} {Q:AExit→FR→Heap→Prop} {g:Nat} {caps:List AV} {v:AV} {σ' σ2:Heap} {e:AExit} (hg:g≠yno) (hx:evF n f x=.func g caps)
  (hc:callT T g (.yld σ.length :: caps) bs (σ++[.lp rc (lst n f) .ready none])=some (v,σ')) (he:endLp σ.length (lst n f) σ'=some (e,lst n f,σ2)) (hQ:Q e f σ2):W T bs n (.rfn x rc) f σ Q:=by
 refine ⟨e,f,σ2,?_,hQ⟩
 rw [execT_rfn,ev_lst,hx]
 simp only [callN,if_neg hg,hc,Option.bind_some,he]
theorem round_call {id nt:Nat} {rc:RCode} {a b:ACode} {f1:FR} {st:LoopState} {pd:Option Code} {xs:List AV} {v:AV} {σ':Heap} (hσ:σ[id]?=some (.lp rc (lst n f) st pd)) (hrd:rds rc=some (nt,a,b)) (hn:nt≤n)
  (hp:xs.length=rc.params.size) (hput:putAll rc.params.toList xs (lst n f)=lst n f1)
  (hw:W T bs n a f1 σ fun e f2 σ1=>e=.normal∧∃ σ2,begLp id σ1=some σ2∧W T bs n b f2 σ2 fun e f3 σ3=>endRd id (e,lst n f3,σ3)=some (v,σ')) :
  callT T yno (.yld id :: xs) bs σ=some (v,σ'):=by
 rw [callT_yld T bs σ T_ok.yn.1 T_ok.yn.2]
 obtain ⟨e,f2,σ1,hr,rfl,σ2,hb,e3,f3,σ3,hr3,hend⟩:=hw
 have hT:T.rd rc=some (nt,a,b):=hrd
 have hlen:(lst n f).length=n:=by simp [lst]
 simp only [roundA,hσ,hT,Option.bind_some,hlen]
 rw [if_pos ⟨hp,hn⟩,hput,hr]
 simp only [Option.bind_some,bodyA,hb,hr3]
 exact hend
theorem put1 (d:Nat) (x:AV) (hd:d<n):putAll [d] [x] (lst n f)=lst n (upF f d x):=by
 have:=setDst_lst n f (some d) x
 simpa [putAll,setDst] using this
end
mutual
def vs1:GT→List ByteArray
 | .mk k n _ l=>if k=1 then [n] else vsL l
def vsL:List GT→List ByteArray
 | []=>[]
 | t :: l=>vs1 t++vsL l
end
theorem vs1_eq (t:GT):vs1 t=if t.kind=1 then [t.name] else vsL t.args:=by cases t; rfl
theorem vsL_append:∀ (a b:List GT),vsL (a++b)=vsL a++vsL b
 | [],b=>rfl
 | t :: a,b=>by simp [vsL,vsL_append a b]
def runS {S:Type} (step:S→ByteArray→S × Bool):S→List ByteArray→S × Bool
 | s,[]=>(s,true)
 | s,n :: ns=>if (step s n).2=true then runS step (step s n).1 ns else ((step s n).1,false)
theorem runS_append {S:Type} (step:S→ByteArray→S × Bool):∀ (a b:List ByteArray) (s:S),runS step s (a++b)=if (runS step s a).2=true then runS step (runS step s a).1 b else ((runS step s a).1,false)
 | [],b,s=>by simp [runS]
 | n :: a,b,s=>by
  simp only [List.cons_append,runS]
  by_cases h:(step s n).2=true
  ·simp only [if_pos h]; exact runS_append step a b _
  ·simp only [if_neg h]; simp
section
variable {S:Type} (H X:S→Heap→Prop) (step:S→ByteArray→S × Bool) (cnt:S→Nat) (C:Nat)
def Counts:Prop:=∀ s m,(step s m).2=true→cnt (step s m).1=cnt s+1
theorem Counts.run {step:S→ByteArray→S × Bool} {cnt:S→Nat} (h:Counts step cnt):∀ (l:List ByteArray) (s:S),(runS step s l).2=true→cnt (runS step s l).1=cnt s+l.length
 | [],s,_=>rfl
 | m :: l,s,hr=>by
  simp only [runS] at hr ⊢
  by_cases hb:(step s m).2=true
  ·rw [if_pos hb] at hr ⊢
   rw [h.run l _ hr,h s m hb,zqU]; omega
  ·rw [if_neg hb] at hr; cases hr
structure Rounds (bs id iy ie:Nat):Prop where
 more:∀ s σ o,H s σ→H s (σ++[o])
 y:∀ s σ,H s σ→σ[iy]?=some (.cells [.yld id] 0 false)
 e:∀ s σ,H s σ→σ[ie]?=some (.cells [.func 120 [.ptr iy 0,.ptr ie 0]] 0 false)
 ct:Counts step cnt
 rd:∀ s σ m,H s σ→cnt s<C→bs≤σ.length→∃ σ',callT T yno [.yld id,.str m] bs σ=some (.bool (step s m).2,σ')∧((step s m).2=true→H (step s m).1 σ')∧((step s m).2=false→X (step s m).1 σ')∧σ.length≤σ'.length
theorem GT.size_args (t:GT):GT.sizes t.args+3≤t.size:=by cases t; simp only [GT.size,GT.args]; omega
theorem each_ok {bs id iy ie:Nat} (R:Rounds H X step cnt C bs id iy ie):∀ (k:Nat) (l:List GT) (s:S) (σ:Heap),GT.sizes l≤k→k≤100000000000→H s σ→cnt s+(vsL l).length≤C→bs≤σ.length →
  ∃ σ',callT T 120 [.isl (GT.encs l) false,.ptr iy 0,.ptr ie 0] bs σ=some (.bool (runS step s (vsL l)).2,σ')∧((runS step s (vsL l)).2=true→H (runS step s (vsL l)).1 σ')∧((runS step s (vsL l)).2=false→X (runS step s (vsL l)).1 σ')∧σ.length≤σ'.length:=by
 intro k
 induction k using Nat.strongRecOn with
 | ind k ih=>
  intro l s σ hs hk hH hC hbs
  have hlen:=GT.len_sizes l
  suffices hh:∃ r,callT T 120 [.isl (GT.encs l) false,.ptr iy 0,.ptr ie 0] bs σ=some r∧(r.1=.bool (runS step s (vsL l)).2∧((runS step s (vsL l)).2=true→H (runS step s (vsL l)).1 r.2)∧((runS step s (vsL l)).2=false→X (runS step s (vsL l)).1 r.2)∧σ.length≤r.2.length) by
   obtain ⟨r,h1,h2,h3⟩:=hh
   exact ⟨r.2,by rw [h1,←h2],h3⟩
  refine heap_enterE (args':=[.isl (GT.encs l) false,.ptr iy 0,.ptr ie 0]) (σ1:=σ) (af:=c120) rfl rfl (by simp [c120]) (by simp [c120]) rfl ?_
  simp [c120,baseA]
  refine W_for T bs 27 l.length (fun i f τ=>f 1=.ptr iy 0∧f 2=.ptr ie 0∧f 7=.isl (GT.encs l) false∧f 8=.int .i64 (l.length:Int)∧f 9=.int .i64 (i:Int)∧(runS step s (vsL (l.take i))).2=true∧H (runS step s (vsL (l.take i))).1 τ∧σ.length≤τ.length) ?_ _ _ ?_
  ·rintro i f τ hi ⟨h1,h2,h7,h8,h9,hgo,hH2,hτ⟩
   by_cases hlt:i<l.length
   ·have hw:IntKind.i64.wrap ((i:Int)+1)=(i:Int)+1:=wr64 (by omega) (by omega)
    have hsz:=GT.sizes_mem (zqT hlt)
    have htk:vsL (l.take (i+1))=vsL (l.take i)++vs1 l[i]:=by
     rw [zqO hlt,vsL_append]; simp [vsL]
    have hobj:AObj.cells l[i].enc.cells 0 false=AObj.cells [.int .i64 l[i].kind,.str l[i].name,.int .i64 l[i].value.kind,.int .i64 l[i].value.num,.str l[i].value.text,.isl (GV.encs l[i].value.items) false,.isl (GT.encs l[i].args) false] 0 false:=by rw [GT.enc_eq]; rfl
    have hH3:=R.more _ _ (.cells l[i].enc.cells 0 false) hH2
    have hy:=R.y _ _ hH3
    have he:=R.e _ _ hH3
    rw [hobj] at hH3 hy he
    have hgn:∀ x:S × Bool,runS step s (vsL (l.take i)++vs1 l[i])=runS step (runS step s (vsL (l.take i))).1 (vs1 l[i]):=fun _=>by rw [runS_append,if_pos hgo]
    have hall:runS step s (vsL l)=if (runS step s (vsL (l.take (i+1)))).2=true then runS step (runS step s (vsL (l.take (i+1)))).1 (vsL (l.drop (i+1))) else ((runS step s (vsL (l.take (i+1)))).1,false):=by
     rw [←runS_append,←vsL_append,List.take_append_drop]
    rw [htk,runS_append,if_pos hgo] at hall
    rw [htk,runS_append,if_pos hgo]
    obtain ⟨s1,hs1⟩:∃ s1,(runS step s (vsL (l.take i))).1=s1:=⟨_,rfl⟩
    rw [hs1] at hall hH3 ⊢
    rw [vs1_eq] at hall ⊢
    have hcn:cnt s1+(vs1 l[i]).length≤C:=by
     have h1:=R.ct.run _ _ hgo
     rw [hs1] at h1
     have h2:vsL l=vsL (l.take i)++(vs1 l[i]++vsL (l.drop (i+1))):=by
      rw [←zqP,←htk,←vsL_append,List.take_append_drop]
     rw [h2,zqJ,zqJ] at hC
     omega
    rw [vs1_eq] at hcn
    by_cases hkind:l[i].kind=1
    ·have hc1:cnt s1<C:=by rw [if_pos hkind] at hcn; simp at hcn; omega
     rw [hkind] at hH3 hy he
     rw [if_pos hkind] at hall ⊢
     obtain ⟨τ2,hc,hH4,hX4,hl4⟩:=R.rd _ _ l[i].name hH3 hc1 (by simp; omega)
     simp only [runS] at hall ⊢
     simp only [zqJ,List.length_singleton] at hl4
     by_cases hb:(step s1 l[i].name).2=true
     ·rw [hb] at hc
      simp [h1,h2,h7,h8,h9,hlt,hw,hkind,hy,hc,hb]
      exact ⟨hH4 hb,by omega⟩
     ·have hb':(step s1 l[i].name).2=false:=by simpa using hb
      rw [hb'] at hc
      simp [h1,h2,h7,h8,h9,hlt,hw,hkind,hy,hc,hb',hall]
      exact ⟨hX4 hb',by omega⟩
    ·have hc2:cnt s1+(vsL l[i].args).length≤C:=by rw [if_neg hkind] at hcn; exact hcn
     rw [if_neg hkind] at hall ⊢
     obtain ⟨τ2,hc,hH4,hX4,hl4⟩:=ih (GT.sizes l[i].args) (by have:=GT.size_args l[i]; omega) l[i].args s1 _ (Nat.le_refl _) (by have:=GT.size_args l[i]; omega) hH3 hc2 (by simp; omega)
     simp only [zqJ,List.length_singleton] at hl4
     by_cases hb:(runS step s1 (vsL l[i].args)).2=true
     ·rw [hb] at hc
      simp [h1,h2,h7,h8,h9,hlt,hw,hkind,he,hc,hb]
      exact ⟨hH4 hb,by omega⟩
     ·have hb':(runS step s1 (vsL l[i].args)).2=false:=by simpa using hb
      rw [hb'] at hc
      simp [h1,h2,h7,h8,h9,hlt,hw,hkind,he,hc,hb',hall]
      exact ⟨hX4 hb',by omega⟩
   ·have he:i=l.length:=by omega
    subst he
    simp [h1,h2,h7,h8,h9]
    rw [List.take_length] at hgo hH2
    simp [hgo]
    exact ⟨hH2,hτ⟩
  ·simp [runS,vsL]
   exact hH
structure Rounds1 (bs id N:Nat):Prop where
 more:∀ s σ o,H s σ→H s (σ++[o])
 len:∀ s σ,H s σ→N≤σ.length
 ct:Counts step cnt
 rd:∀ s σ m,H s σ→cnt s<C→bs≤σ.length→∃ σ',callT T yno [.yld id,.str m] bs σ=some (.bool (step s m).2,σ')∧((step s m).2=true→H (step s m).1 σ')∧((step s m).2=false→X (step s m).1 σ')∧σ.length≤σ'.length ∧
  ∀ j cs,N≤j→σ[j]?=some (.cells cs 0 false)→σ'[j]?=some (.cells cs 0 false)
theorem iter_ok {bs id N il:Nat} (R:Rounds1 H X step cnt C bs id N) (l:List GT) (s:S) (σ:Heap) {fz:Nat} {ext:Bool} (hl:GT.sizes l≤100000000000) (hH:H s σ) (hC:cnt s+(vsL l).length≤C) (hbs:bs≤σ.length) (hil:σ[il]?=some (.cells [.isl (GT.encs l) false] fz ext)) :
  ∃ σ',callT T 119 [.yld id,.ptr il 0] bs σ=some (.tup [],σ')∧((runS step s (vsL l)).2=true→H (runS step s (vsL l)).1 σ')∧((runS step s (vsL l)).2=false→X (runS step s (vsL l)).1 σ')∧σ.length≤σ'.length:=by
 have hN:=R.len _ _ hH
 have hlt:il<σ.length:=(zqI.1 hil).1
 have R2:Rounds (fun s τ=>H s τ∧σ.length+1<τ.length∧τ[σ.length]?=some (.cells [.yld id] 0 false)∧τ[σ.length+1]?=some (.cells [.func 120 [.ptr σ.length 0,.ptr (σ.length+1) 0]] 0 false)) X step cnt C bs id σ.length (σ.length+1):=by
  refine ⟨fun s τ o h=>⟨R.more _ _ _ h.1,by simp; omega,?_,?_⟩,fun s τ h=>h.2.2.1,fun s τ h=>h.2.2.2,R.ct,fun s τ m h hc hb=>?_⟩
  ·rw [zqA (by omega)]; exact h.2.2.1
  ·rw [zqA (by omega)]; exact h.2.2.2
  ·obtain ⟨τ',h1,h2,h3,h4,h5⟩:=R.rd s τ m h.1 hc hb
   exact ⟨τ',h1,fun e=>⟨h2 e,by omega,h5 _ _ (by omega) h.2.2.1,h5 _ _ (by omega) h.2.2.2⟩,h3,h4⟩
 have e1:σ++[AObj.cells [.yld id] 0 false,AObj.cells [.func 120 [.ptr σ.length 0,.ptr (σ.length+1) 0]] 0 false]=(σ++[AObj.cells [.yld id] 0 false])++[AObj.cells [.func 120 [.ptr σ.length 0,.ptr (σ.length+1) 0]] 0 false]:=by simp
 obtain ⟨σ2,hc,h1,h2,h3⟩:=each_ok _ X step cnt C R2 (GT.sizes l) l s (σ++[AObj.cells [.yld id] 0 false,AObj.cells [.func 120 [.ptr σ.length 0,.ptr (σ.length+1) 0]] 0 false]) (Nat.le_refl _) hl
  ⟨by rw [e1]; exact R.more _ _ _ (R.more _ _ _ hH),by simp,by simp,by simp⟩ hC (by simp; omega)
 refine ⟨σ2,?_,fun e=>(h1 e).1,h2,by simp at h3; omega⟩
 have hil2:(σ++[AObj.cells [.yld id] 0 false,AObj.cells [.func 120 [.ptr σ.length 0,.ptr (σ.length+1) 0]] 0 false])[il]?=some (.cells [.isl (GT.encs l) false] fz ext):=by rw [zqA hlt]; exact hil
 refine heap_enter (args':=[.yld id,.ptr il 0]) (σ1:=σ) (af:=c119) rfl rfl (by simp [c119]) (by simp [c119]) rfl ?_
 have hb1:bs≤σ.length+1:=by omega
 simp [c119,baseA,hil2,hc,hb1,res1]
end
theorem variables_isl (l:List GT) (bs:Nat) (σ:Heap):callT T 90 [.isl (GT.encs l) false] bs σ=some (.func 119 [.ptr σ.length 0],σ++[.cells [.isl (GT.encs l) false] 0 false]):=by
 refine heap_enter (args':=[.isl (GT.encs l) false]) (σ1:=σ) (af:=c90) rfl rfl (by simp [c90]) (by simp [c90]) (by simp [closeArgs,c90]) ?_
 simp [c90,baseA,res1]
end Go.Proofs.YtpgakkhfjjhpdaaGreatDoor
end
section
namespace Go.Proofs.YtpgakkhfjjhpdaaGreatDoor
open Go.Mach
def memB (m:ByteArray) (b:List ByteArray):Bool:=b.any fun n=>decide (m=n)
theorem memB_iff (m:ByteArray) (b:List ByteArray):memB m b=true↔m∈b:=by simp [memB]
def idxN (m:ByteArray):List ByteArray→Nat
 | []=>0
 | n :: b=>if m=n then 0 else idxN m b+1
theorem idxN_get (m:ByteArray):∀ b:List ByteArray,memB m b=true→b[idxN m b]?=some m
 | [],h=>by simp [memB] at h
 | n :: b,h=>by
  simp only [idxN]
  by_cases e:m=n
  ·subst e; simp
  ·have h':memB m b=true:=by simpa [memB,e] using h
   simp [e,idxN_get m b h']
def addB (b:List ByteArray) (m:ByteArray):List ByteArray:=if memB m b=true then b else b++[m]
def mpN (b:List ByteArray):AObj:=.mp (b.map fun n=>(.str n,.bool true))
theorem mfind_names (m:ByteArray):∀ (b:List ByteArray) (i:Nat),mfind false [2] [.str m] i (b.map fun n=>(AV.str n,AV.bool true))=some (if memB m b=true then some (i+idxN m b,.bool true) else none)
 | [],i=>rfl
 | n :: b,i=>by
  have ih:=mfind_names m b (i+1)
  simp only [List.map_cons,mfind,keyC,Option.bind_some,eqcs_str,eqcs_nil,Option.map_some,Bool.and_true,Bool.false_eq_true,if_false]
  by_cases h:m=n
  ·subst h; simp [memB,idxN]
  ·have hm:memB m (n :: b)=memB m b:=by simp [memB,h]
   simp only [decide_eq_false h,ih,hm,idxN,if_neg h]
   split
   ·congr 3; omega
   ·rfl
theorem mlook_n {σ:Heap} {id:Nat} {b:List ByteArray} (h:σ[id]?=some (mpN b)) (m:ByteArray):mlookA σ false [2] (.bool false) false (.map id) (.str m)=some (.bool (memB m b)):=by
 simp only [mlookA,keyC,Option.bind_some,eqcs_str,eqcs_nil,Option.map_some,Option.isSome_some,if_true,mapOf,h,mpN,mfind_names,Bool.false_eq_true,if_false]
 cases hb:memB m b <;> simp [lookV]
theorem mset_n {σ:Heap} {id:Nat} {b:List ByteArray} (h:σ[id]?=some (mpN b)) (m:ByteArray):msetA σ false [2] (.map id) (.str m) (.bool true)=some (σ.set id (mpN (addB b m))):=by
 have hcl:closeA σ (.bool true)=some (.bool true,σ):=by simp
 simp only [msetA,keyC,Option.bind_some,eqcs_str,eqcs_nil,Option.map_some,Option.isSome_some,true_and,hcl,h,mpN,mfind_names,Bool.false_eq_true,if_false]
 cases hb:memB m b
 ·simp [addB,hb]
 ·have hi:(b.map fun n=>(AV.str n,AV.bool true)).set (idxN m b) (.str m,.bool true)=b.map fun n=>(AV.str n,AV.bool true):=by
   apply List.ext_getElem?
   intro j
   rw [List.getElem?_set]
   split
   ·rename_i e; subst e
    have hg:=idxN_get m b hb
    have hlt:=(zqI.1 hg).1
    rw [List.getElem?_map,hg,if_pos (by simpa using hlt)]; rfl
   ·rfl
  simp [addB,hb,hi]
theorem set_same {σ:Heap} {i:Nat} {o:AObj} (h:σ[i]?=some o):σ.set i o=σ:=by
 apply List.ext_getElem?
 intro j
 rw [List.getElem?_set]
 split
 ·rename_i e; subst e; rw [if_pos (zqI.1 h).1,h]
 ·rfl
theorem endRd_n {H:Heap} {i:Nat} {rc:RCode} {tm ρ:Regs} {st:LoopState} {pd:Option Go.Code} (h:H[i]?=some (.lp rc tm st pd)):endRd i (.normal,ρ,H)=some (.bool true,H.set i (.lp rc tm .ready none)):=by simp [endRd,h]
mutual
theorem vs1_len:∀ t:GT,(vs1 t).length≤t.size
 | .mk k n v l=>by
  have:=vsL_len l
  simp only [vs1,GT.size]
  split <;> simp <;> omega
theorem vsL_len:∀ l:List GT,(vsL l).length≤GT.sizes l
 | []=>by simp [vsL]
 | t :: l=>by
  have h1:=vs1_len t
  have h2:=vsL_len l
  simp only [vsL,zqJ,GT.sizes]; omega
end
open Go.Mach
def arityP (p:GP) (n:ByteArray):Int:=match p.decls.find? (fun d=>decide (d.name=n)) with
 | some d=>d.arity
 | none=>0
theorem idxG_find {α:Type} (q:α→Bool) (l:List α):(idxG q l<0∧l.find? q=none)∨∃ i,∃ h:i<l.length,idxG q l=(i:Int)∧l.find? q=some l[i]:=by
 unfold idxG
 cases h:l.findIdx? q with
 | none=>
  refine .inl ⟨by simp,?_⟩
  rw [List.findIdx?_eq_none_iff] at h
  rw [List.find?_eq_none]
  exact fun x hx=>by simp [h x hx]
 | some i=>
  obtain ⟨hi,hp,hall⟩:=List.findIdx?_eq_some_iff_getElem.1 h
  refine .inr ⟨i,hi,rfl,?_⟩
  rw [List.find?_eq_some_iff_append]
  refine ⟨hp,l.take i,l.drop (i+1),by rw [List.getElem_cons_drop,List.take_append_drop],fun x hx=>?_⟩
  obtain ⟨j,hj,rfl⟩:=zqS hx
  have:=hall j (by simp at hj; omega)
  simpa using this
theorem arity1_call (d:GD) (n:ByteArray) {k:Nat} (bs:Nat) (σ:Heap) (h:σ[k]?=some (.cells [.str n] 0 false)):callT T 58 [d.enc,.ptr k 0] bs σ=some (.bool (decide (d.name=n)),σ):=by
 have hk:k<σ.length:=(zqI.1 h).1
 have hk2:∀ o,(σ++[o])[k]?=some (.cells [.str n] 0 false):=fun o=>by rw [zqA hk]; exact h
 refine heap_enter (af:=c58) (args':=[d.enc,.ptr k 0]) (σ1:=σ) rfl rfl (by simp [c58]) (by simp [c58]) rfl ?_
 simp [c58,baseA,hk2,dropA_gc,refLt,res1,refLt2_bool,refLt2_int,take_1]
theorem arity_ok (p:GP) (n:ByteArray) (hl:p.decls.length≤100000000000):pureT T c35 [p.enc,.str n]=some (.int .i64 (arityP p n)):=by
 have hi:=fun σ (h:σ[1]?=some (AObj.cells [.str n] 0 false)) bs=>idxDecl (fun d=>decide (d.name=n)) p.decls 58 [.ptr 1 0] hl σ (fun x _ bs=>arity1_call x n bs σ h) bs
 apply pure_enter (by simp [c35])
 rcases idxG_find (fun d:GD=>decide (d.name=n)) p.decls with ⟨h1,h2⟩ | ⟨i,hlt,h1,h2⟩
 ·have h3:arityP p n=0:=by simp only [arityP,h2]
  simp [c35,hi,h1,h3]
 ·have h3:arityP p n=p.decls[i].arity:=by simp only [arityP,h2]
  rw [h1] at hi
  have h4:¬ ((i:Int)<0):=by omega
  simp [c35,hi,h4,h3,hlt]
theorem callArity (p:GP) (n:ByteArray) (hl:p.decls.length≤100000000000) (bs:Nat) (σ:Heap):callT T 35 [p.enc,.str n] bs σ=some (.int .i64 (arityP p n),σ):=call_clean rfl rfl rfl (by simp) (arity_ok p n hl)
theorem rd44:rds (rcOf Tryz.f61)=some r61:=by unfold rds; rw [if_pos rfl]
theorem ps44:(rcOf Tryz.f61).params=#[8]:=by kernel_rfl
def stepA (b:List ByteArray) (s:Nat) (m:ByteArray):Nat × Bool:=(s+1,memB m b)
theorem run_all (b:List ByteArray):∀ (ns:List ByteArray) (s:Nat),(runS (stepA b) s ns).2=ns.all (fun m=>memB m b)
 | [],s=>rfl
 | n :: ns,s=>by
  simp only [runS,List.all_cons]
  have e:(stepA b s n).2=memB n b:=rfl
  by_cases h:(stepA b s n).2=true
  ·rw [if_pos h,run_all b ns]; rw [e] at h; simp [h]
  ·rw [if_neg h]; rw [e] at h; simp [h]
def JA (σ:Heap) (k:Nat) (b:List ByteArray) (f:FR) (τ:Heap):Prop:=
 σ.length+4≤τ.length∧τ[σ.length]?=some (.cells [.map k] 0 false)∧τ[σ.length+1]?=some (.cells [.bool false] 0 false)∧τ[σ.length+3]?=some (.lp (rcOf Tryz.f61) (lst 13 f) .ready none)∧∀ j,j<σ.length→τ[j]?=σ[j]?
def XA (σ:Heap) (f:FR) (τ:Heap):Prop:=
 σ.length+4≤τ.length∧τ[σ.length+1]?=some (.cells [.bool false] 0 false)∧τ[σ.length+3]?=some (.lp (rcOf Tryz.f61) (lst 13 f) .done (some .ret))∧∀ j,j<σ.length→τ[j]?=σ[j]?
theorem endRd_r {H:Heap} {i:Nat} {rc:RCode} {tm ρ:Regs} {st:LoopState} {pd:Option Go.Code} (h:H[i]?=some (.lp rc tm st pd)):endRd i (.ret,ρ,H)=some (.bool false,H.set i (.lp rc tm .done (some .ret))):=by simp [endRd,h]
theorem roundA_ok {σ:Heap} {k:Nat} {b:List ByteArray} {f:FR} (hk:σ[k]?=some (mpN b)) (h2:f 2=.ptr σ.length 0) (h4:f 4=.ptr (σ.length+1) 0) (τ:Heap) (m:ByteArray) (hJ:JA σ k b f τ) :
  ∃ τ',callT T yno [.yld (σ.length+3),.str m] σ.length τ=some (.bool (memB m b),τ')∧(memB m b=true→JA σ k b f τ')∧(memB m b=false→XA σ f τ')∧τ.length≤τ'.length∧∀ j cs,σ.length+4≤j→τ[j]?=some (.cells cs 0 false)→τ'[j]?=some (.cells cs 0 false):=by
 obtain ⟨hN,hm,hc,hlp,hall⟩:=hJ
 have hkl:k<σ.length:=(zqI.1 hk).1
 have n1:¬ σ.length+3=σ.length:=by omega
 have n2:¬ σ.length+3=k:=by omega
 have n3:¬ σ.length+3=σ.length+1:=by omega
 have g1:∀ o,(τ.set (σ.length+3) o)[σ.length]?=some (.cells [.map k] 0 false):=fun o=>by rw [zqC n1]; exact hm
 have g2:∀ o,(τ.set (σ.length+3) o)[k]?=some (mpN b):=fun o=>by rw [zqC n2,hall k hkl]; exact hk
 have g3:∀ o,(τ.set (σ.length+3) o)[σ.length+1]?=some (.cells [.bool false] 0 false):=fun o=>by rw [zqC n3]; exact hc
 cases hin:memB m b
 ·refine ⟨_,round_call (f1:=upF f 8 (.str m)) hlp rd44 (Nat.le_refl _) (by rw [ps44]; rfl) (by rw [ps44]; exact put1 8 (.str m) (by decide)) (wpC_sound T σ.length 13 (by
   simp [r61]
   refine ⟨_,by simp [begLp,hlp]; rfl,wpC_sound T σ.length 13 ?_⟩
   simp [h2,h4,g1,g3,mlook_n (g2 _),hin]
   refine endRd_r (rc:=rcOf Tryz.f61) (tm:=lst 13 f) (st:=.busy) (pd:=none) ?_
   rw [zqC (by omega)]; exact list_set_at (by omega))),(fun e=>by cases e),fun _=>⟨by simp; omega,?_,?_,fun j hj=>?_⟩,by simp,fun j cs hj hcj=>?_⟩
  ·rw [zqC (by omega)]; exact list_set_at (by simp; omega)
  ·exact list_set_at (by simp; omega)
  ·rw [zqC (by omega),zqC (by omega),zqC (by omega)]; exact hall j hj
  ·rw [zqC (by omega),zqC (by omega),zqC (by omega)]; exact hcj
 ·refine ⟨τ,round_call (f1:=upF f 8 (.str m)) hlp rd44 (Nat.le_refl _) (by rw [ps44]; rfl) (by rw [ps44]; exact put1 8 (.str m) (by decide)) (wpC_sound T σ.length 13 ?_),fun _=>⟨hN,hm,hc,hlp,hall⟩,(fun e=>by cases e),Nat.le_refl _,fun _ _ _ h=>h⟩
  simp [r61]
  refine ⟨_,by simp [begLp,hlp]; rfl,wpC_sound T σ.length 13 ?_⟩
  simp [h2,h4,g1,g3,mlook_n (g2 _),hin]
  rw [endRd_n (list_set_at (by omega)),List.set_set,set_same hlp]
theorem take_of {σ τ:Heap} (hl:σ.length≤τ.length) (h:∀ j,j<σ.length→τ[j]?=σ[j]?):τ.take σ.length=σ:=by
 apply List.ext_getElem?
 intro j
 rw [List.getElem?_take]
 split
 ·rename_i hj; exact h j hj
 ·rename_i hj; rw [List.getElem?_eq_none (by omega)]
def allB (b:List ByteArray) (l:List GT):Bool:=(vsL l).all fun m=>memB m b
theorem callAllB (b:List ByteArray) (l:List GT) (hl:GT.sizes l≤1000000000) {k:Nat} (bs:Nat) (σ:Heap) (hk:σ[k]?=some (mpN b)):callT T 61 [.map k,.isl (GT.encs l) false] bs σ=some (.bool (allB b l),σ):=by
 refine heap_enter (af:=c61) (args':=[.map k,.isl (GT.encs l) false]) (σ1:=σ) rfl rfl (by simp [c61]) (by simp [c61]) (by simp [closeArgs,c61]) ?_
 have hv:=fun bs τ=>variables_isl l bs τ
 simp [c61,baseA,hv]
 generalize hf:upF _ _ _=f
 have h2:f 2=.ptr σ.length 0:=by rw [←hf]; simp
 have h4:f 4=.ptr (σ.length+1) 0:=by rw [←hf]; simp
 have h7:f 7=.func 119 [.ptr (σ.length+2) 0]:=by rw [←hf]; simp
 have R:Rounds1 (fun _=>JA σ k b f) (fun _=>XA σ f) (stepA b) (fun s=>s) 2000000000 σ.length (σ.length+3) (σ.length+4):=by
  refine ⟨?_,fun s τ h=>h.1,fun s m _=>rfl,fun s τ m h hc hb=>?_⟩
  ·rintro s τ o ⟨a1,a2,a3,a4,a5⟩
   refine ⟨by simp; omega,?_,?_,?_,fun j hj=>?_⟩
   ·rw [zqA (by omega)]; exact a2
   ·rw [zqA (by omega)]; exact a3
   ·rw [zqA (by omega)]; exact a4
   ·rw [zqA (by omega)]; exact a5 j hj
  ·exact roundA_ok hk h2 h4 τ m h
 have e0:σ++[AObj.cells [AV.map k] 0 false,AObj.cells [AV.bool false] 0 false,AObj.cells [AV.isl (GT.encs l) false] 0 false]++[.lp (rcOf Tryz.f61) (lst 13 f) .ready none]=σ++[AObj.cells [AV.map k] 0 false,AObj.cells [AV.bool false] 0 false,AObj.cells [AV.isl (GT.encs l) false] 0 false,.lp (rcOf Tryz.f61) (lst 13 f) .ready none]:=by simp
 have hvs:=vsL_len l
 obtain ⟨σ',hc,hH,hX,hlen⟩:=iter_ok (fun _=>JA σ k b f) (fun _=>XA σ f) (stepA b) (fun s=>s) 2000000000 R l 0 (il:=σ.length+2) (fz:=0) (ext:=false) (σ++[AObj.cells [AV.map k] 0 false,AObj.cells [AV.bool false] 0 false,AObj.cells [AV.isl (GT.encs l) false] 0 false]++[.lp (rcOf Tryz.f61) (lst 13 f) .ready none])
  (by omega) (by rw [e0]; exact ⟨by simp,by simp,by simp,by simp,fun j hj=>zqA hj⟩) (by omega) (by simp) (by rw [e0]; simp)
 rw [run_all] at hH hX
 have hlen3:(σ++[AObj.cells [AV.map k] 0 false,AObj.cells [AV.bool false] 0 false,AObj.cells [AV.isl (GT.encs l) false] 0 false]).length=σ.length+3:=by simp
 by_cases hb:allB b l=true
 ·obtain ⟨b1,b2,b3,b4,b5⟩:=hH hb
  refine W_rfn (g:=119) (caps:=[.ptr (σ.length+2) 0]) (by decide) (by simp [h7]) (by rw [hlen3]; exact hc) (e:=.normal) (σ2:=σ'.set (σ.length+3) (.lp (rcOf Tryz.f61) (lst 13 f) .exhausted none)) (by rw [hlen3]; simp [endLp,b4,pdX]) ?_
  refine wpK_sound T σ.length 13 _ _ _ _ ?_
  have c3:∀ o,(σ'.set (σ.length+3) o)[σ.length+1]?=some (.cells [.bool false] 0 false):=fun o=>by rw [zqC (by omega)]; exact b3
  have c4:∀ o o',((σ'.set (σ.length+3) o).set (σ.length+1) o').take σ.length=σ:=fun o o'=>take_of (by simp; omega) fun j hj=>by rw [zqC (by omega),zqC (by omega)]; exact b5 j hj
  have c5:∀ o o',((σ'.set (σ.length+3) o).set (σ.length+1) o')[σ.length+1]?=some o':=fun o o'=>list_set_at (by simp; omega)
  simp [h4,c3,c4,c5,hb,dropA_gc,refLt,res1,refLt2_bool]
 ·have hb':allB b l=false:=by simpa using hb
  obtain ⟨b1,b3,b4,b5⟩:=hX hb'
  refine W_rfn (g:=119) (caps:=[.ptr (σ.length+2) 0]) (by decide) (by simp [h7]) (by rw [hlen3]; exact hc) (e:=.ret) (σ2:=σ'.set (σ.length+3) (.lp (rcOf Tryz.f61) (lst 13 f) .exhausted (some .ret))) (by rw [hlen3]; simp [endLp,b4,pdX]) ?_
  refine contQ_ret T σ.length 13 ?_
  have c3:∀ o,(σ'.set (σ.length+3) o)[σ.length+1]?=some (.cells [.bool false] 0 false):=fun o=>by rw [zqC (by omega)]; exact b3
  have c4:∀ o,(σ'.set (σ.length+3) o).take σ.length=σ:=fun o=>take_of (by simp; omega) fun j hj=>by rw [zqC (by omega)]; exact b5 j hj
  simp [h4,c3,c4,hb',dropA_gc,refLt,res1,refLt2_bool]
def tops (l:List GT):List ByteArray:=(l.filter fun t=>decide (t.kind=1)).map GT.name
def takesB (b:List ByteArray) (x:GL):List ByteArray:=if x.kind=1 then (tops x.args).foldl addB b else b
def takesP (b:List ByteArray) (x:GL):Int × List ByteArray:=
 if allB (takesB b x) x.args=false then (61,takesB b x) else if x.kind≠4 then (0,takesB b x) else if memB x.name (takesB b x)=true then (62,takesB b x) else (0,addB (takesB b x) x.name)
theorem take_set {σ τ:Heap} {k:Nat} {o:AObj} (hl:σ.length≤τ.length) (hk:k<σ.length) (h:∀ j,j<σ.length→j≠k→τ[j]?=σ[j]?) (hk2:τ[k]?=some o):τ.take σ.length=σ.set k o:=by
 apply List.ext_getElem?
 intro j
 rw [List.getElem?_take,List.getElem?_set]
 split
 ·rename_i hj
  by_cases e:k=j
  ·subst e; rw [if_pos rfl]; simp [hk,hk2]
  ·rw [if_neg e]; exact h j hj fun e'=>e e'.symm
 ·rename_i hj
  rw [if_neg (by omega),List.getElem?_eq_none (by omega)]
def fstC:ACode→ACode
 | .seq a _=>a
 | c=>c
def sndC:ACode→ACode
 | .seq _ b=>b
 | c=>c
theorem takes_tail {σ:Heap} {k:Nat} {b1:List ByteArray} (x:GL) (hl:x.size≤1000000000) (hkl:k<σ.length) (f:FR) (τ:Heap) (h0:f 0=.map k) (h3:f 3=.ptr σ.length 0) (hN:σ.length+1≤τ.length)
  (hx:τ[σ.length]?=some (.cells [.int .i64 x.kind,.str x.name,.isl (GT.encs x.args) false] 0 false)) (hk:τ[k]?=some (mpN b1)) (hall:∀ j,j<σ.length→j≠k→τ[j]?=σ[j]?)
  {r:Int × List ByteArray} (hr:r=if allB b1 x.args=false then (61,b1) else if x.kind≠4 then (0,b1) else if memB x.name b1=true then (62,b1) else (0,addB b1 x.name)) :
  wpK T σ.length 42 [.code (sndC (sndC c60.body))] f τ (endR 42 [.tmp 4] true .gc σ.length (.int .i64 r.1,σ.set k (mpN r.2))):=by
 have hsz:GT.sizes x.args≤1000000000:=by have:=GL.args_le x; omega
 have hc:=fun bs=>callAllB b1 x.args hsz bs τ hk
 have ht:=take_set (by omega) hkl hall hk
 simp [c60,sndC,h0,h3,hx,hc]
 by_cases ha:allB b1 x.args=true
 ·by_cases h4:x.kind=4
  ·by_cases hm:memB x.name b1=true
   ·simp [ha] at hr
    simp [h4,hm] at hr
    subst hr
    simp [h0,h3,hx,ha,h4,mlook_n hk,hm,dropA_gc,refLt,res1,refLt2_int,ht]
   ·have hm':memB x.name b1=false:=by simpa using hm
    simp [ha] at hr
    simp [h4,hm'] at hr
    subst hr
    have ht2:(τ.set k (mpN (addB b1 x.name))).take σ.length=σ.set k (mpN (addB b1 x.name)):=take_set (by simp; omega) hkl (fun j hj hne=>by rw [zqC (fun e=>hne e.symm)]; exact hall j hj hne) (list_set_at (by omega))
    simp [h0,h3,hx,ha,h4,mlook_n hk,mset_n hk,hm',dropA_gc,refLt,res1,refLt2_int,ht2]
  ·simp [ha] at hr
   simp [h4] at hr
   subst hr
   simp [h0,h3,hx,ha,h4,dropA_gc,refLt,res1,refLt2_int,ht]
 ·have ha':allB b1 x.args=false:=by simpa using ha
  simp [ha'] at hr
  subst hr
  simp [ha',dropA_gc,refLt,res1,refLt2_int,ht]
theorem callTakes (b:List ByteArray) (x:GL) (hl:x.size≤1000000000) {k:Nat} (bs:Nat) (σ:Heap) (hk:σ[k]?=some (mpN b)):callT T 60 [.map k,x.enc] bs σ=some (.int .i64 (takesP b x).1,σ.set k (mpN (takesP b x).2)):=by
 have hkl:k<σ.length:=(zqI.1 hk).1
 have hsz:GT.sizes x.args≤1000000000:=by have:=GL.args_le x; omega
 have hlen:=GT.len_sizes x.args
 have tail:=fun b1=>takes_tail (σ:=σ) (k:=k) (b1:=b1) x hl hkl
 refine heap_enter (af:=c60) (args':=[.map k,x.enc]) (σ1:=σ) rfl rfl (by simp [c60]) (by simp [c60]) (by simp [closeArgs,c60]) ?_
 show wpK T σ.length 42 [.code c60.body] _ σ (endR 42 [.tmp 4] true .gc σ.length _)
 have hb:c60.body=.seq (fstC c60.body) (.seq (fstC (sndC c60.body)) (sndC (sndC c60.body))):=rfl
 rw [hb]
 generalize sndC (sndC c60.body)=K at tail
 by_cases h1:x.kind=1
 ·simp [c60,fstC,sndC,h1]
  refine W_for T σ.length 42 x.args.length (fun i f τ=>f 0=.map k∧f 3=.ptr σ.length 0∧f 11=.isl (GT.encs x.args) false∧f 12=.int .i64 (x.args.length:Int)∧f 13=.int .i64 (i:Int)∧σ.length+1≤τ.length ∧
   τ[σ.length]?=some (.cells [.int .i64 x.kind,.str x.name,.isl (GT.encs x.args) false] 0 false)∧τ[k]?=some (mpN ((tops (x.args.take i)).foldl addB b))∧∀ j,j<σ.length→j≠k→τ[j]?=σ[j]?) ?_ _ _ ?_
  ·rintro i f τ hi ⟨h0,h3,h11,h12,h13,hN,hx,hm,hall⟩
   by_cases hlt:i<x.args.length
   ·have hw:IntKind.i64.wrap ((i:Int)+1)=(i:Int)+1:=wr64 (by omega) (by omega)
    have htk:tops (x.args.take (i+1))=tops (x.args.take i)++tops [x.args[i]]:=by
     unfold tops; rw [zqO hlt,List.filter_append,List.map_append]
    rw [htk,List.foldl_append]
    have hm2:∀ o,(τ++[o])[k]?=some (mpN ((tops (x.args.take i)).foldl addB b)):=fun o=>by rw [zqA (by omega)]; exact hm
    generalize (tops (x.args.take i)).foldl addB b=b1 at *
    by_cases hk1:x.args[i].kind=1
    ·simp [h0,h3,h11,h12,h13,hlt,hw,hk1,mset_n (hm2 _)]
     refine ⟨by omega,?_,?_,fun j hj hne=>?_⟩
     ·rw [zqC (by omega),zqA (by omega)]; exact hx
     ·have:tops [x.args[i]]=[x.args[i].name]:=by simp [tops,hk1]
      rw [this]; exact list_set_at (by simp; omega)
     ·rw [zqC (fun e=>hne e.symm),zqA (by omega)]; exact hall j hj hne
    ·have:tops [x.args[i]]=[]:=by simp [tops,hk1]
     simp [h0,h3,h11,h12,h13,hlt,hw,hk1,this]
     refine ⟨by omega,?_,hm2 _,fun j hj hne=>?_⟩
     ·rw [zqA (by omega)]; exact hx
     ·rw [zqA (by omega)]; exact hall j hj hne
   ·have he:i=x.args.length:=by omega
    subst he
    simp [h0,h3,h11,h12,h13]
    rw [List.take_length] at hm
    refine tail _ _ τ (by simp [h0]) (by simp [h3]) hN hx hm hall ?_
    simp [takesP,takesB,h1]
  ·simp [h1,hk]
   exact ⟨by rw [zqA hkl]; simpa [tops] using hk,fun j hj _=>zqA hj⟩
 ·simp [c60,fstC,sndC,h1]
  refine tail b _ _ (by simp) (by simp) (by simp) (by simp) (by rw [zqA hkl]; exact hk) (fun j hj _=>zqA hj) ?_
  simp [takesP,takesB,h1]
def badL (p:GP) (l:GL):Bool:=(decide (l.kind=1) || decide (l.kind=2)) && decide (arityP p l.name≠(l.args.length:Int))
def relsB (p:GP) (r:GR):Bool:=decide (arityP p r.head=(r.args.length:Int)) && !(r.body.any (badL p))
theorem rel1_call (p:GP) (hl:p.decls.length≤100000000000) (l:GL) {k:Nat} (bs:Nat) (σ:Heap) (h:σ[k]?=some (.cells p.enc.cells 0 false)):callT T 89 [l.enc,.ptr k 0] bs σ=some (.bool (badL p l),σ):=by
 have hk:k<σ.length:=(zqI.1 h).1
 have hk2:∀ o,(σ++[o])[k]?=some (.cells [.isl (p.decls.map GD.enc) false,.isl (p.facts.map GU.enc) false,.isl (p.rules.map GR.enc) false] 0 false):=fun o=>by rw [zqA hk]; exact h
 have hA:=callArity p l.name hl
 refine heap_enter (af:=c89) (args':=[l.enc,.ptr k 0]) (σ1:=σ) rfl rfl (by simp [c89]) (by simp [c89]) rfl ?_
 by_cases h1:l.kind=1
 ·simp [c89,baseA,hk2,h1,hA,←GP.enc_eq,dropA_gc,refLt,res1,refLt2_bool,refLt2_int,take_1,badL]
 ·by_cases h2:l.kind=2
  ·simp [c89,baseA,hk2,h1,h2,hA,←GP.enc_eq,dropA_gc,refLt,res1,refLt2_bool,refLt2_int,take_1,badL]
  ·simp [c89,baseA,hk2,h1,h2,hA,←GP.enc_eq,dropA_gc,refLt,res1,refLt2_bool,refLt2_int,take_1,badL]
theorem rels_ok (p:GP) (hl:p.decls.length≤100000000000) (r:GR) (hb:r.body.length≤100000000000):pureT T c59 [p.enc,r.enc]=some (.bool (relsB p r)):=by
 have hA:=callArity p r.head hl
 have hC:=fun σ (h:σ[0]?=some (AObj.cells [.isl (p.decls.map GD.enc) false,.isl (p.facts.map GU.enc) false,.isl (p.rules.map GR.enc) false] 0 false)) bs=>conLiteral (badL p) r.body 89 [.ptr 0 0] hb σ (fun x _ bs=>rel1_call p hl x bs σ h) bs
 apply pure_enter (by simp [c59])
 by_cases h1:arityP p r.head=(r.args.length:Int)
 ·simp [c59,h1,hA,hC,←GP.enc_eq,relsB,sym]
 ·simp [c59,h1,hA,hC,←GP.enc_eq,relsB]
theorem callRels (p:GP) (hl:p.decls.length≤100000000000) (r:GR) (hb:r.body.length≤100000000000) (bs:Nat) (σ:Heap):callT T 59 [p.enc,r.enc] bs σ=some (.bool (relsB p r),σ):=call_clean rfl rfl rfl (by simp) (rels_ok p hl r hb)
def goB:List ByteArray→List GL→Int × List ByteArray
 | b,[]=>(0,b)
 | b,l :: ls=>if (takesP b l).1≠0 then takesP b l else goB (takesP b l).2 ls
def ruleP (p:GP) (r:GR):Int:=if relsB p r=false then 60 else if (goB [] r.body).1≠0 then (goB [] r.body).1 else if allB (goB [] r.body).2 r.args=false then 61 else 0
theorem goB_stop:∀ (a c:List GL) (b:List ByteArray),(goB b a).1≠0→goB b (a++c)=goB b a
 | [],c,b,h=>absurd rfl h
 | l :: a,c,b,h=>by
  by_cases h1:(takesP b l).1≠0
  ·simp only [List.cons_append,goB,if_pos h1]
  ·have e:goB b (l :: a)=goB (takesP b l).2 a:=by simp only [goB,if_neg h1]
   rw [e] at h ⊢
   rw [←goB_stop a c _ h]
   simp only [List.cons_append,goB,if_neg h1]
theorem goB_on:∀ (a c:List GL) (b:List ByteArray),(goB b a).1=0→goB b (a++c)=goB (goB b a).2 c
 | [],c,b,h=>rfl
 | l :: a,c,b,h=>by
  by_cases h1:(takesP b l).1≠0
  ·have e:goB b (l :: a)=takesP b l:=by simp only [goB,if_pos h1]
   rw [e] at h; exact absurd h h1
  ·have e:goB b (l :: a)=goB (takesP b l).2 a:=by simp only [goB,if_neg h1]
   rw [e] at h ⊢
   rw [←goB_on a c _ h]
   simp only [List.cons_append,goB,if_neg h1]
theorem rule_ok (p:GP) (hl:p.decls.length≤100000000000) (r:GR) (hr:r.size≤1000000000):pureT T c36 [p.enc,r.enc]=some (.int .i64 (ruleP p r)):=by
 have hbl:=GR.body_len r
 have hsz:GT.sizes r.args≤1000000000:=by have:=GR.args_le r; omega
 have hR:=callRels p hl r (by omega)
 apply pure_enter (by simp [c36])
 by_cases h1:relsB p r=true
 ·simp [c36,hR,h1,←GP.enc_eq,←GR.enc_eq]
  refine W_for T 0 33 r.body.length (fun i f τ=>f 3=.ptr 1 0∧f 5=.map 2∧f 15=.isl (r.body.map GL.enc) false∧f 16=.int .i64 (r.body.length:Int)∧f 17=.int .i64 (i:Int)∧3≤τ.length∧(goB [] (r.body.take i)).1=0 ∧
   τ[1]?=some (.cells [.str r.label,.str r.head,.isl (GT.encs r.args) false,.str r.agg,.int .i64 r.pos,.isl (r.body.map GL.enc) false] 0 false)∧τ[2]?=some (mpN (goB [] (r.body.take i)).2)) ?_ _ _ ?_
  ·rintro i f τ hi ⟨h3,h5,h15,h16,h17,hN,hgo,hr1,hm⟩
   by_cases hlt:i<r.body.length
   ·have hw:IntKind.i64.wrap ((i:Int)+1)=(i:Int)+1:=wr64 (by omega) (by omega)
    have e0:r.body[i]?=some r.body[i]:=zqF hlt
    have htk:r.body.take (i+1)=r.body.take i++[r.body[i]]:=zqO hlt
    have hdr:r.body=r.body.take (i+1)++r.body.drop (i+1):=(List.take_append_drop _ _).symm
    have hxs:=GR.body_mem r (zqT hlt)
    have hm2:∀ o,(τ++[o])[2]?=some (mpN (goB [] (r.body.take i)).2):=fun o=>by rw [zqA (by omega)]; exact hm
    have hr2:∀ o o',((τ++[o]).set 2 o')[1]?=some (.cells [.str r.label,.str r.head,.isl (GT.encs r.args) false,.str r.agg,.int .i64 r.pos,.isl (r.body.map GL.enc) false] 0 false):=fun o o'=>by rw [zqC (by decide),zqA (by omega)]; exact hr1
    have hT:=callTakes (goB [] (r.body.take i)).2 r.body[i] (by omega) (k:=2) 0 (τ++[.cells [.int .i64 r.body[i].kind,.str r.body[i].name,.isl (GT.encs r.body[i].args) false] 0 false]) (hm2 _)
    have e1:goB [] (r.body.take (i+1))=if (takesP (goB [] (r.body.take i)).2 r.body[i]).1≠0 then takesP (goB [] (r.body.take i)).2 r.body[i] else (0,(takesP (goB [] (r.body.take i)).2 r.body[i]).2):=by
     rw [htk,goB_on _ _ _ hgo]; rfl
    by_cases hz:(takesP (goB [] (r.body.take i)).2 r.body[i]).1=0
    ·rw [hz] at hT
     have e2:goB [] (r.body.take (i+1))=(0,(takesP (goB [] (r.body.take i)).2 r.body[i]).2):=by rw [e1]; simp [hz]
     rw [e2]
     simp [h3,h5,h15,h16,h17,hlt,e0,hw,hT,←GL.enc_eq]
     exact ⟨by omega,by rw [zqA (by omega)]; exact hr1,list_set_at (by simp; omega)⟩
    ·have e2:goB [] (r.body.take (i+1))=takesP (goB [] (r.body.take i)).2 r.body[i]:=by rw [e1]; simp [hz]
     have e3:goB [] r.body=takesP (goB [] (r.body.take i)).2 r.body[i]:=by
      rw [←e2]; conv=>lhs; rw [hdr]
      exact goB_stop _ _ _ (by rw [e2]; exact hz)
     simp [h3,h5,h15,h16,h17,hlt,e0,hw,hT,hz,←GL.enc_eq,ruleP,h1,e3]
     done
   ·have he:i=r.body.length:=by omega
    subst he
    rw [List.take_length] at hgo hm
    have hA:=fun bs=>callAllB (goB [] r.body).2 r.args hsz (k:=2) bs τ hm
    by_cases ha:allB (goB [] r.body).2 r.args=true
    ·simp [h3,h5,h15,h16,h17,hr1,hA,ha,ruleP,h1,hgo]
     done
    ·have ha':allB (goB [] r.body).2 r.args=false:=by simpa using ha
     simp [h3,h5,h15,h16,h17,hr1,hA,ha',ruleP,h1,hgo]
     done
  ·simp [goB,mpN]
 ·have h1':relsB p r=false:=by simpa using h1
  simp [c36,hR,h1',←GP.enc_eq,←GR.enc_eq,ruleP]
theorem callRule6 (p:GP) (hl:p.decls.length≤100000000000) (r:GR) (hr:r.size≤1000000000) (bs:Nat) (σ:Heap):callT T 36 [p.enc,r.enc] bs σ=some (.int .i64 (ruleP p r),σ):=call_clean rfl rfl rfl (by simp) (rule_ok p hl r hr)
open Go.Mach
def firstP (p:GP):List GR→Nat→Int × Int
 | [],_=>(0,-1)
 | r :: rs,i=>if ruleP p r≠0 then (ruleP p r,(i:Int)) else firstP p rs (i+1)
def badF (p:GP) (t:GU):Bool:=decide (arityP p t.name≠(t.args.length:Int))
def dupD:List ByteArray→List GD→Bool
 | _,[]=>false
 | b,d :: ds=>memB d.name b || dupD (addB b d.name) ds
def checkP (p:GP):Int × Int:=if progB p=false then (40,-1) else if dupD [] p.decls=true then (60,-1) else if p.facts.any (badF p)=true then (60,-1) else firstP p p.rules 0
def pCells (p:GP):AObj:=.cells [.isl (p.decls.map GD.enc) false,.isl (p.facts.map GU.enc) false,.isl (p.rules.map GR.enc) false] 0 false
abbrev res2 (r:Int × Int):AV:=.tup [.int .i64 r.1,.int .i64 r.2]
abbrev T2:ACode:=sndC (sndC (sndC (sndC c20.body)))
theorem check_rules (p:GP) (hp:p.size≤1000000000) (f:FR) (τ:Heap) (h1:f 1=.ptr 0 0) (h0:τ[0]?=some (pCells p)):wpK T 0 63 [.code (sndC T2)] f τ (endP 63 [.tmp 2,.tmp 3] (res2 (firstP p p.rules 0))):=by
 have hl:=GP.rules_len p
 have hdl:=GP.decls_len p
 unfold pCells at h0
 simp [T2,c20,sndC,h1,h0]
 refine W_for T 0 63 p.rules.length (fun i f τ=>f 1=.ptr 0 0∧f 48=.isl (p.rules.map GR.enc) false∧f 49=.int .i64 (p.rules.length:Int)∧f 50=.int .i64 (i:Int)∧1≤τ.length∧τ[0]?=some (.cells [.isl (p.decls.map GD.enc) false,.isl (p.facts.map GU.enc) false,.isl (p.rules.map GR.enc) false] 0 false)∧firstP p p.rules 0=firstP p (p.rules.drop i) i) ?_ _ _ ?_
 ·rintro i f τ hi ⟨h1,h48,h49,h50,hN,h0,hf⟩
  by_cases hlt:i<p.rules.length
  ·have hw:IntKind.i64.wrap ((i:Int)+1)=(i:Int)+1:=wr64 (by omega) (by omega)
   have e0:p.rules[i]?=some p.rules[i]:=zqF hlt
   have hrs:=GP.rules_mem p (zqT hlt)
   have hR:=callRule6 p (by omega) p.rules[i] (by omega)
   have h02:∀ o,(τ++[o])[0]?=some (.cells [.isl (p.decls.map GD.enc) false,.isl (p.facts.map GU.enc) false,.isl (p.rules.map GR.enc) false] 0 false):=fun o=>by rw [zqA (by omega)]; exact h0
   have h03:∀ o (h:0<(τ++[o]).length),(τ++[o])[0]'h=.cells [.isl (p.decls.map GD.enc) false,.isl (p.facts.map GU.enc) false,.isl (p.rules.map GR.enc) false] 0 false:=fun o h=>Option.some_inj.1 ((zqF h).symm.trans (h02 o))
   rw [zqM hlt] at hf
   simp only [firstP] at hf
   by_cases hz:ruleP p p.rules[i]=0
   ·rw [if_neg (by simpa using hz)] at hf
    rw [hz] at hR
    simp [h1,h48,h49,h50,hlt,e0,hw,h02,h03,hR,←GP.enc_eq,←GR.enc_eq,hf]
   ·rw [if_pos hz] at hf
    simp [h1,h48,h49,h50,hlt,e0,hw,h02,h03,hR,←GP.enc_eq,←GR.enc_eq,hf,hz,endP,res1]
  ·have he:i=p.rules.length:=by omega
   subst he
   rw [List.drop_length] at hf
   simp [h1,h48,h49,h50,hf,firstP,endP,res1]
 ·simp [h1,h0]
  exact (zqI.1 h0).1
theorem check_facts (p:GP) (hp:p.size≤1000000000) (f:FR) (τ:Heap) (h1:f 1=.ptr 0 0) (h0:τ[0]?=some (pCells p)):wpK T 0 63 [.code T2] f τ (endP 63 [.tmp 2,.tmp 3] (res2 (if p.facts.any (badF p)=true then (60,-1) else firstP p p.rules 0))):=by
 have hl:=GP.facts_len p
 have hdl:=GP.decls_len p
 have tail:=check_rules p hp
 obtain ⟨B,hB⟩:∃ B,p.facts.any (badF p)=B:=⟨_,rfl⟩
 rw [hB]
 have hb:T2=.seq (fstC T2) (sndC T2):=rfl
 rw [hb]
 generalize sndC T2=K at tail
 unfold pCells at h0
 simp [T2,c20,sndC,fstC,h1,h0]
 refine W_for T 0 63 p.facts.length (fun i f τ=>f 1=.ptr 0 0∧f 32=.isl (p.facts.map GU.enc) false∧f 33=.int .i64 (p.facts.length:Int)∧f 34=.int .i64 (i:Int)∧1≤τ.length∧τ[0]?=some (.cells [.isl (p.decls.map GD.enc) false,.isl (p.facts.map GU.enc) false,.isl (p.rules.map GR.enc) false] 0 false)∧B=(p.facts.drop i).any (badF p)) ?_ _ _ ?_
 ·rintro i f τ hi ⟨h1,h48,h49,h50,hN,h0,hf⟩
  by_cases hlt:i<p.facts.length
  ·have hw:IntKind.i64.wrap ((i:Int)+1)=(i:Int)+1:=wr64 (by omega) (by omega)
   have e0:p.facts[i]?=some p.facts[i]:=zqF hlt
   have hA:=callArity p p.facts[i].name (by omega)
   have h02:∀ o,(τ++[o])[0]?=some (.cells [.isl (p.decls.map GD.enc) false,.isl (p.facts.map GU.enc) false,.isl (p.rules.map GR.enc) false] 0 false):=fun o=>by rw [zqA (by omega)]; exact h0
   have h03:∀ o (h:0<(τ++[o]).length),(τ++[o])[0]'h=.cells [.isl (p.decls.map GD.enc) false,.isl (p.facts.map GU.enc) false,.isl (p.rules.map GR.enc) false] 0 false:=fun o h=>Option.some_inj.1 ((zqF h).symm.trans (h02 o))
   rw [zqM hlt] at hf
   simp only [List.any_cons] at hf
   by_cases hz:arityP p p.facts[i].name=(p.facts[i].args.length:Int)
   ·have hbf:badF p p.facts[i]=false:=by simp [badF,hz]
    rw [hbf,Bool.false_or] at hf
    simp [h1,h48,h49,h50,hlt,e0,hw,h02,h03,hA,hz,←GP.enc_eq,hf]
   ·have hbf:badF p p.facts[i]=true:=by simp [badF,hz]
    rw [hbf,Bool.true_or] at hf
    simp [h1,h48,h49,h50,hlt,e0,hw,h02,h03,hA,hz,←GP.enc_eq,hf,endP,res1]
  ·have he:i=p.facts.length:=by omega
   subst he
   rw [List.drop_length,List.any_nil] at hf
   simp [h1,h48,h49,h50,hf]
   exact tail (upF f 35 (.bool false)) τ (by simp [h1]) h0
 ·simp only [List.drop_zero,hB]
  simp [h1,h0]
  exact (zqI.1 h0).1
theorem check_ok (p:GP) (hp:p.size≤1000000000):pureT T c20 [p.enc]=some (res2 (checkP p)):=by
 have hl:=GP.decls_len p
 have tail:=check_facts p hp
 have hR:=callPRight p (by omega)
 apply pure_enter (by simp [c20])
 show wpK T 0 63 [.code c20.body] _ [] (endP 63 [.tmp 2,.tmp 3] _)
 have hb:c20.body=.seq (fstC c20.body) (.seq (fstC (sndC c20.body)) (.seq (fstC (sndC (sndC c20.body))) (.seq (fstC (sndC (sndC (sndC c20.body)))) T2))):=rfl
 rw [hb]
 generalize T2=K at tail
 by_cases hr:progB p=true
 ·simp [c20,sndC,fstC,hR,hr,←GP.enc_eq,sym]
  refine W_for T 0 63 p.decls.length (fun i f τ=>f 1=.ptr 0 0∧f 4=.map 1∧f 17=.isl (p.decls.map GD.enc) false∧f 18=.int .i64 (p.decls.length:Int)∧f 19=.int .i64 (i:Int)∧2≤τ.length∧τ[0]?=some (pCells p)∧∃ b,τ[1]?=some (mpN b)∧dupD [] p.decls=dupD b (p.decls.drop i)) ?_ _ _ ?_
  ·rintro i f τ hi ⟨h1,h4,h48,h49,h50,hN,h0,b,hm,hf⟩
   by_cases hlt:i<p.decls.length
   ·have hw:IntKind.i64.wrap ((i:Int)+1)=(i:Int)+1:=wr64 (by omega) (by omega)
    have e0:p.decls[i]?=some p.decls[i]:=zqF hlt
    have hm2:∀ o,(τ++[o])[1]?=some (mpN b):=fun o=>by rw [zqA (by omega)]; exact hm
    have h03:∀ o (h:0<(τ++[o]).length),(τ++[o])[0]'h=pCells p:=fun o h=>Option.some_inj.1 ((zqF h).symm.trans (by rw [zqA (by omega)]; exact h0))
    rw [zqM hlt] at hf
    simp only [dupD] at hf
    cases hin:memB p.decls[i].name b
    ·rw [hin,Bool.false_or] at hf
     simp [h1,h4,h48,h49,h50,hlt,e0,hw,mlook_n (hm2 _),mset_n (hm2 _),hin]
     refine ⟨by omega,?_,addB b p.decls[i].name,?_,hf⟩
     ·first | exact h03 _ _ | (rw [zqA (by omega)]; exact h0)
     ·first | exact list_set_at (by simp; omega) | (simp; omega)
    ·rw [hin,Bool.true_or] at hf
     simp [h1,h4,h48,h49,h50,hlt,e0,hw,mlook_n (hm2 _),hin,endP,res1,checkP,hr,hf]
   ·have he:i=p.decls.length:=by omega
    subst he
    rw [List.drop_length] at hf
    have hf2:dupD [] p.decls=false:=hf
    simp [h1,h4,h48,h49,h50]
    have ht:=tail (upF f 20 (.bool false)) τ (by simp [h1]) h0
    simpa [checkP,hr,hf2] using ht
  ·simp [pCells]
   exact ⟨[],rfl,rfl⟩
 ·have hr':progB p=false:=by simpa using hr
  simp [c20,sndC,fstC,hR,hr',←GP.enc_eq,sym,endP,res1,checkP]
theorem callCheck (p:GP) (hp:p.size≤1000000000) (bs:Nat) (σ:Heap):callT T 20 [p.enc] bs σ=some (res2 (checkP p),σ):=call_clean rfl rfl rfl (by simp) (check_ok p hp)
open Go.Mach
def relsD:List GD:=[⟨⟨#[108,105,110,107]⟩,3⟩,⟨⟨#[112]⟩,2⟩,⟨⟨#[113]⟩,2⟩,⟨⟨#[114]⟩,1⟩,⟨⟨#[115]⟩,3⟩,⟨⟨#[116]⟩,2⟩]
theorem relations6_ok:pureT T c17 []=some (.isl (relsD.map GD.enc) false):=by
 apply pure_enter (by simp [c17])
 simp [c17,setRun,endP,res1,relsD,GD.enc]
 exact ⟨_,rfl⟩
def numT (n:Int):GT:=.mk 2 ⟨#[]⟩ (.mk 1 n ⟨#[]⟩ []) []
theorem num6_ok (n:Int):pureT T c49 [.int .i64 n]=some (numT n).enc:=by
 apply pure_enter (by simp [c49])
 simp [c49,setRun,endP,res1,numT,GT.enc,GV.kind,GV.num,GV.text,GV.items,GV.encs]
theorem callRelations6 (bs:Nat) (σ:Heap):callT T 17 [] bs σ=some (.isl (relsD.map GD.enc) false,σ):=call_clean rfl rfl rfl rfl relations6_ok
theorem callNum6 (n:Int) (bs:Nat) (σ:Heap):callT T 49 [.int .i64 n] bs σ=some ((numT n).enc,σ):=call_clean rfl rfl rfl rfl (num6_ok n)
theorem pick6_ok (c n:Int) (h:n≠0):pureT T c31 [.int .i64 c,.int .i64 n]=some (.int .i64 ((if c<0 then IntKind.i64.wrap (0 - IntKind.i64.wrap (c+1)) else c).tmod n)):=by
 apply pure_enter (by simp [c31])
 by_cases hc:c<0
 ·simp [c31,hc,h]
 ·simp [c31,hc,h]
theorem pick6 (c:Int) (n:Nat) (h:0<n) (h1:GV.i64ok c) (bs:Nat) (σ:Heap) :
  callT T 31 [.int .i64 c,.int .i64 (n:Int)] bs σ=some (.int .i64 (pickN c n:Int),σ):=by
 refine call_clean rfl rfl rfl rfl ?_
 rw [pick6_ok c n (by omega),pick_eq c n h h1.1 h1.2]
def vName (n:Nat):ByteArray:=[⟨#[83]⟩,⟨#[68]⟩,⟨#[88]⟩,⟨#[89]⟩,⟨#[90]⟩,⟨#[67]⟩].getD n ⟨#[]⟩
def vT (c:Int):GT:=.mk 1 (vName (pickN c 6)) (.mk 0 0 ⟨#[]⟩ []) []
theorem v6_ok (c:Int) (hc:GV.i64ok c):pureT T c48 [.int .i64 c]=some (vT c).enc:=by
 have hp:=fun bs σ=>pick6 c 6 (by omega) hc bs σ
 have hlt:pickN c 6<6:=pickN_lt (by omega)
 apply pure_enter (by simp [c48])
 unfold vT
 simp only [Int.cast_ofNat_Int] at hp
 generalize pickN c 6=n at *
 match n,hlt with
 | 0,_=>simp [c48,setRun,hp,endP,res1,GT.enc,GV.kind,GV.num,GV.text,GV.items,GV.encs,vName]
 | 1,_=>simp [c48,setRun,hp,endP,res1,GT.enc,GV.kind,GV.num,GV.text,GV.items,GV.encs,vName]
 | 2,_=>simp [c48,setRun,hp,endP,res1,GT.enc,GV.kind,GV.num,GV.text,GV.items,GV.encs,vName]
 | 3,_=>simp [c48,setRun,hp,endP,res1,GT.enc,GV.kind,GV.num,GV.text,GV.items,GV.encs,vName]
 | 4,_=>simp [c48,setRun,hp,endP,res1,GT.enc,GV.kind,GV.num,GV.text,GV.items,GV.encs,vName]
 | 5,_=>simp [c48,setRun,hp,endP,res1,GT.enc,GV.kind,GV.num,GV.text,GV.items,GV.encs,vName]
theorem callV6 (c:Int) (hc:GV.i64ok c) (bs:Nat) (σ:Heap):callT T 48 [.int .i64 c] bs σ=some ((vT c).enc,σ):=call_clean rfl rfl rfl rfl (v6_ok c hc)
open Go.Mach
structure GRaw where
 kind:Int
 name:Int
 n0:Int
 n1:Int
 n2:Int
 n3:Int
namespace GRaw
def enc (x:GRaw):AV:=.agg [.int .i64 x.kind,.int .i64 x.name,.int .i64 x.n0,.int .i64 x.n1,.int .i64 x.n2,.int .i64 x.n3]
def ok (x:GRaw):Prop:=GV.i64ok x.kind∧GV.i64ok x.name∧GV.i64ok x.n0∧GV.i64ok x.n1∧GV.i64ok x.n2∧GV.i64ok x.n3
def at' (x:GRaw) (i:Nat):Int:=if i=0 then x.n0 else if i=1 then x.n1 else if i=2 then x.n2 else x.n3
def zero:GRaw:=⟨0,0,0,0,0,0⟩
theorem enc_mk (k n a b c d:Int):AV.agg [.int .i64 k,.int .i64 n,.int .i64 a,.int .i64 b,.int .i64 c,.int .i64 d]=enc ⟨k,n,a,b,c,d⟩:=rfl
@[simp] theorem eta (x:GRaw):(⟨x.kind,x.name,x.n0,x.n1,x.n2,x.n3⟩:GRaw)=x:=rfl
theorem enc_eq (x:GRaw):x.enc=.agg [.int .i64 x.kind,.int .i64 x.name,.int .i64 x.n0,.int .i64 x.n1,.int .i64 x.n2,.int .i64 x.n3]:=rfl
@[simp] theorem enc_cells (x:GRaw):x.enc.cells=[.int .i64 x.kind,.int .i64 x.name,.int .i64 x.n0,.int .i64 x.n1,.int .i64 x.n2,.int .i64 x.n3]:=rfl
@[simp] theorem enc_solid (x:GRaw):x.enc.solid=true:=rfl
@[simp] theorem enc_head (x:GRaw) (xs:List AV):headYld (x.enc :: xs)=false:=by cases x; rfl
@[simp] theorem enc_clean (x:GRaw):x.enc.clean=true:=rfl
@[simp] theorem enc_datR (x:GRaw):x.enc.datR=true:=rfl
@[simp] theorem enc_dat (x:GRaw):x.enc.dat=true:=rfl
@[simp] theorem enc_clo (x:GRaw):x.enc.clo=true:=rfl
@[simp] theorem enc_clo1 (x:GRaw):x.enc.clo1=false:=rfl
@[simp] theorem enc_closeA (σ:Heap) (x:GRaw):closeA σ x.enc=some (x.enc,σ):=(clean_close (by simp)).1
@[simp] theorem enc_closeR (σ:Heap) (x:GRaw):closeR σ x.enc=some (x.enc,σ):=rfl
theorem zero_ok:zero.ok:=by simp [ok,zero,GV.i64ok]
theorem at_ok {x:GRaw} (h:x.ok) (i:Nat):GV.i64ok (x.at' i):=by
 obtain ⟨h1,h2,h3,h4,h5,h6⟩:=h
 unfold at'
 split
 ·exact h3
 split
 ·exact h4
 split
 ·exact h5
 ·exact h6
end GRaw
def RawsOk (rules:List (List GRaw)):Prop:=(∀ l∈rules,(∀ x∈l,x.ok)∧l.length≤100000000000)∧rules.length≤100000000000
def FactsOk (facts:List GRaw):Prop:=(∀ x∈facts,x.ok)∧facts.length≤100000000000
abbrev encRR (rules:List (List GRaw)):List AV:=rules.map fun l=>AV.isl (l.map GRaw.enc) false
theorem tdiv_ok {k:Int} (h:GV.i64ok k) (n:Nat) (hn:2≤n):GV.i64ok (k.tdiv n):=by
 unfold GV.i64ok at h ⊢
 have h1:(k.tdiv n).natAbs=k.natAbs / n:=by rw [Int.natAbs_tdiv]; rfl
 have h2:k.natAbs / n * 2≤k.natAbs:=Nat.le_trans (Nat.mul_le_mul_left _ hn) (Nat.div_mul_le_self _ _)
 omega
def relR (x:GRaw):GD:=relsD.getD (pickN x.name 6) ⟨⟨#[]⟩,0⟩
def addrN (n:Nat):ByteArray:=[⟨#[97]⟩,⟨#[98]⟩,⟨#[99]⟩,⟨#[100]⟩].getD n ⟨#[]⟩
def vTn (n:Nat):GT:=.mk 1 (vName n) (.mk 0 0 ⟨#[]⟩ []) []
theorem vT_n (c:Int):vT c=vTn (pickN c 6):=rfl
def addrT (n:Nat):GT:=.mk 2 ⟨#[]⟩ (.mk 3 0 (addrN n) []) []
def sumT (n:Nat):GT:=.mk 4 ⟨#[43]⟩ (.mk 0 0 ⟨#[]⟩ []) [vTn n,numT 1]
def argR (k:Int):GT:=
 if pickN k 12=9 then numT (pickN (k.tdiv 12) 4) else if pickN k 12=10 then addrT (pickN (k.tdiv 12) 3) else if pickN k 12=11 then sumT (pickN (k.tdiv 12) 6) else vT k
def argsR (x:GRaw) (n:Nat):List GT:=(List.range n).map fun i=>if i=0 then vT x.n0 else argR (x.at' i)
def atomR (x:GRaw):List GT:=argsR x (relR x).arity.toNat
def tSix:List ByteArray:=[⟨#[61,61]⟩,⟨#[33,61]⟩,⟨#[60]⟩,⟨#[60,61]⟩,⟨#[62]⟩,⟨#[62,61]⟩]
def litR (x:GRaw):GL:=
 if pickN x.kind 8<4 then ⟨1,(relR x).name,atomR x⟩
 else if pickN x.kind 8=4 then ⟨2,(relR x).name,atomR x⟩
 else if pickN x.kind 8<7 then ⟨3,tSix.getD (pickN x.name 6) ⟨#[]⟩,[vT x.n0,if pickN x.n3 2=0 then numT (pickN x.n2 4) else vT x.n1]⟩
 else ⟨4,vName (pickN x.n0 6),[.mk 4 (if pickN x.n3 2=0 then ⟨#[43]⟩ else ⟨#[45]⟩) (.mk 0 0 ⟨#[]⟩ []) [vT x.n1,if pickN (x.n3.tdiv 2) 2=0 then numT 1 else vT x.n2]]⟩
def bodyR (l:List GRaw):List GL:=if l.length≤1 then [litR .zero] else ((l.take 5).drop 1).map litR
def headR (l:List GRaw):GRaw:=l.headD .zero
def aggR (h:GRaw):Bool:=decide (pickN h.kind 5=4) && decide (((atomR h)[1]?).map GT.kind=some 1)
def aggN (n:Nat):ByteArray:=if n=0 then sMin else if n=1 then sMax else sCount
def ruleR (l:List GRaw) (n:Nat):GR:=
 ⟨(⟨#[114]⟩++⟨#[UInt8.ofNat (97+n)]⟩),(relR (headR l)).name,atomR (headR l),if aggR (headR l)=true then aggN (pickN ((headR l).kind.tdiv 5) 3) else ⟨#[]⟩,if aggR (headR l)=true then 1 else 0,bodyR l⟩
def addrV (n:Nat):GV:=.mk 3 0 (addrN n) []
def numV (n:Int):GV:=.mk 1 n ⟨#[]⟩ []
def fargR (x:GRaw) (i:Nat):GV:=if i=0∨i=1∧(pickN x.name 6=0∨pickN (x.at' i) 2=0) then addrV (pickN ((x.at' i).tdiv 2) 4) else numV (pickN ((x.at' i).tdiv 2) 5)
def factR (x:GRaw):GU:=⟨(relR x).name,(List.range (relR x).arity.toNat).map (fargR x)⟩
def rulesR (rules:List (List GRaw)):List GR:=((rules.take 6).zipIdx).map fun p=>ruleR p.1 p.2
def progR (rules:List (List GRaw)) (facts:List GRaw):GP:=⟨relsD,(facts.take 12).map factR,rulesR rules⟩
theorem rel_cases (x:GRaw):∃ n,n<6∧pickN x.name 6=n∧relR x=relsD.getD n ⟨⟨#[]⟩,0⟩:=⟨_,pickN_lt (by omega),rfl,rfl⟩
theorem rel_arity (x:GRaw):1≤(relR x).arity.toNat∧(relR x).arity.toNat≤3∧((relR x).arity.toNat:Int)=(relR x).arity:=by
 obtain ⟨n,hn,_,e⟩:=rel_cases x
 rw [e]
 match n,hn with
 | 0,_=>decide
 | 1,_=>decide
 | 2,_=>decide
 | 3,_=>decide
 | 4,_=>decide
 | 5,_=>decide
theorem rel_OK (x:GRaw):relOK (relR x).name=true:=by
 obtain ⟨n,hn,_,e⟩:=rel_cases x
 rw [e]
 match n,hn with
 | 0,_=>decide +kernel
 | 1,_=>decide +kernel
 | 2,_=>decide +kernel
 | 3,_=>decide +kernel
 | 4,_=>decide +kernel
 | 5,_=>decide +kernel
theorem vTn_R:∀ n,n<6→termR 8 (vTn n)=true:=by decide +kernel
theorem vT_R (c:Int):termR 8 (vT c)=true:=vTn_R _ (pickN_lt (by omega))
theorem numT_R:∀ n:Nat,n<6→termR 8 (numT n)=true:=by decide +kernel
theorem addrT_R:∀ n,n<3→termR 8 (addrT n)=true:=by decide +kernel
theorem sumT_R:∀ n,n<6→termR 8 (sumT n)=true:=by decide +kernel
theorem argR_R (k:Int):termR 8 (argR k)=true:=by
 unfold argR
 split
 ·exact numT_R _ (Nat.lt_of_lt_of_le (pickN_lt (by omega)) (by omega))
 split
 ·exact addrT_R _ (pickN_lt (by omega))
 split
 ·exact sumT_R _ (pickN_lt (by omega))
 ·exact vT_R k
theorem argsR_R (x:GRaw) (n:Nat):(argsR x n).all (termR 8)=true:=by
 rw [zqQ]
 intro t ht
 obtain ⟨i,_,rfl⟩:=List.mem_map.1 ht
 split
 ·exact vT_R _
 ·exact argR_R _
@[simp] theorem argsR_len (x:GRaw) (n:Nat):(argsR x n).length=n:=by simp [argsR]
theorem argsR_succ (x:GRaw) (n:Nat):argsR x (n+1)=vT x.n0 :: (List.range' 1 n).map fun i=>argR (x.at' i):=by
 unfold argsR
 rw [List.range_eq_range',List.range'_succ,List.map_cons]
 simp only [if_true]
 congr 1
 apply List.map_congr_left
 intro i hi
 rw [List.mem_range'_1] at hi
 rw [if_neg (by omega)]
theorem atom_argsB (x:GRaw):argsB (atomR x)=true:=by
 obtain ⟨h1,h2,_⟩:=rel_arity x
 unfold argsB atomR
 have h3:=argsR_R x (relR x).arity.toNat
 have h4:headOK (argsR x (relR x).arity.toNat)=true:=by
  obtain ⟨m,hm⟩:∃ m,(relR x).arity.toNat=m+1:=⟨_,(Nat.succ_pred_eq_of_pos h1).symm⟩
  rw [hm,argsR_succ]; rfl
 rw [h3,h4,argsR_len]
 simp; omega
theorem vName_OK:∀ n,n<6→varOK (vName n)=true:=by decide +kernel
theorem tSix_OK:∀ n,n<6→tOK (tSix.getD n ⟨#[]⟩)=true:=by decide +kernel
theorem opT_R:∀ a,a<6→∀ b,b<6→∀ o,o<2→termR 8 (.mk 4 (if o=0 then ⟨#[43]⟩ else ⟨#[45]⟩) (.mk 0 0 ⟨#[]⟩ []) [vTn a,vTn b])=true:=by decide +kernel
theorem opN_R:∀ a,a<6→∀ o,o<2→termR 8 (.mk 4 (if o=0 then ⟨#[43]⟩ else ⟨#[45]⟩) (.mk 0 0 ⟨#[]⟩ []) [vTn a,numT 1])=true:=by decide +kernel
theorem litR_B (x:GRaw):litB (litR x)=true:=by
 unfold litR
 split
 ·simp [litB,rel_OK,atom_argsB]
 split
 ·simp [litB,rel_OK,atom_argsB]
 split
 ·have h1:=tSix_OK _ (pickN_lt (c:=x.name) (n:=6) (by omega))
  have h2:=numT_R (pickN x.n2 4) (Nat.lt_of_lt_of_le (pickN_lt (by omega)) (by omega))
  have h3:termR 8 (if pickN x.n3 2=0 then numT (pickN x.n2 4) else vT x.n1)=true:=by
   split
   ·exact h2
   ·exact vT_R _
  generalize tSix.getD (pickN x.name 6) ⟨#[]⟩=o at *
  simp [litB,h1,vT_R,h3]
 ·have h1:=vName_OK _ (pickN_lt (c:=x.n0) (n:=6) (by omega))
  have h3:termR 8 (.mk 4 (if pickN x.n3 2=0 then ⟨#[43]⟩ else ⟨#[45]⟩) (.mk 0 0 ⟨#[]⟩ []) [vT x.n1,if pickN (x.n3.tdiv 2) 2=0 then numT 1 else vT x.n2])=true:=by
   split
   ·rename_i h
    split
    ·exact opN_R _ (pickN_lt (c:=x.n1) (by omega)) 0 (by omega)
    ·exact opT_R _ (pickN_lt (c:=x.n1) (by omega)) _ (pickN_lt (c:=x.n2) (by omega)) 0 (by omega)
   ·split
    ·exact opN_R _ (pickN_lt (c:=x.n1) (by omega)) 1 (by omega)
    ·exact opT_R _ (pickN_lt (c:=x.n1) (by omega)) _ (pickN_lt (c:=x.n2) (by omega)) 1 (by omega)
  simp [litB,h1,h3]
theorem bodyR_len (l:List GRaw):1≤(bodyR l).length∧(bodyR l).length≤4:=by
 unfold bodyR
 split
 ·simp
 ·simp; omega
theorem bodyR_mem (l:List GRaw) {y:GL} (h:y∈bodyR l):∃ x,y=litR x:=by
 unfold bodyR at h
 split at h
 ·simp at h; exact ⟨_,h⟩
 ·obtain ⟨x,_,rfl⟩:=List.mem_map.1 h; exact ⟨x,rfl⟩
theorem label_OK:∀ n,n<26→relOK (⟨#[114]⟩++⟨#[UInt8.ofNat (97+n)]⟩)=true:=by decide +kernel
theorem aggN_ne (n:Nat):aggN n≠⟨#[]⟩:=by
 unfold aggN
 split
 ·decide
 split <;> decide
theorem ruleR_B (l:List GRaw) (n:Nat) (hn:n<26):ruleB (ruleR l n)=true:=by
 have h1:=bodyR_len l
 have h2:(bodyR l).all litB=true:=by
  rw [zqQ]; intro y hy
  obtain ⟨x,rfl⟩:=bodyR_mem l hy
  exact litR_B x
 have h3:aggB (ruleR l n)=true:=by
  unfold aggB ruleR
  by_cases ha:aggR (headR l)=true
  ·simp only [ha,if_true,if_neg (aggN_ne _)]
   have h4:aggN (pickN ((headR l).kind.tdiv 5) 3)=sMin∨aggN (pickN ((headR l).kind.tdiv 5) 3)=sMax∨aggN (pickN ((headR l).kind.tdiv 5) 3)=sCount:=by
    unfold aggN
    split
    ·exact .inl rfl
    split
    ·exact .inr (.inl rfl)
    ·exact .inr (.inr rfl)
   unfold aggR at ha
   simp only [zqL,decide_eq_true_eq] at ha
   have h5:1<(atomR (headR l)).length:=by
    obtain ⟨x,hx,_⟩:=zqG.1 ha.2
    exact (zqI.1 hx).1
   simp only [zqL,decide_eq_true_eq]
   exact ⟨⟨h4,by omega,by omega⟩,ha.2⟩
  ·simp [ha]
 have e1:(ruleR l n).label=(⟨#[114]⟩++⟨#[UInt8.ofNat (97+n)]⟩):=rfl
 have e2:(ruleR l n).head=(relR (headR l)).name:=rfl
 have e3:(ruleR l n).args=atomR (headR l):=rfl
 have e4:(ruleR l n).body=bodyR l:=rfl
 simp only [ruleB,h3,e1,e2,e3,e4,label_OK n hn,rel_OK,atom_argsB,h2,Bool.and_true,Bool.true_and,decide_eq_true_eq]
 omega
theorem addrV_R:∀ n,n<4→rightT (addrV n)=true:=by decide +kernel
theorem numV_R:∀ n:Nat,n<6→rightT (numV n)=true:=by decide +kernel
theorem fargR_R (x:GRaw) (i:Nat):rightT (fargR x i)=true:=by
 unfold fargR
 split
 ·exact addrV_R _ (pickN_lt (by omega))
 ·exact numV_R _ (Nat.lt_of_lt_of_le (pickN_lt (by omega)) (by omega))
theorem fargs_len (x:GRaw):(factR x).args.length=(relR x).arity.toNat:=by simp [factR]
theorem tupB_R (x:GRaw):tupB (factR x)=true:=by
 obtain ⟨h1,h2,_⟩:=rel_arity x
 have h3:(factR x).args.all rightT=true:=by
  rw [zqQ]; intro v hv
  obtain ⟨i,_,rfl⟩:=List.mem_map.1 hv
  exact fargR_R x i
 have h4:∃ v l,(factR x).args=v :: l∧v.kind=3:=by
  obtain ⟨m,hm⟩:∃ m,(relR x).arity.toNat=m+1:=⟨_,(Nat.succ_pred_eq_of_pos h1).symm⟩
  refine ⟨fargR x 0,(List.range' 1 m).map (fargR x),?_,?_⟩
  ·simp only [factR,hm,List.range_eq_range',List.range'_succ,List.map_cons]
  ·simp [fargR,addrV]
 have h5:=fargs_len x
 obtain ⟨v,l,e,hv⟩:=h4
 have e1:(factR x).name=(relR x).name:=rfl
 unfold tupB
 rw [h3,e1,rel_OK,h5]
 rw [e]
 simp [hv]; omega
theorem relsD_B:relsD.all declB=true:=by decide +kernel
theorem relsD_dup:dupD [] relsD=false:=by decide +kernel
theorem arity_rel {p:GP} (hp:p.decls=relsD) (x:GRaw):arityP p (relR x).name=(relR x).arity:=by
 obtain ⟨n,hn,_,e⟩:=rel_cases x
 have hd:∀ m,arityP p m=arityP ⟨relsD,[],[]⟩ m:=fun m=>by unfold arityP; rw [hp]
 rw [e,hd]
 match n,hn with
 | 0,_=>decide +kernel
 | 1,_=>decide +kernel
 | 2,_=>decide +kernel
 | 3,_=>decide +kernel
 | 4,_=>decide +kernel
 | 5,_=>decide +kernel
theorem fact_good {p:GP} (hp:p.decls=relsD) (x:GRaw):badF p (factR x)=false:=by
 have h1:=arity_rel hp x
 have h2:=(rel_arity x).2.2
 have h3:=fargs_len x
 have e1:(factR x).name=(relR x).name:=rfl
 simp [badF,h1,h3,e1,h2]
theorem facts_good {p:GP} (hp:p.decls=relsD) (l:List GRaw):(l.map factR).any (badF p)=false:=by
 rw [List.any_eq_false]; intro v hv
 obtain ⟨x,_,rfl⟩:=List.mem_map.1 hv
 simp [fact_good hp]
theorem rule_congr {p q:GP} (h:p.decls=q.decls) (r:GR):ruleP p r=ruleP q r:=by
 have ha:arityP p=arityP q:=by funext n; unfold arityP; rw [h]
 have hb:badL p=badL q:=by funext l; unfold badL; rw [ha]
 have hr:relsB p r=relsB q r:=by unfold relsB; rw [ha,hb]
 unfold ruleP; rw [hr]
theorem first_congr {p q:GP} (h:p.decls=q.decls):∀ (l:List GR) (i:Nat),firstP p l i=firstP q l i
 | [],i=>rfl
 | r :: l,i=>by simp only [firstP,rule_congr h r,first_congr h l]
theorem check_rawR {p:GP} (hp:p.decls=relsD) (h:progB p=true) (hf:p.facts.any (badF p)=false):checkP p=firstP p p.rules 0:=by
 unfold checkP
 rw [h,hf,hp,relsD_dup]
 simp
end Go.Proofs.YtpgakkhfjjhpdaaGreatDoor
end
section
namespace Go.Mach
def LX (N sz:Nat) (σ:Heap) (es:List AV) (x:AV):Prop:=
 (es=[]∧x=.isl [] true) ∨
 (∃ k cs fz,x=.sl k 0 1 sz true∧N≤k∧σ[k]?=some (.cells cs fz false)∧cs.length=sz∧cs.all AV.clo1=true∧es=[.agg (cs.map AV.nrm)]) ∨
 (∃ k,x=.own k es∧N≤k∧σ[k]?=some (.tok es.length sz)∧es.all (okEl sz true)=true)
theorem closeX_idem {σ:Heap} {j off n sz fj:Nat} {ag ej:Bool} {ds:List AV} (hj:σ[j]?=some (.cells ds fj ej)) (hdc:ds.all AV.clo1=true):closeX σ (.sl j off n sz ag)=σ:=by
 simp only [closeX,hj,hdc,if_true]
theorem appendC_closeX {σ σ1:Heap} {sz bytes:Nat} {ag:Bool} {s x:AV} (h:closeX σ x=σ1) (h1:closeX σ1 x=σ1):appendC σ sz ag bytes false s x=appendC σ1 sz ag bytes false s x:=by
 unfold appendC; simp [h,h1]
theorem LX.closeS_len {σ:Heap} (id sz:Nat):(closeS σ (.sl id 0 1 sz true)).length=σ.length∧∀ i,i≠id→(closeS σ (.sl id 0 1 sz true))[i]?=σ[i]?:=by
 simp only [closeS]
 split
 ·rename_i cs fz ext h
  split
  ·exact ⟨by simp,fun i hi=>by rw [zqC (Ne.symm hi)]⟩
  ·exact ⟨rfl,fun _ _=>rfl⟩
 ·exact ⟨rfl,fun _ _=>rfl⟩
def LO (N sz:Nat) (ag:Bool) (σ:Heap) (es:List AV) (x:AV):Prop:=
 (es=[]∧x=.isl [] true)∨(∃ k,x=.own k es∧N≤k∧σ[k]?=some (.tok es.length sz)∧es.all (okEl sz ag)=true)
theorem LO.nil (N sz:Nat) (ag:Bool) (σ:Heap):LO N sz ag σ [] (.isl [] true):=.inl ⟨rfl,rfl⟩
theorem LO.toLX {N sz:Nat} {σ:Heap} {es:List AV} {x:AV} (h:LO N sz true σ es x):LX N sz σ es x:=by
 rcases h with h | ⟨k,h⟩
 ·exact .inl h
 ·exact .inr (.inr ⟨k,h⟩)
theorem LO.closeS {N sz:Nat} {ag:Bool} {σ:Heap} {es:List AV} {x:AV} (h:LO N sz ag σ es x) (τ:Heap):Go.Mach.closeS τ x=τ:=by
 rcases h with ⟨_,rfl⟩ | ⟨k,rfl,_⟩ <;> rfl
theorem LO.len {N sz:Nat} {ag:Bool} {σ:Heap} {es:List AV} {x:AV} (h:LO N sz ag σ es x):lenV false x=some (.int .i64 (es.length:Int)):=by
 rcases h with ⟨rfl,rfl⟩ | ⟨k,rfl,_⟩ <;> simp
theorem LO.solid {N sz:Nat} {ag:Bool} {σ:Heap} {es:List AV} {x:AV} (h:LO N sz ag σ es x):x.solid=true:=by
 rcases h with ⟨rfl,rfl⟩ | ⟨k,rfl,_⟩ <;> rfl
theorem LO.cells {N sz:Nat} {ag:Bool} {σ:Heap} {es:List AV} {x:AV} (h:LO N sz ag σ es x):x.cells=[x]:=by
 rcases h with ⟨rfl,rfl⟩ | ⟨k,rfl,_⟩ <;> rfl
theorem LO.close {N sz:Nat} {ag:Bool} {σ:Heap} {es:List AV} {x:AV} (h:LO N sz ag σ es x) (τ:Heap):close0 τ x=some (.isl es false,τ):=by
 rcases h with ⟨rfl,rfl⟩ | ⟨k,rfl,_⟩ <;> rfl
theorem LO.close1 {N sz:Nat} {ag:Bool} {σ:Heap} {es:List AV} {x:AV} (h:LO N sz ag σ es x) (τ:Heap):Go.Mach.close1 τ x=some (.isl es false,τ):=close1_of0 (h.close τ)
theorem LO.closeA {N sz:Nat} {ag:Bool} {σ:Heap} {es:List AV} {x:AV} (h:LO N sz ag σ es x) (τ:Heap):Go.Mach.closeA τ x=some (.isl es false,τ):=by
 have hc:=h.close1 τ
 rcases h with ⟨rfl,rfl⟩ | ⟨k,rfl,_⟩ <;> exact hc
theorem LO.keep {N sz:Nat} {ag:Bool} {σ τ:Heap} {es:List AV} {x:AV} (h:LO N sz ag σ es x) (hk:∀ i o,N≤i→σ[i]?=some o→τ[i]?=some o):LO N sz ag τ es x:=by
 rcases h with h | ⟨k,h1,h2,h3,h4⟩
 ·exact .inl h
 ·exact .inr ⟨k,h1,h2,hk _ _ h2 h3,h4⟩
theorem LO.at {N sz:Nat} {ag:Bool} {σ:Heap} {es:List AV} {x:AV} (h:LO N sz ag σ es x) {i:Nat} (hi:i<es.length) (hz:(es[i]).cells.length=sz):iaddrV sz x (.int .i64 (i:Int))=some (.iptr (es[i]).cells 0):=by
 rcases h with ⟨rfl,rfl⟩ | ⟨k,rfl,_⟩
 ·simp at hi
 ·simp [hi,hz]
theorem app_any0 {σ0 σ σ1:Heap} {j sz bytes fj N:Nat} {ej:Bool} {ds:List AV} {es:List AV} {x:AV}
  (hX:closeX σ (.sl j 0 1 sz true)=σ1) (hj:σ1[j]?=some (.cells ds fj ej)) (hd:ds.length=sz) (hdc:ds.all AV.clo1=true) (h0:0<sz) (hb:bytes≤1000)
  (hx:LX N sz σ0 es x) (hσ:∀ i,i<σ0.length→σ1[i]?=σ0[i]?) (hj0:σ0.length≤j) (hN:N≤σ0.length) (hl:es.length≤1000000000) :
  ∃ x' σ',appendC σ sz true bytes false x (.sl j 0 1 sz true)=some (x',σ')∧LO N sz true σ' (es++[.agg (ds.map AV.nrm)]) x'∧σ1.length≤σ'.length∧∀ i o,σ0[i]?=some o→(i<N∨((∀ n,o≠.tok n sz)∧∀ cs fz,o=.cells cs fz false→cs.length≠sz))→σ'[i]?=some o:=by
 have hjl:j<σ1.length:=(zqI.1 hj).1
 rw [appendC_closeX hX (closeX_idem hj hdc)]
 have o2:okEl sz true (.agg (ds.map AV.nrm))=true:=by simp only [okEl,AV.clo,nrm_all hdc,AV.cells,List.length_map,hd,decide_true,Bool.and_self]
 rcases hx with ⟨rfl,rfl⟩ | ⟨k,cs,fz,rfl,hkN,hk,hcl,hcc,rfl⟩ | ⟨k,rfl,hkN,hk,hes⟩
 ·refine ⟨.own σ1.length [.agg (ds.map AV.nrm)],σ1++[.tok 1 sz],by rw [appendC_clo hj hdc]; exact app_ag hj hd hdc h0 hb (app1_nil ..),.inr ⟨σ1.length,rfl,by omega,by simp,by simp [o2]⟩,by simp,fun i o hi h12=>?_⟩
  have hil:=(zqI.1 hi).1
  rw [zqA (by omega),hσ i hil]; exact hi
 ·have hkl:k<σ0.length:=(zqI.1 hk).1
  have hk1:σ1[k]?=some (.cells cs fz false):=by rw [hσ k hkl]; exact hk
  obtain ⟨c1,c2⟩:=LX.closeS_len (σ:=σ1) k sz
  have o1:okEl sz true (.agg (cs.map AV.nrm))=true:=by simp only [okEl,AV.clo,nrm_all hcc,AV.cells,List.length_map,hcl,decide_true,Bool.and_self]
  refine ⟨_,_,app_slC hk1 hj (by omega) hcl hd hcc hdc h0 hb,.inr ⟨σ1.length,rfl,by omega,?_,by simp [o1,o2]⟩,by simp [c1],fun i o hi h12=>?_⟩
  ·rw [←c1]; simp
  ·have hil:=(zqI.1 hi).1
   have hne:i≠k:=by
    rintro rfl
    rw [hk] at hi; injection hi with hi
    rcases h12 with h | ⟨_,h2⟩
    ·omega
    ·exact h2 cs fz hi.symm hcl
   rw [zqA (by rw [c1]; omega),c2 i hne,hσ i hil]; exact hi
 ·have hkl:k<σ0.length:=(zqI.1 hk).1
  have hk1:σ1[k]?=some (.tok es.length sz):=by rw [hσ k hkl]; exact hk
  refine ⟨.own k (es++[.agg (ds.map AV.nrm)]),σ1.set k (.tok (es.length+1) sz),by rw [appendC_clo hj hdc]; exact app_ag hj hd hdc h0 hb (app1_own hes (by omega) hk1),.inr ⟨k,rfl,hkN,?_,by simp [List.all_append,hes,o2]⟩,by simp,fun i o hi h12=>?_⟩
  ·rw [list_set_at (by omega)]; simp
  ·have hil:=(zqI.1 hi).1
   have hne:i≠k:=by
    rintro rfl
    rw [hk] at hi; injection hi with hi
    rcases h12 with h | ⟨h1,_⟩
    ·omega
    ·exact h1 _ hi.symm
   rw [zqC (Ne.symm hne),hσ i hil]; exact hi
theorem LX.other {N sz sz2:Nat} {σ0 σ':Heap} {es2:List AV} {y:AV} (hne:sz2≠sz) (h:LX N sz2 σ0 es2 y) (hk:∀ i o,σ0[i]?=some o→(i<N∨((∀ n,o≠.tok n sz)∧∀ cs fz,o=.cells cs fz false→cs.length≠sz))→σ'[i]?=some o):LX N sz2 σ' es2 y:=by
 rcases h with h | ⟨k,cs,fz,h1,h2,h3,h4,h5⟩ | ⟨k,h1,h2,h3,h4⟩
 ·exact .inl h
 ·exact .inr (.inl ⟨k,cs,fz,h1,h2,hk _ _ h3 (.inr ⟨fun n e=>(by cases e),fun cs' fz' e=>(by injection e with e1; subst e1; omega)⟩),h4,h5⟩)
 ·exact .inr (.inr ⟨k,h1,h2,hk _ _ h3 (.inr ⟨fun n e=>(by injection e with e1 e2; exact hne e2),fun cs' fz' e=>(by cases e)⟩),h4⟩)
theorem LO.other {N sz sz2:Nat} {σ0 σ':Heap} {es2:List AV} {y:AV} (hne:sz2≠sz) (h:LO N sz2 true σ0 es2 y) (hk:∀ i o,σ0[i]?=some o→(i<N∨((∀ n,o≠.tok n sz)∧∀ cs fz,o=.cells cs fz false→cs.length≠sz))→σ'[i]?=some o):LO N sz2 true σ' es2 y:=by
 rcases h with h | ⟨k,h1,h2,h3,h4⟩
 ·exact .inl h
 ·exact .inr ⟨k,h1,h2,hk _ _ h3 (.inr ⟨fun n e=>(by injection e with e1 e2; exact hne e2),fun cs' fz' e=>(by cases e)⟩),h4⟩
theorem app_any {σ0 σ σ1:Heap} {j sz bytes fj N:Nat} {ej:Bool} {ds:List AV} {es:List AV} {x:AV}
  (hX:closeX σ (.sl j 0 1 sz true)=σ1) (hj:σ1[j]?=some (.cells ds fj ej)) (hd:ds.length=sz) (hdc:ds.all AV.clo1=true) (h0:0<sz) (hb:bytes≤1000)
  (hx:LX N sz σ0 es x) (hσ:∀ i,i<σ0.length→σ1[i]?=σ0[i]?) (hj0:σ0.length≤j) (hN:N≤σ0.length) (hl:es.length≤1000000000) :
  ∃ x' σ',appendC σ sz true bytes false x (.sl j 0 1 sz true)=some (x',σ')∧LX N sz σ' (es++[.agg (ds.map AV.nrm)]) x'∧σ1.length≤σ'.length∧(∀ i,i<N→σ'[i]?=σ0[i]?)∧∀ sz2 es2 y,sz2≠sz→LX N sz2 σ0 es2 y→LX N sz2 σ' es2 y:=by
 obtain ⟨x',σ',h1,h2,h3,h4⟩:=app_any0 (bytes:=bytes) hX hj hd hdc h0 hb hx hσ hj0 hN hl
 exact ⟨x',σ',h1,h2.toLX,h3,fun i hi=>by rw [h4 i _ (zqF (by omega)) (.inl hi),zqF],fun sz2 es2 y hne hy=>hy.other hne h4⟩
theorem LX.len {N sz:Nat} {σ:Heap} {es:List AV} {x:AV} (h:LX N sz σ es x):lenV false x=some (.int .i64 (es.length:Int)):=by
 rcases h with ⟨rfl,rfl⟩ | ⟨k,cs,fz,rfl,_,_,_,_,rfl⟩ | ⟨k,rfl,_⟩ <;> simp
theorem LX.solid {N sz:Nat} {σ:Heap} {es:List AV} {x:AV} (h:LX N sz σ es x):x.solid=true:=by
 rcases h with ⟨rfl,rfl⟩ | ⟨k,cs,fz,rfl,_⟩ | ⟨k,rfl,_⟩ <;> rfl
theorem LX.cells {N sz:Nat} {σ:Heap} {es:List AV} {x:AV} (h:LX N sz σ es x):x.cells=[x]:=by
 rcases h with ⟨rfl,rfl⟩ | ⟨k,cs,fz,rfl,_⟩ | ⟨k,rfl,_⟩ <;> rfl
theorem LX.keep {N sz:Nat} {σ τ:Heap} {es:List AV} {x:AV} (h:LX N sz σ es x) (hk:∀ i o,N≤i→σ[i]?=some o→τ[i]?=some o):LX N sz τ es x:=by
 rcases h with h | ⟨k,cs,fz,h1,h2,h3,h4⟩ | ⟨k,h1,h2,h3,h4⟩
 ·exact .inl h
 ·exact .inr (.inl ⟨k,cs,fz,h1,h2,hk _ _ h2 h3,h4⟩)
 ·exact .inr (.inr ⟨k,h1,h2,hk _ _ h2 h3,h4⟩)
theorem LX.app {N sz:Nat} {σ:Heap} {es:List AV} {x:AV} (h:LX N sz σ es x) (l:Heap):LX N sz (σ++l) es x:=
 h.keep fun i o _ hi=>by rw [zqA (zqI.1 hi).1]; exact hi
theorem close0_one {σ:Heap} {k sz fz:Nat} {ext:Bool} {cs:List AV} (hk:σ[k]?=some (.cells cs fz ext)) (hl:cs.length=sz) (hc:cs.all AV.clo1=true):close0 σ (.sl k 0 1 sz true)=some (.isl [.agg (cs.map AV.nrm)] false,frz σ k sz):=by
 subst hl
 have hw:window cs 0 cs.length=some cs:=window_full rfl
 have hc2:¬ (1:Nat)=0:=by decide
 simp only [close0,if_neg hc2,hk,Nat.one_mul,Nat.zero_add,hw,Option.bind_some,hc,if_true]
 have ht:List.take cs.length (List.map AV.nrm cs)=List.map AV.nrm cs:=List.take_of_length_le (by simp)
 simp [chunk,mk,ht]
theorem LX.frz {N sz k m:Nat} {σ:Heap} {es:List AV} {y:AV} (h:LX N sz σ es y):LX N sz (Go.Mach.frz σ k m) es y:=by
 unfold Go.Mach.frz
 split
 ·rename_i cs0 fz0 ext0 h0
  have hk:=(zqI.1 h0).1
  rcases h with h | ⟨j,cs,fz,h1,h2,h3,h4⟩ | ⟨j,h1,h2,h3,h4⟩
  ·exact .inl h
  ·by_cases e:k=j
   ·subst e
    rw [h0] at h3; injection h3 with h3; injection h3 with e1 e2 e3; subst e1 e3
    exact .inr (.inl ⟨k,cs0,_,h1,h2,list_set_at hk,h4⟩)
   ·exact .inr (.inl ⟨j,cs,fz,h1,h2,by rw [zqC e]; exact h3,h4⟩)
  ·have e:k≠j:=by rintro rfl; rw [h0] at h3; cases h3
   exact .inr (.inr ⟨j,h1,h2,by rw [zqC e]; exact h3,h4⟩)
 ·exact h
theorem LX.close {N sz:Nat} {σ:Heap} {es:List AV} {x:AV} (h:LX N sz σ es x):∃ σ',close0 σ x=some (.isl es false,σ')∧σ'.length=σ.length∧(∀ i,i<N→σ'[i]?=σ[i]?)∧∀ N2 sz2 es2 y,LX N2 sz2 σ es2 y→LX N2 sz2 σ' es2 y:=by
 rcases h with ⟨rfl,rfl⟩ | ⟨k,cs,fz,rfl,hN,hk,hl,hc,rfl⟩ | ⟨k,rfl,_⟩
 ·exact ⟨σ,rfl,rfl,fun _ _=>rfl,fun _ _ _ _ h=>h⟩
 ·refine ⟨_,close0_one hk hl hc,?_,fun i hi=>?_,fun _ _ _ _ h=>h.frz⟩
  ·simp only [Go.Mach.frz,hk,List.length_set]
  ·simp only [Go.Mach.frz,hk]; rw [zqC (by omega)]
 ·exact ⟨σ,rfl,rfl,fun _ _=>rfl,fun _ _ _ _ h=>h⟩
theorem LX.closeA {N sz:Nat} {σ:Heap} {es:List AV} {x:AV} (h:LX N sz σ es x):∃ σ',Go.Mach.closeA σ x=some (.isl es false,σ')∧σ'.length=σ.length∧∀ i,i<N→σ'[i]?=σ[i]?:=by
 obtain ⟨σ',h1,h2,h3,_⟩:=h.close
 refine ⟨σ',?_,h2,h3⟩
 rcases h with ⟨rfl,rfl⟩ | ⟨k,cs,fz,rfl,hN,hk,hl,hc,rfl⟩ | ⟨k,rfl,_⟩ <;> exact close1_of0 h1
theorem lenIs_map {α:Type} (enc:α→AV) (sz:Nat) (h:∀ x,(enc x).cells.length=sz) (l:List α):(l.map enc).all (lenIs sz)=true:=by
 rw [zqQ]; intro x hx
 obtain ⟨y,_,rfl⟩:=List.mem_map.1 hx
 simp [lenIs,h y]
theorem LO.isl {N sz bytes:Nat} {ag b:Bool} {σ:Heap} {es:List AV} {x:AV} (h:LO N sz ag σ es x) (ys:List AV) (hok:ys.all (okEl sz ag)=true) (hl:es.length+ys.length≤1000000000) (h0:0<sz) (hb:bytes≤1000) (hN:N≤σ.length) :
  ∃ x' σ',appendA σ sz ag bytes false x (.isl ys b)=some (x',σ')∧LO N sz ag σ' (es++ys) x'∧σ.length≤σ'.length∧∀ i,i<N→σ'[i]?=σ[i]?:=by
 cases ys with
 | nil=>
  refine ⟨x,σ,?_,by simpa using h,Nat.le_refl _,fun _ _=>rfl⟩
  rcases h with ⟨_,rfl⟩ | ⟨k,rfl,_⟩ <;> simp [appendA,elemsN,elemsA,isSl]
 | cons y ys=>
  have hn:¬ (sz=0∨(es.length+(y :: ys).length) * bytes > 70368744177664∨es.length+(y :: ys).length > 70368744177664):=by
   have:(es.length+(y :: ys).length) * bytes≤1000000000 * 1000:=Nat.mul_le_mul hl hb
   omega
  have hne:(y :: ys)≠[]:=by simp
  have he2:elemsN σ sz ag (.isl (y :: ys) b)=some (y :: ys):=rfl
  rcases h with ⟨rfl,rfl⟩ | ⟨k,rfl,hkN,ht,hes⟩
  ·refine ⟨.own σ.length (y :: ys),σ++[.tok (y :: ys).length sz],?_,.inr ⟨σ.length,by simp,hN,by simp,hok⟩,by simp,fun j hj=>by rw [zqA (by omega)]⟩
   have he1:elemsA σ sz ag (.isl [] true)=some []:=rfl
   simp only [List.length_nil] at hn
   simp only [appendA,he1,he2,Option.bind_some,isSl,if_neg hne,List.length_nil,if_neg hn,hok,Bool.false_eq_true,if_false]
   simp
  ·have hk:=(zqI.1 ht).1
   refine ⟨.own k (es++y :: ys),σ.set k (.tok (es++y :: ys).length sz),?_,.inr ⟨k,rfl,hkN,list_set_at hk,by rw [List.all_append,hes,hok]; rfl⟩,by simp,fun j hj=>by rw [zqC (by omega)]⟩
   have he1:elemsA σ sz ag (.own k es)=some es:=rfl
   simp only [appendA,he1,he2,Option.bind_some,isSl,if_neg hne,ht,hok,hes,Bool.false_eq_true,if_false]
   rw [if_neg hn]
   simp
section
variable {T:Tab} {bs n:Nat}
theorem stW_appX {σ0 σ σ1:Heap} {j sz bytes fj N:Nat} {ej:Bool} {ds:List AV} {es:List AV} {x:AV} {d:Option Nat} {os:List AOper} {k:List Fr} {f:FR} {τ:Heap} {Q:AExit→FR→Heap→Prop}
  (hX:closeX σ (.sl j 0 1 sz true)=σ1) (hj:σ1[j]?=some (.cells ds fj ej)) (hd:ds.length=sz) (hdc:ds.all AV.clo1=true) (h0:0<sz) (hb:bytes≤1000)
  (hx:LX N sz σ0 es x) (hσ:∀ i,i<σ0.length→σ1[i]?=σ0[i]?) (hj0:σ0.length≤j) (hN:N≤σ0.length) (hl:es.length≤1000000000)
  (h:∀ x' σ',LX N sz σ' (es++[.agg (ds.map AV.nrm)]) x'→σ1.length≤σ'.length→(∀ i,i<N→σ'[i]?=σ0[i]?)→wpK T bs n (.ops os :: k) (updO f d x') σ' Q) :
  stW T bs n (appendC σ sz true bytes false x (.sl j 0 1 sz true)) d [] os k f τ Q:=by
 obtain ⟨x',σ',h1,h2,h3,h4,_⟩:=app_any (bytes:=bytes) hX hj hd hdc h0 hb hx hσ hj0 hN hl
 rw [h1]
 exact ⟨rfl,h x' σ' h2 h3 h4⟩
theorem stW_app1 {σ0:Heap} {sz bytes fj N:Nat} {ej:Bool} {ds:List AV} {es:List AV} {x:AV} {d:Option Nat} {os:List AOper} {k:List Fr} {f:FR} {τ:Heap} {Q:AExit→FR→Heap→Prop}
  (hx:LX N sz σ0 es x) (hd:ds.length=sz) (hdc:ds.all AV.clo1=true) (h0:0<sz) (hb:bytes≤1000) (hN:N≤σ0.length) (hl:es.length≤1000000000)
  (h:∀ x' σ',LX N sz σ' (es++[.agg (ds.map AV.nrm)]) x'→σ0.length+1≤σ'.length→(∀ i,i<N→σ'[i]?=σ0[i]?)→wpK T bs n (.ops os :: k) (updO f d x') σ' Q) :
  stW T bs n (appendC (σ0++[.cells ds fj ej]) sz true bytes false x (.sl σ0.length 0 1 sz true)) d [] os k f τ Q:=by
 have hj:(σ0++[.cells ds fj ej])[σ0.length]?=some (.cells ds fj ej):=List.getElem?_concat_length
 exact stW_appX (closeX_idem hj hdc) hj hd hdc h0 hb hx (fun i hi=>zqA hi) (Nat.le_refl _) hN hl fun x' σ' h1 h2 h3=>h x' σ' h1 (by simpa using h2) h3
def LastOk (y z:AV):Prop:=(y.clo1=true∧y.nrm=z)∨∃ k ys,y=.own k ys∧z=.isl ys false
theorem LastOk.isl (es:List AV) (b:Bool):LastOk (.isl es b) (.isl es false):=.inl ⟨rfl,rfl⟩
theorem stW_app1K {σ0:Heap} {sz bytes fj N:Nat} {ej:Bool} {ds:List AV} {es:List AV} {x:AV} {d:Option Nat} {os:List AOper} {k:List Fr} {f:FR} {τ:Heap} {Q:AExit→FR→Heap→Prop}
  (hx:LX N sz σ0 es x) (hd:ds.length=sz) (hdc:ds.all AV.clo1=true) (h0:0<sz) (hb:bytes≤1000) (hN:N≤σ0.length) (hl:es.length≤1000000000)
  (h:∀ x' σ',LX N sz σ' (es++[.agg (ds.map AV.nrm)]) x'→σ0.length+1≤σ'.length→(∀ i,i<N→σ'[i]?=σ0[i]?)→(∀ sz2 es2 y,sz2≠sz→LX N sz2 σ0 es2 y→LX N sz2 σ' es2 y)→wpK T bs n (.ops os :: k) (updO f d x') σ' Q) :
  stW T bs n (appendC (σ0++[.cells ds fj ej]) sz true bytes false x (.sl σ0.length 0 1 sz true)) d [] os k f τ Q:=by
 have hj:(σ0++[.cells ds fj ej])[σ0.length]?=some (.cells ds fj ej):=List.getElem?_concat_length
 obtain ⟨x',σ',h1,h2,h3,h4,h5⟩:=app_any (bytes:=bytes) (closeX_idem hj hdc) hj hd hdc h0 hb hx (fun i hi=>zqA hi) (Nat.le_refl _) hN hl
 rw [h1]
 exact ⟨rfl,h x' σ' h2 (by simpa using h3) h4 h5⟩
theorem stW_app2 {σ0:Heap} {o:AObj} {sz bytes fj N:Nat} {ej:Bool} {ds:List AV} {es:List AV} {x:AV} {d:Option Nat} {os:List AOper} {k:List Fr} {f:FR} {τ:Heap} {Q:AExit→FR→Heap→Prop}
  (hx:LX N sz σ0 es x) (hd:ds.length=sz) (hdc:ds.all AV.clo1=true) (h0:0<sz) (hb:bytes≤1000) (hN:N≤σ0.length) (hl:es.length≤1000000000)
  (h:∀ x' σ',LX N sz σ' (es++[.agg (ds.map AV.nrm)]) x'→σ0.length+2≤σ'.length→(∀ i,i<N→σ'[i]?=σ0[i]?)→wpK T bs n (.ops os :: k) (updO f d x') σ' Q) :
  stW T bs n (appendC (σ0++[o,.cells ds fj ej]) sz true bytes false x (.sl (σ0.length+1) 0 1 sz true)) d [] os k f τ Q:=by
 have hj:(σ0++[o,.cells ds fj ej])[σ0.length+1]?=some (.cells ds fj ej):=by simp
 exact stW_appX (closeX_idem hj hdc) hj hd hdc h0 hb hx (fun i hi=>zqA hi) (by omega) hN hl fun x' σ' h1 h2 h3=>h x' σ' h1 (by simpa using h2) h3
end
end Go.Mach
end
section
namespace Go.Mach
def apart (x y:AV):Prop:=∀ k es es2,x=.own k es→y≠.own k es2
theorem apart.symm {x y:AV} (h:apart x y):apart y x:=fun k es es2 h1 h2=>h k es2 es h2 h1
section
variable {T:Tab} {bs n:Nat}
theorem stW_s1 {σ0:Heap} {v:AV} {bytes fj N:Nat} {ej:Bool} {es:List AV} {x:AV} {d:Option Nat} {os:List AOper} {k:List Fr} {f:FR} {τ:Heap} {Q:AExit→FR→Heap→Prop}
  (hx:LO N 1 false σ0 es x) (hv:v.clo1=true) (hok:okEl 1 false v=true) (hnr:v.nrm=v) (hb:bytes≤1000) (hN:N≤σ0.length) (hl:es.length≤1000000000)
  (h:∀ x' σ',LO N 1 false σ' (es++[v]) x'→σ0.length+1≤σ'.length→(∀ i,i<N→σ'[i]?=σ0[i]?)→(∀ (i:Nat) (o:AObj),σ0[i]?=some o→(∀ n s,o≠.tok n s)→σ'[i]?=some o)→wpK T bs n (.ops os :: k) (updO f d x') σ' Q) :
  stW T bs n (appendC (σ0++[.cells [v] fj ej]) 1 false bytes false x (.sl σ0.length 0 1 1 false)) d [] os k f τ Q:=by
 have hj:(σ0++[.cells [v] fj ej])[σ0.length]?=some (.cells [v] fj ej):=List.getElem?_concat_length
 have hall:[v].all AV.clo1=true:=by simp [hv]
 rw [appendC_clo hj hall]
 have e2:elemsN (σ0++[.cells [v] fj ej]) 1 false (.sl σ0.length 0 1 1 false)=some [v]:=by rw [elemsN_s1 hj,hnr]
 rcases hx with ⟨rfl,rfl⟩ | ⟨m,rfl,hmN,hm,hes⟩
 ·have:=app1_eq (bytes:=bytes) e2 hok (by omega) hb (app1_nil ..)
  simp only [closeS_isl]
  rw [this]
  refine ⟨rfl,h _ _ (.inr ⟨_,rfl,by simp; omega,by simp,by simp [hok]⟩) (by simp) (fun i hi=>?_) fun i o ho _=>?_⟩
  ·rw [zqA (by simp; omega),zqA (by omega)]
  ·have:=(zqI.1 ho).1
   rw [zqA (by simp; omega),zqA this]; exact ho
 ·have hml:=(zqI.1 hm).1
  have hm1:(σ0++[AObj.cells [v] fj ej])[m]?=some (.tok es.length 1):=by rw [zqA hml]; exact hm
  have:=app1_eq (bytes:=bytes) e2 hok (by omega) hb (app1_own hes (by omega) hm1)
  simp only [closeS_own]
  rw [this]
  refine ⟨rfl,h _ _ (.inr ⟨m,rfl,hmN,by rw [list_set_at (by simp; omega)]; simp,by simp [List.all_append,hes,hok]⟩) (by simp) (fun i hi=>?_) fun i o ho hno=>?_⟩
  ·rw [zqC (by omega),zqA (by omega)]
  ·have hne:m≠i:=by rintro rfl; rw [hm] at ho; injection ho with ho; exact hno _ _ ho.symm
   rw [zqC hne,zqA (zqI.1 ho).1]; exact ho
theorem stW_s3 {σ0:Heap} {o1 o2:AObj} {v:AV} {bytes fj N:Nat} {ej:Bool} {es:List AV} {x:AV} {d:Option Nat} {os:List AOper} {k:List Fr} {f:FR} {τ:Heap} {Q:AExit→FR→Heap→Prop}
  (hx:LO N 1 false σ0 es x) (hv:v.clo1=true) (hok:okEl 1 false v=true) (hnr:v.nrm=v) (hb:bytes≤1000) (hN:N≤σ0.length) (hl:es.length≤1000000000)
  (h:∀ x' σ',LO N 1 false σ' (es++[v]) x'→σ0.length+3≤σ'.length→(∀ i,i<N→σ'[i]?=σ0[i]?)→(∀ (i:Nat) (o:AObj),(σ0++[o1,o2])[i]?=some o→(∀ n s,o≠.tok n s)→σ'[i]?=some o)→wpK T bs n (.ops os :: k) (updO f d x') σ' Q) :
  stW T bs n (appendC (σ0++[o1,o2,.cells [v] fj ej]) 1 false bytes false x (.sl (σ0.length+2) 0 1 1 false)) d [] os k f τ Q:=by
 have e1:σ0++[o1,o2,.cells [v] fj ej]=(σ0++[o1,o2])++[.cells [v] fj ej]:=by simp
 have e2:σ0.length+2=(σ0++[o1,o2]).length:=by simp
 rw [e1,e2]
 exact stW_s1 (hx.keep fun i q _ hi=>by rw [zqA (zqI.1 hi).1]; exact hi) hv hok hnr hb (by simp; omega) hl fun x' σ' h1 h2 h3 h4=>h x' σ' h1 (by simp at h2; omega) (fun i hi=>by rw [h3 i hi,zqA (by omega)]) h4
end
end Go.Mach
end
section
set_option maxRecDepth 100000
namespace Go.Proofs.YtpgakkhfjjhpdaaGreatDoor
open Go.Mach
theorem rels_get (x:GRaw):(relsD.map GD.enc)[pickN x.name 6]?=some (relR x).enc:=by
 have hlt:=pickN_lt (c:=x.name) (n:=6) (by omega)
 rw [List.getElem?_map]
 have:relsD[pickN x.name 6]?=some (relR x):=by
  unfold relR
  generalize pickN x.name 6=n at *
  match n,hlt with
  | 0,_=>rfl
  | 1,_=>rfl
  | 2,_=>rfl
  | 3,_=>rfl
  | 4,_=>rfl
  | 5,_=>rfl
 rw [this]; rfl
theorem raw_at (x:GRaw) (i:Nat) (h:i<4):window [AV.int .i64 x.kind,.int .i64 x.name,.int .i64 x.n0,.int .i64 x.n1,.int .i64 x.n2,.int .i64 x.n3] (2+i) 1=some [.int .i64 (x.at' i)]:=by
 match i,h with
 | 0,_=>rfl
 | 1,_=>rfl
 | 2,_=>rfl
 | 3,_=>rfl
theorem pick6_6 (c:Int) (h1:GV.i64ok c) (bs:Nat) (σ:Heap):callT T 31 [.int .i64 c,.int .i64 6] bs σ=some (.int .i64 (pickN c 6:Int),σ):=pick6 c 6 (by omega) h1 bs σ
theorem pick6_12 (c:Int) (h1:GV.i64ok c) (bs:Nat) (σ:Heap):callT T 31 [.int .i64 c,.int .i64 12] bs σ=some (.int .i64 (pickN c 12:Int),σ):=pick6 c 12 (by omega) h1 bs σ
theorem pick6_4 (c:Int) (h1:GV.i64ok c) (bs:Nat) (σ:Heap):callT T 31 [.int .i64 c,.int .i64 4] bs σ=some (.int .i64 (pickN c 4:Int),σ):=pick6 c 4 (by omega) h1 bs σ
theorem pick6_3 (c:Int) (h1:GV.i64ok c) (bs:Nat) (σ:Heap):callT T 31 [.int .i64 c,.int .i64 3] bs σ=some (.int .i64 (pickN c 3:Int),σ):=pick6 c 3 (by omega) h1 bs σ
theorem pick6_2 (c:Int) (h1:GV.i64ok c) (bs:Nat) (σ:Heap):callT T 31 [.int .i64 c,.int .i64 2] bs σ=some (.int .i64 (pickN c 2:Int),σ):=pick6 c 2 (by omega) h1 bs σ
theorem pick6_5 (c:Int) (h1:GV.i64ok c) (bs:Nat) (σ:Heap):callT T 31 [.int .i64 c,.int .i64 5] bs σ=some (.int .i64 (pickN c 5:Int),σ):=pick6 c 5 (by omega) h1 bs σ
theorem pick6_8 (c:Int) (h1:GV.i64ok c) (bs:Nat) (σ:Heap):callT T 31 [.int .i64 c,.int .i64 8] bs σ=some (.int .i64 (pickN c 8:Int),σ):=pick6 c 8 (by omega) h1 bs σ
theorem pick6_26 (c:Int) (h1:GV.i64ok c) (bs:Nat) (σ:Heap):callT T 31 [.int .i64 c,.int .i64 26] bs σ=some (.int .i64 (pickN c 26:Int),σ):=pick6 c 26 (by omega) h1 bs σ
abbrev cT (t:GT):List AV:=[.int .i64 t.kind,.str t.name,.int .i64 t.value.kind,.int .i64 t.value.num,.str t.value.text,.isl (GV.encs t.value.items) false,.isl (GT.encs t.args) false]
theorem LX.snocT {N:Nat} {σ:Heap} {es:List GT} {x:AV} (t:GT) (h:LX N 7 σ (GT.encs es++[.agg ((cT t).map AV.nrm)]) x):LX N 7 σ (GT.encs (es++[t])) x:=by
 rw [←GT.encs_snoc,GT.enc_eq t]; exact h
abbrev opC (nm:ByteArray) (x:AV):List AV:=[.int .i64 4,.str nm,.int .i64 0,.int .i64 0,.str ⟨#[]⟩,.isl [] true,x]
def opT (nm:ByteArray) (a b:GT):GT:=.mk 4 nm (.mk 0 0 ⟨#[]⟩ []) [a,b]
theorem closeX_op {σ0:Heap} (nm:ByteArray) (a b:GT):closeX (σ0++[.cells (cT a++cT b) 0 false,.cells (opC nm (.sl σ0.length 0 2 7 true)) 0 false]) (.sl (σ0.length+1) 0 1 7 true) =
  σ0++[.cells (cT a++cT b) 14 false,.cells (cT (opT nm a b)) 0 false]:=by
 have g0:(σ0++[.cells (cT a++cT b) 0 false,.cells (opC nm (.sl σ0.length 0 2 7 true)) 0 false])[σ0.length]?=some (.cells (cT a++cT b) 0 false):=by simp
 have g1:(σ0++[.cells (cT a++cT b) 0 false,.cells (opC nm (.sl σ0.length 0 2 7 true)) 0 false])[σ0.length+1]?=some (.cells (opC nm (.sl σ0.length 0 2 7 true)) 0 false):=by simp
 have hw:window (cT a++cT b) 0 14=some (cT a++cT b):=rfl
 have hc:close0 (σ0++[.cells (cT a++cT b) 0 false,.cells (opC nm (.sl σ0.length 0 2 7 true)) 0 false]) (.sl σ0.length 0 2 7 true)=some (.isl (GT.encs [a,b]) false,σ0++[.cells (cT a++cT b) 14 false,.cells (opC nm (.sl σ0.length 0 2 7 true)) 0 false]):=by
  have hc2:¬ (2:Nat)=0:=by decide
  simp only [close0,if_neg hc2,g0,Nat.reduceMul,Nat.zero_add,hw,Option.bind_some]
  have h14:((cT a++cT b).all AV.clo1)=true:=rfl
  rw [if_pos h14]
  have hch:chunk 7 true 2 ((cT a++cT b).map AV.nrm)=some (GT.encs [a,b]):=by simp [GT.encs,GT.enc_eq a,GT.enc_eq b]
  rw [hch]
  simp only [frz,g0,Option.map_some]
  simp
 have i1:∀ (σ:Heap) k n,close1 σ (AV.int k n)=some (.int k n,σ):=fun _ _ _=>rfl
 have s1:∀ (σ:Heap) n,close1 σ (AV.str n)=some (.str n,σ):=fun _ _=>rfl
 have l1:∀ (σ:Heap) n b,close1 σ (AV.isl n b)=some (.isl n false,σ):=fun _ _ _=>rfl
 have hL:closeL (σ0++[.cells (cT a++cT b) 0 false,.cells (opC nm (.sl σ0.length 0 2 7 true)) 0 false]) (opC nm (.sl σ0.length 0 2 7 true))=some (cT (opT nm a b),σ0++[.cells (cT a++cT b) 14 false,.cells (opC nm (.sl σ0.length 0 2 7 true)) 0 false]):=by
  simp only [closeL,i1,s1,l1,close1_of0 hc,Option.bind_some,Option.map_some]
  rfl
 have h2:(opC nm (.sl σ0.length 0 2 7 true)).all AV.clo1=false:=rfl
 have g2:(σ0++[.cells (cT a++cT b) 14 false,.cells (opC nm (.sl σ0.length 0 2 7 true)) 0 false])[σ0.length+1]?=some (.cells (opC nm (.sl σ0.length 0 2 7 true)) 0 false):=by simp
 have h3:((cT (opT nm a b)).all AV.clo1=true∧(opC nm (.sl σ0.length 0 2 7 true)).length=(cT (opT nm a b)).length):=⟨rfl,rfl⟩
 simp only [closeX,g1,h2,hL,g2,h3,and_self,if_true,Bool.false_eq_true,if_false]
 simp
theorem atom_ok (x:GRaw) (hx:x.ok):pureT T c32 [x.enc]=some (.tup [.str (relR x).name,.isl (GT.encs (atomR x)) false]):=by
 have hp:=pick6_6 x.name hx.2.1
 have hr:=rels_get x
 obtain ⟨a1,a2,a3⟩:=rel_arity x
 have hv:=callV6 x.n0 hx.2.2.1
 have hlt:=pickN_lt (c:=x.name) (n:=6) (by omega)
 have hlt':(pickN x.name 6:Int)<6:=by omega
 have hl6:relsD.length=6:=rfl
 unfold atomR
 generalize hn:(relR x).arity.toNat=n at *
 apply pure_enter (by simp [c32])
 simp [c32,callRelations6,setRun,hp,hr,hv]
 refine W_for T 0 72 (n - 1) (fun i f σ=>f 1=.ptr 0 0∧f 4=.ptr 1 0∧f 6=.int .i64 ((i:Int)+1)∧2≤σ.length∧σ[0]?=some (.cells x.enc.cells 0 false)∧σ[1]?=some (.cells (relR x).enc.cells 0 false)∧LX 2 7 σ (GT.encs (argsR x (i+1))) (f 5)) ?_ _ _ ?_
 ·rintro i f σ hi ⟨h1,h4,h6,hN,h0,hd,hL⟩
  by_cases hlt:i+1<n
  ·have hlt2:(i:Int)+1<(n:Int):=by omega
   have hb4:0≤(i:Int)+1∧(i:Int)+1<4:=by omega
   have hw:IntKind.i64.wrap ((i:Int)+1+1)=(i:Int)+1+1:=wr64 (by omega) (by omega)
   have hk:=GRaw.at_ok hx (i+1)
   have hpp:=pick6_12 _ hk
   have hx0:=raw_at x (i+1) (by omega)
   have hsucc:argsR x (i+1+1)=argsR x (i+1)++[argR (x.at' (i+1))]:=by
    unfold argsR; rw [List.range_succ,List.map_append]; simp
   have hal:=argsR_len x (i+1)
   rw [hsucc]
   generalize argsR x (i+1)=es at *
   generalize x.at' (i+1)=m at *
   have hq:GV.i64ok (m.tdiv 12):=tdiv_ok hk 12 (by omega)
   have hwm:IntKind.i64.wrap (m.tdiv 12)=m.tdiv 12:=wr64 hq.1 hq.2
   have hel:(GT.encs es).length≤1000000000:=by simp; omega
   by_cases c9:pickN m 12=9
   ·have h2:=pick6_4 (m.tdiv 12) hq
    have hnu:=callNum6
    rw [c9] at hpp
    have ea:argR m=numT (pickN (m.tdiv 12) 4):=by simp [argR,c9]
    rw [ea]
    simp [h1,h4,h6,h0,hd,←a3,hn,hlt2,hb4,hx0,hpp,h2,hnu,hwm,mk,setRun,-appendA_ag]
    refine stW_app1 (N:=2) hL rfl rfl (by omega) (by omega) hN hel fun x' σ' hL' hlen' hk'=>?_
    simp [h1,h4,h6,hw,hk',h0,hd]
    exact ⟨by omega,by omega,a3.symm,LX.snocT _ hL'⟩
   ·by_cases c10:pickN m 12=10
    ·have h2:=pick6_3 (m.tdiv 12) hq
     have hl3:=pickN_lt (c:=m.tdiv 12) (n:=3) (by omega)
     have hl3':(pickN (m.tdiv 12) 3:Int)<3:=by omega
     rw [c10] at hpp
     have ea:argR m=addrT (pickN (m.tdiv 12) 3):=by simp [argR,c9,c10]
     have hget:window [AV.str ⟨#[97]⟩,.str ⟨#[98]⟩,.str ⟨#[99]⟩] (pickN (m.tdiv 12) 3) 1=some [.str (addrN (pickN (m.tdiv 12) 3))]:=by
      generalize pickN (m.tdiv 12) 3=q at *
      match q,hl3 with
      | 0,_=>rfl
      | 1,_=>rfl
      | 2,_=>rfl
     rw [ea]
     simp [h1,h4,h6,h0,hd,←a3,hn,hlt2,hb4,hx0,hpp,h2,hwm,mk,setRun,hl3',hget,-appendA_ag]
     refine stW_app2 (N:=2) hL rfl rfl (by omega) (by omega) hN hel fun x' σ' hL' hlen' hk'=>?_
     simp [h1,h4,h6,hw,hk',h0,hd]
     exact ⟨by omega,by omega,a3.symm,LX.snocT _ hL'⟩
    ·by_cases c11:pickN m 12=11
     ·rw [c11] at hpp
      have ea:argR m=opT ⟨#[43]⟩ (vT (m.tdiv 12)) (numT 1):=by simp [argR,c9,c10,c11,sumT,vT_n,opT]
      have hvv:=callV6 _ hq
      have hnu:=callNum6 1
      rw [ea]
      simp [h1,h4,h6,h0,hd,←a3,hn,hlt2,hb4,hx0,hpp,hvv,hnu,hwm,mk,setRun,-appendA_ag]
      refine stW_appX (N:=2) (closeX_op ⟨#[43]⟩ (vT (m.tdiv 12)) (numT 1)) (by rw [zqB (by omega),Nat.add_sub_cancel_left]; rfl) rfl rfl (by omega) (by omega) hL (fun i hi=>zqA hi) (by omega) hN hel fun x' σ' hL' hlen' hk'=>?_
      simp at hlen'
      simp [h1,h4,h6,hw,hk',h0,hd]
      exact ⟨by omega,by omega,a3.symm,LX.snocT _ hL'⟩
     ·have ea:argR m=vT m:=by simp [argR,c9,c10,c11]
      have hvv:=callV6 m hk
      rw [ea]
      have n9:¬ (pickN m 12:Int)=9:=by omega
      have n10:¬ (pickN m 12:Int)=10:=by omega
      have n11:¬ (pickN m 12:Int)=11:=by omega
      simp [h1,h4,h6,h0,hd,←a3,hn,hlt2,hb4,hx0,hpp,hvv,mk,setRun,n9,n10,n11,-appendA_ag]
      refine stW_app1 (N:=2) hL rfl rfl (by omega) (by omega) hN hel fun x' σ' hL' hlen' hk'=>?_
      simp [h1,h4,h6,hw,hk',h0,hd]
      exact ⟨by omega,by omega,a3.symm,LX.snocT _ hL'⟩
  ·have he:i+1=n:=by omega
   subst he
   obtain ⟨σ',hcl,_⟩:=hL.closeA
   have hlt2:¬ (i:Int)+1<((i+1:Nat):Int):=by omega
   simp [h1,h4,h6,h0,hd,←a3,hn,hlt2,hcl]
 ·simp
  refine .inr (.inl ⟨2,_,0,rfl,by omega,by simp; rfl,rfl,rfl,?_⟩)
  simp [AV.nrm,argsR_succ]
  rw [GT.enc_eq]
set_option maxRecDepth 100000
open Go.Mach
theorem rel_link (x:GRaw):(relR x).name=⟨#[108,105,110,107]⟩↔pickN x.name 6=0:=by
 obtain ⟨n,hn,e1,e⟩:=rel_cases x
 rw [e,e1]
 match n,hn with
 | 0,_=>decide
 | 1,_=>decide
 | 2,_=>decide
 | 3,_=>decide
 | 4,_=>decide
 | 5,_=>decide
abbrev cV (t:GV):List AV:=[.int .i64 t.kind,.int .i64 t.num,.str t.text,.isl (GV.encs t.items) false]
theorem addr_get (q:Nat) (h:q<4):window [AV.str ⟨#[97]⟩,.str ⟨#[98]⟩,.str ⟨#[99]⟩,.str ⟨#[100]⟩] q 1=some [.str (addrN q)]:=by
 match q,h with
 | 0,_=>rfl
 | 1,_=>rfl
 | 2,_=>rfl
 | 3,_=>rfl
theorem fact_ok (x:GRaw) (hx:x.ok):pureT T c19 [x.enc]=some (factR x).enc:=by
 have hp:=pick6_6 x.name hx.2.1
 have hr:=rels_get x
 obtain ⟨a1,a2,a3⟩:=rel_arity x
 have hlt:=pickN_lt (c:=x.name) (n:=6) (by omega)
 have hlt':(pickN x.name 6:Int)<6:=by omega
 have hl6:relsD.length=6:=rfl
 have hlink:=rel_link x
 unfold factR
 generalize hn:(relR x).arity.toNat=n at *
 apply pure_enter (by simp [c19])
 simp [c19,callRelations6,setRun,hp,hr]
 refine W_for T 0 68 n (fun i f σ=>f 1=.ptr 0 0∧f 2=.ptr 1 0∧f 3=.ptr 2 0∧f 4=.ptr 3 0∧f 5=.int .i64 (i:Int)∧4≤σ.length∧σ[0]?=some (.cells x.enc.cells 0 false)∧(∃ a b,σ[1]?=some (.cells [a,b] 0 false))∧σ[2]?=some (.cells (relR x).enc.cells 0 false)∧∃ l,σ[3]?=some (.cells [.str (relR x).name,l] 0 false)∧LX 4 4 σ (GV.encs ((List.range i).map (fargR x))) l) ?_ _ _ ?_
 ·rintro i f σ hi ⟨h1,h2,h3,h4,h5,hN,h0,ho,hd,l,hl3,hL⟩
  by_cases hlt:i<n
  ·have hlt2:(i:Int)<(n:Int):=by omega
   have hb4:0≤(i:Int)∧(i:Int)<4:=by omega
   have hw:IntKind.i64.wrap ((i:Int)+1)=(i:Int)+1:=wr64 (by omega) (by omega)
   have hk:=GRaw.at_ok hx i
   have hx0:=raw_at x i (by omega)
   have hsucc:(List.range (i+1)).map (fargR x)=(List.range i).map (fargR x)++[fargR x i]:=by
    rw [List.range_succ,List.map_append]; rfl
   have hal:((List.range i).map (fargR x)).length=i:=by simp
   have hf:fargR x i=if i=0∨i=1∧(pickN x.name 6=0∨pickN (x.at' i) 2=0) then addrV (pickN ((x.at' i).tdiv 2) 4) else numV (pickN ((x.at' i).tdiv 2) 5):=rfl
   rw [hsucc,hf]
   generalize (List.range i).map (fargR x)=es at *
   generalize x.at' i=m at *
   have hq:GV.i64ok (m.tdiv 2):=tdiv_ok hk 2 (by omega)
   have hwm:IntKind.i64.wrap (m.tdiv 2)=m.tdiv 2:=wr64 hq.1 hq.2
   have hel:(GV.encs es).length≤1000000000:=by simp; omega
   have p2:=pick6_2 m hk
   have p4:=pick6_4 _ hq
   have p5:=pick6_5 _ hq
   have q4:=pickN_lt (c:=m.tdiv 2) (n:=4) (by omega)
   have q4':(pickN (m.tdiv 2) 4:Int)<4:=by omega
   have hget:=addr_get _ q4
   have w1:IntKind.i64.wrap 1=1:=by decide
   have w2:IntKind.i64.wrap 2=2:=by decide
   have fin:∀ (v:GV) (σ':Heap) x' (es':List AV),es'=GV.encs (es++[v])→LX 4 4 σ' es' x'→σ.length+1≤σ'.length→(∀ i,i<4→σ'[i]?=σ[i]?) →
     4≤σ'.length∧(∃ a b,σ[1]?=some (AObj.cells [a,b] 0 false))∧(relR x).arity=(n:Int)∧∃ l,(List.set σ' 3 (AObj.cells [AV.str (relR x).name,x'] 0 false))[3]?=some (AObj.cells [AV.str (relR x).name,l] 0 false) ∧
      LX 4 4 (List.set σ' 3 (AObj.cells [AV.str (relR x).name,x'] 0 false)) (GV.encs (es++[v])) l:=fun v σ' x' es' he hL' hl' hk'=>by
    subst he
    exact ⟨by omega,ho,a3.symm,x',list_set_at (by omega),hL'.keep fun i o hi ho=>by rw [zqC (by omega)]; exact ho⟩
   have h02:∀ o (h:0<(σ++[o]).length),(σ++[o])[0]'h=.cells [.int .i64 x.kind,.int .i64 x.name,.int .i64 x.n0,.int .i64 x.n1,.int .i64 x.n2,.int .i64 x.n3] 0 false:=fun o h=>Option.some_inj.1 ((zqF h).symm.trans (by rw [zqA (by omega)]; exact h0))
   by_cases c0:i=0
   ·subst c0
    simp at hlt2
    simp [h1,h2,h3,h4,h5,h0,hd,←a3,hn,hlt2,hx0,h02,p4,hwm,mk,setRun,hl3,q4',hget,-appendA_ag]
    refine stW_app2 (N:=4) hL rfl rfl (by omega) (by omega) hN hel fun x' σ' hL' hlen' hk'=>?_
    simp [h1,h2,h3,h4,h5,hw,hk',h0,hd,hl3,hL'.solid,hL'.cells,setRun,w1,w2]
    first | exact fin (addrV (pickN (m.tdiv 2) 4)) σ' x' _ (by rw [←encs_snoc,GV.enc_eq]; rfl) hL' (by omega) hk' | exact ⟨by omega,fin (addrV (pickN (m.tdiv 2) 4)) σ' x' _ (by rw [←encs_snoc,GV.enc_eq]; rfl) hL' (by omega) hk'⟩
   ·by_cases c1:i=1
    ·subst c1
     by_cases cl:pickN x.name 6=0
     ·have hln:=eq_true (hlink.2 cl)
      simp at hlt2
      simp [h1,h2,h3,h4,h5,h0,hd,←a3,hn,hlt2,hx0,h02,p4,hwm,mk,setRun,hl3,q4',hget,hln,cl,-appendA_ag]
      refine stW_app2 (N:=4) hL rfl rfl (by omega) (by omega) hN hel fun x' σ' hL' hlen' hk'=>?_
      simp [h1,h2,h3,h4,h5,hw,hk',h0,hd,hl3,hL'.solid,hL'.cells,setRun,w1,w2]
      first | exact fin (addrV (pickN (m.tdiv 2) 4)) σ' x' _ (by rw [←encs_snoc,GV.enc_eq]; rfl) hL' (by omega) hk' | exact ⟨by omega,fin (addrV (pickN (m.tdiv 2) 4)) σ' x' _ (by rw [←encs_snoc,GV.enc_eq]; rfl) hL' (by omega) hk'⟩
     ·have hln:¬ (relR x).name=⟨#[108,105,110,107]⟩:=fun h=>cl (hlink.1 h)
      by_cases c2:pickN m 2=0
      ·rw [c2] at p2
       simp at hlt2
       simp [h1,h2,h3,h4,h5,h0,hd,←a3,hn,hlt2,hx0,h02,p4,p2,hwm,mk,setRun,hl3,q4',hget,hln,cl,c2,-appendA_ag]
       refine stW_app2 (N:=4) hL rfl rfl (by omega) (by omega) hN hel fun x' σ' hL' hlen' hk'=>?_
       simp [h1,h2,h3,h4,h5,hw,hk',h0,hd,hl3,hL'.solid,hL'.cells,setRun,w1,w2]
       first | exact fin (addrV (pickN (m.tdiv 2) 4)) σ' x' _ (by rw [←encs_snoc,GV.enc_eq]; rfl) hL' (by omega) hk' | exact ⟨by omega,fin (addrV (pickN (m.tdiv 2) 4)) σ' x' _ (by rw [←encs_snoc,GV.enc_eq]; rfl) hL' (by omega) hk'⟩
      ·have c2':¬ (pickN m 2:Int)=0:=by omega
       simp at hlt2
       simp [h1,h2,h3,h4,h5,h0,hd,←a3,hn,hlt2,hx0,p5,p2,hwm,mk,setRun,hl3,hln,cl,c2,c2',-appendA_ag]
       refine stW_app1 (N:=4) hL rfl rfl (by omega) (by omega) hN hel fun x' σ' hL' hlen' hk'=>?_
       simp [h1,h2,h3,h4,h5,hw,hk',h0,hd,hl3,hL'.solid,hL'.cells,setRun,w1,w2]
       first | exact fin (numV (pickN (m.tdiv 2) 5)) σ' x' _ (by rw [←encs_snoc,GV.enc_eq]; rfl) hL' (by omega) hk' | exact ⟨by omega,fin (numV (pickN (m.tdiv 2) 5)) σ' x' _ (by rw [←encs_snoc,GV.enc_eq]; rfl) hL' (by omega) hk'⟩
    ·have c0':¬ (i:Int)=0:=by omega
     have c1':¬ (i:Int)=1:=by omega
     simp [h1,h2,h3,h4,h5,h0,hd,←a3,hn,hlt2,hb4,hx0,p5,hwm,mk,setRun,hl3,c0,c1,c1',-appendA_ag]
     refine stW_app1 (N:=4) hL rfl rfl (by omega) (by omega) hN hel fun x' σ' hL' hlen' hk'=>?_
     simp [h1,h2,h3,h4,h5,hw,hk',h0,hd,hl3,hL'.solid,hL'.cells,setRun,w1,w2]
     first | exact fin (numV (pickN (m.tdiv 2) 5)) σ' x' _ (by rw [←encs_snoc,GV.enc_eq]; rfl) hL' (by omega) hk' | exact ⟨by omega,fin (numV (pickN (m.tdiv 2) 5)) σ' x' _ (by rw [←encs_snoc,GV.enc_eq]; rfl) hL' (by omega) hk'⟩
  ·have he:i=n:=by omega
   subst he
   obtain ⟨a,b,ho⟩:=ho
   obtain ⟨σ',hcl,_⟩:=(hL.keep (τ:=σ.set 1 (.cells [.str (relR x).name,l] 0 false)) fun i o hi ho=>by rw [zqC (by omega)]; exact ho).close
   have hcl1:=close1_of0 hcl
   have hlt2:¬ (i:Int)<(i:Int):=by omega
   have hs1:(σ.set 1 (.cells [.str (relR x).name,l] 0 false))[1]?=some (.cells [.str (relR x).name,l] 0 false):=list_set_at (by omega)
   simp [h1,h2,h3,h4,h5,h0,hd,←a3,hn,hlt2,hl3,ho,hs1,hcl1,GU.enc_eq]
 ·simp
  exact .inl ⟨rfl,rfl⟩
theorem callFact6 (x:GRaw) (hx:x.ok) (bs:Nat) (σ:Heap):callT T 19 [x.enc] bs σ=some ((factR x).enc,σ):=call_clean rfl rfl rfl (by simp) (fact_ok x hx)
theorem callAtom6 (x:GRaw) (hx:x.ok) (bs:Nat) (σ:Heap):callT T 32 [x.enc] bs σ=some (.tup [.str (relR x).name,.isl (GT.encs (atomR x)) false],σ):=call_clean rfl rfl rfl (by simp) (atom_ok x hx)
end Go.Proofs.YtpgakkhfjjhpdaaGreatDoor
end
