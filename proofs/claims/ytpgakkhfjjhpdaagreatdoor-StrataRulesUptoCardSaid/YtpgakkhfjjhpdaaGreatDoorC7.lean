import Derived.Test.YtpgakkhfjjhpdaaGreatDoorC6
import Derived.Test.YtpgakkhfjjhpdaaGreatDoorC5
import Derived.Test.YtpgakkhfjjhpdaaGreatDoorC3
set_option linter.unusedVariables false
set_option linter.unusedSimpArgs false
set_option linter.unnecessarySimpa false
section
set_option maxRecDepth 100000
namespace Go.Proofs.YtpgakkhfjjhpdaaGreatDoor
open Go.Mach
theorem test_get (q:Nat) (h:q<6):window [AV.str ⟨#[61,61]⟩,.str ⟨#[33,61]⟩,.str ⟨#[60]⟩,.str ⟨#[60,61]⟩,.str ⟨#[62]⟩,.str ⟨#[62,61]⟩] q 1=some [.str (tSix.getD q ⟨#[]⟩)]:=by
 match q,h with
 | 0,_=>rfl
 | 1,_=>rfl
 | 2,_=>rfl
 | 3,_=>rfl
 | 4,_=>rfl
 | 5,_=>rfl
theorem two_get (q:Nat) (h:q<2):window [AV.str ⟨#[43]⟩,.str ⟨#[45]⟩] q 1=some [.str (if q=0 then ⟨#[43]⟩ else ⟨#[45]⟩)]:=by
 match q,h with
 | 0,_=>rfl
 | 1,_=>rfl
theorem two_getT (a b:GT) (q:Nat) (h:q<2):window (cT a++cT b) (q * 7) 7=some (cT (if q=0 then a else b)):=by
 match q,h with
 | 0,_=>rfl
 | 1,_=>rfl
theorem close1_two {σ:Heap} {k fz:Nat} {e:Bool} (a b:GT) (h:σ[k]?=some (.cells (cT a++cT b) fz e)):close1 σ (.sl k 0 2 7 true)=some (.isl (GT.encs [a,b]) false,frz σ k 14):=by
 refine close1_of0 ?_
 have hc2:¬ (2:Nat)=0:=by decide
 have hw:window (cT a++cT b) 0 14=some (cT a++cT b):=rfl
 simp only [close0,if_neg hc2,h,Nat.reduceMul,Nat.zero_add,hw,Option.bind_some]
 have h14:((cT a++cT b).all AV.clo1)=true:=rfl
 rw [if_pos h14]
 have hch:chunk 7 true 2 ((cT a++cT b).map AV.nrm)=some (GT.encs [a,b]):=by simp [GT.encs,GT.enc_eq a,GT.enc_eq b]
 rw [hch]; rfl
theorem close0_two {σ:Heap} {k fz:Nat} {e:Bool} (a b:GT) (h:σ[k]?=some (.cells (cT a++cT b) fz e)):close0 σ (.sl k 0 2 7 true)=some (.isl (GT.encs [a,b]) false,frz σ k 14):=by
 have hc2:¬ (2:Nat)=0:=by decide
 have hw:window (cT a++cT b) 0 14=some (cT a++cT b):=rfl
 simp only [close0,if_neg hc2,h,Nat.reduceMul,Nat.zero_add,hw,Option.bind_some]
 have h14:((cT a++cT b).all AV.clo1)=true:=rfl
 rw [if_pos h14]
 have hch:chunk 7 true 2 ((cT a++cT b).map AV.nrm)=some (GT.encs [a,b]):=by simp [GT.encs,GT.enc_eq a,GT.enc_eq b]
 rw [hch]; rfl
theorem close1_opT {σ:Heap} {k m fz fm:Nat} {e em:Bool} (nm:ByteArray) (a b:GT) (h:σ[k]?=some (.cells (opC nm (.sl m 0 2 7 true)) fz e)) (hm:σ[m]?=some (.cells (cT a++cT b) fm em)) (hne:k≠m) :
  ∃ σ',close1 σ (.sl k 0 1 7 true)=some (.isl (GT.encs [opT nm a b]) false,σ'):=by
 have h2:close0 σ (.sl k 0 1 7 true)=none:=by
  have hc2:¬ (1:Nat)=0:=by decide
  have hw:window (opC nm (.sl m 0 2 7 true)) 0 7=some (opC nm (.sl m 0 2 7 true)):=rfl
  simp only [close0,if_neg hc2,h,Nat.one_mul,hw,Option.bind_some]
  rfl
 have hfz:(frz σ k 7)[m]?=some (.cells (cT a++cT b) fm em):=by
  simp only [frz,h]; rw [zqC hne]; exact hm
 have i1:∀ c (σ:Heap) k n,closeUp c σ (AV.int k n)=some (.int k n,σ):=fun _ _ _ _=>rfl
 have s1:∀ c (σ:Heap) n,closeUp c σ (AV.str n)=some (.str n,σ):=fun _ _ _=>rfl
 have l1:∀ c (σ:Heap) n b,closeUp c σ (AV.isl n b)=some (.isl n false,σ):=fun _ _ _ _=>rfl
 have i0:∀ (σ:Heap) k n,close0 σ (AV.int k n)=some (.int k n,σ):=fun _ _ _=>rfl
 have s0:∀ (σ:Heap) n,close0 σ (AV.str n)=some (.str n,σ):=fun _ _=>rfl
 have l0:∀ (σ:Heap) n b,close0 σ (AV.isl n b)=some (.isl n false,σ):=fun _ _ _=>rfl
 have hw:window (opC nm (.sl m 0 2 7 true)) 0 7=some (opC nm (.sl m 0 2 7 true)):=rfl
 have hw2:window (cT a++cT b) 0 14=some (cT a++cT b):=rfl
 have hb:=close0_two a b hfz
 have hU:∀ c,(∀ (σ:Heap) n,c σ (AV.str n)=some (.str n,σ))→(∀ (σ:Heap) k n,c σ (AV.int k n)=some (.int k n,σ))→(∀ (σ:Heap) n b,c σ (AV.isl n b)=some (.isl n false,σ)) →
   (∃ σ',c (frz σ k 7) (.sl m 0 2 7 true)=some (.isl (GT.encs [a,b]) false,σ'))→∃ σ',closeUp c σ (.sl k 0 1 7 true)=some (.isl (GT.encs [opT nm a b]) false,σ'):=by
  rintro c c1 c2 c3 ⟨σ',c4⟩
  refine ⟨σ',?_⟩
  simp only [closeUp,h,Nat.one_mul,Nat.zero_add,hw,Option.bind_some,closeLW,c1,c2,c3,c4,Option.map_some]
  simp [AV.clo1,chunk,mk,GT.encs,opT,GT.enc_eq]
 have hlen14:((cT a++cT b).all AV.clo1)=true:=rfl
 have up:∀ c (τ:Heap) fm em,τ[m]?=some (.cells (cT a++cT b) fm em)→(∀ (σ:Heap) n,c σ (AV.str n)=some (.str n,σ))→(∀ (σ:Heap) k n,c σ (AV.int k n)=some (.int k n,σ))→(∀ (σ:Heap) n b,c σ (AV.isl n b)=some (.isl n false,σ)) →
   closeUp c τ (.sl m 0 2 7 true)=some (.isl (GT.encs [a,b]) false,frz τ m 14):=by
  intro c τ fm em hτ c1 c2 c3
  have hlw:∀ τ',closeLW c τ' (cT a++cT b)=some (cT a++cT b,τ'):=fun τ'=>by simp [closeLW,c1,c2,c3]
  have hch:chunk 7 true 2 (cT a++cT b)=some (GT.encs [a,b]):=by simp [GT.encs,GT.enc_eq a,GT.enc_eq b,chunk,mk]
  simp only [closeUp,hτ,Nat.reduceMul,Nat.zero_add,hw2,Option.bind_some,hlw,hlen14,if_true,hch,Option.map_some]
 unfold close1
 rw [h2]
 exact hU _ (s1 _) (i1 _) (l1 _) ⟨_,up _ _ _ _ hfz (s1 _) (i1 _) (l1 _)⟩
theorem close_ex {σ:Heap} {x y:AV} {F:AV × Heap→Option (AV × Heap)} {r:AV} (h:∃ σ',close1 σ x=some (y,σ')) (hF:∀ σ',∃ z,F (y,σ')=some (r,z)):∃ z,(close1 σ x).bind F=some (r,z):=by
 obtain ⟨σ',h⟩:=h
 rw [h]; exact hF σ'
theorem lit6_ok (x:GRaw) (hx:x.ok):pureT T c33 [x.enc]=some (litR x).enc:=by
 have hA:=callAtom6 x hx
 have h8:=pick6_8 x.kind hx.1
 have hl8:=pickN_lt (c:=x.kind) (n:=8) (by omega)
 unfold litR
 apply pure_enter (by simp [c33])
 by_cases c4:pickN x.kind 8<4
 ·have:pickN x.kind 8=0∨pickN x.kind 8=1∨pickN x.kind 8=2∨pickN x.kind 8=3:=by omega
  rw [if_pos c4]
  rcases this with h | h | h | h <;> (rw [h] at h8; simp [c33,hA,←GRaw.enc_eq,h8,setRun,GL.enc_eq])
 ·by_cases c5:pickN x.kind 8=4
  ·rw [if_neg c4,if_pos c5]
   rw [c5] at h8
   simp [c33,hA,←GRaw.enc_eq,h8,setRun,GL.enc_eq]
  ·by_cases c7:pickN x.kind 8<7
   ·rw [if_neg c4,if_neg c5,if_pos c7]
    have p6:=pick6_6 x.name hx.2.1
    have q6:=pickN_lt (c:=x.name) (n:=6) (by omega)
    have q6':(pickN x.name 6:Int)<6:=by omega
    have g6:=test_get _ q6
    have v0:=callV6 x.n0 hx.2.2.1
    have v1:=callV6 x.n1 hx.2.2.2.1
    have p4:=pick6_4 x.n2 hx.2.2.2.2.1
    have p2:=pick6_2 x.n3 hx.2.2.2.2.2
    have q2:=pickN_lt (c:=x.n3) (n:=2) (by omega)
    have q2':(pickN x.n3 2:Int)<2:=by omega
    have hnu:=callNum6 (pickN x.n2 4)
    have hg2:=two_getT (numT (pickN x.n2 4)) (vT x.n1) _ q2
    simp only [cT,List.cons_append,List.nil_append] at hg2
    have:pickN x.kind 8=5∨pickN x.kind 8=6:=by omega
    rcases this with h | h <;> (rw [h] at h8; simp [c33,hA,←GRaw.enc_eq,h8,setRun,GL.enc_eq,p6,q6',g6,mk,v0,v1,p4,p2,q2',hnu,hg2]; rw [close1_two (vT x.n0) _ rfl]; simp)
   ·rw [if_neg c4,if_neg c5,if_neg c7]
    have h:pickN x.kind 8=7:=by omega
    rw [h] at h8
    have v0:=callV6 x.n0 hx.2.2.1
    have v1:=callV6 x.n1 hx.2.2.2.1
    have v2:=callV6 x.n2 hx.2.2.2.2.1
    have p2:=pick6_2 x.n3 hx.2.2.2.2.2
    have hq:GV.i64ok (x.n3.tdiv 2):=tdiv_ok hx.2.2.2.2.2 2 (by omega)
    have hwm:IntKind.i64.wrap (x.n3.tdiv 2)=x.n3.tdiv 2:=wr64 hq.1 hq.2
    have p2b:=pick6_2 _ hq
    have q2:=pickN_lt (c:=x.n3) (n:=2) (by omega)
    have q2':(pickN x.n3 2:Int)<2:=by omega
    have q3:=pickN_lt (c:=x.n3.tdiv 2) (n:=2) (by omega)
    have q3':(pickN (x.n3.tdiv 2) 2:Int)<2:=by omega
    have g2:=two_get _ q2
    have hnu:=callNum6 1
    have hfd:fieldV 1 1 false (vT x.n0).enc=some (.str (vName (pickN x.n0 6))):=by rw [GT.enc_eq]; rfl
    have hg2:=two_getT (numT 1) (vT x.n2) _ q3
    simp only [cT,List.cons_append,List.nil_append] at hg2
    simp [c33,hA,←GRaw.enc_eq,h8,setRun,GL.enc_eq,v0,v1,v2,p2,p2b,hwm,q2',q3',g2,mk,hnu,hg2,hfd]
    refine close_ex (close1_opT (if pickN x.n3 2=0 then ⟨#[43]⟩ else ⟨#[45]⟩) (vT x.n1) (if pickN (x.n3.tdiv 2) 2=0 then numT 1 else vT x.n2) rfl rfl (by decide)) fun σ'=>?_
    simp [opT]
theorem callLit6 (x:GRaw) (hx:x.ok) (bs:Nat) (σ:Heap):callT T 33 [x.enc] bs σ=some ((litR x).enc,σ):=call_clean rfl rfl rfl (by simp) (lit6_ok x hx)
set_option maxRecDepth 100000
open Go.Mach
theorem agg_get (q:Nat) (h:q<3):window [AV.str ⟨#[109,105,110]⟩,.str ⟨#[109,97,120]⟩,.str ⟨#[99,111,117,110,116]⟩] q 1=some [.str (aggN q)]:=by
 match q,h with
 | 0,_=>rfl
 | 1,_=>rfl
 | 2,_=>rfl
abbrev RT:ACode:=sndC (sndC (sndC (sndC (sndC (sndC (sndC c18.body))))))
theorem rule_tail6 (h:GRaw) (hh:h.ok) (lab:ByteArray) (body:List GL) (lst:AV) (f:FR) (σ:Heap) (h4:f 4=.ptr 0 0) (h5:f 5=.ptr 2 0) (h6:f 6=.ptr 3 0) (hN:4≤σ.length)
  (c0:∃ a b c d e g,σ[0]?=some (.cells [a,b,c,d,e,g] 0 false)) (c2:σ[2]?=some (.cells [.str lab,.str (relR h).name,.isl (GT.encs (atomR h)) false,.str ⟨#[]⟩,.int .i64 0,lst] 0 false))
  (c3:σ[3]?=some (.cells h.enc.cells 0 false)) (hL:LX 4 3 σ (body.map GL.enc) lst) :
  wpK T 0 88 [.code RT] f σ (endP 88 [.cell 4 6 true] (GR.enc ⟨lab,(relR h).name,atomR h,if aggR h=true then aggN (pickN (h.kind.tdiv 5) 3) else ⟨#[]⟩,if aggR h=true then 1 else 0,body⟩)):=by
 obtain ⟨a,b,c,d,e,g,c0⟩:=c0
 have p5:=pick6_5 h.kind hh.1
 have hq:GV.i64ok (h.kind.tdiv 5):=tdiv_ok hh.1 5 (by omega)
 have hwm:IntKind.i64.wrap (h.kind.tdiv 5)=h.kind.tdiv 5:=wr64 hq.1 hq.2
 have p3:=pick6_3 _ hq
 have q3:=pickN_lt (c:=h.kind.tdiv 5) (n:=3) (by omega)
 have q3':(pickN (h.kind.tdiv 5) 3:Int)<3:=by omega
 have g3:=agg_get _ q3
 have hs0:∀ o,(σ.set 0 o)[0]?=some o:=fun o=>list_set_at (by omega)
 have hcl:∀ o,∃ σ',close1 (σ.set 0 o) lst=some (.isl (body.map GL.enc) false,σ'):=fun o=>by
  obtain ⟨σ',h1,_⟩:=(hL.keep (τ:=σ.set 0 o) fun i o hi ho=>by rw [zqC (by omega)]; exact ho).close
  exact ⟨σ',close1_of0 h1⟩
 have ga3:∀ o,(σ++[o])[3]?=some (.cells [.int .i64 h.kind,.int .i64 h.name,.int .i64 h.n0,.int .i64 h.n1,.int .i64 h.n2,.int .i64 h.n3] 0 false):=fun o=>by rw [zqA (by omega)]; exact c3
 have ga2:∀ o,(σ++[o])[2]?=some (.cells [.str lab,.str (relR h).name,.isl (GT.encs (atomR h)) false,.str ⟨#[]⟩,.int .i64 0,lst] 0 false):=fun o=>by rw [zqA (by omega)]; exact c2
 have hs2:∀ o o',((σ++[o]).set 2 o')[2]?=some o':=fun o o'=>list_set_at (by simp; omega)
 have ga0:∀ o o' h,((σ++[o]).set 2 o')[0]'h=.cells [a,b,c,d,e,g] 0 false:=fun o o' h=>Option.some_inj.1 ((zqF h).symm.trans (by rw [zqC (by decide),zqA (by omega)]; exact c0))
 have ga0':∀ o o',((σ++[o]).set 2 o')[0]?=some (.cells [a,b,c,d,e,g] 0 false):=fun o o'=>by rw [zqC (by decide),zqA (by omega)]; exact c0
 have hs20:∀ o o' o'',(((σ++[o]).set 2 o').set 0 o'')[0]?=some o'':=fun o o' o''=>list_set_at (by simp)
 have hcl2:∀ o o' o'',∃ σ',close1 (((σ++[o]).set 2 o').set 0 o'') lst=some (.isl (body.map GL.enc) false,σ'):=fun o o' o''=>by
  obtain ⟨σ',h1,_⟩:=(hL.keep (τ:=((σ++[o]).set 2 o').set 0 o'') fun i q hi ho=>by
   rw [zqC (by omega),zqC (by omega),zqA (zqI.1 ho).1]; exact ho).close
  exact ⟨σ',close1_of0 h1⟩
 by_cases k4:pickN h.kind 5=4
 ·rw [k4] at p5
  by_cases k1:1<(atomR h).length
  ·have k1':(1:Int)<((atomR h).length:Int):=by omega
   have e1:(atomR h)[1]?=some (atomR h)[1]:=zqF k1
   by_cases k2:(atomR h)[1].kind=1
   ·have ha:aggR h=true:=by unfold aggR; rw [e1]; simp [k4,k2]
    simp [RT,c18,sndC,h4,h5,h6,c0,c2,c3,p5,k1',k1,e1,k2,hwm,p3,q3',g3,mk,setRun,ha,ga2,ga3,hs2,ga0,ga0',hs20]
    refine close_ex (hcl2 _ _ _) fun σ'=>?_
    simp [GR.enc_eq]
   ·have ha:aggR h=false:=by unfold aggR; rw [e1]; simp [k4,k2]
    simp [RT,c18,sndC,h4,h5,h6,c0,c2,c3,p5,k1',k1,e1,k2,setRun,ha,hs0]
    refine close_ex (hcl _) fun σ'=>?_
    simp [GR.enc_eq]
  ·have k1':¬ (1:Int)<((atomR h).length:Int):=by omega
   have ha:aggR h=false:=by unfold aggR; rw [List.getElem?_eq_none (by omega)]; simp
   simp [RT,c18,sndC,h4,h5,h6,c0,c2,c3,p5,k1',setRun,ha,hs0]
   refine close_ex (hcl _) fun σ'=>?_
   simp [GR.enc_eq]
 ·have k4':¬ (pickN h.kind 5:Int)=4:=by omega
  have ha:aggR h=false:=by unfold aggR; simp [k4]
  simp [RT,c18,sndC,h4,h5,h6,c0,c2,c3,p5,k4,k4',setRun,ha,hs0]
  refine close_ex (hcl _) fun σ'=>?_
  simp [GR.enc_eq]
theorem pickN_small (n:Nat) (h:n<26):pickN n 26=n:=by
 unfold pickN; rw [if_neg (by omega)]; simp; omega
theorem body_take (l:List GRaw) (h:1<l.length):bodyR l=(((l.take 5).drop 1)).map litR:=by
 unfold bodyR; rw [if_neg (by omega)]
abbrev RL:ACode:=sndC (sndC (sndC (sndC (sndC c18.body))))
theorem rule_loop6 (l:List GRaw) (hl:∀ x∈l,x.ok) (hlen:l.length≤100000000000) (h:GRaw) (hh:h.ok) (lab:ByteArray) (f:FR) (σ:Heap) (h0:f 0=.isl (l.map GRaw.enc) false) (h4:f 4=.ptr 0 0) (h5:f 5=.ptr 2 0) (h6:f 6=.ptr 3 0) (hN:4≤σ.length)
  (c0:∃ a b c d e g,σ[0]?=some (.cells [a,b,c,d,e,g] 0 false)) (c2:σ[2]?=some (.cells [.str lab,.str (relR h).name,.isl (GT.encs (atomR h)) false,.str ⟨#[]⟩,.int .i64 0,.isl [] true] 0 false))
  (c3:σ[3]?=some (.cells h.enc.cells 0 false)) :
  wpK T 0 88 [.code RL] f σ (endP 88 [.cell 4 6 true] (GR.enc ⟨lab,(relR h).name,atomR h,if aggR h=true then aggN (pickN (h.kind.tdiv 5) 3) else ⟨#[]⟩,if aggR h=true then 1 else 0,bodyR l⟩)):=by
 have tail:=rule_tail6 h hh lab (bodyR l)
 have hL0:∀ bs σ,callT T 33 [.agg [.int .i64 0,.int .i64 0,.int .i64 0,.int .i64 0,.int .i64 0,.int .i64 0]] bs σ=some ((litR .zero).enc,σ):=callLit6 .zero GRaw.zero_ok
 have hb:RL=.seq (fstC RL) (.seq (fstC (sndC RL)) RT):=rfl
 rw [hb]
 generalize RT=K at tail
 generalize GR.enc ⟨lab,(relR h).name,atomR h,if aggR h=true then aggN (pickN (h.kind.tdiv 5) 3) else ⟨#[]⟩,if aggR h=true then 1 else 0,bodyR l⟩=res at *
 have fin:∀ (v:GL) (es:List GL) (σ σ':Heap) x' (es':List AV),es'=(es++[v]).map GL.enc→LX 4 3 σ' es' x'→4≤σ.length→σ.length+1≤σ'.length→(∀ i,i<4→σ'[i]?=σ[i]?)→∀ o,LX 4 3 (σ'.set 2 o) ((es++[v]).map GL.enc) x':=fun v es σ σ' x' es' he hL' h4 hl' hk' o=>by
  subst he
  exact hL'.keep fun i o hi ho=>by rw [zqC (by omega)]; exact ho
 simp [RL,c18,sndC,fstC]
 refine W_for T 0 88 (min l.length 5 - 1) (fun i f σ=>f 0=.isl (l.map GRaw.enc) false∧f 4=.ptr 0 0∧f 5=.ptr 2 0∧f 6=.ptr 3 0∧f 7=.int .i64 ((i:Int)+1)∧4≤σ.length∧(∃ a b c d e g,σ[0]?=some (.cells [a,b,c,d,e,g] 0 false)) ∧
  σ[3]?=some (.cells h.enc.cells 0 false)∧∃ lst,σ[2]?=some (.cells [.str lab,.str (relR h).name,.isl (GT.encs (atomR h)) false,.str ⟨#[]⟩,.int .i64 0,lst] 0 false)∧LX 4 3 σ (((((l.take 5).drop 1).take i).map litR).map GL.enc) lst) ?_ _ _ ?_
 ·rintro i f σ hi ⟨h0,h4,h5,h6,h7,hN,c0,c3,lst,c2,hL⟩
  by_cases hlt:i+1<min l.length 5
  ·have hlt1:i+1<l.length:=by omega
   have hlt2:(i:Int)+1<(l.length:Int):=by omega
   have hlt3:(i:Int)+1<5:=by omega
   have h0i:0≤(i:Int)+1:=by omega
   have hw:IntKind.i64.wrap ((i:Int)+1+1)=(i:Int)+1+1:=wr64 (by omega) (by omega)
   have e1:l[i+1]?=some l[i+1]:=zqF hlt1
   have hc:=callLit6 l[i+1] (hl _ (zqT hlt1))
   have htk:(((l.take 5).drop 1).take (i+1)).map litR=(((l.take 5).drop 1).take i).map litR++[litR l[i+1]]:=by
    have hd:i<((l.take 5).drop 1).length:=by simp; omega
    rw [zqO hd,List.map_append]
    have:((l.take 5).drop 1)[i]=l[i+1]:=by simp [Nat.add_comm]
    rw [this]; rfl
   have hal:((((l.take 5).drop 1).take i).map litR).length≤5:=by simp; omega
   rw [htk]
   generalize (((l.take 5).drop 1).take i).map litR=es at *
   simp [h0,h4,h5,h6,h7,hlt2,hlt3,hlt1,h0i,c2,e1,hc,←GRaw.enc_eq,setRun,-appendA_ag]
   refine stW_app1 (N:=4) hL rfl rfl (by omega) (by omega) hN (by simp; omega) fun x' σ' hL' hlen' hk'=>?_
   simp [h0,h4,h5,h6,h7,hw,hk',c0,c3,c2,hL'.solid,hL'.cells,setRun]
   refine ⟨by omega,by omega,x',list_set_at (by omega),?_⟩
   have:=fin (litR l[i+1]) es σ σ' x' _ (by rw [List.map_append]; rfl) hL' hN (by omega) hk' (.cells [.str lab,.str (relR h).name,.isl (GT.encs (atomR h)) false,.str ⟨#[]⟩,.int .i64 0,x'] 0 false)
   rwa [List.map_append] at this
  ·have he:i=min l.length 5 - 1:=by omega
   have htk:((l.take 5).drop 1).take i=(l.take 5).drop 1:=List.take_of_length_le (by simp; omega)
   rw [htk] at hL
   by_cases hl1:l.length≤1
   ·have hnil:(l.take 5).drop 1=[]:=List.drop_eq_nil_of_le (by simp; omega)
    have hbd:bodyR l=[litR .zero]:=by unfold bodyR; rw [if_pos hl1]
    rw [hnil] at hL
    have hlt2:¬ ((i:Int)+1<(l.length:Int)):=by omega
    have hlv:=hL.len
    simp [h0,h4,h5,h6,h7,hlt2,c2,hlv,hL0,setRun,-appendA_ag]
    refine stW_app1 (N:=4) hL rfl rfl (by omega) (by omega) hN (by simp) fun x' σ' hL' hlen' hk'=>?_
    obtain ⟨a,b,c,d,e,g,c0⟩:=c0
    simp [h0,h4,h5,h6,h7,hk',c0,c3,c2,hL'.solid,hL'.cells,setRun]
    refine tail x' _ _ (by simp [h4]) (by simp [h5]) (by simp [h6]) (by simp; omega) ⟨a,b,c,d,e,g,by rw [zqC (by decide),hk' 0 (by omega)]; exact c0⟩ (list_set_at (by omega)) (by rw [zqC (by decide),hk' 3 (by omega)]; exact c3) ?_
    rw [hbd]
    exact fin (litR .zero) [] σ σ' x' _ rfl hL' hN (by omega) hk' _
   ·have hbd:=body_take l (by omega)
    rw [←hbd] at hL
    have hbl:=bodyR_len l
    have hlv:=hL.len
    have hne:¬ ((bodyR l).length:Int)=0:=by omega
    have hne2:¬ bodyR l=[]:=fun e=>by rw [e] at hbl; simp at hbl
    by_cases h5l:(i:Int)+1<(l.length:Int)
    ·have hlt3:¬ (i:Int)+1<5:=by omega
     simp [h0,h4,h5,h6,h7,h5l,hlt3,c2,hlv,hne,hne2]
     exact tail lst _ σ (by simp [h4]) (by simp [h5]) (by simp [h6]) hN c0 c2 c3 hL
    ·simp [h0,h4,h5,h6,h7,h5l,c2,hlv,hne,hne2]
     exact tail lst _ σ (by simp [h4]) (by simp [h5]) (by simp [h6]) hN c0 c2 c3 hL
 ·simp [h0,h4,h5,h6,c2,c3,hN,c0]
  exact .inl ⟨rfl,rfl⟩
theorem rule6_ok (l:List GRaw) (hl:∀ x∈l,x.ok) (hlen:l.length≤100000000000) (n:Nat) (hn:n<26):pureT T c18 [.isl (l.map GRaw.enc) false,.int .i64 (n:Int)]=some (ruleR l n).enc:=by
 have hp:=pick6_26 (n:Int) (by unfold GV.i64ok; omega)
 rw [pickN_small n hn] at hp
 have hho:(headR l).ok:=by
  cases l with
  | nil=>exact GRaw.zero_ok
  | cons x l=>exact hl x (by simp)
 have loop:=rule_loop6 l hl hlen (headR l) hho (⟨#[114]⟩++⟨#[UInt8.ofNat (97+n)]⟩)
 have hw97:IntKind.i64.wrap (97+(n:Int))=97+(n:Int):=wr64 (by omega) (by omega)
 have hu8:IntKind.u8.wrap (97+(n:Int))=97+(n:Int):=wru8 (by omega) (by omega)
 have hb2:∀ o:AObj,b2sV [o,.cells [.int .u8 (97+(n:Int))] 0 false] (.sl 1 0 1 1 false)=some (.str ⟨#[UInt8.ofNat (97+n)]⟩):=fun o=>
  b2s_bv (l:=[UInt8.ofNat (97+n)]) (fz:=0) (ext:=false) (by simp [bv]; omega) (by simp)
 have hs1:(⟨#[114]⟩:ByteArray).size=1:=rfl
 have hs2:(⟨#[UInt8.ofNat (97+n)]⟩:ByteArray).size=1:=rfl
 unfold ruleR
 generalize UInt8.ofNat (97+n)=lb at *
 apply pure_enter (by simp [c18])
 show wpK T 0 88 [.code c18.body] _ [] (endP 88 [.cell 4 6 true] _)
 have hb:c18.body=.seq (fstC c18.body) (.seq (fstC (sndC c18.body)) (.seq (fstC (sndC (sndC c18.body))) (.seq (fstC (sndC (sndC (sndC c18.body)))) (.seq (fstC (sndC (sndC (sndC (sndC c18.body))))) RL)))):=rfl
 rw [hb]
 generalize RL=K at loop
 cases l with
 | nil=>
  have hA:∀ bs σ,callT T 32 [.agg [.int .i64 0,.int .i64 0,.int .i64 0,.int .i64 0,.int .i64 0,.int .i64 0]] bs σ=some (.tup [.str (relR .zero).name,.isl (GT.encs (atomR .zero)) false],σ):=callAtom6 .zero GRaw.zero_ok
  simp [c18,sndC,fstC,hp,hw97,hu8,setRun,hb2,hs1,hs2,hA]
  refine loop _ _ (by simp) (by simp) (by simp) (by simp) (by simp) ⟨_,_,_,_,_,_,rfl⟩ (by simp [headR]) (by simp [headR,GRaw.zero])
 | cons x l=>
  have hA:=callAtom6 x (hl x (by simp))
  simp [c18,sndC,fstC,hp,hw97,hu8,setRun,hb2,hs1,hs2,hA,←GRaw.enc_eq]
  refine loop _ _ (by simp) (by simp) (by simp) (by simp) (by simp) ⟨_,_,_,_,_,_,rfl⟩ (by simp [headR]) (by simp [headR,GRaw.zero])
theorem callRule6R (l:List GRaw) (hl:∀ x∈l,x.ok) (hlen:l.length≤100000000000) (n:Nat) (hn:n<26) (bs:Nat) (σ:Heap):callT T 18 [.isl (l.map GRaw.enc) false,.int .i64 (n:Int)] bs σ=some ((ruleR l n).enc,σ):=call_clean rfl rfl rfl (by simp) (rule6_ok l hl hlen n hn)
set_option maxRecDepth 100000
open Go.Mach
abbrev PF:ACode:=sndC (sndC (sndC c6.body))
theorem prog_facts (rs:List GR) (facts:List GRaw) (hf:∀ x∈facts,x.ok) (hlen:facts.length≤100000000000) (lst:AV) (f:FR) (σ:Heap) (h1:f 1=.isl (facts.map GRaw.enc) false) (h4:f 4=.ptr 0 0) (h5:f 5=.ptr 1 0) (hN:2≤σ.length)
  (c0:∃ a b c,σ[0]?=some (.cells [a,b,c] 0 false)) (c1:σ[1]?=some (.cells [.isl (relsD.map GD.enc) false,.isl [] true,lst] 0 false)) (hL:LX 2 6 σ (rs.map GR.enc) lst) :
  wpK T 0 52 [.code PF] f σ (endP 52 [.cell 4 3 true] (GP.enc ⟨relsD,(facts.take 12).map factR,rs⟩)):=by
 simp [PF,c6,sndC]
 refine W_for T 0 52 (min facts.length 12) (fun i f σ=>f 1=.isl (facts.map GRaw.enc) false∧f 4=.ptr 0 0∧f 5=.ptr 1 0∧f 7=.int .i64 (i:Int)∧2≤σ.length∧(∃ a b c,σ[0]?=some (.cells [a,b,c] 0 false)) ∧
  ∃ ls,σ[1]?=some (.cells [.isl (relsD.map GD.enc) false,ls,lst] 0 false)∧LX 2 6 σ (rs.map GR.enc) lst∧LX 2 2 σ (((facts.take i).map factR).map GU.enc) ls) ?_ _ _ ?_
 ·rintro i f σ hi ⟨h1,h4,h5,h7,hN,⟨a,b,c,c0⟩,ls,c1,hL,hM⟩
  by_cases hlt:i<min facts.length 12
  ·have hlt1:i<facts.length:=by omega
   have hlt2:(i:Int)<(facts.length:Int):=by omega
   have hlt3:(i:Int)<12:=by omega
   have hw:IntKind.i64.wrap ((i:Int)+1)=(i:Int)+1:=wr64 (by omega) (by omega)
   have e1:facts[i]?=some facts[i]:=zqF hlt1
   have hc:=callFact6 facts[i] (hf _ (zqT hlt1))
   have htk:(facts.take (i+1)).map factR=(facts.take i).map factR++[factR facts[i]]:=by
    rw [zqO hlt1,List.map_append]; rfl
   have hal:((facts.take i).map factR).length≤12:=by simp; omega
   rw [htk]
   generalize (facts.take i).map factR=es at *
   simp [h1,h4,h5,h7,hlt2,hlt3,hlt1,c1,e1,hc,←GRaw.enc_eq,setRun,-appendA_ag]
   refine stW_app1K (N:=2) hM rfl rfl (by omega) (by omega) hN (by simp; omega) fun x' σ' hL' hlen' hk' hoth=>?_
   have hL2:=hoth 6 _ _ (by decide) hL
   simp [h1,h4,h5,h7,hw,hk',c0,c1,hL'.solid,hL'.cells,setRun]
   have kp:∀ {sz es y} o,LX 2 sz σ' es y→LX 2 sz (σ'.set 1 o) es y:=fun o h=>h.keep fun i q hi ho=>by rw [zqC (by omega)]; exact ho
   refine ⟨by omega,by omega,x',list_set_at (by omega),kp _ hL2,?_⟩
   have:=kp (.cells [.isl (relsD.map GD.enc) false,x',lst] 0 false) hL'
   exact this
  ·have he:i=min facts.length 12:=by omega
   have htk:facts.take i=facts.take 12:=by
    by_cases h:facts.length≤12
    ·rw [List.take_of_length_le (by omega),List.take_of_length_le h]
    ·have:i=12:=by omega
     rw [this]
   rw [htk] at hM
   have hs0:∀ o,(σ.set 0 o)[0]?=some o:=fun o=>list_set_at (by omega)
   have kp:∀ {sz es y} o,LX 2 sz σ es y→LX 2 sz (σ.set 0 o) es y:=fun o h=>h.keep fun i q hi ho=>by rw [zqC (by omega)]; exact ho
   have hcl:∀ o,∃ σ',close1 (σ.set 0 o) ls=some (.isl (((facts.take 12).map factR).map GU.enc) false,σ')∧∃ σ'',close1 σ' lst=some (.isl (rs.map GR.enc) false,σ''):=fun o=>by
    obtain ⟨σ1,k1,_,_,k3⟩:=(kp o hM).close
    obtain ⟨σ2,k4,_⟩:=(k3 _ _ _ _ (kp o hL)).close
    exact ⟨σ1,close1_of0 k1,σ2,close1_of0 k4⟩
   have ht12:List.take 12 (List.map factR facts)=(facts.take 12).map factR:=by rw [List.map_take]
   by_cases h12:(i:Int)<(facts.length:Int)
   ·have hlt3:¬ (i:Int)<12:=by omega
    simp [h1,h4,h5,h7,h12,hlt3,c1,c0,hs0]
    obtain ⟨σ1,k1,σ2,k2⟩:=hcl (AObj.cells [AV.isl (List.map GD.enc relsD) false,ls,lst] 0 false)
    simp [k1,k2,GP.enc_eq]
   ·simp [h1,h4,h5,h7,h12,c1,c0,hs0]
    obtain ⟨σ1,k1,σ2,k2⟩:=hcl (AObj.cells [AV.isl (List.map GD.enc relsD) false,ls,lst] 0 false)
    simp [k1,k2,GP.enc_eq]
 ·simp [h1,h4,h5,c1,hN,c0,hL]
  exact .inl ⟨rfl,rfl⟩
theorem rulesR_snoc (rules:List (List GRaw)) (i:Nat) (h:i<rules.length):((rules.take (i+1)).zipIdx).map (fun p=>ruleR p.1 p.2)=((rules.take i).zipIdx).map (fun p=>ruleR p.1 p.2)++[ruleR rules[i] i]:=by
 rw [zqO h,List.zipIdx_append,List.map_append]
 have:(rules.take i).length=i:=by simp; omega
 simp [this]
theorem prog6_ok (rules:List (List GRaw)) (facts:List GRaw) (hr:∀ l∈rules,(∀ x∈l,x.ok)∧l.length≤100000000000) (hrl:rules.length≤100000000000) (hf:∀ x∈facts,x.ok) (hlen:facts.length≤100000000000) :
  pureT T c6 [.isl (encRR rules) false,.isl (facts.map GRaw.enc) false]=some (progR rules facts).enc:=by
 have tail:=prog_facts (rulesR rules) facts hf hlen
 unfold progR
 apply pure_enter (by simp [c6])
 show wpK T 0 52 [.code c6.body] _ [] (endP 52 [.cell 4 3 true] _)
 have hb:c6.body=.seq (fstC c6.body) (.seq (fstC (sndC c6.body)) (.seq (fstC (sndC (sndC c6.body))) PF)):=rfl
 rw [hb]
 generalize PF=K at tail
 generalize GP.enc ⟨relsD,(facts.take 12).map factR,rulesR rules⟩=res at *
 simp [c6,sndC,fstC,callRelations6,setRun]
 refine W_for T 0 52 (min rules.length 6) (fun i f σ=>f 0=.isl (encRR rules) false∧f 1=.isl (facts.map GRaw.enc) false∧f 4=.ptr 0 0∧f 5=.ptr 1 0∧f 6=.int .i64 (i:Int)∧2≤σ.length∧(∃ a b c,σ[0]?=some (.cells [a,b,c] 0 false)) ∧
  ∃ ls,σ[1]?=some (.cells [.isl (relsD.map GD.enc) false,.isl [] true,ls] 0 false)∧LX 2 6 σ ((((rules.take i).zipIdx).map fun p=>ruleR p.1 p.2).map GR.enc) ls) ?_ _ _ ?_
 ·rintro i f σ hi ⟨h0,h1,h4,h5,h6,hN,⟨a,b,c,c0⟩,ls,c1,hL⟩
  by_cases hlt:i<min rules.length 6
  ·have hlt1:i<rules.length:=by omega
   have hlt2:(i:Int)<(rules.length:Int):=by omega
   have hlt3:(i:Int)<6:=by omega
   have hw:IntKind.i64.wrap ((i:Int)+1)=(i:Int)+1:=wr64 (by omega) (by omega)
   have e1:rules[i]?=some rules[i]:=zqF hlt1
   have hc:=callRule6R rules[i] (hr _ (zqT hlt1)).1 (hr _ (zqT hlt1)).2 i (by omega)
   have htk:=rulesR_snoc rules i hlt1
   have hal:(((rules.take i).zipIdx).map fun p=>ruleR p.1 p.2).length≤6:=by simp; omega
   rw [htk]
   generalize (((rules.take i).zipIdx).map fun p=>ruleR p.1 p.2)=es at *
   simp [h0,h1,h4,h5,h6,hlt2,hlt3,hlt1,c1,e1,hc,setRun,-appendA_ag]
   refine stW_app1 (N:=2) hL rfl rfl (by omega) (by omega) hN (by simp; omega) fun x' σ' hL' hlen' hk'=>?_
   simp [h0,h1,h4,h5,h6,hw,hk',c0,c1,hL'.solid,hL'.cells,setRun]
   have kp:∀ {sz es y} o,LX 2 sz σ' es y→LX 2 sz (σ'.set 1 o) es y:=fun o h=>h.keep fun i q hi ho=>by rw [zqC (by omega)]; exact ho
   refine ⟨by omega,by omega,x',list_set_at (by omega),?_⟩
   have:=kp (.cells [.isl (relsD.map GD.enc) false,.isl [] true,x'] 0 false) hL'
   exact this
  ·have he:i=min rules.length 6:=by omega
   have htk:rules.take i=rules.take 6:=by
    by_cases h:rules.length≤6
    ·rw [List.take_of_length_le (by omega),List.take_of_length_le h]
    ·have:i=6:=by omega
     rw [this]
   rw [htk] at hL
   by_cases h12:(i:Int)<(rules.length:Int)
   ·have hlt3:¬ (i:Int)<6:=by omega
    simp [h0,h1,h4,h5,h6,h12,hlt3]
    refine tail ls _ σ ?_ ?_ ?_ hN ⟨a,b,c,c0⟩ c1 hL <;> simp [h1,h4,h5]
   ·simp [h0,h1,h4,h5,h6,h12]
    refine tail ls _ σ ?_ ?_ ?_ hN ⟨a,b,c,c0⟩ c1 hL <;> simp [h1,h4,h5]
 ·simp
  exact .inl ⟨rfl,rfl⟩
theorem callProg6 (rules:List (List GRaw)) (facts:List GRaw) (hr:∀ l∈rules,(∀ x∈l,x.ok)∧l.length≤100000000000) (hrl:rules.length≤100000000000) (hf:∀ x∈facts,x.ok) (hlen:facts.length≤100000000000) (bs:Nat) (σ:Heap) :
  callT T 6 [.isl (encRR rules) false,.isl (facts.map GRaw.enc) false] bs σ=some ((progR rules facts).enc,σ):=call_clean rfl rfl rfl (by simp) (prog6_ok rules facts hr hrl hf hlen)
open Go.Mach
theorem bulkAs_le {α:Type} (enc:α→AV) (c:Nat):∀ l:List α,(∀ x∈l,bulkA (enc x)≤c)→bulkAs (l.map enc)≤c * l.length
 | [],_=>by simp [bulkAs]
 | x :: l,h=>by
  have h1:=bulkAs_le enc c l fun y hy=>h y (by simp [hy])
  have h2:=h x (by simp)
  simp only [List.map_cons,bulkAs,zqU,Nat.mul_add]; omega
theorem tsizes_le (c:Nat) (l:List GT) (h:∀ t∈l,t.size≤c):GT.sizes l≤c * l.length:=by
 rw [←GT.bulk_encs,GT.encs_map]
 exact bulkAs_le GT.enc c l fun t ht=>by rw [GT.bulk_enc]; exact h t ht
theorem gsizes_le (c:Nat) (l:List GV) (h:∀ t∈l,t.size≤c):GV.sizes l≤c * l.length:=by
 rw [←GV.bulk_encs,GV.encs_map]
 exact bulkAs_le GV.enc c l fun t ht=>by rw [GV.bulk_enc]; exact h t ht
theorem vTn_size:∀ n,n<6→(vTn n).size≤40:=by decide +kernel
theorem vT_size (c:Int):(vT c).size≤40:=vTn_size _ (pickN_lt (by omega))
theorem numT_size (n:Int):(numT n).size≤40:=by
 have h0:(ByteArray.mk #[]).size=0:=rfl
 simp [numT,GT.size,GT.sizes,GV.size,GV.sizes,h0]
theorem addrT_size:∀ n,n<3→(addrT n).size≤40:=by decide +kernel
theorem sumT_size:∀ n,n<6→(sumT n).size≤40:=by decide +kernel
theorem argR_size (k:Int):(argR k).size≤40:=by
 unfold argR
 split
 ·exact numT_size _
 split
 ·exact addrT_size _ (pickN_lt (by omega))
 split
 ·exact sumT_size _ (pickN_lt (by omega))
 ·exact vT_size k
theorem atomR_size (x:GRaw):GT.sizes (atomR x)≤120:=by
 obtain ⟨_,h2,_⟩:=rel_arity x
 have:=tsizes_le 40 (atomR x) (fun t ht=>by
  obtain ⟨i,_,rfl⟩:=List.mem_map.1 ht
  split
  ·exact vT_size _
  ·exact argR_size _)
 have hl:(atomR x).length=(relR x).arity.toNat:=by simp [atomR]
 rw [hl] at this; omega
theorem relR_size (x:GRaw):(relR x).name.size≤4:=by
 obtain ⟨n,hn,_,e⟩:=rel_cases x
 rw [e]
 match n,hn with
 | 0,_=>decide
 | 1,_=>decide
 | 2,_=>decide
 | 3,_=>decide
 | 4,_=>decide
 | 5,_=>decide
theorem tSix_size:∀ n,n<6→(tSix.getD n ⟨#[]⟩).size≤4:=by decide +kernel
theorem vName_size:∀ n,n<6→(vName n).size≤4:=by decide +kernel
theorem litR_size (x:GRaw):(litR x).size≤200:=by
 have h1:=atomR_size x
 have h2:=relR_size x
 unfold litR
 split
 ·simp only [GL.size,GL.enc,bulkA,bulkAs,GT.bulk_encs]; omega
 split
 ·simp only [GL.size,GL.enc,bulkA,bulkAs,GT.bulk_encs]; omega
 split
 ·have h3:=tSix_size _ (pickN_lt (c:=x.name) (n:=6) (by omega))
  have h4:GT.sizes [vT x.n0,if pickN x.n3 2=0 then numT (pickN x.n2 4) else vT x.n1]≤80:=tsizes_le 40 _ fun t ht=>by
   simp only [List.mem_cons,List.not_mem_nil,or_false] at ht
   rcases ht with rfl | rfl
   ·exact vT_size _
   ·split
    ·exact numT_size _
    ·exact vT_size _
  simp only [GL.size,GL.enc,bulkA,bulkAs,GT.bulk_encs]; omega
 ·have h3:=vName_size _ (pickN_lt (c:=x.n0) (n:=6) (by omega))
  have h4:GT.sizes [vT x.n1,if pickN (x.n3.tdiv 2) 2=0 then numT 1 else vT x.n2]≤80:=tsizes_le 40 _ fun t ht=>by
   simp only [List.mem_cons,List.not_mem_nil,or_false] at ht
   rcases ht with rfl | rfl
   ·exact vT_size _
   ·split
    ·exact numT_size _
    ·exact vT_size _
  have h5:(if pickN x.n3 2=0 then (⟨#[43]⟩:ByteArray) else ⟨#[45]⟩).size≤1:=by split <;> decide
  have h0:(ByteArray.mk #[]).size=0:=rfl
  simp only [GL.size,GL.enc,bulkA,bulkAs,GT.bulk_encs,GT.sizes,GT.size,GV.size,GV.sizes,h0] at h4 ⊢; omega
theorem aggN_size (n:Nat):(aggN n).size≤5:=by
 unfold aggN
 split
 ·decide
 split <;> decide
theorem ruleR_size (l:List GRaw) (n:Nat):(ruleR l n).size≤1000:=by
 have h1:=atomR_size (headR l)
 have h2:=relR_size (headR l)
 have h3:=aggN_size (pickN ((headR l).kind.tdiv 5) 3)
 have h4:bulkAs ((bodyR l).map GL.enc)≤200 * (bodyR l).length:=bulkAs_le GL.enc 200 _ fun y hy=>by
  obtain ⟨x,rfl⟩:=bodyR_mem l hy
  exact litR_size x
 have h5:=(bodyR_len l).2
 have h6:((⟨#[114]⟩:ByteArray)++⟨#[UInt8.ofNat (97+n)]⟩).size=2:=by rw [ByteArray.size_append]; rfl
 have h7:(if aggR (headR l)=true then aggN (pickN ((headR l).kind.tdiv 5) 3) else ⟨#[]⟩).size≤5:=by
  split
  ·exact h3
  ·decide
 simp only [ruleR,GR.size,GR.enc,bulkA,bulkAs,GT.bulk_encs,h6]; omega
theorem addrV_size:∀ n,n<4→(addrV n).size≤40:=by decide +kernel
theorem factR_size (x:GRaw):(factR x).size≤200:=by
 obtain ⟨_,h2,_⟩:=rel_arity x
 have h1:=relR_size x
 have h0:(ByteArray.mk #[]).size=0:=rfl
 have:=gsizes_le 40 (factR x).args (fun t ht=>by
  obtain ⟨i,_,rfl⟩:=List.mem_map.1 ht
  unfold fargR
  split
  ·exact addrV_size _ (pickN_lt (by omega))
  ·simp [numV,GV.size,GV.sizes,h0])
 have hl:=fargs_len x
 rw [hl] at this
 have e1:(factR x).name=(relR x).name:=rfl
 simp only [GU.size,GU.enc,bulkA,bulkAs,GV.bulk_encs,e1]; omega
theorem GP.size_le (p:GP) (a b c:Nat) (h1:∀ x∈p.decls,x.size≤a) (h2:∀ x∈p.facts,x.size≤b) (h3:∀ x∈p.rules,x.size≤c):p.size≤a * p.decls.length+b * p.facts.length+c * p.rules.length+4:=by
 have k1:=bulkAs_le GD.enc a p.decls h1
 have k2:=bulkAs_le GU.enc b p.facts h2
 have k3:=bulkAs_le GR.enc c p.rules h3
 simp only [GP.size,GP.enc,bulkA,bulkAs]; omega
theorem relsD_size:∀ x∈relsD,x.size≤20:=by decide +kernel
theorem rulesR_size (rules:List (List GRaw)):∀ x∈rulesR rules,x.size≤1000:=fun x hx=>by
 obtain ⟨p,_,rfl⟩:=List.mem_map.1 hx
 exact ruleR_size _ _
theorem facts_size (facts:List GRaw):∀ x∈(facts.take 12).map factR,x.size≤200:=fun x hx=>by
 obtain ⟨p,_,rfl⟩:=List.mem_map.1 hx
 exact factR_size _
set_option maxRecDepth 100000
open Go.Mach
theorem rulesR_B (rules:List (List GRaw)):(rulesR rules).all ruleB=true∧(rulesR rules).length≤6:=by
 constructor
 ·rw [zqQ]; intro v hv
  obtain ⟨x,hx,rfl⟩:=List.mem_map.1 hv
  have:=List.snd_lt_of_mem_zipIdx hx
  refine ruleR_B _ _ ?_
  simp at this; omega
 ·simp [rulesR]; omega
theorem facts_B (facts:List GRaw):((facts.take 12).map factR).all tupB=true∧((facts.take 12).map factR).length≤12:=by
 constructor
 ·rw [zqQ]; intro v hv
  obtain ⟨x,_,rfl⟩:=List.mem_map.1 hv
  exact tupB_R x
 ·simp; omega
theorem check_rules6 (facts:List GRaw) (rs:List GR) (hr:rs.all ruleB=true) (hl:rs.length≤64):checkP ⟨relsD,(facts.take 12).map factR,rs⟩=firstP ⟨relsD,[],[]⟩ rs 0:=by
 rw [check_rawR rfl ?_ (facts_good rfl _)]
 ·exact first_congr (p:=⟨relsD,(facts.take 12).map factR,rs⟩) (q:=⟨relsD,[],[]⟩) rfl rs 0
 ·obtain ⟨h1,h2⟩:=facts_B facts
  have h4:relsD.length=6:=rfl
  simp only [progB,h1,hr,relsD_B,h4,Bool.and_true,decide_eq_true_eq]
  omega
theorem raw_prog (rules:List (List GRaw)) (facts:List GRaw) (hr:RawsOk rules) (hf:FactsOk facts):∃ fs rs,rs.length≤6∧fs.length≤12∧rs=rulesR rules∧fs=(facts.take 12).map factR ∧
  (∀ bs σ,callT T 6 [.isl (encRR rules) false,.isl (facts.map GRaw.enc) false] bs σ=some (.agg [.isl (relsD.map GD.enc) false,.isl (fs.map GU.enc) false,.isl (rs.map GR.enc) false],σ)) ∧
  ∀ rs':List GR,(∀ r∈rs',r∈rs)→rs'.length≤64→checkP ⟨relsD,fs,rs'⟩=firstP ⟨relsD,[],[]⟩ rs' 0∧(GP.mk relsD fs rs').size≤1000000000:=by
 refine ⟨_,_,(rulesR_B rules).2,(facts_B facts).2,rfl,rfl,fun bs σ=>callProg6 rules facts hr.1 hr.2 hf.1 hf.2 bs σ,fun rs' h1 h2=>⟨check_rules6 facts rs' ?_ h2,?_⟩⟩
 ·rw [zqQ]
  exact fun r hr'=>zqQ.1 (rulesR_B rules).1 r (h1 r hr')
 ·have:=GP.size_le ⟨relsD,(facts.take 12).map factR,rs'⟩ 20 200 1000 relsD_size (facts_size facts) fun r hr'=>rulesR_size rules r (h1 r hr')
  have e1:relsD.length=6:=rfl
  have e2:=(facts_B facts).2
  simp only [e1] at this
  omega
set_option maxRecDepth 100000
open Go.Mach
open Go.Mach
structure IsRaw (P:Program) (tR tA tI:TypeId):Prop where
 fs:∃ fs:Array Field,P.underlying tR=some (.struct fs)∧fs.toList.map (·.type)=[tI,tI,tA]
 arr:P.underlying tA=some (.array 4 tI)
 int:P.underlying tI=some (.int .i64)
theorem asRaw {P:Program} {tR tA tI:TypeId} (hT:IsRaw P tR tA tI) {x:AV} (h:TyA P tR x):∃ v:GRaw,x=v.enc∧v.ok:=by
 have e1:IntKind.i64.min=-9223372036854775808:=by decide
 have e2:IntKind.i64.max=9223372036854775807:=by decide
 obtain ⟨fs0,hf0,hts⟩:=hT.fs
 obtain ⟨vs,rfl,hl,hv⟩:=h.asStruct hf0
 have hlen:vs.length=3:=by rw [hl,←List.length_map (f:=(·.type)),hts]; rfl
 match vs,hlen with
 | [x0,x1,x2],_=>
  obtain ⟨y0,rfl,p0,q0⟩:=(field_ty hts hv (i:=0) rfl rfl).asInt hT.int
  obtain ⟨y1,rfl,p1,q1⟩:=(field_ty hts hv (i:=1) rfl rfl).asInt hT.int
  obtain ⟨ws,rfl,hwl,hw⟩:=(field_ty hts hv (i:=2) rfl rfl).asArray hT.arr
  match ws,hwl with
  | [w0,w1,w2,w3],_=>
   obtain ⟨z0,rfl,a0,b0⟩:=(hw w0 (by simp)).asInt hT.int
   obtain ⟨z1,rfl,a1,b1⟩:=(hw w1 (by simp)).asInt hT.int
   obtain ⟨z2,rfl,a2,b2⟩:=(hw w2 (by simp)).asInt hT.int
   obtain ⟨z3,rfl,a3,b3⟩:=(hw w3 (by simp)).asInt hT.int
   rw [e1] at p0 p1 a0 a1 a2 a3; rw [e2] at q0 q1 b0 b1 b2 b3
   exact ⟨⟨y0,y1,z0,z1,z2,z3⟩,by simp [GRaw.enc,flat],⟨p0,q0⟩,⟨p1,q1⟩,⟨a0,b0⟩,⟨a1,b1⟩,⟨a2,b2⟩,⟨a3,b3⟩⟩
theorem argRaws {P:Program} {tL tR tA tI:TypeId} (hT:IsRaw P tR tA tI) (hL:P.underlying tL=some (.slice tR)) {x:AV} (h:TyA P tL x) (hb:bulkA x≤1048576):∃ l:List GRaw,x=.isl (l.map GRaw.enc) false∧FactsOk l:=by
 obtain ⟨es,rfl,hes⟩:=h.asSlice hL
 obtain ⟨l,rfl,hl⟩:=list_enc GRaw.enc GRaw.ok es fun z hz=>asRaw hT (hes z hz)
 have:=bulk_len (l.map GRaw.enc)
 simp only [bulkA,List.length_map] at hb this
 exact ⟨l,rfl,hl,by omega⟩
theorem argRR {P:Program} {tLL tL tR tA tI:TypeId} (hT:IsRaw P tR tA tI) (hL:P.underlying tL=some (.slice tR)) (hLL:P.underlying tLL=some (.slice tL)) {x:AV} (h:TyA P tLL x) (hb:bulkA x≤1048576):∃ l:List (List GRaw),x=.isl (encRR l) false∧RawsOk l:=by
 obtain ⟨es,rfl,hes⟩:=h.asSlice hLL
 simp only [bulkA] at hb
 obtain ⟨l,rfl,hl⟩:=list_enc (fun l:List GRaw=>AV.isl (l.map GRaw.enc) false) FactsOk es fun z hz=>by
  have:=bulk_mem hz
  exact argRaws hT hL (hes z hz) (by omega)
 have:=bulk_len (l.map fun l:List GRaw=>AV.isl (l.map GRaw.enc) false)
 simp only [List.length_map] at this
 exact ⟨l,rfl,fun y hy=>hl y hy,by omega⟩
theorem tyRaw:IsRaw Tryz.prog 62 60 3:=⟨fieldTys_some (by kernel_rfl),by kernel_rfl,by kernel_rfl⟩
theorem argF6 {x:AV} (h:TyA Tryz.prog 28 x) (hb:bulkA x≤1048576):∃ l:List GRaw,x=.isl (l.map GRaw.enc) false∧FactsOk l:=argRaws tyRaw (by kernel_rfl) h hb
theorem argR6 {x:AV} (h:TyA Tryz.prog 27 x) (hb:bulkA x≤1048576):∃ l:List (List GRaw),x=.isl (encRR l) false∧RawsOk l:=argRR (tL:=28) tyRaw (by kernel_rfl) (by kernel_rfl) h hb
open Go.Mach
structure GPl where
 from':ByteArray
 to:ByteArray
 head:ByteArray
abbrev nilB:ByteArray:=⟨#[]⟩
def nilPl:GPl:=⟨nilB,nilB,nilB⟩
def GPl.enc (p:GPl):AV:=.agg [.str p.from',.str p.to,.str p.head]
abbrev sLink:ByteArray:=⟨#[108,105,110,107]⟩
structure RS where
 all:List ByteArray
 links:List ((ByteArray × ByteArray) × Int)
 atoms:Nat
def lookW (m:List ((ByteArray × ByteArray) × Int)) (a b:ByteArray):Option Int:=(m.find? fun p=>decide (p.1.1=a∧p.1.2=b)).map (·.2)
def linkL (l:GL):Bool:=decide (l.name=sLink) && decide ((l.args[1]?).map GT.kind=some 1)
def arg1 (l:GL):ByteArray:=((l.args[1]?).map GT.name).getD nilB
def setW (m:List ((ByteArray × ByteArray) × Int)) (a b:ByteArray) (i:Int):List ((ByteArray × ByteArray) × Int):=if (lookW m a b).isSome=true then m else m++[((a,b),i)]
def stepR (s:RS) (l:GL) (a:GT) (i:Nat):RS:=
 if l.kind=2 then ⟨addB s.all a.name,s.links,s.atoms⟩
 else ⟨addB s.all a.name,if linkL l=true then setW s.links a.name (arg1 l) i else s.links,s.atoms+1⟩
def readGo:List GL→Nat→RS→Option RS
 | [],_,s=>some s
 | l :: ls,i,s=>if l.kind=1∨l.kind=2 then (match l.args with
   | []=>none
   | a :: _=>if a.kind=1 then readGo ls (i+1) (stepR s l a i) else none) else readGo ls (i+1) s
def readP (body:List GL):Option RS:=match readGo body 0 ⟨[],[],0⟩ with
 | some s=>if 0<s.atoms then some s else none
 | none=>none
def oneP (s:RS) (a head:ByteArray):Option GPl:=if head=a∨(lookW s.links a head).isSome=true then some ⟨a,nilB,head⟩ else none
def twoP (s:RS) (a b head:ByteArray):Option GPl:=match lookW s.links a b,lookW s.links b a with
 | none,none=>none
 | some _,none=>if head=a∨head=b then some ⟨a,b,head⟩ else none
 | none,some _=>if head=a∨head=b then some ⟨b,a,head⟩ else none
 | some i,some k=>if head=a∨head=b then some (if k<i then ⟨b,a,head⟩ else ⟨a,b,head⟩) else none
def placeQ (s:RS) (head:ByteArray):Option GPl:=match s.all with
 | [a]=>oneP s a head
 | [a,b]=>twoP s a b head
 | _=>none
def headK (r:GR):Int:=((r.args[0]?).map GT.kind).getD 0
def headN (r:GR):ByteArray:=((r.args[0]?).map GT.name).getD nilB
def aggOk (r:GR) (p:GPl):Bool:=decide (r.agg=nilB) || (decide (p.to=nilB) && decide (p.head=p.from'))
def placeP (r:GR):Option GPl:=
 if ruleB r=true∧r.head≠sLink∧headK r=1 then (match readP r.body with
  | none=>none
  | some s=>match placeQ s (headN r) with
   | none=>none
   | some p=>if aggOk r p=true then some p else none) else none
theorem mem_addB7 (b:List ByteArray) (n m:ByteArray):m∈addB b n↔m∈b∨m=n:=by
 unfold addB
 split
 ·rename_i h
  have:=(memB_iff n b).1 h
  constructor
  ·exact .inl
  ·rintro (h | rfl)
   ·exact h
   ·exact this
 ·simp
theorem nodup_addB7 {b:List ByteArray} (h:b.Nodup) (n:ByteArray):(addB b n).Nodup:=by
 unfold addB
 split
 ·exact h
 ·rename_i hn
  rw [List.nodup_append]
  refine ⟨h,by simp,fun x hx y hy e=>?_⟩
  simp at hy; subst hy e
  exact hn ((memB_iff x b).2 hx)
theorem lookW_set (m:List ((ByteArray × ByteArray) × Int)) (a b c d:ByteArray) (i:Int):lookW (setW m a b i) c d=if (lookW m c d).isSome=true then lookW m c d else if a=c∧b=d then some i else none:=by
 unfold setW
 split
 ·rename_i h
  split
  ·rfl
  ·rename_i h2
   split
   ·rename_i e; obtain ⟨rfl,rfl⟩:=e; exact absurd h h2
   ·cases h3:lookW m c d with
    | none=>rfl
    | some _=>rw [h3] at h2; simp at h2
 ·rename_i h
  unfold lookW
  rw [List.find?_append]
  cases h3:m.find? fun p=>decide (p.1.1=c∧p.1.2=d) with
  | some q=>simp
  | none=>
   simp only [Option.none_or,Option.map_none,Option.isSome_none,Bool.false_eq_true,if_false,List.find?_cons,List.find?_nil]
   by_cases e:a=c∧b=d
   ·simp [e]
   ·simp [e]
theorem lookW_some {m:List ((ByteArray × ByteArray) × Int)} {a b c d:ByteArray} {i:Int}:(lookW (setW m a b i) c d).isSome=true↔(lookW m c d).isSome=true∨(a=c∧b=d):=by
 rw [lookW_set]
 split
 ·rename_i h; simp [h]
 ·rename_i h
  split
  ·rename_i e; simp [e]
  ·rename_i e; simp [h,e]
def linkOf (l:GL) (a b:ByteArray):Prop:=l.kind=1∧linkL l=true∧(∃ t,l.args[0]?=some t∧t.name=a)∧arg1 l=b
theorem read_spec:∀ (ls:List GL) (i:Nat) (s t:RS),readGo ls i s=some t →
  (∀ m,m∈t.all↔m∈s.all∨∃ l∈ls,(l.kind=1∨l.kind=2)∧∃ x,l.args[0]?=some x∧x.name=m) ∧
  (∀ l∈ls,l.kind=1∨l.kind=2→∃ x,l.args[0]?=some x∧x.kind=1) ∧
  (∀ a b,(lookW t.links a b).isSome=true↔(lookW s.links a b).isSome=true∨∃ l∈ls,linkOf l a b)∧(s.all.Nodup→t.all.Nodup)
 | [],i,s,t,h=>by
  injection h with h; subst h
  simp
 | l :: ls,i,s,t,h=>by
  simp only [readGo] at h
  by_cases hk:l.kind=1∨l.kind=2
  ·rw [if_pos hk] at h
   cases ha:l.args with
   | nil=>rw [ha] at h; cases h
   | cons a as'=>
    rw [ha] at h
    simp only at h
    by_cases hv:a.kind=1
    ·rw [if_pos hv] at h
     obtain ⟨h1,h2,h3,h4⟩:=read_spec ls (i+1) _ t h
     have hall:(stepR s l a i).all=addB s.all a.name:=by unfold stepR; split <;> rfl
     have hl0:l.args[0]?=some a:=by rw [ha]; rfl
     refine ⟨fun m=>?_,fun x hx=>?_,fun c d=>?_,fun hn=>h4 ?_⟩
     ·rw [h1,hall,mem_addB7]
      constructor
      ·rintro ((h | rfl) | ⟨x,hx,h⟩)
       ·exact .inl h
       ·exact .inr ⟨l,by simp,hk,a,hl0,rfl⟩
       ·exact .inr ⟨x,by simp [hx],h⟩
      ·rintro (h | ⟨x,hx,hxk,y,hy,rfl⟩)
       ·exact .inl (.inl h)
       ·rcases List.mem_cons.1 hx with rfl | hx
        ·rw [hl0] at hy; injection hy with hy; subst hy; exact .inl (.inr rfl)
        ·exact .inr ⟨x,hx,hxk,y,hy,rfl⟩
     ·rcases List.mem_cons.1 hx with rfl | hx
      ·exact fun _=>⟨a,hl0,hv⟩
      ·exact h2 x hx
     ·rw [h3]
      have hs:(lookW (stepR s l a i).links c d).isSome=true↔(lookW s.links c d).isSome=true∨linkOf l c d:=by
       unfold stepR
       by_cases hk2:l.kind=2
       ·rw [if_pos hk2]
        constructor
        ·exact .inl
        ·rintro (h | ⟨h,_⟩)
         ·exact h
         ·omega
       ·rw [if_neg hk2]
        have hk1:l.kind=1:=by rcases hk with h | h; exact h; exact absurd h hk2
        simp only
        by_cases hll:linkL l=true
        ·rw [if_pos hll,lookW_some]
         constructor
         ·rintro (h | ⟨rfl,rfl⟩)
          ·exact .inl h
          ·exact .inr ⟨hk1,hll,⟨a,hl0,rfl⟩,rfl⟩
         ·rintro (h | ⟨_,_,⟨y,hy,rfl⟩,rfl⟩)
          ·exact .inl h
          ·rw [hl0] at hy; injection hy with hy; subst hy; exact .inr ⟨rfl,rfl⟩
        ·rw [if_neg hll]
         constructor
         ·exact .inl
         ·rintro (h | ⟨_,h,_⟩)
          ·exact h
          ·exact absurd h hll
      rw [hs]
      constructor
      ·rintro ((h | h) | ⟨x,hx,h⟩)
       ·exact .inl h
       ·exact .inr ⟨l,by simp,h⟩
       ·exact .inr ⟨x,by simp [hx],h⟩
      ·rintro (hq | ⟨x,hx,hq⟩)
       ·exact .inl (.inl hq)
       ·rcases List.mem_cons.1 hx with rfl | hx
        ·exact .inl (.inr hq)
        ·exact .inr ⟨x,hx,hq⟩
     ·rw [hall]; exact nodup_addB7 hn a.name
    ·rw [if_neg hv] at h; cases h
  ·rw [if_neg hk] at h
   obtain ⟨h1,h2,h3,h4⟩:=read_spec ls (i+1) s t h
   refine ⟨fun m=>?_,fun x hx=>?_,fun c d=>?_,h4⟩
   ·rw [h1]
    constructor
    ·rintro (h | ⟨x,hx,h⟩)
     ·exact .inl h
     ·exact .inr ⟨x,by simp [hx],h⟩
    ·rintro (h | ⟨x,hx,hxk,h⟩)
     ·exact .inl h
     ·rcases List.mem_cons.1 hx with rfl | hx
      ·exact absurd hxk hk
      ·exact .inr ⟨x,hx,hxk,h⟩
   ·rcases List.mem_cons.1 hx with rfl | hx
    ·exact fun h=>absurd h hk
    ·exact h2 x hx
   ·rw [h3]
    constructor
    ·rintro (h | ⟨x,hx,h⟩)
     ·exact .inl h
     ·exact .inr ⟨x,by simp [hx],h⟩
    ·rintro (hq | ⟨x,hx,hq⟩)
     ·exact .inl hq
     ·rcases List.mem_cons.1 hx with rfl | hx
      ·exact absurd (.inl hq.1) hk
      ·exact .inr ⟨x,hx,hq⟩
open Go.Mach
def link1 (a b:ByteArray) (l:GL):Bool:=decide (l.kind=1) && decide (l.name=sLink) && decide (1<l.args.length) && decide ((l.args[0]?).map GT.name=some a) && decide ((l.args[1]?).map GT.kind=some 1) && decide ((l.args[1]?).map GT.name=some b)
def linkedB (body:List GL) (a b:ByteArray):Bool:=body.any (link1 a b)
theorem link1_iff (a b:ByteArray) (l:GL):link1 a b l=true↔linkOf l a b:=by
 unfold link1 linkOf linkL arg1
 simp only [zqL,decide_eq_true_eq]
 constructor
 ·rintro ⟨⟨⟨⟨⟨h1,h2⟩,h3⟩,h4⟩,h5⟩,h6⟩
  refine ⟨h1,⟨h2,h5⟩,?_,by rw [h6]; rfl⟩
  obtain ⟨t,ht,e⟩:=zqG.1 h4
  exact ⟨t,ht,e⟩
 ·rintro ⟨h1,⟨h2,h5⟩,⟨t,ht,e⟩,h6⟩
  obtain ⟨y,hy,_⟩:=zqG.1 h5
  have h3:=(zqI.1 hy).1
  refine ⟨⟨⟨⟨⟨h1,h2⟩,h3⟩,by rw [ht,←e]; rfl⟩,h5⟩,?_⟩
  rw [hy] at h6 ⊢
  simp at h6 ⊢
  exact h6
theorem linked_iff (body:List GL) (a b:ByteArray):linkedB body a b=true↔∃ l∈body,linkOf l a b:=by
 unfold linkedB
 rw [List.any_eq_true]
 constructor
 ·rintro ⟨l,h1,h2⟩; exact ⟨l,h1,(link1_iff a b l).1 h2⟩
 ·rintro ⟨l,h1,h2⟩; exact ⟨l,h1,(link1_iff a b l).2 h2⟩
theorem var_ne {t:GT} (h:termR 8 t=true) (hk:t.kind=1):t.name≠nilB:=by
 intro e
 have:termR 8 t=termB t (t.args.all (termR 7)):=rfl
 rw [this] at h
 unfold termB at h
 rw [if_pos hk,e] at h
 simp only [zqL] at h
 exact absurd h.2 (by decide)
theorem lit_names {l:GL} (h:litB l=true) (hk:l.kind=1∨l.kind=2):(∃ t,l.args[0]?=some t)∧∀ t∈l.args,t.kind=1→t.name≠nilB:=by
 unfold litB at h
 rw [if_pos hk] at h
 simp only [zqL,argsB] at h
 obtain ⟨_,⟨h1,h2⟩,h3⟩:=h
 refine ⟨?_,fun t ht htk=>var_ne (zqQ.1 h2 t ht) htk⟩
 cases ha:l.args with
 | nil=>rw [ha] at h3; cases h3
 | cons a as'=>exact ⟨a,rfl⟩
theorem readP_spec {body:List GL} {s:RS} (h:readP body=some s):(∀ m,m∈s.all↔∃ l∈body,(l.kind=1∨l.kind=2)∧∃ x,l.args[0]?=some x∧x.name=m) ∧
  (∀ l∈body,l.kind=1∨l.kind=2→∃ x,l.args[0]?=some x∧x.kind=1)∧(∀ a b,(lookW s.links a b).isSome=true↔linkedB body a b=true)∧s.all.Nodup:=by
 unfold readP at h
 cases hg:readGo body 0 ⟨[],[],0⟩ with
 | none=>rw [hg] at h; cases h
 | some t=>
  rw [hg] at h
  simp only at h
  split at h
  ·injection h with h; subst h
   obtain ⟨h1,h2,h3,h4⟩:=read_spec body 0 _ _ hg
   refine ⟨fun m=>?_,h2,fun a b=>?_,h4 List.nodup_nil⟩
   ·rw [h1]; simp
   ·rw [h3,linked_iff]
    constructor
    ·rintro (h | h)
     ·cases h
     ·exact h
    ·exact .inr
  ·cases h
def atB (p:GPl) (l:GL):Bool:=decide (0<l.args.length) && decide ((l.args[0]?).map GT.kind=some 1) && (decide ((l.args[0]?).map GT.name=some p.from') || (decide (p.to≠nilB) && decide ((l.args[0]?).map GT.name=some p.to)))
structure PlaceOk (r:GR) (p:GPl):Prop where
 at':∀ l∈r.body,l.kind=1∨l.kind=2→atB p l=true
 ne:p.from'≠p.to
 head:headN r=p.head
 two:p.to≠nilB→linkedB r.body p.from' p.to=true∧(p.head=p.from'∨p.head=p.to)
 one:p.to=nilB→p.head≠p.from'→linkedB r.body p.from' p.head=true
 agg:r.agg≠nilB→p.to=nilB∧p.head=p.from'
open Go.Mach
theorem names_ne {r:GR} (hb:ruleB r=true) {s:RS} (hr:readP r.body=some s):∀ m∈s.all,m≠nilB:=fun m hm=>by
 obtain ⟨h1,h2,_,_⟩:=readP_spec hr
 unfold ruleB at hb
 simp only [zqL] at hb
 obtain ⟨l,hl,hk,x,hx,rfl⟩:=(h1 m).1 hm
 obtain ⟨y,hy,hyk⟩:=h2 l hl hk
 rw [hx] at hy; injection hy with hy; subst hy
 exact (lit_names (zqQ.1 hb.1.2 l hl) hk).2 x (zqR hx) hyk
open Go.Mach
abbrev kW (a b:ByteArray):AV:=.agg [.str a,.str b]
def encW (m:List ((ByteArray × ByteArray) × Int)):List (AV × AV):=m.map fun p=>(kW p.1.1 p.1.2,.int .i64 p.2)
def idxW (a b:ByteArray):List ((ByteArray × ByteArray) × Int)→Nat
 | []=>0
 | p :: m=>if a=p.1.1∧b=p.1.2 then 0 else idxW a b m+1
theorem mfind_w (a b:ByteArray):∀ (m:List ((ByteArray × ByteArray) × Int)) (i:Nat),mfind true [2,2] [.str a,.str b] i (encW m)=some ((lookW m a b).map fun v=>(i+idxW a b m,.int .i64 v))
 | [],i=>rfl
 | p :: m,i=>by
  have ih:=mfind_w a b m (i+1)
  simp only [encW,List.map_cons,mfind,keyC,if_true,Option.bind_some,eqcs_str,eqcs_nil,Option.map_some,Bool.and_true] at ih ⊢
  by_cases h:a=p.1.1∧b=p.1.2
  ·obtain ⟨h1,h2⟩:=h
   simp [lookW,List.find?_cons,idxW,h1,h2]
  ·have hl:lookW (p :: m) a b=lookW m a b:=by
    unfold lookW
    rw [List.find?_cons]
    have:decide (p.1.1=a∧p.1.2=b)=false:=decide_eq_false fun e=>h ⟨e.1.symm,e.2.symm⟩
    rw [this]
   have hd:(decide (a=p.1.1) && decide (b=p.1.2))=false:=by
    rw [←Bool.not_eq_true,zqL,decide_eq_true_eq,decide_eq_true_eq]; exact h
   rw [hd,hl]
   simp only [ih,idxW,if_neg h]
   congr 2
   funext v
   congr 1
   omega
theorem mlook_w {σ:Heap} {id:Nat} {m:List ((ByteArray × ByteArray) × Int)} (h:σ[id]?=some (.mp (encW m))) (a b:ByteArray):mlookA σ true [2,2] (.int .i64 0) true (.map id) (kW a b)=some (.tup [.int .i64 ((lookW m a b).getD 0),.bool (lookW m a b).isSome]):=by
 simp only [mlookA,keyC,if_true,Option.bind_some,eqcs_str,eqcs_nil,Option.map_some,Option.isSome_some,mapOf,h,mfind_w]
 cases lookW m a b <;> simp [lookV]
theorem mset_w {σ:Heap} {id:Nat} {m:List ((ByteArray × ByteArray) × Int)} (h:σ[id]?=some (.mp (encW m))) (a b:ByteArray) (i:Int) (hn:lookW m a b=none):msetA σ true [2,2] (.map id) (kW a b) (.int .i64 i)=some (σ.set id (.mp (encW (setW m a b i)))):=by
 have hcl:closeA σ (.int .i64 i)=some (.int .i64 i,σ):=by simp
 have hk:(kW a b).clo=true:=rfl
 simp only [msetA,keyC,if_true,Option.bind_some,eqcs_str,eqcs_nil,Option.map_some,Option.isSome_some,true_and,hk,hcl,h,mfind_w,hn,Option.map_none]
 have hs:setW m a b i=m++[((a,b),i)]:=by unfold setW; rw [hn]; rfl
 rw [hs]
 simp [encW,AV.clo,AV.clo1]
set_option maxRecDepth 100000
open Go.Mach
abbrev plA (j:Nat) (l:List ByteArray) (k:Nat) (n:Int):AV:=.agg [.own j (l.map .str),.map k,.int .i64 n]
theorem has7 {σ:Heap} {k:Nat} {m:List ((ByteArray × ByteArray) × Int)} (hk:σ[k]?=some (.mp (encW m))) (j:Nat) (l:List ByteArray) (n:Int) (a b:ByteArray) (bs:Nat) :
  callT T 74 [plA j l k n,.str a,.str b] bs σ=some (.bool (lookW m a b).isSome,σ):=by
 have hkl:k<σ.length:=(zqI.1 hk).1
 have hk2:∀ o,(σ++[o])[k]?=some (.mp (encW m)):=fun o=>by rw [zqA hkl]; exact hk
 refine heap_enter (args':=[plA j l k n,.str a,.str b]) (σ1:=σ) (af:=c74) rfl rfl (by simp [c74]) (by simp [c74]) rfl ?_
 simp [c74,baseA,setRun,mlook_w (hk2 _),res1,dropA_gc,refLt,refLt2_bool]
theorem one7 {σ:Heap} {k:Nat} {m:List ((ByteArray × ByteArray) × Int)} (hk:σ[k]?=some (.mp (encW m))) (j:Nat) (a head:ByteArray) (n:Int) (bs:Nat) :
  callT T 46 [plA j [a] k n,.str head] bs σ=some (.tup [.agg [.str a,.str nilB,.str head],.bool (decide (head=a) || (lookW m a head).isSome)],σ):=by
 have hkl:k<σ.length:=(zqI.1 hk).1
 have hk2:∀ o o',(σ++[o,o'])[k]?=some (.mp (encW m)):=fun o o'=>by rw [zqA hkl]; exact hk
 have hh:=fun o o'=>has7 (hk2 o o') j [a] n a head
 simp only [plA,List.map_cons,List.map_nil] at hh
 refine heap_enter (args':=[plA j [a] k n,.str head]) (σ1:=σ) (af:=c46) rfl rfl (by simp [c46]) (by simp [c46]) rfl ?_
 by_cases he:head=a
 ·simp [c46,baseA,setRun,he,res1,dropA_gc,refLt]
  exact ⟨rfl,refLt2_bool _ _⟩
 ·simp [c46,baseA,setRun,he,hh,res1,dropA_gc,refLt]
  exact ⟨rfl,refLt2_bool _ _⟩
theorem con7 (l:List ByteArray) (s:ByteArray) (hl:l.length≤100000000000) (j:Nat) (bs:Nat) (σ:Heap):callT T 73 [.own j (l.map .str),.str s] bs σ=some (.bool (memB s l),σ):=by
 have h:=conS_ok l s hl
 have:=call_pure (T:=T) (f:=73) (bs:=bs) (σ:=σ) (σ':=σ) (args:=[.own j (l.map .str),.str s]) rfl rfl rfl (by simp [closeT,closeA,close1,close0]) (by simp) h
 exact this
theorem two7 {σ:Heap} {k:Nat} {m:List ((ByteArray × ByteArray) × Int)} (hk:σ[k]?=some (.mp (encW m))) (j:Nat) (a b head:ByteArray) (n:Int) (bs:Nat) :
  callT T 47 [plA j [a,b] k n,.str head] bs σ=some (match lookW m a b,lookW m b a with
   | none,none=>.tup [.agg [.str nilB,.str nilB,.str nilB],.bool false]
   | some _,none=>.tup [.agg [.str a,.str b,.str head],.bool (memB head [a,b])]
   | none,some _=>.tup [.agg [.str b,.str a,.str head],.bool (memB head [a,b])]
   | some i,some q=>if q<i then .tup [.agg [.str b,.str a,.str head],.bool (memB head [a,b])] else .tup [.agg [.str a,.str b,.str head],.bool (memB head [a,b])],σ):=by
 have hkl:k<σ.length:=(zqI.1 hk).1
 have hk2:∀ l,(σ++l)[k]?=some (.mp (encW m)):=fun l=>by rw [zqA hkl]; exact hk
 have hc:=con7 [a,b] head (by simp) j
 simp only [List.map_cons,List.map_nil] at hc
 refine heap_enter (args':=[plA j [a,b] k n,.str head]) (σ1:=σ) (af:=c47) rfl rfl (by simp [c47]) (by simp [c47]) rfl ?_
 cases e1:lookW m a b with
 | none=>
  cases e2:lookW m b a with
  | none=>
   simp [c47,baseA,setRun,mlook_w (hk2 _),e1,e2,res1,dropA_gc,refLt]
   exact ⟨rfl,refLt2_bool _ _⟩
  | some q=>
   simp [c47,baseA,setRun,mlook_w (hk2 _),e1,e2,hc,res1,dropA_gc,refLt]
   exact ⟨rfl,refLt2_bool _ _⟩
 | some i=>
  cases e2:lookW m b a with
  | none=>
   simp [c47,baseA,setRun,mlook_w (hk2 _),e1,e2,hc,res1,dropA_gc,refLt]
   exact ⟨rfl,refLt2_bool _ _⟩
  | some q=>
   by_cases hq:q<i
   ·simp [c47,baseA,setRun,mlook_w (hk2 _),e1,e2,hc,hq,res1,dropA_gc,refLt]
    exact ⟨rfl,refLt2_bool _ _⟩
   ·simp [c47,baseA,setRun,mlook_w (hk2 _),e1,e2,hc,hq,res1,dropA_gc,refLt]
    exact ⟨rfl,refLt2_bool _ _⟩
theorem conLO {N:Nat} {σ:Heap} {l:List ByteArray} {x:AV} (h:LO N 1 false σ (l.map .str) x) (s:ByteArray) (hl:l.length≤100000000000) (bs:Nat) (τ:Heap):callT T 73 [x,.str s] bs τ=some (.bool (memB s l),τ):=by
 have h1:=h.closeA τ
 have:=call_pure (T:=T) (f:=73) (bs:=bs) (σ:=τ) (σ':=τ) (args:=[x,.str s]) (args':=[.isl (l.map .str) false,.str s]) rfl rfl rfl (by simp [closeT,h1,close1,close0]) (by simp) (conS_ok l s hl)
 exact this
def ReadQ (σ:Heap) (o:Option RS) (r:AV × Heap):Prop:=
 σ.length+2≤r.2.length∧(∀ m,m<σ.length→r.2[m]?=σ[m]?)∧(match o with
  | none=>∃ x n,r.1=.tup [.agg [x,.map (σ.length+1),.int .i64 n],.bool false]∧x.cells=[x]∧x.solid=true
  | some s=>∃ x,r.1=.tup [.agg [x,.map (σ.length+1),.int .i64 (s.atoms:Int)],.bool (decide (0<s.atoms))]∧LO (σ.length+2) 1 false r.2 (s.all.map .str) x∧r.2[σ.length+1]?=some (.mp (encW s.links)))
structure ReadI (σ:Heap) (body:List GL) (i:Nat) (f:FR) (τ:Heap):Prop where
 h2:f 2=.ptr σ.length 0
 h12:f 12=.isl (body.map GL.enc) false
 h13:f 13=.int .i64 (body.length:Int)
 h14:f 14=.int .i64 (i:Int)
 len:σ.length+2≤τ.length
 frame:∀ m,m<σ.length→τ[m]?=σ[m]?
 st:∃ s x,readGo body 0 ⟨[],[],0⟩=readGo (body.drop i) i s∧s.atoms≤i∧s.all.length≤i∧τ[σ.length]?=some (.cells [x,.map (σ.length+1),.int .i64 (s.atoms:Int)] 0 false)∧τ[σ.length+1]?=some (.mp (encW s.links))∧LO (σ.length+2) 1 false τ (s.all.map .str) x
theorem step2 {s:RS} {l:GL} {a:GT} {i:Nat} (h:l.kind=2):stepR s l a i=⟨addB s.all a.name,s.links,s.atoms⟩:=by unfold stepR; rw [if_pos h]
theorem step1n {s:RS} {l:GL} {a:GT} {i:Nat} (h:l.kind=1) (hl:linkL l=false):stepR s l a i=⟨addB s.all a.name,s.links,s.atoms+1⟩:=by unfold stepR; rw [if_neg (by omega),hl]; rfl
theorem step1l {s:RS} {l:GL} {a:GT} {i:Nat} (h:l.kind=1) (hl:linkL l=true):stepR s l a i=⟨addB s.all a.name,setW s.links a.name (arg1 l) i,s.atoms+1⟩:=by unfold stepR; rw [if_neg (by omega),hl]; rfl
set_option maxHeartbeats 4000000 in
theorem read7 (body:List GL) (ha:∀ l∈body,l.kind=1∨l.kind=2→l.args≠[]) (hb:body.length≤100000000) (bs:Nat) (σ:Heap) (hbs:bs≤σ.length) :
  ∃ r,callT T 45 [.isl (body.map GL.enc) false] bs σ=some r∧ReadQ σ (readGo body 0 ⟨[],[],0⟩) r:=by
 refine heap_enterE (args':=[.isl (body.map GL.enc) false]) (σ1:=σ) (af:=c45) rfl rfl (by simp [c45]) (by simp [c45]) (by simp [closeArgs,c45]) ?_
 have hbs1:bs≤σ.length+1:=by omega
 simp [c45,baseA,hbs,hbs1]
 refine W_for T bs 98 body.length (ReadI σ body) ?_ _ _ ?_
 ·rintro i f τ hi ⟨h2,h12,h13,h14,hN,hall,s,x,hgo,hat,hal,cp,cm,hO⟩
  rw [hgo]
  have i0:σ.length<τ.length:=by omega
  have i1:σ.length+1<τ.length:=by omega
  have ix:x.cells=[x]:=hO.cells
  have iy:x.solid=true:=hO.solid
  have mlW:∀ (τ':Heap) (h:τ'[σ.length+1]?=some (.mp (encW s.links))) (a b:ByteArray),mlookA τ' true [2,2] (.int .i64 0) true (.map (σ.length+1)) (kW a b)=some (.tup [.int .i64 ((lookW s.links a b).getD 0),.bool (lookW s.links a b).isSome]):=fun τ' h a b=>mlook_w h a b
  have msW:∀ (τ':Heap) (h:τ'[σ.length+1]?=some (.mp (encW s.links))) (a b:ByteArray) (hn:lookW s.links a b=none),msetA τ' true [2,2] (.map (σ.length+1)) (kW a b) (.int .i64 i)=some (τ'.set (σ.length+1) (.mp (encW (setW s.links a b i)))):=fun τ' h a b hn=>mset_w h a b i hn
  by_cases hlt:i<body.length
  ·have hw:IntKind.i64.wrap ((i:Int)+1)=(i:Int)+1:=wr64 (by omega) (by omega)
   have e1:body[i]?=some body[i]:=zqF hlt
   rw [zqM hlt] at hgo ⊢
   simp only [readGo] at hgo ⊢
   have hbody:=zqT hlt
   have ha':=ha _ hbody
   generalize hl:body[i]=l at *
   by_cases hk:l.kind=1∨l.kind=2
   ·simp only [if_pos hk] at hgo ⊢
    cases hargs:l.args with
    | nil=>exact absurd hargs (ha' hk)
    | cons a rest=>
     simp only [hargs] at hgo ⊢
     have hal1:(addB s.all a.name).length≤i+1:=by
      unfold addB
      split
      ·omega
      ·simp; omega
     have hcon:=fun bs τ'=>conLO hO a.name (by omega) bs τ'
     have e0:GT.encs (a :: rest)=a.enc :: GT.encs rest:=rfl
     by_cases hav:a.kind=1
     ·simp only [if_pos hav] at hgo ⊢
      have hwa:IntKind.i64.wrap ((s.atoms:Int)+1)=(s.atoms:Int)+1:=wr64 (by omega) (by omega)
      rcases hk with hk | hk
      ·by_cases hm:memB a.name s.all=true
       ·have hadd:addB s.all a.name=s.all:=by unfold addB; rw [if_pos hm]
        rw [hadd] at hal1
        by_cases hln:l.name=sLink
        ·cases hrest:rest with
         | nil=>
          have hll:linkL l=false:=by unfold linkL; rw [hargs,hrest]; simp
          rw [step1n hk hll,hadd] at hgo ⊢
          simp [h2,h12,h13,h14,hlt,hw,setRun,e1,hk,hav,e0,hcon,cp,cm,i0,i1,hbs,hbs1,hargs,hwa,ix,iy,hm,hln,hrest,-appendA_s,-getElem?_pos,zqA,zqB,zqC,list_set_at,zqE,zqD]
          refine ⟨by simp [h2],by simp [h12],by simp [h13],by simp,by simp; omega,fun m hm=>?_,_,x,hgo,by simp only; omega,hal1,?_,?_,?_⟩
          ·simp [-getElem?_pos,zqA,zqB,zqC,list_set_at,zqE,zqD,(show m<τ.length by omega),(show σ.length≠m by omega),(show σ.length+1≠m by omega)]
           exact hall m hm
          ·simp [-getElem?_pos,zqA,zqB,zqC,list_set_at,zqE,zqD,i0,i1,cp,cm]
          ·simp [-getElem?_pos,zqA,zqB,zqC,list_set_at,zqE,zqD,i0,i1,cp,cm]
          ·refine hO.keep fun m o hm ho=>?_
           have hml:=(zqI.1 ho).1
           simp [-getElem?_pos,zqA,zqB,zqC,list_set_at,zqE,zqD,hml,(show σ.length≠m by omega),(show σ.length+1≠m by omega)]
           exact ho
         | cons b rest'=>
          have e3:GT.encs (b :: rest')=b.enc :: GT.encs rest':=rfl
          have hl2:(1:Int)<(rest'.length:Int)+1+1:=by omega
          by_cases hbk:b.kind=1
          ·have hll:linkL l=true:=by unfold linkL; rw [hargs,hrest,hln]; simp [hbk]
           have har:arg1 l=b.name:=by unfold arg1; rw [hargs,hrest]; rfl
           rw [step1l hk hll,har,hadd] at hgo ⊢
           cases hlook:lookW s.links a.name b.name with
           | some v=>
            have hset:setW s.links a.name b.name i=s.links:=by unfold setW; rw [hlook]; rfl
            rw [hset] at hgo ⊢
            simp [h2,h12,h13,h14,hlt,hw,setRun,e1,hk,hav,e0,hcon,cp,cm,i0,i1,hbs,hbs1,hargs,hwa,ix,iy,hm,hln,hrest,hbk,e3,hl2,hlook,mlW,-appendA_s,-getElem?_pos,zqA,zqB,zqC,list_set_at,zqE,zqD]
            refine ⟨by simp [h2],by simp [h12],by simp [h13],by simp,by simp; omega,fun m hm=>?_,_,x,hgo,by simp only; omega,hal1,?_,?_,?_⟩
            ·simp [-getElem?_pos,zqA,zqB,zqC,list_set_at,zqE,zqD,(show m<τ.length by omega),(show σ.length≠m by omega),(show σ.length+1≠m by omega)]
             exact hall m hm
            ·simp [-getElem?_pos,zqA,zqB,zqC,list_set_at,zqE,zqD,i0,i1,cp,cm]
            ·simp [-getElem?_pos,zqA,zqB,zqC,list_set_at,zqE,zqD,i0,i1,cp,cm]
            ·refine hO.keep fun m o hm ho=>?_
             have hml:=(zqI.1 ho).1
             simp [-getElem?_pos,zqA,zqB,zqC,list_set_at,zqE,zqD,hml,(show σ.length≠m by omega),(show σ.length+1≠m by omega)]
             exact ho
           | none=>
            simp [h2,h12,h13,h14,hlt,hw,setRun,e1,hk,hav,e0,hcon,cp,cm,i0,i1,hbs,hbs1,hargs,hwa,ix,iy,hm,hln,hrest,hbk,e3,hl2,hlook,mlW,msW,-appendA_s,-getElem?_pos,zqA,zqB,zqC,list_set_at,zqE,zqD]
            refine ⟨by simp [h2],by simp [h12],by simp [h13],by simp,by simp; omega,fun m hm=>?_,_,x,hgo,by simp only; omega,hal1,?_,?_,?_⟩
            ·simp [-getElem?_pos,zqA,zqB,zqC,list_set_at,zqE,zqD,(show m<τ.length by omega),(show σ.length≠m by omega),(show σ.length+1≠m by omega)]
             exact hall m hm
            ·simp [-getElem?_pos,zqA,zqB,zqC,list_set_at,zqE,zqD,i0,i1,cp,cm]
            ·simp [-getElem?_pos,zqA,zqB,zqC,list_set_at,zqE,zqD,i0,i1,cp,cm]
            ·refine hO.keep fun m o hm ho=>?_
             have hml:=(zqI.1 ho).1
             simp [-getElem?_pos,zqA,zqB,zqC,list_set_at,zqE,zqD,hml,(show σ.length≠m by omega),(show σ.length+1≠m by omega)]
             exact ho
          ·have hll:linkL l=false:=by unfold linkL; rw [hargs,hrest]; simp [hbk]
           rw [step1n hk hll,hadd] at hgo ⊢
           simp [h2,h12,h13,h14,hlt,hw,setRun,e1,hk,hav,e0,hcon,cp,cm,i0,i1,hbs,hbs1,hargs,hwa,ix,iy,hm,hln,hrest,hbk,e3,hl2,-appendA_s,-getElem?_pos,zqA,zqB,zqC,list_set_at,zqE,zqD]
           refine ⟨by simp [h2],by simp [h12],by simp [h13],by simp,by simp; omega,fun m hm=>?_,_,x,hgo,by simp only; omega,hal1,?_,?_,?_⟩
           ·simp [-getElem?_pos,zqA,zqB,zqC,list_set_at,zqE,zqD,(show m<τ.length by omega),(show σ.length≠m by omega),(show σ.length+1≠m by omega)]
            exact hall m hm
           ·simp [-getElem?_pos,zqA,zqB,zqC,list_set_at,zqE,zqD,i0,i1,cp,cm]
           ·simp [-getElem?_pos,zqA,zqB,zqC,list_set_at,zqE,zqD,i0,i1,cp,cm]
           ·refine hO.keep fun m o hm ho=>?_
            have hml:=(zqI.1 ho).1
            simp [-getElem?_pos,zqA,zqB,zqC,list_set_at,zqE,zqD,hml,(show σ.length≠m by omega),(show σ.length+1≠m by omega)]
            exact ho
        ·have hll:linkL l=false:=by unfold linkL; rw [decide_eq_false hln]; rfl
         rw [step1n hk hll,hadd] at hgo ⊢
         simp [h2,h12,h13,h14,hlt,hw,setRun,e1,hk,hav,e0,hcon,cp,cm,i0,i1,hbs,hbs1,hargs,hwa,ix,iy,hm,hln,-appendA_s,-getElem?_pos,zqA,zqB,zqC,list_set_at,zqE,zqD]
         refine ⟨by simp [h2],by simp [h12],by simp [h13],by simp,by simp; omega,fun m hm=>?_,_,x,hgo,by simp only; omega,hal1,?_,?_,?_⟩
         ·simp [-getElem?_pos,zqA,zqB,zqC,list_set_at,zqE,zqD,(show m<τ.length by omega),(show σ.length≠m by omega),(show σ.length+1≠m by omega)]
          exact hall m hm
         ·simp [-getElem?_pos,zqA,zqB,zqC,list_set_at,zqE,zqD,i0,i1,cp,cm]
         ·simp [-getElem?_pos,zqA,zqB,zqC,list_set_at,zqE,zqD,i0,i1,cp,cm]
         ·refine hO.keep fun m o hm ho=>?_
          have hml:=(zqI.1 ho).1
          simp [-getElem?_pos,zqA,zqB,zqC,list_set_at,zqE,zqD,hml,(show σ.length≠m by omega),(show σ.length+1≠m by omega)]
          exact ho
       ·have hm':memB a.name s.all=false:=by simpa using hm
        have hadd:addB s.all a.name=s.all++[a.name]:=by unfold addB; rw [if_neg hm]
        simp [h2,h12,h13,h14,hlt,hw,setRun,e1,hk,hav,e0,hcon,cp,cm,i0,i1,hbs,hbs1,hargs,hwa,ix,iy,hm',-appendA_s,-getElem?_pos,zqA,zqB,zqC,list_set_at,zqE,zqD]
        refine stW_s3 (N:=σ.length+2) hO rfl rfl rfl (by omega) hN (by simp; omega) fun x1 τ1 hO1 l1 q3 q4=>?_
        have np1:σ.length≠τ.length:=by omega
        have np2:σ.length≠τ.length+1:=by omega
        have np3:σ.length+1≠τ.length:=by omega
        have np4:σ.length+1≠τ.length+1:=by omega
        have j0:σ.length<τ1.length:=by omega
        have j1:σ.length+1<τ1.length:=by omega
        have ix1:x1.cells=[x1]:=hO1.cells
        have iy1:x1.solid=true:=hO1.solid
        have dp:τ1[σ.length]?=_:=(q3 _ (by omega)).trans cp
        have dm:τ1[σ.length+1]?=_:=(q3 _ (by omega)).trans cm
        have dl:τ1[τ.length]?=some (.cells [.int .i64 1,.str l.name,.isl (a.enc :: GT.encs rest) false] 0 false):=q4 τ.length _ (by simp) (fun _ _ e=>by cases e)
        have da:τ1[τ.length+1]?=some (.cells [.int .i64 1,.str a.name,.int .i64 a.value.kind,.int .i64 a.value.num,.str a.value.text,.isl (GV.encs a.value.items) false,.isl (GT.encs a.args) false] 0 false):=q4 (τ.length+1) _ (by simp) (fun _ _ e=>by cases e)
        rw [show s.all.map AV.str++[.str a.name]=(addB s.all a.name).map .str by rw [hadd,List.map_append]; rfl] at hO1
        by_cases hln:l.name=sLink
        ·cases hrest:rest with
         | nil=>
          have hll:linkL l=false:=by unfold linkL; rw [hargs,hrest]; simp
          rw [step1n hk hll] at hgo ⊢
          simp [h2,h12,h13,h14,hlt,hw,setRun,e1,hk,hav,e0,dp,dm,dl,da,j0,j1,np1,np2,np3,np4,hbs,hbs1,hargs,hwa,ix1,iy1,hm',hln,hrest,-appendA_s,-getElem?_pos,zqA,zqB,zqC,list_set_at,zqE,zqD]
          refine ⟨by simp [h2],by simp [h12],by simp [h13],by simp,by simp; omega,fun m hm=>?_,_,x1,hgo,by simp only; omega,hal1,?_,?_,?_⟩
          ·simp [-getElem?_pos,zqA,zqB,zqC,list_set_at,zqE,zqD,(show m<τ1.length by omega),(show σ.length≠m by omega),(show σ.length+1≠m by omega)]
           exact (q3 m (by omega)).trans (hall m hm)
          ·simp [-getElem?_pos,zqA,zqB,zqC,list_set_at,zqE,zqD,j0,j1,dp,dm]
          ·simp [-getElem?_pos,zqA,zqB,zqC,list_set_at,zqE,zqD,j0,j1,dp,dm]
          ·refine hO1.keep fun m o hm ho=>?_
           have hml:=(zqI.1 ho).1
           simp [-getElem?_pos,zqA,zqB,zqC,list_set_at,zqE,zqD,hml,(show σ.length≠m by omega),(show σ.length+1≠m by omega)]
           exact ho
         | cons b rest'=>
          have e3:GT.encs (b :: rest')=b.enc :: GT.encs rest':=rfl
          have hl2:(1:Int)<(rest'.length:Int)+1+1:=by omega
          by_cases hbk:b.kind=1
          ·have hll:linkL l=true:=by unfold linkL; rw [hargs,hrest,hln]; simp [hbk]
           have har:arg1 l=b.name:=by unfold arg1; rw [hargs,hrest]; rfl
           rw [step1l hk hll,har] at hgo ⊢
           cases hlook:lookW s.links a.name b.name with
           | some v=>
            have hset:setW s.links a.name b.name i=s.links:=by unfold setW; rw [hlook]; rfl
            rw [hset] at hgo ⊢
            simp [h2,h12,h13,h14,hlt,hw,setRun,e1,hk,hav,e0,dp,dm,dl,da,j0,j1,np1,np2,np3,np4,hbs,hbs1,hargs,hwa,ix1,iy1,hm',hln,hrest,hbk,e3,hl2,hlook,mlW,-appendA_s,-getElem?_pos,zqA,zqB,zqC,list_set_at,zqE,zqD]
            refine ⟨by simp [h2],by simp [h12],by simp [h13],by simp,by simp; omega,fun m hm=>?_,_,x1,hgo,by simp only; omega,hal1,?_,?_,?_⟩
            ·simp [-getElem?_pos,zqA,zqB,zqC,list_set_at,zqE,zqD,(show m<τ1.length by omega),(show σ.length≠m by omega),(show σ.length+1≠m by omega)]
             exact (q3 m (by omega)).trans (hall m hm)
            ·simp [-getElem?_pos,zqA,zqB,zqC,list_set_at,zqE,zqD,j0,j1,dp,dm]
            ·simp [-getElem?_pos,zqA,zqB,zqC,list_set_at,zqE,zqD,j0,j1,dp,dm]
            ·refine hO1.keep fun m o hm ho=>?_
             have hml:=(zqI.1 ho).1
             simp [-getElem?_pos,zqA,zqB,zqC,list_set_at,zqE,zqD,hml,(show σ.length≠m by omega),(show σ.length+1≠m by omega)]
             exact ho
           | none=>
            simp [h2,h12,h13,h14,hlt,hw,setRun,e1,hk,hav,e0,dp,dm,dl,da,j0,j1,np1,np2,np3,np4,hbs,hbs1,hargs,hwa,ix1,iy1,hm',hln,hrest,hbk,e3,hl2,hlook,mlW,msW,-appendA_s,-getElem?_pos,zqA,zqB,zqC,list_set_at,zqE,zqD]
            refine ⟨by simp [h2],by simp [h12],by simp [h13],by simp,by simp; omega,fun m hm=>?_,_,x1,hgo,by simp only; omega,hal1,?_,?_,?_⟩
            ·simp [-getElem?_pos,zqA,zqB,zqC,list_set_at,zqE,zqD,(show m<τ1.length by omega),(show σ.length≠m by omega),(show σ.length+1≠m by omega)]
             exact (q3 m (by omega)).trans (hall m hm)
            ·simp [-getElem?_pos,zqA,zqB,zqC,list_set_at,zqE,zqD,j0,j1,dp,dm]
            ·simp [-getElem?_pos,zqA,zqB,zqC,list_set_at,zqE,zqD,j0,j1,dp,dm]
            ·refine hO1.keep fun m o hm ho=>?_
             have hml:=(zqI.1 ho).1
             simp [-getElem?_pos,zqA,zqB,zqC,list_set_at,zqE,zqD,hml,(show σ.length≠m by omega),(show σ.length+1≠m by omega)]
             exact ho
          ·have hll:linkL l=false:=by unfold linkL; rw [hargs,hrest]; simp [hbk]
           rw [step1n hk hll] at hgo ⊢
           simp [h2,h12,h13,h14,hlt,hw,setRun,e1,hk,hav,e0,dp,dm,dl,da,j0,j1,np1,np2,np3,np4,hbs,hbs1,hargs,hwa,ix1,iy1,hm',hln,hrest,hbk,e3,hl2,-appendA_s,-getElem?_pos,zqA,zqB,zqC,list_set_at,zqE,zqD]
           refine ⟨by simp [h2],by simp [h12],by simp [h13],by simp,by simp; omega,fun m hm=>?_,_,x1,hgo,by simp only; omega,hal1,?_,?_,?_⟩
           ·simp [-getElem?_pos,zqA,zqB,zqC,list_set_at,zqE,zqD,(show m<τ1.length by omega),(show σ.length≠m by omega),(show σ.length+1≠m by omega)]
            exact (q3 m (by omega)).trans (hall m hm)
           ·simp [-getElem?_pos,zqA,zqB,zqC,list_set_at,zqE,zqD,j0,j1,dp,dm]
           ·simp [-getElem?_pos,zqA,zqB,zqC,list_set_at,zqE,zqD,j0,j1,dp,dm]
           ·refine hO1.keep fun m o hm ho=>?_
            have hml:=(zqI.1 ho).1
            simp [-getElem?_pos,zqA,zqB,zqC,list_set_at,zqE,zqD,hml,(show σ.length≠m by omega),(show σ.length+1≠m by omega)]
            exact ho
        ·have hll:linkL l=false:=by unfold linkL; rw [decide_eq_false hln]; rfl
         rw [step1n hk hll] at hgo ⊢
         simp [h2,h12,h13,h14,hlt,hw,setRun,e1,hk,hav,e0,dp,dm,dl,da,j0,j1,np1,np2,np3,np4,hbs,hbs1,hargs,hwa,ix1,iy1,hm',hln,-appendA_s,-getElem?_pos,zqA,zqB,zqC,list_set_at,zqE,zqD]
         refine ⟨by simp [h2],by simp [h12],by simp [h13],by simp,by simp; omega,fun m hm=>?_,_,x1,hgo,by simp only; omega,hal1,?_,?_,?_⟩
         ·simp [-getElem?_pos,zqA,zqB,zqC,list_set_at,zqE,zqD,(show m<τ1.length by omega),(show σ.length≠m by omega),(show σ.length+1≠m by omega)]
          exact (q3 m (by omega)).trans (hall m hm)
         ·simp [-getElem?_pos,zqA,zqB,zqC,list_set_at,zqE,zqD,j0,j1,dp,dm]
         ·simp [-getElem?_pos,zqA,zqB,zqC,list_set_at,zqE,zqD,j0,j1,dp,dm]
         ·refine hO1.keep fun m o hm ho=>?_
          have hml:=(zqI.1 ho).1
          simp [-getElem?_pos,zqA,zqB,zqC,list_set_at,zqE,zqD,hml,(show σ.length≠m by omega),(show σ.length+1≠m by omega)]
          exact ho
      ·by_cases hm:memB a.name s.all=true
       ·have hadd:addB s.all a.name=s.all:=by unfold addB; rw [if_pos hm]
        rw [hadd] at hal1
        rw [step2 hk,hadd] at hgo ⊢
        simp [h2,h12,h13,h14,hlt,hw,setRun,e1,hk,hav,e0,hcon,cp,cm,i0,i1,hbs,hbs1,hargs,hwa,ix,iy,hm,-appendA_s,-getElem?_pos,zqA,zqB,zqC,list_set_at,zqE,zqD]
        refine ⟨by simp [h2],by simp [h12],by simp [h13],by simp,by simp; omega,fun m hm=>?_,_,x,hgo,by simp only; omega,hal1,?_,?_,?_⟩
        ·simp [-getElem?_pos,zqA,zqB,zqC,list_set_at,zqE,zqD,(show m<τ.length by omega),(show σ.length≠m by omega),(show σ.length+1≠m by omega)]
         exact hall m hm
        ·simp [-getElem?_pos,zqA,zqB,zqC,list_set_at,zqE,zqD,i0,i1,cp,cm]
        ·simp [-getElem?_pos,zqA,zqB,zqC,list_set_at,zqE,zqD,i0,i1,cp,cm]
        ·refine hO.keep fun m o hm ho=>?_
         have hml:=(zqI.1 ho).1
         simp [-getElem?_pos,zqA,zqB,zqC,list_set_at,zqE,zqD,hml,(show σ.length≠m by omega),(show σ.length+1≠m by omega)]
         exact ho
       ·have hm':memB a.name s.all=false:=by simpa using hm
        have hadd:addB s.all a.name=s.all++[a.name]:=by unfold addB; rw [if_neg hm]
        simp [h2,h12,h13,h14,hlt,hw,setRun,e1,hk,hav,e0,hcon,cp,cm,i0,i1,hbs,hbs1,hargs,hwa,ix,iy,hm',-appendA_s,-getElem?_pos,zqA,zqB,zqC,list_set_at,zqE,zqD]
        refine stW_s3 (N:=σ.length+2) hO rfl rfl rfl (by omega) hN (by simp; omega) fun x1 τ1 hO1 l1 q3 q4=>?_
        have np1:σ.length≠τ.length:=by omega
        have np2:σ.length≠τ.length+1:=by omega
        have np3:σ.length+1≠τ.length:=by omega
        have np4:σ.length+1≠τ.length+1:=by omega
        have j0:σ.length<τ1.length:=by omega
        have j1:σ.length+1<τ1.length:=by omega
        have ix1:x1.cells=[x1]:=hO1.cells
        have iy1:x1.solid=true:=hO1.solid
        have dp:τ1[σ.length]?=_:=(q3 _ (by omega)).trans cp
        have dm:τ1[σ.length+1]?=_:=(q3 _ (by omega)).trans cm
        have dl:τ1[τ.length]?=some (.cells [.int .i64 2,.str l.name,.isl (a.enc :: GT.encs rest) false] 0 false):=q4 τ.length _ (by simp) (fun _ _ e=>by cases e)
        have da:τ1[τ.length+1]?=some (.cells [.int .i64 1,.str a.name,.int .i64 a.value.kind,.int .i64 a.value.num,.str a.value.text,.isl (GV.encs a.value.items) false,.isl (GT.encs a.args) false] 0 false):=q4 (τ.length+1) _ (by simp) (fun _ _ e=>by cases e)
        rw [show s.all.map AV.str++[.str a.name]=(addB s.all a.name).map .str by rw [hadd,List.map_append]; rfl] at hO1
        rw [step2 hk] at hgo ⊢
        simp [h2,h12,h13,h14,hlt,hw,setRun,hk,dp,dm,dl,da,j0,j1,np1,np2,np3,np4,hbs,hbs1,ix1,iy1,-appendA_s,-getElem?_pos,zqA,zqB,zqC,list_set_at,zqE,zqD]
        refine ⟨by simp [h2],by simp [h12],by simp [h13],by simp,by simp; omega,fun m hm=>?_,_,x1,hgo,by simp only; omega,hal1,?_,?_,?_⟩
        ·simp [-getElem?_pos,zqA,zqB,zqC,list_set_at,zqE,zqD,(show m<τ1.length by omega),(show σ.length≠m by omega),(show σ.length+1≠m by omega)]
         exact (q3 m (by omega)).trans (hall m hm)
        ·simp [-getElem?_pos,zqA,zqB,zqC,list_set_at,zqE,zqD,j0,j1,dp,dm]
        ·simp [-getElem?_pos,zqA,zqB,zqC,list_set_at,zqE,zqD,j0,j1,dp,dm]
        ·refine hO1.keep fun m o hm ho=>?_
         have hml:=(zqI.1 ho).1
         simp [-getElem?_pos,zqA,zqB,zqC,list_set_at,zqE,zqD,hml,(show σ.length≠m by omega),(show σ.length+1≠m by omega)]
         exact ho
     ·simp only [if_neg hav] at hgo ⊢
      rcases hk with hk | hk <;> simp [h2,h12,h13,h14,hlt,hw,setRun,e1,hk,hav,e0,hargs,cp,cm,i0,i1,hbs,hbs1,ix,iy,-getElem?_pos,zqA,zqB,zqC,list_set_at,zqE,zqD]
      all_goals
       refine ⟨by simp; omega,fun m hm=>?_,x,_,rfl,ix,iy⟩
       have hm1:m<τ.length:=by omega
       simp [-getElem?_pos,zqA,zqB,zqC,list_set_at,zqE,zqD,hm1,(show σ.length≠m by omega)]
       exact hall m hm
   ·simp only [if_neg hk] at hgo ⊢
    have k1:¬ l.kind=1:=fun e=>hk (.inl e)
    have k2:¬ l.kind=2:=fun e=>hk (.inr e)
    simp [h2,h12,h13,h14,hlt,hw,k1,k2,setRun,e1,i0,i1,-getElem?_pos,zqA,zqB,zqC,list_set_at,zqE,zqD]
    refine ⟨by simp [h2],by simp [h12],by simp [h13],by simp,by simp; omega,fun m hm=>?_,s,x,hgo,by omega,by omega,?_,?_,?_⟩
    ·rw [zqA (by omega)]; exact hall m hm
    ·rw [zqA (by omega)]; exact cp
    ·rw [zqA (by omega)]; exact cm
    ·exact hO.keep fun m o _ ho=>by rw [zqA (zqI.1 ho).1]; exact ho
  ·have he:i=body.length:=by omega
   subst he
   rw [List.drop_length]
   simp [h2,h12,h13,h14,cp,i0,hbs,ix,iy,setRun,readGo,-getElem?_pos,zqA,zqB,zqC,list_set_at,zqE,zqD]
   have hfr:∀ o m,m<σ.length→(τ.set σ.length o)[m]?=σ[m]?:=fun o m hm=>by rw [zqC (by omega)]; exact hall m hm
   have hOk:∀ o,LO (σ.length+2) 1 false (τ.set σ.length o) (s.all.map .str) x:=fun o=>hO.keep fun m q hm ho=>by rw [zqC (by omega)]; exact ho
   have hmk:∀ o,(τ.set σ.length o)[σ.length+1]?=some (.mp (encW s.links)):=fun o=>by rw [zqC (by omega)]; exact cm
   refine ⟨fun h0=>⟨by simp; omega,hfr _,x,by simp [h0],hOk _,hmk _⟩,fun h0=>⟨by simp; omega,hfr _,x,by simp [h0],hOk _,hmk _⟩⟩
 ·refine ⟨by simp,by simp,by simp,by simp,by simp,fun m hm=>?_,⟨[],[],0⟩,.isl [] true,rfl,Nat.le_refl _,Nat.le_refl _,?_,?_,.inl ⟨rfl,rfl⟩⟩
  ·rw [zqA hm]
  ·simp
  ·simp [encW]
set_option maxRecDepth 100000
open Go.Mach
theorem text_empty (r:GR):textRule r=nilB↔¬ ruleB r=true:=by
 unfold textRule
 split
 ·rename_i h
  constructor
  ·intro e
   exfalso
   have h1:(S (shRule r)).data.toList=nilB.data.toList:=by rw [e]
   have h2:(S (shRule r)).data.toList=shRule r:=by simp [S]
   rw [h2] at h1
   unfold shRule at h1
   simp at h1
  ·exact fun e=>absurd h e
 ·rename_i h
  exact ⟨fun _=>h,fun _=>rfl⟩
theorem lit_args {l:GL} (h:litB l=true) (hk:l.kind=1∨l.kind=2):l.args≠[]:=by
 obtain ⟨⟨t,ht⟩,_⟩:=lit_names h hk
 intro e; rw [e] at ht; cases ht
theorem add_ne (b:List ByteArray) (n:ByteArray):addB b n≠[]:=by
 unfold addB
 split
 ·rename_i h; intro e; rw [e] at h; cases h
 ·simp
def resPl (o:Option GPl):AV:=.tup [(o.getD nilPl).enc,.bool o.isSome]
set_option maxHeartbeats 4000000 in
theorem place7 (r:GR) (hs:r.size≤100000000):pureT T c30 [r.enc]=some (resPl (placeP r)):=by
 have hsay:=sayRule r (by omega)
 have hte:=text_empty r
 have hbl:=GR.body_len r
 simp only [GR.enc_eq] at hsay
 apply pure_enter (by simp [c30])
 by_cases hb:ruleB r=true
 ·have ht:¬ textRule r=nilB:=fun e=>hte.1 e hb
  have hlit:∀ l∈r.body,litB l=true:=by
   unfold ruleB at hb
   simp only [zqL] at hb
   exact zqQ.1 hb.1.2
  have hargs:∃ a rest,r.args=a :: rest:=by
   unfold ruleB argsB at hb
   simp only [zqL,decide_eq_true_eq] at hb
   cases h:r.args with
   | nil=>rw [h] at hb; simp at hb
   | cons a rest=>exact ⟨a,rest,rfl⟩
  obtain ⟨a,rest,har⟩:=hargs
  have e0:GT.encs (a :: rest)=a.enc :: GT.encs rest:=rfl
  rw [har,e0] at hsay
  by_cases hh:r.head=sLink
  ·have hp:placeP r=none:=by unfold placeP; rw [if_neg (fun h=>h.2.1 hh)]
   rw [hp]
   simp [c30,har,e0,hsay,ht,eq_true hh,setRun,resPl,nilPl,GPl.enc]
  ·by_cases hk:a.kind=1
   ·have hc:ruleB r=true∧r.head≠sLink∧headK r=1:=⟨hb,hh,by unfold headK; rw [har]; simp [hk]⟩
    have hn:headN r=a.name:=by unfold headN; rw [har]; rfl
    obtain ⟨⟨v,σ1⟩,hcall,hl1,hfr,hq⟩:=read7 r.body (fun l hl hk=>lit_args (hlit l hl) hk) (by omega) 0 [.cells [.str r.label,.str r.head,.isl (a.enc :: GT.encs rest) false,.str r.agg,.int .i64 r.pos,.isl (r.body.map GL.enc) false] 0 false,.cells [.str nilB,.str nilB,.str nilB] 0 false] (by omega)
    simp at hl1
    simp only at hfr hq
    have f0:σ1[0]?=some (.cells [.str r.label,.str r.head,.isl (a.enc :: GT.encs rest) false,.str r.agg,.int .i64 r.pos,.isl (r.body.map GL.enc) false] 0 false):=by rw [hfr 0 (by simp)]; rfl
    have f1:σ1[1]?=some (.cells [.str nilB,.str nilB,.str nilB] 0 false):=by rw [hfr 1 (by simp)]; rfl
    have n0:0<σ1.length:=by omega
    have n1:1<σ1.length:=by omega
    cases hg:readGo r.body 0 ⟨[],[],0⟩ with
    | none=>
     have hp:placeP r=none:=by unfold placeP readP; rw [if_pos hc,hg]
     rw [hp]
     rw [hg] at hq
     obtain ⟨x,n,hv,hx1,hx2⟩:=hq
     subst hv
     simp [c30,hsay,ht,hh,hk,har,e0,hcall,setRun,resPl,nilPl,GPl.enc,hx1,hx2,-getElem?_pos,zqA,zqB,zqC,list_set_at,zqE,zqD,n0,n1,f0,f1]
     done
    | some s=>
     rw [hg] at hq
     obtain ⟨x,hv,hO,hm⟩:=hq
     subst hv
     have n3:3<σ1.length:=by omega
     have hm3:σ1[3]?=some (.mp (encW s.links)):=hm
     have hm4:∀ o:AObj,(σ1++[o])[3]?=some (.mp (encW s.links)):=fun o=>by rw [zqA n3]; exact hm3
     by_cases hat:0<s.atoms
     ·have hrp:readP r.body=some s:=by unfold readP; rw [hg]; simp only [if_pos hat]
      have hpl:placeP r=match placeQ s a.name with
        | none=>none
        | some p=>if aggOk r p=true then some p else none:=by unfold placeP; rw [if_pos hc,hrp,hn] <;> rfl
      rcases hO with ⟨hnil,rfl⟩ | ⟨j,rfl,_,_,_⟩
      ·have hall:s.all=[]:=by simpa using hnil
       have hq0:placeQ s a.name=none:=by unfold placeQ; rw [hall]
       rw [hq0] at hpl
       rw [hpl]
       simp [c30,hsay,ht,hh,hk,har,e0,hcall,setRun,n0,n1,f0,f1,-getElem?_pos,zqA,zqB,zqC,list_set_at,zqE,zqD,hat,resPl,nilPl,GPl.enc]
      ·match hall:s.all with
       | []=>
        have hq0:placeQ s a.name=none:=by unfold placeQ; rw [hall]
        rw [hq0] at hpl
        rw [hpl]
        simp [c30,hsay,ht,hh,hk,har,e0,hcall,setRun,n0,n1,f0,f1,-getElem?_pos,zqA,zqB,zqC,list_set_at,zqE,zqD,hat,hall,resPl,nilPl,GPl.enc]
       | [b]=>
        have hone:=fun o bs=>one7 (hm4 o) j b a.name (s.atoms:Int) bs
        simp only [plA,List.map_cons,List.map_nil] at hone
        have hq0:placeQ s a.name=oneP s b a.name:=by unfold placeQ; rw [hall]
        rw [hq0] at hpl
        unfold oneP at hpl
        by_cases hok:a.name=b∨(lookW s.links b a.name).isSome=true
        ·rw [if_pos hok] at hpl
         have hok':(decide (a.name=b) || (lookW s.links b a.name).isSome)=true:=by simpa using hok
         rw [hok'] at hone
         by_cases hag:r.agg=nilB
         ·have hpl2:placeP r=some ⟨b,nilB,a.name⟩:=by rw [hpl]; simp [aggOk,hag]
          rw [hpl2]
          simp [c30,hsay,ht,hh,hk,har,e0,hcall,setRun,n0,n1,f0,f1,-getElem?_pos,zqA,zqB,zqC,list_set_at,zqE,zqD,hat,hall,hone,eq_true hag,resPl,GPl.enc]
          done
         ·by_cases hhb:a.name=b
          ·have hpl2:placeP r=some ⟨b,nilB,a.name⟩:=by rw [hpl]; simp [aggOk,hag,hhb]
           rw [hpl2]
           simp [c30,hsay,ht,hh,hk,har,e0,hcall,setRun,n0,n1,f0,f1,-getElem?_pos,zqA,zqB,zqC,list_set_at,zqE,zqD,hat,hall,hone,hag,eq_true hhb,resPl,GPl.enc]
           done
          ·have hpl2:placeP r=none:=by rw [hpl]; simp [aggOk,hag,hhb]
           rw [hpl2]
           simp [c30,hsay,ht,hh,hk,har,e0,hcall,setRun,n0,n1,f0,f1,-getElem?_pos,zqA,zqB,zqC,list_set_at,zqE,zqD,hat,hall,hone,hag,hhb,resPl,nilPl,GPl.enc]
           done
        ·rw [if_neg hok] at hpl
         have hok':(decide (a.name=b) || (lookW s.links b a.name).isSome)=false:=by
          cases h:(decide (a.name=b) || (lookW s.links b a.name).isSome) with
          | false=>rfl
          | true=>exact absurd (by simpa using h) hok
         rw [hok'] at hone
         rw [hpl]
         simp [c30,hsay,ht,hh,hk,har,e0,hcall,setRun,n0,n1,f0,f1,-getElem?_pos,zqA,zqB,zqC,list_set_at,zqE,zqD,hat,hall,hone,resPl,nilPl,GPl.enc]
         done
       | [b,c]=>
        have hne:=names_ne hb hrp
        have htw:=fun o bs=>two7 (hm4 o) j b c a.name (s.atoms:Int) bs
        simp only [plA,List.map_cons,List.map_nil] at htw
        have hq0:placeQ s a.name=twoP s b c a.name:=by unfold placeQ; rw [hall]
        rw [hq0] at hpl
        unfold twoP at hpl
        cases e1:lookW s.links b c with
        | none=>
         cases e2:lookW s.links c b with
         | none=>
          rw [e1,e2] at hpl
          simp only [e1,e2] at htw
          rw [hpl]
          simp [c30,hsay,ht,hh,hk,har,e0,hcall,setRun,n0,n1,f0,f1,-getElem?_pos,zqA,zqB,zqC,list_set_at,zqE,zqD,hat,hall,htw,resPl,nilPl,GPl.enc]
         | some q=>
          rw [e1,e2] at hpl
          simp only [e1,e2] at htw
          simp only at hpl
          have hnt:¬ b=nilB:=hne b (by rw [hall]; simp)
          by_cases hmem:a.name=b∨a.name=c
          ·have hmb:memB a.name [b,c]=true:=by unfold memB; simpa using hmem
           rw [hmb] at htw
           rw [if_pos hmem] at hpl
           by_cases hag:r.agg=nilB
           ·have hpl2:placeP r=some ⟨c,b,a.name⟩:=by rw [hpl]; simp [aggOk,hag]
            rw [hpl2]
            simp [c30,hsay,ht,hh,hk,har,e0,hcall,setRun,n0,n1,f0,f1,-getElem?_pos,zqA,zqB,zqC,list_set_at,zqE,zqD,hat,hall,htw,eq_true hag,resPl,GPl.enc]
           ·have hpl2:placeP r=none:=by rw [hpl]; simp [aggOk,hag,hnt]
            rw [hpl2]
            simp [c30,hsay,ht,hh,hk,har,e0,hcall,setRun,n0,n1,f0,f1,-getElem?_pos,zqA,zqB,zqC,list_set_at,zqE,zqD,hat,hall,htw,hag,hnt,resPl,nilPl,GPl.enc]
          ·have hmb:memB a.name [b,c]=false:=by
            cases h:memB a.name [b,c] with
            | false=>rfl
            | true=>exact absurd (by unfold memB at h; simpa using h) hmem
           rw [hmb] at htw
           rw [if_neg hmem] at hpl
           rw [hpl]
           simp [c30,hsay,ht,hh,hk,har,e0,hcall,setRun,n0,n1,f0,f1,-getElem?_pos,zqA,zqB,zqC,list_set_at,zqE,zqD,hat,hall,htw,resPl,nilPl,GPl.enc]
        | some i=>
         cases e2:lookW s.links c b with
         | none=>
          rw [e1,e2] at hpl
          simp only [e1,e2] at htw
          simp only at hpl
          have hnt:¬ c=nilB:=hne c (by rw [hall]; simp)
          by_cases hmem:a.name=b∨a.name=c
          ·have hmb:memB a.name [b,c]=true:=by unfold memB; simpa using hmem
           rw [hmb] at htw
           rw [if_pos hmem] at hpl
           by_cases hag:r.agg=nilB
           ·have hpl2:placeP r=some ⟨b,c,a.name⟩:=by rw [hpl]; simp [aggOk,hag]
            rw [hpl2]
            simp [c30,hsay,ht,hh,hk,har,e0,hcall,setRun,n0,n1,f0,f1,-getElem?_pos,zqA,zqB,zqC,list_set_at,zqE,zqD,hat,hall,htw,eq_true hag,resPl,GPl.enc]
           ·have hpl2:placeP r=none:=by rw [hpl]; simp [aggOk,hag,hnt]
            rw [hpl2]
            simp [c30,hsay,ht,hh,hk,har,e0,hcall,setRun,n0,n1,f0,f1,-getElem?_pos,zqA,zqB,zqC,list_set_at,zqE,zqD,hat,hall,htw,hag,hnt,resPl,nilPl,GPl.enc]
          ·have hmb:memB a.name [b,c]=false:=by
            cases h:memB a.name [b,c] with
            | false=>rfl
            | true=>exact absurd (by unfold memB at h; simpa using h) hmem
           rw [hmb] at htw
           rw [if_neg hmem] at hpl
           rw [hpl]
           simp [c30,hsay,ht,hh,hk,har,e0,hcall,setRun,n0,n1,f0,f1,-getElem?_pos,zqA,zqB,zqC,list_set_at,zqE,zqD,hat,hall,htw,resPl,nilPl,GPl.enc]
         | some q=>
          rw [e1,e2] at hpl
          simp only [e1,e2] at htw
          simp only at hpl
          by_cases hqi:q<i
          ·simp only [if_pos hqi] at htw hpl
           have hnt:¬ b=nilB:=hne b (by rw [hall]; simp)
           by_cases hmem:a.name=b∨a.name=c
           ·have hmb:memB a.name [b,c]=true:=by unfold memB; simpa using hmem
            rw [hmb] at htw
            rw [if_pos hmem] at hpl
            by_cases hag:r.agg=nilB
            ·have hpl2:placeP r=some ⟨c,b,a.name⟩:=by rw [hpl]; simp [aggOk,hag]
             rw [hpl2]
             simp [c30,hsay,ht,hh,hk,har,e0,hcall,setRun,n0,n1,f0,f1,-getElem?_pos,zqA,zqB,zqC,list_set_at,zqE,zqD,hat,hall,htw,eq_true hag,resPl,GPl.enc]
            ·have hpl2:placeP r=none:=by rw [hpl]; simp [aggOk,hag,hnt]
             rw [hpl2]
             simp [c30,hsay,ht,hh,hk,har,e0,hcall,setRun,n0,n1,f0,f1,-getElem?_pos,zqA,zqB,zqC,list_set_at,zqE,zqD,hat,hall,htw,hag,hnt,resPl,nilPl,GPl.enc]
           ·have hmb:memB a.name [b,c]=false:=by
             cases h:memB a.name [b,c] with
             | false=>rfl
             | true=>exact absurd (by unfold memB at h; simpa using h) hmem
            rw [hmb] at htw
            rw [if_neg hmem] at hpl
            rw [hpl]
            simp [c30,hsay,ht,hh,hk,har,e0,hcall,setRun,n0,n1,f0,f1,-getElem?_pos,zqA,zqB,zqC,list_set_at,zqE,zqD,hat,hall,htw,resPl,nilPl,GPl.enc]
          ·simp only [if_neg hqi] at htw hpl
           have hnt:¬ c=nilB:=hne c (by rw [hall]; simp)
           by_cases hmem:a.name=b∨a.name=c
           ·have hmb:memB a.name [b,c]=true:=by unfold memB; simpa using hmem
            rw [hmb] at htw
            rw [if_pos hmem] at hpl
            by_cases hag:r.agg=nilB
            ·have hpl2:placeP r=some ⟨b,c,a.name⟩:=by rw [hpl]; simp [aggOk,hag]
             rw [hpl2]
             simp [c30,hsay,ht,hh,hk,har,e0,hcall,setRun,n0,n1,f0,f1,-getElem?_pos,zqA,zqB,zqC,list_set_at,zqE,zqD,hat,hall,htw,eq_true hag,resPl,GPl.enc]
            ·have hpl2:placeP r=none:=by rw [hpl]; simp [aggOk,hag,hnt]
             rw [hpl2]
             simp [c30,hsay,ht,hh,hk,har,e0,hcall,setRun,n0,n1,f0,f1,-getElem?_pos,zqA,zqB,zqC,list_set_at,zqE,zqD,hat,hall,htw,hag,hnt,resPl,nilPl,GPl.enc]
           ·have hmb:memB a.name [b,c]=false:=by
             cases h:memB a.name [b,c] with
             | false=>rfl
             | true=>exact absurd (by unfold memB at h; simpa using h) hmem
            rw [hmb] at htw
            rw [if_neg hmem] at hpl
            rw [hpl]
            simp [c30,hsay,ht,hh,hk,har,e0,hcall,setRun,n0,n1,f0,f1,-getElem?_pos,zqA,zqB,zqC,list_set_at,zqE,zqD,hat,hall,htw,resPl,nilPl,GPl.enc]
       | b :: c :: d :: rest2=>
        have hq0:placeQ s a.name=none:=by unfold placeQ; rw [hall]
        rw [hq0] at hpl
        rw [hpl]
        have l1:¬ ((rest2.length:Int)+1+1+1=1):=by omega
        have l2:¬ ((rest2.length:Int)+1+1+1=2):=by omega
        simp [c30,hsay,ht,hh,hk,har,e0,hcall,setRun,n0,n1,f0,f1,-getElem?_pos,zqA,zqB,zqC,list_set_at,zqE,zqD,hat,hall,l1,l2,resPl,nilPl,GPl.enc]
        done
     ·have hrp:readP r.body=none:=by unfold readP; rw [hg]; simp only [if_neg hat]
      have hpl:placeP r=none:=by unfold placeP; rw [if_pos hc,hrp]
      rw [hpl]
      simp [c30,hsay,ht,hh,hk,har,e0,hcall,setRun,n0,n1,f0,f1,-getElem?_pos,zqA,zqB,zqC,list_set_at,zqE,zqD,hat,hO.solid,hO.cells,resPl,nilPl,GPl.enc]
   ·have hp:placeP r=none:=by unfold placeP; rw [if_neg (fun h=>hk (by have:=h.2.2; unfold headK at this; rw [har] at this; simpa using this))]
    rw [hp]
    simp [c30,hsay,ht,hh,hk,har,e0,setRun,resPl,nilPl,GPl.enc]
 ·have ht:textRule r=nilB:=hte.2 hb
  have hp:placeP r=none:=by unfold placeP; rw [if_neg (fun h=>hb h.1)]
  rw [hp]
  simp [c30,hsay,ht,setRun,resPl,nilPl,GPl.enc]
set_option maxRecDepth 100000
open Go.Mach
theorem callPlace (r:GR) (hs:r.size≤100000000) (bs:Nat) (σ:Heap):callT T 30 [r.enc] bs σ=some (resPl (placeP r),σ):=call_clean rfl rfl rfl (by simp) (place7 r hs)
set_option maxRecDepth 100000
open Go.Mach
def lostB (r:GR):Bool:=(placeP r).isNone
def checkL (p:GP):Int × Int:=if (checkP p).1≠0 then checkP p else if 0≤idxG lostB p.rules then (70,idxG lostB p.rules) else (0,-1)
theorem lost7 (r:GR) (hs:r.size≤100000000):pureT T c29 [r.enc]=some (.bool (lostB r)):=by
 have hp:=callPlace r hs
 apply pure_enter (by simp [c29])
 unfold lostB
 simp only [GR.enc_eq] at hp
 cases h:placeP r with
 | none=>rw [h] at hp; simp [c29,hp,resPl,nilPl,GPl.enc,setRun]
 | some q=>rw [h] at hp; simp [c29,hp,resPl,GPl.enc,setRun]
theorem callLost (r:GR) (hs:r.size≤100000000) (bs:Nat) (σ:Heap):callT T 29 [r.enc] bs σ=some (.bool (lostB r),σ):=call_clean rfl rfl rfl (by simp) (lost7 r hs)
theorem check7 (p:GP) (hp:p.size≤1000000000) (hr:∀ r∈p.rules,r.size≤100000000) (hl:p.rules.length≤100000000):pureT T c15 [p.enc]=some (res2 (checkL p)):=by
 have hck:=callCheck p hp
 have hi:=fun σ=>idxRule lostB p.rules 29 [] (by omega) σ fun x hx bs=>callLost x (hr x hx) bs σ
 simp only [GP.enc_eq] at hck
 obtain ⟨⟨e,n⟩,hen⟩:∃ x,checkP p=x:=⟨_,rfl⟩
 rw [hen] at hck
 unfold checkL
 rw [hen]
 apply pure_enter (by simp [c15])
 by_cases h0:e=0
 ·by_cases h1:0≤idxG lostB p.rules
  ·simp [c15,hck,hi,h0,h1,setRun,GP.enc_eq]
  ·simp [c15,hck,hi,h0,h1,setRun,GP.enc_eq]
 ·simp [c15,hck,hi,h0,setRun,GP.enc_eq]
theorem callCheckL (p:GP) (hp:p.size≤1000000000) (hr:∀ r∈p.rules,r.size≤100000000) (hl:p.rules.length≤100000000) (bs:Nat) (σ:Heap):callT T 15 [p.enc] bs σ=some (res2 (checkL p),σ):=call_clean rfl rfl rfl (by simp) (check7 p hp hr hl)
theorem idx_at {l:List GR} {i:Nat} (hi:i<l.length) (h:∀ j,(hj:j<l.length)→j<i→lostB l[j]=false) (hp:lostB l[i]=true):idxG lostB l=(i:Int):=by
 unfold idxG; rw [idxG_drop lostB l i hi h hp]
theorem idx_none {l:List GR} (h:∀ j,(hj:j<l.length)→lostB l[j]=false):idxG lostB l=-1:=by
 unfold idxG
 have:l.findIdx? lostB=none:=by
  rw [List.findIdx?_eq_none_iff]
  intro x hx
  obtain ⟨j,hj,rfl⟩:=zqS hx
  exact h j hj
 rw [this]
set_option maxRecDepth 100000
open Go.Mach
def nub (ns:List ByteArray):List ByteArray:=ns.foldl addB []
def encN (b:List ByteArray):AV:=.isl (b.map .str) false
theorem mem_fold7:∀ (ns b:List ByteArray) (m:ByteArray),m∈ns.foldl addB b↔m∈b∨m∈ns
 | [],b,m=>by simp
 | n :: ns,b,m=>by rw [List.foldl_cons,mem_fold7 ns,mem_addB7]; simp [or_assoc]
theorem fold_len7:∀ (ns b:List ByteArray),(ns.foldl addB b).length≤b.length+ns.length
 | [],b=>by simp
 | n :: ns,b=>by
  rw [List.foldl_cons]
  have:=fold_len7 ns (addB b n)
  have h2:(addB b n).length≤b.length+1:=by unfold addB; split <;> simp
  simp only [zqU]; omega
theorem nub_len7 (ns:List ByteArray):(nub ns).length≤ns.length:=by have:=fold_len7 ns []; simpa [nub] using this
theorem mem_nub7 (ns:List ByteArray) (m:ByteArray):m∈nub ns↔m∈ns:=by simp [nub,mem_fold7]
theorem add_fold (c b:List ByteArray) (n:ByteArray):(addB c n).foldl addB b=addB (c.foldl addB b) n:=by
 by_cases h:memB n c=true
 ·have h2:memB n (c.foldl addB b)=true:=(memB_iff _ _).2 ((mem_fold7 _ _ _).2 (.inr ((memB_iff _ _).1 h)))
  have e1:addB c n=c:=by unfold addB; rw [if_pos h]
  have e2:addB (c.foldl addB b) n=c.foldl addB b:=by generalize c.foldl addB b=q at *; unfold addB; rw [if_pos h2]
  rw [e1,e2]
 ·have e1:addB c n=c++[n]:=by unfold addB; rw [if_neg h]
  rw [e1,List.foldl_append]; rfl
theorem fold_fold:∀ (l c b:List ByteArray),(l.foldl addB c).foldl addB b=l.foldl addB (c.foldl addB b)
 | [],c,b=>rfl
 | n :: l,c,b=>by rw [List.foldl_cons,List.foldl_cons,fold_fold l,add_fold]
theorem nub_fold (l b:List ByteArray):(nub l).foldl addB b=l.foldl addB b:=fold_fold l [] b
theorem vsL_app7:∀ a b:List GT,vsL (a++b)=vsL a++vsL b
 | [],b=>rfl
 | t :: a,b=>by simp only [List.cons_append,vsL,vsL_app7 a b,zqP]
theorem rHas_ok (b:List ByteArray) (s:ByteArray) (hl:b.length≤1000000000):pureT T c66 [encN b,.str s]=some (.bool (memB s b)):=by
 apply pure_enter (by simp [c66])
 simp [c66,encN]
 refine W_for T 0 18 b.length (fun i f σ=>f 0=.isl (b.map .str) false∧f 1=.str s∧f 5=.int .i64 (i:Int)∧memB s b=memB s (b.drop i)) ?_ _ _ ?_
 ·rintro i f σ hi ⟨h0,h1,h5,hm⟩
  by_cases hlt:i<b.length
  ·have hw:IntKind.i64.wrap ((i:Int)+1)=(i:Int)+1:=wr64 (by omega) (by omega)
   have e1:b[i]?=some b[i]:=zqF hlt
   rw [zqM hlt] at hm
   have hc:memB s (b[i] :: b.drop (i+1))=(decide (s=b[i]) || memB s (b.drop (i+1))):=rfl
   rw [hc] at hm
   by_cases hs:b[i]=s
   ·rw [decide_eq_true hs.symm,Bool.true_or] at hm
    simp [h0,h1,h5,hlt,e1,hs,setRun,hm]
   ·rw [decide_eq_false (fun e=>hs e.symm),Bool.false_or] at hm
    simp [h0,h1,h5,hlt,e1,hs,hw,hm]
  ·have he:i=b.length:=by omega
   subst he
   rw [List.drop_length] at hm
   have hm':memB s b=false:=hm
   simp [h0,h1,h5,setRun,hm']
 ·simp
theorem callRHas (b:List ByteArray) (s:ByteArray) (hl:b.length≤1000000000) (bs:Nat) (σ:Heap):callT T 66 [.isl (b.map .str) false,.str s] bs σ=some (.bool (sym (memB s b)),σ):=call_clean rfl rfl rfl (by simp) (rHas_ok b s hl)
theorem callRHasO (b:List ByteArray) (s:ByteArray) (hl:b.length≤1000000000) {N:Nat} {τ:Heap} {x:AV} (h:LO N 1 false τ (b.map .str) x) (bs:Nat) (σ:Heap):callT T 66 [x,.str s] bs σ=some (.bool (sym (memB s b)),σ):=by
 rw [call_pure (T:=T) (f:=66) (bs:=bs) (σ:=σ) (σ':=σ) (args':=[encN b,.str s]) rfl rfl rfl (by unfold closeT; rw [h.closeA]; rfl) (by simp [encN]) (rHas_ok b s hl),ite_self]; rfl
set_option maxHeartbeats 1000000 in
theorem rVars_ok:∀ (k:Nat) (t:GT),t.size≤k→k≤1000000000→pureT T c97 [t.enc]=some (encN (nub (vs1 t))):=by
 intro k
 induction k using Nat.strongRecOn with
 | ind k ih=>
  intro t ht hk
  by_cases hk1:t.kind=1
  ·have hv:vs1 t=[t.name]:=by
    cases t; simp only [GT.kind] at hk1; simp [vs1,hk1,GT.name]
   have hv2:nub (vs1 t)=[t.name]:=by rw [hv]; rfl
   apply pure_enter (by simp [c97])
   rw [hv2]
   simp [c97,hk1,setRun,encN,GT.enc_eq]
   exact ⟨_,rfl⟩
  ·have hv:vs1 t=vsL t.args:=by
    cases t; simp only [GT.kind] at hk1; simp [vs1,hk1,GT.args]
   have hal:=GT.args_le t
   have hC:∀ x∈t.args,∀ bs σ,callT T 97 [x.enc] bs σ=some (encN (nub (vs1 x)),σ):=fun x hx bs σ=>by
    have h1:=GT.sizes_mem hx
    exact call_clean rfl rfl rfl (by simp) (ih x.size (by omega) x (Nat.le_refl _) (by omega))
   have hlen:=GT.len_sizes t.args
   have htot:=vsL_len t.args
   apply pure_enter (by simp [c97])
   rw [hv]
   simp [c97,hk1,GT.enc_eq]
   refine W_for T 0 49 t.args.length (fun i f σ=>f 1=.ptr 0 0∧f 4=.int .i64 (i:Int)∧1≤σ.length∧σ[0]?=some (.cells [.int .i64 t.kind,.str t.name,.int .i64 t.value.kind,.int .i64 t.value.num,.str t.value.text,.isl (GV.encs t.value.items) false,.isl (GT.encs t.args) false] 0 false)∧LO 1 1 false σ ((nub (vsL (t.args.take i))).map .str) (f 3)) ?_ _ _ ?_
   ·rintro i f σ hi ⟨h1,h4,hN,z0,hO⟩
    by_cases hlt:i<t.args.length
    ·have hw:IntKind.i64.wrap ((i:Int)+1)=(i:Int)+1:=wr64 (by omega) (by omega)
     have e1:t.args[i]?=some t.args[i]:=zqF hlt
     have hc:=hC _ (zqT hlt)
     have hsplit:vsL t.args=vsL (t.args.take i)++(vs1 t.args[i]++vsL (t.args.drop (i+1))):=by
      conv=>lhs; rw [←List.take_append_drop i t.args,zqM hlt]
      rw [vsL_app7]; rfl
     have hnext:nub (vsL (t.args.take (i+1)))=(nub (vs1 t.args[i])).foldl addB (nub (vsL (t.args.take i))):=by
      rw [nub_fold,zqO hlt,vsL_app7]
      have e:vsL [t.args[i]]=vs1 t.args[i]:=by simp [vsL]
      rw [e]; unfold nub; rw [List.foldl_append]
     have hl1:=nub_len7 (vsL (t.args.take i))
     have hl2:=nub_len7 (vs1 t.args[i])
     have hl3:(vsL t.args).length=(vsL (t.args.take i)).length+((vs1 t.args[i]).length+(vsL (t.args.drop (i+1))).length):=by rw [hsplit]; simp
     rw [hnext]
     generalize nub (vsL (t.args.take i))=cur at *
     generalize nub (vs1 t.args[i])=ns at *
     simp only [encN,GT.enc_eq] at hc
     simp [h1,h4,z0,hlt,e1,hc,GT.enc_eq]
     refine W_for T 0 49 ns.length (fun j f τ=>f 1=.ptr 0 0∧f 4=.int .i64 (i:Int)∧f 5=.isl (ns.map .str) false∧f 6=.int .i64 (j:Int)∧1≤τ.length∧τ[0]?=some (.cells [.int .i64 t.kind,.str t.name,.int .i64 t.value.kind,.int .i64 t.value.num,.str t.value.text,.isl (GV.encs t.value.items) false,.isl (GT.encs t.args) false] 0 false)∧LO 1 1 false τ (((ns.take j).foldl addB cur).map .str) (f 3)) ?_ _ _ ?_
     ·rintro j f τ hj ⟨g1,g4,g5,g6,gN,y0,gO⟩
      by_cases hjl:j<ns.length
      ·have hwj:IntKind.i64.wrap ((j:Int)+1)=(j:Int)+1:=wr64 (by omega) (by omega)
       have e2:ns[j]?=some ns[j]:=zqF hjl
       have hfl:=fold_len7 (ns.take j) cur
       have htl:(ns.take j).length≤ns.length:=by simp; omega
       have hh:=callRHasO ((ns.take j).foldl addB cur) ns[j] (by omega) gO
       have hstep:(ns.take (j+1)).foldl addB cur=addB ((ns.take j).foldl addB cur) ns[j]:=by
        rw [zqO hjl,List.foldl_append]; rfl
       rw [hstep]
       generalize (ns.take j).foldl addB cur=cu at *
       by_cases hm:memB ns[j] cu=true
       ·have ha:addB cu ns[j]=cu:=by unfold addB; rw [if_pos hm]
        rw [hm] at hh
        rw [ha]
        simp [g1,g4,g5,g6,y0,hjl,e2,hh,sym,hwj,gN]
        exact gO
       ·have ha:addB cu ns[j]=cu++[ns[j]]:=by unfold addB; rw [if_neg hm]
        have hm':memB ns[j] cu=false:=by simpa using hm
        rw [hm'] at hh
        rw [ha]
        simp [g1,g4,g5,g6,y0,hjl,e2,hh,sym,-appendA_s]
        refine stW_s1 (N:=1) (bytes:=16) (v:=.str ns[j]) gO rfl rfl rfl (by omega) gN (by simp; omega) fun x1 τ1 hO1 l1 q3 q4=>?_
        simp [g1,g4,g5,g6,hwj,q3 0 (by omega),y0]
        exact ⟨by omega,hO1⟩
      ·have hej:j=ns.length:=by omega
       subst hej
       rw [List.take_length] at gO
       simp [g1,g4,g5,g6,y0,hw,gN]
       exact gO
     ·simp [h1,h4,z0,hN]
      exact hO
    ·have hei:i=t.args.length:=by omega
     subst hei
     rw [List.take_length] at hO
     have hr:closeR σ (f 3)=some (.isl ((nub (vsL t.args)).map .str) false,σ):=by
      have:=hO.closeA σ
      rcases hO with ⟨h1,h2⟩ | ⟨k,h2,_⟩ <;> rw [h2] at this ⊢ <;> exact this
     simp [h1,h4,z0,hr,endP,res1,encN]
   ·simp
    exact .inl ⟨rfl,rfl⟩
set_option maxRecDepth 100000
open Go.Mach
theorem callRVars (t:GT) (ht:t.size≤1000000000) (bs:Nat) (σ:Heap):callT T 97 [t.enc] bs σ=some (encN (nub (vs1 t)),σ):=call_clean rfl rfl rfl (by simp) (rVars_ok t.size t (Nat.le_refl _) ht)
theorem all_nub (b l:List ByteArray):(nub l).all (fun m=>memB m b)=l.all fun m=>memB m b:=by
 have:(nub l).all (fun m=>memB m b)=true↔(l.all fun m=>memB m b)=true:=by
  simp only [zqQ,mem_nub7]
 cases h1:(nub l).all (fun m=>memB m b) <;> cases h2:(l.all fun m=>memB m b) <;> simp_all
theorem rFree_ok (b:List ByteArray) (l:List GT) (hb:b.length≤1000000000) (hl:GT.sizes l≤1000000000):pureT T c65 [.isl (GT.encs l) false,encN b]=some (.bool (!(allB b l))):=by
 have hlen:=GT.len_sizes l
 apply pure_enter (by simp [c65])
 simp [c65,encN]
 refine W_for T 0 34 l.length (fun i f σ=>f 0=.isl (GT.encs l) false∧f 1=.isl (b.map .str) false∧f 5=.int .i64 (i:Int)∧allB b l=allB b (l.drop i)) ?_ _ _ ?_
 ·rintro i f σ hi ⟨h0,h1,h5,hA⟩
  by_cases hlt:i<l.length
  ·have hw:IntKind.i64.wrap ((i:Int)+1)=(i:Int)+1:=wr64 (by omega) (by omega)
   have e1:l[i]?=some l[i]:=zqF hlt
   have hm:=GT.sizes_mem (zqT hlt)
   have hc:=callRVars l[i] (by omega)
   have hl2:=nub_len7 (vs1 l[i])
   have hl3:=vs1_len l[i]
   have hcons:allB b (l.drop i)=((nub (vs1 l[i])).all (fun m=>memB m b) && allB b (l.drop (i+1))):=by
    rw [zqM hlt,all_nub]
    unfold allB
    simp only [vsL,List.all_append]
   rw [hcons] at hA
   generalize nub (vs1 l[i])=ns at *
   simp only [encN,GT.enc_eq] at hc
   simp [h0,h1,h5,hlt,e1,hc,GT.enc_eq]
   refine W_for T 0 34 ns.length (fun j f τ=>f 0=.isl (GT.encs l) false∧f 1=.isl (b.map .str) false∧f 5=.int .i64 (i:Int)∧f 6=.isl (ns.map .str) false∧f 7=.int .i64 (j:Int)∧ns.all (fun m=>memB m b)=(ns.drop j).all (fun m=>memB m b)) ?_ _ _ ?_
   ·rintro j f τ hj ⟨g0,g1,g5,g6,g7,gA⟩
    by_cases hjl:j<ns.length
    ·have hwj:IntKind.i64.wrap ((j:Int)+1)=(j:Int)+1:=wr64 (by omega) (by omega)
     have e2:ns[j]?=some ns[j]:=zqF hjl
     have hh:=callRHas b ns[j] hb
     rw [zqM hjl,List.all_cons] at gA
     cases hm:memB ns[j] b with
     | true=>
      rw [hm] at hh gA
      rw [Bool.true_and] at gA
      simp [g0,g1,g5,g6,g7,hjl,e2,hh,sym,hwj,gA]
     | false=>
      rw [hm] at hh gA
      rw [Bool.false_and] at gA
      rw [gA,Bool.false_and] at hA
      simp [g0,g1,g5,g6,g7,hjl,e2,hh,sym,setRun,hA]
    ·have hej:j=ns.length:=by omega
     subst hej
     rw [List.drop_length,List.all_nil] at gA
     rw [gA,Bool.true_and] at hA
     simp [g0,g1,g5,g6,g7,hw,hA]
   ·simp [h0,h1,h5]
  ·have hei:i=l.length:=by omega
   subst hei
   rw [List.drop_length] at hA
   have hA':allB b l=true:=hA
   simp [h0,h1,h5,setRun,hA']
 ·simp
theorem callRFree (b:List ByteArray) (l:List GT) (hb:b.length≤1000000000) (hl:GT.sizes l≤1000000000) {N:Nat} {τ:Heap} {x:AV} (h:LO N 1 false τ (b.map .str) x) (bs:Nat) (σ:Heap):callT T 65 [.isl (GT.encs l) false,x] bs σ=some (.bool (sym (!(allB b l))),σ):=by
 rw [call_pure (T:=T) (f:=65) (bs:=bs) (σ:=σ) (σ':=σ) (args':=[.isl (GT.encs l) false,encN b]) rfl rfl rfl (by simp [closeT,h.closeA,encN]) (by simp [encN]) (rFree_ok b l hb hl),ite_self]; rfl
theorem rArity_ok (p:GP) (n:ByteArray) (hl:p.decls.length≤1000000000):pureT T c38 [p.enc,.str n]=some (.int .i64 (arityP p n)):=by
 apply pure_enter (by simp [c38])
 simp [c38,GP.enc_eq]
 refine W_for T 0 27 p.decls.length (fun i f σ=>f 1=.str n∧f 2=.ptr 0 0∧f 5=.int .i64 (i:Int)∧σ[0]?=some (.cells [.isl (p.decls.map GD.enc) false,.isl (p.facts.map GU.enc) false,.isl (p.rules.map GR.enc) false] 0 false)∧p.decls.find? (fun d=>decide (d.name=n))=(p.decls.drop i).find? (fun d=>decide (d.name=n))) ?_ _ _ ?_
 ·rintro i f σ hi ⟨h1,h2,h5,z0,hA⟩
  by_cases hlt:i<p.decls.length
  ·have hw:IntKind.i64.wrap ((i:Int)+1)=(i:Int)+1:=wr64 (by omega) (by omega)
   have e1:p.decls[i]?=some p.decls[i]:=zqF hlt
   rw [zqM hlt,List.find?_cons] at hA
   by_cases hs:p.decls[i].name=n
   ·rw [decide_eq_true hs] at hA
    have hP:arityP p n=p.decls[i].arity:=by unfold arityP; rw [hA]
    simp [h1,h2,h5,z0,hlt,e1,hs,setRun,hP]
   ·rw [decide_eq_false hs] at hA
    simp [h1,h2,h5,z0,hlt,e1,hs,hw,hA]
  ·have he:i=p.decls.length:=by omega
   subst he
   rw [List.drop_length] at hA
   have hP:arityP p n=0:=by unfold arityP; rw [hA]; rfl
   simp [h1,h2,h5,z0,setRun,hP]
 ·simp
theorem callRArity (p:GP) (n:ByteArray) (hl:p.decls.length≤1000000000) (bs:Nat) (σ:Heap):callT T 38 [p.enc,.str n] bs σ=some (.int .i64 (arityP p n),σ):=call_clean rfl rfl rfl (by simp) (rArity_ok p n hl)
set_option maxRecDepth 100000
open Go.Mach
def SameM (b c:List ByteArray):Prop:=∀ m,memB m b=memB m c
theorem SameM.all {b c:List ByteArray} (h:SameM b c) (l:List GT):allB b l=allB c l:=by
 unfold allB; congr 1; funext m; exact h m
theorem memB_app (m:ByteArray) (a b:List ByteArray):memB m (a++b)=(memB m a || memB m b):=by unfold memB; rw [List.any_append]
theorem memB_add (m:ByteArray) (b:List ByteArray) (n:ByteArray):memB m (addB b n)=(memB m b || decide (m=n)):=by
 have:memB m (addB b n)=true↔(memB m b || decide (m=n))=true:=by
  rw [memB_iff,mem_addB7,Bool.or_eq_true,memB_iff,decide_eq_true_eq]
 cases h1:memB m (addB b n) <;> cases h2:(memB m b || decide (m=n)) <;> simp_all
theorem SameM.add {b c:List ByteArray} (h:SameM b c) (n:ByteArray):SameM (addB b n) (c++[n]):=fun m=>by
 rw [memB_add,memB_app,h m]; unfold memB; simp
theorem SameM.fold {b c:List ByteArray} (h:SameM b c):∀ ns:List ByteArray,SameM (ns.foldl addB b) (c++ns):=fun ns=>by
 induction ns generalizing b c with
 | nil=>simpa using h
 | cons n ns ih=>
  rw [List.foldl_cons]
  have:=ih (h.add n)
  rwa [zqP] at this
theorem tops_snoc (l:List GT) (t:GT):tops (l++[t])=if t.kind=1 then tops l++[t.name] else tops l:=by
 unfold tops
 rw [List.filter_append,List.map_append]
 by_cases h:t.kind=1 <;> simp [h]
theorem tops_len (l:List GT):(tops l).length≤l.length:=by
 unfold tops; rw [List.length_map]; exact List.length_filter_le _ _
set_option maxHeartbeats 4000000 in
theorem rRule_ok (p:GP) (r:GR) (hp:p.decls.length≤1000000000) (hr:r.size≤1000000000) (hk:∀ l∈r.body,1≤l.kind) (ha:∀ l∈r.body,l.kind=1→l.args.length≤8) (hbl:r.body.length≤8):pureT T c39 [p.enc,r.enc]=some (.int .i64 (ruleP p r)):=by
 have hA:=fun n=>callRArity p n hp
 simp only [GP.enc_eq] at hA
 have hra:=GR.args_le r
 apply pure_enter (by simp [c39])
 by_cases hh:arityP p r.head=(r.args.length:Int)
 ·simp [c39,GP.enc_eq,GR.enc_eq,hA,hh,setRun]
  refine W_for T 0 108 r.body.length (fun i f σ=>f 2=.ptr 0 0∧f 3=.ptr 1 0∧f 5=.int .i64 (i:Int)∧2≤σ.length∧σ[0]?=some (.cells [.isl (p.decls.map GD.enc) false,.isl (p.facts.map GU.enc) false,.isl (p.rules.map GR.enc) false] 0 false)∧σ[1]?=some (.cells [.str r.label,.str r.head,.isl (GT.encs r.args) false,.str r.agg,.int .i64 r.pos,.isl (r.body.map GL.enc) false] 0 false)∧r.body.any (badL p)=(r.body.drop i).any (badL p)) ?_ _ _ ?_
  ·rintro i f σ hi ⟨h2,h3,h5,hN,z0,z1,hB⟩
   have i0:0<σ.length:=by omega
   have i1:1<σ.length:=by omega
   by_cases hlt:i<r.body.length
   ·have hw:IntKind.i64.wrap ((i:Int)+1)=(i:Int)+1:=wr64 (by omega) (by omega)
    have e1:r.body[i]?=some r.body[i]:=zqF hlt
    have hk1:=hk _ (zqT hlt)
    rw [zqM hlt,List.any_cons] at hB
    by_cases hkd:r.body[i].kind≤2
    ·by_cases hbad:arityP p r.body[i].name=(r.body[i].args.length:Int)
     ·have:badL p r.body[i]=false:=by unfold badL; simp [hbad]
      rw [this,Bool.false_or] at hB
      simp [h2,h3,h5,z0,z1,i0,i1,hlt,e1,hA,hkd,hbad,hw,setRun,GL.enc_eq,hB,-getElem?_pos,zqA,zqB,zqE,zqD]
      omega
     ·have:badL p r.body[i]=true:=by
       unfold badL
       have:r.body[i].kind=1∨r.body[i].kind=2:=by omega
       simp [hbad,this]
      rw [this,Bool.true_or] at hB
      have hP:ruleP p r=60:=by unfold ruleP relsB; rw [hB]; simp
      simp [h2,h3,h5,z0,z1,i0,i1,hlt,e1,hA,hkd,hbad,hw,setRun,GL.enc_eq,hP,-getElem?_pos,zqA,zqB,zqE,zqD]
    ·have:badL p r.body[i]=false:=by
      unfold badL
      have h1:¬ r.body[i].kind=1:=by omega
      have h2:¬ r.body[i].kind=2:=by omega
      simp [h1,h2]
     rw [this,Bool.false_or] at hB
     simp [h2,h3,h5,z0,z1,i0,i1,hlt,e1,hA,hkd,hw,setRun,GL.enc_eq,hB,-getElem?_pos,zqA,zqB,zqE,zqD]
     omega
   ·have hei:i=r.body.length:=by omega
    subst hei
    rw [List.drop_length,List.any_nil] at hB
    have hrel:relsB p r=true:=by unfold relsB; rw [hB]; simp [hh]
    have hP:ruleP p r=if (goB [] r.body).1≠0 then (goB [] r.body).1 else if allB (goB [] r.body).2 r.args=false then 61 else 0:=by unfold ruleP; rw [hrel]; simp
    simp [h2,h3,h5,z0,z1]
    refine W_for T 0 108 r.body.length (fun i f τ=>f 2=.ptr 0 0∧f 3=.ptr 1 0∧f 8=.int .i64 (i:Int)∧2≤τ.length∧τ[1]?=some (AObj.cells [.str r.label,.str r.head,.isl (GT.encs r.args) false,.str r.agg,.int .i64 r.pos,.isl (r.body.map GL.enc) false] 0 false)∧∃ b c:List ByteArray,SameM b c∧goB [] r.body=goB b (r.body.drop i)∧c.length≤9 * i∧LO 2 1 false τ (c.map .str) (f 7)) ?_ _ _ ?_
    ·rintro i f τ hi ⟨g2,g3,g8,gN,y1,b,c,hS,hg,hcl,hO⟩
     have j1:1<τ.length:=by omega
     by_cases hlt:i<r.body.length
     ·have hw:IntKind.i64.wrap ((i:Int)+1)=(i:Int)+1:=wr64 (by omega) (by omega)
      have e1:r.body[i]?=some r.body[i]:=zqF hlt
      have hbs:=GR.body_mem r (zqT hlt)
      have hba:=GL.args_le r.body[i]
      rw [zqM hlt] at hg
      have hgo:goB b (r.body[i] :: r.body.drop (i+1))=if (takesP b r.body[i]).1≠0 then takesP b r.body[i] else goB (takesP b r.body[i]).2 (r.body.drop (i+1)):=rfl
      rw [hgo] at hg
      by_cases hk1:r.body[i].kind=1
      ·have hal:=ha _ (zqT hlt) hk1
       have htk:takesB b r.body[i]=(tops r.body[i].args).foldl addB b:=by unfold takesB; rw [if_pos hk1]
       have hS':=hS.fold (tops r.body[i].args)
       have htl:=tops_len r.body[i].args
       simp [g2,g3,g8,y1,j1,hlt,e1,hk1,setRun,GL.enc_eq,-appendA_s,-getElem?_pos,zqA,zqB,zqC,list_set_at,zqE,zqD]
       obtain ⟨m,hm⟩:∃ m,τ.length=m:=⟨_,rfl⟩
       rw [hm]
       refine W_for T 0 108 r.body[i].args.length (fun j f υ=>f 2=.ptr 0 0∧f 3=.ptr 1 0∧f 8=.int .i64 (i:Int)∧f 9=.ptr m 0∧f 10=.int .i64 (j:Int)∧m+1≤υ.length∧υ[1]?=some (AObj.cells [.str r.label,.str r.head,.isl (GT.encs r.args) false,.str r.agg,.int .i64 r.pos,.isl (r.body.map GL.enc) false] 0 false)∧υ[m]?=some (AObj.cells [.int .i64 1,.str r.body[i].name,.isl (GT.encs r.body[i].args) false] 0 false)∧LO 2 1 false υ ((c++tops (r.body[i].args.take j)).map .str) (f 7)) ?_ _ _ ?_
       ·rintro j f υ hj ⟨k2,k3,k8,k9,k10,kN,x1,xm,kO⟩
        have i1:1<υ.length:=by omega
        have im:m<υ.length:=by omega
        by_cases hjl:j<r.body[i].args.length
        ·have hwj:IntKind.i64.wrap ((j:Int)+1)=(j:Int)+1:=wr64 (by omega) (by omega)
         have e2:r.body[i].args[j]?=some r.body[i].args[j]:=zqF hjl
         have htp:=tops_len (r.body[i].args.take j)
         have htt:(r.body[i].args.take j).length≤8:=by simp; omega
         rw [zqO hjl,tops_snoc]
         by_cases hv:r.body[i].args[j].kind=1
         ·rw [if_pos hv]
          simp [k2,k3,k8,k9,k10,x1,xm,i1,im,hjl,e2,hv,GT.enc_eq,-appendA_s,-getElem?_pos,zqA,zqB,zqC,list_set_at,zqE,zqD]
          refine stW_s1 (N:=2) (bytes:=16) (v:=.str r.body[i].args[j].name) kO rfl rfl rfl (by omega) (by omega) (by simp; omega) fun z υ1 hO1 l1 q3 q4=>?_
          have x1':=q4 1 _ x1 (by simp)
          have xm':=q4 m _ xm (by simp)
          simp [k2,k3,k8,k9,k10,hwj,x1',xm']
          exact ⟨by omega,by simpa using hO1⟩
         ·rw [if_neg hv]
          simp [k2,k3,k8,k9,k10,x1,xm,i1,im,hjl,e2,hv,hwj,GT.enc_eq,-appendA_s,-getElem?_pos,zqA,zqB,zqC,list_set_at,zqE,zqD]
          exact ⟨by omega,by simpa using kO⟩
        ·have hej:j=r.body[i].args.length:=by omega
         subst hej
         rw [List.take_length] at kO
         have hfr:=callRFree (c++tops r.body[i].args) r.body[i].args (by simp; omega) (by omega) kO
         rw [←hS'.all] at hfr
         have hk4:¬ r.body[i].kind=4:=by omega
         cases hal2:allB ((tops r.body[i].args).foldl addB b) r.body[i].args with
         | false=>
          have ht:takesP b r.body[i]=(61,(tops r.body[i].args).foldl addB b):=by unfold takesP; rw [htk,if_pos hal2]
          rw [ht] at hg
          have hP':ruleP p r=61:=by rw [hP,hg]; simp
          rw [hal2] at hfr
          simp [k2,k3,k8,k9,k10,x1,xm,i1,im,hfr,sym,setRun,hP',-appendA_s,-getElem?_pos,zqA,zqB,zqC,list_set_at,zqE,zqD]
         | true=>
          have ht:takesP b r.body[i]=(0,(tops r.body[i].args).foldl addB b):=by unfold takesP; rw [htk,hal2]; simp [hk4]
          rw [ht] at hg
          rw [hal2] at hfr
          simp [k2,k3,k8,k9,k10,x1,xm,i1,im,hfr,sym,hw,setRun,-appendA_s,-getElem?_pos,zqA,zqB,zqC,list_set_at,zqE,zqD]
          exact ⟨by omega,_,_,hS',by simpa using hg,by simp; omega,by simpa using kO⟩
       ·simp [g2,g3,g8,hm,y1,j1,hk1,-appendA_s,-getElem?_pos,zqA,zqB,zqC,list_set_at,zqE,zqD]
        exact ⟨by rw [zqA j1]; exact y1,by simpa [tops] using hO.keep (τ:=τ++[AObj.cells [.int .i64 1,.str r.body[i].name,.isl (GT.encs r.body[i].args) false] 0 false]) fun i o _ hi=>by rw [zqA (zqI.1 hi).1]; exact hi⟩
      ·have htk:takesB b r.body[i]=b:=by unfold takesB; rw [if_neg hk1]
       have hfr:=callRFree c r.body[i].args (by omega) (by omega) hO
       rw [←hS.all] at hfr
       have hOk:=hO.keep (τ:=τ++[AObj.cells [.int .i64 r.body[i].kind,.str r.body[i].name,.isl (GT.encs r.body[i].args) false] 0 false]) fun i o _ hi=>by rw [zqA (zqI.1 hi).1]; exact hi
       have jm:∀ o:AObj,(τ++[o])[1]?=some (AObj.cells [.str r.label,.str r.head,.isl (GT.encs r.args) false,.str r.agg,.int .i64 r.pos,.isl (r.body.map GL.enc) false] 0 false):=fun o=>by rw [zqA j1]; exact y1
       cases hal2:allB b r.body[i].args with
       | false=>
        have ht:takesP b r.body[i]=(61,b):=by unfold takesP; rw [htk,if_pos hal2]
        rw [ht] at hg
        have hP':ruleP p r=61:=by rw [hP,hg]; simp
        rw [hal2] at hfr
        simp [g2,g3,g8,y1,j1,hlt,e1,hk1,hfr,sym,setRun,GL.enc_eq,hP',-appendA_s,-getElem?_pos,zqA,zqB,zqC,list_set_at,zqE,zqD]
       | true=>
        rw [hal2] at hfr
        by_cases hk4:r.body[i].kind=4
        ·have hhs:=callRHasO c r.body[i].name (by omega) hO
         cases hme:memB r.body[i].name c with
         | true=>
          have ht:takesP b r.body[i]=(62,b):=by unfold takesP; rw [htk,hal2]; simp [hk4,hS _,hme]
          rw [ht] at hg
          have hP':ruleP p r=62:=by rw [hP,hg]; simp
          rw [hme] at hhs
          simp [g2,g3,g8,y1,j1,hlt,e1,hk4,hfr,hhs,sym,setRun,GL.enc_eq,hP',-appendA_s,-getElem?_pos,zqA,zqB,zqC,list_set_at,zqE,zqD]
         | false=>
          have ht:takesP b r.body[i]=(0,addB b r.body[i].name):=by unfold takesP; rw [htk,hal2]; simp [hk4,hS _,hme]
          rw [ht] at hg
          rw [hme] at hhs
          simp [g2,g3,g8,y1,j1,hlt,e1,hk4,hfr,hhs,sym,setRun,GL.enc_eq,-appendA_s,-getElem?_pos,zqA,zqB,zqC,list_set_at,zqE,zqD]
          have q1:τ++[AObj.cells [.int .i64 4,.str r.body[i].name,.isl (GT.encs r.body[i].args) false] 0 false,AObj.cells [.str r.body[i].name] 0 false]=(τ++[AObj.cells [.int .i64 4,.str r.body[i].name,.isl (GT.encs r.body[i].args) false] 0 false])++[AObj.cells [.str r.body[i].name] 0 false]:=by simp
          have q2:τ.length+1=(τ++[AObj.cells [.int .i64 4,.str r.body[i].name,.isl (GT.encs r.body[i].args) false] 0 false]).length:=by simp
          rw [hk4] at hOk
          rw [q1,q2]
          refine stW_s1 (N:=2) (bytes:=16) (v:=.str r.body[i].name) hOk rfl rfl rfl (by omega) (by simp; omega) (by simp; omega) fun z υ1 hO1 l1 q3 q4=>?_
          have x1':=q4 1 _ (jm _) (by simp)
          simp at l1
          simp [g2,g3,g8,hw,x1']
          exact ⟨by omega,_,_,hS.add _,by simpa using hg,by simp; omega,by simpa using hO1⟩
        ·have ht:takesP b r.body[i]=(0,b):=by unfold takesP; rw [htk,hal2]; simp [hk4]
         rw [ht] at hg
         simp [g2,g3,g8,y1,j1,hlt,e1,hk1,hk4,hfr,sym,hw,setRun,GL.enc_eq,-appendA_s,-getElem?_pos,zqA,zqB,zqC,list_set_at,zqE,zqD]
         exact ⟨by omega,_,_,hS,by simpa using hg,by omega,hOk⟩
     ·have hei:i=r.body.length:=by omega
      subst hei
      rw [List.drop_length] at hg
      have hg':goB [] r.body=(0,b):=hg
      have hfr:=callRFree c r.args (by omega) (by omega) hO
      rw [←hS.all] at hfr
      cases hal2:allB b r.args with
      | false=>
       have hP':ruleP p r=61:=by rw [hP,hg']; simp [hal2]
       rw [hal2] at hfr
       simp [g2,g3,g8,y1,j1,hfr,sym,setRun,hP',-appendA_s,-getElem?_pos,zqA,zqB,zqC,list_set_at,zqE,zqD]
      | true=>
       have hP':ruleP p r=0:=by rw [hP,hg']; simp [hal2]
       rw [hal2] at hfr
       simp [g2,g3,g8,y1,j1,hfr,sym,setRun,hP',-appendA_s,-getElem?_pos,zqA,zqB,zqC,list_set_at,zqE,zqD]
    ·simp [h2,h3,hN,z1]
     exact ⟨[],[],fun _=>rfl,rfl,by simp,.inl ⟨rfl,rfl⟩⟩
  ·simp
 ·have hP:ruleP p r=60:=by unfold ruleP relsB; simp [hh]
  simp [c39,GP.enc_eq,GR.enc_eq,hA,hh,setRun,hP]
set_option maxRecDepth 100000
open Go.Mach
theorem rule_facts {r:GR} (h:ruleB r=true):(∀ l∈r.body,1≤l.kind)∧(∀ l∈r.body,l.kind=1→l.args.length≤8)∧r.body.length≤8:=by
 unfold ruleB at h
 simp only [zqL,decide_eq_true_eq] at h
 obtain ⟨⟨⟨⟨⟨_,_⟩,_⟩,b4⟩,b5⟩,_⟩:=h
 refine ⟨fun l hl=>?_,fun l hl hk=>?_,b4.2⟩
 ·have:=zqQ.1 b5 l hl
  unfold litB at this
  split at this
  ·omega
  split at this
  ·omega
  split at this
  ·omega
  ·cases this
 ·have:=zqQ.1 b5 l hl
  unfold litB argsB at this
  rw [if_pos (.inl hk)] at this
  simp only [zqL,decide_eq_true_eq] at this
  exact this.2.1.1.2
theorem callRRule (p:GP) (r:GR) (hp:p.decls.length≤1000000000) (hr:r.size≤1000000000) (hb:ruleB r=true) (bs:Nat) (σ:Heap):callT T 39 [p.enc,r.enc] bs σ=some (.int .i64 (ruleP p r),σ):=by
 obtain ⟨h1,h2,h3⟩:=rule_facts hb
 exact call_clean rfl rfl rfl (by simp [GP.enc_eq]) (rRule_ok p r hp hr h1 h2 h3)
theorem dupD_iff:∀ (l:List GD) (b:List ByteArray),dupD b l=true↔∃ i,∃ h:i<l.length,l[i].name∈b∨∃ k,∃ h2:k<i,l[k].name=l[i].name
 | [],b=>by simp [dupD]
 | d :: l,b=>by
  simp only [dupD,Bool.or_eq_true,memB_iff,dupD_iff l]
  constructor
  ·rintro (h | ⟨i,hi,h⟩)
   ·exact ⟨0,by simp,.inl h⟩
   ·refine ⟨i+1,by simpa using hi,?_⟩
    rcases h with h | ⟨k,hk,h⟩
    ·rcases (mem_addB7 _ _ _).1 h with h | h
     ·exact .inl h
     ·exact .inr ⟨0,by omega,h.symm⟩
    ·exact .inr ⟨k+1,by omega,h⟩
  ·rintro ⟨i,hi,h⟩
   cases i with
   | zero=>
    rcases h with h | ⟨k,hk,_⟩
    ·exact .inl h
    ·omega
   | succ i=>
    right
    refine ⟨i,by simpa using hi,?_⟩
    rcases h with h | ⟨k,hk,h⟩
    ·exact .inl ((mem_addB7 _ _ _).2 (.inl h))
    ·cases k with
     | zero=>exact .inl ((mem_addB7 _ _ _).2 (.inr h.symm))
     | succ k=>exact .inr ⟨k,by omega,h⟩
set_option maxRecDepth 100000
open Go.Mach
set_option maxHeartbeats 4000000 in
theorem rCheck6_ok (p:GP) (hp:p.size≤1000000000):pureT T c22 [p.enc]=some (res2 (checkP p)):=by
 have hR:=callR4Right p (by omega)
 have hl:=GP.rules_len p
 have hdl:=GP.decls_len p
 have hA:=fun n=>callRArity p n (by omega)
 simp only [GP.enc_eq] at hR hA
 apply pure_enter (by simp [c22])
 by_cases hr:progB p=true
 ·rw [hr] at hR
  have hpb:=hr
  unfold progB at hpb
  simp only [zqL,decide_eq_true_eq] at hpb
  obtain ⟨⟨⟨⟨l1,l2,l3⟩,b2⟩,b3⟩,b4⟩:=hpb
  have hRu:∀ x∈p.rules,∀ bs σ,callT T 39 [p.enc,x.enc] bs σ=some (.int .i64 (ruleP p x),σ):=fun x hx bs σ=>callRRule p x (by omega) (by have:=GP.rules_mem p hx; omega) (zqQ.1 b3 x hx) bs σ
  simp [c22,GP.enc_eq,hR,sym]
  refine W_for T 0 80 p.decls.length (fun i f τ=>f 1=.ptr 0 0∧f 5=.int .i64 (i:Int)∧τ=[pCells p]∧∀ a,(ha:a<p.decls.length)→a<i→∀ k,(hk:k<a)→p.decls[k].name≠p.decls[a].name) ?_ _ _ ?_
  ·rintro i f τ hi ⟨h1,h5,rfl,hD⟩
   by_cases hlt:i<p.decls.length
   ·have hw:IntKind.i64.wrap ((i:Int)+1)=(i:Int)+1:=wr64 (by omega) (by omega)
    have e1:p.decls[i]?=some p.decls[i]:=zqF hlt
    simp [h1,h5,hlt,pCells]
    refine W_for T 0 80 i (fun k f τ=>f 1=.ptr 0 0∧f 5=.int .i64 (i:Int)∧f 6=.int .i64 (k:Int)∧τ=[pCells p]∧∀ k',(hk:k'<k)→(h2:k'<p.decls.length)→p.decls[k'].name≠p.decls[i].name) ?_ _ _ ?_
    ·rintro k f τ hk ⟨g1,g5,g6,rfl,hE⟩
     by_cases hkl:k<i
     ·have hwk:IntKind.i64.wrap ((k:Int)+1)=(k:Int)+1:=wr64 (by omega) (by omega)
      have hkl2:k<p.decls.length:=by omega
      have e2:p.decls[k]?=some p.decls[k]:=zqF hkl2
      by_cases hn:p.decls[k].name=p.decls[i].name
      ·have hdup:dupD [] p.decls=true:=(dupD_iff _ _).2 ⟨i,hlt,.inr ⟨k,hkl,hn⟩⟩
       simp [g1,g5,g6,hkl,hkl2,hlt,e1,e2,hn,setRun,pCells,checkP,hr,hdup]
      ·simp [g1,g5,g6,hkl,hkl2,hlt,e1,e2,hn,hwk,pCells]
       intro k' hk' h2
       by_cases e:k'=k
       ·subst e; exact hn
       ·exact hE k' (by omega) h2
     ·have he:k=i:=by omega
      subst he
      simp [g1,g5,g6,hw,pCells]
      intro a ha hai k' hk'
      by_cases e:a=k
      ·subst e; exact hE k' hk' (by omega)
      ·exact hD a ha (by omega) k' hk'
    ·simp [h1,h5,pCells]
   ·have he:i=p.decls.length:=by omega
    have hdup:dupD [] p.decls=false:=by
     cases hd:dupD [] p.decls with
     | false=>rfl
     | true=>
      obtain ⟨a,ha,h⟩:=(dupD_iff _ _).1 hd
      rcases h with h | ⟨k,hk,h⟩
      ·cases h
      ·exact absurd h (hD a ha (by omega) k hk)
    simp [h1,h5,he,pCells]
    refine W_for T 0 80 p.facts.length (fun i f τ=>f 1=.ptr 0 0∧f 7=.int .i64 (i:Int)∧τ=[pCells p]∧p.facts.any (badF p)=(p.facts.drop i).any (badF p)) ?_ _ _ ?_
    ·rintro i f τ hi ⟨g1,g7,rfl,hF⟩
     by_cases hlt:i<p.facts.length
     ·have hw:IntKind.i64.wrap ((i:Int)+1)=(i:Int)+1:=wr64 (by omega) (by omega)
      have e1:p.facts[i]?=some p.facts[i]:=zqF hlt
      rw [zqM hlt,List.any_cons] at hF
      by_cases hb:arityP p p.facts[i].name=(p.facts[i].args.length:Int)
      ·have:badF p p.facts[i]=false:=by unfold badF; simp [hb]
       rw [this,Bool.false_or] at hF
       simp [g1,g7,hlt,e1,hA,hb,hw,pCells,GU.enc_eq,hF]
      ·have:badF p p.facts[i]=true:=by unfold badF; simp [hb]
       rw [this,Bool.true_or] at hF
       simp [g1,g7,hlt,e1,hA,hb,setRun,pCells,GU.enc_eq,checkP,hr,hdup,hF]
     ·have he:i=p.facts.length:=by omega
      subst he
      rw [List.drop_length,List.any_nil] at hF
      have hck:checkP p=firstP p p.rules 0:=by unfold checkP; simp [hr,hdup,hF]
      rw [hck]
      simp [g1,g7,pCells]
      refine W_for T 0 80 p.rules.length (fun i f τ=>f 1=.ptr 0 0∧f 8=.int .i64 (i:Int)∧τ=[pCells p]∧firstP p p.rules 0=firstP p (p.rules.drop i) i) ?_ _ _ ?_
      ·rintro i f τ hi ⟨k1,k8,rfl,hP⟩
       by_cases hlt:i<p.rules.length
       ·have hw:IntKind.i64.wrap ((i:Int)+1)=(i:Int)+1:=wr64 (by omega) (by omega)
        have e1:p.rules[i]?=some p.rules[i]:=zqF hlt
        have hc:=hRu _ (zqT hlt)
        simp only [GP.enc_eq,GR.enc_eq] at hc
        rw [zqM hlt] at hP
        simp only [firstP] at hP
        by_cases h0:ruleP p p.rules[i]=0
        ·rw [if_neg (by simp [h0])] at hP
         simp [k1,k8,hlt,e1,hc,h0,hw,pCells,GR.enc_eq,hP]
        ·rw [if_pos h0] at hP
         simp [k1,k8,hlt,e1,hc,h0,setRun,pCells,GR.enc_eq,hP]
       ·have he:i=p.rules.length:=by omega
        subst he
        rw [List.drop_length] at hP
        have hP':firstP p p.rules 0=(0,-1):=hP
        simp [k1,k8,setRun,pCells,hP']
      ·simp [g1,pCells]
    ·simp [h1,pCells]
  ·simp [pCells]
 ·have hr':progB p=false:=by simpa using hr
  rw [hr'] at hR
  simp [c22,GP.enc_eq,hR,sym,setRun,checkP,hr']
set_option maxRecDepth 100000
open Go.Mach
theorem rLink_ok (body:List GL) (a b:ByteArray) (hb:body.length≤100000000):pureT T c69 [.isl (body.map GL.enc) false,.str a,.str b]=some (.bool (linkedB body a b)):=by
 apply pure_enter (by simp [c69])
 simp [c69]
 refine W_for T 0 59 body.length (fun i f σ=>f 0=.isl (body.map GL.enc) false∧f 1=.str a∧f 2=.str b∧f 7=.int .i64 (i:Int)∧linkedB body a b=linkedB (body.drop i) a b) ?_ _ _ ?_
 ·rintro i f σ hi ⟨h0,h1,h2,h7,hg⟩
  by_cases hlt:i<body.length
  ·have hw:IntKind.i64.wrap ((i:Int)+1)=(i:Int)+1:=wr64 (by omega) (by omega)
   have e1:body[i]?=some body[i]:=zqF hlt
   rw [zqM hlt] at hg
   have hc:linkedB (body[i] :: body.drop (i+1)) a b=(link1 a b body[i] || linkedB (body.drop (i+1)) a b):=rfl
   rw [hc] at hg
   by_cases hl:link1 a b body[i]=true
   ·rw [hl,Bool.true_or] at hg
    have hl':=hl
    unfold link1 at hl
    simp only [zqL,decide_eq_true_eq] at hl
    obtain ⟨⟨⟨⟨⟨k1,k2⟩,k3⟩,k4⟩,k5⟩,k6⟩:=hl
    match hargs:body[i].args with
    | []=>rw [hargs] at k3; simp at k3
    | [x]=>rw [hargs] at k3; simp at k3
    | x :: y :: rest=>
     rw [hargs] at k4 k5 k6
     simp at k4 k5 k6
     have e3:GT.encs (x :: y :: rest)=x.enc :: y.enc :: GT.encs rest:=rfl
     have hl2:(1:Int)<(rest.length:Int)+1+1:=by omega
     simp [h0,h1,h2,h7,hlt,e1,setRun,k1,k2,hargs,e3,hl2,k4,k5,k6,hg]
   ·have hl':link1 a b body[i]=false:=by simpa using hl
    rw [hl',Bool.false_or] at hg
    have fin:∀ P:Prop,P→True:=fun _ _=>trivial
    by_cases k1:body[i].kind=1
    ·by_cases k2:body[i].name=sLink
     ·match hargs:body[i].args with
      | []=>simp [h0,h1,h2,h7,hlt,e1,setRun,k1,k2,hargs,hw,hg]
      | [x]=>simp [h0,h1,h2,h7,hlt,e1,setRun,k1,k2,hargs,hw,hg]
      | x :: y :: rest=>
       have e3:GT.encs (x :: y :: rest)=x.enc :: y.enc :: GT.encs rest:=rfl
       have hl2:(1:Int)<(rest.length:Int)+1+1:=by omega
       by_cases k5:y.kind=1
       ·by_cases k4:x.name=a
        ·by_cases k6:y.name=b
         ·exfalso
          apply hl
          unfold link1
          rw [hargs]
          simp [k1,k2,k4,k5,k6]
         ·simp [h0,h1,h2,h7,hlt,e1,setRun,k1,k2,hargs,e3,hl2,k4,k5,k6,hw,hg]
        ·simp [h0,h1,h2,h7,hlt,e1,setRun,k1,k2,hargs,e3,hl2,k4,k5,hw,hg]
       ·simp [h0,h1,h2,h7,hlt,e1,setRun,k1,k2,hargs,e3,hl2,k5,hw,hg]
     ·simp [h0,h1,h2,h7,hlt,e1,setRun,k1,k2,hw,hg]
    ·simp [h0,h1,h2,h7,hlt,e1,setRun,k1,hw,hg]
  ·have he:i=body.length:=by omega
   subst he
   rw [List.drop_length] at hg
   have hg':linkedB body a b=false:=hg
   simp [h0,h1,h2,h7,hg']
 ·simp
theorem callRLink (body:List GL) (a b:ByteArray) (hb:body.length≤100000000) (bs:Nat) (σ:Heap):callT T 69 [.isl (body.map GL.enc) false,.str a,.str b] bs σ=some (.bool (sym (linkedB body a b)),σ):=call_clean rfl rfl rfl (by simp) (rLink_ok body a b hb)
def varP (l:List GT):ByteArray:=match l with
 | []=>nilB
 | t :: _=>if t.kind=1 then t.name else nilB
theorem rVar_ok (l:List GT):pureT T c68 [.isl (GT.encs l) false]=some (.str (varP l)):=by
 apply pure_enter (by simp [c68])
 cases l with
 | nil=>simp [c68,setRun,varP,GT.encs]
 | cons t l=>
  have e3:GT.encs (t :: l)=t.enc :: GT.encs l:=rfl
  have h1:¬ ((l.length:Int)+1=0):=by omega
  by_cases hk:t.kind=1
  ·simp [c68,setRun,varP,e3,h1,hk,GT.enc_eq]
  ·simp [c68,setRun,varP,e3,h1,hk,GT.enc_eq]
theorem callRVar (l:List GT) (bs:Nat) (σ:Heap):callT T 68 [.isl (GT.encs l) false] bs σ=some (.str (varP l),σ):=call_clean rfl rfl rfl (by simp) (rVar_ok l)
open Go.Mach
def firstL (a b:ByteArray):List GL→Nat→Option Int
 | [],_=>none
 | l :: ls,i=>if link1 a b l=true then some (i:Int) else firstL a b ls (i+1)
theorem look_first:∀ (ls:List GL) (i:Nat) (s t:RS),readGo ls i s=some t→∀ a b,lookW t.links a b=if (lookW s.links a b).isSome=true then lookW s.links a b else firstL a b ls i
 | [],i,s,t,h,a,b=>by
  injection h with h; subst h
  unfold firstL
  split
  ·rfl
  ·rename_i hn
   cases hl:lookW s.links a b with
   | none=>rfl
   | some v=>rw [hl] at hn; exact absurd rfl hn
 | l :: ls,i,s,t,h,c,d=>by
  simp only [readGo] at h
  by_cases hk:l.kind=1∨l.kind=2
  ·rw [if_pos hk] at h
   cases ha:l.args with
   | nil=>rw [ha] at h; cases h
   | cons a rest=>
    rw [ha] at h
    simp only at h
    by_cases hv:a.kind=1
    ·rw [if_pos hv] at h
     rw [look_first ls (i+1) _ t h]
     have hl0:l.args[0]?=some a:=by rw [ha]; rfl
     have h1:link1 c d l=true↔l.kind=1∧linkL l=true∧a.name=c∧arg1 l=d:=by
      rw [link1_iff]
      unfold linkOf
      constructor
      ·rintro ⟨q1,q2,⟨x,hx,e⟩,q4⟩
       rw [hl0] at hx; injection hx with hx; subst hx
       exact ⟨q1,q2,e,q4⟩
      ·rintro ⟨q1,q2,e,q4⟩
       exact ⟨q1,q2,⟨a,hl0,e⟩,q4⟩
     have hF:firstL c d (l :: ls) i=if link1 c d l=true then some (i:Int) else firstL c d ls (i+1):=rfl
     rw [hF]
     unfold stepR
     by_cases hk2:l.kind=2
     ·rw [if_pos hk2]
      have hn:¬ link1 c d l=true:=fun e=>by have:=(h1.1 e).1; omega
      rw [if_neg hn]
     ·rw [if_neg hk2]
      have hk1:l.kind=1:=hk.resolve_right hk2
      simp only
      by_cases hll:linkL l=true
      ·rw [if_pos hll,lookW_set]
       by_cases hs:(lookW s.links c d).isSome=true
       ·rw [if_pos hs,if_pos hs,if_pos hs]
       ·rw [if_neg hs,if_neg hs]
        by_cases he:a.name=c∧arg1 l=d
        ·rw [if_pos he,if_pos (by rfl),if_pos (h1.2 ⟨hk1,hll,he.1,he.2⟩)]
        ·rw [if_neg he,if_neg (by simp),if_neg (fun e=>he ⟨(h1.1 e).2.2.1,(h1.1 e).2.2.2⟩)]
      ·rw [if_neg hll,if_neg (fun e=>hll (h1.1 e).2.1)]
    ·rw [if_neg hv] at h; cases h
  ·rw [if_neg hk] at h
   rw [look_first ls (i+1) s t h]
   have hn:¬ link1 c d l=true:=fun e=>hk (.inl ((link1_iff c d l).1 e).1)
   have hF:firstL c d (l :: ls) i=firstL c d ls (i+1):=by simp only [firstL,if_neg hn]
   rw [hF]
theorem readP_first {body:List GL} {s:RS} (h:readP body=some s) (a b:ByteArray):lookW s.links a b=firstL a b body 0:=by
 unfold readP at h
 cases hg:readGo body 0 ⟨[],[],0⟩ with
 | none=>rw [hg] at h; cases h
 | some t=>
  rw [hg] at h
  simp only at h
  split at h
  ·injection h with h; subst h
   have:=look_first body 0 _ _ hg a b
   rw [this]; rfl
  ·cases h
open Go.Mach
def dirL (a b:ByteArray):List GL→Option Bool
 | []=>none
 | l :: ls=>if link1 a b l=true then some true else if link1 b a l=true then some false else dirL a b ls
theorem firstL_ge (a b:ByteArray):∀ (ls:List GL) (i:Nat) (v:Int),firstL a b ls i=some v→(i:Int)≤v
 | [],i,v,h=>by cases h
 | l :: ls,i,v,h=>by
  simp only [firstL] at h
  split at h
  ·injection h with h; omega
  ·have:=firstL_ge a b ls (i+1) v h; omega
theorem link1_two {a b:ByteArray} {l:GL} (h1:link1 a b l=true) (h2:link1 b a l=true):a=b:=by
 obtain ⟨_,_,⟨t,ht,e1⟩,_⟩:=(link1_iff a b l).1 h1
 obtain ⟨_,_,⟨u,hu,e2⟩,_⟩:=(link1_iff b a l).1 h2
 rw [ht] at hu; injection hu with hu; subst hu
 rw [←e1,←e2]
theorem dirL_spec {a b:ByteArray} (hne:a≠b):∀ (ls:List GL) (i:Nat),dirL a b ls=match firstL a b ls i,firstL b a ls i with
  | none,none=>none
  | some _,none=>some true
  | none,some _=>some false
  | some x,some y=>some (decide (¬ y<x))
 | [],i=>rfl
 | l :: ls,i=>by
  simp only [dirL,firstL]
  by_cases h1:link1 a b l=true
  ·have h2:¬ link1 b a l=true:=fun e=>hne (link1_two h1 e)
   simp only [if_pos h1,if_neg h2]
   cases h:firstL b a ls (i+1) with
   | none=>rfl
   | some v=>
    have:=firstL_ge b a ls (i+1) v h
    show some true=some (decide (¬ v<(i:Int)))
    rw [decide_eq_true (by omega)]
  ·simp only [if_neg h1]
   by_cases h2:link1 b a l=true
   ·simp only [if_pos h2]
    cases h:firstL a b ls (i+1) with
    | none=>rfl
    | some v=>
     have:=firstL_ge a b ls (i+1) v h
     show some false=some (decide (¬ (i:Int)<v))
     rw [decide_eq_false (by omega)]
   ·simp only [if_neg h2]
    exact dirL_spec hne ls (i+1)
set_option maxRecDepth 100000
open Go.Mach
theorem varP_lit {l:GL} (h:litB l=true) (hk:l.kind=1∨l.kind=2):∃ a rest,l.args=a :: rest∧(varP l.args=nilB↔¬ a.kind=1)∧(a.kind=1→varP l.args=a.name):=by
 obtain ⟨_,h2⟩:=lit_names h hk
 cases ha:l.args with
 | nil=>exact absurd ha (lit_args h hk)
 | cons a rest=>
  refine ⟨a,rest,rfl,⟨fun e hv=>?_,fun hv=>?_⟩,fun hv=>?_⟩
  ·have hn:=h2 a (by rw [ha]; simp) hv
   unfold varP at e
   simp only [if_pos hv] at e
   exact hn e
  ·unfold varP; simp only [if_neg hv]
  ·unfold varP; simp only [if_pos hv]
theorem read_ne:∀ (ls:List GL) (i:Nat) (s t:RS),readGo ls i s=some t→(0<s.atoms→s.all≠[])→0<t.atoms→t.all≠[]
 | [],i,s,t,h,h0=>by injection h with h; subst h; exact h0
 | l :: ls,i,s,t,h,h0=>by
  simp only [readGo] at h
  by_cases hk:l.kind=1∨l.kind=2
  ·rw [if_pos hk] at h
   cases ha:l.args with
   | nil=>rw [ha] at h; cases h
   | cons a rest=>
    rw [ha] at h
    simp only at h
    by_cases hv:a.kind=1
    ·rw [if_pos hv] at h
     refine read_ne ls (i+1) _ t h fun _=>?_
     have hall:(stepR s l a i).all=addB s.all a.name:=by unfold stepR; split <;> rfl
     rw [hall]; exact add_ne _ _
    ·rw [if_neg hv] at h; cases h
  ·rw [if_neg hk] at h
   exact read_ne ls (i+1) s t h h0
theorem two_dir {body:List GL} {s:RS} (h:readP body=some s) {b c:ByteArray} (hne:b≠c) (head:ByteArray) :
  twoP s b c head=match dirL b c body with
   | none=>none
   | some true=>if head=b∨head=c then some ⟨b,c,head⟩ else none
   | some false=>if head=b∨head=c then some ⟨c,b,head⟩ else none:=by
 rw [dirL_spec hne body 0]
 unfold twoP
 rw [readP_first h b c,readP_first h c b]
 cases firstL b c body 0 with
 | none=>cases firstL c b body 0 <;> rfl
 | some x=>
  cases firstL c b body 0 with
  | none=>rfl
  | some y=>
   by_cases hlt:y<x
   ·simp [hlt]
   ·simp [hlt]
theorem slI_mid {sz:Nat} {es:List AV} {c:Bool} {a n:Nat} (ha:a≤n) (h:n≤es.length) (hz:es.all (lenIs sz)=true):slSlV sz (some (.int .i64 (a:Int))) (some (.int .i64 (n:Int))) (.isl es c)=some (.isl ((es.take n).drop a) false):=by
 have h1:slSlA sz a n (.isl es c)=some (.isl ((es.take n).drop a) false):=by
  have hc:a≤n∧n≤es.length∧(a=0∨es.all (lenIs sz)=true):=⟨ha,h,.inr hz⟩
  simp only [slSlA,if_pos hc]
 have h2:bndV es.length es.length (some (.int .i64 (n:Int)))=some n:=by
  simp only [bndV]; rw [if_pos ⟨by omega,by omega⟩]; rfl
 have h3:bndV n 0 (some (.int .i64 (a:Int)))=some a:=by
  simp only [bndV]; rw [if_pos ⟨by omega,by omega⟩]; rfl
 have h0:¬ isSl (.isl es c)=false:=by simp [isSl]
 have hl:lenA (.isl es c)=some es.length:=rfl
 unfold slSlV
 rw [if_neg h0,hl]
 simp only [Option.bind_some,h2,h3,h1]
theorem linked_one (l:GL) (a b:ByteArray):linkedB [l] a b=link1 a b l:=by unfold linkedB; simp
abbrev PB:ACode:=c40.body
abbrev P7:ACode:=sndC (sndC (sndC (sndC (sndC (sndC (sndC PB))))))
abbrev P8:ACode:=sndC P7
abbrev P10:ACode:=sndC (sndC P8)
abbrev P11:ACode:=sndC P10
def rCells (r:GR):AObj:=.cells [.str r.label,.str r.head,.isl (GT.encs r.args) false,.str r.agg,.int .i64 r.pos,.isl (r.body.map GL.enc) false] 0 false
def plCells (p:GPl):AObj:=.cells [.str p.from',.str p.to,.str p.head] 0 false
def plFin (r:GR) (o:Option GPl):Option GPl:=match o with
 | none=>none
 | some p=>if aggOk r p=true then some p else none
theorem plFin_some (r:GR) (p:GPl):plFin r (some p)=if aggOk r p=true then some p else none:=rfl
theorem place_end (r:GR) (p:GPl) (f:FR) (σ:Heap) {j:Nat} (h1:f 1=.ptr 0 0) (h2:f 2=.ptr 1 0) (h4:f 4=.ptr 2 0) (h5:f 5=.str p.head) (h13:f 13=.ptr j 0)
  (z0:σ[0]?=some (rCells r)) (z1:σ[1]?=some (plCells nilPl)) (z2:σ[2]?=some (plCells nilPl)) (zj:σ[j]?=some (plCells p)) (hl:3≤σ.length) :
  wpK T 0 202 [.code P11] f σ (endP 202 [.cell 2 3 true,.tmp 3] (resPl (if aggOk r p=true then some p else none))):=by
 unfold rCells at z0
 unfold plCells nilPl at z1 z2
 unfold plCells at zj
 have n1:1<σ.length:=by omega
 have n2:2<σ.length:=by omega
 by_cases hag:r.agg=nilB
 ·have h:aggOk r p=true:=by simp [aggOk,hag]
  rw [if_pos h]
  simp [-getElem?_pos,zqC,list_set_at,zqE,zqD,P11,P10,P8,P7,PB,c40,sndC,h1,h2,h4,h5,h13,z0,z1,z2,zj,n1,n2,eq_true hag,setRun,endP,res1,resPl,GPl.enc]
  done
 ·by_cases ht:p.to=nilB
  ·by_cases hh:p.head=p.from'
   ·have h:aggOk r p=true:=by simp [aggOk,ht,hh]
    rw [if_pos h]
    simp [-getElem?_pos,zqC,list_set_at,zqE,zqD,P11,P10,P8,P7,PB,c40,sndC,h1,h2,h4,h5,h13,z0,z1,z2,zj,n1,n2,hag,eq_true ht,hh,setRun,endP,res1,resPl,GPl.enc]
    done
   ·have h:¬ aggOk r p=true:=by simp [aggOk,hag,hh]
    rw [if_neg h]
    simp [-getElem?_pos,zqC,list_set_at,zqE,zqD,P11,P10,P8,P7,PB,c40,sndC,h1,h2,h4,h5,h13,z0,z1,z2,zj,n1,n2,hag,eq_true ht,hh,setRun,endP,res1,resPl,nilPl,GPl.enc,plFin]
    done
  ·have h:¬ aggOk r p=true:=by simp [aggOk,hag,ht]
   rw [if_neg h]
   simp [-getElem?_pos,zqC,list_set_at,zqE,zqD,P11,P10,P8,P7,PB,c40,sndC,h1,h2,h4,h5,h13,z0,z1,z2,zj,n1,n2,hag,ht,setRun,endP,res1,resPl,nilPl,GPl.enc,plFin]
   done
theorem place_one (r:GR) (b head:ByteArray) (f:FR) (σ:Heap) {j k:Nat} (hb:r.body.length≤100000000) (h1:f 1=.ptr 0 0) (h2:f 2=.ptr 1 0) (h4:f 4=.ptr 2 0) (h5:f 5=.str head) (h6:f 6=.own k [.str b]) (h13:f 13=.ptr j 0)
  (z0:σ[0]?=some (rCells r)) (z1:σ[1]?=some (plCells nilPl)) (z2:σ[2]?=some (plCells nilPl)) (zj:σ[j]?=some (plCells ⟨b,nilB,head⟩)) (hl:3≤σ.length) :
  wpK T 0 202 [.code P10] f σ (endP 202 [.cell 2 3 true,.tmp 3] (resPl (plFin r ((if head=b∨linkedB r.body b head=true then some (⟨b,nilB,head⟩:GPl) else none))))):=by
 have tail:=place_end r ⟨b,nilB,head⟩
 have hL:=callRLink r.body b head hb
 have hs:P10=.seq (fstC P10) P11:=rfl
 rw [hs]
 generalize P11=K at tail
 have y0:=z0
 have y1:=z1
 have y2:=z2
 unfold rCells at z0
 unfold plCells nilPl at z1 z2
 have n1:1<σ.length:=by omega
 have n2:2<σ.length:=by omega
 by_cases hh:head=b
 ·have hc:head=b∨linkedB r.body b head=true:=.inl hh
  rw [if_pos hc]
  rw [plFin_some]
  generalize hR:resPl (if aggOk r ⟨b,nilB,head⟩=true then some ⟨b,nilB,head⟩ else none)=R at tail ⊢
  cases hk:linkedB r.body b head with
  | true=>
   rw [hk] at hL
   simp [-getElem?_pos,zqC,list_set_at,zqE,zqD,P11,P10,P8,P7,PB,c40,sndC,fstC,h1,h2,h4,h5,h6,h13,z0,z1,z2,hL,eq_true hh]
   refine tail _ _ ?_ ?_ ?_ ?_ ?_ y0 y1 y2 zj hl <;> simp [h1,h2,h4,h5,h13]
  | false=>
   rw [hk] at hL
   simp [-getElem?_pos,zqC,list_set_at,zqE,zqD,P11,P10,P8,P7,PB,c40,sndC,fstC,h1,h2,h4,h5,h6,h13,z0,z1,z2,hL,eq_true hh]
   refine tail _ _ ?_ ?_ ?_ ?_ ?_ y0 y1 y2 zj hl <;> simp [h1,h2,h4,h5,h13]
 ·cases hk:linkedB r.body b head with
  | true=>
   rw [hk] at hL
   rw [if_pos (.inr rfl)]
   rw [plFin_some]
   generalize hR:resPl (if aggOk r ⟨b,nilB,head⟩=true then some ⟨b,nilB,head⟩ else none)=R at tail ⊢
   simp [-getElem?_pos,zqC,list_set_at,zqE,zqD,P11,P10,P8,P7,PB,c40,sndC,fstC,h1,h2,h4,h5,h6,h13,z0,z1,z2,hL,hh]
   refine tail _ _ ?_ ?_ ?_ ?_ ?_ y0 y1 y2 zj hl <;> simp [h1,h2,h4,h5,h13]
  | false=>
   rw [hk] at hL
   simp [-getElem?_pos,zqC,list_set_at,zqE,zqD,P11,P10,P8,P7,PB,c40,sndC,fstC,h1,h2,h4,h5,h6,h13,z0,z1,z2,n1,n2,hL,hh,setRun,endP,res1,resPl,nilPl,GPl.enc,plFin]
   done
set_option maxRecDepth 100000
open Go.Mach
def dirS (d:Option Bool) (b c a e:ByteArray):Prop:=match d with
 | none=>a=b∧e=nilB
 | some true=>a=b∧e=c
 | some false=>a=c∧e=b
def dirPl (d:Option Bool) (b c head:ByteArray):Option GPl:=match d with
 | none=>none
 | some true=>if head=b∨head=c then some ⟨b,c,head⟩ else none
 | some false=>if head=b∨head=c then some ⟨c,b,head⟩ else none
def elsC:ACode→ACode
 | .cond _ _ b=>b
 | c=>c
def thnC:ACode→ACode
 | .cond _ a _=>a
 | c=>c
abbrev PL:ACode:=fstC (elsC (sndC (fstC P10)))
abbrev PC:ACode:=sndC (elsC (sndC (fstC P10)))
theorem place_chk (r:GR) (b c head a e:ByteArray) (D:Option Bool) (f:FR) (σ:Heap) {j:Nat} (hbn:b≠nilB) (hcn:c≠nilB) (hd:dirS D b c a e) (h1:f 1=.ptr 0 0) (h2:f 2=.ptr 1 0) (h4:f 4=.ptr 2 0) (h5:f 5=.str head) (h13:f 13=.ptr j 0)
  (z0:σ[0]?=some (rCells r)) (z1:σ[1]?=some (plCells nilPl)) (z2:σ[2]?=some (plCells nilPl)) (zj:σ[j]?=some (plCells ⟨a,e,head⟩)) (hl:3≤σ.length) :
  wpK T 0 202 [.code PC,.code P11] f σ (endP 202 [.cell 2 3 true,.tmp 3] (resPl (plFin r (dirPl D b c head)))):=by
 have tail:=place_end r
 generalize P11=K at tail
 have y0:=z0
 have y1:=z1
 have y2:=z2
 have yj:=zj
 unfold plCells nilPl at z1 z2
 unfold plCells at zj
 have n1:1<σ.length:=by omega
 have n2:2<σ.length:=by omega
 have main:e≠nilB→(dirPl D b c head=if head=a∨head=e then some ⟨a,e,head⟩ else none)→wpK T 0 202 [.code PC,.code K] f σ (endP 202 [.cell 2 3 true,.tmp 3] (resPl (plFin r (dirPl D b c head)))):=by
  intro he hp
  rw [hp]
  by_cases q1:head=a
  ·rw [if_pos (.inl q1)]
   rw [plFin_some]
   have tail:=tail ⟨a,e,head⟩
   generalize hR:resPl (if aggOk r ⟨a,e,head⟩=true then some ⟨a,e,head⟩ else none)=R at tail ⊢
   simp [-getElem?_pos,zqC,list_set_at,zqE,zqD,PC,elsC,P10,P8,P7,PB,c40,sndC,fstC,h1,h2,h4,h5,h13,z1,z2,zj,he,eq_true q1]
   refine tail _ _ ?_ ?_ ?_ ?_ ?_ y0 y1 y2 yj hl <;> simp [h1,h2,h4,h5,h13]
  ·by_cases q2:head=e
   ·rw [if_pos (.inr q2)]
    rw [plFin_some]
    have tail:=tail ⟨a,e,head⟩
    generalize hR:resPl (if aggOk r ⟨a,e,head⟩=true then some ⟨a,e,head⟩ else none)=R at tail ⊢
    simp [-getElem?_pos,zqC,list_set_at,zqE,zqD,PC,elsC,P10,P8,P7,PB,c40,sndC,fstC,h1,h2,h4,h5,h13,z1,z2,zj,he,q1,eq_true q2]
    refine tail _ _ ?_ ?_ ?_ ?_ ?_ y0 y1 y2 yj hl <;> simp [h1,h2,h4,h5,h13]
   ·rw [if_neg (fun q=>q.elim q1 q2)]
    simp [-getElem?_pos,zqC,list_set_at,zqE,zqD,PC,elsC,P10,P8,P7,PB,c40,sndC,fstC,h1,h2,h4,h5,h13,z1,z2,zj,n1,n2,he,q1,q2,setRun,endP,res1,resPl,nilPl,GPl.enc,plFin]
    done
 cases D with
 | none=>
  obtain ⟨rfl,rfl⟩:=hd
  simp [-getElem?_pos,zqC,list_set_at,zqE,zqD,dirPl,plFin,PC,elsC,P10,P8,P7,PB,c40,sndC,fstC,h1,h2,h4,h5,h13,z1,z2,zj,n1,n2,setRun,endP,res1,resPl,nilPl,GPl.enc,plFin]
  done
 | some d=>
  cases d with
  | true=>
   obtain ⟨rfl,rfl⟩:=hd
   exact main hcn rfl
  | false=>
   obtain ⟨rfl,rfl⟩:=hd
   refine main hbn ?_
   show (if head=e∨head=a then some (⟨a,e,head⟩:GPl) else none)=_
   by_cases q1:head=e
   ·rw [if_pos (.inl q1),if_pos (.inr q1)]
   ·by_cases q2:head=a
    ·rw [if_pos (.inr q2),if_pos (.inl q2)]
    ·rw [if_neg (fun q=>q.elim q1 q2),if_neg (fun q=>q.elim q2 q1)]
set_option maxHeartbeats 2000000 in
theorem place_two (r:GR) (b c head:ByteArray) (f:FR) (σ:Heap) {j k:Nat} (hb:r.body.length≤100000000) (hbn:b≠nilB) (hcn:c≠nilB) (hne:b≠c) (h1:f 1=.ptr 0 0) (h2:f 2=.ptr 1 0) (h4:f 4=.ptr 2 0) (h5:f 5=.str head) (h6:f 6=.own k [.str b,.str c]) (h13:f 13=.ptr j 0)
  (z0:σ[0]?=some (rCells r)) (z1:σ[1]?=some (plCells nilPl)) (z2:σ[2]?=some (plCells nilPl)) (zj:σ[j]?=some (plCells ⟨b,nilB,head⟩)) (hl:3≤σ.length) (hj:3≤j) :
  wpK T 0 202 [.code P10] f σ (endP 202 [.cell 2 3 true,.tmp 3] (resPl (plFin r (dirPl (dirL b c r.body) b c head)))):=by
 obtain ⟨D,hD⟩:∃ D,dirL b c r.body=D:=⟨_,rfl⟩
 rw [hD]
 have tail:=fun a e=>place_chk r b c head a e D
 have hs:P10=.seq (.seq (fstC (fstC P10)) (.cond (.t 100) (thnC (sndC (fstC P10))) (.seq PL PC))) P11:=rfl
 rw [hs]
 generalize hR:(resPl (plFin r (dirPl D b c head)))=R at tail ⊢
 generalize PC=K at tail
 generalize P11=K2 at tail
 simp [PL,elsC,P10,P8,P7,PB,c40,sndC,fstC,h1,h2,h4,h5,h6,h13]
 refine W_for T 0 202 r.body.length (fun i f σ=>f 1=.ptr 0 0∧f 2=.ptr 1 0∧f 4=.ptr 2 0∧f 5=.str head∧f 6=.own k [.str b,.str c]∧f 13=.ptr j 0∧f 15=.int .i64 (i:Int)∧3≤σ.length∧σ[0]?=some (rCells r)∧σ[1]?=some (plCells nilPl)∧σ[2]?=some (plCells nilPl) ∧
  ∃ a e,σ[j]?=some (plCells ⟨a,e,head⟩)∧((e=nilB∧a=b∧D=dirL b c (r.body.drop i))∨(e≠nilB∧dirS D b c a e))) ?_ _ _ ?_
 ·clear h1 h2 h4 h5 h6 h13 z0 z1 z2 zj hl
  rintro i f σ hi ⟨h1,h2,h4,h5,h6,h13,h15,hl,y0,y1,y2,a,e,yj,hst⟩
  have z0:=y0
  have z1:=y1
  have z2:=y2
  have zj:=yj
  unfold rCells at z0
  unfold plCells nilPl at z1 z2
  unfold plCells at zj
  have n0:0<σ.length:=by omega
  have n1:1<σ.length:=by omega
  have n2:2<σ.length:=by omega
  have nj:j<σ.length:=(zqI.1 zj).1
  have j0:j≠0:=by omega
  have j1:j≠1:=by omega
  have j2:j≠2:=by omega
  by_cases hlt:i<r.body.length
  ·have hw:IntKind.i64.wrap ((i:Int)+1)=(i:Int)+1:=wr64 (by omega) (by omega)
   rcases hst with ⟨he,ha,hd⟩ | ⟨he,hd⟩
   ·have hsl:slSlV 3 (some (.int .i64 (i:Int))) (some (.int .i64 ((i:Int)+1))) (.isl (r.body.map GL.enc) false)=some (.isl ([r.body[i]].map GL.enc) false):=by
     have:=slI_mid (sz:=3) (es:=r.body.map GL.enc) (c:=false) (a:=i) (n:=i+1) (by omega) (by simp; omega) (lenIs_map GL.enc 3 (fun _=>rfl) _)
     rw [zqO (by simpa using hlt),List.drop_append_of_le_length (by simp; omega),List.drop_of_length_le (by simp; omega)] at this
     simpa using this
    have hL1:=callRLink [r.body[i]] b c (by simp)
    have hL2:=callRLink [r.body[i]] c b (by simp)
    rw [linked_one] at hL1 hL2
    simp only [List.map_cons,List.map_nil] at hL1 hL2 hsl
    rw [zqM hlt] at hd
    simp only [dirL] at hd
    by_cases k1:link1 b c r.body[i]=true
    ·have k2:¬ link1 c b r.body[i]=true:=fun e=>hne (link1_two k1 e)
     have k2':link1 c b r.body[i]=false:=by simpa using k2
     rw [if_pos k1] at hd
     rw [k1] at hL1
     rw [k2'] at hL2
     simp [-getElem?_pos,zqC,list_set_at,zqE,zqD,h1,h2,h4,h5,h6,h13,h15,z0,z1,z2,zj,hlt,hw,hsl,hL1,hL2,setRun,nj,he,ha,y0,y1,y2,j0,j1,j2]
     exact ⟨hl,rfl,rfl,b,c,rfl,.inr ⟨hcn,by rw [hd]; exact ⟨rfl,rfl⟩⟩⟩
    ·have k1':link1 b c r.body[i]=false:=by simpa using k1
     rw [if_neg k1] at hd
     rw [k1'] at hL1
     by_cases k2:link1 c b r.body[i]=true
     ·rw [if_pos k2] at hd
      rw [k2] at hL2
      simp [-getElem?_pos,zqC,list_set_at,zqE,zqD,h1,h2,h4,h5,h6,h13,h15,z0,z1,z2,zj,hlt,hw,hsl,hL1,hL2,setRun,nj,he,ha,y0,y1,y2,j0,j1,j2]
      exact ⟨hl,rfl,rfl,c,b,rfl,.inr ⟨hbn,by rw [hd]; exact ⟨rfl,rfl⟩⟩⟩
     ·have k2':link1 c b r.body[i]=false:=by simpa using k2
      rw [if_neg k2] at hd
      rw [k2'] at hL2
      simp [-getElem?_pos,zqC,list_set_at,zqE,zqD,h1,h2,h4,h5,h6,h13,h15,z0,z1,z2,zj,hlt,hw,hsl,hL1,hL2,setRun,nj,he,ha,y0,y1,y2]
      exact ⟨hl,rfl,rfl,b,nilB,rfl,.inl ⟨rfl,rfl,hd⟩⟩
   ·simp [-getElem?_pos,zqC,list_set_at,zqE,zqD,h1,h2,h4,h5,h6,h13,h15,z0,z1,z2,zj,hlt,hw,he]
    refine tail a e _ _ hbn hcn hd ?_ ?_ ?_ ?_ ?_ y0 y1 y2 yj hl <;> simp [h1,h2,h4,h5,h13]
  ·have he:i=r.body.length:=by omega
   have hd:dirS D b c a e:=by
    rcases hst with ⟨rfl,rfl,hd⟩ | ⟨_,hd⟩
    ·subst he
     rw [List.drop_length] at hd
     rw [hd]; exact ⟨rfl,rfl⟩
    ·exact hd
   simp [-getElem?_pos,zqC,list_set_at,zqE,zqD,h1,h2,h4,h5,h6,h13,h15,z0,z1,z2,zj,hlt]
   refine tail a e _ _ hbn hcn hd ?_ ?_ ?_ ?_ ?_ y0 y1 y2 yj hl <;> simp [h1,h2,h4,h5,h13]
 ·simp [h1,h2,h4,h5,h6,h13,z0,z1,z2,zj,hl]
  exact ⟨b,nilB,rfl,.inl ⟨rfl,rfl,hD.symm⟩⟩
set_option maxRecDepth 100000
open Go.Mach
theorem place_tail (r:GR) (head:ByteArray) (s:RS) (hb:r.body.length≤100000000) (hg:readGo r.body 0 ⟨[],[],0⟩=some s) (hn:0<s.atoms→∀ m∈s.all,m≠nilB) (f:FR) (σ:Heap) (h1:f 1=.ptr 0 0) (h2:f 2=.ptr 1 0) (h4:f 4=.ptr 2 0) (h5:f 5=.str head) (h7:f 7=.int .i64 (s.atoms:Int))
  (h6:LO 3 1 false σ (s.all.map .str) (f 6)) (z0:σ[0]?=some (rCells r)) (z1:σ[1]?=some (plCells nilPl)) (z2:σ[2]?=some (plCells nilPl)) (hl:3≤σ.length) :
  wpK T 0 202 [.code P8] f σ (endP 202 [.cell 2 3 true,.tmp 3] (resPl (plFin r ((if 0<s.atoms then placeQ s head else none))))):=by
 have tail1:=fun b=>place_one r b head
 have tail2:=fun b c=>place_two r b c head
 have hs:P8=.seq (fstC P8) (.seq (fstC (sndC P8)) P10):=rfl
 rw [hs]
 generalize P10=K at tail1 tail2
 have y0:=z0
 have y1:=z1
 have y2:=z2
 unfold plCells nilPl at z1 z2
 have n1:1<σ.length:=by omega
 have n2:2<σ.length:=by omega
 by_cases ha:0<s.atoms
 ·have ha':¬ (s.atoms=0):=by omega
  have hrp:readP r.body=some s:=by unfold readP; rw [hg]; simp only [if_pos ha]
  have hne:=read_ne _ _ _ _ hg (fun h=>by cases h) ha
  rw [if_pos ha]
  have hn:=hn ha
  rcases h6 with ⟨hnil,_⟩ | ⟨k,h6,_,_,_⟩
  ·exact absurd (by simpa using hnil) hne
  ·match hall:s.all with
   | []=>exact absurd hall hne
   | [b]=>
    have hq:placeQ s head=if head=b∨linkedB r.body b head=true then some ⟨b,nilB,head⟩ else none:=by
     have h3:=(readP_spec hrp).2.2.1 b head
     unfold placeQ; rw [hall]
     simp only [oneP]
     by_cases q:head=b
     ·simp [q]
     ·cases q2:(lookW s.links b head).isSome with
      | true=>rw [if_pos (.inr rfl),if_pos (.inr (h3.1 q2))]
      | false=>rw [if_neg (fun x=>x.elim q (fun y=>by cases y)),if_neg (fun x=>x.elim q (fun y=>by rw [h3.2 y] at q2; cases q2))]
    rw [hq]
    rw [hall] at h6
    have h6':f 6=.own k [.str b]:=h6
    generalize hR:(resPl (plFin r ((if head=b∨linkedB r.body b head=true then some (⟨b,nilB,head⟩:GPl) else none))))=R
    have tail1:=tail1 b
    rw [hR] at tail1
    simp [-getElem?_pos,zqC,list_set_at,zqA,zqB,zqE,zqD,P8,P7,PB,c40,sndC,fstC,h1,h2,h4,h5,h6',h7,ha',setRun]
    refine tail1 (k:=k) (j:=σ.length) _ _ hb ?_ ?_ ?_ ?_ ?_ ?_ ?_ ?_ ?_ ?_ ?_ <;> first | (simp [h1,h2,h4,h5,h6',plCells]; done) | (rw [zqA (by omega)]; first | exact y0 | exact y1 | exact y2) | (simp; omega)
   | [b,c]=>
    have hnd:=(readP_spec hrp).2.2.2
    rw [hall] at hnd hn
    have hbc:b≠c:=by simp at hnd; exact hnd
    have hbn:=hn b (by simp)
    have hcn:=hn c (by simp)
    have hq:placeQ s head=dirPl (dirL b c r.body) b c head:=by
     unfold placeQ; rw [hall]
     simp only
     rw [two_dir hrp hbc head]; rfl
    rw [hq]
    rw [hall] at h6
    have h6':f 6=.own k [.str b,.str c]:=h6
    generalize hR:(resPl (plFin r (dirPl (dirL b c r.body) b c head)))=R
    have tail2:=tail2 b c
    rw [hR] at tail2
    simp [-getElem?_pos,zqC,list_set_at,zqA,zqB,zqE,zqD,P8,P7,PB,c40,sndC,fstC,h1,h2,h4,h5,h6',h7,ha',setRun]
    refine tail2 (k:=k) (j:=σ.length) _ _ hb hbn hcn hbc ?_ ?_ ?_ ?_ ?_ ?_ ?_ ?_ ?_ ?_ ?_ hl <;> first | (simp [h1,h2,h4,h5,h6',plCells]; done) | (rw [zqA (by omega)]; first | exact y0 | exact y1 | exact y2) | (simp; omega)
   | b :: c :: d :: rest=>
    have hq:placeQ s head=none:=by unfold placeQ; rw [hall]
    rw [hq]
    rw [hall] at h6
    have h6':f 6=.own k (.str b :: .str c :: .str d :: rest.map .str):=h6
    have l2:(2:Int)<(rest.length:Int)+1+1+1:=by omega
    simp [-getElem?_pos,zqC,list_set_at,zqE,zqD,P8,P7,PB,c40,sndC,fstC,h1,h2,h4,h5,h6',h7,ha',setRun,z1,z2,n1,n2,l2,endP,res1,resPl,nilPl,GPl.enc,plFin]
    done
 ·have ha':s.atoms=0:=by omega
  rw [if_neg ha]
  simp [-getElem?_pos,zqC,list_set_at,zqE,zqD,P8,P7,PB,c40,sndC,fstC,h1,h2,h4,h5,h7,ha',setRun,z1,z2,n1,n2,endP,res1,resPl,nilPl,GPl.enc,plFin]
  done
set_option maxRecDepth 100000
open Go.Mach
theorem stepR_all (s:RS) (l:GL) (a:GT) (i:Nat):(stepR s l a i).all=addB s.all a.name:=by unfold stepR; split <;> rfl
theorem stepR_atoms (s:RS) (l:GL) (a:GT) (i:Nat):(stepR s l a i).atoms=if l.kind=2 then s.atoms else s.atoms+1:=by unfold stepR; split <;> rfl
theorem addB_len (b:List ByteArray) (n:ByteArray):(addB b n).length≤b.length+1:=by unfold addB; split <;> simp
abbrev P1:ACode:=fstC P7
set_option maxHeartbeats 4000000 in
theorem place_read (r:GR) (hb:r.body.length≤100000000) (hlit:∀ l∈r.body,litB l=true) (head:ByteArray) (R:AV) (hnone:readGo r.body 0 ⟨[],[],0⟩=none→R=resPl none) (f:FR) (σ:Heap) (h1:f 1=.ptr 0 0) (h2:f 2=.ptr 1 0) (h4:f 4=.ptr 2 0) (h5:f 5=.str head) (h6:f 6=.isl [] true) (h7:f 7=.int .i64 0)
  (y0:σ[0]?=some (rCells r)) (y1:σ[1]?=some (plCells nilPl)) (y2:σ[2]?=some (plCells nilPl)) (hl:3≤σ.length)
  (tail:∀ s f σ,readGo r.body 0 ⟨[],[],0⟩=some s→f 1=.ptr 0 0→f 2=.ptr 1 0→f 4=.ptr 2 0→f 5=.str head→f 7=.int .i64 (s.atoms:Int)→LO 3 1 false σ (s.all.map .str) (f 6)→σ[0]?=some (rCells r)→σ[1]?=some (plCells nilPl)→σ[2]?=some (plCells nilPl)→3≤σ.length →
   wpK T 0 202 [.code P8] f σ (endP 202 [.cell 2 3 true,.tmp 3] R)) :
  wpK T 0 202 [.code P7] f σ (endP 202 [.cell 2 3 true,.tmp 3] R):=by
 have hs:P7=.seq P1 P8:=rfl
 rw [hs]
 generalize P8=K at tail
 simp [P1,P7,PB,c40,sndC,fstC,h1,h2,h4,h5,h6,h7]
 refine W_for T 0 202 r.body.length (fun i f σ=>f 1=.ptr 0 0∧f 2=.ptr 1 0∧f 4=.ptr 2 0∧f 5=.str head∧f 8=.int .i64 (i:Int)∧3≤σ.length∧σ[0]?=some (rCells r)∧σ[1]?=some (plCells nilPl)∧σ[2]?=some (plCells nilPl) ∧
  ∃ s:RS,readGo r.body 0 ⟨[],[],0⟩=readGo (r.body.drop i) i s∧s.all.length≤i∧s.atoms≤i∧f 7=.int .i64 (s.atoms:Int)∧LO 3 1 false σ (s.all.map .str) (f 6)) ?_ _ _ ?_
 ·clear h1 h2 h4 h5 h6 h7 y0 y1 y2 hl
  rintro i f σ hi ⟨h1,h2,h4,h5,h8,hl,y0,y1,y2,s,hg,hal,hat,h7,h6⟩
  have z0:=y0
  have z1:=y1
  have z2:=y2
  unfold rCells at z0
  unfold plCells nilPl at z1 z2
  have n0:0<σ.length:=by omega
  have n1:1<σ.length:=by omega
  have n2:2<σ.length:=by omega
  by_cases hlt:i<r.body.length
  ·have hw:IntKind.i64.wrap ((i:Int)+1)=(i:Int)+1:=wr64 (by omega) (by omega)
   have hw2:IntKind.i64.wrap ((s.atoms:Int)+1)=(s.atoms:Int)+1:=wr64 (by omega) (by omega)
   have e1:r.body[i]?=some r.body[i]:=zqF hlt
   have hlm:=hlit _ (zqT hlt)
   rw [zqM hlt] at hg
   simp only [readGo] at hg
   generalize r.body[i]=l at e1 hlm hg
   by_cases hk:l.kind=1∨l.kind=2
   ·rw [if_pos hk] at hg
    obtain ⟨a,rest,hargs,hv1,hv2⟩:=varP_lit hlm hk
    rw [hargs] at hg
    simp only at hg
    have hcall:=callRVar l.args
    by_cases hv:a.kind=1
    ·rw [if_pos hv] at hg
     have hvn:¬ varP l.args=nilB:=fun e=>(hv1.1 e) hv
     rw [hv2 hv] at hcall hvn
     rcases hk with hk | hk
     ·
      have hst:(stepR s l a i).atoms=s.atoms+1:=by rw [stepR_atoms]; simp [hk]
      have hsa:=stepR_all s l a i
      generalize stepR s l a i=s' at hg hst hsa
      have hsl:=addB_len s.all a.name
      simp [-getElem?_pos,zqC,list_set_at,zqA,zqB,zqE,zqD,h1,h2,h4,h5,h8,h7,z0,z1,z2,n0,n1,n2,hlt,e1,GL.enc_eq,hk,hw2,hcall,hvn,setRun]
      refine W_for T 0 202 s.all.length (fun k f' τ=>f' 1=.ptr 0 0∧f' 2=.ptr 1 0∧f' 4=.ptr 2 0∧f' 5=.str head∧f' 6=f 6∧f' 7=.int .i64 ((s.atoms:Int)+1)∧f' 8=.int .i64 (i:Int)∧f' 10=.str a.name∧f' 11=.bool (memB a.name (s.all.take k))∧f' 12=.int .i64 (k:Int)∧τ=σ++[.cells [.int .i64 l.kind,.str l.name,.isl (GT.encs l.args) false] 0 false]) ?_ _ _ ?_
      ·rintro k g τ hki ⟨g1,g2,g4,g5,g6,g7,g8,g10,g11,g12,hτ⟩
       have x0:τ[0]?=some (rCells r):=by rw [hτ,zqA n0]; exact y0
       have x1:τ[1]?=some (plCells nilPl):=by rw [hτ,zqA n1]; exact y1
       have x2:τ[2]?=some (plCells nilPl):=by rw [hτ,zqA n2]; exact y2
       have hτl:τ.length=σ.length+1:=by rw [hτ]; simp
       have hO:LO 3 1 false τ (s.all.map .str) (f 6):=h6.keep fun j o _ ho=>by rw [hτ,zqA (zqI.1 ho).1]; exact ho
       have hlen:=hO.len
       rw [List.length_map] at hlen
       by_cases hkl:k<s.all.length
       ·have hwk:IntKind.i64.wrap ((k:Int)+1)=(k:Int)+1:=wr64 (by omega) (by omega)
        have hat:=hO.at (i:=k) (by simpa using hkl) (by simp [AV.cells])
        have hmk:memB a.name (s.all.take (k+1))=(memB a.name (s.all.take k) || decide (a.name=s.all[k])):=by
         unfold memB; rw [zqO hkl,List.any_append]; simp
        simp only [List.getElem_map,AV.cells] at hat
        rw [hmk]
        cases hm:memB a.name (s.all.take k) with
        | true=>
         rw [hm] at g11
         simp [g1,g2,g4,g5,g6,g7,g8,g10,g11,g12,hlen,hkl,hwk]
         exact hτ
        | false=>
         rw [hm] at g11
         by_cases hq:s.all[k]=a.name
         ·simp [g1,g2,g4,g5,g6,g7,g8,g10,g11,g12,hlen,hkl,hwk,hat,eq_true hq,eq_true hq.symm]
          exact hτ
         ·have hq':¬ a.name=s.all[k]:=fun e=>hq e.symm
          simp [g1,g2,g4,g5,g6,g7,g8,g10,g11,g12,hlen,hkl,hwk,hat,hq,hq']
          exact hτ
       ·have hke:k=s.all.length:=by omega
        subst hke
        rw [List.take_length] at g11
        cases hm:memB a.name s.all with
        | true=>
         rw [hm] at g11
         have ha:addB s.all a.name=s.all:=by unfold addB; rw [if_pos hm]
         rw [ha] at hsa
         simp [g1,g2,g4,g5,g6,g7,g8,g10,g11,g12,hlen,hw,x0,x1,x2]
         exact ⟨by omega,s',hg,by rw [hsa]; omega,by rw [hst]; omega,by rw [hst] <;> rfl,by rw [hsa]; exact hO⟩
        | false=>
         rw [hm] at g11
         have ha:addB s.all a.name=s.all++[a.name]:=by unfold addB; rw [hm]; rfl
         rw [ha] at hsa hsl
         simp [g1,g2,g4,g5,g6,g7,g8,g10,g11,g12,hlen,x0,x1,x2,-appendA_s]
         refine stW_s1 (N:=3) (bytes:=16) (v:=.str a.name) hO rfl rfl rfl (by omega) (by omega) (by simp; omega) fun x3 τ3 hO3 l3 q3 q4=>?_
         simp [g1,g2,g4,g5,g6,g7,g8,g10,g11,g12,hw,q3 0 (by omega),q3 1 (by omega),q3 2 (by omega),x0,x1,x2]
         exact ⟨by omega,s',hg,by rw [hsa]; simp; omega,by rw [hst]; omega,by rw [hst] <;> rfl,by rw [hsa]; simpa using hO3⟩
      ·simp [h1,h2,h4,h5,h7,h8,memB]
       exact hk.symm
     ·
      have hst:(stepR s l a i).atoms=s.atoms:=by rw [stepR_atoms]; simp [hk]
      have hsa:=stepR_all s l a i
      generalize stepR s l a i=s' at hg hst hsa
      have hsl:=addB_len s.all a.name
      simp [-getElem?_pos,zqC,list_set_at,zqA,zqB,zqE,zqD,h1,h2,h4,h5,h8,h7,z0,z1,z2,n0,n1,n2,hlt,e1,GL.enc_eq,hk,hw2,hcall,hvn,setRun]
      refine W_for T 0 202 s.all.length (fun k f' τ=>f' 1=.ptr 0 0∧f' 2=.ptr 1 0∧f' 4=.ptr 2 0∧f' 5=.str head∧f' 6=f 6∧f' 7=.int .i64 (s.atoms:Int)∧f' 8=.int .i64 (i:Int)∧f' 10=.str a.name∧f' 11=.bool (memB a.name (s.all.take k))∧f' 12=.int .i64 (k:Int)∧τ=σ++[.cells [.int .i64 l.kind,.str l.name,.isl (GT.encs l.args) false] 0 false]) ?_ _ _ ?_
      ·rintro k g τ hki ⟨g1,g2,g4,g5,g6,g7,g8,g10,g11,g12,hτ⟩
       have x0:τ[0]?=some (rCells r):=by rw [hτ,zqA n0]; exact y0
       have x1:τ[1]?=some (plCells nilPl):=by rw [hτ,zqA n1]; exact y1
       have x2:τ[2]?=some (plCells nilPl):=by rw [hτ,zqA n2]; exact y2
       have hτl:τ.length=σ.length+1:=by rw [hτ]; simp
       have hO:LO 3 1 false τ (s.all.map .str) (f 6):=h6.keep fun j o _ ho=>by rw [hτ,zqA (zqI.1 ho).1]; exact ho
       have hlen:=hO.len
       rw [List.length_map] at hlen
       by_cases hkl:k<s.all.length
       ·have hwk:IntKind.i64.wrap ((k:Int)+1)=(k:Int)+1:=wr64 (by omega) (by omega)
        have hat:=hO.at (i:=k) (by simpa using hkl) (by simp [AV.cells])
        have hmk:memB a.name (s.all.take (k+1))=(memB a.name (s.all.take k) || decide (a.name=s.all[k])):=by
         unfold memB; rw [zqO hkl,List.any_append]; simp
        simp only [List.getElem_map,AV.cells] at hat
        rw [hmk]
        cases hm:memB a.name (s.all.take k) with
        | true=>
         rw [hm] at g11
         simp [g1,g2,g4,g5,g6,g7,g8,g10,g11,g12,hlen,hkl,hwk]
         exact hτ
        | false=>
         rw [hm] at g11
         by_cases hq:s.all[k]=a.name
         ·simp [g1,g2,g4,g5,g6,g7,g8,g10,g11,g12,hlen,hkl,hwk,hat,eq_true hq,eq_true hq.symm]
          exact hτ
         ·have hq':¬ a.name=s.all[k]:=fun e=>hq e.symm
          simp [g1,g2,g4,g5,g6,g7,g8,g10,g11,g12,hlen,hkl,hwk,hat,hq,hq']
          exact hτ
       ·have hke:k=s.all.length:=by omega
        subst hke
        rw [List.take_length] at g11
        cases hm:memB a.name s.all with
        | true=>
         rw [hm] at g11
         have ha:addB s.all a.name=s.all:=by unfold addB; rw [if_pos hm]
         rw [ha] at hsa
         simp [g1,g2,g4,g5,g6,g7,g8,g10,g11,g12,hlen,hw,x0,x1,x2]
         exact ⟨by omega,s',hg,by rw [hsa]; omega,by rw [hst]; omega,by rw [hst] <;> rfl,by rw [hsa]; exact hO⟩
        | false=>
         rw [hm] at g11
         have ha:addB s.all a.name=s.all++[a.name]:=by unfold addB; rw [hm]; rfl
         rw [ha] at hsa hsl
         simp [g1,g2,g4,g5,g6,g7,g8,g10,g11,g12,hlen,x0,x1,x2,-appendA_s]
         refine stW_s1 (N:=3) (bytes:=16) (v:=.str a.name) hO rfl rfl rfl (by omega) (by omega) (by simp; omega) fun x3 τ3 hO3 l3 q3 q4=>?_
         simp [g1,g2,g4,g5,g6,g7,g8,g10,g11,g12,hw,q3 0 (by omega),q3 1 (by omega),q3 2 (by omega),x0,x1,x2]
         exact ⟨by omega,s',hg,by rw [hsa]; simp; omega,by rw [hst]; omega,by rw [hst] <;> rfl,by rw [hsa]; simpa using hO3⟩
      ·simp [h1,h2,h4,h5,h7,h8,memB]
       exact hk.symm
    ·rw [if_neg hv] at hg
     rw [hv1.2 hv] at hcall
     rw [hnone hg]
     rcases hk with hk | hk
     ·simp [-getElem?_pos,zqC,list_set_at,zqA,zqB,zqE,zqD,h1,h2,h4,h5,h8,h7,z0,z1,z2,n0,n1,n2,hlt,e1,GL.enc_eq,hk,hw2,hcall,setRun,endP,res1,resPl,nilPl,GPl.enc]
      done
     ·simp [-getElem?_pos,zqC,list_set_at,zqA,zqB,zqE,zqD,h1,h2,h4,h5,h8,h7,z0,z1,z2,n0,n1,n2,hlt,e1,GL.enc_eq,hk,hw2,hcall,setRun,endP,res1,resPl,nilPl,GPl.enc]
      done
   ·rw [if_neg hk] at hg
    have k1:¬ l.kind=1:=fun e=>hk (.inl e)
    have k2:¬ l.kind=2:=fun e=>hk (.inr e)
    simp [-getElem?_pos,zqC,list_set_at,zqA,zqB,zqE,zqD,h1,h2,h4,h5,h8,z0,z1,z2,n0,n1,n2,hlt,e1,GL.enc_eq,k1,k2,hw,setRun]
    refine ⟨by omega,?_,?_,s,hg,by omega,by omega,h7,h6.keep fun j o hj ho=>?_⟩
    ·rfl
    ·rfl
    ·rw [zqA (zqI.1 ho).1]; exact ho
  ·have he:i=r.body.length:=by omega
   subst he
   rw [List.drop_length] at hg
   simp [-getElem?_pos,zqE,zqD,h1,h2,h4,h5,h8,z0,z1,z2]
   refine tail s _ _ hg ?_ ?_ ?_ ?_ ?_ ?_ y0 y1 y2 hl <;> simp [h1,h2,h4,h5,h7,h6]
 ·simp [h1,h2,h4,h5,h6,h7,y0,y1,y2,hl]
  exact ⟨⟨[],[],0⟩,rfl,by simp,by simp,by simp,LO.nil ..⟩
set_option maxRecDepth 100000
open Go.Mach
theorem rPlace_ok (r:GR) (hs:r.size≤100000000):pureT T c40 [r.enc]=some (resPl (placeP r)):=by
 have hsay:=callR4RuleP r (by omega)
 have hte:=text_empty r
 have hbl:=GR.body_len r
 have hvar:=callRVar r.args
 have hread:=place_read r (by omega)
 have htail:=fun head s=>place_tail r head s (by omega)
 simp only [GR.enc_eq] at hsay
 apply pure_enter (by simp [c40])
 show wpK T 0 202 [.code PB] _ [] (endP 202 [.cell 2 3 true,.tmp 3] _)
 have hPB:PB=.seq (fstC PB) (.seq (fstC (sndC PB)) (.seq (fstC (sndC (sndC PB))) (.seq (fstC (sndC (sndC (sndC PB)))) (.seq (fstC (sndC (sndC (sndC (sndC PB))))) (.seq (fstC (sndC (sndC (sndC (sndC (sndC PB)))))) (.seq (fstC (sndC (sndC (sndC (sndC (sndC (sndC PB))))))) P7)))))):=rfl
 rw [hPB]
 generalize P7=K at hread
 by_cases hb:ruleB r=true
 ·have ht:¬ textRule r=nilB:=fun e=>hte.1 e hb
  have hlit:∀ l∈r.body,litB l=true:=by
   unfold ruleB at hb
   simp only [zqL] at hb
   exact zqQ.1 hb.1.2
  have hargs:∃ a rest,r.args=a :: rest∧termR 8 a=true:=by
   unfold ruleB argsB at hb
   simp only [zqL,decide_eq_true_eq] at hb
   cases h:r.args with
   | nil=>rw [h] at hb; simp at hb
   | cons a rest=>
    rw [h] at hb
    exact ⟨a,rest,rfl,zqQ.1 hb.1.1.1.2.1.2 a (by simp)⟩
  obtain ⟨a,rest,har,hta⟩:=hargs
  have hv:varP r.args=if a.kind=1 then a.name else nilB:=by rw [har]; rfl
  by_cases hk:a.kind=1
  ·rw [if_pos hk] at hv
   have hvn:=var_ne hta hk
   rw [hv] at hvar
   by_cases hh:r.head=sLink
   ·have hp:placeP r=none:=by unfold placeP; rw [if_neg (fun h=>h.2.1 hh)]
    rw [hp]
    simp [PB,c40,sndC,fstC,hsay,ht,hvar,hvn,eq_true hh,setRun,endP,res1,resPl,nilPl,GPl.enc]
    done
   ·have hc:ruleB r=true∧r.head≠sLink∧headK r=1:=⟨hb,hh,by unfold headK; rw [har]; simp [hk]⟩
    have hn:headN r=a.name:=by unfold headN; rw [har]; rfl
    have hpl:∀ s,readGo r.body 0 ⟨[],[],0⟩=some s→placeP r=plFin r (if 0<s.atoms then placeQ s a.name else none):=by
     intro s hg
     unfold placeP readP
     rw [if_pos hc,hn,hg]
     simp only
     by_cases h0:0<s.atoms
     ·rw [if_pos h0,if_pos h0]; rfl
     ·rw [if_neg h0,if_neg h0]; rfl
    simp [PB,c40,sndC,fstC,hsay,ht,hvar,hvn,hh,setRun]
    refine hread hlit a.name _ (fun e=>?_) _ _ ?_ ?_ ?_ ?_ ?_ ?_ ?_ ?_ ?_ ?_ ?_
    ·have hp:placeP r=none:=by unfold placeP readP; rw [if_pos hc,e]
     rw [hp]
    ·simp
    ·simp
    ·simp
    ·simp
    ·simp
    ·simp
    ·rfl
    ·rfl
    ·rfl
    ·simp
    ·intro s f σ hg h1 h2 h4 h5 h7 h6 z0 z1 z2 hl
     rw [hpl s hg]
     refine htail a.name s hg (fun h0=>?_) f σ h1 h2 h4 h5 h7 h6 z0 z1 z2 hl
     exact names_ne hb (by unfold readP; rw [hg]; simp only [if_pos h0])
  ·rw [if_neg hk] at hv
   rw [hv] at hvar
   have hp:placeP r=none:=by unfold placeP; rw [if_neg (fun h=>hk (by have:=h.2.2; unfold headK at this; rw [har] at this; simpa using this))]
   rw [hp]
   simp [PB,c40,sndC,fstC,hsay,ht,hvar,setRun,endP,res1,resPl,nilPl,GPl.enc]
   done
 ·have ht:textRule r=nilB:=hte.2 hb
  have hp:placeP r=none:=by unfold placeP; rw [if_neg (fun h=>hb h.1)]
  rw [hp]
  simp [PB,c40,sndC,fstC,hsay,ht,setRun,endP,res1,resPl,nilPl,GPl.enc]
  done
theorem callRPlace (r:GR) (hs:r.size≤100000000) (bs:Nat) (σ:Heap):callT T 40 [r.enc] bs σ=some (resPl (placeP r),σ):=call_clean rfl rfl rfl (by simp) (rPlace_ok r hs)
theorem callRCheck6 (p:GP) (hp:p.size≤1000000000) (bs:Nat) (σ:Heap):callT T 22 [p.enc] bs σ=some (res2 (checkP p),σ):=call_clean rfl rfl rfl (by simp) (rCheck6_ok p hp)
theorem rCheck7_ok (p:GP) (hp:p.size≤1000000000) (hr:∀ r∈p.rules,r.size≤100000000) (hl:p.rules.length≤100000000):pureT T c24 [p.enc]=some (res2 (checkL p)):=by
 have hck:=callRCheck6 p hp
 simp only [GP.enc_eq] at hck
 obtain ⟨⟨e,n⟩,hen⟩:∃ x,checkP p=x:=⟨_,rfl⟩
 rw [hen] at hck
 unfold checkL
 rw [hen]
 apply pure_enter (by simp [c24])
 by_cases h0:e=0
 ·subst h0
  rw [if_neg (by simp)]
  simp [c24,hck,setRun,GP.enc_eq]
  refine W_for T 0 37 p.rules.length (fun i f σ=>f 1=.ptr 0 0∧f 6=.int .i64 (i:Int)∧1≤σ.length∧σ[0]?=some (pCells p)∧∀ j,(hj:j<p.rules.length)→j<i→lostB p.rules[j]=false) ?_ _ _ ?_
  ·rintro i f σ hi ⟨h1,h6,hN,y0,hall⟩
   have z0:=y0
   unfold pCells at z0
   by_cases hlt:i<p.rules.length
   ·have hw:IntKind.i64.wrap ((i:Int)+1)=(i:Int)+1:=wr64 (by omega) (by omega)
    have e1:p.rules[i]?=some p.rules[i]:=zqF hlt
    have hc:=callRPlace p.rules[i] (hr _ (zqT hlt))
    simp only [GR.enc_eq] at hc
    cases hq:placeP p.rules[i] with
    | none=>
     have hlo:lostB p.rules[i]=true:=by unfold lostB; rw [hq]; rfl
     have hix:=idx_at hlt hall hlo
     rw [hq] at hc
     simp [-getElem?_pos,zqA,zqB,zqE,zqD,h1,h6,z0,hlt,e1,hc,resPl,nilPl,GPl.enc,setRun,hix,GR.enc_eq]
     done
    | some q=>
     have hlo:lostB p.rules[i]=false:=by unfold lostB; rw [hq]; rfl
     rw [hq] at hc
     simp [-getElem?_pos,zqA,zqB,zqE,zqD,list_set_at,h1,h6,z0,hlt,e1,hc,resPl,nilPl,GPl.enc,setRun,hw,GR.enc_eq]
     refine ⟨?_,fun j hj hji=>?_⟩
     ·rw [zqA (by omega)]; exact y0
     ·by_cases hje:j=i
      ·subst hje; exact hlo
      ·exact hall j hj (by omega)
   ·have he:i=p.rules.length:=by omega
    have hix:idxG lostB p.rules=-1:=idx_none fun j hj=>hall j hj (by omega)
    simp [h1,h6,z0,hlt,hix]
    done
  ·simp [pCells]
 ·simp [c24,hck,h0,setRun,GP.enc_eq]
  done
theorem callRCheckL (p:GP) (hp:p.size≤1000000000) (hr:∀ r∈p.rules,r.size≤100000000) (hl:p.rules.length≤100000000) (bs:Nat) (σ:Heap):callT T 24 [p.enc] bs σ=some (res2 (checkL p),σ):=call_clean rfl rfl rfl (by simp) (rCheck7_ok p hp hr hl)
end Go.Proofs.YtpgakkhfjjhpdaaGreatDoor
end
section
namespace Go.Mach
section
variable (T:Tab) (bs n:Nat)
def gotoW (l:Nat) (k:List Fr) (Q:AExit→FR→Heap→Prop) (I:FR→Heap→Prop):AExit→FR→Heap→Prop
 | .normal,f,σ=>wpK T bs n k f σ Q
 | .exit id,f,σ=>if id=gno+l then I f σ else exW T bs n (popTo id k) id f σ Q
 | .ret,f,σ=>Q .ret f σ
@[simp] theorem gotoW_normal (l:Nat) (k:List Fr) (Q:AExit→FR→Heap→Prop) (I:FR→Heap→Prop) (f:FR) (σ:Heap):gotoW T bs n l k Q I .normal f σ=wpK T bs n k f σ Q:=rfl
@[simp] theorem gotoW_exit (l:Nat) (k:List Fr) (Q:AExit→FR→Heap→Prop) (I:FR→Heap→Prop) (id:Nat) (f:FR) (σ:Heap):gotoW T bs n l k Q I (.exit id) f σ=if id=gno+l then I f σ else exW T bs n (popTo id k) id f σ Q:=rfl
@[simp] theorem gotoW_ret (l:Nat) (k:List Fr) (Q:AExit→FR→Heap→Prop) (I:FR→Heap→Prop) (f:FR) (σ:Heap):gotoW T bs n l k Q I .ret f σ=Q .ret f σ:=rfl
theorem gotoW_cont {l:Nat} {k:List Fr} {Q:AExit→FR→Heap→Prop} {I:FR→Heap→Prop} {e:AExit} {f:FR} {σ:Heap} (he:gotoL e l=false) (h:gotoW T bs n l k Q I e f σ):contQ T bs n k Q e f σ:=by
 cases e with
 | normal=>exact wpK_sound T bs n k f σ Q h
 | exit id=>
  simp only [gotoL,decide_eq_false_iff_not] at he
  simp only [gotoW_exit,if_neg he] at h
  exact contQ_exit T bs n h
 | ret=>exact contQ_ret T bs n h
theorem gotoW_inv {l:Nat} {k:List Fr} {Q:AExit→FR→Heap→Prop} {I:FR→Heap→Prop} {e:AExit} {f:FR} {σ:Heap} (he:gotoL e l=true) (h:gotoW T bs n l k Q I e f σ):I f σ:=by
 cases e with
 | normal=>cases he
 | exit id=>
  simp only [gotoL,decide_eq_true_eq] at he
  simpa only [gotoW_exit,if_pos he] using h
 | ret=>cases he
theorem W_scope {c rest:ACode} {l:Nat} {k:List Fr} {Q:AExit→FR→Heap→Prop} (I:FR→Heap→Prop) (μ:FR→Heap→Nat)
  (go:∀ f σ,I f σ→wpK T bs n [.code rest] f σ (gotoW T bs n l k Q fun f' σ'=>μ f' σ'<μ f σ∧I f' σ'))
  (f:FR) (σ:Heap) (first:wpK T bs n [.code c] f σ (gotoW T bs n l k Q I)):W T bs n (.scope c l rest) f σ (contQ T bs n k Q):=by
 have key:∀ m f σ,μ f σ=m→I f σ→∃ e f' σ',scopeT T bs l rest (.exit (gno+l),lst n f,σ)=some (e,lst n f',σ')∧contQ T bs n k Q e f' σ':=by
  intro m
  induction m using Nat.strongRecOn with
  | ind m ih=>
   intro f σ hm hI
   obtain ⟨e,f1,σ1,hr,hq⟩:=wpC_sound T bs n (go f σ hI)
   have h1:scopeT T bs l rest (.exit (gno+l),lst n f,σ)=scopeT T bs l rest (e,lst n f1,σ1):=by
    rw [scopeT_go T bs (show gotoL (.exit (gno+l)) l=true by simp [gotoL])]
    show (execT T bs rest (lst n f) σ).bind _=_
    rw [hr]; rfl
   rw [h1]
   cases hg:gotoL e l with
   | true=>
    obtain ⟨hlt,hI1⟩:=gotoW_inv T bs n hg hq
    have he:e=.exit (gno+l):=by
     cases e with
     | exit id=>simp only [gotoL,decide_eq_true_eq] at hg; rw [hg]
     | normal=>cases hg
     | ret=>cases hg
    rw [he]
    exact ih _ (by omega) f1 σ1 rfl hI1
   | false=>
    exact ⟨e,f1,σ1,scopeT_no T bs (r:=(e,lst n f1,σ1)) hg,gotoW_cont T bs n hg hq⟩
 obtain ⟨e,f1,σ1,hr,hq⟩:=wpC_sound T bs n first
 cases hg:gotoL e l with
 | true=>
  have hI1:=gotoW_inv T bs n hg hq
  have he:e=.exit (gno+l):=by
   cases e with
   | exit id=>simp only [gotoL,decide_eq_true_eq] at hg; rw [hg]
   | normal=>cases hg
   | ret=>cases hg
  obtain ⟨e2,f2,σ2,h2,hq2⟩:=key _ f1 σ1 rfl hI1
  exact ⟨e2,f2,σ2,by rw [execT_scope,hr,he]; exact h2,hq2⟩
 | false=>
  exact ⟨e,f1,σ1,by rw [execT_scope,hr]; exact scopeT_no T bs (r:=(e,lst n f1,σ1)) hg,gotoW_cont T bs n hg hq⟩
end
end Go.Mach
end
section
set_option maxRecDepth 100000
namespace Go.Proofs.YtpgakkhfjjhpdaaGreatDoor
structure ED where
 head:Nat
 on:Nat
 up:Nat
def Sol (E:List ED) (s:Nat→Nat):Prop:=∀ e∈E,s e.on+e.up≤s e.head
def gN (l:List Nat) (i:Nat):Nat:=(l[i]?).getD 0
def Low (E:List ED) (l:List Nat):Prop:=∀ s,Sol E s→∀ i,gN l i≤s i
def Ans (E:List ED) (n:Nat):Option (List Nat)→Prop
 | none=>¬ ∃ s,Sol E s∧∀ i,s i≤n
 | some l=>l.length=n∧Sol E (gN l)∧(∀ i,gN l i≤n)∧Low E l
theorem gN_lt {l:List Nat} {i:Nat} (h:i<l.length):gN l i=l[i]:=by unfold gN; rw [zqF h]; rfl
theorem gN_ge {l:List Nat} {i:Nat} (h:l.length≤i):gN l i=0:=by unfold gN; rw [List.getElem?_eq_none h]; rfl
theorem gN_set {l:List Nat} {i v:Nat} (h:i<l.length) (j:Nat):gN (l.set i v) j=if j=i then v else gN l j:=by
 unfold gN
 by_cases e:j=i
 ·subst e; simp [h]
 ·rw [if_neg e,zqC (Ne.symm e)]
theorem gN_ext {a b:List Nat} (hl:a.length=b.length) (h:∀ i,gN a i=gN b i):a=b:=by
 apply List.ext_getElem hl
 intro i h1 h2
 have:=h i
 rw [gN_lt h1,gN_lt h2] at this
 exact this
theorem Ans.unique {E:List ED} {n:Nat} {a b:Option (List Nat)} (ha:Ans E n a) (hb:Ans E n b):a=b:=by
 cases a with
 | none=>
  cases b with
  | none=>rfl
  | some l=>exact absurd ⟨gN l,hb.2.1,hb.2.2.1⟩ ha
 | some k=>
  cases b with
  | none=>exact absurd ⟨gN k,ha.2.1,ha.2.2.1⟩ hb
  | some l=>
   congr 1
   exact gN_ext (ha.1.trans hb.1.symm) fun i=>Nat.le_antisymm (ha.2.2.2 _ hb.2.1 i) (hb.2.2.2 _ ha.2.1 i)
theorem Ans.congr {E F:List ED} {n:Nat} {o:Option (List Nat)} (h:∀ e,e∈E↔e∈F) (ha:Ans E n o):Ans F n o:=by
 have hs:∀ s,Sol E s↔Sol F s:=fun s=>⟨fun h1 e he=>h1 e ((h e).2 he),fun h1 e he=>h1 e ((h e).1 he)⟩
 cases o with
 | none=>exact fun ⟨s,h1,h2⟩=>ha ⟨s,(hs s).2 h1,h2⟩
 | some l=>exact ⟨ha.1,(hs _).1 ha.2.1,ha.2.2.1,fun s h1=>ha.2.2.2 s ((hs s).2 h1)⟩
theorem Ans.zero {E:List ED} {n:Nat} {l:List Nat} (h:∀ e∈E,e.up=0) (ha:Ans E n (some l)) (i:Nat):gN l i=0:=by
 have:=ha.2.2.2 (fun _=>0) (fun e he=>by simp [h e he]) i
 omega
theorem low_zero (E:List ED) (n:Nat):Low E (List.replicate n 0):=by
 intro s _ i
 unfold gN
 by_cases h:i<n
 ·simp [h]
 ·rw [List.getElem?_eq_none (by simp; omega)]; simp
theorem low_set {E:List ED} {l:List Nat} (h:Low E l) {e:ED} (he:e∈E) (hl:e.head<l.length):Low E (l.set e.head (gN l e.on+e.up)):=by
 intro s hs i
 rw [gN_set hl]
 split
 ·rename_i e1; subst e1
  have:=hs e he
  have:=h s hs e.on
  omega
 ·exact h s hs i
theorem low_fail {E:List ED} {l:List Nat} {n:Nat} (h:Low E l) {e:ED} (he:e∈E) (hn:n<gN l e.on+e.up):Ans E n none:=by
 rintro ⟨s,hs,hb⟩
 have:=hs e he
 have:=h s hs e.on
 have:=hb e.head
 omega
def left (n:Nat) (l:List Nat):Nat:=(l.map (n - ·)).sum
theorem left_set {n:Nat}:∀ {l:List Nat} {i v:Nat},i<l.length→gN l i<v→v≤n→left n (l.set i v)<left n l
 | [],i,v,h,_,_=>by cases h
 | x :: l,0,v,_,h2,h3=>by
  have:x<v:=h2
  simp only [left,List.set_cons_zero,List.map_cons,List.sum_cons]
  omega
 | x :: l,i+1,v,h,h2,h3=>by
  have:=left_set (n:=n) (l:=l) (i:=i) (v:=v) (by simpa using h) h2 h3
  simp only [left,List.set_cons_succ,List.map_cons,List.sum_cons] at this ⊢
  omega
abbrev Mx:=Nat→Nat→Bool
structure MM where
 any:Mx
 str:Mx
def MM.le (M N:MM):Prop:=(∀ x y,M.any x y=true→N.any x y=true)∧∀ x y,M.str x y=true→N.str x y=true
theorem MM.le.refl (M:MM):M.le M:=⟨fun _ _ h=>h,fun _ _ h=>h⟩
theorem MM.le.trans {A B C:MM} (h:A.le B) (k:B.le C):A.le C:=⟨fun _ _ x=>k.1 _ _ (h.1 _ _ x),fun _ _ x=>k.2 _ _ (h.2 _ _ x)⟩
structure HgOk (E:List ED) (M:MM):Prop where
 low:∀ s,Sol E s→∀ x y,(M.any x y=true→s y≤s x)∧(M.str x y=true→s y<s x)
 edge:∀ e∈E,M.any e.head e.on=true∧(e.up=1→M.str e.head e.on=true)
 sub:∀ x y,x<6→y<6→M.str x y=true→M.any x y=true
 clos:(∀ x,x<6→M.str x x=false)→∀ x y z,x<6→y<6→z<6→M.any x y=true→M.str y z=true→M.str x z=true
open Go.Mach
def atP (ds:List GD) (n:ByteArray):Nat:=ds.findIdx fun d=>decide (d.name=n)
def upL (r:GR) (l:GL):Option Nat:=if l.kind=2∨(l.kind=1∧r.agg≠⟨#[]⟩) then some 1 else if l.kind=1 then some 0 else none
def edgeL (ds:List GD) (r:GR) (l:GL):Option ED:=(upL r l).map fun u=>⟨atP ds r.head,atP ds l.name,u⟩
def edgesR (ds:List GD) (r:GR):List ED:=r.body.filterMap (edgeL ds r)
def edgesP (p:GP):List ED:=p.rules.flatMap (edgesR p.decls)
theorem upL_some {r:GR} {l:GL}:(upL r l).isSome=true↔l.kind=1∨l.kind=2:=by
 unfold upL
 split
 ·rename_i h; simp; rcases h with h | h
  ·exact .inr h
  ·exact .inl h.1
 ·split
  ·rename_i h; simp [h]
  ·rename_i h1 h2; simp; exact ⟨h2,fun h=>h1 (.inl h)⟩
theorem upL_le {r:GR} {l:GL} {u:Nat} (h:upL r l=some u):u≤1:=by
 unfold upL at h
 split at h
 ·injection h with h; omega
 ·split at h
  ·injection h with h; omega
  ·cases h
theorem mem_edges {p:GP} {e:ED}:e∈edgesP p↔∃ r∈p.rules,∃ l∈r.body,edgeL p.decls r l=some e:=by
 unfold edgesP edgesR
 simp only [List.mem_flatMap,List.mem_filterMap]
theorem first_zero {p:GP}:∀ (rs:List GR) (i:Nat),(firstP p rs i).1=0→∀ r∈rs,ruleP p r=0
 | [],_,_,r,h=>by cases h
 | r :: rs,i,h,x,hx=>by
  simp only [firstP] at h
  by_cases hz:ruleP p r=0
  ·rw [if_neg (by simpa using hz)] at h
   rcases List.mem_cons.1 hx with rfl | hx
   ·exact hz
   ·exact first_zero rs (i+1) h x hx
  ·rw [if_pos hz] at h; exact absurd h hz
theorem arity_at {p:GP} {n:ByteArray} (h:arityP p n≠0):atP p.decls n<p.decls.length:=by
 unfold arityP at h
 cases hf:p.decls.find? (fun d=>decide (d.name=n)) with
 | none=>rw [hf] at h; exact absurd rfl h
 | some d=>
  have h1:=List.find?_some hf
  exact List.findIdx_lt_length_of_exists ⟨d,List.mem_of_find?_eq_some hf,h1⟩
structure ChkOk (p:GP):Prop where
 prog:progB p=true
 dup:dupD [] p.decls=false
 head:∀ r∈p.rules,atP p.decls r.head<p.decls.length
 on:∀ r∈p.rules,∀ l∈r.body,l.kind=1∨l.kind=2→atP p.decls l.name<p.decls.length
theorem chk_ok {p:GP} (h:(checkP p).1=0):ChkOk p:=by
 unfold checkP at h
 cases hp:progB p with
 | false=>rw [hp] at h; simp at h
 | true=>
  cases hd:dupD [] p.decls with
  | true=>rw [hp,hd] at h; simp at h
  | false=>
   rw [hp,hd] at h
   simp only [Bool.true_eq_false,if_false,Bool.false_eq_true] at h
   by_cases hb:p.facts.any (badF p)=true
   ·rw [if_pos hb] at h; simp at h
   ·rw [if_neg hb] at h
    have hz:=first_zero _ _ h
    have hrules:∀ r∈p.rules,ruleB r=true:=by
     unfold progB at hp
     simp only [zqL,zqQ] at hp
     exact hp.1.2
    have hrel:∀ r∈p.rules,relsB p r=true:=fun r hr=>by
     have:=hz r hr
     unfold ruleP at this
     cases hq:relsB p r with
     | true=>rfl
     | false=>rw [hq] at this; simp at this
    refine ⟨hp,hd,fun r hr=>arity_at ?_,fun r hr l hl hk=>arity_at ?_⟩
    ·have h1:=hrel r hr
     have h2:=hrules r hr
     unfold relsB at h1
     unfold ruleB argsB at h2
     simp only [zqL,decide_eq_true_eq] at h1 h2
     omega
    ·have h1:=hrel r hr
     have h2:=hrules r hr
     unfold relsB at h1
     unfold ruleB at h2
     simp only [zqL,decide_eq_true_eq,Bool.not_eq_true',List.any_eq_false] at h1 h2
     have h3:=h1.2 l hl
     have h4:=zqQ.1 h2.1.2 l hl
     unfold badL at h3
     have h5:arityP p l.name=(l.args.length:Int):=by
      rcases hk with hk | hk <;> simpa [hk] using h3
     have h6:1≤l.args.length:=by
      unfold litB at h4
      rcases hk with hk | hk
      ·simp [hk,argsB] at h4
       omega
      ·simp [hk,argsB] at h4
       omega
     omega
theorem edge_lt {p:GP} (h:ChkOk p) {e:ED} (he:e∈edgesP p):e.head<p.decls.length∧e.on<p.decls.length∧e.up≤1:=by
 obtain ⟨r,hr,l,hl,h1⟩:=mem_edges.1 he
 unfold edgeL at h1
 obtain ⟨u,hu,rfl⟩:=zqG.1 h1
 exact ⟨h.head r hr,h.on r hr l hl (upL_some.1 (by rw [hu]; rfl)),upL_le hu⟩
open Go.Mach
def encI (m:List (ByteArray × Nat)):List (AV × AV):=m.map fun p=>(.str p.1,.int .i64 (p.2:Int))
def lookI (m:List (ByteArray × Nat)) (a:ByteArray):Option Nat:=(m.find? fun p=>decide (p.1=a)).map (·.2)
def idxI8 (a:ByteArray):List (ByteArray × Nat)→Nat
 | []=>0
 | p :: m=>if a=p.1 then 0 else idxI8 a m+1
theorem mfind_i (a:ByteArray):∀ (m:List (ByteArray × Nat)) (i:Nat),mfind false [2] [.str a] i (encI m)=some ((lookI m a).map fun v=>(i+idxI8 a m,.int .i64 (v:Int)))
 | [],i=>rfl
 | p :: m,i=>by
  have ih:=mfind_i a m (i+1)
  simp only [encI,List.map_cons,mfind,keyC,Bool.false_eq_true,if_false,Option.bind_some,eqcs_str,eqcs_nil,Option.map_some,Bool.and_true] at ih ⊢
  by_cases h:a=p.1
  ·simp [lookI,List.find?_cons,idxI8,h]
  ·have hl:lookI (p :: m) a=lookI m a:=by
    unfold lookI
    rw [List.find?_cons]
    have:decide (p.1=a)=false:=decide_eq_false fun e=>h e.symm
    rw [this]
   rw [decide_eq_false h,hl]
   simp only [ih,idxI8,if_neg h]
   congr 2
   funext v
   congr 1
   omega
theorem mlook_i {σ:Heap} {id:Nat} {m:List (ByteArray × Nat)} (h:σ[id]?=some (.mp (encI m))) (a:ByteArray):mlookA σ false [2] (.int .i64 0) false (.map id) (.str a)=some (.int .i64 ((lookI m a).getD 0:Nat)):=by
 simp only [mlookA,keyC,Bool.false_eq_true,if_false,Option.bind_some,eqcs_str,eqcs_nil,Option.map_some,Option.isSome_some,if_true,mapOf,h,mfind_i]
 cases lookI m a <;> simp [lookV]
theorem mset_i {σ:Heap} {id:Nat} {m:List (ByteArray × Nat)} (h:σ[id]?=some (.mp (encI m))) (a:ByteArray) (i:Nat) (hn:lookI m a=none):msetA σ false [2] (.map id) (.str a) (.int .i64 (i:Int))=some (σ.set id (.mp (encI (m++[(a,i)])))):=by
 have hcl:closeA σ (.int .i64 (i:Int))=some (.int .i64 (i:Int),σ):=by simp
 simp only [msetA,keyC,Bool.false_eq_true,if_false,Option.bind_some,eqcs_str,eqcs_nil,Option.map_some,Option.isSome_some,true_and,hcl,h,mfind_i,hn,Option.map_none]
 simp [encI,AV.clo,AV.clo1]
def numP (ds:List GD):List (ByteArray × Nat):=ds.zipIdx.map fun p=>(p.1.name,p.2)
theorem look_none {m:List (ByteArray × Nat)} {a:ByteArray} (h:∀ p∈m,p.1≠a):lookI m a=none:=by
 unfold lookI
 have:m.find? (fun p=>decide (p.1=a))=none:=by
  rw [List.find?_eq_none]
  exact fun p hp=>by simpa using h p hp
 rw [this]; rfl
theorem num_take (ds:List GD) (i:Nat) (h:i<ds.length):numP (ds.take (i+1))=numP (ds.take i)++[(ds[i].name,i)]:=by
 unfold numP
 rw [zqO h,List.zipIdx_append]
 have:(ds.take i).length=i:=by simp; omega
 simp [this]
theorem num_mem {ds:List GD} {p:ByteArray × Nat} (h:p∈numP ds):∃ hi:p.2<ds.length,ds[p.2].name=p.1:=by
 unfold numP at h
 obtain ⟨⟨d,i⟩,hd,rfl⟩:=List.mem_map.1 h
 have:=List.mem_zipIdx_iff_getElem?.1 hd
 simp only at this
 obtain ⟨hi,e⟩:=zqI.1 this
 exact ⟨hi,by simp [e]⟩
theorem look_num (n:ByteArray):∀ (ds:List GD) (k:Nat),lookI ((ds.zipIdx k).map fun p=>(p.1.name,p.2)) n=if atP ds n<ds.length then some (k+atP ds n) else none
 | [],k=>by simp [lookI,atP]
 | d :: ds,k=>by
  have ih:=look_num n ds (k+1)
  unfold lookI atP at *
  simp only [List.zipIdx_cons,List.map_cons,List.find?_cons,List.findIdx_cons]
  by_cases h:d.name=n
  ·simp [h]
  ·simp only [decide_eq_false h,cond_false,zqU,Nat.add_lt_add_iff_right]
   rw [ih]
   split
   ·congr 1; omega
   ·rfl
theorem look_at {ds:List GD} {n:ByteArray} (h:atP ds n<ds.length):(lookI (numP ds) n).getD 0=atP ds n:=by
 have:=look_num n ds 0
 unfold numP
 rw [this,if_pos h]; simp
theorem dup_names:∀ (ds:List GD) (b:List ByteArray),dupD b ds=false→(∀ d∈ds,d.name ∉ b)∧(ds.map GD.name).Nodup
 | [],b,_=>by simp
 | d :: ds,b,h=>by
  simp only [dupD,Bool.or_eq_false_iff] at h
  obtain ⟨h1,h2⟩:=dup_names ds _ h.2
  have hd:d.name ∉ b:=fun e=>by rw [(memB_iff _ _).2 e] at h; cases h.1
  have hmem:∀ m,m∈addB b d.name↔m∈b∨m=d.name:=by
   intro m
   unfold addB
   rw [h.1]
   simp
  refine ⟨fun x hx=>?_,?_⟩
  ·rcases List.mem_cons.1 hx with rfl | hx
   ·exact hd
   ·exact fun e=>h1 x hx ((hmem _).2 (.inl e))
  ·rw [List.map_cons,List.nodup_cons]
   refine ⟨fun e=>?_,h2⟩
   obtain ⟨x,hx,e⟩:=List.mem_map.1 e
   exact h1 x hx ((hmem _).2 (.inr e))
theorem num_new {ds:List GD} (h:dupD [] ds=false) {i:Nat} (hi:i<ds.length):lookI (numP (ds.take i)) ds[i].name=none:=by
 apply look_none
 intro p hp e
 obtain ⟨hlt,hn⟩:=num_mem hp
 have hpi:p.2<i:=by simp at hlt; omega
 have hnd:=(dup_names ds [] h).2
 have:=(List.getElem_inj (h₀:=by simp; omega) (h₁:=by simpa using hi) hnd (i:=p.2) (j:=i)).1 (by simp at hn ⊢; rw [hn,e])
 omega
set_option maxRecDepth 100000
open Go.Mach
theorem numbers_call (p:GP) (hd:dupD [] p.decls=false) (hl:p.decls.length≤1000000000) (bs:Nat) (σ:Heap) (hbs:bs≤σ.length) :
  ∃ r,callT T 25 [p.enc] bs σ=some r∧(r.1=.map (σ.length+1)∧σ.length+2≤r.2.length∧(∀ i,i<σ.length→r.2[i]?=σ[i]?)∧r.2[σ.length+1]?=some (.mp (encI (numP p.decls)))):=by
 refine heap_enterE (args':=[p.enc]) (σ1:=σ) (af:=c25) rfl rfl (by simp [c25]) (by simp [c25]) (by simp [closeArgs,c25]) ?_
 have hbs1:bs≤σ.length+1:=by omega
 simp [c25,baseA,hbs,hbs1]
 refine W_for T bs 21 p.decls.length (fun i f τ=>f 3=.map (σ.length+1)∧f 8=.isl (p.decls.map GD.enc) false∧f 9=.int .i64 (p.decls.length:Int)∧f 10=.int .i64 (i:Int)∧σ.length+2≤τ.length∧(∀ i,i<σ.length→τ[i]?=σ[i]?)∧τ[σ.length+1]?=some (.mp (encI (numP (p.decls.take i))))) ?_ _ _ ?_
 ·rintro i f τ hi ⟨h3,h8,h9,h10,hN,hk,hm⟩
  by_cases hlt:i<p.decls.length
  ·have hw:IntKind.i64.wrap ((i:Int)+1)=(i:Int)+1:=wr64 (by omega) (by omega)
   have e0:p.decls[i]?=some p.decls[i]:=zqF hlt
   have hnew:=num_new hd hlt
   have htk:=num_take p.decls i hlt
   have hm2:∀ o,(τ++[o])[σ.length+1]?=some (.mp (encI (numP (p.decls.take i)))):=fun o=>by rw [zqA (by omega)]; exact hm
   have hset:=fun o=>mset_i (hm2 o) p.decls[i].name i hnew
   rw [htk]
   have hbt:bs≤τ.length:=by omega
   simp [-getElem?_pos,zqA,zqB,zqE,zqD,list_set_at,h3,h8,h9,h10,hlt,e0,hw,hset,hbt,setRun]
   refine ⟨by omega,fun j hj=>?_,?_⟩
   rotate_left 1
   ·rw [list_set_at (by simp; omega)]
   rw [zqC (by omega),zqA (by omega)]
   exact hk j hj
  ·have he:i=p.decls.length:=by omega
   subst he
   rw [List.take_length] at hm
   simp [h3,h8,h9,h10]
   exact ⟨hN,hk,hm⟩
 ·simp [numP,encI]
  exact fun j hj=>by rw [zqA (by omega)]
section
open Go.Mach
variable {T:Tab} {bs n:Nat}
theorem stW_app2T {σ0:Heap} {o:AObj} {sz bytes fj N:Nat} {ej:Bool} {ds:List AV} {es:List AV} {x:AV} {d:Option Nat} {os:List AOper} {k:List Fr} {f:FR} {τ:Heap} {Q:AExit→FR→Heap→Prop}
  (hx:LX N sz σ0 es x) (hd:ds.length=sz) (hdc:ds.all AV.clo1=true) (h0:0<sz) (hb:bytes≤1000) (hN:N≤σ0.length) (hl:es.length≤1000000000)
  (h:∀ x' σ',LO N sz true σ' (es++[.agg (ds.map AV.nrm)]) x'→σ0.length+2≤σ'.length→(∀ i o,σ0[i]?=some o→(i<N∨((∀ n,o≠.tok n sz)∧∀ cs fz,o=.cells cs fz false→cs.length≠sz))→σ'[i]?=some o)→wpK T bs n (.ops os :: k) (updO f d x') σ' Q) :
  stW T bs n (appendC (σ0++[o,.cells ds fj ej]) sz true bytes false x (.sl (σ0.length+1) 0 1 sz true)) d [] os k f τ Q:=by
 have hj:(σ0++[o,.cells ds fj ej])[σ0.length+1]?=some (.cells ds fj ej):=by simp
 obtain ⟨x',σ',h1,h2,h3,h4⟩:=app_any0 (bytes:=bytes) (closeX_idem hj hdc) hj hd hdc h0 hb hx (fun i hi=>zqA hi) (by omega) hN hl
 rw [h1]
 exact ⟨rfl,h x' σ' h2 (by simpa using h3) h4⟩
end
theorem LX_closeR {N sz:Nat} {σ:Heap} {es:List AV} {x:AV} (h:LX N sz σ es x):∃ σ',Go.Mach.closeR σ x=some (.isl es false,σ'):=by
 obtain ⟨σ',hcl,_⟩:=h.closeA
 rcases h with ⟨_,e⟩ | ⟨_,_,_,e,_⟩ | ⟨_,e,_⟩ <;> (rw [e] at hcl ⊢; exact ⟨σ',hcl⟩)
def encE (e:ED):AV:=.agg [.int .i64 (e.head:Int),.int .i64 (e.on:Int),.int .i64 (e.up:Int)]
def rCells8 (r:GR):AObj:=.cells [.str r.label,.str r.head,.isl (GT.encs r.args) false,.str r.agg,.int .i64 r.pos,.isl (r.body.map GL.enc) false] 0 false
def accE (p:GP) (i:Nat) (r:GR) (k:Nat):List ED:=(p.rules.take i).flatMap (edgesR p.decls)++(r.body.take k).filterMap (edgeL p.decls r)
theorem accE_len {p:GP} (hb:∀ r∈p.rules,r.body.length≤8) (i:Nat) (r:GR) (k:Nat) (hr:r.body.length≤8):(accE p i r k).length≤p.rules.length * 8+8:=by
 have h1:∀ l:List GR,(∀ r∈l,r.body.length≤8)→(l.flatMap (edgesR p.decls)).length≤l.length * 8:=by
  intro l
  induction l with
  | nil=>intro _; simp
  | cons x l ih=>
   intro h
   have:=ih fun y hy=>h y (by simp [hy])
   have hx:=h x (by simp)
   have h2:(edgesR p.decls x).length≤x.body.length:=List.length_filterMap_le ..
   rw [List.flatMap_cons,zqJ,zqU]
   omega
 have h2:=h1 (p.rules.take i) fun r hr=>hb r (List.mem_of_mem_take hr)
 have h3:((r.body.take k).filterMap (edgeL p.decls r)).length≤(r.body.take k).length:=List.length_filterMap_le ..
 have h4:(r.body.take k).length≤r.body.length:=by simp; omega
 have h5:(p.rules.take i).length≤p.rules.length:=by simp; omega
 unfold accE
 rw [zqJ]
 have:(p.rules.take i).length * 8≤p.rules.length * 8:=Nat.mul_le_mul_right _ h5
 omega
theorem accE_step (p:GP) (i:Nat) (r:GR) (k:Nat) (hk:k<r.body.length):accE p i r (k+1)=accE p i r k++(edgeL p.decls r r.body[k]).toList:=by
 have h:([r.body[k]]:List GL).filterMap (edgeL p.decls r)=(edgeL p.decls r r.body[k]).toList:=by
  simp only [List.filterMap_cons,List.filterMap_nil]
  cases edgeL p.decls r r.body[k] <;> rfl
 unfold accE
 rw [zqO hk,List.filterMap_append,h,zqP]
theorem accE_next (p:GP) (i:Nat) (hi:i<p.rules.length) (r':GR):accE p (i+1) r' 0=accE p i p.rules[i] p.rules[i].body.length:=by
 unfold accE
 rw [zqO hi,List.flatMap_append,List.take_length]
 simp [edgesR]
theorem edges_ok (p:GP) (hc:ChkOk p) (hp:p.size≤1000000000):pureT T c21 [p.enc]=some (.isl ((edgesP p).map encE) false):=by
 have hlr:=GP.rules_len p
 have hld:=GP.decls_len p
 have hlens:p.rules.length≤64∧∀ r∈p.rules,r.body.length≤8:=by
  have h:=hc.prog
  unfold progB at h
  simp only [zqL,decide_eq_true_eq,zqQ] at h
  refine ⟨h.1.1.1.2.2,fun r hr=>?_⟩
  have:=h.1.2 r hr
  unfold ruleB at this
  simp only [zqL,decide_eq_true_eq] at this
  omega
 obtain ⟨⟨v,σ1⟩,hcall,hv,hl1,hk1,hm1⟩:=numbers_call p hc.dup (by omega) 0 [.cells [.isl (p.decls.map GD.enc) false,.isl (p.facts.map GU.enc) false,.isl (p.rules.map GR.enc) false] 0 false] (by simp)
 simp only [List.length_singleton] at hv hl1 hk1 hm1
 subst hv
 have h01:=hk1 0 (by omega)
 apply pure_enter (by simp [c21])
 simp only [GP.enc_eq] at hcall
 simp [c21,hcall,GP.enc_eq,h01]
 refine W_for T 0 58 p.rules.length (fun i f τ=>f 3=.map 2∧f 12=.isl (p.rules.map GR.enc) false∧f 13=.int .i64 (p.rules.length:Int)∧f 14=.int .i64 (i:Int)∧3≤τ.length∧τ[2]?=some (.mp (encI (numP p.decls)))∧LX 3 3 τ ((accE p i default 0).map encE) (f 2)) ?_ _ _ ?_
 ·rintro i f τ hi ⟨h3,h12,h13,h14,hN,hm,hX⟩
  by_cases hlt:i<p.rules.length
  ·have hw:IntKind.i64.wrap ((i:Int)+1)=(i:Int)+1:=wr64 (by omega) (by omega)
   have e0:p.rules[i]?=some p.rules[i]:=zqF hlt
   have hrm:=zqT hlt
   have hb8:=hlens.2 _ hrm
   have hnext:=fun r'=>accE_next p i hlt r'
   have hst:accE p i default 0=accE p i p.rules[i] 0:=by unfold accE; simp
   rw [hst] at hX
   have hhd:=look_at (hc.head _ hrm)
   have hon:=fun l hl hk=>look_at (hc.on _ hrm l hl hk)
   generalize p.rules[i]=r at *
   simp [-getElem?_pos,zqA,zqB,zqE,zqD,list_set_at,h3,h12,h13,h14,hlt,e0,GR.enc_eq,setRun]
   refine W_for T 0 58 r.body.length (fun k g τ'=>g 3=.map 2∧g 5=.ptr τ.length 0∧g 12=.isl (p.rules.map GR.enc) false∧g 13=.int .i64 (p.rules.length:Int)∧g 14=.int .i64 (i:Int)∧g 19=.isl (r.body.map GL.enc) false∧g 20=.int .i64 (r.body.length:Int)∧g 21=.int .i64 (k:Int)∧τ.length+1≤τ'.length∧τ'[2]?=some (.mp (encI (numP p.decls)))∧τ'[τ.length]?=some (rCells8 r)∧LX 3 3 τ' ((accE p i r k).map encE) (g 2)) ?_ _ _ ?_
   ·clear hX hm h3 h12 h13 h14
    rintro k g τ' hki ⟨g3,g5,g12,g13,g14,g19,g20,g21,gN,gm,gr,gX⟩
    by_cases hkl:k<r.body.length
    ·have hwk:IntKind.i64.wrap ((k:Int)+1)=(k:Int)+1:=wr64 (by omega) (by omega)
     have e1:r.body[k]?=some r.body[k]:=zqF hkl
     have hstep:=accE_step p i r k hkl
     have hlen:=accE_len hlens.2 i r k hb8
     have hlm:=zqT hkl
     rw [hstep]
     generalize hl':r.body[k]=l at *
     have gr2:=gr
     unfold rCells8 at gr
     have q3:3≤τ'.length:=by omega
     have n2:2<τ'.length:=by omega
     have nt:τ.length<τ'.length:=by omega
     have hlk:∀ o a,mlookA (τ'++[o]) false [2] (.int .i64 0) false (.map 2) (.str a)=some (.int .i64 ((lookI (numP p.decls) a).getD 0:Nat)):=fun o a=>mlook_i (by rw [zqA n2]; exact gm) a
     by_cases k2:l.kind=2
     ·have hon':=hon l hlm (.inr k2)
      have hed:edgeL p.decls r l=some ⟨atP p.decls r.head,atP p.decls l.name,1⟩:=by unfold edgeL upL; simp [k2]
      rw [hed]
      simp [-getElem?_pos,-appendA_ag,zqA,zqB,zqE,zqD,list_set_at,g3,g5,g12,g13,g14,g19,g20,g21,hkl,e1,GL.enc_eq,setRun,gr,n2,nt,hlk,k2,hhd,hon']
      refine stW_app2T (N:=3) gX rfl rfl (by omega) (by omega) q3 (by simp; omega) fun x1 τ1 hO1 l1 q4=>?_
      have r2:=q4 2 _ gm (.inl (by omega))
      have r5:=q4 τ.length _ gr2 (.inr ⟨fun n h=>(by unfold rCells8 at h; cases h),fun cs fz h=>(by unfold rCells8 at h; injection h with h; subst h; simp)⟩)
      simp [g3,g5,g12,g13,g14,g19,g20,g21,hwk,r2,r5]
      exact ⟨by omega,by simpa [encE] using hO1.toLX⟩
     ·by_cases k1:l.kind=1
      ·have hon':=hon l hlm (.inl k1)
       by_cases ka:r.agg=⟨#[]⟩
       ·have ka':=eq_true ka
        have hed:edgeL p.decls r l=some ⟨atP p.decls r.head,atP p.decls l.name,0⟩:=by unfold edgeL upL; simp [k1,k2,ka']
        rw [hed]
        simp [-getElem?_pos,-appendA_ag,zqA,zqB,zqE,zqD,list_set_at,g3,g5,g12,g13,g14,g19,g20,g21,hkl,e1,GL.enc_eq,setRun,gr,n2,nt,hlk,k1,k2,ka',hhd,hon']
        refine stW_app2T (N:=3) gX rfl rfl (by omega) (by omega) q3 (by simp; omega) fun x1 τ1 hO1 l1 q4=>?_
        have r2:=q4 2 _ gm (.inl (by omega))
        have r5:=q4 τ.length _ gr2 (.inr ⟨fun n h=>(by unfold rCells8 at h; cases h),fun cs fz h=>(by unfold rCells8 at h; injection h with h; subst h; simp)⟩)
        simp [g3,g5,g12,g13,g14,g19,g20,g21,hwk,r2,r5]
        exact ⟨by omega,by simpa [encE] using hO1.toLX⟩
       ·have hed:edgeL p.decls r l=some ⟨atP p.decls r.head,atP p.decls l.name,1⟩:=by unfold edgeL upL; simp [k1,k2,ka]
        rw [hed]
        simp [-getElem?_pos,-appendA_ag,zqA,zqB,zqE,zqD,list_set_at,g3,g5,g12,g13,g14,g19,g20,g21,hkl,e1,GL.enc_eq,setRun,gr,n2,nt,hlk,k1,k2,ka,hhd,hon']
        refine stW_app2T (N:=3) gX rfl rfl (by omega) (by omega) q3 (by simp; omega) fun x1 τ1 hO1 l1 q4=>?_
        have r2:=q4 2 _ gm (.inl (by omega))
        have r5:=q4 τ.length _ gr2 (.inr ⟨fun n h=>(by unfold rCells8 at h; cases h),fun cs fz h=>(by unfold rCells8 at h; injection h with h; subst h; simp)⟩)
        simp [g3,g5,g12,g13,g14,g19,g20,g21,hwk,r2,r5]
        exact ⟨by omega,by simpa [encE] using hO1.toLX⟩
      ·have hed:edgeL p.decls r l=none:=by unfold edgeL upL; simp [k1,k2]
       rw [hed]
       simp [-getElem?_pos,-appendA_ag,zqA,zqB,zqE,zqD,list_set_at,g3,g5,g12,g13,g14,g19,g20,g21,hkl,e1,GL.enc_eq,setRun,gr,n2,nt,hlk,k1,k2,hwk]
       exact ⟨by omega,gm,rfl,gX.app _⟩
    ·have hke:k=r.body.length:=by omega
     subst hke
     rw [hnext default]
     simp [g3,g5,g12,g13,g14,g19,g20,g21,hw,gm]
     exact ⟨by omega,gX⟩
   ·simp [hm]
    exact ⟨h3,h12,h13,h14,by rw [zqA (by omega)]; exact hm,rfl,hX.app _⟩
  ·have he:i=p.rules.length:=by omega
   have hall:accE p i default 0=edgesP p:=by unfold accE edgesP; rw [he,List.take_length]; simp
   rw [hall] at hX
   obtain ⟨σ2,hcl⟩:=LX_closeR hX
   simp [h3,h12,h13,h14,he,hcl]
 ·simp
  exact ⟨by omega,hm1,.inl ⟨by simp [accE],rfl⟩⟩
end Go.Proofs.YtpgakkhfjjhpdaaGreatDoor
end
