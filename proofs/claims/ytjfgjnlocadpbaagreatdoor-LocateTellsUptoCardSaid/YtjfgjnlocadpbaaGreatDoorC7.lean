import Derived.Test.YtjfgjnlocadpbaaGreatDoorC6
import Derived.Test.YtjfgjnlocadpbaaGreatDoorC5
import Derived.Test.YtjfgjnlocadpbaaGreatDoorC3
set_option linter.unusedVariables false
set_option linter.unusedSimpArgs false
set_option linter.unnecessarySimpa false
section
namespace Go.Proofs.YtjfgjnlocadpbaaGreatDoor
open Go.Mach
theorem LstA.setc {R:Heap} {off sz k fz:Nat} {ext:Bool} {es cs:List AV} {x:AV} (h:LstA R off es sz x) (hk:R[k]?=some (.cells cs fz ext)) {v:AObj}:LstA (R.set k v) off es sz x:=by
 rcases h with h | ⟨j,h1,h2⟩
 ·exact .inl h
 ·have:k≠j:=fun e=>by subst e; rw [hk] at h2; cases h2
  exact .inr ⟨j,h1,by rw [List.getElem?_set,if_neg this]; exact h2⟩
theorem aggOf_at {q:Nat} (h:q<3):window [AV.str ⟨#[109,105,110]⟩,.str ⟨#[109,97,120]⟩,.str ⟨#[99,111,117,110,116]⟩] q 1=some [.str (aggOf q)]:=by
 have:q=0∨q=1∨q=2:=by omega
 rcases this with rfl | rfl | rfl <;> rfl
theorem setRun_nrm (cs vs:List AV) (o:Nat) (h:o+vs.length≤cs.length):(setRun cs o vs).map AV.nrm=setRun (cs.map AV.nrm) o (vs.map AV.nrm):=by
 rw [setRun_take _ _ _ h,setRun_take _ _ _ (by simpa using h)]
 simp
theorem setRun_clo (cs vs:List AV) (o:Nat) (h:o+vs.length≤cs.length) (hc:cs.all AV.clo1=true) (hv:vs.all AV.clo1=true):(setRun cs o vs).all AV.clo1=true:=by
 rw [setRun_take _ _ _ h,List.all_append,List.all_append,hv]
 rw [zqQ] at hc
 have h1:(cs.take o).all AV.clo1=true:=zqQ.2 fun x hx=>hc x (List.mem_of_mem_take hx)
 have h2:(cs.drop (o+vs.length)).all AV.clo1=true:=zqQ.2 fun x hx=>hc x (List.mem_of_mem_drop hx)
 rw [h1,h2]; rfl
theorem args_setRun {cs:List AV} {L:List GT} {n:Nat} (hn:n<L.length) (hcs:cs.map AV.nrm=flat (GT.encs L)) (v:ByteArray) :
  (setRun cs (n * 7) [.int .i64 1,.str v,.int .i64 0,.int .i64 0,.str ⟨#[]⟩,.isl [] true,.isl [] true]).map AV.nrm=flat (GT.encs (L.set n (.mk 1 v nilV [])))∧n * 7+7≤cs.length:=by
 have hlen:cs.length=L.length * 7:=by
  have:=congrArg List.length hcs
  rw [List.length_map,Go.Mach.flat_len (encsT_len L),GT.encs_length] at this; exact this
 have hle:n * 7+7≤cs.length:=by omega
 refine ⟨?_,hle⟩
 rw [setRun_nrm _ _ _ hle,hcs]
 have h1:=flat_set (s:=7) (v:=(GT.mk 1 v nilV []).enc) (by simp) (es:=GT.encs L) (i:=n) (by rw [GT.encs_length]; exact hn) (encsT_len L)
 have h2:(GT.mk 1 v nilV []).enc.cells=[AV.int .i64 1,.str v,.int .i64 0,.int .i64 0,.str ⟨#[]⟩,.isl [] true,.isl [] true].map AV.nrm:=by
  simp [AV.nrm,GT.enc_cells,GT.kind,GT.name,GT.value,GT.args,nilV,GV.kind,GV.num,GV.text,GV.items]
 rw [h2] at h1
 rw [h1,GT.encs_map,GT.encs_map,List.map_set]
theorem fit3d (p:GP) (hs:p.size≤1048576) (i:Nat) (hi:i<p.rules.length) (ho:(p.rules[i]).ok) (xd xu xr:AV) (R:Heap) (es:List AV) (K:List Fr) (Q:AExit→FR→Heap→Prop) (f:FR) (σ:Heap)
  (hf:Fr3 R i f) (hσ:RuSt p xd xu xr R p.rules[i] (argsOf (p.rules[i]).args) ⟨#[]⟩ 0 es σ)
  (hk:∀ f σ,Fr3 R i f→RuSt p xd xu xr R p.rules[i] (ruleOf p.rules[i]).args (ruleOf p.rules[i]).agg (ruleOf p.rules[i]).pos es σ→wpK T 0 202 K f σ Q) :
  wpK T 0 202 (.code body3.snd.snd.snd.snd.fst :: K) f σ Q:=by
 have hm:=p.rules_mem (zqT hi)
 have hgl:=GR.agg_le p.rules[i]
 generalize hu:p.rules[i]=r at *
 obtain ⟨k,cs,ext,y,R2,rfl,hk1,hk2,hk3,hy⟩:=hσ
 obtain ⟨h1,h2,h3,h8,h9,h10⟩:=hf
 have hq2:∀ bs σ,callT T 31 [.int .i64 r.pos,.int .i64 2] bs σ=some (.int .i64 (pickN r.pos 2:Int),σ):=pickQ r.pos 2 (by omega) ho.2.1
 have hL:=argsOf_len r.args
 obtain ⟨y1,y2⟩:=hy.cell
 by_cases d1:1<(argsOf r.args).length
 ·have d1':(1:Int)<((argsOf r.args).length:Int):=by omega
  by_cases d2:pickN r.pos 2=1
  ·have hag:hasAgg r:=⟨d1,d2⟩
   have hq3:∀ bs σ,callT T 31 [.int .i64 r.pos,.int .i64 3] bs σ=some (.int .i64 (pickN r.pos 3:Int),σ):=pickQ r.pos 3 (by omega) ho.2.1
   have hl3:=pickN_lt (c:=r.pos) (n:=3) (by omega)
   have hql:=pickQ r.pos ((argsOf r.args).length - 1) (by omega) ho.2.1
   have hll:=pickN_lt (c:=r.pos) (n:=(argsOf r.args).length - 1) (by omega)
   have hsub:((argsOf r.args).length:Int) - 1=(((argsOf r.args).length - 1:Nat):Int):=by omega
   have hvar:=lawVar r.agg (by omega)
   have hwin:=aggOf_at hl3
   have hru:(ruleOf r).args=(argsOf r.args).set (posOf r) (.mk 1 (varOf r.agg) nilV [])∧(ruleOf r).agg=aggOf (pickN r.pos 3)∧(ruleOf r).pos=(posOf r:Int):=by simp [ruleOf,hag]
   rw [hru.1,hru.2.1,hru.2.2] at hk
   have hpo:posOf r=1+pickN r.pos ((argsOf r.args).length - 1):=rfl
   have hpl:=posOf_lt hag
   obtain ⟨g1,g2⟩:=args_setRun hpl.2 hk2 (varOf r.agg)
   have g3:=setRun_clo cs [.int .i64 1,.str (varOf r.agg),.int .i64 0,.int .i64 0,.str ⟨#[]⟩,.isl [] true,.isl [] true] (posOf r * 7) (by simpa using g2) hk3 rfl
   have hw1:IntKind.i64.wrap (((argsOf r.args).length:Int) - 1)=(((argsOf r.args).length - 1:Nat):Int):=by rw [hsub]; exact wr64 (by omega) (by omega)
   have hw2:IntKind.i64.wrap (1+(pickN r.pos ((argsOf r.args).length - 1):Int))=(posOf r:Int):=by rw [hpo]; rw [wr64 (by omega) (by omega)]; omega
   have hkl:k<R2.length:=(zqI.1 hk1).1
   have hpl1:(posOf r:Int)<((argsOf r.args).length:Int):=by omega
   have hpl2:((pickN r.pos 3:Nat):Int)<3:=by omega
   generalize posOf r=n at *
   generalize pickN r.pos ((argsOf r.args).length - 1)=m at *
   generalize pickN r.pos 3=q at *
   have hset:(argsOf r.args).length=((argsOf r.args).set n (.mk 1 (varOf r.agg) nilV [])).length:=by simp
   have hget:∀ (a b c d e:AObj) (X:Heap),(a :: b :: c :: (R++d :: e :: (R2++X)))[k+(R.length+5)]?=some (.cells cs 0 ext):=fun a b c d e X=>by
    rw [show k+(R.length+5)=(R.length+(k+2))+3 by omega]
    simp [zqA hkl,hk1]
   have hsetA:∀ (a b c d e v:AObj) (X:Heap),(a :: b :: c :: (R++d :: e :: (R2++X))).set (k+(R.length+5)) v=a :: b :: c :: (R++d :: e :: (R2.set k v++X)):=fun a b c d e v X=>by
    rw [show k+(R.length+5)=(R.length+(k+2))+3 by omega]
    simp [List.set_append_left _ _ hkl]
   simp only [setRun] at g1 g3
   simp only [body3,c15,ACode.fst,ACode.snd,ACode.inn]
   simp [hget,hsetA,fitP,h1,h2,h3,h8,h9,h10,d1,d1',d2,hq2,hq3,hql,hw1,hw2,hl3,hpl2,hpl.2,hpl1,hwin,hvar,g2,setRun,y1,y2]
   refine hk _ _ ⟨by simp [h1],by simp [h2],by simp [h3],by simp [h8],by simp [h9],by simp [h10]⟩ ⟨k,_,ext,y,_,by simp [fitP]; rfl,?_,g1,g3,?_⟩
   ·rw [zqA (by simpa using hkl)]; simp [hkl]
   ·exact (hy.setc hk1).more _
  ·have hag:¬ hasAgg r:=fun h=>d2 h.2
   have hru:(ruleOf r).args=argsOf r.args∧(ruleOf r).agg=⟨#[]⟩∧(ruleOf r).pos=0:=by simp [ruleOf,hag]
   rw [hru.1,hru.2.1,hru.2.2] at hk
   have d3:¬ ((pickN r.pos 2:Nat):Int)=1:=by omega
   simp [body3,c15,ACode.fst,ACode.snd,ACode.inn,fitP,h1,h2,h3,h8,h9,h10,d1,d1',d2,d3,hq2]
   exact hk _ _ ⟨by simp [h1],by simp [h2],by simp [h3],by simp [h8],by simp [h9],by simp [h10]⟩ ⟨k,cs,ext,y,R2,by simp [fitP],hk1,hk2,hk3,hy⟩
 ·have hag:¬ hasAgg r:=fun h=>d1 h.1
  have hru:(ruleOf r).args=argsOf r.args∧(ruleOf r).agg=⟨#[]⟩∧(ruleOf r).pos=0:=by simp [ruleOf,hag]
  rw [hru.1,hru.2.1,hru.2.2] at hk
  have d1':¬ (1:Int)<((argsOf r.args).length:Int):=by omega
  simp [body3,c15,ACode.fst,ACode.snd,ACode.inn,fitP,h1,h2,h3,h8,h9,h10,d1,d1']
  exact hk _ _ ⟨by simp [h1],by simp [h2],by simp [h3],by simp [h8],by simp [h9],by simp [h10]⟩ ⟨k,cs,ext,y,R2,by simp [fitP],hk1,hk2,hk3,hy⟩
theorem fit3e (p:GP) (i:Nat) (hi:i<p.rules.length) (xd xu xr:AV) (R:Heap) (esr:List AV) (hesr:esr.all (okEl 6 true)=true) (hln:esr.length≤1000) (hxr:LstA R 3 esr 6 xr) (K:List Fr) (Q:AExit→FR→Heap→Prop) (f:FR) (σ:Heap)
  (hf:Fr3 R i f) (hσ:RuSt p xd xu xr R p.rules[i] (ruleOf p.rules[i]).args (ruleOf p.rules[i]).agg (ruleOf p.rules[i]).pos ((ruleOf p.rules[i]).body.map GL.enc) σ)
  (hlab:(ruleOf p.rules[i]).label=relOf (p.rules[i]).label∧(ruleOf p.rules[i]).head=relOf (p.rules[i]).head∧(ruleOf p.rules[i]).args≠[])
  (hk:∀ f σ,f 1=.ptr 0 0→f 2=.ptr 1 0→f 3=.ptr 2 0→f 8=.int .i64 (i:Int)→(∃ xr' R',σ=fitP p xd xu xr' R'∧LstA R' 3 (esr++[(ruleOf p.rules[i]).enc]) 6 xr')→wpK T 0 202 K f σ Q) :
  wpK T 0 202 (.code body3.snd.snd.snd.snd.snd :: K) f σ Q:=by
 generalize hu:p.rules[i]=r at *
 generalize hw:ruleOf r=w at *
 obtain ⟨l1,l2,l3⟩:=hlab
 obtain ⟨k,cs,ext,y,R2,rfl,hk1,hk2,hk3,hy⟩:=hσ
 obtain ⟨h1,h2,h3,h8,h9,h10⟩:=hf
 rw [←l1,←l2]
 obtain ⟨a,ha⟩:∃ a,a=AObj.cells [.isl (p.decls.map GD.enc) false,.isl (p.facts.map GU.enc) false,.isl (p.rules.map GR.enc) false] 0 false:=⟨_,rfl⟩
 obtain ⟨b,hb⟩:∃ b,b=AObj.cells [.isl [] true,.isl [] true,.isl [] true] 0 false:=⟨_,rfl⟩
 obtain ⟨c,hc⟩:∃ c,c=AObj.cells [xd,xu,xr] 0 false:=⟨_,rfl⟩
 obtain ⟨d,hd⟩:∃ d,d=AObj.cells r.enc.cells 0 false:=⟨_,rfl⟩
 obtain ⟨e,he⟩:∃ e,e=AObj.cells [.str w.label,.str w.head,.sl (k+(R.length+5)) 0 w.args.length 7 true,.str w.agg,.int .i64 w.pos,y] 0 false:=⟨_,rfl⟩
 obtain ⟨y1,y2⟩:=hy.cell
 have hkl:k<R2.length:=(zqI.1 hk1).1
 have e0:∀ S:Heap,(a :: b :: c :: (R++[d,e]))++S=[a,b,c]++(R++(d :: e :: S)):=fun S=>by simp
 have hl5:(a :: b :: c :: (R++[d,e])).length=R.length+5:=by simp
 have hcl1:=close_terms (σ:=[a,b,c]++(R++(d :: e :: (R2++[AObj.cells [.str w.label,.str w.head,.sl (k+(R.length+5)) 0 w.args.length 7 true,.str w.agg,.int .i64 w.pos,y] 0 false])))) (k:=k+(R.length+5)) (L:=w.args) (cs:=cs) (fz:=0) (ext:=ext)
  (by rw [←e0,←hl5,zqB (by omega),Nat.add_sub_cancel,zqA hkl]; exact hk1) hk2 hk3 l3
 have hfz:frz ([a,b,c]++(R++(d :: e :: (R2++[AObj.cells [.str w.label,.str w.head,.sl (k+(R.length+5)) 0 w.args.length 7 true,.str w.agg,.int .i64 w.pos,y] 0 false])))) (k+(R.length+5)) (0+w.args.length * 7) =
   [a,b,c]++(R++(d :: e :: (frz R2 k (0+w.args.length * 7)++[AObj.cells [.str w.label,.str w.head,.sl (k+(R.length+5)) 0 w.args.length 7 true,.str w.agg,.int .i64 w.pos,y] 0 false]))):=by
  rw [←e0,←e0]
  rw [←hl5]
  rw [frz_app]
  congr 1
  unfold frz
  rw [zqA hkl,hk1]
  simp only
  rw [List.set_append_left _ _ hkl]
 rw [hfz] at hcl1
 have hcly:=fun σ=>hy.b.close (σ:=σ)
 obtain ⟨x',R3,hg,hx'⟩:=growC (pre:=[a,b,c]) (R:=R++(d :: e :: (R2++[AObj.cells [.str w.label,.str w.head,.sl (k+(R.length+5)) 0 w.args.length 7 true,.str w.agg,.int .i64 w.pos,y] 0 false])))
  (R1:=R++(d :: e :: (frz R2 k (0+w.args.length * 7)++[AObj.cells [.str w.label,.str w.head,.sl (k+(R.length+5)) 0 w.args.length 7 true,.str w.agg,.int .i64 w.pos,y] 0 false])))
  (m:=R.length+(R2.length+2)) (sz:=6) (bytes:=104) (fz:=0) (fz1:=0) (ext:=false) (ext1:=false) (x:=xr) (es:=esr)
  (cs:=[.str w.label,.str w.head,.sl (k+(R.length+5)) 0 w.args.length 7 true,.str w.agg,.int .i64 w.pos,y]) (ys:=[.str w.label,.str w.head,.isl (GT.encs w.args) false,.str w.agg,.int .i64 w.pos,.isl (w.body.map GL.enc) false])
  (hxr.more _) (by simp) rfl (by simp) (by
   simp [closeL]
   simp at hcl1
   simp [hcl1,hcly]) (by
   rw [zqB (by omega)]
   have:R.length+(R2.length+2) - R.length=(frz R2 k (0+w.args.length * 7)).length+2:=by rw [frz_len]; omega
   rw [this]; simp) rfl (by simp) (by
   intro k' n s hk'
   rcases Nat.lt_or_ge k' R.length with h | h
   ·rw [zqA h] at hk' ⊢; exact hk'
   ·rw [zqB h] at hk' ⊢
    generalize k' - R.length=m at *
    match m with
    | 0=>simpa using hk'
    | 1=>simpa using hk'
    | m+2=>
     simp only [zqD] at hk' ⊢
     rcases Nat.lt_or_ge m R2.length with h | h
     ·rw [zqA h] at hk'
      rw [zqA (by rw [frz_len]; exact h)]; exact frz_tok hk'
     ·rw [zqB h] at hk'
      rw [zqB (by rw [frz_len]; exact h),frz_len]; exact hk') (by simp [frz_len]) (by omega) (by omega) hesr (by omega)
 obtain ⟨s1,s2⟩:=hx'.cell
 have hfin:esr++[AV.agg ([AV.str w.label,.str w.head,.isl (GT.encs w.args) false,.str w.agg,.int .i64 w.pos,.isl (w.body.map GL.enc) false].map AV.nrm)]=esr++[w.enc]:=rfl
 rw [hfin] at hx'
 subst ha hb hc hd he
 simp at hg
 simp [body3,c15,ACode.fst,ACode.snd,ACode.inn,fitP,h1,h2,h3,h8,h9,h10,setRun,y1,y2,s1,s2,hg]
 exact hk _ _ (by simp [h1]) (by simp [h2]) (by simp [h3]) (by simp [h8]) ⟨x',R3,by simp [fitP],hx'⟩
open Go.Mach
theorem gr_okEl (x:GR):okEl 6 true x.enc=true:=rfl
theorem ruleOf_parts (r:GR):(ruleOf r).label=relOf r.label∧(ruleOf r).head=relOf r.head∧(ruleOf r).args≠[]∧(ruleOf r).body=bodyOf r.body:=by
 have h:=argsOf_len r.args
 unfold ruleOf
 split
 ·exact ⟨rfl,rfl,fun e=>by have:=congrArg List.length e; simp at this; rw [this] at h; simp at h,rfl⟩
 ·exact ⟨rfl,rfl,fun e=>by simp only at e; rw [e] at h; simp at h,rfl⟩
theorem fit3 (p:GP) (hp:p.ok) (hs:p.size≤1048576) (xd xu:AV) (R0:Heap) (K:List Fr) (Q:AExit→FR→Heap→Prop) (f:FR) (σ:Heap) (h1:f 1=.ptr 0 0) (h2:f 2=.ptr 1 0) (h3:f 3=.ptr 2 0) (hσ:σ=fitP p xd xu (.isl [] true) R0)
  (hk:∀ f σ,f 1=.ptr 0 0→f 2=.ptr 1 0→f 3=.ptr 2 0→(∃ xr R,σ=fitP p xd xu xr R∧LstB (((p.rules.take 64).map ruleOf).map GR.enc) xr)→wpK T 0 202 K f σ Q) :
  wpK T 0 202 (.code c15.body.snd.snd.snd.snd.fst :: K) f σ Q:=by
 subst hσ
 have hl:=p.rules_len
 have ha:=fit3a p hs
 have hb:=fit3b p hs
 have hc:=fit3c p
 have hd:=fit3d p hs
 have he:=fit3e p
 obtain ⟨B,hB⟩:∃ B,B=body3:=⟨_,rfl⟩
 have hBs:B=.seq B.fst (.seq B.snd.fst (.seq B.snd.snd.fst (.seq B.snd.snd.snd.fst (.seq B.snd.snd.snd.snd.fst B.snd.snd.snd.snd.snd)))):=by rw [hB]; rfl
 simp only [←hB] at ha hb hc hd he
 have hL:c15.body.snd.snd.snd.snd.fst=.seq c15.body.snd.snd.snd.snd.fst.fst (.block 6 (.loop (.seq c15.body.snd.snd.snd.snd.fst.snd.inn.inn.fst (.seq (.block 7 B) c15.body.snd.snd.snd.snd.fst.snd.inn.inn.snd.snd)))):=by rw [hB]; rfl
 rw [hL]
 clear hL hB
 simp [c15,ACode.fst,ACode.snd,ACode.inn,fitP]
 refine W_for T 0 202 (min p.rules.length 64) (fun i f σ=>f 1=.ptr 0 0∧f 2=.ptr 1 0∧f 3=.ptr 2 0∧f 8=.int .i64 (i:Int)∧∃ xr R,σ=fitP p xd xu xr R∧LstA R 3 (((p.rules.take i).map ruleOf).map GR.enc) 6 xr) ?_ _ _ ?_
 rotate_left 1
 ·exact ⟨by simp [h1],by simp [h2],by simp [h3],by simp,_,_,rfl,.inl ⟨by simp,rfl⟩⟩
 clear h1 h2 h3
 rintro i f σ hi ⟨h1,h2,h3,h8,xr,R,rfl,hx⟩
 by_cases hlt:i<min p.rules.length 64
 ·have c1:i<p.rules.length:=by omega
  have c2:(i:Int)<64:=by omega
  have hmem:=zqT c1
  have hlw:IntKind.i64.wrap ((i:Int)+1)=(i:Int)+1:=wr64 (by omega) (by omega)
  have e1:p.rules[i]?=some p.rules[i]:=zqF c1
  obtain ⟨q1,q2,q3,q4⟩:=ruleOf_parts p.rules[i]
  rw [take_map ruleOf _ _ c1,List.map_append]
  have hall:=allEl_map GR.enc 6 gr_okEl ((p.rules.take i).map ruleOf)
  have hlen:(((p.rules.take i).map ruleOf).map GR.enc).length=i:=by simp; omega
  generalize hES:((p.rules.take i).map ruleOf).map GR.enc=es at *
  simp [fitP,h1,h2,h3,h8,c1,c2,e1]
  rw [hBs]
  simp only [wpK_seq]
  refine ha i c1 (hp.2.2 _ hmem) xd xu xr R _ _ _ _ _ (by simp [h1]) (by simp [h2]) (by simp [h3]) (by simp [h8]) rfl ?_
  clear h1 h2 h3 h8
  intro f σ hf hσ
  simp only [wpK_seq]
  refine hb i c1 (hp.2.2 _ hmem) xd xu xr R _ _ _ f σ hf hσ ?_
  clear hf hσ f σ
  intro f σ hf hσ
  simp only [wpK_seq]
  refine hc i c1 xd xu xr R _ _ _ f σ hf hσ ?_
  clear hf hσ f σ
  intro f σ hf hσ
  simp only [wpK_seq]
  refine hd i c1 (hp.2.2 _ hmem) xd xu xr R _ _ _ f σ hf hσ ?_
  clear hf hσ f σ
  intro f σ hf hσ
  rw [←q4] at hσ
  refine he i c1 xd xu xr R es hall (by rw [hlen]; omega) hx _ _ f σ hf hσ ⟨q1,q2,q3⟩ ?_
  clear hf hσ f σ
  intro f σ h1 h2 h3 h8 ⟨xr',R',hσ,hx'⟩
  subst hσ
  simp [h1,h2,h3,h8,hlw]
  exact ⟨hlt,xr',R',rfl,hx'⟩
 ·have c1:¬ (i<p.rules.length∧(i:Int)<64):=by omega
  rw [take_min p.rules i 64 (by omega)] at hx
  by_cases d1:i<p.rules.length
  ·have d2:¬ ((i:Int)<64):=fun h=>c1 ⟨d1,h⟩
   simp [fitP,h1,h8,d1,d2]
   exact hk _ _ (by simp [h1]) (by simp [h2]) (by simp [h3]) ⟨_,_,rfl,hx.b⟩
  ·simp [fitP,h1,h8,d1]
   exact hk _ _ (by simp [h1]) (by simp [h2]) (by simp [h3]) ⟨_,_,rfl,hx.b⟩
theorem fit4_ok (p:GP) (hp:p.ok) (hs:p.size≤1048576):pureT T c15 [p.enc]=some (progOf p).enc:=by
 apply pure_enter (by simp [c15])
 have h1:=fit1 p hp hs
 have h2:=fit2 p hp hs
 have h3:=fit3 p hp hs
 obtain ⟨A,hA⟩:∃ A,A=c15.body.snd.snd.fst:=⟨_,rfl⟩
 obtain ⟨B,hB⟩:∃ B,B=c15.body.snd.snd.snd.fst:=⟨_,rfl⟩
 obtain ⟨C,hC⟩:∃ C,C=c15.body.snd.snd.snd.snd.fst:=⟨_,rfl⟩
 simp only [←hA,←hB,←hC] at h1 h2 h3
 have hL:c15.body=.seq c15.body.fst (.seq c15.body.snd.fst (.seq A (.seq B (.seq C c15.body.snd.snd.snd.snd.snd)))):=by rw [hA,hB,hC]; rfl
 rw [hL]
 clear hL hA hB hC
 simp [c15,ACode.fst,ACode.snd,GP.enc_eq]
 refine h1 _ _ _ _ (by simp) (by simp) (by simp) rfl ?_
 intro f σ g1 g2 g3 ⟨xd,R,hσ,hxd⟩
 simp only [wpK_seq]
 refine h2 xd R _ _ f σ g1 g2 g3 hσ ?_
 clear g1 g2 g3 hσ f σ
 intro f σ g1 g2 g3 ⟨xu,R,hσ,hxu⟩
 simp only [wpK_seq]
 refine h3 xd xu R _ _ f σ g1 g2 g3 hσ ?_
 clear g1 g2 g3 hσ f σ
 intro f σ g1 g2 g3 ⟨xr,R,hσ,hxr⟩
 subst hσ
 have a1:xd.cells=[xd]∧xu.cells=[xu]∧xr.cells=[xr]:=by
  refine ⟨?_,?_,?_⟩
  ·rcases hxd with ⟨_,rfl⟩ | ⟨k,rfl⟩ <;> rfl
  ·rcases hxu with ⟨_,rfl⟩ | ⟨k,rfl⟩ <;> rfl
  ·rcases hxr with ⟨_,rfl⟩ | ⟨k,rfl⟩ <;> rfl
 have b1:=fun σ=>hxd.close (σ:=σ)
 have b2:=fun σ=>hxu.close (σ:=σ)
 have b3:=fun σ=>hxr.close (σ:=σ)
 simp [fitP,g1,g2,g3,setRun,a1,b1,b2,b3,closeL]
 refine ⟨?_,?_,?_⟩ <;> simp [progOf]
theorem callFit4 (p:GP) (hp:p.ok) (hs:p.size≤1048576) (bs:Nat) (σ:Heap):callT T 15 [p.enc] bs σ=some ((progOf p).enc,σ):=call_clean rfl rfl rfl (by simp) (fit4_ok p hp hs)
open Go.Mach
section
variable {bs n:Nat} {f:FR} {σ:Heap}
theorem W_rfn {x:AX} {rc:RCode} {Q:AExit→FR→Heap→Prop} {g:Nat} {caps:List AV} {v:AV} {σ' σ2:Heap} {e:AExit} (hg:g≠yno) (hx:evF n f x=.func g caps)
  (hc:callT T g (.yld σ.length :: caps) bs (σ++[.lp rc (lst n f) .ready none])=some (v,σ')) (he:endLp σ.length (lst n f) σ'=some (e,lst n f,σ2)) (hQ:Q e f σ2):W T bs n (.rfn x rc) f σ Q:=by
 refine ⟨e,f,σ2,?_,hQ⟩
 rw [execT_rfn,ev_lst,hx]
 simp only [callN,if_neg hg,hc,Option.bind_some,he]
theorem round_call {id nt:Nat} {rc:RCode} {a b:ACode} {f1:FR} {st:LoopState} {pd:Option Code} {xs:List AV} {v:AV} {σ':Heap} (hσ:σ[id]?=some (.lp rc (lst n f) st pd)) (hrd:rds rc=some (nt,a,b)) (hn:nt≤n)
  (hp:xs.length=rc.params.size) (hput:putAll rc.params.toList xs (lst n f)=lst n f1)
  (hw:W T bs n a f1 σ fun e f2 σ1=>e=.normal∧∃ σ2,begLp id σ1=some σ2∧W T bs n b f2 σ2 fun e f3 σ3=>endRd id (e,lst n f3,σ3)=some (v,σ')) :
  callT T yno (.yld id :: xs) bs σ=some (v,σ'):=by
 rw [callT_yld T bs σ T_ok.yn.1 T_ok.yn.2]
 obtain ⟨e,f2,σ1,hr,rfl,σ2,hb,e3,f3,σ3,hr3,hend⟩:=hw
 have hT:T.rd rc=some (nt,a,b):=hrd
 have hlen:(lst n f).length=n:=by simp [lst]
 simp only [roundA,hσ,hT,Option.bind_some,hlen]
 rw [if_pos ⟨hp,hn⟩,hput,hr]
 simp only [Option.bind_some,bodyA,hb,hr3]
 exact hend
theorem put1 (d:Nat) (x:AV) (hd:d<n):putAll [d] [x] (lst n f)=lst n (upF f d x):=by
 have:=setDst_lst n f (some d) x
 simpa [putAll,setDst] using this
end
mutual
def vs1:GT→List ByteArray
 | .mk k n _ l=>if k=1 then [n] else vsL l
def vsL:List GT→List ByteArray
 | []=>[]
 | t :: l=>vs1 t++vsL l
end
theorem vs1_eq (t:GT):vs1 t=if t.kind=1 then [t.name] else vsL t.args:=by cases t; rfl
theorem vsL_append:∀ (a b:List GT),vsL (a++b)=vsL a++vsL b
 | [],b=>rfl
 | t :: a,b=>by simp [vsL,vsL_append a b]
def runS {S:Type} (step:S→ByteArray→S × Bool):S→List ByteArray→S × Bool
 | s,[]=>(s,true)
 | s,n :: ns=>if (step s n).2=true then runS step (step s n).1 ns else ((step s n).1,false)
theorem runS_append {S:Type} (step:S→ByteArray→S × Bool):∀ (a b:List ByteArray) (s:S),runS step s (a++b)=if (runS step s a).2=true then runS step (runS step s a).1 b else ((runS step s a).1,false)
 | [],b,s=>by simp [runS]
 | n :: a,b,s=>by
  simp only [List.cons_append,runS]
  by_cases h:(step s n).2=true
  ·simp only [if_pos h]; exact runS_append step a b _
  ·simp only [if_neg h]; simp
section
variable {S:Type} (H X:S→Heap→Prop) (step:S→ByteArray→S × Bool) (cnt:S→Nat) (C:Nat)
def Counts:Prop:=∀ s m,(step s m).2=true→cnt (step s m).1=cnt s+1
theorem Counts.run {step:S→ByteArray→S × Bool} {cnt:S→Nat} (h:Counts step cnt):∀ (l:List ByteArray) (s:S),(runS step s l).2=true→cnt (runS step s l).1=cnt s+l.length
 | [],s,_=>rfl
 | m :: l,s,hr=>by
  simp only [runS] at hr ⊢
  by_cases hb:(step s m).2=true
  ·rw [if_pos hb] at hr ⊢
   rw [h.run l _ hr,h s m hb,zqU]; omega
  ·rw [if_neg hb] at hr; cases hr
structure Rounds (bs id iy ie:Nat):Prop where
 more:∀ s σ o,H s σ→H s (σ++[o])
 y:∀ s σ,H s σ→σ[iy]?=some (.cells [.yld id] 0 false)
 e:∀ s σ,H s σ→σ[ie]?=some (.cells [.func 130 [.ptr iy 0,.ptr ie 0]] 0 false)
 ct:Counts step cnt
 rd:∀ s σ m,H s σ→cnt s<C→bs≤σ.length→∃ σ',callT T yno [.yld id,.str m] bs σ=some (.bool (step s m).2,σ')∧((step s m).2=true→H (step s m).1 σ')∧((step s m).2=false→X (step s m).1 σ')∧σ.length≤σ'.length
theorem GT.size_args (t:GT):GT.sizes t.args+3≤t.size:=by cases t; simp only [GT.size,GT.args]; omega
theorem each_ok {bs id iy ie:Nat} (R:Rounds H X step cnt C bs id iy ie):∀ (k:Nat) (l:List GT) (s:S) (σ:Heap),GT.sizes l≤k→k≤100000000000→H s σ→cnt s+(vsL l).length≤C→bs≤σ.length →
  ∃ σ',callT T 130 [.isl (GT.encs l) false,.ptr iy 0,.ptr ie 0] bs σ=some (.bool (runS step s (vsL l)).2,σ')∧((runS step s (vsL l)).2=true→H (runS step s (vsL l)).1 σ')∧((runS step s (vsL l)).2=false→X (runS step s (vsL l)).1 σ')∧σ.length≤σ'.length:=by
 intro k
 induction k using Nat.strongRecOn with
 | ind k ih=>
  intro l s σ hs hk hH hC hbs
  have hlen:=GT.len_sizes l
  suffices hh:∃ r,callT T 130 [.isl (GT.encs l) false,.ptr iy 0,.ptr ie 0] bs σ=some r∧(r.1=.bool (runS step s (vsL l)).2∧((runS step s (vsL l)).2=true→H (runS step s (vsL l)).1 r.2)∧((runS step s (vsL l)).2=false→X (runS step s (vsL l)).1 r.2)∧σ.length≤r.2.length) by
   obtain ⟨r,h1,h2,h3⟩:=hh
   exact ⟨r.2,by rw [h1,←h2],h3⟩
  refine heap_enterE (args':=[.isl (GT.encs l) false,.ptr iy 0,.ptr ie 0]) (σ1:=σ) (af:=c130) rfl rfl (by simp [c130]) (by simp [c130]) rfl ?_
  simp [c130,baseA]
  refine W_for T bs 27 l.length (fun i f τ=>f 1=.ptr iy 0∧f 2=.ptr ie 0∧f 7=.isl (GT.encs l) false∧f 8=.int .i64 (l.length:Int)∧f 9=.int .i64 (i:Int)∧(runS step s (vsL (l.take i))).2=true∧H (runS step s (vsL (l.take i))).1 τ∧σ.length≤τ.length) ?_ _ _ ?_
  ·rintro i f τ hi ⟨h1,h2,h7,h8,h9,hgo,hH2,hτ⟩
   by_cases hlt:i<l.length
   ·have hw:IntKind.i64.wrap ((i:Int)+1)=(i:Int)+1:=wr64 (by omega) (by omega)
    have hsz:=GT.sizes_mem (zqT hlt)
    have htk:vsL (l.take (i+1))=vsL (l.take i)++vs1 l[i]:=by
     rw [zqO hlt,vsL_append]; simp [vsL]
    have hobj:AObj.cells l[i].enc.cells 0 false=AObj.cells [.int .i64 l[i].kind,.str l[i].name,.int .i64 l[i].value.kind,.int .i64 l[i].value.num,.str l[i].value.text,.isl (GV.encs l[i].value.items) false,.isl (GT.encs l[i].args) false] 0 false:=by rw [GT.enc_eq]; rfl
    have hH3:=R.more _ _ (.cells l[i].enc.cells 0 false) hH2
    have hy:=R.y _ _ hH3
    have he:=R.e _ _ hH3
    rw [hobj] at hH3 hy he
    have hgn:∀ x:S × Bool,runS step s (vsL (l.take i)++vs1 l[i])=runS step (runS step s (vsL (l.take i))).1 (vs1 l[i]):=fun _=>by rw [runS_append,if_pos hgo]
    have hall:runS step s (vsL l)=if (runS step s (vsL (l.take (i+1)))).2=true then runS step (runS step s (vsL (l.take (i+1)))).1 (vsL (l.drop (i+1))) else ((runS step s (vsL (l.take (i+1)))).1,false):=by
     rw [←runS_append,←vsL_append,List.take_append_drop]
    rw [htk,runS_append,if_pos hgo] at hall
    rw [htk,runS_append,if_pos hgo]
    obtain ⟨s1,hs1⟩:∃ s1,(runS step s (vsL (l.take i))).1=s1:=⟨_,rfl⟩
    rw [hs1] at hall hH3 ⊢
    rw [vs1_eq] at hall ⊢
    have hcn:cnt s1+(vs1 l[i]).length≤C:=by
     have h1:=R.ct.run _ _ hgo
     rw [hs1] at h1
     have h2:vsL l=vsL (l.take i)++(vs1 l[i]++vsL (l.drop (i+1))):=by
      rw [←zqP,←htk,←vsL_append,List.take_append_drop]
     rw [h2,zqJ,zqJ] at hC
     omega
    rw [vs1_eq] at hcn
    by_cases hkind:l[i].kind=1
    ·have hc1:cnt s1<C:=by rw [if_pos hkind] at hcn; simp at hcn; omega
     rw [hkind] at hH3 hy he
     rw [if_pos hkind] at hall ⊢
     obtain ⟨τ2,hc,hH4,hX4,hl4⟩:=R.rd _ _ l[i].name hH3 hc1 (by simp; omega)
     simp only [runS] at hall ⊢
     simp only [zqJ,List.length_singleton] at hl4
     by_cases hb:(step s1 l[i].name).2=true
     ·rw [hb] at hc
      simp [h1,h2,h7,h8,h9,hlt,hw,hkind,hy,hc,hb]
      exact ⟨hH4 hb,by omega⟩
     ·have hb':(step s1 l[i].name).2=false:=by simpa using hb
      rw [hb'] at hc
      simp [h1,h2,h7,h8,h9,hlt,hw,hkind,hy,hc,hb',hall]
      exact ⟨hX4 hb',by omega⟩
    ·have hc2:cnt s1+(vsL l[i].args).length≤C:=by rw [if_neg hkind] at hcn; exact hcn
     rw [if_neg hkind] at hall ⊢
     obtain ⟨τ2,hc,hH4,hX4,hl4⟩:=ih (GT.sizes l[i].args) (by have:=GT.size_args l[i]; omega) l[i].args s1 _ (Nat.le_refl _) (by have:=GT.size_args l[i]; omega) hH3 hc2 (by simp; omega)
     simp only [zqJ,List.length_singleton] at hl4
     by_cases hb:(runS step s1 (vsL l[i].args)).2=true
     ·rw [hb] at hc
      simp [h1,h2,h7,h8,h9,hlt,hw,hkind,he,hc,hb]
      exact ⟨hH4 hb,by omega⟩
     ·have hb':(runS step s1 (vsL l[i].args)).2=false:=by simpa using hb
      rw [hb'] at hc
      simp [h1,h2,h7,h8,h9,hlt,hw,hkind,he,hc,hb',hall]
      exact ⟨hX4 hb',by omega⟩
   ·have he:i=l.length:=by omega
    subst he
    simp [h1,h2,h7,h8,h9]
    rw [List.take_length] at hgo hH2
    simp [hgo]
    exact ⟨hH2,hτ⟩
  ·simp [runS,vsL]
   exact hH
structure Rounds1 (bs id N:Nat):Prop where
 more:∀ s σ o,H s σ→H s (σ++[o])
 len:∀ s σ,H s σ→N≤σ.length
 ct:Counts step cnt
 rd:∀ s σ m,H s σ→cnt s<C→bs≤σ.length→∃ σ',callT T yno [.yld id,.str m] bs σ=some (.bool (step s m).2,σ')∧((step s m).2=true→H (step s m).1 σ')∧((step s m).2=false→X (step s m).1 σ')∧σ.length≤σ'.length ∧
  ∀ j cs,N≤j→σ[j]?=some (.cells cs 0 false)→σ'[j]?=some (.cells cs 0 false)
theorem iter_ok {bs id N il:Nat} (R:Rounds1 H X step cnt C bs id N) (l:List GT) (s:S) (σ:Heap) {fz:Nat} {ext:Bool} (hl:GT.sizes l≤100000000000) (hH:H s σ) (hC:cnt s+(vsL l).length≤C) (hbs:bs≤σ.length) (hil:σ[il]?=some (.cells [.isl (GT.encs l) false] fz ext)) :
  ∃ σ',callT T 129 [.yld id,.ptr il 0] bs σ=some (.tup [],σ')∧((runS step s (vsL l)).2=true→H (runS step s (vsL l)).1 σ')∧((runS step s (vsL l)).2=false→X (runS step s (vsL l)).1 σ')∧σ.length≤σ'.length:=by
 have hN:=R.len _ _ hH
 have hlt:il<σ.length:=(zqI.1 hil).1
 have R2:Rounds (fun s τ=>H s τ∧σ.length+1<τ.length∧τ[σ.length]?=some (.cells [.yld id] 0 false)∧τ[σ.length+1]?=some (.cells [.func 130 [.ptr σ.length 0,.ptr (σ.length+1) 0]] 0 false)) X step cnt C bs id σ.length (σ.length+1):=by
  refine ⟨fun s τ o h=>⟨R.more _ _ _ h.1,by simp; omega,?_,?_⟩,fun s τ h=>h.2.2.1,fun s τ h=>h.2.2.2,R.ct,fun s τ m h hc hb=>?_⟩
  ·rw [zqA (by omega)]; exact h.2.2.1
  ·rw [zqA (by omega)]; exact h.2.2.2
  ·obtain ⟨τ',h1,h2,h3,h4,h5⟩:=R.rd s τ m h.1 hc hb
   exact ⟨τ',h1,fun e=>⟨h2 e,by omega,h5 _ _ (by omega) h.2.2.1,h5 _ _ (by omega) h.2.2.2⟩,h3,h4⟩
 have e1:σ++[AObj.cells [.yld id] 0 false,AObj.cells [.func 130 [.ptr σ.length 0,.ptr (σ.length+1) 0]] 0 false]=(σ++[AObj.cells [.yld id] 0 false])++[AObj.cells [.func 130 [.ptr σ.length 0,.ptr (σ.length+1) 0]] 0 false]:=by simp
 obtain ⟨σ2,hc,h1,h2,h3⟩:=each_ok _ X step cnt C R2 (GT.sizes l) l s (σ++[AObj.cells [.yld id] 0 false,AObj.cells [.func 130 [.ptr σ.length 0,.ptr (σ.length+1) 0]] 0 false]) (Nat.le_refl _) hl
  ⟨by rw [e1]; exact R.more _ _ _ (R.more _ _ _ hH),by simp,by simp,by simp⟩ hC (by simp; omega)
 refine ⟨σ2,?_,fun e=>(h1 e).1,h2,by simp at h3; omega⟩
 have hil2:(σ++[AObj.cells [.yld id] 0 false,AObj.cells [.func 130 [.ptr σ.length 0,.ptr (σ.length+1) 0]] 0 false])[il]?=some (.cells [.isl (GT.encs l) false] fz ext):=by rw [zqA hlt]; exact hil
 refine heap_enter (args':=[.yld id,.ptr il 0]) (σ1:=σ) (af:=c129) rfl rfl (by simp [c129]) (by simp [c129]) rfl ?_
 have hb1:bs≤σ.length+1:=by omega
 simp [c129,baseA,hil2,hc,hb1,res1]
end
theorem variables_isl (l:List GT) (bs:Nat) (σ:Heap):callT T 107 [.isl (GT.encs l) false] bs σ=some (.func 129 [.ptr σ.length 0],σ++[.cells [.isl (GT.encs l) false] 0 false]):=by
 refine heap_enter (args':=[.isl (GT.encs l) false]) (σ1:=σ) (af:=c107) rfl rfl (by simp [c107]) (by simp [c107]) (by simp [closeArgs,c107]) ?_
 simp [c107,baseA,res1]
end Go.Proofs.YtjfgjnlocadpbaaGreatDoor
end
section
namespace Go.Proofs.YtjfgjnlocadpbaaGreatDoor
open Go.Mach
def memB (m:ByteArray) (b:List ByteArray):Bool:=b.any fun n=>decide (m=n)
theorem memB_iff (m:ByteArray) (b:List ByteArray):memB m b=true↔m∈b:=by simp [memB]
def idxN (m:ByteArray):List ByteArray→Nat
 | []=>0
 | n :: b=>if m=n then 0 else idxN m b+1
theorem idxN_get (m:ByteArray):∀ b:List ByteArray,memB m b=true→b[idxN m b]?=some m
 | [],h=>by simp [memB] at h
 | n :: b,h=>by
  simp only [idxN]
  by_cases e:m=n
  ·subst e; simp
  ·have h':memB m b=true:=by simpa [memB,e] using h
   simp [e,idxN_get m b h']
def addB (b:List ByteArray) (m:ByteArray):List ByteArray:=if memB m b=true then b else b++[m]
def mpN (b:List ByteArray):AObj:=.mp (b.map fun n=>(.str n,.bool true))
theorem mfind_names (m:ByteArray):∀ (b:List ByteArray) (i:Nat),mfind false [2] [.str m] i (b.map fun n=>(AV.str n,AV.bool true))=some (if memB m b=true then some (i+idxN m b,.bool true) else none)
 | [],i=>rfl
 | n :: b,i=>by
  have ih:=mfind_names m b (i+1)
  simp only [List.map_cons,mfind,keyC,Option.bind_some,eqcs_str,eqcs_nil,Option.map_some,Bool.and_true,Bool.false_eq_true,if_false]
  by_cases h:m=n
  ·subst h; simp [memB,idxN]
  ·have hm:memB m (n :: b)=memB m b:=by simp [memB,h]
   simp only [decide_eq_false h,ih,hm,idxN,if_neg h]
   split
   ·congr 3; omega
   ·rfl
theorem mlook_n {σ:Heap} {id:Nat} {b:List ByteArray} (h:σ[id]?=some (mpN b)) (m:ByteArray):mlookA σ false [2] (.bool false) false (.map id) (.str m)=some (.bool (memB m b)):=by
 simp only [mlookA,keyC,Option.bind_some,eqcs_str,eqcs_nil,Option.map_some,Option.isSome_some,if_true,mapOf,h,mpN,mfind_names,Bool.false_eq_true,if_false]
 cases hb:memB m b <;> simp [lookV]
theorem mset_n {σ:Heap} {id:Nat} {b:List ByteArray} (h:σ[id]?=some (mpN b)) (m:ByteArray):msetA σ false [2] (.map id) (.str m) (.bool true)=some (σ.set id (mpN (addB b m))):=by
 have hcl:closeA σ (.bool true)=some (.bool true,σ):=by simp
 simp only [msetA,keyC,Option.bind_some,eqcs_str,eqcs_nil,Option.map_some,Option.isSome_some,true_and,hcl,h,mpN,mfind_names,Bool.false_eq_true,if_false]
 cases hb:memB m b
 ·simp [addB,hb]
 ·have hi:(b.map fun n=>(AV.str n,AV.bool true)).set (idxN m b) (.str m,.bool true)=b.map fun n=>(AV.str n,AV.bool true):=by
   apply List.ext_getElem?
   intro j
   rw [List.getElem?_set]
   split
   ·rename_i e; subst e
    have hg:=idxN_get m b hb
    have hlt:=(zqI.1 hg).1
    rw [List.getElem?_map,hg,if_pos (by simpa using hlt)]; rfl
   ·rfl
  simp [addB,hb,hi]
theorem set_same {σ:Heap} {i:Nat} {o:AObj} (h:σ[i]?=some o):σ.set i o=σ:=by
 apply List.ext_getElem?
 intro j
 rw [List.getElem?_set]
 split
 ·rename_i e; subst e; rw [if_pos (zqI.1 h).1,h]
 ·rfl
theorem endRd_n {H:Heap} {i:Nat} {rc:RCode} {tm ρ:Regs} {st:LoopState} {pd:Option Go.Code} (h:H[i]?=some (.lp rc tm st pd)):endRd i (.normal,ρ,H)=some (.bool true,H.set i (.lp rc tm .ready none)):=by simp [endRd,h]
mutual
theorem vs1_len:∀ t:GT,(vs1 t).length≤t.size
 | .mk k n v l=>by
  have:=vsL_len l
  simp only [vs1,GT.size]
  split <;> simp <;> omega
theorem vsL_len:∀ l:List GT,(vsL l).length≤GT.sizes l
 | []=>by simp [vsL]
 | t :: l=>by
  have h1:=vs1_len t
  have h2:=vsL_len l
  simp only [vsL,zqJ,GT.sizes]; omega
end
open Go.Mach
def arityP (p:GP) (n:ByteArray):Int:=match p.decls.find? (fun d=>decide (d.name=n)) with
 | some d=>d.arity
 | none=>0
theorem idxG_find {α:Type} (q:α→Bool) (l:List α):(idxG q l<0∧l.find? q=none)∨∃ i,∃ h:i<l.length,idxG q l=(i:Int)∧l.find? q=some l[i]:=by
 unfold idxG
 cases h:l.findIdx? q with
 | none=>
  refine .inl ⟨by simp,?_⟩
  rw [List.findIdx?_eq_none_iff] at h
  rw [List.find?_eq_none]
  exact fun x hx=>by simp [h x hx]
 | some i=>
  obtain ⟨hi,hp,hall⟩:=List.findIdx?_eq_some_iff_getElem.1 h
  refine .inr ⟨i,hi,rfl,?_⟩
  rw [List.find?_eq_some_iff_append]
  refine ⟨hp,l.take i,l.drop (i+1),by rw [List.getElem_cons_drop,List.take_append_drop],fun x hx=>?_⟩
  obtain ⟨j,hj,rfl⟩:=zqS hx
  have:=hall j (by simp at hj; omega)
  simpa using this
theorem arity1_call (d:GD) (n:ByteArray) {k:Nat} (bs:Nat) (σ:Heap) (h:σ[k]?=some (.cells [.str n] 0 false)):callT T 71 [d.enc,.ptr k 0] bs σ=some (.bool (decide (d.name=n)),σ):=by
 have hk:k<σ.length:=(zqI.1 h).1
 have hk2:∀ o,(σ++[o])[k]?=some (.cells [.str n] 0 false):=fun o=>by rw [zqA hk]; exact h
 refine heap_enter (af:=c71) (args':=[d.enc,.ptr k 0]) (σ1:=σ) rfl rfl (by simp [c71]) (by simp [c71]) rfl ?_
 simp [c71,baseA,hk2,dropA_gc,refLt,res1,refLt2_bool,refLt2_int,take_1]
theorem arity_ok (p:GP) (n:ByteArray) (hl:p.decls.length≤100000000000):pureT T c43 [p.enc,.str n]=some (.int .i64 (arityP p n)):=by
 have hi:=fun σ (h:σ[1]?=some (AObj.cells [.str n] 0 false)) bs=>idxDecl (fun d=>decide (d.name=n)) p.decls 71 [.ptr 1 0] hl σ (fun x _ bs=>arity1_call x n bs σ h) bs
 apply pure_enter (by simp [c43])
 rcases idxG_find (fun d:GD=>decide (d.name=n)) p.decls with ⟨h1,h2⟩ | ⟨i,hlt,h1,h2⟩
 ·have h3:arityP p n=0:=by simp only [arityP,h2]
  simp [c43,hi,h1,h3]
 ·have h3:arityP p n=p.decls[i].arity:=by simp only [arityP,h2]
  rw [h1] at hi
  have h4:¬ ((i:Int)<0):=by omega
  simp [c43,hi,h4,h3,hlt]
theorem callArity (p:GP) (n:ByteArray) (hl:p.decls.length≤100000000000) (bs:Nat) (σ:Heap):callT T 43 [p.enc,.str n] bs σ=some (.int .i64 (arityP p n),σ):=call_clean rfl rfl rfl (by simp) (arity_ok p n hl)
theorem rd44:rds (rcOf Tryz.f74)=some r74:=by unfold rds; rw [if_pos rfl]
theorem ps44:(rcOf Tryz.f74).params=#[8]:=by kernel_rfl
def stepA (b:List ByteArray) (s:Nat) (m:ByteArray):Nat × Bool:=(s+1,memB m b)
theorem run_all (b:List ByteArray):∀ (ns:List ByteArray) (s:Nat),(runS (stepA b) s ns).2=ns.all (fun m=>memB m b)
 | [],s=>rfl
 | n :: ns,s=>by
  simp only [runS,List.all_cons]
  have e:(stepA b s n).2=memB n b:=rfl
  by_cases h:(stepA b s n).2=true
  ·rw [if_pos h,run_all b ns]; rw [e] at h; simp [h]
  ·rw [if_neg h]; rw [e] at h; simp [h]
def JA (σ:Heap) (k:Nat) (b:List ByteArray) (f:FR) (τ:Heap):Prop:=
 σ.length+4≤τ.length∧τ[σ.length]?=some (.cells [.map k] 0 false)∧τ[σ.length+1]?=some (.cells [.bool false] 0 false)∧τ[σ.length+3]?=some (.lp (rcOf Tryz.f74) (lst 13 f) .ready none)∧∀ j,j<σ.length→τ[j]?=σ[j]?
def XA (σ:Heap) (f:FR) (τ:Heap):Prop:=
 σ.length+4≤τ.length∧τ[σ.length+1]?=some (.cells [.bool false] 0 false)∧τ[σ.length+3]?=some (.lp (rcOf Tryz.f74) (lst 13 f) .done (some .ret))∧∀ j,j<σ.length→τ[j]?=σ[j]?
theorem endRd_r {H:Heap} {i:Nat} {rc:RCode} {tm ρ:Regs} {st:LoopState} {pd:Option Go.Code} (h:H[i]?=some (.lp rc tm st pd)):endRd i (.ret,ρ,H)=some (.bool false,H.set i (.lp rc tm .done (some .ret))):=by simp [endRd,h]
theorem roundA_ok {σ:Heap} {k:Nat} {b:List ByteArray} {f:FR} (hk:σ[k]?=some (mpN b)) (h2:f 2=.ptr σ.length 0) (h4:f 4=.ptr (σ.length+1) 0) (τ:Heap) (m:ByteArray) (hJ:JA σ k b f τ) :
  ∃ τ',callT T yno [.yld (σ.length+3),.str m] σ.length τ=some (.bool (memB m b),τ')∧(memB m b=true→JA σ k b f τ')∧(memB m b=false→XA σ f τ')∧τ.length≤τ'.length∧∀ j cs,σ.length+4≤j→τ[j]?=some (.cells cs 0 false)→τ'[j]?=some (.cells cs 0 false):=by
 obtain ⟨hN,hm,hc,hlp,hall⟩:=hJ
 have hkl:k<σ.length:=(zqI.1 hk).1
 have n1:¬ σ.length+3=σ.length:=by omega
 have n2:¬ σ.length+3=k:=by omega
 have n3:¬ σ.length+3=σ.length+1:=by omega
 have g1:∀ o,(τ.set (σ.length+3) o)[σ.length]?=some (.cells [.map k] 0 false):=fun o=>by rw [zqC n1]; exact hm
 have g2:∀ o,(τ.set (σ.length+3) o)[k]?=some (mpN b):=fun o=>by rw [zqC n2,hall k hkl]; exact hk
 have g3:∀ o,(τ.set (σ.length+3) o)[σ.length+1]?=some (.cells [.bool false] 0 false):=fun o=>by rw [zqC n3]; exact hc
 cases hin:memB m b
 ·refine ⟨_,round_call (f1:=upF f 8 (.str m)) hlp rd44 (Nat.le_refl _) (by rw [ps44]; rfl) (by rw [ps44]; exact put1 8 (.str m) (by decide)) (wpC_sound T σ.length 13 (by
   simp [r74]
   refine ⟨_,by simp [begLp,hlp]; rfl,wpC_sound T σ.length 13 ?_⟩
   simp [h2,h4,g1,g3,mlook_n (g2 _),hin]
   refine endRd_r (rc:=rcOf Tryz.f74) (tm:=lst 13 f) (st:=.busy) (pd:=none) ?_
   rw [zqC (by omega)]; exact list_set_at (by omega))),(fun e=>by cases e),fun _=>⟨by simp; omega,?_,?_,fun j hj=>?_⟩,by simp,fun j cs hj hcj=>?_⟩
  ·rw [zqC (by omega)]; exact list_set_at (by simp; omega)
  ·exact list_set_at (by simp; omega)
  ·rw [zqC (by omega),zqC (by omega),zqC (by omega)]; exact hall j hj
  ·rw [zqC (by omega),zqC (by omega),zqC (by omega)]; exact hcj
 ·refine ⟨τ,round_call (f1:=upF f 8 (.str m)) hlp rd44 (Nat.le_refl _) (by rw [ps44]; rfl) (by rw [ps44]; exact put1 8 (.str m) (by decide)) (wpC_sound T σ.length 13 ?_),fun _=>⟨hN,hm,hc,hlp,hall⟩,(fun e=>by cases e),Nat.le_refl _,fun _ _ _ h=>h⟩
  simp [r74]
  refine ⟨_,by simp [begLp,hlp]; rfl,wpC_sound T σ.length 13 ?_⟩
  simp [h2,h4,g1,g3,mlook_n (g2 _),hin]
  rw [endRd_n (list_set_at (by omega)),List.set_set,set_same hlp]
theorem take_of {σ τ:Heap} (hl:σ.length≤τ.length) (h:∀ j,j<σ.length→τ[j]?=σ[j]?):τ.take σ.length=σ:=by
 apply List.ext_getElem?
 intro j
 rw [List.getElem?_take]
 split
 ·rename_i hj; exact h j hj
 ·rename_i hj; rw [List.getElem?_eq_none (by omega)]
def allB (b:List ByteArray) (l:List GT):Bool:=(vsL l).all fun m=>memB m b
theorem callAllB (b:List ByteArray) (l:List GT) (hl:GT.sizes l≤1000000000) {k:Nat} (bs:Nat) (σ:Heap) (hk:σ[k]?=some (mpN b)):callT T 74 [.map k,.isl (GT.encs l) false] bs σ=some (.bool (allB b l),σ):=by
 refine heap_enter (af:=c74) (args':=[.map k,.isl (GT.encs l) false]) (σ1:=σ) rfl rfl (by simp [c74]) (by simp [c74]) (by simp [closeArgs,c74]) ?_
 have hv:=fun bs τ=>variables_isl l bs τ
 simp [c74,baseA,hv]
 generalize hf:upF _ _ _=f
 have h2:f 2=.ptr σ.length 0:=by rw [←hf]; simp
 have h4:f 4=.ptr (σ.length+1) 0:=by rw [←hf]; simp
 have h7:f 7=.func 129 [.ptr (σ.length+2) 0]:=by rw [←hf]; simp
 have R:Rounds1 (fun _=>JA σ k b f) (fun _=>XA σ f) (stepA b) (fun s=>s) 2000000000 σ.length (σ.length+3) (σ.length+4):=by
  refine ⟨?_,fun s τ h=>h.1,fun s m _=>rfl,fun s τ m h hc hb=>?_⟩
  ·rintro s τ o ⟨a1,a2,a3,a4,a5⟩
   refine ⟨by simp; omega,?_,?_,?_,fun j hj=>?_⟩
   ·rw [zqA (by omega)]; exact a2
   ·rw [zqA (by omega)]; exact a3
   ·rw [zqA (by omega)]; exact a4
   ·rw [zqA (by omega)]; exact a5 j hj
  ·exact roundA_ok hk h2 h4 τ m h
 have e0:σ++[AObj.cells [AV.map k] 0 false,AObj.cells [AV.bool false] 0 false,AObj.cells [AV.isl (GT.encs l) false] 0 false]++[.lp (rcOf Tryz.f74) (lst 13 f) .ready none]=σ++[AObj.cells [AV.map k] 0 false,AObj.cells [AV.bool false] 0 false,AObj.cells [AV.isl (GT.encs l) false] 0 false,.lp (rcOf Tryz.f74) (lst 13 f) .ready none]:=by simp
 have hvs:=vsL_len l
 obtain ⟨σ',hc,hH,hX,hlen⟩:=iter_ok (fun _=>JA σ k b f) (fun _=>XA σ f) (stepA b) (fun s=>s) 2000000000 R l 0 (il:=σ.length+2) (fz:=0) (ext:=false) (σ++[AObj.cells [AV.map k] 0 false,AObj.cells [AV.bool false] 0 false,AObj.cells [AV.isl (GT.encs l) false] 0 false]++[.lp (rcOf Tryz.f74) (lst 13 f) .ready none])
  (by omega) (by rw [e0]; exact ⟨by simp,by simp,by simp,by simp,fun j hj=>zqA hj⟩) (by omega) (by simp) (by rw [e0]; simp)
 rw [run_all] at hH hX
 have hlen3:(σ++[AObj.cells [AV.map k] 0 false,AObj.cells [AV.bool false] 0 false,AObj.cells [AV.isl (GT.encs l) false] 0 false]).length=σ.length+3:=by simp
 by_cases hb:allB b l=true
 ·obtain ⟨b1,b2,b3,b4,b5⟩:=hH hb
  refine W_rfn (g:=129) (caps:=[.ptr (σ.length+2) 0]) (by decide) (by simp [h7]) (by rw [hlen3]; exact hc) (e:=.normal) (σ2:=σ'.set (σ.length+3) (.lp (rcOf Tryz.f74) (lst 13 f) .exhausted none)) (by rw [hlen3]; simp [endLp,b4,pdX]) ?_
  refine wpK_sound T σ.length 13 _ _ _ _ ?_
  have c3:∀ o,(σ'.set (σ.length+3) o)[σ.length+1]?=some (.cells [.bool false] 0 false):=fun o=>by rw [zqC (by omega)]; exact b3
  have c4:∀ o o',((σ'.set (σ.length+3) o).set (σ.length+1) o').take σ.length=σ:=fun o o'=>take_of (by simp; omega) fun j hj=>by rw [zqC (by omega),zqC (by omega)]; exact b5 j hj
  have c5:∀ o o',((σ'.set (σ.length+3) o).set (σ.length+1) o')[σ.length+1]?=some o':=fun o o'=>list_set_at (by simp; omega)
  simp [h4,c3,c4,c5,hb,dropA_gc,refLt,res1,refLt2_bool]
 ·have hb':allB b l=false:=by simpa using hb
  obtain ⟨b1,b3,b4,b5⟩:=hX hb'
  refine W_rfn (g:=129) (caps:=[.ptr (σ.length+2) 0]) (by decide) (by simp [h7]) (by rw [hlen3]; exact hc) (e:=.ret) (σ2:=σ'.set (σ.length+3) (.lp (rcOf Tryz.f74) (lst 13 f) .exhausted (some .ret))) (by rw [hlen3]; simp [endLp,b4,pdX]) ?_
  refine contQ_ret T σ.length 13 ?_
  have c3:∀ o,(σ'.set (σ.length+3) o)[σ.length+1]?=some (.cells [.bool false] 0 false):=fun o=>by rw [zqC (by omega)]; exact b3
  have c4:∀ o,(σ'.set (σ.length+3) o).take σ.length=σ:=fun o=>take_of (by simp; omega) fun j hj=>by rw [zqC (by omega)]; exact b5 j hj
  simp [h4,c3,c4,hb',dropA_gc,refLt,res1,refLt2_bool]
def tops (l:List GT):List ByteArray:=(l.filter fun t=>decide (t.kind=1)).map GT.name
def takesB (b:List ByteArray) (x:GL):List ByteArray:=if x.kind=1 then (tops x.args).foldl addB b else b
def takesP (b:List ByteArray) (x:GL):Int × List ByteArray:=
 if allB (takesB b x) x.args=false then (61,takesB b x) else if x.kind≠4 then (0,takesB b x) else if memB x.name (takesB b x)=true then (62,takesB b x) else (0,addB (takesB b x) x.name)
theorem take_set {σ τ:Heap} {k:Nat} {o:AObj} (hl:σ.length≤τ.length) (hk:k<σ.length) (h:∀ j,j<σ.length→j≠k→τ[j]?=σ[j]?) (hk2:τ[k]?=some o):τ.take σ.length=σ.set k o:=by
 apply List.ext_getElem?
 intro j
 rw [List.getElem?_take,List.getElem?_set]
 split
 ·rename_i hj
  by_cases e:k=j
  ·subst e; rw [if_pos rfl]; simp [hk,hk2]
  ·rw [if_neg e]; exact h j hj fun e'=>e e'.symm
 ·rename_i hj
  rw [if_neg (by omega),List.getElem?_eq_none (by omega)]
def fstC:ACode→ACode
 | .seq a _=>a
 | c=>c
def sndC:ACode→ACode
 | .seq _ b=>b
 | c=>c
theorem takes_tail {σ:Heap} {k:Nat} {b1:List ByteArray} (x:GL) (hl:x.size≤1000000000) (hkl:k<σ.length) (f:FR) (τ:Heap) (h0:f 0=.map k) (h3:f 3=.ptr σ.length 0) (hN:σ.length+1≤τ.length)
  (hx:τ[σ.length]?=some (.cells [.int .i64 x.kind,.str x.name,.isl (GT.encs x.args) false] 0 false)) (hk:τ[k]?=some (mpN b1)) (hall:∀ j,j<σ.length→j≠k→τ[j]?=σ[j]?)
  {r:Int × List ByteArray} (hr:r=if allB b1 x.args=false then (61,b1) else if x.kind≠4 then (0,b1) else if memB x.name b1=true then (62,b1) else (0,addB b1 x.name)) :
  wpK T σ.length 42 [.code (sndC (sndC c73.body))] f τ (endR 42 [.tmp 4] true .gc σ.length (.int .i64 r.1,σ.set k (mpN r.2))):=by
 have hsz:GT.sizes x.args≤1000000000:=by have:=GL.args_le x; omega
 have hc:=fun bs=>callAllB b1 x.args hsz bs τ hk
 have ht:=take_set (by omega) hkl hall hk
 simp [c73,sndC,h0,h3,hx,hc]
 by_cases ha:allB b1 x.args=true
 ·by_cases h4:x.kind=4
  ·by_cases hm:memB x.name b1=true
   ·simp [ha] at hr
    simp [h4,hm] at hr
    subst hr
    simp [h0,h3,hx,ha,h4,mlook_n hk,hm,dropA_gc,refLt,res1,refLt2_int,ht]
   ·have hm':memB x.name b1=false:=by simpa using hm
    simp [ha] at hr
    simp [h4,hm'] at hr
    subst hr
    have ht2:(τ.set k (mpN (addB b1 x.name))).take σ.length=σ.set k (mpN (addB b1 x.name)):=take_set (by simp; omega) hkl (fun j hj hne=>by rw [zqC (fun e=>hne e.symm)]; exact hall j hj hne) (list_set_at (by omega))
    simp [h0,h3,hx,ha,h4,mlook_n hk,mset_n hk,hm',dropA_gc,refLt,res1,refLt2_int,ht2]
  ·simp [ha] at hr
   simp [h4] at hr
   subst hr
   simp [h0,h3,hx,ha,h4,dropA_gc,refLt,res1,refLt2_int,ht]
 ·have ha':allB b1 x.args=false:=by simpa using ha
  simp [ha'] at hr
  subst hr
  simp [ha',dropA_gc,refLt,res1,refLt2_int,ht]
theorem callTakes (b:List ByteArray) (x:GL) (hl:x.size≤1000000000) {k:Nat} (bs:Nat) (σ:Heap) (hk:σ[k]?=some (mpN b)):callT T 73 [.map k,x.enc] bs σ=some (.int .i64 (takesP b x).1,σ.set k (mpN (takesP b x).2)):=by
 have hkl:k<σ.length:=(zqI.1 hk).1
 have hsz:GT.sizes x.args≤1000000000:=by have:=GL.args_le x; omega
 have hlen:=GT.len_sizes x.args
 have tail:=fun b1=>takes_tail (σ:=σ) (k:=k) (b1:=b1) x hl hkl
 refine heap_enter (af:=c73) (args':=[.map k,x.enc]) (σ1:=σ) rfl rfl (by simp [c73]) (by simp [c73]) (by simp [closeArgs,c73]) ?_
 show wpK T σ.length 42 [.code c73.body] _ σ (endR 42 [.tmp 4] true .gc σ.length _)
 have hb:c73.body=.seq (fstC c73.body) (.seq (fstC (sndC c73.body)) (sndC (sndC c73.body))):=rfl
 rw [hb]
 generalize sndC (sndC c73.body)=K at tail
 by_cases h1:x.kind=1
 ·simp [c73,fstC,sndC,h1]
  refine W_for T σ.length 42 x.args.length (fun i f τ=>f 0=.map k∧f 3=.ptr σ.length 0∧f 11=.isl (GT.encs x.args) false∧f 12=.int .i64 (x.args.length:Int)∧f 13=.int .i64 (i:Int)∧σ.length+1≤τ.length ∧
   τ[σ.length]?=some (.cells [.int .i64 x.kind,.str x.name,.isl (GT.encs x.args) false] 0 false)∧τ[k]?=some (mpN ((tops (x.args.take i)).foldl addB b))∧∀ j,j<σ.length→j≠k→τ[j]?=σ[j]?) ?_ _ _ ?_
  ·rintro i f τ hi ⟨h0,h3,h11,h12,h13,hN,hx,hm,hall⟩
   by_cases hlt:i<x.args.length
   ·have hw:IntKind.i64.wrap ((i:Int)+1)=(i:Int)+1:=wr64 (by omega) (by omega)
    have htk:tops (x.args.take (i+1))=tops (x.args.take i)++tops [x.args[i]]:=by
     unfold tops; rw [zqO hlt,List.filter_append,List.map_append]
    rw [htk,List.foldl_append]
    have hm2:∀ o,(τ++[o])[k]?=some (mpN ((tops (x.args.take i)).foldl addB b)):=fun o=>by rw [zqA (by omega)]; exact hm
    generalize (tops (x.args.take i)).foldl addB b=b1 at *
    by_cases hk1:x.args[i].kind=1
    ·simp [h0,h3,h11,h12,h13,hlt,hw,hk1,mset_n (hm2 _)]
     refine ⟨by omega,?_,?_,fun j hj hne=>?_⟩
     ·rw [zqC (by omega),zqA (by omega)]; exact hx
     ·have:tops [x.args[i]]=[x.args[i].name]:=by simp [tops,hk1]
      rw [this]; exact list_set_at (by simp; omega)
     ·rw [zqC (fun e=>hne e.symm),zqA (by omega)]; exact hall j hj hne
    ·have:tops [x.args[i]]=[]:=by simp [tops,hk1]
     simp [h0,h3,h11,h12,h13,hlt,hw,hk1,this]
     refine ⟨by omega,?_,hm2 _,fun j hj hne=>?_⟩
     ·rw [zqA (by omega)]; exact hx
     ·rw [zqA (by omega)]; exact hall j hj hne
   ·have he:i=x.args.length:=by omega
    subst he
    simp [h0,h3,h11,h12,h13]
    rw [List.take_length] at hm
    refine tail _ _ τ (by simp [h0]) (by simp [h3]) hN hx hm hall ?_
    simp [takesP,takesB,h1]
  ·simp [h1,hk]
   exact ⟨by rw [zqA hkl]; simpa [tops] using hk,fun j hj _=>zqA hj⟩
 ·simp [c73,fstC,sndC,h1]
  refine tail b _ _ (by simp) (by simp) (by simp) (by simp) (by rw [zqA hkl]; exact hk) (fun j hj _=>zqA hj) ?_
  simp [takesP,takesB,h1]
def badL (p:GP) (l:GL):Bool:=(decide (l.kind=1) || decide (l.kind=2)) && decide (arityP p l.name≠(l.args.length:Int))
def relsB (p:GP) (r:GR):Bool:=decide (arityP p r.head=(r.args.length:Int)) && !(r.body.any (badL p))
theorem rel1_call (p:GP) (hl:p.decls.length≤100000000000) (l:GL) {k:Nat} (bs:Nat) (σ:Heap) (h:σ[k]?=some (.cells p.enc.cells 0 false)):callT T 106 [l.enc,.ptr k 0] bs σ=some (.bool (badL p l),σ):=by
 have hk:k<σ.length:=(zqI.1 h).1
 have hk2:∀ o,(σ++[o])[k]?=some (.cells [.isl (p.decls.map GD.enc) false,.isl (p.facts.map GU.enc) false,.isl (p.rules.map GR.enc) false] 0 false):=fun o=>by rw [zqA hk]; exact h
 have hA:=callArity p l.name hl
 refine heap_enter (af:=c106) (args':=[l.enc,.ptr k 0]) (σ1:=σ) rfl rfl (by simp [c106]) (by simp [c106]) rfl ?_
 by_cases h1:l.kind=1
 ·simp [c106,baseA,hk2,h1,hA,←GP.enc_eq,dropA_gc,refLt,res1,refLt2_bool,refLt2_int,take_1,badL]
 ·by_cases h2:l.kind=2
  ·simp [c106,baseA,hk2,h1,h2,hA,←GP.enc_eq,dropA_gc,refLt,res1,refLt2_bool,refLt2_int,take_1,badL]
  ·simp [c106,baseA,hk2,h1,h2,hA,←GP.enc_eq,dropA_gc,refLt,res1,refLt2_bool,refLt2_int,take_1,badL]
theorem rels_ok (p:GP) (hl:p.decls.length≤100000000000) (r:GR) (hb:r.body.length≤100000000000):pureT T c72 [p.enc,r.enc]=some (.bool (relsB p r)):=by
 have hA:=callArity p r.head hl
 have hC:=fun σ (h:σ[0]?=some (AObj.cells [.isl (p.decls.map GD.enc) false,.isl (p.facts.map GU.enc) false,.isl (p.rules.map GR.enc) false] 0 false)) bs=>conLiteral (badL p) r.body 106 [.ptr 0 0] hb σ (fun x _ bs=>rel1_call p hl x bs σ h) bs
 apply pure_enter (by simp [c72])
 by_cases h1:arityP p r.head=(r.args.length:Int)
 ·simp [c72,h1,hA,hC,←GP.enc_eq,relsB,sym]
 ·simp [c72,h1,hA,hC,←GP.enc_eq,relsB]
theorem callRels (p:GP) (hl:p.decls.length≤100000000000) (r:GR) (hb:r.body.length≤100000000000) (bs:Nat) (σ:Heap):callT T 72 [p.enc,r.enc] bs σ=some (.bool (relsB p r),σ):=call_clean rfl rfl rfl (by simp) (rels_ok p hl r hb)
def goB:List ByteArray→List GL→Int × List ByteArray
 | b,[]=>(0,b)
 | b,l :: ls=>if (takesP b l).1≠0 then takesP b l else goB (takesP b l).2 ls
def ruleP (p:GP) (r:GR):Int:=if relsB p r=false then 60 else if (goB [] r.body).1≠0 then (goB [] r.body).1 else if allB (goB [] r.body).2 r.args=false then 61 else 0
theorem goB_stop:∀ (a c:List GL) (b:List ByteArray),(goB b a).1≠0→goB b (a++c)=goB b a
 | [],c,b,h=>absurd rfl h
 | l :: a,c,b,h=>by
  by_cases h1:(takesP b l).1≠0
  ·simp only [List.cons_append,goB,if_pos h1]
  ·have e:goB b (l :: a)=goB (takesP b l).2 a:=by simp only [goB,if_neg h1]
   rw [e] at h ⊢
   rw [←goB_stop a c _ h]
   simp only [List.cons_append,goB,if_neg h1]
theorem goB_on:∀ (a c:List GL) (b:List ByteArray),(goB b a).1=0→goB b (a++c)=goB (goB b a).2 c
 | [],c,b,h=>rfl
 | l :: a,c,b,h=>by
  by_cases h1:(takesP b l).1≠0
  ·have e:goB b (l :: a)=takesP b l:=by simp only [goB,if_pos h1]
   rw [e] at h; exact absurd h h1
  ·have e:goB b (l :: a)=goB (takesP b l).2 a:=by simp only [goB,if_neg h1]
   rw [e] at h ⊢
   rw [←goB_on a c _ h]
   simp only [List.cons_append,goB,if_neg h1]
theorem rule_ok (p:GP) (hl:p.decls.length≤100000000000) (r:GR) (hr:r.size≤1000000000):pureT T c44 [p.enc,r.enc]=some (.int .i64 (ruleP p r)):=by
 have hbl:=GR.body_len r
 have hsz:GT.sizes r.args≤1000000000:=by have:=GR.args_le r; omega
 have hR:=callRels p hl r (by omega)
 apply pure_enter (by simp [c44])
 by_cases h1:relsB p r=true
 ·simp [c44,hR,h1,←GP.enc_eq,←GR.enc_eq]
  refine W_for T 0 33 r.body.length (fun i f τ=>f 3=.ptr 1 0∧f 5=.map 2∧f 15=.isl (r.body.map GL.enc) false∧f 16=.int .i64 (r.body.length:Int)∧f 17=.int .i64 (i:Int)∧3≤τ.length∧(goB [] (r.body.take i)).1=0 ∧
   τ[1]?=some (.cells [.str r.label,.str r.head,.isl (GT.encs r.args) false,.str r.agg,.int .i64 r.pos,.isl (r.body.map GL.enc) false] 0 false)∧τ[2]?=some (mpN (goB [] (r.body.take i)).2)) ?_ _ _ ?_
  ·rintro i f τ hi ⟨h3,h5,h15,h16,h17,hN,hgo,hr1,hm⟩
   by_cases hlt:i<r.body.length
   ·have hw:IntKind.i64.wrap ((i:Int)+1)=(i:Int)+1:=wr64 (by omega) (by omega)
    have e0:r.body[i]?=some r.body[i]:=zqF hlt
    have htk:r.body.take (i+1)=r.body.take i++[r.body[i]]:=zqO hlt
    have hdr:r.body=r.body.take (i+1)++r.body.drop (i+1):=(List.take_append_drop _ _).symm
    have hxs:=GR.body_mem r (zqT hlt)
    have hm2:∀ o,(τ++[o])[2]?=some (mpN (goB [] (r.body.take i)).2):=fun o=>by rw [zqA (by omega)]; exact hm
    have hr2:∀ o o',((τ++[o]).set 2 o')[1]?=some (.cells [.str r.label,.str r.head,.isl (GT.encs r.args) false,.str r.agg,.int .i64 r.pos,.isl (r.body.map GL.enc) false] 0 false):=fun o o'=>by rw [zqC (by decide),zqA (by omega)]; exact hr1
    have hT:=callTakes (goB [] (r.body.take i)).2 r.body[i] (by omega) (k:=2) 0 (τ++[.cells [.int .i64 r.body[i].kind,.str r.body[i].name,.isl (GT.encs r.body[i].args) false] 0 false]) (hm2 _)
    have e1:goB [] (r.body.take (i+1))=if (takesP (goB [] (r.body.take i)).2 r.body[i]).1≠0 then takesP (goB [] (r.body.take i)).2 r.body[i] else (0,(takesP (goB [] (r.body.take i)).2 r.body[i]).2):=by
     rw [htk,goB_on _ _ _ hgo]; rfl
    by_cases hz:(takesP (goB [] (r.body.take i)).2 r.body[i]).1=0
    ·rw [hz] at hT
     have e2:goB [] (r.body.take (i+1))=(0,(takesP (goB [] (r.body.take i)).2 r.body[i]).2):=by rw [e1]; simp [hz]
     rw [e2]
     simp [h3,h5,h15,h16,h17,hlt,e0,hw,hT,←GL.enc_eq]
     exact ⟨by omega,by rw [zqA (by omega)]; exact hr1,list_set_at (by simp; omega)⟩
    ·have e2:goB [] (r.body.take (i+1))=takesP (goB [] (r.body.take i)).2 r.body[i]:=by rw [e1]; simp [hz]
     have e3:goB [] r.body=takesP (goB [] (r.body.take i)).2 r.body[i]:=by
      rw [←e2]; conv=>lhs; rw [hdr]
      exact goB_stop _ _ _ (by rw [e2]; exact hz)
     simp [h3,h5,h15,h16,h17,hlt,e0,hw,hT,hz,←GL.enc_eq,ruleP,h1,e3]
     done
   ·have he:i=r.body.length:=by omega
    subst he
    rw [List.take_length] at hgo hm
    have hA:=fun bs=>callAllB (goB [] r.body).2 r.args hsz (k:=2) bs τ hm
    by_cases ha:allB (goB [] r.body).2 r.args=true
    ·simp [h3,h5,h15,h16,h17,hr1,hA,ha,ruleP,h1,hgo]
     done
    ·have ha':allB (goB [] r.body).2 r.args=false:=by simpa using ha
     simp [h3,h5,h15,h16,h17,hr1,hA,ha',ruleP,h1,hgo]
     done
  ·simp [goB,mpN]
 ·have h1':relsB p r=false:=by simpa using h1
  simp [c44,hR,h1',←GP.enc_eq,←GR.enc_eq,ruleP]
theorem callRule6 (p:GP) (hl:p.decls.length≤100000000000) (r:GR) (hr:r.size≤1000000000) (bs:Nat) (σ:Heap):callT T 44 [p.enc,r.enc] bs σ=some (.int .i64 (ruleP p r),σ):=call_clean rfl rfl rfl (by simp) (rule_ok p hl r hr)
open Go.Mach
def firstP (p:GP):List GR→Nat→Int × Int
 | [],_=>(0,-1)
 | r :: rs,i=>if ruleP p r≠0 then (ruleP p r,(i:Int)) else firstP p rs (i+1)
def badF (p:GP) (t:GU):Bool:=decide (arityP p t.name≠(t.args.length:Int))
def dupD:List ByteArray→List GD→Bool
 | _,[]=>false
 | b,d :: ds=>memB d.name b || dupD (addB b d.name) ds
def checkP (p:GP):Int × Int:=if progB p=false then (40,-1) else if dupD [] p.decls=true then (60,-1) else if p.facts.any (badF p)=true then (60,-1) else firstP p p.rules 0
def pCells (p:GP):AObj:=.cells [.isl (p.decls.map GD.enc) false,.isl (p.facts.map GU.enc) false,.isl (p.rules.map GR.enc) false] 0 false
abbrev res2 (r:Int × Int):AV:=.tup [.int .i64 r.1,.int .i64 r.2]
abbrev T2:ACode:=sndC (sndC (sndC (sndC c19.body)))
theorem check_rules (p:GP) (hp:p.size≤1000000000) (f:FR) (τ:Heap) (h1:f 1=.ptr 0 0) (h0:τ[0]?=some (pCells p)):wpK T 0 63 [.code (sndC T2)] f τ (endP 63 [.tmp 2,.tmp 3] (res2 (firstP p p.rules 0))):=by
 have hl:=GP.rules_len p
 have hdl:=GP.decls_len p
 unfold pCells at h0
 simp [T2,c19,sndC,h1,h0]
 refine W_for T 0 63 p.rules.length (fun i f τ=>f 1=.ptr 0 0∧f 48=.isl (p.rules.map GR.enc) false∧f 49=.int .i64 (p.rules.length:Int)∧f 50=.int .i64 (i:Int)∧1≤τ.length∧τ[0]?=some (.cells [.isl (p.decls.map GD.enc) false,.isl (p.facts.map GU.enc) false,.isl (p.rules.map GR.enc) false] 0 false)∧firstP p p.rules 0=firstP p (p.rules.drop i) i) ?_ _ _ ?_
 ·rintro i f τ hi ⟨h1,h48,h49,h50,hN,h0,hf⟩
  by_cases hlt:i<p.rules.length
  ·have hw:IntKind.i64.wrap ((i:Int)+1)=(i:Int)+1:=wr64 (by omega) (by omega)
   have e0:p.rules[i]?=some p.rules[i]:=zqF hlt
   have hrs:=GP.rules_mem p (zqT hlt)
   have hR:=callRule6 p (by omega) p.rules[i] (by omega)
   have h02:∀ o,(τ++[o])[0]?=some (.cells [.isl (p.decls.map GD.enc) false,.isl (p.facts.map GU.enc) false,.isl (p.rules.map GR.enc) false] 0 false):=fun o=>by rw [zqA (by omega)]; exact h0
   have h03:∀ o (h:0<(τ++[o]).length),(τ++[o])[0]'h=.cells [.isl (p.decls.map GD.enc) false,.isl (p.facts.map GU.enc) false,.isl (p.rules.map GR.enc) false] 0 false:=fun o h=>Option.some_inj.1 ((zqF h).symm.trans (h02 o))
   rw [zqM hlt] at hf
   simp only [firstP] at hf
   by_cases hz:ruleP p p.rules[i]=0
   ·rw [if_neg (by simpa using hz)] at hf
    rw [hz] at hR
    simp [h1,h48,h49,h50,hlt,e0,hw,h02,h03,hR,←GP.enc_eq,←GR.enc_eq,hf]
   ·rw [if_pos hz] at hf
    simp [h1,h48,h49,h50,hlt,e0,hw,h02,h03,hR,←GP.enc_eq,←GR.enc_eq,hf,hz,endP,res1]
  ·have he:i=p.rules.length:=by omega
   subst he
   rw [List.drop_length] at hf
   simp [h1,h48,h49,h50,hf,firstP,endP,res1]
 ·simp [h1,h0]
  exact (zqI.1 h0).1
theorem check_facts (p:GP) (hp:p.size≤1000000000) (f:FR) (τ:Heap) (h1:f 1=.ptr 0 0) (h0:τ[0]?=some (pCells p)):wpK T 0 63 [.code T2] f τ (endP 63 [.tmp 2,.tmp 3] (res2 (if p.facts.any (badF p)=true then (60,-1) else firstP p p.rules 0))):=by
 have hl:=GP.facts_len p
 have hdl:=GP.decls_len p
 have tail:=check_rules p hp
 obtain ⟨B,hB⟩:∃ B,p.facts.any (badF p)=B:=⟨_,rfl⟩
 rw [hB]
 have hb:T2=.seq (fstC T2) (sndC T2):=rfl
 rw [hb]
 generalize sndC T2=K at tail
 unfold pCells at h0
 simp [T2,c19,sndC,fstC,h1,h0]
 refine W_for T 0 63 p.facts.length (fun i f τ=>f 1=.ptr 0 0∧f 32=.isl (p.facts.map GU.enc) false∧f 33=.int .i64 (p.facts.length:Int)∧f 34=.int .i64 (i:Int)∧1≤τ.length∧τ[0]?=some (.cells [.isl (p.decls.map GD.enc) false,.isl (p.facts.map GU.enc) false,.isl (p.rules.map GR.enc) false] 0 false)∧B=(p.facts.drop i).any (badF p)) ?_ _ _ ?_
 ·rintro i f τ hi ⟨h1,h48,h49,h50,hN,h0,hf⟩
  by_cases hlt:i<p.facts.length
  ·have hw:IntKind.i64.wrap ((i:Int)+1)=(i:Int)+1:=wr64 (by omega) (by omega)
   have e0:p.facts[i]?=some p.facts[i]:=zqF hlt
   have hA:=callArity p p.facts[i].name (by omega)
   have h02:∀ o,(τ++[o])[0]?=some (.cells [.isl (p.decls.map GD.enc) false,.isl (p.facts.map GU.enc) false,.isl (p.rules.map GR.enc) false] 0 false):=fun o=>by rw [zqA (by omega)]; exact h0
   have h03:∀ o (h:0<(τ++[o]).length),(τ++[o])[0]'h=.cells [.isl (p.decls.map GD.enc) false,.isl (p.facts.map GU.enc) false,.isl (p.rules.map GR.enc) false] 0 false:=fun o h=>Option.some_inj.1 ((zqF h).symm.trans (h02 o))
   rw [zqM hlt] at hf
   simp only [List.any_cons] at hf
   by_cases hz:arityP p p.facts[i].name=(p.facts[i].args.length:Int)
   ·have hbf:badF p p.facts[i]=false:=by simp [badF,hz]
    rw [hbf,Bool.false_or] at hf
    simp [h1,h48,h49,h50,hlt,e0,hw,h02,h03,hA,hz,←GP.enc_eq,hf]
   ·have hbf:badF p p.facts[i]=true:=by simp [badF,hz]
    rw [hbf,Bool.true_or] at hf
    simp [h1,h48,h49,h50,hlt,e0,hw,h02,h03,hA,hz,←GP.enc_eq,hf,endP,res1]
  ·have he:i=p.facts.length:=by omega
   subst he
   rw [List.drop_length,List.any_nil] at hf
   simp [h1,h48,h49,h50,hf]
   exact tail (upF f 35 (.bool false)) τ (by simp [h1]) h0
 ·simp only [List.drop_zero,hB]
  simp [h1,h0]
  exact (zqI.1 h0).1
theorem check_ok (p:GP) (hp:p.size≤1000000000):pureT T c19 [p.enc]=some (res2 (checkP p)):=by
 have hl:=GP.decls_len p
 have tail:=check_facts p hp
 have hR:=callPRight p (by omega)
 apply pure_enter (by simp [c19])
 show wpK T 0 63 [.code c19.body] _ [] (endP 63 [.tmp 2,.tmp 3] _)
 have hb:c19.body=.seq (fstC c19.body) (.seq (fstC (sndC c19.body)) (.seq (fstC (sndC (sndC c19.body))) (.seq (fstC (sndC (sndC (sndC c19.body)))) T2))):=rfl
 rw [hb]
 generalize T2=K at tail
 by_cases hr:progB p=true
 ·simp [c19,sndC,fstC,hR,hr,←GP.enc_eq,sym]
  refine W_for T 0 63 p.decls.length (fun i f τ=>f 1=.ptr 0 0∧f 4=.map 1∧f 17=.isl (p.decls.map GD.enc) false∧f 18=.int .i64 (p.decls.length:Int)∧f 19=.int .i64 (i:Int)∧2≤τ.length∧τ[0]?=some (pCells p)∧∃ b,τ[1]?=some (mpN b)∧dupD [] p.decls=dupD b (p.decls.drop i)) ?_ _ _ ?_
  ·rintro i f τ hi ⟨h1,h4,h48,h49,h50,hN,h0,b,hm,hf⟩
   by_cases hlt:i<p.decls.length
   ·have hw:IntKind.i64.wrap ((i:Int)+1)=(i:Int)+1:=wr64 (by omega) (by omega)
    have e0:p.decls[i]?=some p.decls[i]:=zqF hlt
    have hm2:∀ o,(τ++[o])[1]?=some (mpN b):=fun o=>by rw [zqA (by omega)]; exact hm
    have h03:∀ o (h:0<(τ++[o]).length),(τ++[o])[0]'h=pCells p:=fun o h=>Option.some_inj.1 ((zqF h).symm.trans (by rw [zqA (by omega)]; exact h0))
    rw [zqM hlt] at hf
    simp only [dupD] at hf
    cases hin:memB p.decls[i].name b
    ·rw [hin,Bool.false_or] at hf
     simp [h1,h4,h48,h49,h50,hlt,e0,hw,mlook_n (hm2 _),mset_n (hm2 _),hin]
     refine ⟨by omega,?_,addB b p.decls[i].name,?_,hf⟩
     ·first | exact h03 _ _ | (rw [zqA (by omega)]; exact h0)
     ·first | exact list_set_at (by simp; omega) | (simp; omega)
    ·rw [hin,Bool.true_or] at hf
     simp [h1,h4,h48,h49,h50,hlt,e0,hw,mlook_n (hm2 _),hin,endP,res1,checkP,hr,hf]
   ·have he:i=p.decls.length:=by omega
    subst he
    rw [List.drop_length] at hf
    have hf2:dupD [] p.decls=false:=hf
    simp [h1,h4,h48,h49,h50]
    have ht:=tail (upF f 20 (.bool false)) τ (by simp [h1]) h0
    simpa [checkP,hr,hf2] using ht
  ·simp [pCells]
   exact ⟨[],rfl,rfl⟩
 ·have hr':progB p=false:=by simpa using hr
  simp [c19,sndC,fstC,hR,hr',←GP.enc_eq,sym,endP,res1,checkP]
theorem callCheck (p:GP) (hp:p.size≤1000000000) (bs:Nat) (σ:Heap):callT T 19 [p.enc] bs σ=some (res2 (checkP p),σ):=call_clean rfl rfl rfl (by simp) (check_ok p hp)
open Go.Mach
def relsD:List GD:=[⟨⟨#[108,105,110,107]⟩,3⟩,⟨⟨#[112]⟩,2⟩,⟨⟨#[113]⟩,2⟩,⟨⟨#[114]⟩,1⟩,⟨⟨#[115]⟩,3⟩,⟨⟨#[116]⟩,2⟩]
theorem relations6_ok:pureT T c21 []=some (.isl (relsD.map GD.enc) false):=by
 apply pure_enter (by simp [c21])
 simp [c21,setRun,endP,res1,relsD,GD.enc]
 exact ⟨_,rfl⟩
def numT (n:Int):GT:=.mk 2 ⟨#[]⟩ (.mk 1 n ⟨#[]⟩ []) []
theorem num6_ok (n:Int):pureT T c51 [.int .i64 n]=some (numT n).enc:=by
 apply pure_enter (by simp [c51])
 simp [c51,setRun,endP,res1,numT,GT.enc,GV.kind,GV.num,GV.text,GV.items,GV.encs]
theorem callRelations6 (bs:Nat) (σ:Heap):callT T 21 [] bs σ=some (.isl (relsD.map GD.enc) false,σ):=call_clean rfl rfl rfl rfl relations6_ok
theorem callNum6 (n:Int) (bs:Nat) (σ:Heap):callT T 51 [.int .i64 n] bs σ=some ((numT n).enc,σ):=call_clean rfl rfl rfl rfl (num6_ok n)
theorem pick6_ok (c n:Int) (h:n≠0):pureT T c27 [.int .i64 c,.int .i64 n]=some (.int .i64 ((if c<0 then IntKind.i64.wrap (0 - IntKind.i64.wrap (c+1)) else c).tmod n)):=by
 apply pure_enter (by simp [c27])
 by_cases hc:c<0
 ·simp [c27,hc,h]
 ·simp [c27,hc,h]
theorem pick6 (c:Int) (n:Nat) (h:0<n) (h1:GV.i64ok c) (bs:Nat) (σ:Heap) :
  callT T 27 [.int .i64 c,.int .i64 (n:Int)] bs σ=some (.int .i64 (pickN c n:Int),σ):=by
 refine call_clean rfl rfl rfl rfl ?_
 rw [pick6_ok c n (by omega),pick_eq c n h h1.1 h1.2]
def vName (n:Nat):ByteArray:=[⟨#[83]⟩,⟨#[68]⟩,⟨#[88]⟩,⟨#[89]⟩,⟨#[90]⟩,⟨#[67]⟩].getD n ⟨#[]⟩
def vT (c:Int):GT:=.mk 1 (vName (pickN c 6)) (.mk 0 0 ⟨#[]⟩ []) []
theorem v6_ok (c:Int) (hc:GV.i64ok c):pureT T c50 [.int .i64 c]=some (vT c).enc:=by
 have hp:=fun bs σ=>pick6 c 6 (by omega) hc bs σ
 have hlt:pickN c 6<6:=pickN_lt (by omega)
 apply pure_enter (by simp [c50])
 unfold vT
 simp only [Int.cast_ofNat_Int] at hp
 generalize pickN c 6=n at *
 match n,hlt with
 | 0,_=>simp [c50,setRun,hp,endP,res1,GT.enc,GV.kind,GV.num,GV.text,GV.items,GV.encs,vName]
 | 1,_=>simp [c50,setRun,hp,endP,res1,GT.enc,GV.kind,GV.num,GV.text,GV.items,GV.encs,vName]
 | 2,_=>simp [c50,setRun,hp,endP,res1,GT.enc,GV.kind,GV.num,GV.text,GV.items,GV.encs,vName]
 | 3,_=>simp [c50,setRun,hp,endP,res1,GT.enc,GV.kind,GV.num,GV.text,GV.items,GV.encs,vName]
 | 4,_=>simp [c50,setRun,hp,endP,res1,GT.enc,GV.kind,GV.num,GV.text,GV.items,GV.encs,vName]
 | 5,_=>simp [c50,setRun,hp,endP,res1,GT.enc,GV.kind,GV.num,GV.text,GV.items,GV.encs,vName]
theorem callV6 (c:Int) (hc:GV.i64ok c) (bs:Nat) (σ:Heap):callT T 50 [.int .i64 c] bs σ=some ((vT c).enc,σ):=call_clean rfl rfl rfl rfl (v6_ok c hc)
open Go.Mach
structure GRaw where
 kind:Int
 name:Int
 n0:Int
 n1:Int
 n2:Int
 n3:Int
namespace GRaw
def enc (x:GRaw):AV:=.agg [.int .i64 x.kind,.int .i64 x.name,.int .i64 x.n0,.int .i64 x.n1,.int .i64 x.n2,.int .i64 x.n3]
def ok (x:GRaw):Prop:=GV.i64ok x.kind∧GV.i64ok x.name∧GV.i64ok x.n0∧GV.i64ok x.n1∧GV.i64ok x.n2∧GV.i64ok x.n3
def at' (x:GRaw) (i:Nat):Int:=if i=0 then x.n0 else if i=1 then x.n1 else if i=2 then x.n2 else x.n3
def zero:GRaw:=⟨0,0,0,0,0,0⟩
theorem enc_mk (k n a b c d:Int):AV.agg [.int .i64 k,.int .i64 n,.int .i64 a,.int .i64 b,.int .i64 c,.int .i64 d]=enc ⟨k,n,a,b,c,d⟩:=rfl
@[simp] theorem eta (x:GRaw):(⟨x.kind,x.name,x.n0,x.n1,x.n2,x.n3⟩:GRaw)=x:=rfl
theorem enc_eq (x:GRaw):x.enc=.agg [.int .i64 x.kind,.int .i64 x.name,.int .i64 x.n0,.int .i64 x.n1,.int .i64 x.n2,.int .i64 x.n3]:=rfl
@[simp] theorem enc_cells (x:GRaw):x.enc.cells=[.int .i64 x.kind,.int .i64 x.name,.int .i64 x.n0,.int .i64 x.n1,.int .i64 x.n2,.int .i64 x.n3]:=rfl
@[simp] theorem enc_solid (x:GRaw):x.enc.solid=true:=rfl
@[simp] theorem enc_head (x:GRaw) (xs:List AV):headYld (x.enc :: xs)=false:=by cases x; rfl
@[simp] theorem enc_clean (x:GRaw):x.enc.clean=true:=rfl
@[simp] theorem enc_datR (x:GRaw):x.enc.datR=true:=rfl
@[simp] theorem enc_dat (x:GRaw):x.enc.dat=true:=rfl
@[simp] theorem enc_clo (x:GRaw):x.enc.clo=true:=rfl
@[simp] theorem enc_clo1 (x:GRaw):x.enc.clo1=false:=rfl
@[simp] theorem enc_closeA (σ:Heap) (x:GRaw):closeA σ x.enc=some (x.enc,σ):=(clean_close (by simp)).1
@[simp] theorem enc_closeR (σ:Heap) (x:GRaw):closeR σ x.enc=some (x.enc,σ):=rfl
theorem zero_ok:zero.ok:=by simp [ok,zero,GV.i64ok]
theorem at_ok {x:GRaw} (h:x.ok) (i:Nat):GV.i64ok (x.at' i):=by
 obtain ⟨h1,h2,h3,h4,h5,h6⟩:=h
 unfold at'
 split
 ·exact h3
 split
 ·exact h4
 split
 ·exact h5
 ·exact h6
end GRaw
def RawsOk (rules:List (List GRaw)):Prop:=(∀ l∈rules,(∀ x∈l,x.ok)∧l.length≤100000000000)∧rules.length≤100000000000
def FactsOk (facts:List GRaw):Prop:=(∀ x∈facts,x.ok)∧facts.length≤100000000000
abbrev encRR (rules:List (List GRaw)):List AV:=rules.map fun l=>AV.isl (l.map GRaw.enc) false
theorem tdiv_ok {k:Int} (h:GV.i64ok k) (n:Nat) (hn:2≤n):GV.i64ok (k.tdiv n):=by
 unfold GV.i64ok at h ⊢
 have h1:(k.tdiv n).natAbs=k.natAbs / n:=by rw [Int.natAbs_tdiv]; rfl
 have h2:k.natAbs / n * 2≤k.natAbs:=Nat.le_trans (Nat.mul_le_mul_left _ hn) (Nat.div_mul_le_self _ _)
 omega
def relR (x:GRaw):GD:=relsD.getD (pickN x.name 6) ⟨⟨#[]⟩,0⟩
def addrN (n:Nat):ByteArray:=[⟨#[97]⟩,⟨#[98]⟩,⟨#[99]⟩,⟨#[100]⟩].getD n ⟨#[]⟩
def vTn (n:Nat):GT:=.mk 1 (vName n) (.mk 0 0 ⟨#[]⟩ []) []
theorem vT_n (c:Int):vT c=vTn (pickN c 6):=rfl
def addrT (n:Nat):GT:=.mk 2 ⟨#[]⟩ (.mk 3 0 (addrN n) []) []
def sumT (n:Nat):GT:=.mk 4 ⟨#[43]⟩ (.mk 0 0 ⟨#[]⟩ []) [vTn n,numT 1]
def argR (k:Int):GT:=
 if pickN k 12=9 then numT (pickN (k.tdiv 12) 4) else if pickN k 12=10 then addrT (pickN (k.tdiv 12) 3) else if pickN k 12=11 then sumT (pickN (k.tdiv 12) 6) else vT k
def argsR (x:GRaw) (n:Nat):List GT:=(List.range n).map fun i=>if i=0 then vT x.n0 else argR (x.at' i)
def atomR (x:GRaw):List GT:=argsR x (relR x).arity.toNat
def tSix:List ByteArray:=[⟨#[61,61]⟩,⟨#[33,61]⟩,⟨#[60]⟩,⟨#[60,61]⟩,⟨#[62]⟩,⟨#[62,61]⟩]
def litR (x:GRaw):GL:=
 if pickN x.kind 8<4 then ⟨1,(relR x).name,atomR x⟩
 else if pickN x.kind 8=4 then ⟨2,(relR x).name,atomR x⟩
 else if pickN x.kind 8<7 then ⟨3,tSix.getD (pickN x.name 6) ⟨#[]⟩,[vT x.n0,if pickN x.n3 2=0 then numT (pickN x.n2 4) else vT x.n1]⟩
 else ⟨4,vName (pickN x.n0 6),[.mk 4 (if pickN x.n3 2=0 then ⟨#[43]⟩ else ⟨#[45]⟩) (.mk 0 0 ⟨#[]⟩ []) [vT x.n1,if pickN (x.n3.tdiv 2) 2=0 then numT 1 else vT x.n2]]⟩
def bodyR (l:List GRaw):List GL:=if l.length≤1 then [litR .zero] else ((l.take 5).drop 1).map litR
def headR (l:List GRaw):GRaw:=l.headD .zero
def aggR (h:GRaw):Bool:=decide (pickN h.kind 5=4) && decide (((atomR h)[1]?).map GT.kind=some 1)
def aggN (n:Nat):ByteArray:=if n=0 then sMin else if n=1 then sMax else sCount
def ruleR (l:List GRaw) (n:Nat):GR:=
 ⟨(⟨#[114]⟩++⟨#[UInt8.ofNat (97+n)]⟩),(relR (headR l)).name,atomR (headR l),if aggR (headR l)=true then aggN (pickN ((headR l).kind.tdiv 5) 3) else ⟨#[]⟩,if aggR (headR l)=true then 1 else 0,bodyR l⟩
def addrV (n:Nat):GV:=.mk 3 0 (addrN n) []
def numV (n:Int):GV:=.mk 1 n ⟨#[]⟩ []
def fargR (x:GRaw) (i:Nat):GV:=if i=0∨i=1∧(pickN x.name 6=0∨pickN (x.at' i) 2=0) then addrV (pickN ((x.at' i).tdiv 2) 4) else numV (pickN ((x.at' i).tdiv 2) 5)
def factR (x:GRaw):GU:=⟨(relR x).name,(List.range (relR x).arity.toNat).map (fargR x)⟩
def rulesR (rules:List (List GRaw)):List GR:=((rules.take 6).zipIdx).map fun p=>ruleR p.1 p.2
def progR (rules:List (List GRaw)) (facts:List GRaw):GP:=⟨relsD,(facts.take 12).map factR,rulesR rules⟩
theorem rel_cases (x:GRaw):∃ n,n<6∧pickN x.name 6=n∧relR x=relsD.getD n ⟨⟨#[]⟩,0⟩:=⟨_,pickN_lt (by omega),rfl,rfl⟩
theorem rel_arity (x:GRaw):1≤(relR x).arity.toNat∧(relR x).arity.toNat≤3∧((relR x).arity.toNat:Int)=(relR x).arity:=by
 obtain ⟨n,hn,_,e⟩:=rel_cases x
 rw [e]
 match n,hn with
 | 0,_=>decide
 | 1,_=>decide
 | 2,_=>decide
 | 3,_=>decide
 | 4,_=>decide
 | 5,_=>decide
theorem rel_OK (x:GRaw):relOK (relR x).name=true:=by
 obtain ⟨n,hn,_,e⟩:=rel_cases x
 rw [e]
 match n,hn with
 | 0,_=>decide +kernel
 | 1,_=>decide +kernel
 | 2,_=>decide +kernel
 | 3,_=>decide +kernel
 | 4,_=>decide +kernel
 | 5,_=>decide +kernel
theorem vTn_R:∀ n,n<6→termR 8 (vTn n)=true:=by decide +kernel
theorem vT_R (c:Int):termR 8 (vT c)=true:=vTn_R _ (pickN_lt (by omega))
theorem numT_R:∀ n:Nat,n<6→termR 8 (numT n)=true:=by decide +kernel
theorem addrT_R:∀ n,n<3→termR 8 (addrT n)=true:=by decide +kernel
theorem sumT_R:∀ n,n<6→termR 8 (sumT n)=true:=by decide +kernel
theorem argR_R (k:Int):termR 8 (argR k)=true:=by
 unfold argR
 split
 ·exact numT_R _ (Nat.lt_of_lt_of_le (pickN_lt (by omega)) (by omega))
 split
 ·exact addrT_R _ (pickN_lt (by omega))
 split
 ·exact sumT_R _ (pickN_lt (by omega))
 ·exact vT_R k
theorem argsR_R (x:GRaw) (n:Nat):(argsR x n).all (termR 8)=true:=by
 rw [zqQ]
 intro t ht
 obtain ⟨i,_,rfl⟩:=List.mem_map.1 ht
 split
 ·exact vT_R _
 ·exact argR_R _
@[simp] theorem argsR_len (x:GRaw) (n:Nat):(argsR x n).length=n:=by simp [argsR]
theorem argsR_succ (x:GRaw) (n:Nat):argsR x (n+1)=vT x.n0 :: (List.range' 1 n).map fun i=>argR (x.at' i):=by
 unfold argsR
 rw [List.range_eq_range',List.range'_succ,List.map_cons]
 simp only [if_true]
 congr 1
 apply List.map_congr_left
 intro i hi
 rw [List.mem_range'_1] at hi
 rw [if_neg (by omega)]
theorem atom_argsB (x:GRaw):argsB (atomR x)=true:=by
 obtain ⟨h1,h2,_⟩:=rel_arity x
 unfold argsB atomR
 have h3:=argsR_R x (relR x).arity.toNat
 have h4:headOK (argsR x (relR x).arity.toNat)=true:=by
  obtain ⟨m,hm⟩:∃ m,(relR x).arity.toNat=m+1:=⟨_,(Nat.succ_pred_eq_of_pos h1).symm⟩
  rw [hm,argsR_succ]; rfl
 rw [h3,h4,argsR_len]
 simp; omega
theorem vName_OK:∀ n,n<6→varOK (vName n)=true:=by decide +kernel
theorem tSix_OK:∀ n,n<6→tOK (tSix.getD n ⟨#[]⟩)=true:=by decide +kernel
theorem opT_R:∀ a,a<6→∀ b,b<6→∀ o,o<2→termR 8 (.mk 4 (if o=0 then ⟨#[43]⟩ else ⟨#[45]⟩) (.mk 0 0 ⟨#[]⟩ []) [vTn a,vTn b])=true:=by decide +kernel
theorem opN_R:∀ a,a<6→∀ o,o<2→termR 8 (.mk 4 (if o=0 then ⟨#[43]⟩ else ⟨#[45]⟩) (.mk 0 0 ⟨#[]⟩ []) [vTn a,numT 1])=true:=by decide +kernel
theorem litR_B (x:GRaw):litB (litR x)=true:=by
 unfold litR
 split
 ·simp [litB,rel_OK,atom_argsB]
 split
 ·simp [litB,rel_OK,atom_argsB]
 split
 ·have h1:=tSix_OK _ (pickN_lt (c:=x.name) (n:=6) (by omega))
  have h2:=numT_R (pickN x.n2 4) (Nat.lt_of_lt_of_le (pickN_lt (by omega)) (by omega))
  have h3:termR 8 (if pickN x.n3 2=0 then numT (pickN x.n2 4) else vT x.n1)=true:=by
   split
   ·exact h2
   ·exact vT_R _
  generalize tSix.getD (pickN x.name 6) ⟨#[]⟩=o at *
  simp [litB,h1,vT_R,h3]
 ·have h1:=vName_OK _ (pickN_lt (c:=x.n0) (n:=6) (by omega))
  have h3:termR 8 (.mk 4 (if pickN x.n3 2=0 then ⟨#[43]⟩ else ⟨#[45]⟩) (.mk 0 0 ⟨#[]⟩ []) [vT x.n1,if pickN (x.n3.tdiv 2) 2=0 then numT 1 else vT x.n2])=true:=by
   split
   ·rename_i h
    split
    ·exact opN_R _ (pickN_lt (c:=x.n1) (by omega)) 0 (by omega)
    ·exact opT_R _ (pickN_lt (c:=x.n1) (by omega)) _ (pickN_lt (c:=x.n2) (by omega)) 0 (by omega)
   ·split
    ·exact opN_R _ (pickN_lt (c:=x.n1) (by omega)) 1 (by omega)
    ·exact opT_R _ (pickN_lt (c:=x.n1) (by omega)) _ (pickN_lt (c:=x.n2) (by omega)) 1 (by omega)
  simp [litB,h1,h3]
theorem bodyR_len (l:List GRaw):1≤(bodyR l).length∧(bodyR l).length≤4:=by
 unfold bodyR
 split
 ·simp
 ·simp; omega
theorem bodyR_mem (l:List GRaw) {y:GL} (h:y∈bodyR l):∃ x,y=litR x:=by
 unfold bodyR at h
 split at h
 ·simp at h; exact ⟨_,h⟩
 ·obtain ⟨x,_,rfl⟩:=List.mem_map.1 h; exact ⟨x,rfl⟩
theorem label_OK:∀ n,n<26→relOK (⟨#[114]⟩++⟨#[UInt8.ofNat (97+n)]⟩)=true:=by decide +kernel
theorem aggN_ne (n:Nat):aggN n≠⟨#[]⟩:=by
 unfold aggN
 split
 ·decide
 split <;> decide
theorem ruleR_B (l:List GRaw) (n:Nat) (hn:n<26):ruleB (ruleR l n)=true:=by
 have h1:=bodyR_len l
 have h2:(bodyR l).all litB=true:=by
  rw [zqQ]; intro y hy
  obtain ⟨x,rfl⟩:=bodyR_mem l hy
  exact litR_B x
 have h3:aggB (ruleR l n)=true:=by
  unfold aggB ruleR
  by_cases ha:aggR (headR l)=true
  ·simp only [ha,if_true,if_neg (aggN_ne _)]
   have h4:aggN (pickN ((headR l).kind.tdiv 5) 3)=sMin∨aggN (pickN ((headR l).kind.tdiv 5) 3)=sMax∨aggN (pickN ((headR l).kind.tdiv 5) 3)=sCount:=by
    unfold aggN
    split
    ·exact .inl rfl
    split
    ·exact .inr (.inl rfl)
    ·exact .inr (.inr rfl)
   unfold aggR at ha
   simp only [zqL,decide_eq_true_eq] at ha
   have h5:1<(atomR (headR l)).length:=by
    obtain ⟨x,hx,_⟩:=zqG.1 ha.2
    exact (zqI.1 hx).1
   simp only [zqL,decide_eq_true_eq]
   exact ⟨⟨h4,by omega,by omega⟩,ha.2⟩
  ·simp [ha]
 have e1:(ruleR l n).label=(⟨#[114]⟩++⟨#[UInt8.ofNat (97+n)]⟩):=rfl
 have e2:(ruleR l n).head=(relR (headR l)).name:=rfl
 have e3:(ruleR l n).args=atomR (headR l):=rfl
 have e4:(ruleR l n).body=bodyR l:=rfl
 simp only [ruleB,h3,e1,e2,e3,e4,label_OK n hn,rel_OK,atom_argsB,h2,Bool.and_true,Bool.true_and,decide_eq_true_eq]
 omega
theorem addrV_R:∀ n,n<4→rightT (addrV n)=true:=by decide +kernel
theorem numV_R:∀ n:Nat,n<6→rightT (numV n)=true:=by decide +kernel
theorem fargR_R (x:GRaw) (i:Nat):rightT (fargR x i)=true:=by
 unfold fargR
 split
 ·exact addrV_R _ (pickN_lt (by omega))
 ·exact numV_R _ (Nat.lt_of_lt_of_le (pickN_lt (by omega)) (by omega))
theorem fargs_len (x:GRaw):(factR x).args.length=(relR x).arity.toNat:=by simp [factR]
theorem tupB_R (x:GRaw):tupB (factR x)=true:=by
 obtain ⟨h1,h2,_⟩:=rel_arity x
 have h3:(factR x).args.all rightT=true:=by
  rw [zqQ]; intro v hv
  obtain ⟨i,_,rfl⟩:=List.mem_map.1 hv
  exact fargR_R x i
 have h4:∃ v l,(factR x).args=v :: l∧v.kind=3:=by
  obtain ⟨m,hm⟩:∃ m,(relR x).arity.toNat=m+1:=⟨_,(Nat.succ_pred_eq_of_pos h1).symm⟩
  refine ⟨fargR x 0,(List.range' 1 m).map (fargR x),?_,?_⟩
  ·simp only [factR,hm,List.range_eq_range',List.range'_succ,List.map_cons]
  ·simp [fargR,addrV]
 have h5:=fargs_len x
 obtain ⟨v,l,e,hv⟩:=h4
 have e1:(factR x).name=(relR x).name:=rfl
 unfold tupB
 rw [h3,e1,rel_OK,h5]
 rw [e]
 simp [hv]; omega
theorem relsD_B:relsD.all declB=true:=by decide +kernel
theorem relsD_dup:dupD [] relsD=false:=by decide +kernel
theorem arity_rel {p:GP} (hp:p.decls=relsD) (x:GRaw):arityP p (relR x).name=(relR x).arity:=by
 obtain ⟨n,hn,_,e⟩:=rel_cases x
 have hd:∀ m,arityP p m=arityP ⟨relsD,[],[]⟩ m:=fun m=>by unfold arityP; rw [hp]
 rw [e,hd]
 match n,hn with
 | 0,_=>decide +kernel
 | 1,_=>decide +kernel
 | 2,_=>decide +kernel
 | 3,_=>decide +kernel
 | 4,_=>decide +kernel
 | 5,_=>decide +kernel
theorem fact_good {p:GP} (hp:p.decls=relsD) (x:GRaw):badF p (factR x)=false:=by
 have h1:=arity_rel hp x
 have h2:=(rel_arity x).2.2
 have h3:=fargs_len x
 have e1:(factR x).name=(relR x).name:=rfl
 simp [badF,h1,h3,e1,h2]
theorem facts_good {p:GP} (hp:p.decls=relsD) (l:List GRaw):(l.map factR).any (badF p)=false:=by
 rw [List.any_eq_false]; intro v hv
 obtain ⟨x,_,rfl⟩:=List.mem_map.1 hv
 simp [fact_good hp]
theorem rule_congr {p q:GP} (h:p.decls=q.decls) (r:GR):ruleP p r=ruleP q r:=by
 have ha:arityP p=arityP q:=by funext n; unfold arityP; rw [h]
 have hb:badL p=badL q:=by funext l; unfold badL; rw [ha]
 have hr:relsB p r=relsB q r:=by unfold relsB; rw [ha,hb]
 unfold ruleP; rw [hr]
theorem first_congr {p q:GP} (h:p.decls=q.decls):∀ (l:List GR) (i:Nat),firstP p l i=firstP q l i
 | [],i=>rfl
 | r :: l,i=>by simp only [firstP,rule_congr h r,first_congr h l]
theorem check_rawR {p:GP} (hp:p.decls=relsD) (h:progB p=true) (hf:p.facts.any (badF p)=false):checkP p=firstP p p.rules 0:=by
 unfold checkP
 rw [h,hf,hp,relsD_dup]
 simp
end Go.Proofs.YtjfgjnlocadpbaaGreatDoor
end
section
namespace Go.Mach
def LX (N sz:Nat) (σ:Heap) (es:List AV) (x:AV):Prop:=
 (es=[]∧x=.isl [] true) ∨
 (∃ k cs fz,x=.sl k 0 1 sz true∧N≤k∧σ[k]?=some (.cells cs fz false)∧cs.length=sz∧cs.all AV.clo1=true∧es=[.agg (cs.map AV.nrm)]) ∨
 (∃ k,x=.own k es∧N≤k∧σ[k]?=some (.tok es.length sz)∧es.all (okEl sz true)=true)
theorem closeX_idem {σ:Heap} {j off n sz fj:Nat} {ag ej:Bool} {ds:List AV} (hj:σ[j]?=some (.cells ds fj ej)) (hdc:ds.all AV.clo1=true):closeX σ (.sl j off n sz ag)=σ:=by
 simp only [closeX,hj,hdc,if_true]
theorem appendC_closeX {σ σ1:Heap} {sz bytes:Nat} {ag:Bool} {s x:AV} (h:closeX σ x=σ1) (h1:closeX σ1 x=σ1):appendC σ sz ag bytes false s x=appendC σ1 sz ag bytes false s x:=by
 unfold appendC; simp [h,h1]
theorem LX.closeS_len {σ:Heap} (id sz:Nat):(closeS σ (.sl id 0 1 sz true)).length=σ.length∧∀ i,i≠id→(closeS σ (.sl id 0 1 sz true))[i]?=σ[i]?:=by
 simp only [closeS]
 split
 ·rename_i cs fz ext h
  split
  ·exact ⟨by simp,fun i hi=>by rw [zqC (Ne.symm hi)]⟩
  ·exact ⟨rfl,fun _ _=>rfl⟩
 ·exact ⟨rfl,fun _ _=>rfl⟩
def LO (N sz:Nat) (ag:Bool) (σ:Heap) (es:List AV) (x:AV):Prop:=
 (es=[]∧x=.isl [] true)∨(∃ k,x=.own k es∧N≤k∧σ[k]?=some (.tok es.length sz)∧es.all (okEl sz ag)=true)
theorem LO.nil (N sz:Nat) (ag:Bool) (σ:Heap):LO N sz ag σ [] (.isl [] true):=.inl ⟨rfl,rfl⟩
theorem LO.toLX {N sz:Nat} {σ:Heap} {es:List AV} {x:AV} (h:LO N sz true σ es x):LX N sz σ es x:=by
 rcases h with h | ⟨k,h⟩
 ·exact .inl h
 ·exact .inr (.inr ⟨k,h⟩)
theorem LO.closeS {N sz:Nat} {ag:Bool} {σ:Heap} {es:List AV} {x:AV} (h:LO N sz ag σ es x) (τ:Heap):Go.Mach.closeS τ x=τ:=by
 rcases h with ⟨_,rfl⟩ | ⟨k,rfl,_⟩ <;> rfl
theorem LO.len {N sz:Nat} {ag:Bool} {σ:Heap} {es:List AV} {x:AV} (h:LO N sz ag σ es x):lenV false x=some (.int .i64 (es.length:Int)):=by
 rcases h with ⟨rfl,rfl⟩ | ⟨k,rfl,_⟩ <;> simp
theorem LO.solid {N sz:Nat} {ag:Bool} {σ:Heap} {es:List AV} {x:AV} (h:LO N sz ag σ es x):x.solid=true:=by
 rcases h with ⟨rfl,rfl⟩ | ⟨k,rfl,_⟩ <;> rfl
theorem LO.cells {N sz:Nat} {ag:Bool} {σ:Heap} {es:List AV} {x:AV} (h:LO N sz ag σ es x):x.cells=[x]:=by
 rcases h with ⟨rfl,rfl⟩ | ⟨k,rfl,_⟩ <;> rfl
theorem LO.close {N sz:Nat} {ag:Bool} {σ:Heap} {es:List AV} {x:AV} (h:LO N sz ag σ es x) (τ:Heap):close0 τ x=some (.isl es false,τ):=by
 rcases h with ⟨rfl,rfl⟩ | ⟨k,rfl,_⟩ <;> rfl
theorem LO.close1 {N sz:Nat} {ag:Bool} {σ:Heap} {es:List AV} {x:AV} (h:LO N sz ag σ es x) (τ:Heap):Go.Mach.close1 τ x=some (.isl es false,τ):=close1_of0 (h.close τ)
theorem LO.closeA {N sz:Nat} {ag:Bool} {σ:Heap} {es:List AV} {x:AV} (h:LO N sz ag σ es x) (τ:Heap):Go.Mach.closeA τ x=some (.isl es false,τ):=by
 have hc:=h.close1 τ
 rcases h with ⟨rfl,rfl⟩ | ⟨k,rfl,_⟩ <;> exact hc
theorem LO.keep {N sz:Nat} {ag:Bool} {σ τ:Heap} {es:List AV} {x:AV} (h:LO N sz ag σ es x) (hk:∀ i o,N≤i→σ[i]?=some o→τ[i]?=some o):LO N sz ag τ es x:=by
 rcases h with h | ⟨k,h1,h2,h3,h4⟩
 ·exact .inl h
 ·exact .inr ⟨k,h1,h2,hk _ _ h2 h3,h4⟩
theorem LO.at {N sz:Nat} {ag:Bool} {σ:Heap} {es:List AV} {x:AV} (h:LO N sz ag σ es x) {i:Nat} (hi:i<es.length) (hz:(es[i]).cells.length=sz):iaddrV sz x (.int .i64 (i:Int))=some (.iptr (es[i]).cells 0):=by
 rcases h with ⟨rfl,rfl⟩ | ⟨k,rfl,_⟩
 ·simp at hi
 ·simp [hi,hz]
theorem app_any0 {σ0 σ σ1:Heap} {j sz bytes fj N:Nat} {ej:Bool} {ds:List AV} {es:List AV} {x:AV}
  (hX:closeX σ (.sl j 0 1 sz true)=σ1) (hj:σ1[j]?=some (.cells ds fj ej)) (hd:ds.length=sz) (hdc:ds.all AV.clo1=true) (h0:0<sz) (hb:bytes≤1000)
  (hx:LX N sz σ0 es x) (hσ:∀ i,i<σ0.length→σ1[i]?=σ0[i]?) (hj0:σ0.length≤j) (hN:N≤σ0.length) (hl:es.length≤1000000000) :
  ∃ x' σ',appendC σ sz true bytes false x (.sl j 0 1 sz true)=some (x',σ')∧LO N sz true σ' (es++[.agg (ds.map AV.nrm)]) x'∧σ1.length≤σ'.length∧∀ i o,σ0[i]?=some o→(i<N∨((∀ n,o≠.tok n sz)∧∀ cs fz,o=.cells cs fz false→cs.length≠sz))→σ'[i]?=some o:=by
 have hjl:j<σ1.length:=(zqI.1 hj).1
 rw [appendC_closeX hX (closeX_idem hj hdc)]
 have o2:okEl sz true (.agg (ds.map AV.nrm))=true:=by simp only [okEl,AV.clo,nrm_all hdc,AV.cells,List.length_map,hd,decide_true,Bool.and_self]
 rcases hx with ⟨rfl,rfl⟩ | ⟨k,cs,fz,rfl,hkN,hk,hcl,hcc,rfl⟩ | ⟨k,rfl,hkN,hk,hes⟩
 ·refine ⟨.own σ1.length [.agg (ds.map AV.nrm)],σ1++[.tok 1 sz],by rw [appendC_clo hj hdc]; exact app_ag hj hd hdc h0 hb (app1_nil ..),.inr ⟨σ1.length,rfl,by omega,by simp,by simp [o2]⟩,by simp,fun i o hi h12=>?_⟩
  have hil:=(zqI.1 hi).1
  rw [zqA (by omega),hσ i hil]; exact hi
 ·have hkl:k<σ0.length:=(zqI.1 hk).1
  have hk1:σ1[k]?=some (.cells cs fz false):=by rw [hσ k hkl]; exact hk
  obtain ⟨c1,c2⟩:=LX.closeS_len (σ:=σ1) k sz
  have o1:okEl sz true (.agg (cs.map AV.nrm))=true:=by simp only [okEl,AV.clo,nrm_all hcc,AV.cells,List.length_map,hcl,decide_true,Bool.and_self]
  refine ⟨_,_,app_slC hk1 hj (by omega) hcl hd hcc hdc h0 hb,.inr ⟨σ1.length,rfl,by omega,?_,by simp [o1,o2]⟩,by simp [c1],fun i o hi h12=>?_⟩
  ·rw [←c1]; simp
  ·have hil:=(zqI.1 hi).1
   have hne:i≠k:=by
    rintro rfl
    rw [hk] at hi; injection hi with hi
    rcases h12 with h | ⟨_,h2⟩
    ·omega
    ·exact h2 cs fz hi.symm hcl
   rw [zqA (by rw [c1]; omega),c2 i hne,hσ i hil]; exact hi
 ·have hkl:k<σ0.length:=(zqI.1 hk).1
  have hk1:σ1[k]?=some (.tok es.length sz):=by rw [hσ k hkl]; exact hk
  refine ⟨.own k (es++[.agg (ds.map AV.nrm)]),σ1.set k (.tok (es.length+1) sz),by rw [appendC_clo hj hdc]; exact app_ag hj hd hdc h0 hb (app1_own hes (by omega) hk1),.inr ⟨k,rfl,hkN,?_,by simp [List.all_append,hes,o2]⟩,by simp,fun i o hi h12=>?_⟩
  ·rw [list_set_at (by omega)]; simp
  ·have hil:=(zqI.1 hi).1
   have hne:i≠k:=by
    rintro rfl
    rw [hk] at hi; injection hi with hi
    rcases h12 with h | ⟨h1,_⟩
    ·omega
    ·exact h1 _ hi.symm
   rw [zqC (Ne.symm hne),hσ i hil]; exact hi
theorem LX.other {N sz sz2:Nat} {σ0 σ':Heap} {es2:List AV} {y:AV} (hne:sz2≠sz) (h:LX N sz2 σ0 es2 y) (hk:∀ i o,σ0[i]?=some o→(i<N∨((∀ n,o≠.tok n sz)∧∀ cs fz,o=.cells cs fz false→cs.length≠sz))→σ'[i]?=some o):LX N sz2 σ' es2 y:=by
 rcases h with h | ⟨k,cs,fz,h1,h2,h3,h4,h5⟩ | ⟨k,h1,h2,h3,h4⟩
 ·exact .inl h
 ·exact .inr (.inl ⟨k,cs,fz,h1,h2,hk _ _ h3 (.inr ⟨fun n e=>(by cases e),fun cs' fz' e=>(by injection e with e1; subst e1; omega)⟩),h4,h5⟩)
 ·exact .inr (.inr ⟨k,h1,h2,hk _ _ h3 (.inr ⟨fun n e=>(by injection e with e1 e2; exact hne e2),fun cs' fz' e=>(by cases e)⟩),h4⟩)
theorem LO.other {N sz sz2:Nat} {σ0 σ':Heap} {es2:List AV} {y:AV} (hne:sz2≠sz) (h:LO N sz2 true σ0 es2 y) (hk:∀ i o,σ0[i]?=some o→(i<N∨((∀ n,o≠.tok n sz)∧∀ cs fz,o=.cells cs fz false→cs.length≠sz))→σ'[i]?=some o):LO N sz2 true σ' es2 y:=by
 rcases h with h | ⟨k,h1,h2,h3,h4⟩
 ·exact .inl h
 ·exact .inr ⟨k,h1,h2,hk _ _ h3 (.inr ⟨fun n e=>(by injection e with e1 e2; exact hne e2),fun cs' fz' e=>(by cases e)⟩),h4⟩
theorem app_any {σ0 σ σ1:Heap} {j sz bytes fj N:Nat} {ej:Bool} {ds:List AV} {es:List AV} {x:AV}
  (hX:closeX σ (.sl j 0 1 sz true)=σ1) (hj:σ1[j]?=some (.cells ds fj ej)) (hd:ds.length=sz) (hdc:ds.all AV.clo1=true) (h0:0<sz) (hb:bytes≤1000)
  (hx:LX N sz σ0 es x) (hσ:∀ i,i<σ0.length→σ1[i]?=σ0[i]?) (hj0:σ0.length≤j) (hN:N≤σ0.length) (hl:es.length≤1000000000) :
  ∃ x' σ',appendC σ sz true bytes false x (.sl j 0 1 sz true)=some (x',σ')∧LX N sz σ' (es++[.agg (ds.map AV.nrm)]) x'∧σ1.length≤σ'.length∧(∀ i,i<N→σ'[i]?=σ0[i]?)∧∀ sz2 es2 y,sz2≠sz→LX N sz2 σ0 es2 y→LX N sz2 σ' es2 y:=by
 obtain ⟨x',σ',h1,h2,h3,h4⟩:=app_any0 (bytes:=bytes) hX hj hd hdc h0 hb hx hσ hj0 hN hl
 exact ⟨x',σ',h1,h2.toLX,h3,fun i hi=>by rw [h4 i _ (zqF (by omega)) (.inl hi),zqF],fun sz2 es2 y hne hy=>hy.other hne h4⟩
theorem LX.len {N sz:Nat} {σ:Heap} {es:List AV} {x:AV} (h:LX N sz σ es x):lenV false x=some (.int .i64 (es.length:Int)):=by
 rcases h with ⟨rfl,rfl⟩ | ⟨k,cs,fz,rfl,_,_,_,_,rfl⟩ | ⟨k,rfl,_⟩ <;> simp
theorem LX.solid {N sz:Nat} {σ:Heap} {es:List AV} {x:AV} (h:LX N sz σ es x):x.solid=true:=by
 rcases h with ⟨rfl,rfl⟩ | ⟨k,cs,fz,rfl,_⟩ | ⟨k,rfl,_⟩ <;> rfl
theorem LX.cells {N sz:Nat} {σ:Heap} {es:List AV} {x:AV} (h:LX N sz σ es x):x.cells=[x]:=by
 rcases h with ⟨rfl,rfl⟩ | ⟨k,cs,fz,rfl,_⟩ | ⟨k,rfl,_⟩ <;> rfl
theorem LX.keep {N sz:Nat} {σ τ:Heap} {es:List AV} {x:AV} (h:LX N sz σ es x) (hk:∀ i o,N≤i→σ[i]?=some o→τ[i]?=some o):LX N sz τ es x:=by
 rcases h with h | ⟨k,cs,fz,h1,h2,h3,h4⟩ | ⟨k,h1,h2,h3,h4⟩
 ·exact .inl h
 ·exact .inr (.inl ⟨k,cs,fz,h1,h2,hk _ _ h2 h3,h4⟩)
 ·exact .inr (.inr ⟨k,h1,h2,hk _ _ h2 h3,h4⟩)
theorem close0_one {σ:Heap} {k sz fz:Nat} {ext:Bool} {cs:List AV} (hk:σ[k]?=some (.cells cs fz ext)) (hl:cs.length=sz) (hc:cs.all AV.clo1=true):close0 σ (.sl k 0 1 sz true)=some (.isl [.agg (cs.map AV.nrm)] false,frz σ k sz):=by
 subst hl
 have hw:window cs 0 cs.length=some cs:=window_full rfl
 have hc2:¬ (1:Nat)=0:=by decide
 simp only [close0,if_neg hc2,hk,Nat.one_mul,Nat.zero_add,hw,Option.bind_some,hc,if_true]
 have ht:List.take cs.length (List.map AV.nrm cs)=List.map AV.nrm cs:=List.take_of_length_le (by simp)
 simp [chunk,mk,ht]
theorem LX.frz {N sz k m:Nat} {σ:Heap} {es:List AV} {y:AV} (h:LX N sz σ es y):LX N sz (Go.Mach.frz σ k m) es y:=by
 unfold Go.Mach.frz
 split
 ·rename_i cs0 fz0 ext0 h0
  have hk:=(zqI.1 h0).1
  rcases h with h | ⟨j,cs,fz,h1,h2,h3,h4⟩ | ⟨j,h1,h2,h3,h4⟩
  ·exact .inl h
  ·by_cases e:k=j
   ·subst e
    rw [h0] at h3; injection h3 with h3; injection h3 with e1 e2 e3; subst e1 e3
    exact .inr (.inl ⟨k,cs0,_,h1,h2,list_set_at hk,h4⟩)
   ·exact .inr (.inl ⟨j,cs,fz,h1,h2,by rw [zqC e]; exact h3,h4⟩)
  ·have e:k≠j:=by rintro rfl; rw [h0] at h3; cases h3
   exact .inr (.inr ⟨j,h1,h2,by rw [zqC e]; exact h3,h4⟩)
 ·exact h
theorem LX.close {N sz:Nat} {σ:Heap} {es:List AV} {x:AV} (h:LX N sz σ es x):∃ σ',close0 σ x=some (.isl es false,σ')∧σ'.length=σ.length∧(∀ i,i<N→σ'[i]?=σ[i]?)∧∀ N2 sz2 es2 y,LX N2 sz2 σ es2 y→LX N2 sz2 σ' es2 y:=by
 rcases h with ⟨rfl,rfl⟩ | ⟨k,cs,fz,rfl,hN,hk,hl,hc,rfl⟩ | ⟨k,rfl,_⟩
 ·exact ⟨σ,rfl,rfl,fun _ _=>rfl,fun _ _ _ _ h=>h⟩
 ·refine ⟨_,close0_one hk hl hc,?_,fun i hi=>?_,fun _ _ _ _ h=>h.frz⟩
  ·simp only [Go.Mach.frz,hk,List.length_set]
  ·simp only [Go.Mach.frz,hk]; rw [zqC (by omega)]
 ·exact ⟨σ,rfl,rfl,fun _ _=>rfl,fun _ _ _ _ h=>h⟩
theorem LX.closeA {N sz:Nat} {σ:Heap} {es:List AV} {x:AV} (h:LX N sz σ es x):∃ σ',Go.Mach.closeA σ x=some (.isl es false,σ')∧σ'.length=σ.length∧∀ i,i<N→σ'[i]?=σ[i]?:=by
 obtain ⟨σ',h1,h2,h3,_⟩:=h.close
 refine ⟨σ',?_,h2,h3⟩
 rcases h with ⟨rfl,rfl⟩ | ⟨k,cs,fz,rfl,hN,hk,hl,hc,rfl⟩ | ⟨k,rfl,_⟩ <;> exact close1_of0 h1
theorem lenIs_map {α:Type} (enc:α→AV) (sz:Nat) (h:∀ x,(enc x).cells.length=sz) (l:List α):(l.map enc).all (lenIs sz)=true:=by
 rw [zqQ]; intro x hx
 obtain ⟨y,_,rfl⟩:=List.mem_map.1 hx
 simp [lenIs,h y]
theorem LO.isl {N sz bytes:Nat} {ag b:Bool} {σ:Heap} {es:List AV} {x:AV} (h:LO N sz ag σ es x) (ys:List AV) (hok:ys.all (okEl sz ag)=true) (hl:es.length+ys.length≤1000000000) (h0:0<sz) (hb:bytes≤1000) (hN:N≤σ.length) :
  ∃ x' σ',appendA σ sz ag bytes false x (.isl ys b)=some (x',σ')∧LO N sz ag σ' (es++ys) x'∧σ.length≤σ'.length∧∀ i,i<N→σ'[i]?=σ[i]?:=by
 cases ys with
 | nil=>
  refine ⟨x,σ,?_,by simpa using h,Nat.le_refl _,fun _ _=>rfl⟩
  rcases h with ⟨_,rfl⟩ | ⟨k,rfl,_⟩ <;> simp [appendA,elemsN,elemsA,isSl]
 | cons y ys=>
  have hn:¬ (sz=0∨(es.length+(y :: ys).length) * bytes > 70368744177664∨es.length+(y :: ys).length > 70368744177664):=by
   have:(es.length+(y :: ys).length) * bytes≤1000000000 * 1000:=Nat.mul_le_mul hl hb
   omega
  have hne:(y :: ys)≠[]:=by simp
  have he2:elemsN σ sz ag (.isl (y :: ys) b)=some (y :: ys):=rfl
  rcases h with ⟨rfl,rfl⟩ | ⟨k,rfl,hkN,ht,hes⟩
  ·refine ⟨.own σ.length (y :: ys),σ++[.tok (y :: ys).length sz],?_,.inr ⟨σ.length,by simp,hN,by simp,hok⟩,by simp,fun j hj=>by rw [zqA (by omega)]⟩
   have he1:elemsA σ sz ag (.isl [] true)=some []:=rfl
   simp only [List.length_nil] at hn
   simp only [appendA,he1,he2,Option.bind_some,isSl,if_neg hne,List.length_nil,if_neg hn,hok,Bool.false_eq_true,if_false]
   simp
  ·have hk:=(zqI.1 ht).1
   refine ⟨.own k (es++y :: ys),σ.set k (.tok (es++y :: ys).length sz),?_,.inr ⟨k,rfl,hkN,list_set_at hk,by rw [List.all_append,hes,hok]; rfl⟩,by simp,fun j hj=>by rw [zqC (by omega)]⟩
   have he1:elemsA σ sz ag (.own k es)=some es:=rfl
   simp only [appendA,he1,he2,Option.bind_some,isSl,if_neg hne,ht,hok,hes,Bool.false_eq_true,if_false]
   rw [if_neg hn]
   simp
section
variable {T:Tab} {bs n:Nat}
theorem stW_appX {σ0 σ σ1:Heap} {j sz bytes fj N:Nat} {ej:Bool} {ds:List AV} {es:List AV} {x:AV} {d:Option Nat} {os:List AOper} {k:List Fr} {f:FR} {τ:Heap} {Q:AExit→FR→Heap→Prop}
  (hX:closeX σ (.sl j 0 1 sz true)=σ1) (hj:σ1[j]?=some (.cells ds fj ej)) (hd:ds.length=sz) (hdc:ds.all AV.clo1=true) (h0:0<sz) (hb:bytes≤1000)
  (hx:LX N sz σ0 es x) (hσ:∀ i,i<σ0.length→σ1[i]?=σ0[i]?) (hj0:σ0.length≤j) (hN:N≤σ0.length) (hl:es.length≤1000000000)
  (h:∀ x' σ',LX N sz σ' (es++[.agg (ds.map AV.nrm)]) x'→σ1.length≤σ'.length→(∀ i,i<N→σ'[i]?=σ0[i]?)→wpK T bs n (.ops os :: k) (updO f d x') σ' Q) :
  stW T bs n (appendC σ sz true bytes false x (.sl j 0 1 sz true)) d [] os k f τ Q:=by
 obtain ⟨x',σ',h1,h2,h3,h4,_⟩:=app_any (bytes:=bytes) hX hj hd hdc h0 hb hx hσ hj0 hN hl
 rw [h1]
 exact ⟨rfl,h x' σ' h2 h3 h4⟩
theorem stW_app1 {σ0:Heap} {sz bytes fj N:Nat} {ej:Bool} {ds:List AV} {es:List AV} {x:AV} {d:Option Nat} {os:List AOper} {k:List Fr} {f:FR} {τ:Heap} {Q:AExit→FR→Heap→Prop}
  (hx:LX N sz σ0 es x) (hd:ds.length=sz) (hdc:ds.all AV.clo1=true) (h0:0<sz) (hb:bytes≤1000) (hN:N≤σ0.length) (hl:es.length≤1000000000)
  (h:∀ x' σ',LX N sz σ' (es++[.agg (ds.map AV.nrm)]) x'→σ0.length+1≤σ'.length→(∀ i,i<N→σ'[i]?=σ0[i]?)→wpK T bs n (.ops os :: k) (updO f d x') σ' Q) :
  stW T bs n (appendC (σ0++[.cells ds fj ej]) sz true bytes false x (.sl σ0.length 0 1 sz true)) d [] os k f τ Q:=by
 have hj:(σ0++[.cells ds fj ej])[σ0.length]?=some (.cells ds fj ej):=List.getElem?_concat_length
 exact stW_appX (closeX_idem hj hdc) hj hd hdc h0 hb hx (fun i hi=>zqA hi) (Nat.le_refl _) hN hl fun x' σ' h1 h2 h3=>h x' σ' h1 (by simpa using h2) h3
def LastOk (y z:AV):Prop:=(y.clo1=true∧y.nrm=z)∨∃ k ys,y=.own k ys∧z=.isl ys false
theorem LastOk.isl (es:List AV) (b:Bool):LastOk (.isl es b) (.isl es false):=.inl ⟨rfl,rfl⟩
theorem stW_app1K {σ0:Heap} {sz bytes fj N:Nat} {ej:Bool} {ds:List AV} {es:List AV} {x:AV} {d:Option Nat} {os:List AOper} {k:List Fr} {f:FR} {τ:Heap} {Q:AExit→FR→Heap→Prop}
  (hx:LX N sz σ0 es x) (hd:ds.length=sz) (hdc:ds.all AV.clo1=true) (h0:0<sz) (hb:bytes≤1000) (hN:N≤σ0.length) (hl:es.length≤1000000000)
  (h:∀ x' σ',LX N sz σ' (es++[.agg (ds.map AV.nrm)]) x'→σ0.length+1≤σ'.length→(∀ i,i<N→σ'[i]?=σ0[i]?)→(∀ sz2 es2 y,sz2≠sz→LX N sz2 σ0 es2 y→LX N sz2 σ' es2 y)→wpK T bs n (.ops os :: k) (updO f d x') σ' Q) :
  stW T bs n (appendC (σ0++[.cells ds fj ej]) sz true bytes false x (.sl σ0.length 0 1 sz true)) d [] os k f τ Q:=by
 have hj:(σ0++[.cells ds fj ej])[σ0.length]?=some (.cells ds fj ej):=List.getElem?_concat_length
 obtain ⟨x',σ',h1,h2,h3,h4,h5⟩:=app_any (bytes:=bytes) (closeX_idem hj hdc) hj hd hdc h0 hb hx (fun i hi=>zqA hi) (Nat.le_refl _) hN hl
 rw [h1]
 exact ⟨rfl,h x' σ' h2 (by simpa using h3) h4 h5⟩
theorem stW_app2 {σ0:Heap} {o:AObj} {sz bytes fj N:Nat} {ej:Bool} {ds:List AV} {es:List AV} {x:AV} {d:Option Nat} {os:List AOper} {k:List Fr} {f:FR} {τ:Heap} {Q:AExit→FR→Heap→Prop}
  (hx:LX N sz σ0 es x) (hd:ds.length=sz) (hdc:ds.all AV.clo1=true) (h0:0<sz) (hb:bytes≤1000) (hN:N≤σ0.length) (hl:es.length≤1000000000)
  (h:∀ x' σ',LX N sz σ' (es++[.agg (ds.map AV.nrm)]) x'→σ0.length+2≤σ'.length→(∀ i,i<N→σ'[i]?=σ0[i]?)→wpK T bs n (.ops os :: k) (updO f d x') σ' Q) :
  stW T bs n (appendC (σ0++[o,.cells ds fj ej]) sz true bytes false x (.sl (σ0.length+1) 0 1 sz true)) d [] os k f τ Q:=by
 have hj:(σ0++[o,.cells ds fj ej])[σ0.length+1]?=some (.cells ds fj ej):=by simp
 exact stW_appX (closeX_idem hj hdc) hj hd hdc h0 hb hx (fun i hi=>zqA hi) (by omega) hN hl fun x' σ' h1 h2 h3=>h x' σ' h1 (by simpa using h2) h3
end
end Go.Mach
end
section
namespace Go.Mach
def apart (x y:AV):Prop:=∀ k es es2,x=.own k es→y≠.own k es2
theorem apart.symm {x y:AV} (h:apart x y):apart y x:=fun k es es2 h1 h2=>h k es2 es h2 h1
section
variable {T:Tab} {bs n:Nat}
theorem stW_s1 {σ0:Heap} {v:AV} {bytes fj N:Nat} {ej:Bool} {es:List AV} {x:AV} {d:Option Nat} {os:List AOper} {k:List Fr} {f:FR} {τ:Heap} {Q:AExit→FR→Heap→Prop}
  (hx:LO N 1 false σ0 es x) (hv:v.clo1=true) (hok:okEl 1 false v=true) (hnr:v.nrm=v) (hb:bytes≤1000) (hN:N≤σ0.length) (hl:es.length≤1000000000)
  (h:∀ x' σ',LO N 1 false σ' (es++[v]) x'→σ0.length+1≤σ'.length→(∀ i,i<N→σ'[i]?=σ0[i]?)→(∀ (i:Nat) (o:AObj),σ0[i]?=some o→(∀ n s,o≠.tok n s)→σ'[i]?=some o)→wpK T bs n (.ops os :: k) (updO f d x') σ' Q) :
  stW T bs n (appendC (σ0++[.cells [v] fj ej]) 1 false bytes false x (.sl σ0.length 0 1 1 false)) d [] os k f τ Q:=by
 have hj:(σ0++[.cells [v] fj ej])[σ0.length]?=some (.cells [v] fj ej):=List.getElem?_concat_length
 have hall:[v].all AV.clo1=true:=by simp [hv]
 rw [appendC_clo hj hall]
 have e2:elemsN (σ0++[.cells [v] fj ej]) 1 false (.sl σ0.length 0 1 1 false)=some [v]:=by rw [elemsN_s1 hj,hnr]
 rcases hx with ⟨rfl,rfl⟩ | ⟨m,rfl,hmN,hm,hes⟩
 ·have:=app1_eq (bytes:=bytes) e2 hok (by omega) hb (app1_nil ..)
  simp only [closeS_isl]
  rw [this]
  refine ⟨rfl,h _ _ (.inr ⟨_,rfl,by simp; omega,by simp,by simp [hok]⟩) (by simp) (fun i hi=>?_) fun i o ho _=>?_⟩
  ·rw [zqA (by simp; omega),zqA (by omega)]
  ·have:=(zqI.1 ho).1
   rw [zqA (by simp; omega),zqA this]; exact ho
 ·have hml:=(zqI.1 hm).1
  have hm1:(σ0++[AObj.cells [v] fj ej])[m]?=some (.tok es.length 1):=by rw [zqA hml]; exact hm
  have:=app1_eq (bytes:=bytes) e2 hok (by omega) hb (app1_own hes (by omega) hm1)
  simp only [closeS_own]
  rw [this]
  refine ⟨rfl,h _ _ (.inr ⟨m,rfl,hmN,by rw [list_set_at (by simp; omega)]; simp,by simp [List.all_append,hes,hok]⟩) (by simp) (fun i hi=>?_) fun i o ho hno=>?_⟩
  ·rw [zqC (by omega),zqA (by omega)]
  ·have hne:m≠i:=by rintro rfl; rw [hm] at ho; injection ho with ho; exact hno _ _ ho.symm
   rw [zqC hne,zqA (zqI.1 ho).1]; exact ho
theorem stW_s3 {σ0:Heap} {o1 o2:AObj} {v:AV} {bytes fj N:Nat} {ej:Bool} {es:List AV} {x:AV} {d:Option Nat} {os:List AOper} {k:List Fr} {f:FR} {τ:Heap} {Q:AExit→FR→Heap→Prop}
  (hx:LO N 1 false σ0 es x) (hv:v.clo1=true) (hok:okEl 1 false v=true) (hnr:v.nrm=v) (hb:bytes≤1000) (hN:N≤σ0.length) (hl:es.length≤1000000000)
  (h:∀ x' σ',LO N 1 false σ' (es++[v]) x'→σ0.length+3≤σ'.length→(∀ i,i<N→σ'[i]?=σ0[i]?)→(∀ (i:Nat) (o:AObj),(σ0++[o1,o2])[i]?=some o→(∀ n s,o≠.tok n s)→σ'[i]?=some o)→wpK T bs n (.ops os :: k) (updO f d x') σ' Q) :
  stW T bs n (appendC (σ0++[o1,o2,.cells [v] fj ej]) 1 false bytes false x (.sl (σ0.length+2) 0 1 1 false)) d [] os k f τ Q:=by
 have e1:σ0++[o1,o2,.cells [v] fj ej]=(σ0++[o1,o2])++[.cells [v] fj ej]:=by simp
 have e2:σ0.length+2=(σ0++[o1,o2]).length:=by simp
 rw [e1,e2]
 exact stW_s1 (hx.keep fun i q _ hi=>by rw [zqA (zqI.1 hi).1]; exact hi) hv hok hnr hb (by simp; omega) hl fun x' σ' h1 h2 h3 h4=>h x' σ' h1 (by simp at h2; omega) (fun i hi=>by rw [h3 i hi,zqA (by omega)]) h4
end
end Go.Mach
end
section
set_option maxRecDepth 100000
namespace Go.Proofs.YtjfgjnlocadpbaaGreatDoor
open Go.Mach
theorem rels_get (x:GRaw):(relsD.map GD.enc)[pickN x.name 6]?=some (relR x).enc:=by
 have hlt:=pickN_lt (c:=x.name) (n:=6) (by omega)
 rw [List.getElem?_map]
 have:relsD[pickN x.name 6]?=some (relR x):=by
  unfold relR
  generalize pickN x.name 6=n at *
  match n,hlt with
  | 0,_=>rfl
  | 1,_=>rfl
  | 2,_=>rfl
  | 3,_=>rfl
  | 4,_=>rfl
  | 5,_=>rfl
 rw [this]; rfl
theorem raw_at (x:GRaw) (i:Nat) (h:i<4):window [AV.int .i64 x.kind,.int .i64 x.name,.int .i64 x.n0,.int .i64 x.n1,.int .i64 x.n2,.int .i64 x.n3] (2+i) 1=some [.int .i64 (x.at' i)]:=by
 match i,h with
 | 0,_=>rfl
 | 1,_=>rfl
 | 2,_=>rfl
 | 3,_=>rfl
theorem pick6_6 (c:Int) (h1:GV.i64ok c) (bs:Nat) (σ:Heap):callT T 27 [.int .i64 c,.int .i64 6] bs σ=some (.int .i64 (pickN c 6:Int),σ):=pick6 c 6 (by omega) h1 bs σ
theorem pick6_12 (c:Int) (h1:GV.i64ok c) (bs:Nat) (σ:Heap):callT T 27 [.int .i64 c,.int .i64 12] bs σ=some (.int .i64 (pickN c 12:Int),σ):=pick6 c 12 (by omega) h1 bs σ
theorem pick6_4 (c:Int) (h1:GV.i64ok c) (bs:Nat) (σ:Heap):callT T 27 [.int .i64 c,.int .i64 4] bs σ=some (.int .i64 (pickN c 4:Int),σ):=pick6 c 4 (by omega) h1 bs σ
theorem pick6_3 (c:Int) (h1:GV.i64ok c) (bs:Nat) (σ:Heap):callT T 27 [.int .i64 c,.int .i64 3] bs σ=some (.int .i64 (pickN c 3:Int),σ):=pick6 c 3 (by omega) h1 bs σ
theorem pick6_2 (c:Int) (h1:GV.i64ok c) (bs:Nat) (σ:Heap):callT T 27 [.int .i64 c,.int .i64 2] bs σ=some (.int .i64 (pickN c 2:Int),σ):=pick6 c 2 (by omega) h1 bs σ
theorem pick6_5 (c:Int) (h1:GV.i64ok c) (bs:Nat) (σ:Heap):callT T 27 [.int .i64 c,.int .i64 5] bs σ=some (.int .i64 (pickN c 5:Int),σ):=pick6 c 5 (by omega) h1 bs σ
theorem pick6_8 (c:Int) (h1:GV.i64ok c) (bs:Nat) (σ:Heap):callT T 27 [.int .i64 c,.int .i64 8] bs σ=some (.int .i64 (pickN c 8:Int),σ):=pick6 c 8 (by omega) h1 bs σ
theorem pick6_26 (c:Int) (h1:GV.i64ok c) (bs:Nat) (σ:Heap):callT T 27 [.int .i64 c,.int .i64 26] bs σ=some (.int .i64 (pickN c 26:Int),σ):=pick6 c 26 (by omega) h1 bs σ
abbrev cT (t:GT):List AV:=[.int .i64 t.kind,.str t.name,.int .i64 t.value.kind,.int .i64 t.value.num,.str t.value.text,.isl (GV.encs t.value.items) false,.isl (GT.encs t.args) false]
theorem LX.snocT {N:Nat} {σ:Heap} {es:List GT} {x:AV} (t:GT) (h:LX N 7 σ (GT.encs es++[.agg ((cT t).map AV.nrm)]) x):LX N 7 σ (GT.encs (es++[t])) x:=by
 rw [←GT.encs_snoc,GT.enc_eq t]; exact h
abbrev opC (nm:ByteArray) (x:AV):List AV:=[.int .i64 4,.str nm,.int .i64 0,.int .i64 0,.str ⟨#[]⟩,.isl [] true,x]
def opT (nm:ByteArray) (a b:GT):GT:=.mk 4 nm (.mk 0 0 ⟨#[]⟩ []) [a,b]
theorem closeX_op {σ0:Heap} (nm:ByteArray) (a b:GT):closeX (σ0++[.cells (cT a++cT b) 0 false,.cells (opC nm (.sl σ0.length 0 2 7 true)) 0 false]) (.sl (σ0.length+1) 0 1 7 true) =
  σ0++[.cells (cT a++cT b) 14 false,.cells (cT (opT nm a b)) 0 false]:=by
 have g0:(σ0++[.cells (cT a++cT b) 0 false,.cells (opC nm (.sl σ0.length 0 2 7 true)) 0 false])[σ0.length]?=some (.cells (cT a++cT b) 0 false):=by simp
 have g1:(σ0++[.cells (cT a++cT b) 0 false,.cells (opC nm (.sl σ0.length 0 2 7 true)) 0 false])[σ0.length+1]?=some (.cells (opC nm (.sl σ0.length 0 2 7 true)) 0 false):=by simp
 have hw:window (cT a++cT b) 0 14=some (cT a++cT b):=rfl
 have hc:close0 (σ0++[.cells (cT a++cT b) 0 false,.cells (opC nm (.sl σ0.length 0 2 7 true)) 0 false]) (.sl σ0.length 0 2 7 true)=some (.isl (GT.encs [a,b]) false,σ0++[.cells (cT a++cT b) 14 false,.cells (opC nm (.sl σ0.length 0 2 7 true)) 0 false]):=by
  have hc2:¬ (2:Nat)=0:=by decide
  simp only [close0,if_neg hc2,g0,Nat.reduceMul,Nat.zero_add,hw,Option.bind_some]
  have h14:((cT a++cT b).all AV.clo1)=true:=rfl
  rw [if_pos h14]
  have hch:chunk 7 true 2 ((cT a++cT b).map AV.nrm)=some (GT.encs [a,b]):=by simp [GT.encs,GT.enc_eq a,GT.enc_eq b]
  rw [hch]
  simp only [frz,g0,Option.map_some]
  simp
 have i1:∀ (σ:Heap) k n,close1 σ (AV.int k n)=some (.int k n,σ):=fun _ _ _=>rfl
 have s1:∀ (σ:Heap) n,close1 σ (AV.str n)=some (.str n,σ):=fun _ _=>rfl
 have l1:∀ (σ:Heap) n b,close1 σ (AV.isl n b)=some (.isl n false,σ):=fun _ _ _=>rfl
 have hL:closeL (σ0++[.cells (cT a++cT b) 0 false,.cells (opC nm (.sl σ0.length 0 2 7 true)) 0 false]) (opC nm (.sl σ0.length 0 2 7 true))=some (cT (opT nm a b),σ0++[.cells (cT a++cT b) 14 false,.cells (opC nm (.sl σ0.length 0 2 7 true)) 0 false]):=by
  simp only [closeL,i1,s1,l1,close1_of0 hc,Option.bind_some,Option.map_some]
  rfl
 have h2:(opC nm (.sl σ0.length 0 2 7 true)).all AV.clo1=false:=rfl
 have g2:(σ0++[.cells (cT a++cT b) 14 false,.cells (opC nm (.sl σ0.length 0 2 7 true)) 0 false])[σ0.length+1]?=some (.cells (opC nm (.sl σ0.length 0 2 7 true)) 0 false):=by simp
 have h3:((cT (opT nm a b)).all AV.clo1=true∧(opC nm (.sl σ0.length 0 2 7 true)).length=(cT (opT nm a b)).length):=⟨rfl,rfl⟩
 simp only [closeX,g1,h2,hL,g2,h3,and_self,if_true,Bool.false_eq_true,if_false]
 simp
theorem atom_ok (x:GRaw) (hx:x.ok):pureT T c28 [x.enc]=some (.tup [.str (relR x).name,.isl (GT.encs (atomR x)) false]):=by
 have hp:=pick6_6 x.name hx.2.1
 have hr:=rels_get x
 obtain ⟨a1,a2,a3⟩:=rel_arity x
 have hv:=callV6 x.n0 hx.2.2.1
 have hlt:=pickN_lt (c:=x.name) (n:=6) (by omega)
 have hlt':(pickN x.name 6:Int)<6:=by omega
 have hl6:relsD.length=6:=rfl
 unfold atomR
 generalize hn:(relR x).arity.toNat=n at *
 apply pure_enter (by simp [c28])
 simp [c28,callRelations6,setRun,hp,hr,hv]
 refine W_for T 0 72 (n - 1) (fun i f σ=>f 1=.ptr 0 0∧f 4=.ptr 1 0∧f 6=.int .i64 ((i:Int)+1)∧2≤σ.length∧σ[0]?=some (.cells x.enc.cells 0 false)∧σ[1]?=some (.cells (relR x).enc.cells 0 false)∧LX 2 7 σ (GT.encs (argsR x (i+1))) (f 5)) ?_ _ _ ?_
 ·rintro i f σ hi ⟨h1,h4,h6,hN,h0,hd,hL⟩
  by_cases hlt:i+1<n
  ·have hlt2:(i:Int)+1<(n:Int):=by omega
   have hb4:0≤(i:Int)+1∧(i:Int)+1<4:=by omega
   have hw:IntKind.i64.wrap ((i:Int)+1+1)=(i:Int)+1+1:=wr64 (by omega) (by omega)
   have hk:=GRaw.at_ok hx (i+1)
   have hpp:=pick6_12 _ hk
   have hx0:=raw_at x (i+1) (by omega)
   have hsucc:argsR x (i+1+1)=argsR x (i+1)++[argR (x.at' (i+1))]:=by
    unfold argsR; rw [List.range_succ,List.map_append]; simp
   have hal:=argsR_len x (i+1)
   rw [hsucc]
   generalize argsR x (i+1)=es at *
   generalize x.at' (i+1)=m at *
   have hq:GV.i64ok (m.tdiv 12):=tdiv_ok hk 12 (by omega)
   have hwm:IntKind.i64.wrap (m.tdiv 12)=m.tdiv 12:=wr64 hq.1 hq.2
   have hel:(GT.encs es).length≤1000000000:=by simp; omega
   by_cases c9:pickN m 12=9
   ·have h2:=pick6_4 (m.tdiv 12) hq
    have hnu:=callNum6
    rw [c9] at hpp
    have ea:argR m=numT (pickN (m.tdiv 12) 4):=by simp [argR,c9]
    rw [ea]
    simp [h1,h4,h6,h0,hd,←a3,hn,hlt2,hb4,hx0,hpp,h2,hnu,hwm,mk,setRun,-appendA_ag]
    refine stW_app1 (N:=2) hL rfl rfl (by omega) (by omega) hN hel fun x' σ' hL' hlen' hk'=>?_
    simp [h1,h4,h6,hw,hk',h0,hd]
    exact ⟨by omega,by omega,a3.symm,LX.snocT _ hL'⟩
   ·by_cases c10:pickN m 12=10
    ·have h2:=pick6_3 (m.tdiv 12) hq
     have hl3:=pickN_lt (c:=m.tdiv 12) (n:=3) (by omega)
     have hl3':(pickN (m.tdiv 12) 3:Int)<3:=by omega
     rw [c10] at hpp
     have ea:argR m=addrT (pickN (m.tdiv 12) 3):=by simp [argR,c9,c10]
     have hget:window [AV.str ⟨#[97]⟩,.str ⟨#[98]⟩,.str ⟨#[99]⟩] (pickN (m.tdiv 12) 3) 1=some [.str (addrN (pickN (m.tdiv 12) 3))]:=by
      generalize pickN (m.tdiv 12) 3=q at *
      match q,hl3 with
      | 0,_=>rfl
      | 1,_=>rfl
      | 2,_=>rfl
     rw [ea]
     simp [h1,h4,h6,h0,hd,←a3,hn,hlt2,hb4,hx0,hpp,h2,hwm,mk,setRun,hl3',hget,-appendA_ag]
     refine stW_app2 (N:=2) hL rfl rfl (by omega) (by omega) hN hel fun x' σ' hL' hlen' hk'=>?_
     simp [h1,h4,h6,hw,hk',h0,hd]
     exact ⟨by omega,by omega,a3.symm,LX.snocT _ hL'⟩
    ·by_cases c11:pickN m 12=11
     ·rw [c11] at hpp
      have ea:argR m=opT ⟨#[43]⟩ (vT (m.tdiv 12)) (numT 1):=by simp [argR,c9,c10,c11,sumT,vT_n,opT]
      have hvv:=callV6 _ hq
      have hnu:=callNum6 1
      rw [ea]
      simp [h1,h4,h6,h0,hd,←a3,hn,hlt2,hb4,hx0,hpp,hvv,hnu,hwm,mk,setRun,-appendA_ag]
      refine stW_appX (N:=2) (closeX_op ⟨#[43]⟩ (vT (m.tdiv 12)) (numT 1)) (by rw [zqB (by omega),Nat.add_sub_cancel_left]; rfl) rfl rfl (by omega) (by omega) hL (fun i hi=>zqA hi) (by omega) hN hel fun x' σ' hL' hlen' hk'=>?_
      simp at hlen'
      simp [h1,h4,h6,hw,hk',h0,hd]
      exact ⟨by omega,by omega,a3.symm,LX.snocT _ hL'⟩
     ·have ea:argR m=vT m:=by simp [argR,c9,c10,c11]
      have hvv:=callV6 m hk
      rw [ea]
      have n9:¬ (pickN m 12:Int)=9:=by omega
      have n10:¬ (pickN m 12:Int)=10:=by omega
      have n11:¬ (pickN m 12:Int)=11:=by omega
      simp [h1,h4,h6,h0,hd,←a3,hn,hlt2,hb4,hx0,hpp,hvv,mk,setRun,n9,n10,n11,-appendA_ag]
      refine stW_app1 (N:=2) hL rfl rfl (by omega) (by omega) hN hel fun x' σ' hL' hlen' hk'=>?_
      simp [h1,h4,h6,hw,hk',h0,hd]
      exact ⟨by omega,by omega,a3.symm,LX.snocT _ hL'⟩
  ·have he:i+1=n:=by omega
   subst he
   obtain ⟨σ',hcl,_⟩:=hL.closeA
   have hlt2:¬ (i:Int)+1<((i+1:Nat):Int):=by omega
   simp [h1,h4,h6,h0,hd,←a3,hn,hlt2,hcl]
 ·simp
  refine .inr (.inl ⟨2,_,0,rfl,by omega,by simp; rfl,rfl,rfl,?_⟩)
  simp [AV.nrm,argsR_succ]
  rw [GT.enc_eq]
set_option maxRecDepth 100000
open Go.Mach
theorem rel_link (x:GRaw):(relR x).name=⟨#[108,105,110,107]⟩↔pickN x.name 6=0:=by
 obtain ⟨n,hn,e1,e⟩:=rel_cases x
 rw [e,e1]
 match n,hn with
 | 0,_=>decide
 | 1,_=>decide
 | 2,_=>decide
 | 3,_=>decide
 | 4,_=>decide
 | 5,_=>decide
abbrev cV (t:GV):List AV:=[.int .i64 t.kind,.int .i64 t.num,.str t.text,.isl (GV.encs t.items) false]
theorem addr_get (q:Nat) (h:q<4):window [AV.str ⟨#[97]⟩,.str ⟨#[98]⟩,.str ⟨#[99]⟩,.str ⟨#[100]⟩] q 1=some [.str (addrN q)]:=by
 match q,h with
 | 0,_=>rfl
 | 1,_=>rfl
 | 2,_=>rfl
 | 3,_=>rfl
theorem fact_ok (x:GRaw) (hx:x.ok):pureT T c22 [x.enc]=some (factR x).enc:=by
 have hp:=pick6_6 x.name hx.2.1
 have hr:=rels_get x
 obtain ⟨a1,a2,a3⟩:=rel_arity x
 have hlt:=pickN_lt (c:=x.name) (n:=6) (by omega)
 have hlt':(pickN x.name 6:Int)<6:=by omega
 have hl6:relsD.length=6:=rfl
 have hlink:=rel_link x
 unfold factR
 generalize hn:(relR x).arity.toNat=n at *
 apply pure_enter (by simp [c22])
 simp [c22,callRelations6,setRun,hp,hr]
 refine W_for T 0 68 n (fun i f σ=>f 1=.ptr 0 0∧f 2=.ptr 1 0∧f 3=.ptr 2 0∧f 4=.ptr 3 0∧f 5=.int .i64 (i:Int)∧4≤σ.length∧σ[0]?=some (.cells x.enc.cells 0 false)∧(∃ a b,σ[1]?=some (.cells [a,b] 0 false))∧σ[2]?=some (.cells (relR x).enc.cells 0 false)∧∃ l,σ[3]?=some (.cells [.str (relR x).name,l] 0 false)∧LX 4 4 σ (GV.encs ((List.range i).map (fargR x))) l) ?_ _ _ ?_
 ·rintro i f σ hi ⟨h1,h2,h3,h4,h5,hN,h0,ho,hd,l,hl3,hL⟩
  by_cases hlt:i<n
  ·have hlt2:(i:Int)<(n:Int):=by omega
   have hb4:0≤(i:Int)∧(i:Int)<4:=by omega
   have hw:IntKind.i64.wrap ((i:Int)+1)=(i:Int)+1:=wr64 (by omega) (by omega)
   have hk:=GRaw.at_ok hx i
   have hx0:=raw_at x i (by omega)
   have hsucc:(List.range (i+1)).map (fargR x)=(List.range i).map (fargR x)++[fargR x i]:=by
    rw [List.range_succ,List.map_append]; rfl
   have hal:((List.range i).map (fargR x)).length=i:=by simp
   have hf:fargR x i=if i=0∨i=1∧(pickN x.name 6=0∨pickN (x.at' i) 2=0) then addrV (pickN ((x.at' i).tdiv 2) 4) else numV (pickN ((x.at' i).tdiv 2) 5):=rfl
   rw [hsucc,hf]
   generalize (List.range i).map (fargR x)=es at *
   generalize x.at' i=m at *
   have hq:GV.i64ok (m.tdiv 2):=tdiv_ok hk 2 (by omega)
   have hwm:IntKind.i64.wrap (m.tdiv 2)=m.tdiv 2:=wr64 hq.1 hq.2
   have hel:(GV.encs es).length≤1000000000:=by simp; omega
   have p2:=pick6_2 m hk
   have p4:=pick6_4 _ hq
   have p5:=pick6_5 _ hq
   have q4:=pickN_lt (c:=m.tdiv 2) (n:=4) (by omega)
   have q4':(pickN (m.tdiv 2) 4:Int)<4:=by omega
   have hget:=addr_get _ q4
   have w1:IntKind.i64.wrap 1=1:=by decide
   have w2:IntKind.i64.wrap 2=2:=by decide
   have fin:∀ (v:GV) (σ':Heap) x' (es':List AV),es'=GV.encs (es++[v])→LX 4 4 σ' es' x'→σ.length+1≤σ'.length→(∀ i,i<4→σ'[i]?=σ[i]?) →
     4≤σ'.length∧(∃ a b,σ[1]?=some (AObj.cells [a,b] 0 false))∧(relR x).arity=(n:Int)∧∃ l,(List.set σ' 3 (AObj.cells [AV.str (relR x).name,x'] 0 false))[3]?=some (AObj.cells [AV.str (relR x).name,l] 0 false) ∧
      LX 4 4 (List.set σ' 3 (AObj.cells [AV.str (relR x).name,x'] 0 false)) (GV.encs (es++[v])) l:=fun v σ' x' es' he hL' hl' hk'=>by
    subst he
    exact ⟨by omega,ho,a3.symm,x',list_set_at (by omega),hL'.keep fun i o hi ho=>by rw [zqC (by omega)]; exact ho⟩
   have h02:∀ o (h:0<(σ++[o]).length),(σ++[o])[0]'h=.cells [.int .i64 x.kind,.int .i64 x.name,.int .i64 x.n0,.int .i64 x.n1,.int .i64 x.n2,.int .i64 x.n3] 0 false:=fun o h=>Option.some_inj.1 ((zqF h).symm.trans (by rw [zqA (by omega)]; exact h0))
   by_cases c0:i=0
   ·subst c0
    simp at hlt2
    simp [h1,h2,h3,h4,h5,h0,hd,←a3,hn,hlt2,hx0,h02,p4,hwm,mk,setRun,hl3,q4',hget,-appendA_ag]
    refine stW_app2 (N:=4) hL rfl rfl (by omega) (by omega) hN hel fun x' σ' hL' hlen' hk'=>?_
    simp [h1,h2,h3,h4,h5,hw,hk',h0,hd,hl3,hL'.solid,hL'.cells,setRun,w1,w2]
    first | exact fin (addrV (pickN (m.tdiv 2) 4)) σ' x' _ (by rw [←encs_snoc,GV.enc_eq]; rfl) hL' (by omega) hk' | exact ⟨by omega,fin (addrV (pickN (m.tdiv 2) 4)) σ' x' _ (by rw [←encs_snoc,GV.enc_eq]; rfl) hL' (by omega) hk'⟩
   ·by_cases c1:i=1
    ·subst c1
     by_cases cl:pickN x.name 6=0
     ·have hln:=eq_true (hlink.2 cl)
      simp at hlt2
      simp [h1,h2,h3,h4,h5,h0,hd,←a3,hn,hlt2,hx0,h02,p4,hwm,mk,setRun,hl3,q4',hget,hln,cl,-appendA_ag]
      refine stW_app2 (N:=4) hL rfl rfl (by omega) (by omega) hN hel fun x' σ' hL' hlen' hk'=>?_
      simp [h1,h2,h3,h4,h5,hw,hk',h0,hd,hl3,hL'.solid,hL'.cells,setRun,w1,w2]
      first | exact fin (addrV (pickN (m.tdiv 2) 4)) σ' x' _ (by rw [←encs_snoc,GV.enc_eq]; rfl) hL' (by omega) hk' | exact ⟨by omega,fin (addrV (pickN (m.tdiv 2) 4)) σ' x' _ (by rw [←encs_snoc,GV.enc_eq]; rfl) hL' (by omega) hk'⟩
     ·have hln:¬ (relR x).name=⟨#[108,105,110,107]⟩:=fun h=>cl (hlink.1 h)
      by_cases c2:pickN m 2=0
      ·rw [c2] at p2
       simp at hlt2
       simp [h1,h2,h3,h4,h5,h0,hd,←a3,hn,hlt2,hx0,h02,p4,p2,hwm,mk,setRun,hl3,q4',hget,hln,cl,c2,-appendA_ag]
       refine stW_app2 (N:=4) hL rfl rfl (by omega) (by omega) hN hel fun x' σ' hL' hlen' hk'=>?_
       simp [h1,h2,h3,h4,h5,hw,hk',h0,hd,hl3,hL'.solid,hL'.cells,setRun,w1,w2]
       first | exact fin (addrV (pickN (m.tdiv 2) 4)) σ' x' _ (by rw [←encs_snoc,GV.enc_eq]; rfl) hL' (by omega) hk' | exact ⟨by omega,fin (addrV (pickN (m.tdiv 2) 4)) σ' x' _ (by rw [←encs_snoc,GV.enc_eq]; rfl) hL' (by omega) hk'⟩
      ·have c2':¬ (pickN m 2:Int)=0:=by omega
       simp at hlt2
       simp [h1,h2,h3,h4,h5,h0,hd,←a3,hn,hlt2,hx0,p5,p2,hwm,mk,setRun,hl3,hln,cl,c2,c2',-appendA_ag]
       refine stW_app1 (N:=4) hL rfl rfl (by omega) (by omega) hN hel fun x' σ' hL' hlen' hk'=>?_
       simp [h1,h2,h3,h4,h5,hw,hk',h0,hd,hl3,hL'.solid,hL'.cells,setRun,w1,w2]
       first | exact fin (numV (pickN (m.tdiv 2) 5)) σ' x' _ (by rw [←encs_snoc,GV.enc_eq]; rfl) hL' (by omega) hk' | exact ⟨by omega,fin (numV (pickN (m.tdiv 2) 5)) σ' x' _ (by rw [←encs_snoc,GV.enc_eq]; rfl) hL' (by omega) hk'⟩
    ·have c0':¬ (i:Int)=0:=by omega
     have c1':¬ (i:Int)=1:=by omega
     simp [h1,h2,h3,h4,h5,h0,hd,←a3,hn,hlt2,hb4,hx0,p5,hwm,mk,setRun,hl3,c0,c1,c1',-appendA_ag]
     refine stW_app1 (N:=4) hL rfl rfl (by omega) (by omega) hN hel fun x' σ' hL' hlen' hk'=>?_
     simp [h1,h2,h3,h4,h5,hw,hk',h0,hd,hl3,hL'.solid,hL'.cells,setRun,w1,w2]
     first | exact fin (numV (pickN (m.tdiv 2) 5)) σ' x' _ (by rw [←encs_snoc,GV.enc_eq]; rfl) hL' (by omega) hk' | exact ⟨by omega,fin (numV (pickN (m.tdiv 2) 5)) σ' x' _ (by rw [←encs_snoc,GV.enc_eq]; rfl) hL' (by omega) hk'⟩
  ·have he:i=n:=by omega
   subst he
   obtain ⟨a,b,ho⟩:=ho
   obtain ⟨σ',hcl,_⟩:=(hL.keep (τ:=σ.set 1 (.cells [.str (relR x).name,l] 0 false)) fun i o hi ho=>by rw [zqC (by omega)]; exact ho).close
   have hcl1:=close1_of0 hcl
   have hlt2:¬ (i:Int)<(i:Int):=by omega
   have hs1:(σ.set 1 (.cells [.str (relR x).name,l] 0 false))[1]?=some (.cells [.str (relR x).name,l] 0 false):=list_set_at (by omega)
   simp [h1,h2,h3,h4,h5,h0,hd,←a3,hn,hlt2,hl3,ho,hs1,hcl1,GU.enc_eq]
 ·simp
  exact .inl ⟨rfl,rfl⟩
theorem callFact6 (x:GRaw) (hx:x.ok) (bs:Nat) (σ:Heap):callT T 22 [x.enc] bs σ=some ((factR x).enc,σ):=call_clean rfl rfl rfl (by simp) (fact_ok x hx)
theorem callAtom6 (x:GRaw) (hx:x.ok) (bs:Nat) (σ:Heap):callT T 28 [x.enc] bs σ=some (.tup [.str (relR x).name,.isl (GT.encs (atomR x)) false],σ):=call_clean rfl rfl rfl (by simp) (atom_ok x hx)
set_option maxRecDepth 100000
open Go.Mach
theorem test_get (q:Nat) (h:q<6):window [AV.str ⟨#[61,61]⟩,.str ⟨#[33,61]⟩,.str ⟨#[60]⟩,.str ⟨#[60,61]⟩,.str ⟨#[62]⟩,.str ⟨#[62,61]⟩] q 1=some [.str (tSix.getD q ⟨#[]⟩)]:=by
 match q,h with
 | 0,_=>rfl
 | 1,_=>rfl
 | 2,_=>rfl
 | 3,_=>rfl
 | 4,_=>rfl
 | 5,_=>rfl
theorem two_get (q:Nat) (h:q<2):window [AV.str ⟨#[43]⟩,.str ⟨#[45]⟩] q 1=some [.str (if q=0 then ⟨#[43]⟩ else ⟨#[45]⟩)]:=by
 match q,h with
 | 0,_=>rfl
 | 1,_=>rfl
theorem two_getT (a b:GT) (q:Nat) (h:q<2):window (cT a++cT b) (q * 7) 7=some (cT (if q=0 then a else b)):=by
 match q,h with
 | 0,_=>rfl
 | 1,_=>rfl
theorem close1_two {σ:Heap} {k fz:Nat} {e:Bool} (a b:GT) (h:σ[k]?=some (.cells (cT a++cT b) fz e)):close1 σ (.sl k 0 2 7 true)=some (.isl (GT.encs [a,b]) false,frz σ k 14):=by
 refine close1_of0 ?_
 have hc2:¬ (2:Nat)=0:=by decide
 have hw:window (cT a++cT b) 0 14=some (cT a++cT b):=rfl
 simp only [close0,if_neg hc2,h,Nat.reduceMul,Nat.zero_add,hw,Option.bind_some]
 have h14:((cT a++cT b).all AV.clo1)=true:=rfl
 rw [if_pos h14]
 have hch:chunk 7 true 2 ((cT a++cT b).map AV.nrm)=some (GT.encs [a,b]):=by simp [GT.encs,GT.enc_eq a,GT.enc_eq b]
 rw [hch]; rfl
theorem close0_two {σ:Heap} {k fz:Nat} {e:Bool} (a b:GT) (h:σ[k]?=some (.cells (cT a++cT b) fz e)):close0 σ (.sl k 0 2 7 true)=some (.isl (GT.encs [a,b]) false,frz σ k 14):=by
 have hc2:¬ (2:Nat)=0:=by decide
 have hw:window (cT a++cT b) 0 14=some (cT a++cT b):=rfl
 simp only [close0,if_neg hc2,h,Nat.reduceMul,Nat.zero_add,hw,Option.bind_some]
 have h14:((cT a++cT b).all AV.clo1)=true:=rfl
 rw [if_pos h14]
 have hch:chunk 7 true 2 ((cT a++cT b).map AV.nrm)=some (GT.encs [a,b]):=by simp [GT.encs,GT.enc_eq a,GT.enc_eq b]
 rw [hch]; rfl
theorem close1_opT {σ:Heap} {k m fz fm:Nat} {e em:Bool} (nm:ByteArray) (a b:GT) (h:σ[k]?=some (.cells (opC nm (.sl m 0 2 7 true)) fz e)) (hm:σ[m]?=some (.cells (cT a++cT b) fm em)) (hne:k≠m) :
  ∃ σ',close1 σ (.sl k 0 1 7 true)=some (.isl (GT.encs [opT nm a b]) false,σ'):=by
 have h2:close0 σ (.sl k 0 1 7 true)=none:=by
  have hc2:¬ (1:Nat)=0:=by decide
  have hw:window (opC nm (.sl m 0 2 7 true)) 0 7=some (opC nm (.sl m 0 2 7 true)):=rfl
  simp only [close0,if_neg hc2,h,Nat.one_mul,hw,Option.bind_some]
  rfl
 have hfz:(frz σ k 7)[m]?=some (.cells (cT a++cT b) fm em):=by
  simp only [frz,h]; rw [zqC hne]; exact hm
 have i1:∀ c (σ:Heap) k n,closeUp c σ (AV.int k n)=some (.int k n,σ):=fun _ _ _ _=>rfl
 have s1:∀ c (σ:Heap) n,closeUp c σ (AV.str n)=some (.str n,σ):=fun _ _ _=>rfl
 have l1:∀ c (σ:Heap) n b,closeUp c σ (AV.isl n b)=some (.isl n false,σ):=fun _ _ _ _=>rfl
 have i0:∀ (σ:Heap) k n,close0 σ (AV.int k n)=some (.int k n,σ):=fun _ _ _=>rfl
 have s0:∀ (σ:Heap) n,close0 σ (AV.str n)=some (.str n,σ):=fun _ _=>rfl
 have l0:∀ (σ:Heap) n b,close0 σ (AV.isl n b)=some (.isl n false,σ):=fun _ _ _=>rfl
 have hw:window (opC nm (.sl m 0 2 7 true)) 0 7=some (opC nm (.sl m 0 2 7 true)):=rfl
 have hw2:window (cT a++cT b) 0 14=some (cT a++cT b):=rfl
 have hb:=close0_two a b hfz
 have hU:∀ c,(∀ (σ:Heap) n,c σ (AV.str n)=some (.str n,σ))→(∀ (σ:Heap) k n,c σ (AV.int k n)=some (.int k n,σ))→(∀ (σ:Heap) n b,c σ (AV.isl n b)=some (.isl n false,σ)) →
   (∃ σ',c (frz σ k 7) (.sl m 0 2 7 true)=some (.isl (GT.encs [a,b]) false,σ'))→∃ σ',closeUp c σ (.sl k 0 1 7 true)=some (.isl (GT.encs [opT nm a b]) false,σ'):=by
  rintro c c1 c2 c3 ⟨σ',c4⟩
  refine ⟨σ',?_⟩
  simp only [closeUp,h,Nat.one_mul,Nat.zero_add,hw,Option.bind_some,closeLW,c1,c2,c3,c4,Option.map_some]
  simp [AV.clo1,chunk,mk,GT.encs,opT,GT.enc_eq]
 have hlen14:((cT a++cT b).all AV.clo1)=true:=rfl
 have up:∀ c (τ:Heap) fm em,τ[m]?=some (.cells (cT a++cT b) fm em)→(∀ (σ:Heap) n,c σ (AV.str n)=some (.str n,σ))→(∀ (σ:Heap) k n,c σ (AV.int k n)=some (.int k n,σ))→(∀ (σ:Heap) n b,c σ (AV.isl n b)=some (.isl n false,σ)) →
   closeUp c τ (.sl m 0 2 7 true)=some (.isl (GT.encs [a,b]) false,frz τ m 14):=by
  intro c τ fm em hτ c1 c2 c3
  have hlw:∀ τ',closeLW c τ' (cT a++cT b)=some (cT a++cT b,τ'):=fun τ'=>by simp [closeLW,c1,c2,c3]
  have hch:chunk 7 true 2 (cT a++cT b)=some (GT.encs [a,b]):=by simp [GT.encs,GT.enc_eq a,GT.enc_eq b,chunk,mk]
  simp only [closeUp,hτ,Nat.reduceMul,Nat.zero_add,hw2,Option.bind_some,hlw,hlen14,if_true,hch,Option.map_some]
 unfold close1
 rw [h2]
 exact hU _ (s1 _) (i1 _) (l1 _) ⟨_,up _ _ _ _ hfz (s1 _) (i1 _) (l1 _)⟩
theorem close_ex {σ:Heap} {x y:AV} {F:AV × Heap→Option (AV × Heap)} {r:AV} (h:∃ σ',close1 σ x=some (y,σ')) (hF:∀ σ',∃ z,F (y,σ')=some (r,z)):∃ z,(close1 σ x).bind F=some (r,z):=by
 obtain ⟨σ',h⟩:=h
 rw [h]; exact hF σ'
theorem lit6_ok (x:GRaw) (hx:x.ok):pureT T c29 [x.enc]=some (litR x).enc:=by
 have hA:=callAtom6 x hx
 have h8:=pick6_8 x.kind hx.1
 have hl8:=pickN_lt (c:=x.kind) (n:=8) (by omega)
 unfold litR
 apply pure_enter (by simp [c29])
 by_cases c4:pickN x.kind 8<4
 ·have:pickN x.kind 8=0∨pickN x.kind 8=1∨pickN x.kind 8=2∨pickN x.kind 8=3:=by omega
  rw [if_pos c4]
  rcases this with h | h | h | h <;> (rw [h] at h8; simp [c29,hA,←GRaw.enc_eq,h8,setRun,GL.enc_eq])
 ·by_cases c5:pickN x.kind 8=4
  ·rw [if_neg c4,if_pos c5]
   rw [c5] at h8
   simp [c29,hA,←GRaw.enc_eq,h8,setRun,GL.enc_eq]
  ·by_cases c7:pickN x.kind 8<7
   ·rw [if_neg c4,if_neg c5,if_pos c7]
    have p6:=pick6_6 x.name hx.2.1
    have q6:=pickN_lt (c:=x.name) (n:=6) (by omega)
    have q6':(pickN x.name 6:Int)<6:=by omega
    have g6:=test_get _ q6
    have v0:=callV6 x.n0 hx.2.2.1
    have v1:=callV6 x.n1 hx.2.2.2.1
    have p4:=pick6_4 x.n2 hx.2.2.2.2.1
    have p2:=pick6_2 x.n3 hx.2.2.2.2.2
    have q2:=pickN_lt (c:=x.n3) (n:=2) (by omega)
    have q2':(pickN x.n3 2:Int)<2:=by omega
    have hnu:=callNum6 (pickN x.n2 4)
    have hg2:=two_getT (numT (pickN x.n2 4)) (vT x.n1) _ q2
    simp only [cT,List.cons_append,List.nil_append] at hg2
    have:pickN x.kind 8=5∨pickN x.kind 8=6:=by omega
    rcases this with h | h <;> (rw [h] at h8; simp [c29,hA,←GRaw.enc_eq,h8,setRun,GL.enc_eq,p6,q6',g6,mk,v0,v1,p4,p2,q2',hnu,hg2]; rw [close1_two (vT x.n0) _ rfl]; simp)
   ·rw [if_neg c4,if_neg c5,if_neg c7]
    have h:pickN x.kind 8=7:=by omega
    rw [h] at h8
    have v0:=callV6 x.n0 hx.2.2.1
    have v1:=callV6 x.n1 hx.2.2.2.1
    have v2:=callV6 x.n2 hx.2.2.2.2.1
    have p2:=pick6_2 x.n3 hx.2.2.2.2.2
    have hq:GV.i64ok (x.n3.tdiv 2):=tdiv_ok hx.2.2.2.2.2 2 (by omega)
    have hwm:IntKind.i64.wrap (x.n3.tdiv 2)=x.n3.tdiv 2:=wr64 hq.1 hq.2
    have p2b:=pick6_2 _ hq
    have q2:=pickN_lt (c:=x.n3) (n:=2) (by omega)
    have q2':(pickN x.n3 2:Int)<2:=by omega
    have q3:=pickN_lt (c:=x.n3.tdiv 2) (n:=2) (by omega)
    have q3':(pickN (x.n3.tdiv 2) 2:Int)<2:=by omega
    have g2:=two_get _ q2
    have hnu:=callNum6 1
    have hfd:fieldV 1 1 false (vT x.n0).enc=some (.str (vName (pickN x.n0 6))):=by rw [GT.enc_eq]; rfl
    have hg2:=two_getT (numT 1) (vT x.n2) _ q3
    simp only [cT,List.cons_append,List.nil_append] at hg2
    simp [c29,hA,←GRaw.enc_eq,h8,setRun,GL.enc_eq,v0,v1,v2,p2,p2b,hwm,q2',q3',g2,mk,hnu,hg2,hfd]
    refine close_ex (close1_opT (if pickN x.n3 2=0 then ⟨#[43]⟩ else ⟨#[45]⟩) (vT x.n1) (if pickN (x.n3.tdiv 2) 2=0 then numT 1 else vT x.n2) rfl rfl (by decide)) fun σ'=>?_
    simp [opT]
theorem callLit6 (x:GRaw) (hx:x.ok) (bs:Nat) (σ:Heap):callT T 29 [x.enc] bs σ=some ((litR x).enc,σ):=call_clean rfl rfl rfl (by simp) (lit6_ok x hx)
set_option maxRecDepth 100000
open Go.Mach
theorem agg_get (q:Nat) (h:q<3):window [AV.str ⟨#[109,105,110]⟩,.str ⟨#[109,97,120]⟩,.str ⟨#[99,111,117,110,116]⟩] q 1=some [.str (aggN q)]:=by
 match q,h with
 | 0,_=>rfl
 | 1,_=>rfl
 | 2,_=>rfl
abbrev RT:ACode:=sndC (sndC (sndC (sndC (sndC (sndC (sndC c13.body))))))
theorem rule_tail6 (h:GRaw) (hh:h.ok) (lab:ByteArray) (body:List GL) (lst:AV) (f:FR) (σ:Heap) (h4:f 4=.ptr 0 0) (h5:f 5=.ptr 2 0) (h6:f 6=.ptr 3 0) (hN:4≤σ.length)
  (c0:∃ a b c d e g,σ[0]?=some (.cells [a,b,c,d,e,g] 0 false)) (c2:σ[2]?=some (.cells [.str lab,.str (relR h).name,.isl (GT.encs (atomR h)) false,.str ⟨#[]⟩,.int .i64 0,lst] 0 false))
  (c3:σ[3]?=some (.cells h.enc.cells 0 false)) (hL:LX 4 3 σ (body.map GL.enc) lst) :
  wpK T 0 88 [.code RT] f σ (endP 88 [.cell 4 6 true] (GR.enc ⟨lab,(relR h).name,atomR h,if aggR h=true then aggN (pickN (h.kind.tdiv 5) 3) else ⟨#[]⟩,if aggR h=true then 1 else 0,body⟩)):=by
 obtain ⟨a,b,c,d,e,g,c0⟩:=c0
 have p5:=pick6_5 h.kind hh.1
 have hq:GV.i64ok (h.kind.tdiv 5):=tdiv_ok hh.1 5 (by omega)
 have hwm:IntKind.i64.wrap (h.kind.tdiv 5)=h.kind.tdiv 5:=wr64 hq.1 hq.2
 have p3:=pick6_3 _ hq
 have q3:=pickN_lt (c:=h.kind.tdiv 5) (n:=3) (by omega)
 have q3':(pickN (h.kind.tdiv 5) 3:Int)<3:=by omega
 have g3:=agg_get _ q3
 have hs0:∀ o,(σ.set 0 o)[0]?=some o:=fun o=>list_set_at (by omega)
 have hcl:∀ o,∃ σ',close1 (σ.set 0 o) lst=some (.isl (body.map GL.enc) false,σ'):=fun o=>by
  obtain ⟨σ',h1,_⟩:=(hL.keep (τ:=σ.set 0 o) fun i o hi ho=>by rw [zqC (by omega)]; exact ho).close
  exact ⟨σ',close1_of0 h1⟩
 have ga3:∀ o,(σ++[o])[3]?=some (.cells [.int .i64 h.kind,.int .i64 h.name,.int .i64 h.n0,.int .i64 h.n1,.int .i64 h.n2,.int .i64 h.n3] 0 false):=fun o=>by rw [zqA (by omega)]; exact c3
 have ga2:∀ o,(σ++[o])[2]?=some (.cells [.str lab,.str (relR h).name,.isl (GT.encs (atomR h)) false,.str ⟨#[]⟩,.int .i64 0,lst] 0 false):=fun o=>by rw [zqA (by omega)]; exact c2
 have hs2:∀ o o',((σ++[o]).set 2 o')[2]?=some o':=fun o o'=>list_set_at (by simp; omega)
 have ga0:∀ o o' h,((σ++[o]).set 2 o')[0]'h=.cells [a,b,c,d,e,g] 0 false:=fun o o' h=>Option.some_inj.1 ((zqF h).symm.trans (by rw [zqC (by decide),zqA (by omega)]; exact c0))
 have ga0':∀ o o',((σ++[o]).set 2 o')[0]?=some (.cells [a,b,c,d,e,g] 0 false):=fun o o'=>by rw [zqC (by decide),zqA (by omega)]; exact c0
 have hs20:∀ o o' o'',(((σ++[o]).set 2 o').set 0 o'')[0]?=some o'':=fun o o' o''=>list_set_at (by simp)
 have hcl2:∀ o o' o'',∃ σ',close1 (((σ++[o]).set 2 o').set 0 o'') lst=some (.isl (body.map GL.enc) false,σ'):=fun o o' o''=>by
  obtain ⟨σ',h1,_⟩:=(hL.keep (τ:=((σ++[o]).set 2 o').set 0 o'') fun i q hi ho=>by
   rw [zqC (by omega),zqC (by omega),zqA (zqI.1 ho).1]; exact ho).close
  exact ⟨σ',close1_of0 h1⟩
 by_cases k4:pickN h.kind 5=4
 ·rw [k4] at p5
  by_cases k1:1<(atomR h).length
  ·have k1':(1:Int)<((atomR h).length:Int):=by omega
   have e1:(atomR h)[1]?=some (atomR h)[1]:=zqF k1
   by_cases k2:(atomR h)[1].kind=1
   ·have ha:aggR h=true:=by unfold aggR; rw [e1]; simp [k4,k2]
    simp [RT,c13,sndC,h4,h5,h6,c0,c2,c3,p5,k1',k1,e1,k2,hwm,p3,q3',g3,mk,setRun,ha,ga2,ga3,hs2,ga0,ga0',hs20]
    refine close_ex (hcl2 _ _ _) fun σ'=>?_
    simp [GR.enc_eq]
   ·have ha:aggR h=false:=by unfold aggR; rw [e1]; simp [k4,k2]
    simp [RT,c13,sndC,h4,h5,h6,c0,c2,c3,p5,k1',k1,e1,k2,setRun,ha,hs0]
    refine close_ex (hcl _) fun σ'=>?_
    simp [GR.enc_eq]
  ·have k1':¬ (1:Int)<((atomR h).length:Int):=by omega
   have ha:aggR h=false:=by unfold aggR; rw [List.getElem?_eq_none (by omega)]; simp
   simp [RT,c13,sndC,h4,h5,h6,c0,c2,c3,p5,k1',setRun,ha,hs0]
   refine close_ex (hcl _) fun σ'=>?_
   simp [GR.enc_eq]
 ·have k4':¬ (pickN h.kind 5:Int)=4:=by omega
  have ha:aggR h=false:=by unfold aggR; simp [k4]
  simp [RT,c13,sndC,h4,h5,h6,c0,c2,c3,p5,k4,k4',setRun,ha,hs0]
  refine close_ex (hcl _) fun σ'=>?_
  simp [GR.enc_eq]
theorem pickN_small (n:Nat) (h:n<26):pickN n 26=n:=by
 unfold pickN; rw [if_neg (by omega)]; simp; omega
theorem body_take (l:List GRaw) (h:1<l.length):bodyR l=(((l.take 5).drop 1)).map litR:=by
 unfold bodyR; rw [if_neg (by omega)]
abbrev RL:ACode:=sndC (sndC (sndC (sndC (sndC c13.body))))
theorem rule_loop6 (l:List GRaw) (hl:∀ x∈l,x.ok) (hlen:l.length≤100000000000) (h:GRaw) (hh:h.ok) (lab:ByteArray) (f:FR) (σ:Heap) (h0:f 0=.isl (l.map GRaw.enc) false) (h4:f 4=.ptr 0 0) (h5:f 5=.ptr 2 0) (h6:f 6=.ptr 3 0) (hN:4≤σ.length)
  (c0:∃ a b c d e g,σ[0]?=some (.cells [a,b,c,d,e,g] 0 false)) (c2:σ[2]?=some (.cells [.str lab,.str (relR h).name,.isl (GT.encs (atomR h)) false,.str ⟨#[]⟩,.int .i64 0,.isl [] true] 0 false))
  (c3:σ[3]?=some (.cells h.enc.cells 0 false)) :
  wpK T 0 88 [.code RL] f σ (endP 88 [.cell 4 6 true] (GR.enc ⟨lab,(relR h).name,atomR h,if aggR h=true then aggN (pickN (h.kind.tdiv 5) 3) else ⟨#[]⟩,if aggR h=true then 1 else 0,bodyR l⟩)):=by
 have tail:=rule_tail6 h hh lab (bodyR l)
 have hL0:∀ bs σ,callT T 29 [.agg [.int .i64 0,.int .i64 0,.int .i64 0,.int .i64 0,.int .i64 0,.int .i64 0]] bs σ=some ((litR .zero).enc,σ):=callLit6 .zero GRaw.zero_ok
 have hb:RL=.seq (fstC RL) (.seq (fstC (sndC RL)) RT):=rfl
 rw [hb]
 generalize RT=K at tail
 generalize GR.enc ⟨lab,(relR h).name,atomR h,if aggR h=true then aggN (pickN (h.kind.tdiv 5) 3) else ⟨#[]⟩,if aggR h=true then 1 else 0,bodyR l⟩=res at *
 have fin:∀ (v:GL) (es:List GL) (σ σ':Heap) x' (es':List AV),es'=(es++[v]).map GL.enc→LX 4 3 σ' es' x'→4≤σ.length→σ.length+1≤σ'.length→(∀ i,i<4→σ'[i]?=σ[i]?)→∀ o,LX 4 3 (σ'.set 2 o) ((es++[v]).map GL.enc) x':=fun v es σ σ' x' es' he hL' h4 hl' hk' o=>by
  subst he
  exact hL'.keep fun i o hi ho=>by rw [zqC (by omega)]; exact ho
 simp [RL,c13,sndC,fstC]
 refine W_for T 0 88 (min l.length 5 - 1) (fun i f σ=>f 0=.isl (l.map GRaw.enc) false∧f 4=.ptr 0 0∧f 5=.ptr 2 0∧f 6=.ptr 3 0∧f 7=.int .i64 ((i:Int)+1)∧4≤σ.length∧(∃ a b c d e g,σ[0]?=some (.cells [a,b,c,d,e,g] 0 false)) ∧
  σ[3]?=some (.cells h.enc.cells 0 false)∧∃ lst,σ[2]?=some (.cells [.str lab,.str (relR h).name,.isl (GT.encs (atomR h)) false,.str ⟨#[]⟩,.int .i64 0,lst] 0 false)∧LX 4 3 σ (((((l.take 5).drop 1).take i).map litR).map GL.enc) lst) ?_ _ _ ?_
 ·rintro i f σ hi ⟨h0,h4,h5,h6,h7,hN,c0,c3,lst,c2,hL⟩
  by_cases hlt:i+1<min l.length 5
  ·have hlt1:i+1<l.length:=by omega
   have hlt2:(i:Int)+1<(l.length:Int):=by omega
   have hlt3:(i:Int)+1<5:=by omega
   have h0i:0≤(i:Int)+1:=by omega
   have hw:IntKind.i64.wrap ((i:Int)+1+1)=(i:Int)+1+1:=wr64 (by omega) (by omega)
   have e1:l[i+1]?=some l[i+1]:=zqF hlt1
   have hc:=callLit6 l[i+1] (hl _ (zqT hlt1))
   have htk:(((l.take 5).drop 1).take (i+1)).map litR=(((l.take 5).drop 1).take i).map litR++[litR l[i+1]]:=by
    have hd:i<((l.take 5).drop 1).length:=by simp; omega
    rw [zqO hd,List.map_append]
    have:((l.take 5).drop 1)[i]=l[i+1]:=by simp [Nat.add_comm]
    rw [this]; rfl
   have hal:((((l.take 5).drop 1).take i).map litR).length≤5:=by simp; omega
   rw [htk]
   generalize (((l.take 5).drop 1).take i).map litR=es at *
   simp [h0,h4,h5,h6,h7,hlt2,hlt3,hlt1,h0i,c2,e1,hc,←GRaw.enc_eq,setRun,-appendA_ag]
   refine stW_app1 (N:=4) hL rfl rfl (by omega) (by omega) hN (by simp; omega) fun x' σ' hL' hlen' hk'=>?_
   simp [h0,h4,h5,h6,h7,hw,hk',c0,c3,c2,hL'.solid,hL'.cells,setRun]
   refine ⟨by omega,by omega,x',list_set_at (by omega),?_⟩
   have:=fin (litR l[i+1]) es σ σ' x' _ (by rw [List.map_append]; rfl) hL' hN (by omega) hk' (.cells [.str lab,.str (relR h).name,.isl (GT.encs (atomR h)) false,.str ⟨#[]⟩,.int .i64 0,x'] 0 false)
   rwa [List.map_append] at this
  ·have he:i=min l.length 5 - 1:=by omega
   have htk:((l.take 5).drop 1).take i=(l.take 5).drop 1:=List.take_of_length_le (by simp; omega)
   rw [htk] at hL
   by_cases hl1:l.length≤1
   ·have hnil:(l.take 5).drop 1=[]:=List.drop_eq_nil_of_le (by simp; omega)
    have hbd:bodyR l=[litR .zero]:=by unfold bodyR; rw [if_pos hl1]
    rw [hnil] at hL
    have hlt2:¬ ((i:Int)+1<(l.length:Int)):=by omega
    have hlv:=hL.len
    simp [h0,h4,h5,h6,h7,hlt2,c2,hlv,hL0,setRun,-appendA_ag]
    refine stW_app1 (N:=4) hL rfl rfl (by omega) (by omega) hN (by simp) fun x' σ' hL' hlen' hk'=>?_
    obtain ⟨a,b,c,d,e,g,c0⟩:=c0
    simp [h0,h4,h5,h6,h7,hk',c0,c3,c2,hL'.solid,hL'.cells,setRun]
    refine tail x' _ _ (by simp [h4]) (by simp [h5]) (by simp [h6]) (by simp; omega) ⟨a,b,c,d,e,g,by rw [zqC (by decide),hk' 0 (by omega)]; exact c0⟩ (list_set_at (by omega)) (by rw [zqC (by decide),hk' 3 (by omega)]; exact c3) ?_
    rw [hbd]
    exact fin (litR .zero) [] σ σ' x' _ rfl hL' hN (by omega) hk' _
   ·have hbd:=body_take l (by omega)
    rw [←hbd] at hL
    have hbl:=bodyR_len l
    have hlv:=hL.len
    have hne:¬ ((bodyR l).length:Int)=0:=by omega
    have hne2:¬ bodyR l=[]:=fun e=>by rw [e] at hbl; simp at hbl
    by_cases h5l:(i:Int)+1<(l.length:Int)
    ·have hlt3:¬ (i:Int)+1<5:=by omega
     simp [h0,h4,h5,h6,h7,h5l,hlt3,c2,hlv,hne,hne2]
     exact tail lst _ σ (by simp [h4]) (by simp [h5]) (by simp [h6]) hN c0 c2 c3 hL
    ·simp [h0,h4,h5,h6,h7,h5l,c2,hlv,hne,hne2]
     exact tail lst _ σ (by simp [h4]) (by simp [h5]) (by simp [h6]) hN c0 c2 c3 hL
 ·simp [h0,h4,h5,h6,c2,c3,hN,c0]
  exact .inl ⟨rfl,rfl⟩
theorem rule6_ok (l:List GRaw) (hl:∀ x∈l,x.ok) (hlen:l.length≤100000000000) (n:Nat) (hn:n<26):pureT T c13 [.isl (l.map GRaw.enc) false,.int .i64 (n:Int)]=some (ruleR l n).enc:=by
 have hp:=pick6_26 (n:Int) (by unfold GV.i64ok; omega)
 rw [pickN_small n hn] at hp
 have hho:(headR l).ok:=by
  cases l with
  | nil=>exact GRaw.zero_ok
  | cons x l=>exact hl x (by simp)
 have loop:=rule_loop6 l hl hlen (headR l) hho (⟨#[114]⟩++⟨#[UInt8.ofNat (97+n)]⟩)
 have hw97:IntKind.i64.wrap (97+(n:Int))=97+(n:Int):=wr64 (by omega) (by omega)
 have hu8:IntKind.u8.wrap (97+(n:Int))=97+(n:Int):=wru8 (by omega) (by omega)
 have hb2:∀ o:AObj,b2sV [o,.cells [.int .u8 (97+(n:Int))] 0 false] (.sl 1 0 1 1 false)=some (.str ⟨#[UInt8.ofNat (97+n)]⟩):=fun o=>
  b2s_bv (l:=[UInt8.ofNat (97+n)]) (fz:=0) (ext:=false) (by simp [bv]; omega) (by simp)
 have hs1:(⟨#[114]⟩:ByteArray).size=1:=rfl
 have hs2:(⟨#[UInt8.ofNat (97+n)]⟩:ByteArray).size=1:=rfl
 unfold ruleR
 generalize UInt8.ofNat (97+n)=lb at *
 apply pure_enter (by simp [c13])
 show wpK T 0 88 [.code c13.body] _ [] (endP 88 [.cell 4 6 true] _)
 have hb:c13.body=.seq (fstC c13.body) (.seq (fstC (sndC c13.body)) (.seq (fstC (sndC (sndC c13.body))) (.seq (fstC (sndC (sndC (sndC c13.body)))) (.seq (fstC (sndC (sndC (sndC (sndC c13.body))))) RL)))):=rfl
 rw [hb]
 generalize RL=K at loop
 cases l with
 | nil=>
  have hA:∀ bs σ,callT T 28 [.agg [.int .i64 0,.int .i64 0,.int .i64 0,.int .i64 0,.int .i64 0,.int .i64 0]] bs σ=some (.tup [.str (relR .zero).name,.isl (GT.encs (atomR .zero)) false],σ):=callAtom6 .zero GRaw.zero_ok
  simp [c13,sndC,fstC,hp,hw97,hu8,setRun,hb2,hs1,hs2,hA]
  refine loop _ _ (by simp) (by simp) (by simp) (by simp) (by simp) ⟨_,_,_,_,_,_,rfl⟩ (by simp [headR]) (by simp [headR,GRaw.zero])
 | cons x l=>
  have hA:=callAtom6 x (hl x (by simp))
  simp [c13,sndC,fstC,hp,hw97,hu8,setRun,hb2,hs1,hs2,hA,←GRaw.enc_eq]
  refine loop _ _ (by simp) (by simp) (by simp) (by simp) (by simp) ⟨_,_,_,_,_,_,rfl⟩ (by simp [headR]) (by simp [headR,GRaw.zero])
theorem callRule6R (l:List GRaw) (hl:∀ x∈l,x.ok) (hlen:l.length≤100000000000) (n:Nat) (hn:n<26) (bs:Nat) (σ:Heap):callT T 13 [.isl (l.map GRaw.enc) false,.int .i64 (n:Int)] bs σ=some ((ruleR l n).enc,σ):=call_clean rfl rfl rfl (by simp) (rule6_ok l hl hlen n hn)
set_option maxRecDepth 100000
open Go.Mach
abbrev PF:ACode:=sndC (sndC (sndC c9.body))
theorem prog_facts (rs:List GR) (facts:List GRaw) (hf:∀ x∈facts,x.ok) (hlen:facts.length≤100000000000) (lst:AV) (f:FR) (σ:Heap) (h1:f 1=.isl (facts.map GRaw.enc) false) (h4:f 4=.ptr 0 0) (h5:f 5=.ptr 1 0) (hN:2≤σ.length)
  (c0:∃ a b c,σ[0]?=some (.cells [a,b,c] 0 false)) (c1:σ[1]?=some (.cells [.isl (relsD.map GD.enc) false,.isl [] true,lst] 0 false)) (hL:LX 2 6 σ (rs.map GR.enc) lst) :
  wpK T 0 52 [.code PF] f σ (endP 52 [.cell 4 3 true] (GP.enc ⟨relsD,(facts.take 12).map factR,rs⟩)):=by
 simp [PF,c9,sndC]
 refine W_for T 0 52 (min facts.length 12) (fun i f σ=>f 1=.isl (facts.map GRaw.enc) false∧f 4=.ptr 0 0∧f 5=.ptr 1 0∧f 7=.int .i64 (i:Int)∧2≤σ.length∧(∃ a b c,σ[0]?=some (.cells [a,b,c] 0 false)) ∧
  ∃ ls,σ[1]?=some (.cells [.isl (relsD.map GD.enc) false,ls,lst] 0 false)∧LX 2 6 σ (rs.map GR.enc) lst∧LX 2 2 σ (((facts.take i).map factR).map GU.enc) ls) ?_ _ _ ?_
 ·rintro i f σ hi ⟨h1,h4,h5,h7,hN,⟨a,b,c,c0⟩,ls,c1,hL,hM⟩
  by_cases hlt:i<min facts.length 12
  ·have hlt1:i<facts.length:=by omega
   have hlt2:(i:Int)<(facts.length:Int):=by omega
   have hlt3:(i:Int)<12:=by omega
   have hw:IntKind.i64.wrap ((i:Int)+1)=(i:Int)+1:=wr64 (by omega) (by omega)
   have e1:facts[i]?=some facts[i]:=zqF hlt1
   have hc:=callFact6 facts[i] (hf _ (zqT hlt1))
   have htk:(facts.take (i+1)).map factR=(facts.take i).map factR++[factR facts[i]]:=by
    rw [zqO hlt1,List.map_append]; rfl
   have hal:((facts.take i).map factR).length≤12:=by simp; omega
   rw [htk]
   generalize (facts.take i).map factR=es at *
   simp [h1,h4,h5,h7,hlt2,hlt3,hlt1,c1,e1,hc,←GRaw.enc_eq,setRun,-appendA_ag]
   refine stW_app1K (N:=2) hM rfl rfl (by omega) (by omega) hN (by simp; omega) fun x' σ' hL' hlen' hk' hoth=>?_
   have hL2:=hoth 6 _ _ (by decide) hL
   simp [h1,h4,h5,h7,hw,hk',c0,c1,hL'.solid,hL'.cells,setRun]
   have kp:∀ {sz es y} o,LX 2 sz σ' es y→LX 2 sz (σ'.set 1 o) es y:=fun o h=>h.keep fun i q hi ho=>by rw [zqC (by omega)]; exact ho
   refine ⟨by omega,by omega,x',list_set_at (by omega),kp _ hL2,?_⟩
   have:=kp (.cells [.isl (relsD.map GD.enc) false,x',lst] 0 false) hL'
   exact this
  ·have he:i=min facts.length 12:=by omega
   have htk:facts.take i=facts.take 12:=by
    by_cases h:facts.length≤12
    ·rw [List.take_of_length_le (by omega),List.take_of_length_le h]
    ·have:i=12:=by omega
     rw [this]
   rw [htk] at hM
   have hs0:∀ o,(σ.set 0 o)[0]?=some o:=fun o=>list_set_at (by omega)
   have kp:∀ {sz es y} o,LX 2 sz σ es y→LX 2 sz (σ.set 0 o) es y:=fun o h=>h.keep fun i q hi ho=>by rw [zqC (by omega)]; exact ho
   have hcl:∀ o,∃ σ',close1 (σ.set 0 o) ls=some (.isl (((facts.take 12).map factR).map GU.enc) false,σ')∧∃ σ'',close1 σ' lst=some (.isl (rs.map GR.enc) false,σ''):=fun o=>by
    obtain ⟨σ1,k1,_,_,k3⟩:=(kp o hM).close
    obtain ⟨σ2,k4,_⟩:=(k3 _ _ _ _ (kp o hL)).close
    exact ⟨σ1,close1_of0 k1,σ2,close1_of0 k4⟩
   have ht12:List.take 12 (List.map factR facts)=(facts.take 12).map factR:=by rw [List.map_take]
   by_cases h12:(i:Int)<(facts.length:Int)
   ·have hlt3:¬ (i:Int)<12:=by omega
    simp [h1,h4,h5,h7,h12,hlt3,c1,c0,hs0]
    obtain ⟨σ1,k1,σ2,k2⟩:=hcl (AObj.cells [AV.isl (List.map GD.enc relsD) false,ls,lst] 0 false)
    simp [k1,k2,GP.enc_eq]
   ·simp [h1,h4,h5,h7,h12,c1,c0,hs0]
    obtain ⟨σ1,k1,σ2,k2⟩:=hcl (AObj.cells [AV.isl (List.map GD.enc relsD) false,ls,lst] 0 false)
    simp [k1,k2,GP.enc_eq]
 ·simp [h1,h4,h5,c1,hN,c0,hL]
  exact .inl ⟨rfl,rfl⟩
theorem rulesR_snoc (rules:List (List GRaw)) (i:Nat) (h:i<rules.length):((rules.take (i+1)).zipIdx).map (fun p=>ruleR p.1 p.2)=((rules.take i).zipIdx).map (fun p=>ruleR p.1 p.2)++[ruleR rules[i] i]:=by
 rw [zqO h,List.zipIdx_append,List.map_append]
 have:(rules.take i).length=i:=by simp; omega
 simp [this]
theorem prog6_ok (rules:List (List GRaw)) (facts:List GRaw) (hr:∀ l∈rules,(∀ x∈l,x.ok)∧l.length≤100000000000) (hrl:rules.length≤100000000000) (hf:∀ x∈facts,x.ok) (hlen:facts.length≤100000000000) :
  pureT T c9 [.isl (encRR rules) false,.isl (facts.map GRaw.enc) false]=some (progR rules facts).enc:=by
 have tail:=prog_facts (rulesR rules) facts hf hlen
 unfold progR
 apply pure_enter (by simp [c9])
 show wpK T 0 52 [.code c9.body] _ [] (endP 52 [.cell 4 3 true] _)
 have hb:c9.body=.seq (fstC c9.body) (.seq (fstC (sndC c9.body)) (.seq (fstC (sndC (sndC c9.body))) PF)):=rfl
 rw [hb]
 generalize PF=K at tail
 generalize GP.enc ⟨relsD,(facts.take 12).map factR,rulesR rules⟩=res at *
 simp [c9,sndC,fstC,callRelations6,setRun]
 refine W_for T 0 52 (min rules.length 6) (fun i f σ=>f 0=.isl (encRR rules) false∧f 1=.isl (facts.map GRaw.enc) false∧f 4=.ptr 0 0∧f 5=.ptr 1 0∧f 6=.int .i64 (i:Int)∧2≤σ.length∧(∃ a b c,σ[0]?=some (.cells [a,b,c] 0 false)) ∧
  ∃ ls,σ[1]?=some (.cells [.isl (relsD.map GD.enc) false,.isl [] true,ls] 0 false)∧LX 2 6 σ ((((rules.take i).zipIdx).map fun p=>ruleR p.1 p.2).map GR.enc) ls) ?_ _ _ ?_
 ·rintro i f σ hi ⟨h0,h1,h4,h5,h6,hN,⟨a,b,c,c0⟩,ls,c1,hL⟩
  by_cases hlt:i<min rules.length 6
  ·have hlt1:i<rules.length:=by omega
   have hlt2:(i:Int)<(rules.length:Int):=by omega
   have hlt3:(i:Int)<6:=by omega
   have hw:IntKind.i64.wrap ((i:Int)+1)=(i:Int)+1:=wr64 (by omega) (by omega)
   have e1:rules[i]?=some rules[i]:=zqF hlt1
   have hc:=callRule6R rules[i] (hr _ (zqT hlt1)).1 (hr _ (zqT hlt1)).2 i (by omega)
   have htk:=rulesR_snoc rules i hlt1
   have hal:(((rules.take i).zipIdx).map fun p=>ruleR p.1 p.2).length≤6:=by simp; omega
   rw [htk]
   generalize (((rules.take i).zipIdx).map fun p=>ruleR p.1 p.2)=es at *
   simp [h0,h1,h4,h5,h6,hlt2,hlt3,hlt1,c1,e1,hc,setRun,-appendA_ag]
   refine stW_app1 (N:=2) hL rfl rfl (by omega) (by omega) hN (by simp; omega) fun x' σ' hL' hlen' hk'=>?_
   simp [h0,h1,h4,h5,h6,hw,hk',c0,c1,hL'.solid,hL'.cells,setRun]
   have kp:∀ {sz es y} o,LX 2 sz σ' es y→LX 2 sz (σ'.set 1 o) es y:=fun o h=>h.keep fun i q hi ho=>by rw [zqC (by omega)]; exact ho
   refine ⟨by omega,by omega,x',list_set_at (by omega),?_⟩
   have:=kp (.cells [.isl (relsD.map GD.enc) false,.isl [] true,x'] 0 false) hL'
   exact this
  ·have he:i=min rules.length 6:=by omega
   have htk:rules.take i=rules.take 6:=by
    by_cases h:rules.length≤6
    ·rw [List.take_of_length_le (by omega),List.take_of_length_le h]
    ·have:i=6:=by omega
     rw [this]
   rw [htk] at hL
   by_cases h12:(i:Int)<(rules.length:Int)
   ·have hlt3:¬ (i:Int)<6:=by omega
    simp [h0,h1,h4,h5,h6,h12,hlt3]
    refine tail ls _ σ ?_ ?_ ?_ hN ⟨a,b,c,c0⟩ c1 hL <;> simp [h1,h4,h5]
   ·simp [h0,h1,h4,h5,h6,h12]
    refine tail ls _ σ ?_ ?_ ?_ hN ⟨a,b,c,c0⟩ c1 hL <;> simp [h1,h4,h5]
 ·simp
  exact .inl ⟨rfl,rfl⟩
theorem callProg6 (rules:List (List GRaw)) (facts:List GRaw) (hr:∀ l∈rules,(∀ x∈l,x.ok)∧l.length≤100000000000) (hrl:rules.length≤100000000000) (hf:∀ x∈facts,x.ok) (hlen:facts.length≤100000000000) (bs:Nat) (σ:Heap) :
  callT T 9 [.isl (encRR rules) false,.isl (facts.map GRaw.enc) false] bs σ=some ((progR rules facts).enc,σ):=call_clean rfl rfl rfl (by simp) (prog6_ok rules facts hr hrl hf hlen)
open Go.Mach
theorem bulkAs_le {α:Type} (enc:α→AV) (c:Nat):∀ l:List α,(∀ x∈l,bulkA (enc x)≤c)→bulkAs (l.map enc)≤c * l.length
 | [],_=>by simp [bulkAs]
 | x :: l,h=>by
  have h1:=bulkAs_le enc c l fun y hy=>h y (by simp [hy])
  have h2:=h x (by simp)
  simp only [List.map_cons,bulkAs,zqU,Nat.mul_add]; omega
theorem tsizes_le (c:Nat) (l:List GT) (h:∀ t∈l,t.size≤c):GT.sizes l≤c * l.length:=by
 rw [←GT.bulk_encs,GT.encs_map]
 exact bulkAs_le GT.enc c l fun t ht=>by rw [GT.bulk_enc]; exact h t ht
theorem gsizes_le (c:Nat) (l:List GV) (h:∀ t∈l,t.size≤c):GV.sizes l≤c * l.length:=by
 rw [←GV.bulk_encs,GV.encs_map]
 exact bulkAs_le GV.enc c l fun t ht=>by rw [GV.bulk_enc]; exact h t ht
theorem vTn_size:∀ n,n<6→(vTn n).size≤40:=by decide +kernel
theorem vT_size (c:Int):(vT c).size≤40:=vTn_size _ (pickN_lt (by omega))
theorem numT_size (n:Int):(numT n).size≤40:=by
 have h0:(ByteArray.mk #[]).size=0:=rfl
 simp [numT,GT.size,GT.sizes,GV.size,GV.sizes,h0]
theorem addrT_size:∀ n,n<3→(addrT n).size≤40:=by decide +kernel
theorem sumT_size:∀ n,n<6→(sumT n).size≤40:=by decide +kernel
theorem argR_size (k:Int):(argR k).size≤40:=by
 unfold argR
 split
 ·exact numT_size _
 split
 ·exact addrT_size _ (pickN_lt (by omega))
 split
 ·exact sumT_size _ (pickN_lt (by omega))
 ·exact vT_size k
theorem atomR_size (x:GRaw):GT.sizes (atomR x)≤120:=by
 obtain ⟨_,h2,_⟩:=rel_arity x
 have:=tsizes_le 40 (atomR x) (fun t ht=>by
  obtain ⟨i,_,rfl⟩:=List.mem_map.1 ht
  split
  ·exact vT_size _
  ·exact argR_size _)
 have hl:(atomR x).length=(relR x).arity.toNat:=by simp [atomR]
 rw [hl] at this; omega
theorem relR_size (x:GRaw):(relR x).name.size≤4:=by
 obtain ⟨n,hn,_,e⟩:=rel_cases x
 rw [e]
 match n,hn with
 | 0,_=>decide
 | 1,_=>decide
 | 2,_=>decide
 | 3,_=>decide
 | 4,_=>decide
 | 5,_=>decide
theorem tSix_size:∀ n,n<6→(tSix.getD n ⟨#[]⟩).size≤4:=by decide +kernel
theorem vName_size:∀ n,n<6→(vName n).size≤4:=by decide +kernel
theorem litR_size (x:GRaw):(litR x).size≤200:=by
 have h1:=atomR_size x
 have h2:=relR_size x
 unfold litR
 split
 ·simp only [GL.size,GL.enc,bulkA,bulkAs,GT.bulk_encs]; omega
 split
 ·simp only [GL.size,GL.enc,bulkA,bulkAs,GT.bulk_encs]; omega
 split
 ·have h3:=tSix_size _ (pickN_lt (c:=x.name) (n:=6) (by omega))
  have h4:GT.sizes [vT x.n0,if pickN x.n3 2=0 then numT (pickN x.n2 4) else vT x.n1]≤80:=tsizes_le 40 _ fun t ht=>by
   simp only [List.mem_cons,List.not_mem_nil,or_false] at ht
   rcases ht with rfl | rfl
   ·exact vT_size _
   ·split
    ·exact numT_size _
    ·exact vT_size _
  simp only [GL.size,GL.enc,bulkA,bulkAs,GT.bulk_encs]; omega
 ·have h3:=vName_size _ (pickN_lt (c:=x.n0) (n:=6) (by omega))
  have h4:GT.sizes [vT x.n1,if pickN (x.n3.tdiv 2) 2=0 then numT 1 else vT x.n2]≤80:=tsizes_le 40 _ fun t ht=>by
   simp only [List.mem_cons,List.not_mem_nil,or_false] at ht
   rcases ht with rfl | rfl
   ·exact vT_size _
   ·split
    ·exact numT_size _
    ·exact vT_size _
  have h5:(if pickN x.n3 2=0 then (⟨#[43]⟩:ByteArray) else ⟨#[45]⟩).size≤1:=by split <;> decide
  have h0:(ByteArray.mk #[]).size=0:=rfl
  simp only [GL.size,GL.enc,bulkA,bulkAs,GT.bulk_encs,GT.sizes,GT.size,GV.size,GV.sizes,h0] at h4 ⊢; omega
theorem aggN_size (n:Nat):(aggN n).size≤5:=by
 unfold aggN
 split
 ·decide
 split <;> decide
theorem ruleR_size (l:List GRaw) (n:Nat):(ruleR l n).size≤1000:=by
 have h1:=atomR_size (headR l)
 have h2:=relR_size (headR l)
 have h3:=aggN_size (pickN ((headR l).kind.tdiv 5) 3)
 have h4:bulkAs ((bodyR l).map GL.enc)≤200 * (bodyR l).length:=bulkAs_le GL.enc 200 _ fun y hy=>by
  obtain ⟨x,rfl⟩:=bodyR_mem l hy
  exact litR_size x
 have h5:=(bodyR_len l).2
 have h6:((⟨#[114]⟩:ByteArray)++⟨#[UInt8.ofNat (97+n)]⟩).size=2:=by rw [ByteArray.size_append]; rfl
 have h7:(if aggR (headR l)=true then aggN (pickN ((headR l).kind.tdiv 5) 3) else ⟨#[]⟩).size≤5:=by
  split
  ·exact h3
  ·decide
 simp only [ruleR,GR.size,GR.enc,bulkA,bulkAs,GT.bulk_encs,h6]; omega
theorem addrV_size:∀ n,n<4→(addrV n).size≤40:=by decide +kernel
theorem factR_size (x:GRaw):(factR x).size≤200:=by
 obtain ⟨_,h2,_⟩:=rel_arity x
 have h1:=relR_size x
 have h0:(ByteArray.mk #[]).size=0:=rfl
 have:=gsizes_le 40 (factR x).args (fun t ht=>by
  obtain ⟨i,_,rfl⟩:=List.mem_map.1 ht
  unfold fargR
  split
  ·exact addrV_size _ (pickN_lt (by omega))
  ·simp [numV,GV.size,GV.sizes,h0])
 have hl:=fargs_len x
 rw [hl] at this
 have e1:(factR x).name=(relR x).name:=rfl
 simp only [GU.size,GU.enc,bulkA,bulkAs,GV.bulk_encs,e1]; omega
theorem GP.size_le (p:GP) (a b c:Nat) (h1:∀ x∈p.decls,x.size≤a) (h2:∀ x∈p.facts,x.size≤b) (h3:∀ x∈p.rules,x.size≤c):p.size≤a * p.decls.length+b * p.facts.length+c * p.rules.length+4:=by
 have k1:=bulkAs_le GD.enc a p.decls h1
 have k2:=bulkAs_le GU.enc b p.facts h2
 have k3:=bulkAs_le GR.enc c p.rules h3
 simp only [GP.size,GP.enc,bulkA,bulkAs]; omega
theorem relsD_size:∀ x∈relsD,x.size≤20:=by decide +kernel
theorem rulesR_size (rules:List (List GRaw)):∀ x∈rulesR rules,x.size≤1000:=fun x hx=>by
 obtain ⟨p,_,rfl⟩:=List.mem_map.1 hx
 exact ruleR_size _ _
theorem facts_size (facts:List GRaw):∀ x∈(facts.take 12).map factR,x.size≤200:=fun x hx=>by
 obtain ⟨p,_,rfl⟩:=List.mem_map.1 hx
 exact factR_size _
set_option maxRecDepth 100000
open Go.Mach
theorem rulesR_B (rules:List (List GRaw)):(rulesR rules).all ruleB=true∧(rulesR rules).length≤6:=by
 constructor
 ·rw [zqQ]; intro v hv
  obtain ⟨x,hx,rfl⟩:=List.mem_map.1 hv
  have:=List.snd_lt_of_mem_zipIdx hx
  refine ruleR_B _ _ ?_
  simp at this; omega
 ·simp [rulesR]; omega
theorem facts_B (facts:List GRaw):((facts.take 12).map factR).all tupB=true∧((facts.take 12).map factR).length≤12:=by
 constructor
 ·rw [zqQ]; intro v hv
  obtain ⟨x,_,rfl⟩:=List.mem_map.1 hv
  exact tupB_R x
 ·simp; omega
theorem check_rules6 (facts:List GRaw) (rs:List GR) (hr:rs.all ruleB=true) (hl:rs.length≤64):checkP ⟨relsD,(facts.take 12).map factR,rs⟩=firstP ⟨relsD,[],[]⟩ rs 0:=by
 rw [check_rawR rfl ?_ (facts_good rfl _)]
 ·exact first_congr (p:=⟨relsD,(facts.take 12).map factR,rs⟩) (q:=⟨relsD,[],[]⟩) rfl rs 0
 ·obtain ⟨h1,h2⟩:=facts_B facts
  have h4:relsD.length=6:=rfl
  simp only [progB,h1,hr,relsD_B,h4,Bool.and_true,decide_eq_true_eq]
  omega
theorem raw_prog (rules:List (List GRaw)) (facts:List GRaw) (hr:RawsOk rules) (hf:FactsOk facts):∃ fs rs,rs.length≤6∧fs.length≤12∧rs=rulesR rules∧fs=(facts.take 12).map factR ∧
  (∀ bs σ,callT T 9 [.isl (encRR rules) false,.isl (facts.map GRaw.enc) false] bs σ=some (.agg [.isl (relsD.map GD.enc) false,.isl (fs.map GU.enc) false,.isl (rs.map GR.enc) false],σ)) ∧
  ∀ rs':List GR,(∀ r∈rs',r∈rs)→rs'.length≤64→checkP ⟨relsD,fs,rs'⟩=firstP ⟨relsD,[],[]⟩ rs' 0∧(GP.mk relsD fs rs').size≤1000000000:=by
 refine ⟨_,_,(rulesR_B rules).2,(facts_B facts).2,rfl,rfl,fun bs σ=>callProg6 rules facts hr.1 hr.2 hf.1 hf.2 bs σ,fun rs' h1 h2=>⟨check_rules6 facts rs' ?_ h2,?_⟩⟩
 ·rw [zqQ]
  exact fun r hr'=>zqQ.1 (rulesR_B rules).1 r (h1 r hr')
 ·have:=GP.size_le ⟨relsD,(facts.take 12).map factR,rs'⟩ 20 200 1000 relsD_size (facts_size facts) fun r hr'=>rulesR_size rules r (h1 r hr')
  have e1:relsD.length=6:=rfl
  have e2:=(facts_B facts).2
  simp only [e1] at this
  omega
set_option maxRecDepth 100000
open Go.Mach
open Go.Mach
structure IsRaw (P:Program) (tR tA tI:TypeId):Prop where
 fs:∃ fs:Array Field,P.underlying tR=some (.struct fs)∧fs.toList.map (·.type)=[tI,tI,tA]
 arr:P.underlying tA=some (.array 4 tI)
 int:P.underlying tI=some (.int .i64)
theorem asRaw {P:Program} {tR tA tI:TypeId} (hT:IsRaw P tR tA tI) {x:AV} (h:TyA P tR x):∃ v:GRaw,x=v.enc∧v.ok:=by
 have e1:IntKind.i64.min=-9223372036854775808:=by decide
 have e2:IntKind.i64.max=9223372036854775807:=by decide
 obtain ⟨fs0,hf0,hts⟩:=hT.fs
 obtain ⟨vs,rfl,hl,hv⟩:=h.asStruct hf0
 have hlen:vs.length=3:=by rw [hl,←List.length_map (f:=(·.type)),hts]; rfl
 match vs,hlen with
 | [x0,x1,x2],_=>
  obtain ⟨y0,rfl,p0,q0⟩:=(field_ty hts hv (i:=0) rfl rfl).asInt hT.int
  obtain ⟨y1,rfl,p1,q1⟩:=(field_ty hts hv (i:=1) rfl rfl).asInt hT.int
  obtain ⟨ws,rfl,hwl,hw⟩:=(field_ty hts hv (i:=2) rfl rfl).asArray hT.arr
  match ws,hwl with
  | [w0,w1,w2,w3],_=>
   obtain ⟨z0,rfl,a0,b0⟩:=(hw w0 (by simp)).asInt hT.int
   obtain ⟨z1,rfl,a1,b1⟩:=(hw w1 (by simp)).asInt hT.int
   obtain ⟨z2,rfl,a2,b2⟩:=(hw w2 (by simp)).asInt hT.int
   obtain ⟨z3,rfl,a3,b3⟩:=(hw w3 (by simp)).asInt hT.int
   rw [e1] at p0 p1 a0 a1 a2 a3; rw [e2] at q0 q1 b0 b1 b2 b3
   exact ⟨⟨y0,y1,z0,z1,z2,z3⟩,by simp [GRaw.enc,flat],⟨p0,q0⟩,⟨p1,q1⟩,⟨a0,b0⟩,⟨a1,b1⟩,⟨a2,b2⟩,⟨a3,b3⟩⟩
theorem argRaws {P:Program} {tL tR tA tI:TypeId} (hT:IsRaw P tR tA tI) (hL:P.underlying tL=some (.slice tR)) {x:AV} (h:TyA P tL x) (hb:bulkA x≤1048576):∃ l:List GRaw,x=.isl (l.map GRaw.enc) false∧FactsOk l:=by
 obtain ⟨es,rfl,hes⟩:=h.asSlice hL
 obtain ⟨l,rfl,hl⟩:=list_enc GRaw.enc GRaw.ok es fun z hz=>asRaw hT (hes z hz)
 have:=bulk_len (l.map GRaw.enc)
 simp only [bulkA,List.length_map] at hb this
 exact ⟨l,rfl,hl,by omega⟩
theorem argRR {P:Program} {tLL tL tR tA tI:TypeId} (hT:IsRaw P tR tA tI) (hL:P.underlying tL=some (.slice tR)) (hLL:P.underlying tLL=some (.slice tL)) {x:AV} (h:TyA P tLL x) (hb:bulkA x≤1048576):∃ l:List (List GRaw),x=.isl (encRR l) false∧RawsOk l:=by
 obtain ⟨es,rfl,hes⟩:=h.asSlice hLL
 simp only [bulkA] at hb
 obtain ⟨l,rfl,hl⟩:=list_enc (fun l:List GRaw=>AV.isl (l.map GRaw.enc) false) FactsOk es fun z hz=>by
  have:=bulk_mem hz
  exact argRaws hT hL (hes z hz) (by omega)
 have:=bulk_len (l.map fun l:List GRaw=>AV.isl (l.map GRaw.enc) false)
 simp only [List.length_map] at this
 exact ⟨l,rfl,fun y hy=>hl y hy,by omega⟩
theorem tyRaw:IsRaw Tryz.prog 66 64 3:=⟨fieldTys_some (by kernel_rfl),by kernel_rfl,by kernel_rfl⟩
theorem argF6 {x:AV} (h:TyA Tryz.prog 48 x) (hb:bulkA x≤1048576):∃ l:List GRaw,x=.isl (l.map GRaw.enc) false∧FactsOk l:=argRaws tyRaw (by kernel_rfl) h hb
theorem argR6 {x:AV} (h:TyA Tryz.prog 22 x) (hb:bulkA x≤1048576):∃ l:List (List GRaw),x=.isl (encRR l) false∧RawsOk l:=argRR (tL:=48) tyRaw (by kernel_rfl) (by kernel_rfl) h hb
open Go.Mach
structure GPl where
 from':ByteArray
 to:ByteArray
 head:ByteArray
abbrev nilB:ByteArray:=⟨#[]⟩
def nilPl:GPl:=⟨nilB,nilB,nilB⟩
def GPl.enc (p:GPl):AV:=.agg [.str p.from',.str p.to,.str p.head]
abbrev sLink:ByteArray:=⟨#[108,105,110,107]⟩
structure RS where
 all:List ByteArray
 links:List ((ByteArray × ByteArray) × Int)
 atoms:Nat
def lookW (m:List ((ByteArray × ByteArray) × Int)) (a b:ByteArray):Option Int:=(m.find? fun p=>decide (p.1.1=a∧p.1.2=b)).map (·.2)
def linkL (l:GL):Bool:=decide (l.name=sLink) && decide ((l.args[1]?).map GT.kind=some 1)
def arg1 (l:GL):ByteArray:=((l.args[1]?).map GT.name).getD nilB
def setW (m:List ((ByteArray × ByteArray) × Int)) (a b:ByteArray) (i:Int):List ((ByteArray × ByteArray) × Int):=if (lookW m a b).isSome=true then m else m++[((a,b),i)]
def stepR (s:RS) (l:GL) (a:GT) (i:Nat):RS:=
 if l.kind=2 then ⟨addB s.all a.name,s.links,s.atoms⟩
 else ⟨addB s.all a.name,if linkL l=true then setW s.links a.name (arg1 l) i else s.links,s.atoms+1⟩
def readGo:List GL→Nat→RS→Option RS
 | [],_,s=>some s
 | l :: ls,i,s=>if l.kind=1∨l.kind=2 then (match l.args with
   | []=>none
   | a :: _=>if a.kind=1 then readGo ls (i+1) (stepR s l a i) else none) else readGo ls (i+1) s
def readP (body:List GL):Option RS:=match readGo body 0 ⟨[],[],0⟩ with
 | some s=>if 0<s.atoms then some s else none
 | none=>none
def oneP (s:RS) (a head:ByteArray):Option GPl:=if head=a∨(lookW s.links a head).isSome=true then some ⟨a,nilB,head⟩ else none
def twoP (s:RS) (a b head:ByteArray):Option GPl:=match lookW s.links a b,lookW s.links b a with
 | none,none=>none
 | some _,none=>if head=a∨head=b then some ⟨a,b,head⟩ else none
 | none,some _=>if head=a∨head=b then some ⟨b,a,head⟩ else none
 | some i,some k=>if head=a∨head=b then some (if k<i then ⟨b,a,head⟩ else ⟨a,b,head⟩) else none
def placeQ (s:RS) (head:ByteArray):Option GPl:=match s.all with
 | [a]=>oneP s a head
 | [a,b]=>twoP s a b head
 | _=>none
def headK (r:GR):Int:=((r.args[0]?).map GT.kind).getD 0
def headN (r:GR):ByteArray:=((r.args[0]?).map GT.name).getD nilB
def aggOk (r:GR) (p:GPl):Bool:=decide (r.agg=nilB) || (decide (p.to=nilB) && decide (p.head=p.from'))
def placeP (r:GR):Option GPl:=
 if ruleB r=true∧r.head≠sLink∧headK r=1 then (match readP r.body with
  | none=>none
  | some s=>match placeQ s (headN r) with
   | none=>none
   | some p=>if aggOk r p=true then some p else none) else none
theorem mem_addB7 (b:List ByteArray) (n m:ByteArray):m∈addB b n↔m∈b∨m=n:=by
 unfold addB
 split
 ·rename_i h
  have:=(memB_iff n b).1 h
  constructor
  ·exact .inl
  ·rintro (h | rfl)
   ·exact h
   ·exact this
 ·simp
theorem nodup_addB7 {b:List ByteArray} (h:b.Nodup) (n:ByteArray):(addB b n).Nodup:=by
 unfold addB
 split
 ·exact h
 ·rename_i hn
  rw [List.nodup_append]
  refine ⟨h,by simp,fun x hx y hy e=>?_⟩
  simp at hy; subst hy e
  exact hn ((memB_iff x b).2 hx)
theorem lookW_set (m:List ((ByteArray × ByteArray) × Int)) (a b c d:ByteArray) (i:Int):lookW (setW m a b i) c d=if (lookW m c d).isSome=true then lookW m c d else if a=c∧b=d then some i else none:=by
 unfold setW
 split
 ·rename_i h
  split
  ·rfl
  ·rename_i h2
   split
   ·rename_i e; obtain ⟨rfl,rfl⟩:=e; exact absurd h h2
   ·cases h3:lookW m c d with
    | none=>rfl
    | some _=>rw [h3] at h2; simp at h2
 ·rename_i h
  unfold lookW
  rw [List.find?_append]
  cases h3:m.find? fun p=>decide (p.1.1=c∧p.1.2=d) with
  | some q=>simp
  | none=>
   simp only [Option.none_or,Option.map_none,Option.isSome_none,Bool.false_eq_true,if_false,List.find?_cons,List.find?_nil]
   by_cases e:a=c∧b=d
   ·simp [e]
   ·simp [e]
theorem lookW_some {m:List ((ByteArray × ByteArray) × Int)} {a b c d:ByteArray} {i:Int}:(lookW (setW m a b i) c d).isSome=true↔(lookW m c d).isSome=true∨(a=c∧b=d):=by
 rw [lookW_set]
 split
 ·rename_i h; simp [h]
 ·rename_i h
  split
  ·rename_i e; simp [e]
  ·rename_i e; simp [h,e]
def linkOf (l:GL) (a b:ByteArray):Prop:=l.kind=1∧linkL l=true∧(∃ t,l.args[0]?=some t∧t.name=a)∧arg1 l=b
theorem read_spec:∀ (ls:List GL) (i:Nat) (s t:RS),readGo ls i s=some t →
  (∀ m,m∈t.all↔m∈s.all∨∃ l∈ls,(l.kind=1∨l.kind=2)∧∃ x,l.args[0]?=some x∧x.name=m) ∧
  (∀ l∈ls,l.kind=1∨l.kind=2→∃ x,l.args[0]?=some x∧x.kind=1) ∧
  (∀ a b,(lookW t.links a b).isSome=true↔(lookW s.links a b).isSome=true∨∃ l∈ls,linkOf l a b)∧(s.all.Nodup→t.all.Nodup)
 | [],i,s,t,h=>by
  injection h with h; subst h
  simp
 | l :: ls,i,s,t,h=>by
  simp only [readGo] at h
  by_cases hk:l.kind=1∨l.kind=2
  ·rw [if_pos hk] at h
   cases ha:l.args with
   | nil=>rw [ha] at h; cases h
   | cons a as'=>
    rw [ha] at h
    simp only at h
    by_cases hv:a.kind=1
    ·rw [if_pos hv] at h
     obtain ⟨h1,h2,h3,h4⟩:=read_spec ls (i+1) _ t h
     have hall:(stepR s l a i).all=addB s.all a.name:=by unfold stepR; split <;> rfl
     have hl0:l.args[0]?=some a:=by rw [ha]; rfl
     refine ⟨fun m=>?_,fun x hx=>?_,fun c d=>?_,fun hn=>h4 ?_⟩
     ·rw [h1,hall,mem_addB7]
      constructor
      ·rintro ((h | rfl) | ⟨x,hx,h⟩)
       ·exact .inl h
       ·exact .inr ⟨l,by simp,hk,a,hl0,rfl⟩
       ·exact .inr ⟨x,by simp [hx],h⟩
      ·rintro (h | ⟨x,hx,hxk,y,hy,rfl⟩)
       ·exact .inl (.inl h)
       ·rcases List.mem_cons.1 hx with rfl | hx
        ·rw [hl0] at hy; injection hy with hy; subst hy; exact .inl (.inr rfl)
        ·exact .inr ⟨x,hx,hxk,y,hy,rfl⟩
     ·rcases List.mem_cons.1 hx with rfl | hx
      ·exact fun _=>⟨a,hl0,hv⟩
      ·exact h2 x hx
     ·rw [h3]
      have hs:(lookW (stepR s l a i).links c d).isSome=true↔(lookW s.links c d).isSome=true∨linkOf l c d:=by
       unfold stepR
       by_cases hk2:l.kind=2
       ·rw [if_pos hk2]
        constructor
        ·exact .inl
        ·rintro (h | ⟨h,_⟩)
         ·exact h
         ·omega
       ·rw [if_neg hk2]
        have hk1:l.kind=1:=by rcases hk with h | h; exact h; exact absurd h hk2
        simp only
        by_cases hll:linkL l=true
        ·rw [if_pos hll,lookW_some]
         constructor
         ·rintro (h | ⟨rfl,rfl⟩)
          ·exact .inl h
          ·exact .inr ⟨hk1,hll,⟨a,hl0,rfl⟩,rfl⟩
         ·rintro (h | ⟨_,_,⟨y,hy,rfl⟩,rfl⟩)
          ·exact .inl h
          ·rw [hl0] at hy; injection hy with hy; subst hy; exact .inr ⟨rfl,rfl⟩
        ·rw [if_neg hll]
         constructor
         ·exact .inl
         ·rintro (h | ⟨_,h,_⟩)
          ·exact h
          ·exact absurd h hll
      rw [hs]
      constructor
      ·rintro ((h | h) | ⟨x,hx,h⟩)
       ·exact .inl h
       ·exact .inr ⟨l,by simp,h⟩
       ·exact .inr ⟨x,by simp [hx],h⟩
      ·rintro (hq | ⟨x,hx,hq⟩)
       ·exact .inl (.inl hq)
       ·rcases List.mem_cons.1 hx with rfl | hx
        ·exact .inl (.inr hq)
        ·exact .inr ⟨x,hx,hq⟩
     ·rw [hall]; exact nodup_addB7 hn a.name
    ·rw [if_neg hv] at h; cases h
  ·rw [if_neg hk] at h
   obtain ⟨h1,h2,h3,h4⟩:=read_spec ls (i+1) s t h
   refine ⟨fun m=>?_,fun x hx=>?_,fun c d=>?_,h4⟩
   ·rw [h1]
    constructor
    ·rintro (h | ⟨x,hx,h⟩)
     ·exact .inl h
     ·exact .inr ⟨x,by simp [hx],h⟩
    ·rintro (h | ⟨x,hx,hxk,h⟩)
     ·exact .inl h
     ·rcases List.mem_cons.1 hx with rfl | hx
      ·exact absurd hxk hk
      ·exact .inr ⟨x,hx,hxk,h⟩
   ·rcases List.mem_cons.1 hx with rfl | hx
    ·exact fun h=>absurd h hk
    ·exact h2 x hx
   ·rw [h3]
    constructor
    ·rintro (h | ⟨x,hx,h⟩)
     ·exact .inl h
     ·exact .inr ⟨x,by simp [hx],h⟩
    ·rintro (hq | ⟨x,hx,hq⟩)
     ·exact .inl hq
     ·rcases List.mem_cons.1 hx with rfl | hx
      ·exact absurd (.inl hq.1) hk
      ·exact .inr ⟨x,hx,hq⟩
open Go.Mach
def link1 (a b:ByteArray) (l:GL):Bool:=decide (l.kind=1) && decide (l.name=sLink) && decide (1<l.args.length) && decide ((l.args[0]?).map GT.name=some a) && decide ((l.args[1]?).map GT.kind=some 1) && decide ((l.args[1]?).map GT.name=some b)
def linkedB (body:List GL) (a b:ByteArray):Bool:=body.any (link1 a b)
theorem link1_iff (a b:ByteArray) (l:GL):link1 a b l=true↔linkOf l a b:=by
 unfold link1 linkOf linkL arg1
 simp only [zqL,decide_eq_true_eq]
 constructor
 ·rintro ⟨⟨⟨⟨⟨h1,h2⟩,h3⟩,h4⟩,h5⟩,h6⟩
  refine ⟨h1,⟨h2,h5⟩,?_,by rw [h6]; rfl⟩
  obtain ⟨t,ht,e⟩:=zqG.1 h4
  exact ⟨t,ht,e⟩
 ·rintro ⟨h1,⟨h2,h5⟩,⟨t,ht,e⟩,h6⟩
  obtain ⟨y,hy,_⟩:=zqG.1 h5
  have h3:=(zqI.1 hy).1
  refine ⟨⟨⟨⟨⟨h1,h2⟩,h3⟩,by rw [ht,←e]; rfl⟩,h5⟩,?_⟩
  rw [hy] at h6 ⊢
  simp at h6 ⊢
  exact h6
theorem linked_iff (body:List GL) (a b:ByteArray):linkedB body a b=true↔∃ l∈body,linkOf l a b:=by
 unfold linkedB
 rw [List.any_eq_true]
 constructor
 ·rintro ⟨l,h1,h2⟩; exact ⟨l,h1,(link1_iff a b l).1 h2⟩
 ·rintro ⟨l,h1,h2⟩; exact ⟨l,h1,(link1_iff a b l).2 h2⟩
theorem var_ne {t:GT} (h:termR 8 t=true) (hk:t.kind=1):t.name≠nilB:=by
 intro e
 have:termR 8 t=termB t (t.args.all (termR 7)):=rfl
 rw [this] at h
 unfold termB at h
 rw [if_pos hk,e] at h
 simp only [zqL] at h
 exact absurd h.2 (by decide)
theorem lit_names {l:GL} (h:litB l=true) (hk:l.kind=1∨l.kind=2):(∃ t,l.args[0]?=some t)∧∀ t∈l.args,t.kind=1→t.name≠nilB:=by
 unfold litB at h
 rw [if_pos hk] at h
 simp only [zqL,argsB] at h
 obtain ⟨_,⟨h1,h2⟩,h3⟩:=h
 refine ⟨?_,fun t ht htk=>var_ne (zqQ.1 h2 t ht) htk⟩
 cases ha:l.args with
 | nil=>rw [ha] at h3; cases h3
 | cons a as'=>exact ⟨a,rfl⟩
theorem readP_spec {body:List GL} {s:RS} (h:readP body=some s):(∀ m,m∈s.all↔∃ l∈body,(l.kind=1∨l.kind=2)∧∃ x,l.args[0]?=some x∧x.name=m) ∧
  (∀ l∈body,l.kind=1∨l.kind=2→∃ x,l.args[0]?=some x∧x.kind=1)∧(∀ a b,(lookW s.links a b).isSome=true↔linkedB body a b=true)∧s.all.Nodup:=by
 unfold readP at h
 cases hg:readGo body 0 ⟨[],[],0⟩ with
 | none=>rw [hg] at h; cases h
 | some t=>
  rw [hg] at h
  simp only at h
  split at h
  ·injection h with h; subst h
   obtain ⟨h1,h2,h3,h4⟩:=read_spec body 0 _ _ hg
   refine ⟨fun m=>?_,h2,fun a b=>?_,h4 List.nodup_nil⟩
   ·rw [h1]; simp
   ·rw [h3,linked_iff]
    constructor
    ·rintro (h | h)
     ·cases h
     ·exact h
    ·exact .inr
  ·cases h
def atB (p:GPl) (l:GL):Bool:=decide (0<l.args.length) && decide ((l.args[0]?).map GT.kind=some 1) && (decide ((l.args[0]?).map GT.name=some p.from') || (decide (p.to≠nilB) && decide ((l.args[0]?).map GT.name=some p.to)))
structure PlaceOk (r:GR) (p:GPl):Prop where
 at':∀ l∈r.body,l.kind=1∨l.kind=2→atB p l=true
 ne:p.from'≠p.to
 head:headN r=p.head
 two:p.to≠nilB→linkedB r.body p.from' p.to=true∧(p.head=p.from'∨p.head=p.to)
 one:p.to=nilB→p.head≠p.from'→linkedB r.body p.from' p.head=true
 agg:r.agg≠nilB→p.to=nilB∧p.head=p.from'
open Go.Mach
theorem names_ne {r:GR} (hb:ruleB r=true) {s:RS} (hr:readP r.body=some s):∀ m∈s.all,m≠nilB:=fun m hm=>by
 obtain ⟨h1,h2,_,_⟩:=readP_spec hr
 unfold ruleB at hb
 simp only [zqL] at hb
 obtain ⟨l,hl,hk,x,hx,rfl⟩:=(h1 m).1 hm
 obtain ⟨y,hy,hyk⟩:=h2 l hl hk
 rw [hx] at hy; injection hy with hy; subst hy
 exact (lit_names (zqQ.1 hb.1.2 l hl) hk).2 x (zqR hx) hyk
open Go.Mach
abbrev kW (a b:ByteArray):AV:=.agg [.str a,.str b]
def encW (m:List ((ByteArray × ByteArray) × Int)):List (AV × AV):=m.map fun p=>(kW p.1.1 p.1.2,.int .i64 p.2)
def idxW (a b:ByteArray):List ((ByteArray × ByteArray) × Int)→Nat
 | []=>0
 | p :: m=>if a=p.1.1∧b=p.1.2 then 0 else idxW a b m+1
theorem mfind_w (a b:ByteArray):∀ (m:List ((ByteArray × ByteArray) × Int)) (i:Nat),mfind true [2,2] [.str a,.str b] i (encW m)=some ((lookW m a b).map fun v=>(i+idxW a b m,.int .i64 v))
 | [],i=>rfl
 | p :: m,i=>by
  have ih:=mfind_w a b m (i+1)
  simp only [encW,List.map_cons,mfind,keyC,if_true,Option.bind_some,eqcs_str,eqcs_nil,Option.map_some,Bool.and_true] at ih ⊢
  by_cases h:a=p.1.1∧b=p.1.2
  ·obtain ⟨h1,h2⟩:=h
   simp [lookW,List.find?_cons,idxW,h1,h2]
  ·have hl:lookW (p :: m) a b=lookW m a b:=by
    unfold lookW
    rw [List.find?_cons]
    have:decide (p.1.1=a∧p.1.2=b)=false:=decide_eq_false fun e=>h ⟨e.1.symm,e.2.symm⟩
    rw [this]
   have hd:(decide (a=p.1.1) && decide (b=p.1.2))=false:=by
    rw [←Bool.not_eq_true,zqL,decide_eq_true_eq,decide_eq_true_eq]; exact h
   rw [hd,hl]
   simp only [ih,idxW,if_neg h]
   congr 2
   funext v
   congr 1
   omega
theorem mlook_w {σ:Heap} {id:Nat} {m:List ((ByteArray × ByteArray) × Int)} (h:σ[id]?=some (.mp (encW m))) (a b:ByteArray):mlookA σ true [2,2] (.int .i64 0) true (.map id) (kW a b)=some (.tup [.int .i64 ((lookW m a b).getD 0),.bool (lookW m a b).isSome]):=by
 simp only [mlookA,keyC,if_true,Option.bind_some,eqcs_str,eqcs_nil,Option.map_some,Option.isSome_some,mapOf,h,mfind_w]
 cases lookW m a b <;> simp [lookV]
theorem mset_w {σ:Heap} {id:Nat} {m:List ((ByteArray × ByteArray) × Int)} (h:σ[id]?=some (.mp (encW m))) (a b:ByteArray) (i:Int) (hn:lookW m a b=none):msetA σ true [2,2] (.map id) (kW a b) (.int .i64 i)=some (σ.set id (.mp (encW (setW m a b i)))):=by
 have hcl:closeA σ (.int .i64 i)=some (.int .i64 i,σ):=by simp
 have hk:(kW a b).clo=true:=rfl
 simp only [msetA,keyC,if_true,Option.bind_some,eqcs_str,eqcs_nil,Option.map_some,Option.isSome_some,true_and,hk,hcl,h,mfind_w,hn,Option.map_none]
 have hs:setW m a b i=m++[((a,b),i)]:=by unfold setW; rw [hn]; rfl
 rw [hs]
 simp [encW,AV.clo,AV.clo1]
set_option maxRecDepth 100000
open Go.Mach
abbrev plA (j:Nat) (l:List ByteArray) (k:Nat) (n:Int):AV:=.agg [.own j (l.map .str),.map k,.int .i64 n]
theorem has7 {σ:Heap} {k:Nat} {m:List ((ByteArray × ByteArray) × Int)} (hk:σ[k]?=some (.mp (encW m))) (j:Nat) (l:List ByteArray) (n:Int) (a b:ByteArray) (bs:Nat) :
  callT T 49 [plA j l k n,.str a,.str b] bs σ=some (.bool (lookW m a b).isSome,σ):=by
 have hkl:k<σ.length:=(zqI.1 hk).1
 have hk2:∀ o,(σ++[o])[k]?=some (.mp (encW m)):=fun o=>by rw [zqA hkl]; exact hk
 refine heap_enter (args':=[plA j l k n,.str a,.str b]) (σ1:=σ) (af:=c49) rfl rfl (by simp [c49]) (by simp [c49]) rfl ?_
 simp [c49,baseA,setRun,mlook_w (hk2 _),res1,dropA_gc,refLt,refLt2_bool]
theorem one7 {σ:Heap} {k:Nat} {m:List ((ByteArray × ByteArray) × Int)} (hk:σ[k]?=some (.mp (encW m))) (j:Nat) (a head:ByteArray) (n:Int) (bs:Nat) :
  callT T 25 [plA j [a] k n,.str head] bs σ=some (.tup [.agg [.str a,.str nilB,.str head],.bool (decide (head=a) || (lookW m a head).isSome)],σ):=by
 have hkl:k<σ.length:=(zqI.1 hk).1
 have hk2:∀ o o',(σ++[o,o'])[k]?=some (.mp (encW m)):=fun o o'=>by rw [zqA hkl]; exact hk
 have hh:=fun o o'=>has7 (hk2 o o') j [a] n a head
 simp only [plA,List.map_cons,List.map_nil] at hh
 refine heap_enter (args':=[plA j [a] k n,.str head]) (σ1:=σ) (af:=c25) rfl rfl (by simp [c25]) (by simp [c25]) rfl ?_
 by_cases he:head=a
 ·simp [c25,baseA,setRun,he,res1,dropA_gc,refLt]
  exact ⟨rfl,refLt2_bool _ _⟩
 ·simp [c25,baseA,setRun,he,hh,res1,dropA_gc,refLt]
  exact ⟨rfl,refLt2_bool _ _⟩
theorem con7 (l:List ByteArray) (s:ByteArray) (hl:l.length≤100000000000) (j:Nat) (bs:Nat) (σ:Heap):callT T 48 [.own j (l.map .str),.str s] bs σ=some (.bool (memB s l),σ):=by
 have h:=conS_ok l s hl
 have:=call_pure (T:=T) (f:=48) (bs:=bs) (σ:=σ) (σ':=σ) (args:=[.own j (l.map .str),.str s]) rfl rfl rfl (by simp [closeT,closeA,close1,close0]) (by simp) h
 exact this
theorem two7 {σ:Heap} {k:Nat} {m:List ((ByteArray × ByteArray) × Int)} (hk:σ[k]?=some (.mp (encW m))) (j:Nat) (a b head:ByteArray) (n:Int) (bs:Nat) :
  callT T 26 [plA j [a,b] k n,.str head] bs σ=some (match lookW m a b,lookW m b a with
   | none,none=>.tup [.agg [.str nilB,.str nilB,.str nilB],.bool false]
   | some _,none=>.tup [.agg [.str a,.str b,.str head],.bool (memB head [a,b])]
   | none,some _=>.tup [.agg [.str b,.str a,.str head],.bool (memB head [a,b])]
   | some i,some q=>if q<i then .tup [.agg [.str b,.str a,.str head],.bool (memB head [a,b])] else .tup [.agg [.str a,.str b,.str head],.bool (memB head [a,b])],σ):=by
 have hkl:k<σ.length:=(zqI.1 hk).1
 have hk2:∀ l,(σ++l)[k]?=some (.mp (encW m)):=fun l=>by rw [zqA hkl]; exact hk
 have hc:=con7 [a,b] head (by simp) j
 simp only [List.map_cons,List.map_nil] at hc
 refine heap_enter (args':=[plA j [a,b] k n,.str head]) (σ1:=σ) (af:=c26) rfl rfl (by simp [c26]) (by simp [c26]) rfl ?_
 cases e1:lookW m a b with
 | none=>
  cases e2:lookW m b a with
  | none=>
   simp [c26,baseA,setRun,mlook_w (hk2 _),e1,e2,res1,dropA_gc,refLt]
   exact ⟨rfl,refLt2_bool _ _⟩
  | some q=>
   simp [c26,baseA,setRun,mlook_w (hk2 _),e1,e2,hc,res1,dropA_gc,refLt]
   exact ⟨rfl,refLt2_bool _ _⟩
 | some i=>
  cases e2:lookW m b a with
  | none=>
   simp [c26,baseA,setRun,mlook_w (hk2 _),e1,e2,hc,res1,dropA_gc,refLt]
   exact ⟨rfl,refLt2_bool _ _⟩
  | some q=>
   by_cases hq:q<i
   ·simp [c26,baseA,setRun,mlook_w (hk2 _),e1,e2,hc,hq,res1,dropA_gc,refLt]
    exact ⟨rfl,refLt2_bool _ _⟩
   ·simp [c26,baseA,setRun,mlook_w (hk2 _),e1,e2,hc,hq,res1,dropA_gc,refLt]
    exact ⟨rfl,refLt2_bool _ _⟩
theorem conLO {N:Nat} {σ:Heap} {l:List ByteArray} {x:AV} (h:LO N 1 false σ (l.map .str) x) (s:ByteArray) (hl:l.length≤100000000000) (bs:Nat) (τ:Heap):callT T 48 [x,.str s] bs τ=some (.bool (memB s l),τ):=by
 have h1:=h.closeA τ
 have:=call_pure (T:=T) (f:=48) (bs:=bs) (σ:=τ) (σ':=τ) (args:=[x,.str s]) (args':=[.isl (l.map .str) false,.str s]) rfl rfl rfl (by simp [closeT,h1,close1,close0]) (by simp) (conS_ok l s hl)
 exact this
def ReadQ (σ:Heap) (o:Option RS) (r:AV × Heap):Prop:=
 σ.length+2≤r.2.length∧(∀ m,m<σ.length→r.2[m]?=σ[m]?)∧(match o with
  | none=>∃ x n,r.1=.tup [.agg [x,.map (σ.length+1),.int .i64 n],.bool false]∧x.cells=[x]∧x.solid=true
  | some s=>∃ x,r.1=.tup [.agg [x,.map (σ.length+1),.int .i64 (s.atoms:Int)],.bool (decide (0<s.atoms))]∧LO (σ.length+2) 1 false r.2 (s.all.map .str) x∧r.2[σ.length+1]?=some (.mp (encW s.links)))
structure ReadI (σ:Heap) (body:List GL) (i:Nat) (f:FR) (τ:Heap):Prop where
 h2:f 2=.ptr σ.length 0
 h12:f 12=.isl (body.map GL.enc) false
 h13:f 13=.int .i64 (body.length:Int)
 h14:f 14=.int .i64 (i:Int)
 len:σ.length+2≤τ.length
 frame:∀ m,m<σ.length→τ[m]?=σ[m]?
 st:∃ s x,readGo body 0 ⟨[],[],0⟩=readGo (body.drop i) i s∧s.atoms≤i∧s.all.length≤i∧τ[σ.length]?=some (.cells [x,.map (σ.length+1),.int .i64 (s.atoms:Int)] 0 false)∧τ[σ.length+1]?=some (.mp (encW s.links))∧LO (σ.length+2) 1 false τ (s.all.map .str) x
theorem step2 {s:RS} {l:GL} {a:GT} {i:Nat} (h:l.kind=2):stepR s l a i=⟨addB s.all a.name,s.links,s.atoms⟩:=by unfold stepR; rw [if_pos h]
theorem step1n {s:RS} {l:GL} {a:GT} {i:Nat} (h:l.kind=1) (hl:linkL l=false):stepR s l a i=⟨addB s.all a.name,s.links,s.atoms+1⟩:=by unfold stepR; rw [if_neg (by omega),hl]; rfl
theorem step1l {s:RS} {l:GL} {a:GT} {i:Nat} (h:l.kind=1) (hl:linkL l=true):stepR s l a i=⟨addB s.all a.name,setW s.links a.name (arg1 l) i,s.atoms+1⟩:=by unfold stepR; rw [if_neg (by omega),hl]; rfl
set_option maxHeartbeats 4000000 in
theorem read7 (body:List GL) (ha:∀ l∈body,l.kind=1∨l.kind=2→l.args≠[]) (hb:body.length≤100000000) (bs:Nat) (σ:Heap) (hbs:bs≤σ.length) :
  ∃ r,callT T 24 [.isl (body.map GL.enc) false] bs σ=some r∧ReadQ σ (readGo body 0 ⟨[],[],0⟩) r:=by
 refine heap_enterE (args':=[.isl (body.map GL.enc) false]) (σ1:=σ) (af:=c24) rfl rfl (by simp [c24]) (by simp [c24]) (by simp [closeArgs,c24]) ?_
 have hbs1:bs≤σ.length+1:=by omega
 simp [c24,baseA,hbs,hbs1]
 refine W_for T bs 98 body.length (ReadI σ body) ?_ _ _ ?_
 ·rintro i f τ hi ⟨h2,h12,h13,h14,hN,hall,s,x,hgo,hat,hal,cp,cm,hO⟩
  rw [hgo]
  have i0:σ.length<τ.length:=by omega
  have i1:σ.length+1<τ.length:=by omega
  have ix:x.cells=[x]:=hO.cells
  have iy:x.solid=true:=hO.solid
  have mlW:∀ (τ':Heap) (h:τ'[σ.length+1]?=some (.mp (encW s.links))) (a b:ByteArray),mlookA τ' true [2,2] (.int .i64 0) true (.map (σ.length+1)) (kW a b)=some (.tup [.int .i64 ((lookW s.links a b).getD 0),.bool (lookW s.links a b).isSome]):=fun τ' h a b=>mlook_w h a b
  have msW:∀ (τ':Heap) (h:τ'[σ.length+1]?=some (.mp (encW s.links))) (a b:ByteArray) (hn:lookW s.links a b=none),msetA τ' true [2,2] (.map (σ.length+1)) (kW a b) (.int .i64 i)=some (τ'.set (σ.length+1) (.mp (encW (setW s.links a b i)))):=fun τ' h a b hn=>mset_w h a b i hn
  by_cases hlt:i<body.length
  ·have hw:IntKind.i64.wrap ((i:Int)+1)=(i:Int)+1:=wr64 (by omega) (by omega)
   have e1:body[i]?=some body[i]:=zqF hlt
   rw [zqM hlt] at hgo ⊢
   simp only [readGo] at hgo ⊢
   have hbody:=zqT hlt
   have ha':=ha _ hbody
   generalize hl:body[i]=l at *
   by_cases hk:l.kind=1∨l.kind=2
   ·simp only [if_pos hk] at hgo ⊢
    cases hargs:l.args with
    | nil=>exact absurd hargs (ha' hk)
    | cons a rest=>
     simp only [hargs] at hgo ⊢
     have hal1:(addB s.all a.name).length≤i+1:=by
      unfold addB
      split
      ·omega
      ·simp; omega
     have hcon:=fun bs τ'=>conLO hO a.name (by omega) bs τ'
     have e0:GT.encs (a :: rest)=a.enc :: GT.encs rest:=rfl
     by_cases hav:a.kind=1
     ·simp only [if_pos hav] at hgo ⊢
      have hwa:IntKind.i64.wrap ((s.atoms:Int)+1)=(s.atoms:Int)+1:=wr64 (by omega) (by omega)
      rcases hk with hk | hk
      ·by_cases hm:memB a.name s.all=true
       ·have hadd:addB s.all a.name=s.all:=by unfold addB; rw [if_pos hm]
        rw [hadd] at hal1
        by_cases hln:l.name=sLink
        ·cases hrest:rest with
         | nil=>
          have hll:linkL l=false:=by unfold linkL; rw [hargs,hrest]; simp
          rw [step1n hk hll,hadd] at hgo ⊢
          simp [h2,h12,h13,h14,hlt,hw,setRun,e1,hk,hav,e0,hcon,cp,cm,i0,i1,hbs,hbs1,hargs,hwa,ix,iy,hm,hln,hrest,-appendA_s,-getElem?_pos,zqA,zqB,zqC,list_set_at,zqE,zqD]
          refine ⟨by simp [h2],by simp [h12],by simp [h13],by simp,by simp; omega,fun m hm=>?_,_,x,hgo,by simp only; omega,hal1,?_,?_,?_⟩
          ·simp [-getElem?_pos,zqA,zqB,zqC,list_set_at,zqE,zqD,(show m<τ.length by omega),(show σ.length≠m by omega),(show σ.length+1≠m by omega)]
           exact hall m hm
          ·simp [-getElem?_pos,zqA,zqB,zqC,list_set_at,zqE,zqD,i0,i1,cp,cm]
          ·simp [-getElem?_pos,zqA,zqB,zqC,list_set_at,zqE,zqD,i0,i1,cp,cm]
          ·refine hO.keep fun m o hm ho=>?_
           have hml:=(zqI.1 ho).1
           simp [-getElem?_pos,zqA,zqB,zqC,list_set_at,zqE,zqD,hml,(show σ.length≠m by omega),(show σ.length+1≠m by omega)]
           exact ho
         | cons b rest'=>
          have e3:GT.encs (b :: rest')=b.enc :: GT.encs rest':=rfl
          have hl2:(1:Int)<(rest'.length:Int)+1+1:=by omega
          by_cases hbk:b.kind=1
          ·have hll:linkL l=true:=by unfold linkL; rw [hargs,hrest,hln]; simp [hbk]
           have har:arg1 l=b.name:=by unfold arg1; rw [hargs,hrest]; rfl
           rw [step1l hk hll,har,hadd] at hgo ⊢
           cases hlook:lookW s.links a.name b.name with
           | some v=>
            have hset:setW s.links a.name b.name i=s.links:=by unfold setW; rw [hlook]; rfl
            rw [hset] at hgo ⊢
            simp [h2,h12,h13,h14,hlt,hw,setRun,e1,hk,hav,e0,hcon,cp,cm,i0,i1,hbs,hbs1,hargs,hwa,ix,iy,hm,hln,hrest,hbk,e3,hl2,hlook,mlW,-appendA_s,-getElem?_pos,zqA,zqB,zqC,list_set_at,zqE,zqD]
            refine ⟨by simp [h2],by simp [h12],by simp [h13],by simp,by simp; omega,fun m hm=>?_,_,x,hgo,by simp only; omega,hal1,?_,?_,?_⟩
            ·simp [-getElem?_pos,zqA,zqB,zqC,list_set_at,zqE,zqD,(show m<τ.length by omega),(show σ.length≠m by omega),(show σ.length+1≠m by omega)]
             exact hall m hm
            ·simp [-getElem?_pos,zqA,zqB,zqC,list_set_at,zqE,zqD,i0,i1,cp,cm]
            ·simp [-getElem?_pos,zqA,zqB,zqC,list_set_at,zqE,zqD,i0,i1,cp,cm]
            ·refine hO.keep fun m o hm ho=>?_
             have hml:=(zqI.1 ho).1
             simp [-getElem?_pos,zqA,zqB,zqC,list_set_at,zqE,zqD,hml,(show σ.length≠m by omega),(show σ.length+1≠m by omega)]
             exact ho
           | none=>
            simp [h2,h12,h13,h14,hlt,hw,setRun,e1,hk,hav,e0,hcon,cp,cm,i0,i1,hbs,hbs1,hargs,hwa,ix,iy,hm,hln,hrest,hbk,e3,hl2,hlook,mlW,msW,-appendA_s,-getElem?_pos,zqA,zqB,zqC,list_set_at,zqE,zqD]
            refine ⟨by simp [h2],by simp [h12],by simp [h13],by simp,by simp; omega,fun m hm=>?_,_,x,hgo,by simp only; omega,hal1,?_,?_,?_⟩
            ·simp [-getElem?_pos,zqA,zqB,zqC,list_set_at,zqE,zqD,(show m<τ.length by omega),(show σ.length≠m by omega),(show σ.length+1≠m by omega)]
             exact hall m hm
            ·simp [-getElem?_pos,zqA,zqB,zqC,list_set_at,zqE,zqD,i0,i1,cp,cm]
            ·simp [-getElem?_pos,zqA,zqB,zqC,list_set_at,zqE,zqD,i0,i1,cp,cm]
            ·refine hO.keep fun m o hm ho=>?_
             have hml:=(zqI.1 ho).1
             simp [-getElem?_pos,zqA,zqB,zqC,list_set_at,zqE,zqD,hml,(show σ.length≠m by omega),(show σ.length+1≠m by omega)]
             exact ho
          ·have hll:linkL l=false:=by unfold linkL; rw [hargs,hrest]; simp [hbk]
           rw [step1n hk hll,hadd] at hgo ⊢
           simp [h2,h12,h13,h14,hlt,hw,setRun,e1,hk,hav,e0,hcon,cp,cm,i0,i1,hbs,hbs1,hargs,hwa,ix,iy,hm,hln,hrest,hbk,e3,hl2,-appendA_s,-getElem?_pos,zqA,zqB,zqC,list_set_at,zqE,zqD]
           refine ⟨by simp [h2],by simp [h12],by simp [h13],by simp,by simp; omega,fun m hm=>?_,_,x,hgo,by simp only; omega,hal1,?_,?_,?_⟩
           ·simp [-getElem?_pos,zqA,zqB,zqC,list_set_at,zqE,zqD,(show m<τ.length by omega),(show σ.length≠m by omega),(show σ.length+1≠m by omega)]
            exact hall m hm
           ·simp [-getElem?_pos,zqA,zqB,zqC,list_set_at,zqE,zqD,i0,i1,cp,cm]
           ·simp [-getElem?_pos,zqA,zqB,zqC,list_set_at,zqE,zqD,i0,i1,cp,cm]
           ·refine hO.keep fun m o hm ho=>?_
            have hml:=(zqI.1 ho).1
            simp [-getElem?_pos,zqA,zqB,zqC,list_set_at,zqE,zqD,hml,(show σ.length≠m by omega),(show σ.length+1≠m by omega)]
            exact ho
        ·have hll:linkL l=false:=by unfold linkL; rw [decide_eq_false hln]; rfl
         rw [step1n hk hll,hadd] at hgo ⊢
         simp [h2,h12,h13,h14,hlt,hw,setRun,e1,hk,hav,e0,hcon,cp,cm,i0,i1,hbs,hbs1,hargs,hwa,ix,iy,hm,hln,-appendA_s,-getElem?_pos,zqA,zqB,zqC,list_set_at,zqE,zqD]
         refine ⟨by simp [h2],by simp [h12],by simp [h13],by simp,by simp; omega,fun m hm=>?_,_,x,hgo,by simp only; omega,hal1,?_,?_,?_⟩
         ·simp [-getElem?_pos,zqA,zqB,zqC,list_set_at,zqE,zqD,(show m<τ.length by omega),(show σ.length≠m by omega),(show σ.length+1≠m by omega)]
          exact hall m hm
         ·simp [-getElem?_pos,zqA,zqB,zqC,list_set_at,zqE,zqD,i0,i1,cp,cm]
         ·simp [-getElem?_pos,zqA,zqB,zqC,list_set_at,zqE,zqD,i0,i1,cp,cm]
         ·refine hO.keep fun m o hm ho=>?_
          have hml:=(zqI.1 ho).1
          simp [-getElem?_pos,zqA,zqB,zqC,list_set_at,zqE,zqD,hml,(show σ.length≠m by omega),(show σ.length+1≠m by omega)]
          exact ho
       ·have hm':memB a.name s.all=false:=by simpa using hm
        have hadd:addB s.all a.name=s.all++[a.name]:=by unfold addB; rw [if_neg hm]
        simp [h2,h12,h13,h14,hlt,hw,setRun,e1,hk,hav,e0,hcon,cp,cm,i0,i1,hbs,hbs1,hargs,hwa,ix,iy,hm',-appendA_s,-getElem?_pos,zqA,zqB,zqC,list_set_at,zqE,zqD]
        refine stW_s3 (N:=σ.length+2) hO rfl rfl rfl (by omega) hN (by simp; omega) fun x1 τ1 hO1 l1 q3 q4=>?_
        have np1:σ.length≠τ.length:=by omega
        have np2:σ.length≠τ.length+1:=by omega
        have np3:σ.length+1≠τ.length:=by omega
        have np4:σ.length+1≠τ.length+1:=by omega
        have j0:σ.length<τ1.length:=by omega
        have j1:σ.length+1<τ1.length:=by omega
        have ix1:x1.cells=[x1]:=hO1.cells
        have iy1:x1.solid=true:=hO1.solid
        have dp:τ1[σ.length]?=_:=(q3 _ (by omega)).trans cp
        have dm:τ1[σ.length+1]?=_:=(q3 _ (by omega)).trans cm
        have dl:τ1[τ.length]?=some (.cells [.int .i64 1,.str l.name,.isl (a.enc :: GT.encs rest) false] 0 false):=q4 τ.length _ (by simp) (fun _ _ e=>by cases e)
        have da:τ1[τ.length+1]?=some (.cells [.int .i64 1,.str a.name,.int .i64 a.value.kind,.int .i64 a.value.num,.str a.value.text,.isl (GV.encs a.value.items) false,.isl (GT.encs a.args) false] 0 false):=q4 (τ.length+1) _ (by simp) (fun _ _ e=>by cases e)
        rw [show s.all.map AV.str++[.str a.name]=(addB s.all a.name).map .str by rw [hadd,List.map_append]; rfl] at hO1
        by_cases hln:l.name=sLink
        ·cases hrest:rest with
         | nil=>
          have hll:linkL l=false:=by unfold linkL; rw [hargs,hrest]; simp
          rw [step1n hk hll] at hgo ⊢
          simp [h2,h12,h13,h14,hlt,hw,setRun,e1,hk,hav,e0,dp,dm,dl,da,j0,j1,np1,np2,np3,np4,hbs,hbs1,hargs,hwa,ix1,iy1,hm',hln,hrest,-appendA_s,-getElem?_pos,zqA,zqB,zqC,list_set_at,zqE,zqD]
          refine ⟨by simp [h2],by simp [h12],by simp [h13],by simp,by simp; omega,fun m hm=>?_,_,x1,hgo,by simp only; omega,hal1,?_,?_,?_⟩
          ·simp [-getElem?_pos,zqA,zqB,zqC,list_set_at,zqE,zqD,(show m<τ1.length by omega),(show σ.length≠m by omega),(show σ.length+1≠m by omega)]
           exact (q3 m (by omega)).trans (hall m hm)
          ·simp [-getElem?_pos,zqA,zqB,zqC,list_set_at,zqE,zqD,j0,j1,dp,dm]
          ·simp [-getElem?_pos,zqA,zqB,zqC,list_set_at,zqE,zqD,j0,j1,dp,dm]
          ·refine hO1.keep fun m o hm ho=>?_
           have hml:=(zqI.1 ho).1
           simp [-getElem?_pos,zqA,zqB,zqC,list_set_at,zqE,zqD,hml,(show σ.length≠m by omega),(show σ.length+1≠m by omega)]
           exact ho
         | cons b rest'=>
          have e3:GT.encs (b :: rest')=b.enc :: GT.encs rest':=rfl
          have hl2:(1:Int)<(rest'.length:Int)+1+1:=by omega
          by_cases hbk:b.kind=1
          ·have hll:linkL l=true:=by unfold linkL; rw [hargs,hrest,hln]; simp [hbk]
           have har:arg1 l=b.name:=by unfold arg1; rw [hargs,hrest]; rfl
           rw [step1l hk hll,har] at hgo ⊢
           cases hlook:lookW s.links a.name b.name with
           | some v=>
            have hset:setW s.links a.name b.name i=s.links:=by unfold setW; rw [hlook]; rfl
            rw [hset] at hgo ⊢
            simp [h2,h12,h13,h14,hlt,hw,setRun,e1,hk,hav,e0,dp,dm,dl,da,j0,j1,np1,np2,np3,np4,hbs,hbs1,hargs,hwa,ix1,iy1,hm',hln,hrest,hbk,e3,hl2,hlook,mlW,-appendA_s,-getElem?_pos,zqA,zqB,zqC,list_set_at,zqE,zqD]
            refine ⟨by simp [h2],by simp [h12],by simp [h13],by simp,by simp; omega,fun m hm=>?_,_,x1,hgo,by simp only; omega,hal1,?_,?_,?_⟩
            ·simp [-getElem?_pos,zqA,zqB,zqC,list_set_at,zqE,zqD,(show m<τ1.length by omega),(show σ.length≠m by omega),(show σ.length+1≠m by omega)]
             exact (q3 m (by omega)).trans (hall m hm)
            ·simp [-getElem?_pos,zqA,zqB,zqC,list_set_at,zqE,zqD,j0,j1,dp,dm]
            ·simp [-getElem?_pos,zqA,zqB,zqC,list_set_at,zqE,zqD,j0,j1,dp,dm]
            ·refine hO1.keep fun m o hm ho=>?_
             have hml:=(zqI.1 ho).1
             simp [-getElem?_pos,zqA,zqB,zqC,list_set_at,zqE,zqD,hml,(show σ.length≠m by omega),(show σ.length+1≠m by omega)]
             exact ho
           | none=>
            simp [h2,h12,h13,h14,hlt,hw,setRun,e1,hk,hav,e0,dp,dm,dl,da,j0,j1,np1,np2,np3,np4,hbs,hbs1,hargs,hwa,ix1,iy1,hm',hln,hrest,hbk,e3,hl2,hlook,mlW,msW,-appendA_s,-getElem?_pos,zqA,zqB,zqC,list_set_at,zqE,zqD]
            refine ⟨by simp [h2],by simp [h12],by simp [h13],by simp,by simp; omega,fun m hm=>?_,_,x1,hgo,by simp only; omega,hal1,?_,?_,?_⟩
            ·simp [-getElem?_pos,zqA,zqB,zqC,list_set_at,zqE,zqD,(show m<τ1.length by omega),(show σ.length≠m by omega),(show σ.length+1≠m by omega)]
             exact (q3 m (by omega)).trans (hall m hm)
            ·simp [-getElem?_pos,zqA,zqB,zqC,list_set_at,zqE,zqD,j0,j1,dp,dm]
            ·simp [-getElem?_pos,zqA,zqB,zqC,list_set_at,zqE,zqD,j0,j1,dp,dm]
            ·refine hO1.keep fun m o hm ho=>?_
             have hml:=(zqI.1 ho).1
             simp [-getElem?_pos,zqA,zqB,zqC,list_set_at,zqE,zqD,hml,(show σ.length≠m by omega),(show σ.length+1≠m by omega)]
             exact ho
          ·have hll:linkL l=false:=by unfold linkL; rw [hargs,hrest]; simp [hbk]
           rw [step1n hk hll] at hgo ⊢
           simp [h2,h12,h13,h14,hlt,hw,setRun,e1,hk,hav,e0,dp,dm,dl,da,j0,j1,np1,np2,np3,np4,hbs,hbs1,hargs,hwa,ix1,iy1,hm',hln,hrest,hbk,e3,hl2,-appendA_s,-getElem?_pos,zqA,zqB,zqC,list_set_at,zqE,zqD]
           refine ⟨by simp [h2],by simp [h12],by simp [h13],by simp,by simp; omega,fun m hm=>?_,_,x1,hgo,by simp only; omega,hal1,?_,?_,?_⟩
           ·simp [-getElem?_pos,zqA,zqB,zqC,list_set_at,zqE,zqD,(show m<τ1.length by omega),(show σ.length≠m by omega),(show σ.length+1≠m by omega)]
            exact (q3 m (by omega)).trans (hall m hm)
           ·simp [-getElem?_pos,zqA,zqB,zqC,list_set_at,zqE,zqD,j0,j1,dp,dm]
           ·simp [-getElem?_pos,zqA,zqB,zqC,list_set_at,zqE,zqD,j0,j1,dp,dm]
           ·refine hO1.keep fun m o hm ho=>?_
            have hml:=(zqI.1 ho).1
            simp [-getElem?_pos,zqA,zqB,zqC,list_set_at,zqE,zqD,hml,(show σ.length≠m by omega),(show σ.length+1≠m by omega)]
            exact ho
        ·have hll:linkL l=false:=by unfold linkL; rw [decide_eq_false hln]; rfl
         rw [step1n hk hll] at hgo ⊢
         simp [h2,h12,h13,h14,hlt,hw,setRun,e1,hk,hav,e0,dp,dm,dl,da,j0,j1,np1,np2,np3,np4,hbs,hbs1,hargs,hwa,ix1,iy1,hm',hln,-appendA_s,-getElem?_pos,zqA,zqB,zqC,list_set_at,zqE,zqD]
         refine ⟨by simp [h2],by simp [h12],by simp [h13],by simp,by simp; omega,fun m hm=>?_,_,x1,hgo,by simp only; omega,hal1,?_,?_,?_⟩
         ·simp [-getElem?_pos,zqA,zqB,zqC,list_set_at,zqE,zqD,(show m<τ1.length by omega),(show σ.length≠m by omega),(show σ.length+1≠m by omega)]
          exact (q3 m (by omega)).trans (hall m hm)
         ·simp [-getElem?_pos,zqA,zqB,zqC,list_set_at,zqE,zqD,j0,j1,dp,dm]
         ·simp [-getElem?_pos,zqA,zqB,zqC,list_set_at,zqE,zqD,j0,j1,dp,dm]
         ·refine hO1.keep fun m o hm ho=>?_
          have hml:=(zqI.1 ho).1
          simp [-getElem?_pos,zqA,zqB,zqC,list_set_at,zqE,zqD,hml,(show σ.length≠m by omega),(show σ.length+1≠m by omega)]
          exact ho
      ·by_cases hm:memB a.name s.all=true
       ·have hadd:addB s.all a.name=s.all:=by unfold addB; rw [if_pos hm]
        rw [hadd] at hal1
        rw [step2 hk,hadd] at hgo ⊢
        simp [h2,h12,h13,h14,hlt,hw,setRun,e1,hk,hav,e0,hcon,cp,cm,i0,i1,hbs,hbs1,hargs,hwa,ix,iy,hm,-appendA_s,-getElem?_pos,zqA,zqB,zqC,list_set_at,zqE,zqD]
        refine ⟨by simp [h2],by simp [h12],by simp [h13],by simp,by simp; omega,fun m hm=>?_,_,x,hgo,by simp only; omega,hal1,?_,?_,?_⟩
        ·simp [-getElem?_pos,zqA,zqB,zqC,list_set_at,zqE,zqD,(show m<τ.length by omega),(show σ.length≠m by omega),(show σ.length+1≠m by omega)]
         exact hall m hm
        ·simp [-getElem?_pos,zqA,zqB,zqC,list_set_at,zqE,zqD,i0,i1,cp,cm]
        ·simp [-getElem?_pos,zqA,zqB,zqC,list_set_at,zqE,zqD,i0,i1,cp,cm]
        ·refine hO.keep fun m o hm ho=>?_
         have hml:=(zqI.1 ho).1
         simp [-getElem?_pos,zqA,zqB,zqC,list_set_at,zqE,zqD,hml,(show σ.length≠m by omega),(show σ.length+1≠m by omega)]
         exact ho
       ·have hm':memB a.name s.all=false:=by simpa using hm
        have hadd:addB s.all a.name=s.all++[a.name]:=by unfold addB; rw [if_neg hm]
        simp [h2,h12,h13,h14,hlt,hw,setRun,e1,hk,hav,e0,hcon,cp,cm,i0,i1,hbs,hbs1,hargs,hwa,ix,iy,hm',-appendA_s,-getElem?_pos,zqA,zqB,zqC,list_set_at,zqE,zqD]
        refine stW_s3 (N:=σ.length+2) hO rfl rfl rfl (by omega) hN (by simp; omega) fun x1 τ1 hO1 l1 q3 q4=>?_
        have np1:σ.length≠τ.length:=by omega
        have np2:σ.length≠τ.length+1:=by omega
        have np3:σ.length+1≠τ.length:=by omega
        have np4:σ.length+1≠τ.length+1:=by omega
        have j0:σ.length<τ1.length:=by omega
        have j1:σ.length+1<τ1.length:=by omega
        have ix1:x1.cells=[x1]:=hO1.cells
        have iy1:x1.solid=true:=hO1.solid
        have dp:τ1[σ.length]?=_:=(q3 _ (by omega)).trans cp
        have dm:τ1[σ.length+1]?=_:=(q3 _ (by omega)).trans cm
        have dl:τ1[τ.length]?=some (.cells [.int .i64 2,.str l.name,.isl (a.enc :: GT.encs rest) false] 0 false):=q4 τ.length _ (by simp) (fun _ _ e=>by cases e)
        have da:τ1[τ.length+1]?=some (.cells [.int .i64 1,.str a.name,.int .i64 a.value.kind,.int .i64 a.value.num,.str a.value.text,.isl (GV.encs a.value.items) false,.isl (GT.encs a.args) false] 0 false):=q4 (τ.length+1) _ (by simp) (fun _ _ e=>by cases e)
        rw [show s.all.map AV.str++[.str a.name]=(addB s.all a.name).map .str by rw [hadd,List.map_append]; rfl] at hO1
        rw [step2 hk] at hgo ⊢
        simp [h2,h12,h13,h14,hlt,hw,setRun,hk,dp,dm,dl,da,j0,j1,np1,np2,np3,np4,hbs,hbs1,ix1,iy1,-appendA_s,-getElem?_pos,zqA,zqB,zqC,list_set_at,zqE,zqD]
        refine ⟨by simp [h2],by simp [h12],by simp [h13],by simp,by simp; omega,fun m hm=>?_,_,x1,hgo,by simp only; omega,hal1,?_,?_,?_⟩
        ·simp [-getElem?_pos,zqA,zqB,zqC,list_set_at,zqE,zqD,(show m<τ1.length by omega),(show σ.length≠m by omega),(show σ.length+1≠m by omega)]
         exact (q3 m (by omega)).trans (hall m hm)
        ·simp [-getElem?_pos,zqA,zqB,zqC,list_set_at,zqE,zqD,j0,j1,dp,dm]
        ·simp [-getElem?_pos,zqA,zqB,zqC,list_set_at,zqE,zqD,j0,j1,dp,dm]
        ·refine hO1.keep fun m o hm ho=>?_
         have hml:=(zqI.1 ho).1
         simp [-getElem?_pos,zqA,zqB,zqC,list_set_at,zqE,zqD,hml,(show σ.length≠m by omega),(show σ.length+1≠m by omega)]
         exact ho
     ·simp only [if_neg hav] at hgo ⊢
      rcases hk with hk | hk <;> simp [h2,h12,h13,h14,hlt,hw,setRun,e1,hk,hav,e0,hargs,cp,cm,i0,i1,hbs,hbs1,ix,iy,-getElem?_pos,zqA,zqB,zqC,list_set_at,zqE,zqD]
      all_goals
       refine ⟨by simp; omega,fun m hm=>?_,x,_,rfl,ix,iy⟩
       have hm1:m<τ.length:=by omega
       simp [-getElem?_pos,zqA,zqB,zqC,list_set_at,zqE,zqD,hm1,(show σ.length≠m by omega)]
       exact hall m hm
   ·simp only [if_neg hk] at hgo ⊢
    have k1:¬ l.kind=1:=fun e=>hk (.inl e)
    have k2:¬ l.kind=2:=fun e=>hk (.inr e)
    simp [h2,h12,h13,h14,hlt,hw,k1,k2,setRun,e1,i0,i1,-getElem?_pos,zqA,zqB,zqC,list_set_at,zqE,zqD]
    refine ⟨by simp [h2],by simp [h12],by simp [h13],by simp,by simp; omega,fun m hm=>?_,s,x,hgo,by omega,by omega,?_,?_,?_⟩
    ·rw [zqA (by omega)]; exact hall m hm
    ·rw [zqA (by omega)]; exact cp
    ·rw [zqA (by omega)]; exact cm
    ·exact hO.keep fun m o _ ho=>by rw [zqA (zqI.1 ho).1]; exact ho
  ·have he:i=body.length:=by omega
   subst he
   rw [List.drop_length]
   simp [h2,h12,h13,h14,cp,i0,hbs,ix,iy,setRun,readGo,-getElem?_pos,zqA,zqB,zqC,list_set_at,zqE,zqD]
   have hfr:∀ o m,m<σ.length→(τ.set σ.length o)[m]?=σ[m]?:=fun o m hm=>by rw [zqC (by omega)]; exact hall m hm
   have hOk:∀ o,LO (σ.length+2) 1 false (τ.set σ.length o) (s.all.map .str) x:=fun o=>hO.keep fun m q hm ho=>by rw [zqC (by omega)]; exact ho
   have hmk:∀ o,(τ.set σ.length o)[σ.length+1]?=some (.mp (encW s.links)):=fun o=>by rw [zqC (by omega)]; exact cm
   refine ⟨fun h0=>⟨by simp; omega,hfr _,x,by simp [h0],hOk _,hmk _⟩,fun h0=>⟨by simp; omega,hfr _,x,by simp [h0],hOk _,hmk _⟩⟩
 ·refine ⟨by simp,by simp,by simp,by simp,by simp,fun m hm=>?_,⟨[],[],0⟩,.isl [] true,rfl,Nat.le_refl _,Nat.le_refl _,?_,?_,.inl ⟨rfl,rfl⟩⟩
  ·rw [zqA hm]
  ·simp
  ·simp [encW]
end Go.Proofs.YtjfgjnlocadpbaaGreatDoor
end
