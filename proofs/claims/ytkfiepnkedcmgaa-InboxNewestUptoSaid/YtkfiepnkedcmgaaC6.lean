import Derived.Test.YtkfiepnkedcmgaaC5
set_option linter.unusedVariables false
set_option linter.unusedSimpArgs false
set_option linter.unnecessarySimpa false
section
namespace Go.Mach
theorem LX.closeR {N sz:Nat} {σ:Heap} {es:List AV} {x:AV} (h:LX N sz σ es x):∃ σ',Go.Mach.closeR σ x=some (.isl es false,σ'):=by
 obtain ⟨σ',h1,-⟩:=h.close
 have h2:=close1_of0 h1
 rcases h with ⟨rfl,rfl⟩ | ⟨k,cs,fz,rfl,_⟩ | ⟨k,rfl,_⟩ <;> exact ⟨σ',h2⟩
end Go.Mach
namespace Go.Proofs.Ytkfiepnkedcmgaa
open Go.Mach
theorem pick15_ok (c n:Int) (h:n≠0):pureT T c36 [.int .i64 c,.int .i64 n]=some (.int .i64 ((if c<0 then IntKind.i64.wrap (0 - IntKind.i64.wrap (c+1)) else c).tmod n)):=by
 apply pure_enter (by simp [c36])
 by_cases hc:c<0
 ·simp [c36,hc,h]
 ·simp [c36,hc,h]
theorem pick15 (c:Int) (n:Nat) (h:0<n) (h1:GV.i64ok c) (bs:Nat) (σ:Heap) :
  callT T 36 [.int .i64 c,.int .i64 (n:Int)] bs σ=some (.int .i64 (pickN c n:Int),σ):=by
 refine call_clean rfl rfl rfl rfl ?_
 rw [pick15_ok c n (by omega),pick_eq c n h h1.1 h1.2]
theorem pick10_ok (c n:Int) (h:n≠0):pureT T c60 [.int .i64 c,.int .i64 n]=some (.int .i64 ((if c<0 then IntKind.i64.wrap (0 - IntKind.i64.wrap (c+1)) else c).tmod n)):=by
 apply pure_enter (by simp [c60])
 by_cases hc:c<0
 ·simp [c60,hc,h]
 ·simp [c60,hc,h]
theorem pick10 (c:Int) (n:Nat) (h:0<n) (h1:GV.i64ok c) (bs:Nat) (σ:Heap) :
  callT T 60 [.int .i64 c,.int .i64 (n:Int)] bs σ=some (.int .i64 (pickN c n:Int),σ):=by
 refine call_clean rfl rfl rfl rfl ?_
 rw [pick10_ok c n (by omega),pick_eq c n h h1.1 h1.2]
theorem pick10_9 (c:Int) (h1:GV.i64ok c) (bs:Nat) (σ:Heap):callT T 60 [.int .i64 c,.int .i64 9] bs σ=some (.int .i64 (pickN c 9:Int),σ):=pick10 c 9 (by omega) h1 bs σ
def rowX (x:GRaw):GW:=⟨(factR x).name,(factR x).args,(pickN x.n3 9:Int)⟩
def rowsX (l:List GRaw):List GW:=(l.take 40).map rowX
theorem rows10_ok (facts:List GRaw) (hx:FactsOk facts):pureT T c37 [.isl (facts.map GRaw.enc) false]=some (.isl ((rowsX facts).map GW.enc) false):=by
 obtain ⟨hok,hlen⟩:=hx
 have hrl:(rowsX facts).length=min 40 facts.length:=by simp [rowsX]
 apply pure_enter (by simp [c37])
 simp [c37]
 refine W_for T 0 37 (min 40 facts.length) (fun i f τ=>f 0=.isl (facts.map GRaw.enc) false∧f 4=.int .i64 (i:Int)∧∃ l,f 3=l∧LX 0 3 τ (((rowsX facts).take i).map GW.enc) l) ?_ _ _ ?_
 ·rintro i f τ hi ⟨f0,f4,l,f3,Li⟩
  by_cases hlt:i<min 40 facts.length
  ·have hl1:i<facts.length:=by omega
   have hl2:(i:Int)<40:=by omega
   have w1:IntKind.i64.wrap ((i:Int)+1)=(i:Int)+1:=wr64 (by omega) (by omega)
   have hk:=hok _ (zqT hl1)
   have hc:=callFact6 facts[i] hk
   rw [GRaw.enc_eq] at hc
   have hp:=pick10_9 facts[i].n3 hk.2.2.2.2.2
   have hrx:(rowsX facts)[i]?=some (rowX facts[i]):=by simp [rowsX,hl1,show i<40 by omega]
   simp [f0,f3,f4,hl1,hl2,w1,hc,GU.enc_eq,setRun,hp,chkO_l,objOf,GRaw.enc_eq,-appendA_ag]
   refine stW_app2 (N:=0) Li rfl rfl (by omega) (by omega) (by omega) (by simp; omega) fun x' σ' hL' hlen' hk'=>?_
   have e:((rowsX facts).take i).map GW.enc++[AV.agg (List.map AV.nrm [.str (factR facts[i]).name,.isl (GV.encs (factR facts[i]).args) false,.int .i64 (pickN facts[i].n3 9:Int)])]=((rowsX facts).take (i+1)).map GW.enc:=by
    rw [List.take_add_one,hrx]; simp [GW.enc,GW.cls,rowX]
   rw [e] at hL'
   simp [f0,f4,w1,hlt]
   rw [List.map_take] at hL'
   exact hL'
  ·have he:i=min 40 facts.length:=by omega
   have hrt:(rowsX facts).take i=rowsX facts:=List.take_of_length_le (by omega)
   rw [hrt] at Li
   obtain ⟨τ6,hcl⟩:=Li.closeR
   by_cases h1:i<facts.length
   ·have h2:¬ (i:Int)<40:=by omega
    simp [f0,f3,f4,h1,h2,hcl]
   ·simp [f0,f3,f4,h1,hcl]
 ·exact ⟨by simp,by simp,.isl [] true,by simp,.inl ⟨by simp,rfl⟩⟩
end Go.Proofs.Ytkfiepnkedcmgaa
end
section
namespace Go.Mach
theorem LX.isl {N sz bytes:Nat} {b:Bool} {σ:Heap} {es:List AV} {x:AV} (h:LX N sz σ es x) (ys:List AV) (hok:ys.all (okEl sz true)=true) (hl:es.length+ys.length≤1000000000) (h0:0<sz) (hb:bytes≤1000) (hN:N≤σ.length) :
  ∃ x' σ',appendC σ sz true bytes false x (.isl ys b)=some (x',σ')∧LX N sz σ' (es++ys) x'∧σ.length≤σ'.length∧∀ (i:Nat) (o:AObj),σ[i]?=some o→(i<N∨((∀ n,o≠.tok n sz)∧∀ cs fz,o=.cells cs fz false→cs.length≠sz))→σ'[i]?=some o:=by
 rw [appendC_isl]
 have he2:elemsN σ sz true (.isl ys b)=some ys:=rfl
 rcases h with ⟨rfl,rfl⟩ | ⟨k,cs,fz,rfl,hkN,hk,hcl,hcc,rfl⟩ | ⟨k,rfl,hkN,hk,hes⟩
 ·rw [closeS_isl]
  by_cases hy:ys=[]
  ·subst hy
   refine ⟨.isl [] true,σ,by simp [appendA,elemsN,elemsA,isSl],.inl ⟨rfl,rfl⟩,Nat.le_refl _,fun i o h _=>h⟩
  ·have he1:elemsA σ sz true (.isl [] true)=some []:=rfl
   have hmul:(0+ys.length) * bytes≤1000000000 * 1000:=Nat.mul_le_mul (by simpa using hl) hb
   have hn:¬ (sz=0∨(0+ys.length) * bytes > 70368744177664∨0+ys.length > 70368744177664):=by simp at hl; omega
   refine ⟨.own σ.length ys,σ++[.tok ys.length sz],?_,.inr (.inr ⟨σ.length,by simp,hN,by simp,by simpa using hok⟩),by simp,fun i o h _=>by rw [zqA (zqI.1 h).1]; exact h⟩
   simp only [appendA,he1,he2,Option.bind_some,isSl,if_neg hy,List.length_nil,if_neg hn]
   simp [hok]
 ·obtain ⟨c1,c2⟩:=LX.closeS_len (σ:=σ) k sz
  have hkl:=(zqI.1 hk).1
  have tidyN:∀ l:List AV,l.all AV.tidy=true→l.map AV.nrm=l:=fun l hl=>by
   rw [zqQ] at hl
   rw [List.map_congr_left (g:=fun y=>y) (fun x hx=>?_),List.map_id']
   have:=hl x hx
   cases x with
   | isl es b=>cases b with
    | true=>cases this
    | false=>rfl
   | _=>rfl
  have k1:∃ fz',(closeS σ (.sl k 0 1 sz true))[k]?=some (.cells (cs.map AV.nrm) fz' false):=by
   simp only [closeS,hk]
   split
   ·exact ⟨fz,by simp [hkl]⟩
   ·rename_i hn
    have:cs.all AV.tidy=true:=by
     cases h:cs.all AV.tidy with
     | true=>rfl
     | false=>exact absurd ⟨h,hcc⟩ hn
    rw [tidyN cs this]; exact ⟨fz,hk⟩
  obtain ⟨fz',k1⟩:=k1
  have hkeep:∀ (i:Nat) (o:AObj),σ[i]?=some o→(i<N∨((∀ n,o≠.tok n sz)∧∀ cs fz,o=.cells cs fz false→cs.length≠sz))→(closeS σ (.sl k 0 1 sz true))[i]?=some o:=fun i o hi h12=>by
   have hne:i≠k:=by
    rintro rfl
    rw [hk] at hi; injection hi with hi
    rcases h12 with h | ⟨_,h2⟩
    ·omega
    ·exact h2 cs fz hi.symm hcl
   rw [c2 i hne]; exact hi
  have hnn:((cs.map AV.nrm).map AV.nrm)=cs.map AV.nrm:=by
   rw [List.map_map]; apply List.map_congr_left; intro x _
   cases x <;> rfl
  have hcl':(cs.map AV.nrm).length=sz:=by simpa using hcl
  have hcc':=nrm_all hcc
  generalize closeS σ (.sl k 0 1 sz true)=τ at *
  by_cases hy:ys=[]
  ·subst hy
   refine ⟨.sl k 0 1 sz true,τ,?_,.inr (.inl ⟨k,cs.map AV.nrm,fz',rfl,hkN,k1,hcl',hcc',by rw [hnn]; simp⟩),by omega,hkeep⟩
   have e1:=elems_ag1 k1 hcl'
   simp [appendA,elemsN,elemsA,isSl] at e1 ⊢
   simp [e1]
  ·have e1:=elems_ag1 k1 hcl'
   have he2':elemsN τ sz true (.isl ys b)=some ys:=rfl
   have hmul:(1+ys.length) * bytes≤1000000000 * 1000:=Nat.mul_le_mul (by simpa using hl) hb
   have hn:¬ (sz=0∨(1+ys.length) * bytes > 70368744177664∨1+ys.length > 70368744177664):=by simp at hl; omega
   have o1:okEl sz true (.agg (cs.map AV.nrm))=true:=by simp only [okEl,AV.clo,hcc',AV.cells,hcl',decide_true,Bool.and_self]
   refine ⟨.own τ.length (.agg (cs.map AV.nrm) :: ys),τ++[.tok (1+ys.length) sz],?_,.inr (.inr ⟨τ.length,rfl,by omega,by simp; omega,by simp [o1]; simpa using hok⟩),by simp; omega,fun i o hi h12=>by
    have:=hkeep i o hi h12
    rw [zqA (zqI.1 this).1]; exact this⟩
   simp only [appendA,e1,he2',Option.bind_some,isSl,if_neg hy,List.length_singleton,if_neg hn,k1]
   simp [hok,o1,hcl]
 ·rw [closeS_own]
  have hkl:=(zqI.1 hk).1
  by_cases hy:ys=[]
  ·subst hy
   exact ⟨.own k es,σ,by simp [appendA,elemsN,elemsA,isSl],.inr (.inr ⟨k,by simp,hkN,by simpa using hk,by simpa using hes⟩),Nat.le_refl _,fun i o h _=>h⟩
  ·have he1:elemsA σ sz true (.own k es)=some es:=rfl
   have hmul:(es.length+ys.length) * bytes≤1000000000 * 1000:=Nat.mul_le_mul hl hb
   have hn:¬ (sz=0∨(es.length+ys.length) * bytes > 70368744177664∨es.length+ys.length > 70368744177664):=by omega
   refine ⟨.own k (es++ys),σ.set k (.tok (es.length+ys.length) sz),?_,.inr (.inr ⟨k,rfl,hkN,by rw [zqJ,List.getElem?_set_self hkl],by simp [List.all_append,hes,hok]⟩),by simp,fun i o hi h12=>?_⟩
   ·simp only [appendA,he1,he2,Option.bind_some,isSl,if_neg hy,if_neg hn,hk]
    simp [hok,hes]
   ·have:k≠i:=by
     rintro rfl
     rw [hk] at hi; injection hi with hi
     rcases h12 with h | ⟨h1,_⟩
     ·omega
     ·exact h1 _ hi.symm
    rw [zqC this]; exact hi
theorem LX.put {N sz j fz:Nat} {ext:Bool} {σ:Heap} {es cs:List AV} {x:AV} (h:LX N sz σ es x) (hj:σ[j]?=some (.cells cs fz ext)) (hne:cs.length≠sz) (o:AObj):LX N sz (σ.set j o) es x:=by
 rcases h with h | ⟨k,cs',fz',h1,h2,h3,h4,h5⟩ | ⟨k,h1,h2,h3,h4⟩
 ·exact .inl h
 ·have:j≠k:=by rintro rfl; rw [hj] at h3; injection h3 with h3; injection h3 with h3; subst h3; exact hne h4
  exact .inr (.inl ⟨k,cs',fz',h1,h2,by rw [zqC this]; exact h3,h4,h5⟩)
 ·have:j≠k:=by rintro rfl; rw [hj] at h3; cases h3
  exact .inr (.inr ⟨k,h1,h2,by rw [zqC this]; exact h3,h4⟩)
end Go.Mach
end
section
namespace Go.Proofs.Ytkfiepnkedcmgaa
open Go.Mach
theorem nameFit_le (s:ByteArray):(nameFit s).size≤16:=(nameFit_size s).2
theorem textFit_le (s:ByteArray):(textFit s).size≤s.size:=by
 have h:textFit s=ba ((s.data.toList.take 32).map textC):=rfl
 rw [h,baF_size]
 have:s.data.toList.length=s.size:=by simp
 simp; omega
theorem fitV_size:∀ (d:Nat) (v:GV),(fitV d v).size≤5 * v.size
 | d,.mk k n t l=>by
  have hz:(⟨#[]⟩:ByteArray).size=0:=rfl
  have h1:=nameFit_le t
  have h2:=textFit_le t
  unfold fitV
  split
  ·simp only [GV.size,GV.sizes,hz]; omega
  split
  ·simp only [GV.size,GV.sizes,GV.text]; omega
  split
  ·simp only [GV.size,GV.sizes,GV.text]; omega
  split
  ·simp only [GV.size,GV.sizes,hz]; omega
  ·rename_i d'
   have hs:GV.sizes ((l.take 16).map fun x=>fitV d' (if d'=0∧pickN x.kind 4=3 then .mk 0 x.num x.text x.items else x))≤5 * GV.sizes (l.take 16):=by
    generalize l.take 16=m
    induction m with
    | nil=>simp [GV.sizes]
    | cons x m ih=>
     have hx:=fitV_size d' (if d'=0∧pickN x.kind 4=3 then .mk 0 x.num x.text x.items else x)
     have he:(if d'=0∧pickN x.kind 4=3 then (.mk 0 x.num x.text x.items:GV) else x).size=x.size:=by
      split
      ·cases x; rfl
      ·rfl
     rw [he] at hx
     simp only [List.map_cons,GV.sizes]; omega
   have h16:GV.sizes (l.take 16)≤GV.sizes l:=by
    rw [sizes_sum,sizes_sum,List.map_take]
    generalize l.map GV.size=m
    have:m.sum=(m.take 16).sum+(m.drop 16).sum:=by rw [←List.sum_append,List.take_append_drop]
    omega
   have hz':(GV.mk 4 0 ⟨#[]⟩ ((l.take 16).map fun x=>fitV d' (if d'=0∧pickN x.kind 4=3 then .mk 0 x.num x.text x.items else x))).size=(⟨#[]⟩:ByteArray).size+GV.sizes ((l.take 16).map fun x=>fitV d' (if d'=0∧pickN x.kind 4=3 then .mk 0 x.num x.text x.items else x))+5:=rfl
   have hv':(GV.mk k n t l).size=t.size+GV.sizes l+5:=rfl
   simp only [GV.items]
   rw [hz',hv',hz]; omega
theorem fit_le (v:GV):(fit v).size≤5 * v.size:=fitV_size 4 v
def toV:GV:=.mk 3 0 ⟨#[98]⟩ []
def bRow (more:List GV) (i:Nat) (x:GW):GW:=⟨x.name,toV :: x.args.drop 1++(match more[i]? with | some v=>[fit v] | none=>[]),x.stamp⟩
def bRows (more:List GV) (l:List GW):Nat→List GW
 | 0=>[]
 | i+1=>bRows more l i++(match l[i]? with | some x=>[bRow more i x] | none=>[])
theorem bRows_succ {more:List GV} {l:List GW} {i:Nat} (h:i<l.length):bRows more l (i+1)=bRows more l i++[bRow more i l[i]]:=by
 rw [bRows,zqF h]
theorem bRows_len (more:List GV) (l:List GW):∀ i,i≤l.length→(bRows more l i).length=i
 | 0,_=>rfl
 | i+1,h=>by rw [bRows_succ (by omega),zqJ,bRows_len more l i (by omega)]; rfl
theorem bRows_mem {more:List GV} {l:List GW}:∀ {i:Nat},i≤l.length→∀ {x:GW},x∈bRows more l i→∃ k,∃ h:k<l.length,x=bRow more k l[k]
 | 0,_,x,hx=>by simp [bRows] at hx
 | i+1,h,x,hx=>by
  rw [bRows_succ (by omega)] at hx
  rcases List.mem_append.1 hx with hx | hx
  ·exact bRows_mem (by omega) hx
  ·simp at hx; exact ⟨i,by omega,hx⟩
theorem GV_okEl (l:List GV):(GV.encs l).all (okEl 4 true)=true:=by
 rw [zqQ]; intro x hx
 rw [GV.encs_map] at hx; obtain ⟨v,_,rfl⟩:=List.mem_map.1 hx
 rw [GV.enc_eq]; rfl
theorem sizes_app (a b:List GV):GV.sizes (a++b)=GV.sizes a+GV.sizes b:=by simp [sizes_sum]
theorem sizesW_app (a b:List GW):sizesW (a++b)=sizesW a+sizesW b:=by simp [sizesW_sum]
theorem addrN_size (n:Nat):(addrN n).size≤1:=by
 unfold addrN
 match n with
 | 0=>decide
 | 1=>decide
 | 2=>decide
 | 3=>decide
 | n+4=>simp; decide
theorem fargR_size (x:GRaw) (i:Nat):(fargR x i).size≤6:=by
 have hz:(⟨#[]⟩:ByteArray).size=0:=rfl
 unfold fargR
 split
 ·have:=addrN_size (pickN ((x.at' i).tdiv 2) 4)
  simp only [addrV,GV.size,GV.sizes]; omega
 ·simp only [numV,GV.size,GV.sizes,hz]; omega
theorem rowX_size (x:GRaw):GV.sizes (rowX x).args≤18:=by
 have h:∀ m:List Nat,GV.sizes (m.map (fargR x))≤6 * m.length:=fun m=>by
  induction m with
  | nil=>simp [GV.sizes]
  | cons i m ih=>have:=fargR_size x i; simp only [List.map_cons,GV.sizes,zqU]; omega
 have h2:=h (List.range (relR x).arity.toNat)
 have h3:=(rel_arity x).2.1
 simp at h2
 show GV.sizes ((List.range (relR x).arity.toNat).map (fargR x))≤18
 omega
theorem bRow_size (more:List GV) (i:Nat) (x:GRaw):GV.sizes (bRow more i (rowX x)).args≤24+(match more[i]? with | some v=>5 * v.size | none=>0):=by
 have h1:=rowX_size x
 have h2:GV.sizes ((rowX x).args.drop 1)≤GV.sizes (rowX x).args:=by
  have:GV.sizes (rowX x).args=GV.sizes ((rowX x).args.take 1)+GV.sizes ((rowX x).args.drop 1):=by rw [←sizes_app,List.take_append_drop]
  omega
 have h3:toV.size=6:=by decide
 simp only [bRow]
 rw [List.cons_append,GV.sizes,sizes_app]
 cases h:more[i]? with
 | none=>simp only [GV.sizes]; omega
 | some v=>have:=fit_le v; simp only [GV.sizes]; omega
theorem bRows_size (more:List GV) (facts:List GRaw):∀ i,i≤(rowsX facts).length→sizesW (bRows more (rowsX facts) i)≤24 * i+5 * GV.sizes (more.take i)
 | 0,_=>by simp [bRows,sizesW]
 | i+1,h=>by
  have ih:=bRows_size more facts i (by omega)
  have hxl:(rowsX facts).length=(facts.take 40).length:=by simp [rowsX]
  obtain ⟨y,hy⟩:∃ y,(rowsX facts)[i]'(by omega)=rowX y:=⟨(facts.take 40)[i]'(by omega),by simp [rowsX]⟩
  have hb:=bRow_size more i y
  rw [bRows_succ (by omega),sizesW_app,hy,List.take_add_one (l:=more)]
  simp only [sizesW]
  cases hm:more[i]? with
  | none=>rw [hm] at hb; simp at hb ⊢; omega
  | some v=>rw [hm] at hb; rw [sizes_app]; simp [GV.sizes] at hb ⊢; omega
theorem sizes_take_le (l:List GV) (i:Nat):GV.sizes (l.take i)≤GV.sizes l:=by
 have:GV.sizes l=GV.sizes (l.take i)+GV.sizes (l.drop i):=by rw [←sizes_app,List.take_append_drop]
 omega
theorem sizesW_mem {l:List GW} {x:GW} (h:x∈l):GV.sizes x.args≤sizesW l:=by
 rw [sizesW_sum]; exact mem_le_sum (List.mem_map_of_mem (f:=fun x:GW=>GV.sizes x.args) h)
theorem sizesW_sub:∀ {K L:List GW},K.Nodup→(∀ x∈K,x∈L)→sizesW K≤sizesW L
 | [],_,_,_=>by simp [sizesW]
 | x :: K,L,hn,hs=>by
  obtain ⟨A,B,rfl⟩:=List.append_of_mem (hs x (by simp))
  rw [List.nodup_cons] at hn
  have:=sizesW_sub (K:=K) (L:=A++B) hn.2 fun y hy=>by
   have h:=hs y (by simp [hy])
   rcases List.mem_append.1 h with h | h
   ·exact List.mem_append_left _ h
   ·rcases List.mem_cons.1 h with rfl | h
    ·exact absurd hy hn.1
    ·exact List.mem_append_right _ h
  rw [sizesW_app] at this ⊢
  simp only [sizesW]; omega
def PLoop (s1 s2:Int) (L:List GW) (τ:Heap):Prop:=
 ∃ l,3≤τ.length∧τ[0]?=some (.cells [.str ⟨#[]⟩,.str ⟨#[]⟩,.int .i64 0,.int .i64 0,.isl [] true] 0 false)∧τ[1]?=some (.cells [.str ⟨#[97]⟩,.str ⟨#[98]⟩,.int .i64 s1,.int .i64 s2,l] 0 false)∧τ[2]?=some (.cells [.int .i64 3,.int .i64 0,.str ⟨#[98]⟩,.isl [] true] 0 false)∧LX 3 3 τ (L.map GW.enc) l
set_option maxHeartbeats 1000000 in
theorem batch_ok (facts:List GRaw) (hx:FactsOk facts) (more:List GV) (hm:GV.oks more) (hms:GV.sizes more≤1048576) (start seq:Int) (h1:GV.i64ok start) (h2:GV.i64ok seq) :
  ∃ K:List GW,UpW K∧(∀ x∈K,x∈bRows more (rowsX facts) (rowsX facts).length)∧K.length≤(rowsX facts).length ∧
   pureT T c24 [.isl (facts.map GRaw.enc) false,.isl (GV.encs more) false,.int .i64 start,.int .i64 seq]=some (GF.mk ⟨#[97]⟩ ⟨#[98]⟩ (pickN start 1099511627777:Int) (pickN seq 1099511627777:Int) K).enc:=by
 have p1:=fun bs σ=>pick15 start 1099511627777 (by omega) h1 bs σ
 have p2:=fun bs σ=>pick15 seq 1099511627777 (by omega) h2 bs σ
 simp only [Int.cast_ofNat_Int] at p1 p2
 have p1':∀ bs σ,callT T 36 [.int .i64 start,.int .i64 1099511627777] bs σ=some (.int .i64 (pickN start 1099511627777:Int),σ):=p1
 have p2':∀ bs σ,callT T 36 [.int .i64 seq,.int .i64 1099511627777] bs σ=some (.int .i64 (pickN seq 1099511627777:Int),σ):=p2
 have cr:∀ bs σ,callT T 37 [.isl (facts.map GRaw.enc) false] bs σ=some (.isl ((rowsX facts).map GW.enc) false,σ):=fun bs σ=>call_clean rfl rfl rfl (by simp) (rows10_ok facts hx)
 obtain ⟨rows,hrows⟩:∃ rows,rows=rowsX facts:=⟨_,rfl⟩
 rw [←hrows] at cr ⊢
 have hrl:rows.length≤40:=by rw [hrows]; simp [rowsX]; omega
 have hrne:∀ x∈rows,x.args≠[]∧x.args.length≤3:=fun x hh=>by
  rw [hrows] at hh
  obtain ⟨y,_,rfl⟩:=List.mem_map.1 hh
  have h1:=fargs_len y
  obtain ⟨a1,a2,_⟩:=rel_arity y
  exact ⟨fun e=>by have:(factR y).args=[]:=e; rw [this] at h1; simp at h1; omega,by show (factR y).args.length≤3; omega⟩
 obtain ⟨L,hL⟩:∃ L,L=bRows more rows rows.length:=⟨_,rfl⟩
 have hLl:L.length=rows.length:=by rw [hL]; exact bRows_len _ _ _ (Nat.le_refl _)
 have hsz:∀ x∈L,x.args≠[]∧GV.sizes x.args≤1000000000:=fun x hh=>by
  have hmem:=hh
  rw [hL] at hh
  obtain ⟨k,hk,rfl⟩:=bRows_mem (Nat.le_refl _) hh
  refine ⟨by simp [bRow],?_⟩
  have h1:=bRows_size more facts rows.length (by rw [hrows]; exact Nat.le_refl _)
  rw [←hrows,←hL] at h1
  have h2:=sizesW_mem hmem
  have h3:=sizes_take_le more rows.length
  omega
 have hM:∃ K:List GW,UpW K∧(∀ x∈K,x∈L)∧K.length≤L.length∧pureT T c22 [.isl (L.map GW.enc) false]=some (.isl (K.map GW.enc) false):=by
  by_cases e:L=[]
  ·rw [e]
   exact ⟨[],by simp [UpW],fun x h=>h,Nat.le_refl _,merge_none⟩
  ·exact merge_some L e (by omega) hsz
 obtain ⟨K,k1,k2,k3,k4⟩:=hM
 refine ⟨K,k1,by rw [←hL]; exact k2,by omega,?_⟩
 generalize pickN start 1099511627777=s1 at *
 generalize pickN seq 1099511627777=s2 at *
 apply pure_enter (by simp [c24])
 simp [c24,p1',p2',cr,setRun]
 refine W_for T 0 73 rows.length (fun i f τ=>f 1=.isl (GV.encs more) false∧f 8=.ptr 0 0∧f 9=.ptr 1 0∧f 10=.ptr 2 0∧f 11=.isl (rows.map GW.enc) false∧f 12=.int .i64 (i:Int)∧PLoop s1 s2 (bRows more rows i) τ) ?_ _ _ ?_
 ·rintro i f τ hi ⟨f1,f8,f9,f10,f11,f12,l,hl3,g0,g1,g2,Li⟩
  by_cases hlt:i<rows.length
  ·have w1:IntKind.i64.wrap ((i:Int)+1)=(i:Int)+1:=wr64 (by omega) (by omega)
   obtain ⟨hne,hal⟩:=hrne _ (zqT hlt)
   have hsucc:=bRows_succ (more:=more) hlt
   obtain ⟨nm,args,st,hr⟩:∃ nm args st,rows[i]=⟨nm,args,st⟩:=⟨_,_,_,rfl⟩
   rw [hr] at hne hal hsucc
   have hg:rows[i]?=some ⟨nm,args,st⟩:=by rw [zqF hlt,hr]
   have hne':args≠[]:=hne
   have hal':args.length≤3:=hal
   have h1l:1≤args.length:=List.length_pos_iff.2 hne'
   have hdrop:slSlV 4 (some (.int .i64 1)) none (.isl (GV.encs args) false)=some (.isl (GV.encs (args.drop 1)) false):=by
    have:=slI_drop (sz:=4) (es:=GV.encs args) (c:=false) (n:=1) (by simp; omega) (by rw [zqQ]; intro e he; simp [lenIs,encsV_len args e he])
    rw [show ((1:Nat):Int)=1 from rfl] at this
    rw [this,GV.encs_map,GV.encs_map,List.map_drop]
   obtain ⟨a,ha⟩:∃ a,a=τ.length:=⟨_,rfl⟩
   obtain ⟨τ0,hτ0⟩:∃ τ0:Heap,τ0=τ++[.cells [.int .i64 3,.int .i64 0,.str ⟨#[98]⟩,.isl [] true] 0 false,.cells [.str ⟨#[]⟩,.isl [] true,.int .i64 0] 0 false]:=⟨_,rfl⟩
   have h0l:τ0.length=a+2:=by rw [hτ0,ha]; simp
   have q0:τ0[a]?=some (.cells [.int .i64 3,.int .i64 0,.str ⟨#[98]⟩,.isl [] true] 0 false):=by rw [hτ0,ha]; simp
   have q1:τ0[a+1]?=some (.cells [.str ⟨#[]⟩,.isl [] true,.int .i64 0] 0 false):=by rw [hτ0,ha]; simp
   have qk:∀ i,i<a→τ0[i]?=τ[i]?:=fun i hi=>by rw [hτ0,zqA (by omega)]
   have L0:LX a 4 τ0 (GV.encs [toV]) (.sl a 0 1 4 true):=.inr (.inl ⟨a,_,0,rfl,Nat.le_refl _,q0,rfl,rfl,rfl⟩)
   obtain ⟨x1,τ1,e1,L1,hl1,hk1⟩:=L0.isl (bytes:=56) (b:=false) (GV.encs (args.drop 1)) (GV_okEl _) (by simp; omega) (by omega) (by omega) (by omega)
   have ecat:GV.encs [toV]++GV.encs (args.drop 1)=GV.encs (toV :: args.drop 1):=rfl
   rw [ecat] at L1
   rw [appendC_isl,List.drop_one] at e1
   have q1':τ1[a+1]?=some (.cells [.str ⟨#[]⟩,.isl [] true,.int .i64 0] 0 false):=hk1 _ _ q1 (.inr ⟨fun n e=>(by cases e),fun cs fz e=>(by injection e with e; subst e; simp)⟩)
   have hk1':∀ i,i<a→τ1[i]?=τ[i]?:=fun i hi=>by
    rw [←qk i hi,hk1 i _ (zqF (by omega)) (.inl hi),zqF]
   obtain ⟨τ2,hτ2⟩:∃ τ2:Heap,τ2=τ1.set (a+1) (.cells [.str nm,x1,.int .i64 st] 0 false):=⟨_,rfl⟩
   have L2:LX a 4 τ2 (GV.encs (toV :: args.drop 1)) x1:=by rw [hτ2]; exact L1.put q1' (by simp) _
   have q2:τ2[a+1]?=some (.cells [.str nm,x1,.int .i64 st] 0 false):=by rw [hτ2]; exact List.getElem?_set_self (by omega)
   have hl2:τ2.length=τ1.length:=by rw [hτ2]; simp
   have hk2:∀ i,i<a→τ2[i]?=τ[i]?:=fun i hi=>by rw [hτ2,zqC (by omega)]; exact hk1' i hi
   have hs1:=L1.solid
   have hc1:=L1.cells
   have hfin:∀ (args':List GV) (x:AV) (τ5:Heap),bRow more i ⟨nm,args,st⟩=⟨nm,args',st⟩→(∀ i,i<a→τ5[i]?=τ[i]?)→τ5[a+1]?=some (.cells [.str nm,x,.int .i64 st] 0 false)→LX a 4 τ5 (GV.encs args') x→a+2≤τ5.length →
     ∃ x' σ',appendC (τ5++[.cells [.str nm,x,.int .i64 st] 0 false]) 3 true 48 false l (.sl τ5.length 0 1 3 true)=some (x',σ')∧σ'[1]?=some (.cells [.str ⟨#[97]⟩,.str ⟨#[98]⟩,.int .i64 s1,.int .i64 s2,l] 0 false)∧x'.solid=true∧x'.cells=[x'] ∧
      PLoop s1 s2 (bRows more rows (i+1)) (σ'.set 1 (.cells [.str ⟨#[97]⟩,.str ⟨#[98]⟩,.int .i64 s1,.int .i64 s2,x'] 0 false)):=fun args' x τ5 hb hk5 hq5 L5 hl5=>by
    have hjF:(τ5++[AObj.cells [.str nm,x,.int .i64 st] 0 false])[τ5.length]?=some (.cells [.str nm,x,.int .i64 st] 0 false):=by simp
    obtain ⟨σ1,z,fj,hX,hj1,hz1,hz2,hlσ,hkσ⟩:=closeX_row (L5.app _) hjF
    have hall:∀ i,i<τ.length→σ1[i]?=τ[i]?:=fun i hi=>by
     rw [hkσ i (by omega) (by omega),zqA (by omega),hk5 i (by omega)]
    obtain ⟨x',σ',m1,m2,m3,m4,-⟩:=app_any (bytes:=48) hX hj1 (sz:=3) rfl (by simp [AV.clo1]; exact hz1) (by omega) (by omega) Li hall (by omega) hl3 (by simp [bRows_len more rows i (by omega)]; omega)
    have hl':3≤σ'.length:=by rw [hlσ,zqJ] at m3; simp at m3; omega
    refine ⟨x',σ',m1,by rw [m4 1 (by omega)]; exact g1,m2.solid,m2.cells,x',by simpa using hl',by rw [zqC (by omega),m4 0 (by omega)]; exact g0,List.getElem?_set_self (by omega),by rw [zqC (by omega),m4 2 (by omega)]; exact g2,?_⟩
    rw [hsucc,hb]
    have e:(bRows more rows i).map GW.enc++[AV.agg (List.map AV.nrm [.str nm,z,.int .i64 st])]=(bRows more rows i++[(⟨nm,args',st⟩:GW)]).map GW.enc:=by
     simp [GW.enc,GW.cls,hz2]
    rw [←e]
    exact m2.keep fun j o hj ho=>by rw [zqC (by omega)]; exact ho
   by_cases hmore:i<more.length
   ·have hgm:more[i]?=some more[i]:=zqF hmore
    have hbR:bRow more i ⟨nm,args,st⟩=⟨nm,(toV :: args.drop 1)++[fit more[i]],st⟩:=by simp [bRow,hgm]
    have hmm:=sizes_mem (zqT hmore)
    have hfit:=callFit more[i] ((GV.oks_iff _).1 hm _ (zqT hmore)) (by omega)
    have hj3:(τ2++[AObj.cells (fit more[i]).enc.cells 0 false])[τ2.length]?=some (.cells (fit more[i]).enc.cells 0 false):=by simp
    have hclo:(fit more[i]).enc.cells.all AV.clo1=true:=by rw [GV.enc_cells]; rfl
    obtain ⟨x2,τ4,n1,n2,n3,n4⟩:=app_any0 (bytes:=56) (closeX_idem hj3 hclo) hj3 (sz:=4) (by rw [GV.enc_cells]; rfl) hclo (by omega) (by omega) L2 (fun i hi=>zqA hi) (Nat.le_refl _) (by omega) (by simp; omega)
    have e4:GV.encs (toV :: args.drop 1)++[AV.agg ((fit more[i]).enc.cells.map AV.nrm)]=GV.encs ((toV :: args.drop 1)++[fit more[i]]):=by
     have e2:GV.encs ((toV :: args.drop 1)++[fit more[i]])=GV.encs (toV :: args.drop 1)++[(fit more[i]).enc]:=by simp [GV.encs_map]
     rw [e2,GV.enc_cells,GV.enc_eq]; rfl
    rw [e4] at n2
    have q4:τ4[a+1]?=some (.cells [.str nm,x1,.int .i64 st] 0 false):=n4 _ _ q2 (.inr ⟨fun n e=>(by cases e),fun cs fz e=>(by injection e with e; subst e; simp)⟩)
    have n3':a+2≤τ4.length:=by simp at n3; omega
    have L5:LX a 4 (τ4.set (a+1) (.cells [.str nm,x2,.int .i64 st] 0 false)) (GV.encs ((toV :: args.drop 1)++[fit more[i]])) x2:=n2.toLX.put q4 (by simp) _
    have q5:(τ4.set (a+1) (.cells [.str nm,x2,.int .i64 st] 0 false))[a+1]?=some (.cells [.str nm,x2,.int .i64 st] 0 false):=List.getElem?_set_self (by omega)
    have hk5:∀ i,i<a→(τ4.set (a+1) (.cells [.str nm,x2,.int .i64 st] 0 false))[i]?=τ[i]?:=fun i hi=>by
     rw [zqC (by omega),←hk2 i hi,n4 i _ (zqF (by omega)) (.inl hi),zqF]
    obtain ⟨τ5,hτ5⟩:∃ τ5:Heap,τ5=τ4.set (a+1) (.cells [.str nm,x2,.int .i64 st] 0 false):=⟨_,rfl⟩
    rw [←hτ5] at L5 q5 hk5
    obtain ⟨x',σ',f1',f2',f3',f4',f5'⟩:=hfin _ x2 τ5 hbR hk5 q5 L5 (by rw [hτ5]; simpa using n3')
    have g15:τ5[1]?=some (.cells [.str ⟨#[97]⟩,.str ⟨#[98]⟩,.int .i64 s1,.int .i64 s2,l] 0 false):=by rw [hk5 1 (by omega)]; exact g1
    have hs2:=n2.solid
    have hc2:=n2.cells
    rw [GV.enc_cells] at n1
    simp [-getElem?_pos,f1,f8,f9,f10,f11,f12,hlt,hr,hg,g2,GW.cls,hdrop,setRun,←ha,←hτ0,e1,chkO_l,objOf,q1,q1',hs1,hc1,←hτ2,hmore,q2,hgm,hfit,n1,q4,hs2,hc2,←hτ5,g15,q5,f1',f2',f3',f4',w1,-appendA_ag]
    exact f5'
   ·have hgm:more[i]?=none:=List.getElem?_eq_none (by omega)
    have hbR:bRow more i ⟨nm,args,st⟩=⟨nm,toV :: args.drop 1,st⟩:=by simp [bRow,hgm]
    obtain ⟨x',σ',f1',f2',f3',f4',f5'⟩:=hfin _ x1 τ2 hbR hk2 q2 L2 (by omega)
    have g12:τ2[1]?=some (.cells [.str ⟨#[97]⟩,.str ⟨#[98]⟩,.int .i64 s1,.int .i64 s2,l] 0 false):=by rw [hk2 1 (by omega)]; exact g1
    simp [-getElem?_pos,f1,f8,f9,f10,f11,f12,hlt,hr,hg,g2,GW.cls,hdrop,setRun,←ha,←hτ0,e1,chkO_l,objOf,q1,q1',hs1,hc1,←hτ2,hmore,q2,g12,f1',f2',f3',f4',w1,-appendA_ag]
    exact f5'
  ·have he:i=rows.length:=by omega
   subst he
   rw [←hL] at Li
   obtain ⟨σ',hcA,hcl,hck⟩:=Li.closeA
   have hm0:callT T 22 [l] 0 τ=some (.isl (K.map GW.enc) false,σ'):=call_data rfl rfl rfl k4 rfl rfl (by simp only [closeT,hcA,Option.bind_some,Option.map_some])
   have u1:σ'[1]?=some (.cells [.str ⟨#[97]⟩,.str ⟨#[98]⟩,.int .i64 s1,.int .i64 s2,l] 0 false):=by rw [hck 1 (by omega)]; exact g1
   have u0:σ'[0]?=some (.cells [.str ⟨#[]⟩,.str ⟨#[]⟩,.int .i64 0,.int .i64 0,.isl [] true] 0 false):=by rw [hck 0 (by omega)]; exact g0
   have u1s:∀ o,(σ'.set 1 o)[1]?=some o:=fun o=>List.getElem?_set_self (by omega)
   have u0s:∀ o,(σ'.set 1 o)[0]?=σ'[0]?:=fun o=>by rw [zqC (by omega)]
   have u2s:∀ o o',((σ'.set 1 o).set 0 o')[0]?=some o':=fun o o'=>List.getElem?_set_self (by simp; omega)
   simp [-getElem?_pos,f1,f8,f9,f10,f11,f12,g1,hm0,u1,setRun,u1s,u0s,u0,u2s,GF.enc]
   done
 ·exact ⟨by simp,by simp,by simp,by simp,by simp,by simp,.isl [] true,by simp,by simp,by simp,by simp,.inl ⟨rfl,rfl⟩⟩
open Go.Mach
theorem gw_iff (a b:GW):a=b↔a.name=b.name∧a.stamp=b.stamp∧a.args=b.args:=⟨fun h=>by rw [h]; simp,fun h=>by cases a; cases b; simp_all⟩
theorem gf_iff (a b:GF):a=b↔a.frm=b.frm∧a.to=b.to∧a.start=b.start∧a.seq=b.seq∧a.rows=b.rows:=⟨fun h=>by rw [h]; simp,fun h=>by cases a; cases b; simp_all⟩
instance:DecidableEq GW:=fun a b=>decidable_of_iff _ (gw_iff a b).symm
instance:DecidableEq GF:=fun a b=>decidable_of_iff _ (gf_iff a b).symm
theorem toV_right:rightV 4 toV=true:=by decide +kernel
theorem nameA:nameOK ⟨#[97]⟩=true:=by decide +kernel
theorem nameBb:nameOK ⟨#[98]⟩=true:=by decide +kernel
theorem bRow_ok (more:List GV) (i:Nat) (y:GRaw):rowOK ⟨#[98]⟩ (bRow more i (rowX y))=true:=by
 have h1:nameOK (factR y).name=true:=by
  have:=rel_OK y
  simp only [relOK,zqL] at this
  exact this.1.1
 have h2:=fargs_len y
 obtain ⟨a1,a2,_⟩:=rel_arity y
 have h3:∀ v∈(factR y).args,rightV 4 v=true:=fun v hv=>by
  obtain ⟨i,_,rfl⟩:=List.mem_map.1 hv
  exact fargR_R y i
 have h4:nearB (pickN y.n3 9:Int)=true:=by rw [nearB_iff]; have:=pickN_lt (c:=y.n3) (n:=9) (by omega); omega
 obtain ⟨E,hE,hEl,hEr⟩:∃ E,(bRow more i (rowX y)).args=toV :: ((factR y).args.drop 1++E)∧E.length≤1∧∀ v∈E,rightV 4 v=true:=by
  cases hm:more[i]? with
  | none=>exact ⟨[],by simp [bRow,rowX,hm],by simp,by simp⟩
  | some w=>exact ⟨[fit w],by simp [bRow,rowX,hm],by simp,fun v hv=>by simp at hv; rw [hv]; exact fit_right w⟩
 have h7:((bRow more i (rowX y)).args).all (rightV 4)=true:=by
  rw [zqQ]; intro v hv
  rw [hE] at hv
  rcases List.mem_cons.1 hv with rfl | hv
  ·exact toV_right
  ·rcases List.mem_append.1 hv with hv | hv
   ·exact h3 v (List.mem_of_mem_drop hv)
   ·exact hEr v hv
 have h8:(bRow more i (rowX y)).args.length≤8∧1≤(bRow more i (rowX y)).args.length:=by
  rw [hE]; simp only [zqU,zqJ,List.length_drop]; omega
 have h9:headB ⟨#[98]⟩ (bRow more i (rowX y)).args=true:=by simp [bRow,headB,toV,GV.kind,GV.text]
 simp only [rowOK,zqL,decide_eq_true_eq]
 exact ⟨⟨⟨⟨⟨h1,h8.2⟩,h8.1⟩,h4⟩,h7⟩,h9⟩
theorem batch_good {more:List GV} {facts:List GRaw} (hms:GV.sizes more≤1048576) {K:List GW} (k1:UpW K) (k2:∀ x∈K,x∈bRows more (rowsX facts) (rowsX facts).length) (k3:K.length≤(rowsX facts).length) (s1 s2:Nat) (h1:s1<1099511627777) (h2:s2<1099511627777) :
  FOk ⟨⟨#[97]⟩,⟨#[98]⟩,s1,s2,K⟩∧SzF ⟨⟨#[97]⟩,⟨#[98]⟩,s1,s2,K⟩∧(layB ⟨⟨#[97]⟩,⟨#[98]⟩,s1,s2,K⟩).length≤12000000:=by
 have hrl:(rowsX facts).length≤40:=by simp [rowsX]; omega
 have hrow:∀ x∈K,rowOK ⟨#[98]⟩ x=true:=fun x hx=>by
  obtain ⟨k,hk,rfl⟩:=bRows_mem (Nat.le_refl _) (k2 x hx)
  obtain ⟨y,hy⟩:∃ y,(rowsX facts)[k]=rowX y:=⟨(facts.take 40)[k]'(by simpa [rowsX] using hk),by simp [rowsX]⟩
  rw [hy]; exact bRow_ok more k y
 have hF:FOk ⟨⟨#[97]⟩,⟨#[98]⟩,s1,s2,K⟩:=by
  refine ⟨nameA,nameBb,(by decide:(⟨#[97]⟩:ByteArray)≠⟨#[98]⟩),(nearB_iff _).2 ⟨by show (0:Int)≤s1; omega,by show (s1:Int)≤_; omega⟩,(nearB_iff _).2 ⟨by show (0:Int)≤s2; omega,by show (s2:Int)≤_; omega⟩,by show K.length≤400; omega,fun k hk x hx=>⟨hrow x (zqR hx),?_⟩⟩
  by_cases h0:k=0
  ·exact .inl h0
  ·refine .inr fun y hy=>?_
   have hk':k<K.length:=hk
   have hx':K[k]?=some x:=hx
   have hy':K[k - 1]?=some y:=hy
   rw [zqF hk'] at hx'; injection hx' with hx'
   rw [zqF (by omega)] at hy'; injection hy' with hy'
   rw [←hx',←hy']
   exact List.pairwise_iff_getElem.1 k1 (k - 1) k (by omega) hk' (by omega)
 have hnd:K.Nodup:=by
  refine List.Pairwise.imp (fun {a b} h=>?_) k1
  rintro rfl
  have:=cmpW_self a; omega
 have hz1:=sizesW_sub hnd k2
 have hz2:=bRows_size more facts (rowsX facts).length (Nat.le_refl _)
 have hz3:=sizes_take_le more (rowsX facts).length
 have hz:sizesW K≤5243840:=by omega
 have hS:SzF ⟨⟨#[97]⟩,⟨#[98]⟩,s1,s2,K⟩:=by
  refine ⟨by show sizesW K≤_; omega,by show (1:Nat)≤_; omega,by show (1:Nat)≤_; omega,by show K.length≤_; omega,fun x hx=>⟨?_,?_⟩⟩
  ·have:=(hF.name hx).2.1; omega
  ·have:=sizesW_mem (l:=K) hx; omega
 refine ⟨hF,hS,?_⟩
 have l1:=preB_len hF
 have l2:=rowsB_len K fun x hx=>(hF.name hx).2.1
 have l3:(layB ⟨⟨#[97]⟩,⟨#[98]⟩,s1,s2,K⟩).length=(bodyB ⟨⟨#[97]⟩,⟨#[98]⟩,s1,s2,K⟩).length+4:=by simp [layB]
 rw [l3,bodyB_eq,zqJ]
 simp only
 omega
theorem callLay {b:GF} (hs:SzF b) (h:FOk b) (bs:Nat) (σ:Heap):callT T 25 [b.enc] bs σ=some (.tup [.str (ba (layB b)),.int .i64 0],σ):=call_clean rfl rfl rfl (by simp) (lay_yes b hs h)
open Go.Mach
open Go.Mach
structure GX where
 frm:Int
 start:Int
 seq:Int
 facts:List GRaw
 deriving Inhabited
namespace GX
def enc (x:GX):AV:=.agg [.int .i64 x.frm,.int .i64 x.start,.int .i64 x.seq,.isl (x.facts.map GRaw.enc) false]
theorem enc_eq (x:GX):x.enc=.agg [.int .i64 x.frm,.int .i64 x.start,.int .i64 x.seq,.isl (x.facts.map GRaw.enc) false]:=rfl
def ok (x:GX):Prop:=GV.i64ok x.frm∧GV.i64ok x.start∧GV.i64ok x.seq∧FactsOk x.facts
@[simp] theorem enc_clean (x:GX):x.enc.clean=true:=by simp [enc,AV.clean,AV.clean0]
end GX
def XsOk (l:List GX):Prop:=(∀ x∈l,x.ok)∧l.length≤1048576
structure IsX (P:Program) (tX tL tR tA tI:TypeId):Prop where
 fs:∃ fs:Array Field,P.underlying tX=some (.struct fs)∧fs.toList.map (·.type)=[tI,tI,tI,tL]
 list:P.underlying tL=some (.slice tR)
 raw:IsRaw P tR tA tI
theorem asX {P:Program} {tX tL tR tA tI:TypeId} (hT:IsX P tX tL tR tA tI) {x:AV} (h:TyA P tX x) (hb:bulkA x≤1048576):∃ v:GX,x=v.enc∧v.ok:=by
 have e1:IntKind.i64.min=-9223372036854775808:=by decide
 have e2:IntKind.i64.max=9223372036854775807:=by decide
 obtain ⟨fs0,hf0,hts⟩:=hT.fs
 obtain ⟨vs,rfl,hl,hv⟩:=h.asStruct hf0
 have hlen:vs.length=4:=by rw [hl,←List.length_map (f:=(·.type)),hts]; rfl
 match vs,hlen with
 | [x0,x1,x2,x3],_=>
  obtain ⟨y0,rfl,p0,q0⟩:=(field_ty hts hv (i:=0) rfl rfl).asInt hT.raw.int
  obtain ⟨y1,rfl,p1,q1⟩:=(field_ty hts hv (i:=1) rfl rfl).asInt hT.raw.int
  obtain ⟨y2,rfl,p2,q2⟩:=(field_ty hts hv (i:=2) rfl rfl).asInt hT.raw.int
  have h3:=field_ty hts hv (i:=3) rfl rfl
  obtain ⟨es,rfl,_⟩:=h3.asSlice hT.list
  have hb3:bulkA (AV.isl es false)≤1048576:=by
   have hf:flat [AV.int .i64 y0,.int .i64 y1,.int .i64 y2,.isl es false]=[AV.int .i64 y0,.int .i64 y1,.int .i64 y2,.isl es false]:=by simp [flat]
   rw [hf] at hb
   simp only [bulkA,bulkAs] at hb ⊢; omega
  obtain ⟨l,hl3,hok⟩:=argRaws hT.raw hT.list h3 hb3
  rw [e1] at p0 p1 p2; rw [e2] at q0 q1 q2
  exact ⟨⟨y0,y1,y2,l⟩,by rw [hl3]; simp [GX.enc,flat],⟨p0,q0⟩,⟨p1,q1⟩,⟨p2,q2⟩,hok⟩
theorem argXs {P:Program} {tLX tX tL tR tA tI:TypeId} (hT:IsX P tX tL tR tA tI) (hL:P.underlying tLX=some (.slice tX)) {x:AV} (h:TyA P tLX x) (hb:bulkA x≤1048576):∃ l:List GX,x=.isl (l.map GX.enc) false∧XsOk l:=by
 obtain ⟨es,rfl,hes⟩:=h.asSlice hL
 simp only [bulkA] at hb
 obtain ⟨l,rfl,hl⟩:=list_enc GX.enc GX.ok es fun z hz=>by
  have:=bulk_mem hz
  exact asX hT (hes z hz) (by omega)
 have:=bulk_len (l.map GX.enc)
 simp only [List.length_map] at this
 exact ⟨l,rfl,hl,by omega⟩
theorem tyX:IsX Try.prog 33 31 95 93 3:=⟨fieldTys_some (by kernel_rfl),by kernel_rfl,tyRaw⟩
theorem argX {x:AV} (h:TyA Try.prog 22 x) (hb:bulkA x≤1048576):∃ l:List GX,x=.isl (l.map GX.enc) false∧XsOk l:=argXs tyX (by kernel_rfl) h hb
theorem pick16_ok (c n:Int) (h:n≠0):pureT T c11 [.int .i64 c,.int .i64 n]=some (.int .i64 ((if c<0 then IntKind.i64.wrap (0 - IntKind.i64.wrap (c+1)) else c).tmod n)):=by
 apply pure_enter (by simp [c11])
 by_cases hc:c<0
 ·simp [c11,hc,h]
 ·simp [c11,hc,h]
theorem pick16 (c:Int) (n:Nat) (h:0<n) (h1:GV.i64ok c) (bs:Nat) (σ:Heap) :
  callT T 11 [.int .i64 c,.int .i64 (n:Int)] bs σ=some (.int .i64 (pickN c n:Int),σ):=by
 refine call_clean rfl rfl rfl rfl ?_
 rw [pick16_ok c n (by omega),pick_eq c n h h1.1 h1.2]
def nmX (k:Nat):ByteArray:=if k=0 then ⟨#[97]⟩ else if k=1 then ⟨#[99]⟩ else ⟨#[100]⟩
theorem FOk.from {b:GF} (h:FOk b) {fr:ByteArray} (h1:nameOK fr=true) (h2:fr≠b.to):FOk {b with frm:=fr}:=⟨h1,h.to,h2,h.start,h.seq,h.len,h.rows⟩
theorem SzF.from {b:GF} (h:SzF b) {fr:ByteArray} (h1:fr.size≤16):SzF {b with frm:=fr}:=⟨h.tot,by show fr.size≤_; omega,h.to,h.len,h.rows⟩
theorem pickN_self {n k:Nat} (h:n<k):pickN (n:Int) k=n:=by
 unfold pickN; rw [if_neg (by omega),Int.toNat_natCast]; exact Nat.mod_eq_of_lt h
structure XB (x:GX) (b:GF):Prop where
 frm:b.frm=nmX (pickN x.frm 3)
 to:b.to=⟨#[98]⟩
 start:b.start=(pickN x.start 3:Int)
 seq:b.seq=(pickN x.seq 4:Int)
 ok:FOk b
 sz:SzF b
 rows:b.rows.length≤40
 args:∀ y∈b.rows,y.args≠[]∧GV.sizes y.args≤100000000
theorem batch16 (x:GX) (hx:x.ok):∃ b:GF,XB x b∧pureT T c10 [x.enc]=some b.enc:=by
 obtain ⟨x1,x2,x3,x4⟩:=hx
 have p1:∀ bs σ,callT T 11 [.int .i64 x.frm,.int .i64 3] bs σ=some (.int .i64 (pickN x.frm 3:Int),σ):=fun bs σ=>pick16 x.frm 3 (by omega) x1 bs σ
 have p2:∀ bs σ,callT T 11 [.int .i64 x.start,.int .i64 3] bs σ=some (.int .i64 (pickN x.start 3:Int),σ):=fun bs σ=>pick16 x.start 3 (by omega) x2 bs σ
 have p3:∀ bs σ,callT T 11 [.int .i64 x.seq,.int .i64 4] bs σ=some (.int .i64 (pickN x.seq 4:Int),σ):=fun bs σ=>pick16 x.seq 4 (by omega) x3 bs σ
 have l1:=pickN_lt (c:=x.frm) (n:=3) (by omega)
 have l2:=pickN_lt (c:=x.start) (n:=3) (by omega)
 have l3:=pickN_lt (c:=x.seq) (n:=4) (by omega)
 generalize hk:pickN x.frm 3=k at *
 generalize hs1:pickN x.start 3=s1 at *
 generalize hs2:pickN x.seq 4=s2 at *
 obtain ⟨K,k1,k2,k3,k4⟩:=batch_ok x.facts x4 [] (by trivial) (by decide) s1 s2 ⟨by omega,by omega⟩ ⟨by omega,by omega⟩
 rw [pickN_self (by omega),pickN_self (by omega)] at k4
 obtain ⟨g1,g2,g3⟩:=batch_good (more:=[]) (by decide) k1 k2 k3 s1 s2 (by omega) (by omega)
 have hrl:(rowsX x.facts).length≤40:=by simp [rowsX]; omega
 have hb:∀ bs σ,callT T 24 [.isl (x.facts.map GRaw.enc) false,.isl [] true,.int .i64 s1,.int .i64 s2] bs σ=some ((GF.mk ⟨#[97]⟩ ⟨#[98]⟩ s1 s2 K).enc,σ):=fun bs σ=>
  call_data (af:=c24) rfl rfl rfl k4 rfl (by simp) (by simp [closeT,closeA,GV.encs])
 rw [GF.enc_eq] at hb
 have hnm:nameOK (nmX k)=true∧nmX k≠⟨#[98]⟩∧(nmX k).size≤16:=by
  match k,l1 with
  | 0,_=>exact ⟨by decide +kernel,by decide,by decide⟩
  | 1,_=>exact ⟨by decide +kernel,by decide,by decide⟩
  | 2,_=>exact ⟨by decide +kernel,by decide,by decide⟩
 refine ⟨{(GF.mk ⟨#[97]⟩ ⟨#[98]⟩ s1 s2 K) with frm:=nmX k},⟨by rw [hk],rfl,by rw [hs1],by rw [hs2],g1.from hnm.1 hnm.2.1,g2.from hnm.2.2,by show K.length≤40; omega,fun y hy=>?_⟩,?_⟩
 ·have hy':y∈K:=hy
  refine ⟨?_,(g2.rows y hy').args⟩
  obtain ⟨i,hi,rfl⟩:=bRows_mem (Nat.le_refl _) (k2 y hy')
  simp [bRow]
 ·apply pure_enter (by simp [c10])
  rw [GX.enc_eq]
  match k,l1 with
  | 0,_=>simp [c10,p1,p2,p3,hb,setRun,chkO_l,objOf,AV.clo1,nmX,GF.enc_eq]
  | 1,_=>simp [c10,p1,p2,p3,hb,setRun,chkO_l,objOf,AV.clo1,nmX,GF.enc_eq]
  | 2,_=>simp [c10,p1,p2,p3,hb,setRun,chkO_l,objOf,AV.clo1,nmX,GF.enc_eq]
open Go.Mach
def encB (L:List GF):List (AV × AV):=L.map fun y=>(.str y.frm,y.enc)
def lookB (L:List GF) (a:ByteArray):Option GF:=L.find? fun y=>decide (y.frm=a)
def idxB (a:ByteArray):List GF→Nat
 | []=>0
 | y :: L=>if a=y.frm then 0 else idxB a L+1
def putB (L:List GF) (y:GF):List GF:=match lookB L y.frm with
 | some _=>L.set (idxB y.frm L) y
 | none=>L++[y]
theorem mfind_b (a:ByteArray):∀ (L:List GF) (i:Nat),mfind false [2] [.str a] i (encB L)=some ((lookB L a).map fun v=>(i+idxB a L,v.enc))
 | [],i=>rfl
 | p :: m,i=>by
  have ih:=mfind_b a m (i+1)
  simp only [encB,List.map_cons,mfind,keyC,Bool.false_eq_true,if_false,Option.bind_some,eqcs_str,eqcs_nil,Option.map_some,Bool.and_true] at ih ⊢
  by_cases h:a=p.frm
  ·simp [lookB,List.find?_cons,idxB,h]
  ·have hl:lookB (p :: m) a=lookB m a:=by
    unfold lookB
    rw [List.find?_cons]
    have:decide (p.frm=a)=false:=decide_eq_false fun e=>h e.symm
    rw [this]
   rw [decide_eq_false h,hl]
   simp only [ih,idxB,if_neg h]
   congr 2
   funext v
   congr 1
   omega
abbrev zeroB:AV:=.agg [.str ⟨#[]⟩,.str ⟨#[]⟩,.int .i64 0,.int .i64 0,.isl [] true]
theorem mlook_b {σ:Heap} {id:Nat} {L:List GF} (h:σ[id]?=some (.mp (encB L))) (a:ByteArray):mlookA σ false [2] zeroB true (.map id) (.str a)=some (.tup [(match lookB L a with | some y=>y.enc | none=>zeroB),.bool (lookB L a).isSome]):=by
 simp only [mlookA,keyC,Bool.false_eq_true,if_false,Option.bind_some,eqcs_str,eqcs_nil,Option.map_some,Option.isSome_some,if_true,mapOf,h,mfind_b]
 cases lookB L a <;> simp [lookV]
theorem mset_b {σ:Heap} {id:Nat} {L:List GF} (h:σ[id]?=some (.mp (encB L))) (y:GF):msetA σ false [2] (.map id) (.str y.frm) y.enc=some (σ.set id (.mp (encB (putB L y)))):=by
 have hcl:=(clean_close (σ:=σ) (GF.enc_clean y)).1
 have hs:(AV.str y.frm).clo=true:=rfl
 have hclo:y.enc.clo=true:=by simp [GF.enc_eq,AV.clo,AV.clo1]
 simp only [msetA,keyC,Bool.false_eq_true,if_false,Option.bind_some,eqcs_str,eqcs_nil,Option.map_some,Option.isSome_some,true_and,hcl,h,mfind_b]
 unfold putB
 cases hl:lookB L y.frm with
 | none=>simp [encB,hclo,hs]
 | some o=>simp [encB,hclo,hs,List.map_set]
def BoxAt (σ:Heap) (b m:Nat) (place:ByteArray) (L:List GF):Prop:=σ[b]?=some (.cells [.str place,.map m] 0 false)∧σ[m]?=some (.mp (encB L))∧b≠m
def newer (x y:GF):Bool:=decide (y.start<x.start∨(x.start=y.start∧y.seq<x.seq))
theorem or16 (a b:Int):pureT T c44 [.isl [.int .i64 a,.int .i64 b] false]=some (.int .i64 (if a=0 then b else a)):=by
 apply pure_enter (by simp [c44])
 simp [c44]
 refine W_for T 0 18 2 (fun i f τ=>f 6=.isl [.int .i64 a,.int .i64 b] false∧f 7=.int .i64 2∧f 3=.int .i64 0∧f 8=.int .i64 (i:Int)∧(0<i→a=0)∧(1<i→b=0)∧τ=[]) ?_ _ _ ?_
 ·rintro i f τ hi ⟨f6,f7,f3,f8,ha,hb,rfl⟩
  match i,hi with
  | 0,_=>
   by_cases h:a=0
   ·simp [f6,f7,f3,f8,h,wr64]
   ·simp [f6,f7,f3,f8,h]
  | 1,_=>
   have ha:=ha (by omega)
   by_cases h:b=0
   ·simp [f6,f7,f3,f8,h,ha,wr64]
   ·simp [f6,f7,f3,f8,h,ha]
  | 2,_=>
   have ha:=ha (by omega)
   have hb:=hb (by omega)
   simp [f6,f7,f3,f8,ha,hb]
 ·simp
theorem callOr16 (a b:Int) (o0 o1:AObj) (bs:Nat):callT T 44 [.sl 2 0 2 1 false] bs [o0,o1,.cells [.int .i64 a,.int .i64 b] 0 false]=some (.int .i64 (if a=0 then b else a),[o0,o1,.cells [.int .i64 a,.int .i64 b] 0 false]):=
 call_scal (af:=c44) (args':=[.isl [.int .i64 a,.int .i64 b] false]) rfl rfl rfl (or16 a b) rfl rfl rfl
theorem newer_ok (x y:GF):pureT T c26 [x.enc,y.enc]=some (.bool (newer x y)):=by
 have h1:=fun bs σ=>call68 x.start y.start bs σ
 have h2:=fun bs σ=>call68 x.seq y.seq bs σ
 apply pure_enter (by simp [c26])
 simp [c26,GF.enc_eq,h1,h2,callOr16,chkO_l,objOf,newer]
 unfold cmpI
 refine ⟨?_,?_⟩ <;> (repeat' split) <;> omega
theorem callNewer (x y:GF) (bs:Nat) (σ:Heap):callT T 26 [x.enc,y.enc] bs σ=some (.bool (newer x y),σ):=call_clean rfl rfl rfl (by simp) (newer_ok x y)
theorem merge16 (L:List GW) (h1:L.length≤1000000) (h2:∀ y∈L,y.args≠[]∧GV.sizes y.args≤1000000000):∃ K:List GW,∀ bs σ,callT T 22 [.isl (L.map GW.enc) false] bs σ=some (.isl (K.map GW.enc) false,σ):=by
 by_cases e:L=[]
 ·subst e; exact ⟨[],fun bs σ=>call_clean rfl rfl rfl (by simp) merge_none⟩
 ·obtain ⟨K,_,_,_,h⟩:=merge_some L e (by omega) h2
  exact ⟨K,fun bs σ=>call_clean rfl rfl rfl (by simp) h⟩
structure PutOk (x:GF):Prop where
 ok:FOk x
 sz:SzF x
 rows:x.rows.length≤1000000
 args:∀ y∈x.rows,y.args≠[]∧GV.sizes y.args≤1000000000
theorem put_ok {x:GF} (hx:PutOk x) {L:List GF} {σ:Heap} {b m:Nat} (hb:BoxAt σ b m x.to L) (bs:Nat):∃ y:GF,y.frm=x.frm∧y.start=x.start∧y.seq=x.seq ∧
  callT T 12 [.ptr b 0,x.enc] bs σ=(match lookB L x.frm with
   | some o=>if newer x o=true then some (.bool true,σ.set m (.mp (encB (putB L y)))) else some (.bool false,σ)
   | none=>some (.bool true,σ.set m (.mp (encB (putB L y))))):=by
 obtain ⟨K,hK⟩:=merge16 x.rows hx.rows hx.args
 refine ⟨{x with rows:=K},rfl,rfl,rfl,?_⟩
 obtain ⟨h1,h2,h3⟩:=hb
 have hl:=fun bs σ=>callLay hx.sz hx.ok bs σ
 have hb1:b<σ.length:=(zqI.1 h1).1
 have hm1:m<σ.length:=(zqI.1 h2).1
 have hn:=fun o bs σ=>callNewer x o bs σ
 have g0:∀ o:AObj,(σ++[o])[b]?=some (.cells [.str x.to,.map m] 0 false):=fun o=>by rw [zqA hb1]; exact h1
 have hml:∀ τ,mlookA (σ++τ) false [2] zeroB true (.map m) (.str x.frm)=some (.tup [(match lookB L x.frm with | some y=>y.enc | none=>zeroB),.bool (lookB L x.frm).isSome]):=fun τ=>mlook_b (by rw [zqA hm1]; exact h2) _
 have hms:∀ τ,msetA (σ++τ) false [2] (.map m) (.str x.frm) (.agg [.str x.frm,.str x.to,.int .i64 x.start,.int .i64 x.seq,.isl (K.map GW.enc) false])=some ((σ++τ).set m (.mp (encB (putB L {x with rows:=K})))):=fun τ=>mset_b (y:={x with rows:=K}) (by rw [zqA hm1]; exact h2)
 have htk:∀ (τ:Heap) (o:AObj),((σ++τ).set m o).take σ.length=σ.set m o:=fun τ o=>by rw [List.set_append_left _ _ hm1,List.take_append_of_le_length (by simp),List.take_of_length_le (by simp)]
 cases hlk:lookB L x.frm with
 | none=>
  refine heap_enter (af:=c12) (args':=[.ptr b 0,x.enc]) (σ1:=σ) rfl rfl (by simp [c12]) (by simp [c12]) rfl ?_
  rw [GF.enc_eq] at hl ⊢
  rw [hlk] at hml
  simp [c12,baseA,hl,-getElem?_pos,h1,h2,hb1,hm1,hml,hms,hK,setRun,zqE,zqD,zqA,zqB,List.set_append_right,dropA_gc,refLt,refLt2_bool,List.take_append_of_le_length,List.take_of_length_le,htk,hlk]
 | some o=>
  rw [hlk] at hml
  have hno:=hn o
  cases hnw:newer x o with
  | true=>
   rw [hnw] at hno
   simp only [hnw,if_true,if_false,Bool.false_eq_true]
   refine heap_enter (af:=c12) (args':=[.ptr b 0,x.enc]) (σ1:=σ) rfl rfl (by simp [c12]) (by simp [c12]) rfl ?_
   rw [GF.enc_eq] at hl ⊢
   simp only [GF.enc_eq] at hno hml
   simp [c12,baseA,hl,-getElem?_pos,h1,h2,hb1,hm1,hml,hms,hK,setRun,zqE,zqD,zqA,zqB,List.set_append_right,dropA_gc,refLt,refLt2_bool,List.take_append_of_le_length,List.take_of_length_le,htk,hlk,hno]
  | false=>
   rw [hnw] at hno
   simp only [hnw,if_true,if_false,Bool.false_eq_true]
   refine heap_enter (af:=c12) (args':=[.ptr b 0,x.enc]) (σ1:=σ) rfl rfl (by simp [c12]) (by simp [c12]) rfl ?_
   rw [GF.enc_eq] at hl ⊢
   simp only [GF.enc_eq] at hno hml
   simp [c12,baseA,hl,-getElem?_pos,h1,h2,hb1,hm1,hml,hms,hK,setRun,zqE,zqD,zqA,zqB,List.set_append_right,dropA_gc,refLt,refLt2_bool,List.take_append_of_le_length,List.take_of_length_le,htk,hlk,hno]
open Go.Mach
theorem awake16_ev:evalFn T 300 8 [] 0 []=some (.bool true,[]):=by kernel_rfl
theorem awake16_ok:pureT T c8 []=some (.bool true):=pureT_of_call rfl rfl rfl rfl (callT_of_eval awake16_ev)
theorem callAwake16 (bs:Nat) (σ:Heap):callT T 8 [] bs σ=some (.bool true,σ):=call_clean rfl rfl rfl rfl awake16_ok
open Go.Mach
theorem newest_ok {L : List GF} {σ : Heap} {b m : Nat} {place : ByteArray} (hb : BoxAt σ b m place L) (a : ByteArray) (bs : Nat) : callT T 13 [.ptr b 0, .str a] bs σ = some ((match lookB L a with
      | some y => .tup [.int .i64 y.start, .int .i64 y.seq, .bool true]
      | none => .tup [.int .i64 0, .int .i64 0, .bool false]), σ) := by
  obtain ⟨h1, h2, h3⟩ := hb
  have hb1 : b < σ.length := (zqI.1 h1).1
  have hm1 : m < σ.length := (zqI.1 h2).1
  have hml := mlook_b h2 a
  have hrt : ∀ x y z : AV, refLt σ.length (.tup [x, y, z]) = (refLt2 σ.length x && (refLt2 σ.length y && (refLt2 σ.length z && true))) := fun x y z => rfl
  refine heap_enter (af := c13) (args' := [.ptr b 0, .str a]) (σ1 := σ) rfl rfl (by simp [c13]) (by simp [c13]) rfl ?_
  cases hlk : lookB L a with
  | none =>
    rw [hlk] at hml
    simp [c13, baseA, -getElem?_pos, h1, hml, setRun, zqE, zqD, zqA, zqB, List.set_append_right, dropA_gc, hrt, refLt2_bool, refLt2_int, List.take_append_of_le_length, List.take_of_length_le]
  | some y =>
    rw [hlk] at hml
    simp only [GF.enc_eq] at hml
    simp [c13, baseA, -getElem?_pos, h1, hml, setRun, zqE, zqD, zqA, zqB, List.set_append_right, dropA_gc, hrt, refLt2_bool, refLt2_int, List.take_append_of_le_length, List.take_of_length_le]
theorem new_ok (bs:Nat) (σ:Heap):callT T 9 [.str ⟨#[98]⟩] bs σ=some (.ptr (σ.length+1) 0,σ++[.mp [],.cells [.str ⟨#[98]⟩,.map σ.length] 0 false]):=by
 have hn:∀ bs σ,callT T 23 [.str ⟨#[98]⟩] bs σ=some (.bool true,σ):=fun bs σ=>by
  have:=name_ok ⟨#[98]⟩ (by decide)
  rw [nameBb] at this
  exact call_clean rfl rfl rfl rfl this
 refine heap_enter (af:=c9) (args':=[.str ⟨#[98]⟩]) (σ1:=σ) rfl rfl (by simp [c9]) (by simp [c9]) (by simp [closeArgs,c9]) ?_
 simp [c9,baseA,hn,setRun]
open Go.Mach
theorem lookB_append (L:List GF) (y:GF) (a:ByteArray):lookB (L++[y]) a=(match lookB L a with | some o=>some o | none=>if y.frm=a then some y else none):=by
 unfold lookB
 rw [List.find?_append]
 cases L.find? (fun y=>decide (y.frm=a)) with
 | some o=>rfl
 | none=>by_cases h:y.frm=a <;> simp [h]
theorem lookB_set (L:List GF) (y:GF) (a:ByteArray) (h:(lookB L y.frm).isSome=true):lookB (L.set (idxB y.frm L) y) a=if y.frm=a then some y else lookB L a:=by
 induction L with
 | nil=>cases h
 | cons p L ih=>
  have e1:idxB y.frm (p :: L)=if y.frm=p.frm then 0 else idxB y.frm L+1:=rfl
  rw [e1]
  unfold lookB at h ih ⊢
  by_cases hp:y.frm=p.frm
  ·rw [if_pos hp,List.set_cons_zero,List.find?_cons,List.find?_cons]
   by_cases ha:y.frm=a
   ·simp [ha]
   ·have:¬ p.frm=a:=fun e=>ha (hp.trans e)
    simp [ha,this]
  ·have hp':¬ p.frm=y.frm:=fun e=>hp e.symm
   rw [List.find?_cons] at h
   simp only [decide_eq_false hp'] at h
   have:=ih h
   rw [if_neg hp,List.set_cons_succ,List.find?_cons,List.find?_cons,this]
   by_cases hpa:p.frm=a
   ·have:¬ y.frm=a:=fun e=>hp (e.trans hpa.symm)
    simp [hpa,this]
   ·simp [hpa]
theorem lookB_put (L:List GF) (y:GF) (a:ByteArray):lookB (putB L y) a=if y.frm=a then some y else lookB L a:=by
 unfold putB
 cases h:lookB L y.frm with
 | some o=>exact lookB_set L y a (by rw [h]; rfl)
 | none=>
  simp only []
  rw [lookB_append]
  by_cases ha:y.frm=a
  ·subst ha; simp [h]
  ·rw [if_neg ha,if_neg ha]; cases lookB L a <;> rfl
theorem nmX_inj {i j:Nat} (hi:i<3) (hj:j<3):nmX i=nmX j↔i=j:=by
 match i,j,hi,hj with
 | 0,0,_,_=>decide
 | 0,1,_,_=>decide
 | 0,2,_,_=>decide
 | 1,0,_,_=>decide
 | 1,1,_,_=>decide
 | 1,2,_,_=>decide
 | 2,0,_,_=>decide
 | 2,1,_,_=>decide
 | 2,2,_,_=>decide
def bestOf (L:List GF) (k:Nat):Int:=match lookB L (nmX k) with
 | some y=>10 * y.start+y.seq
 | none=>-1
def smallB (L:List GF):Prop:=∀ a y,lookB L a=some y→0≤y.start∧y.start≤2∧0≤y.seq∧y.seq≤3
def NInv (L:List GF) (τ:Heap):Prop:=τ[0]?=some (.mp (encB L))∧τ[1]?=some (.cells [.str ⟨#[98]⟩,.map 0] 0 false)∧τ[2]?=some (.cells [.int .i64 (bestOf L 0),.int .i64 (bestOf L 1),.int .i64 (bestOf L 2)] 0 false)∧smallB L
theorem newer_iff {x o:GF} (h1:0≤x.seq∧x.seq≤3) (h2:0≤o.seq∧o.seq≤3):newer x o=decide (10 * o.start+o.seq<10 * x.start+x.seq):=by
 unfold newer; rw [decide_eq_decide]; omega
theorem bestOf_put {L:List GF} {y:GF} {k j:Nat} (hk:k<3) (hj:j<3) (hy:y.frm=nmX k):bestOf (putB L y) j=if j=k then 10 * y.start+y.seq else bestOf L j:=by
 unfold bestOf
 rw [lookB_put,hy]
 by_cases h:j=k
 ·subst h; simp
 ·rw [if_neg (fun e=>h ((nmX_inj hk hj).1 e).symm),if_neg h]
theorem small_put {L:List GF} {y:GF} (h:smallB L) (hy:0≤y.start∧y.start≤2∧0≤y.seq∧y.seq≤3):smallB (putB L y):=fun a z hz=>by
 rw [lookB_put] at hz
 split at hz
 ·injection hz with hz; subst hz; exact hy
 ·exact h a z hz
open Go.Mach
theorem put_best {x:GX} {b:GF} (hb:XB x b) {L:List GF} (hsm:smallB L) {k:Nat} (hk:k=pickN x.frm 3) {σ:Heap} (h0:σ[0]?=some (.mp (encB L))) (h1:σ[1]?=some (.cells [.str ⟨#[98]⟩,.map 0] 0 false)) (bs:Nat) :
  ∃ L',callT T 12 [.ptr 1 0,b.enc] bs σ=some (.bool (sym (decide (bestOf L k<10 * b.start+b.seq))),σ.set 0 (.mp (encB L')))∧smallB L'∧(∀ j,j<3→bestOf L' j=if j=k then max (bestOf L k) (10 * b.start+b.seq) else bestOf L j) ∧
   ∃ y,lookB L' (nmX k)=some y∧10 * y.start+y.seq=max (bestOf L k) (10 * b.start+b.seq):=by
 have hk3:k<3:=by rw [hk]; exact pickN_lt (by omega)
 have hs1:=pickN_lt (c:=x.start) (n:=3) (by omega)
 have hs2:=pickN_lt (c:=x.seq) (n:=4) (by omega)
 have e1:=hb.start
 have e2:=hb.seq
 have e3:b.frm=nmX k:=by rw [hk]; exact hb.frm
 have e4:=hb.to
 obtain ⟨y,y1,y2,y3,hp⟩:=put_ok (x:=b) ⟨hb.ok,hb.sz,by have:=hb.rows; omega,fun y hy=>⟨(hb.args y hy).1,by have:=(hb.args y hy).2; omega⟩⟩ (L:=L) (σ:=σ) (b:=1) (m:=0) ⟨by rw [e4]; exact h1,h0,by omega⟩ bs
 have hyf:y.frm=nmX k:=by rw [y1,e3]
 have hyr:0≤y.start∧y.start≤2∧0≤y.seq∧y.seq≤3:=by omega
 have hlp:lookB (putB L y) (nmX k)=some y:=by rw [lookB_put,if_pos hyf]
 have hset:σ.set 0 (.mp (encB L))=σ:=list_set_same h0
 rw [e3] at hp
 have hbp:∀ j,j<3→bestOf (putB L y) j=if j=k then 10 * y.start+y.seq else bestOf L j:=fun j hj=>bestOf_put hk3 hj hyf
 cases hlk:lookB L (nmX k) with
 | none=>
  rw [hlk] at hp
  have hbk:bestOf L k=-1:=by unfold bestOf; rw [hlk]
  refine ⟨putB L y,?_,small_put hsm hyr,fun j hj=>?_,y,hlp,by omega⟩
  ·rw [hp,hbk,decide_eq_true (by omega)]; rfl
  ·rw [hbp j hj]; split
   ·omega
   ·rfl
 | some o=>
  rw [hlk] at hp
  have hor:=hsm _ _ hlk
  have hbk:bestOf L k=10 * o.start+o.seq:=by unfold bestOf; rw [hlk]
  have hnw:=newer_iff (x:=b) (o:=o) (by omega) (by omega)
  simp only [hnw,←hbk] at hp
  by_cases hlt:bestOf L k<10 * b.start+b.seq
  ·rw [decide_eq_true hlt] at hp ⊢
   simp only [if_true] at hp
   refine ⟨putB L y,hp,small_put hsm hyr,fun j hj=>?_,y,hlp,by omega⟩
   rw [hbp j hj]; split
   ·omega
   ·rfl
  ·rw [decide_eq_false hlt] at hp ⊢
   simp only [Bool.false_eq_true,if_false] at hp
   refine ⟨L,by rw [hset]; exact hp,hsm,fun j hj=>?_,o,hlk,by omega⟩
   split
   ·rename_i e; subst e; omega
   ·rfl
set_option maxRecDepth 100000 in
theorem newest_law (l:List GX) (hl:XsOk l):pureT T c3 [.isl (l.map GX.enc) false]=some (.bool true):=by
 obtain ⟨hok,hlen⟩:=hl
 apply pure_enter (by simp [c3])
 simp [c3,callAwake16,new_ok,setRun]
 refine W_for T 0 89 (min 20 l.length) (fun i f τ=>f 0=.isl (l.map GX.enc) false∧f 4=.ptr 1 0∧f 5=.sl 2 0 3 1 false∧f 6=.int .i64 (i:Int)∧∃ L,NInv L τ) ?_ _ _ ?_
 ·rintro i f τ hi ⟨f0,f4,f5,f6,L,t0,t1,t2,hsm⟩
  by_cases hlt:i<min 20 l.length
  ·have hl1:i<l.length:=by omega
   have hl2:(i:Int)<20:=by omega
   have w1:IntKind.i64.wrap ((i:Int)+1)=(i:Int)+1:=wr64 (by omega) (by omega)
   obtain ⟨x,hx⟩:∃ x,x=l[i]:=⟨_,rfl⟩
   have hxo:x.ok:=by rw [hx]; exact hok _ (zqT hl1)
   obtain ⟨b,hb,hcb⟩:=batch16 x hxo
   have cb:∀ bs σ,callT T 10 [x.enc] bs σ=some (b.enc,σ):=fun bs σ=>call_clean rfl rfl rfl (by simp) hcb
   have pk:∀ bs σ,callT T 11 [.int .i64 x.frm,.int .i64 3] bs σ=some (.int .i64 (pickN x.frm 3:Int),σ):=fun bs σ=>pick16 x.frm 3 (by omega) hxo.1 bs σ
   have hk:=pickN_lt (c:=x.frm) (n:=3) (by omega)
   have hs1:=pickN_lt (c:=x.start) (n:=3) (by omega)
   have hs2:=pickN_lt (c:=x.seq) (n:=4) (by omega)
   have e1:=hb.start
   have e2:=hb.seq
   have e3:=hb.frm
   obtain ⟨k,hkd⟩:∃ k,k=pickN x.frm 3:=⟨_,rfl⟩
   obtain ⟨fr,to,st,sq,rows⟩:=b
   simp only at e1 e2 e3
   obtain ⟨bo,hbo⟩:∃ bo:AObj,bo=.cells [.str fr,.str to,.int .i64 st,.int .i64 sq,.isl (rows.map GW.enc) false] 0 false:=⟨_,rfl⟩
   have l0:0<τ.length:=(zqI.1 t0).1
   have l1:1<τ.length:=(zqI.1 t1).1
   have l2:2<τ.length:=(zqI.1 t2).1
   obtain ⟨L',hput,hsm',hbest,y,hy1,hy2⟩:=put_best hb hsm hkd (σ:=τ++[bo]) (by rw [zqA l0]; exact t0) (by rw [zqA l1]; exact t1) 0
   obtain ⟨τ',hτ'⟩:∃ τ',τ'=(τ++[bo]).set 0 (.mp (encB L')):=⟨_,rfl⟩
   rw [←hτ'] at hput
   have q0:τ'[0]?=some (.mp (encB L')):=by rw [hτ']; simp
   have q1:τ'[1]?=some (.cells [.str ⟨#[98]⟩,.map 0] 0 false):=by rw [hτ',zqC (by omega),zqA l1]; exact t1
   have q2:τ'[2]?=some (.cells [.int .i64 (bestOf L 0),.int .i64 (bestOf L 1),.int .i64 (bestOf L 2)] 0 false):=by rw [hτ',zqC (by omega),zqA l2]; exact t2
   have q3:τ'[τ.length]?=some bo:=by rw [hτ',zqC (by omega),zqB (by omega)]; simp
   have hn1:IntKind.i64.wrap (10 * st)=10 * st:=wr64 (by omega) (by omega)
   have hn2:IntKind.i64.wrap (10 * st+sq)=10 * st+sq:=wr64 (by omega) (by omega)
   rw [GF.enc_eq] at cb hput
   simp only at cb hput hy2 hbest
   rw [GX.enc_eq] at cb
   have hli:l[i]?=some x:=by rw [hx]; exact zqF hl1
   have hk3:k<3:=by rw [hkd]; exact pickN_lt (by omega)
   have hnew:∀ (σ:Heap),σ[0]?=some (.mp (encB L'))→σ[1]?=some (.cells [.str ⟨#[98]⟩,.map 0] 0 false)→∀ bs,callT T 13 [.ptr 1 0,.str (nmX k)] bs σ=some (.tup [.int .i64 y.start,.int .i64 y.seq,.bool true],σ):=fun σ m0 m1 bs=>by
    have:=newest_ok (L:=L') (σ:=σ) (b:=1) (m:=0) ⟨m1,m0,by omega⟩ (nmX k) bs
    rw [hy1] at this; exact this
   have hsy:=hsm' _ _ hy1
   have hy3:IntKind.i64.wrap (10 * y.start)=10 * y.start:=wr64 (by omega) (by omega)
   have hy4:IntKind.i64.wrap (10 * y.start+y.seq)=10 * y.start+y.seq:=wr64 (by omega) (by omega)
   have e3':fr=nmX k:=by rw [e3,hkd]
   subst e3'
   have l0':0<τ'.length:=by rw [hτ']; simp
   have l2':2<τ'.length:=by rw [hτ']; simp; omega
   have b0:=hbest 0 (by omega)
   have b1:=hbest 1 (by omega)
   have b2:=hbest 2 (by omega)
   subst hbo
   have hne2:(2:Nat)≠τ.length:=by omega
   have fin:∀ c0 c1 c2:Int,bestOf L' 0=c0→bestOf L' 1=c1→bestOf L' 2=c2→NInv L' (τ'.set 2 (.cells [.int .i64 c0,.int .i64 c1,.int .i64 c2] 0 false)):=fun c0 c1 c2 e0 e1 e2=>
    ⟨by rw [zqC (by omega)]; exact q0,by rw [zqC (by omega)]; exact q1,by rw [list_set_at l2',e0,e1,e2],hsm'⟩
   obtain rfl | rfl | rfl:k=0∨k=1∨k=2:=by omega
   ·by_cases hlt2:bestOf L 0<10 * st+sq
    ·rw [decide_eq_true hlt2] at hput
     have hy2':10 * y.start+y.seq=10 * st+sq:=by omega
     have b0':bestOf L' 0=10 * st+sq:=by rw [b0]; simp; omega
     have b1':bestOf L' 1=bestOf L 1:=by rw [b1]; simp
     have b2':bestOf L' 2=bestOf L 2:=by rw [b2]; simp
     simp [-getElem?_pos,f0,f4,f5,f6,hl1,hl2,hli,w1,GX.enc_eq,cb,pk,←hkd,setRun,zqA,zqB,zqC,list_set_at,List.length_set,List.set_append_right,zqE,zqD,hput,hn1,hn2,hy3,hy4,t0,t1,t2,l0,l1,l2,l0',l2',q0,q1,q2,q3,hnew,chkO_l,objOf,window,mk,sym,hlt2,hy2',maxA,maxF,hne2]
     exact ⟨hlt,L',fin _ _ _ b0' b1' b2'⟩
    ·rw [decide_eq_false hlt2] at hput
     have hy2':10 * y.start+y.seq=bestOf L 0:=by omega
     have b0':bestOf L' 0=bestOf L 0:=by rw [b0]; simp; omega
     have b1':bestOf L' 1=bestOf L 1:=by rw [b1]; simp
     have b2':bestOf L' 2=bestOf L 2:=by rw [b2]; simp
     have hwb:IntKind.i64.wrap (bestOf L 0)=bestOf L 0:=wr64 (by omega) (by omega)
     simp [-getElem?_pos,f0,f4,f5,f6,hl1,hl2,hli,w1,GX.enc_eq,cb,pk,←hkd,setRun,zqA,zqB,zqC,list_set_at,List.length_set,List.set_append_right,zqE,zqD,hput,hn1,hn2,hy3,hy4,t0,t1,t2,l0,l1,l2,l0',l2',q0,q1,q2,q3,hnew,chkO_l,objOf,window,mk,sym,hlt2,hy2',maxA,maxF,hne2,hwb]
     exact ⟨hlt,L',fin _ _ _ b0' b1' b2'⟩
   ·by_cases hlt2:bestOf L 1<10 * st+sq
    ·rw [decide_eq_true hlt2] at hput
     have hy2':10 * y.start+y.seq=10 * st+sq:=by omega
     have b1':bestOf L' 1=10 * st+sq:=by rw [b1]; simp; omega
     have b0':bestOf L' 0=bestOf L 0:=by rw [b0]; simp
     have b2':bestOf L' 2=bestOf L 2:=by rw [b2]; simp
     simp [-getElem?_pos,f0,f4,f5,f6,hl1,hl2,hli,w1,GX.enc_eq,cb,pk,←hkd,setRun,zqA,zqB,zqC,list_set_at,List.length_set,List.set_append_right,zqE,zqD,hput,hn1,hn2,hy3,hy4,t0,t1,t2,l0,l1,l2,l0',l2',q0,q1,q2,q3,hnew,chkO_l,objOf,window,mk,sym,hlt2,hy2',maxA,maxF,hne2]
     exact ⟨hlt,L',fin _ _ _ b0' b1' b2'⟩
    ·rw [decide_eq_false hlt2] at hput
     have hy2':10 * y.start+y.seq=bestOf L 1:=by omega
     have b1':bestOf L' 1=bestOf L 1:=by rw [b1]; simp; omega
     have b0':bestOf L' 0=bestOf L 0:=by rw [b0]; simp
     have b2':bestOf L' 2=bestOf L 2:=by rw [b2]; simp
     have hwb:IntKind.i64.wrap (bestOf L 1)=bestOf L 1:=wr64 (by omega) (by omega)
     simp [-getElem?_pos,f0,f4,f5,f6,hl1,hl2,hli,w1,GX.enc_eq,cb,pk,←hkd,setRun,zqA,zqB,zqC,list_set_at,List.length_set,List.set_append_right,zqE,zqD,hput,hn1,hn2,hy3,hy4,t0,t1,t2,l0,l1,l2,l0',l2',q0,q1,q2,q3,hnew,chkO_l,objOf,window,mk,sym,hlt2,hy2',maxA,maxF,hne2,hwb]
     exact ⟨hlt,L',fin _ _ _ b0' b1' b2'⟩
   ·by_cases hlt2:bestOf L 2<10 * st+sq
    ·rw [decide_eq_true hlt2] at hput
     have hy2':10 * y.start+y.seq=10 * st+sq:=by omega
     have b2':bestOf L' 2=10 * st+sq:=by rw [b2]; simp; omega
     have b0':bestOf L' 0=bestOf L 0:=by rw [b0]; simp
     have b1':bestOf L' 1=bestOf L 1:=by rw [b1]; simp
     simp [-getElem?_pos,f0,f4,f5,f6,hl1,hl2,hli,w1,GX.enc_eq,cb,pk,←hkd,setRun,zqA,zqB,zqC,list_set_at,List.length_set,List.set_append_right,zqE,zqD,hput,hn1,hn2,hy3,hy4,t0,t1,t2,l0,l1,l2,l0',l2',q0,q1,q2,q3,hnew,chkO_l,objOf,window,mk,sym,hlt2,hy2',maxA,maxF,hne2]
     exact ⟨hlt,L',fin _ _ _ b0' b1' b2'⟩
    ·rw [decide_eq_false hlt2] at hput
     have hy2':10 * y.start+y.seq=bestOf L 2:=by omega
     have b2':bestOf L' 2=bestOf L 2:=by rw [b2]; simp; omega
     have b0':bestOf L' 0=bestOf L 0:=by rw [b0]; simp
     have b1':bestOf L' 1=bestOf L 1:=by rw [b1]; simp
     have hwb:IntKind.i64.wrap (bestOf L 2)=bestOf L 2:=wr64 (by omega) (by omega)
     simp [-getElem?_pos,f0,f4,f5,f6,hl1,hl2,hli,w1,GX.enc_eq,cb,pk,←hkd,setRun,zqA,zqB,zqC,list_set_at,List.length_set,List.set_append_right,zqE,zqD,hput,hn1,hn2,hy3,hy4,t0,t1,t2,l0,l1,l2,l0',l2',q0,q1,q2,q3,hnew,chkO_l,objOf,window,mk,sym,hlt2,hy2',maxA,maxF,hne2,hwb]
     exact ⟨hlt,L',fin _ _ _ b0' b1' b2'⟩
  ·have hge:l.length≤i∨¬ (i:Int)<20:=by omega
   by_cases h1:i<l.length
   ·have h2:¬ (i:Int)<20:=by omega
    simp [-getElem?_pos,f0,f4,f5,f6,h1,h2]
   ·simp [-getElem?_pos,f0,f4,f5,f6,h1]
 ·refine ⟨by simp,by simp,by simp,by simp,[],rfl,rfl,rfl,fun a y h=>by cases h⟩
end Go.Proofs.Ytkfiepnkedcmgaa
end
