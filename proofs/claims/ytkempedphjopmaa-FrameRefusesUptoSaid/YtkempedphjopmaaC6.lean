import Derived.Test.YtkempedphjopmaaC5
import Derived.Test.YtkempedphjopmaaC4
set_option linter.unusedVariables false
set_option linter.unusedSimpArgs false
set_option linter.unnecessarySimpa false
section
namespace Go.Mach
theorem LX.closeR {N sz:Nat} {σ:Heap} {es:List AV} {x:AV} (h:LX N sz σ es x):∃ σ',Go.Mach.closeR σ x=some (.isl es false,σ'):=by
 obtain ⟨σ',h1,-⟩:=h.close
 have h2:=close1_of0 h1
 rcases h with ⟨rfl,rfl⟩ | ⟨k,cs,fz,rfl,_⟩ | ⟨k,rfl,_⟩ <;> exact ⟨σ',h2⟩
end Go.Mach
namespace Go.Proofs.Ytkempedphjopmaa
open Go.Mach
theorem pick15_ok (c n:Int) (h:n≠0):pureT T c12 [.int .i64 c,.int .i64 n]=some (.int .i64 ((if c<0 then IntKind.i64.wrap (0 - IntKind.i64.wrap (c+1)) else c).tmod n)):=by
 apply pure_enter (by simp [c12])
 by_cases hc:c<0
 ·simp [c12,hc,h]
 ·simp [c12,hc,h]
theorem pick15 (c:Int) (n:Nat) (h:0<n) (h1:GV.i64ok c) (bs:Nat) (σ:Heap) :
  callT T 12 [.int .i64 c,.int .i64 (n:Int)] bs σ=some (.int .i64 (pickN c n:Int),σ):=by
 refine call_clean rfl rfl rfl rfl ?_
 rw [pick15_ok c n (by omega),pick_eq c n h h1.1 h1.2]
theorem pick10_ok (c n:Int) (h:n≠0):pureT T c46 [.int .i64 c,.int .i64 n]=some (.int .i64 ((if c<0 then IntKind.i64.wrap (0 - IntKind.i64.wrap (c+1)) else c).tmod n)):=by
 apply pure_enter (by simp [c46])
 by_cases hc:c<0
 ·simp [c46,hc,h]
 ·simp [c46,hc,h]
theorem pick10 (c:Int) (n:Nat) (h:0<n) (h1:GV.i64ok c) (bs:Nat) (σ:Heap) :
  callT T 46 [.int .i64 c,.int .i64 (n:Int)] bs σ=some (.int .i64 (pickN c n:Int),σ):=by
 refine call_clean rfl rfl rfl rfl ?_
 rw [pick10_ok c n (by omega),pick_eq c n h h1.1 h1.2]
theorem pick10_9 (c:Int) (h1:GV.i64ok c) (bs:Nat) (σ:Heap):callT T 46 [.int .i64 c,.int .i64 9] bs σ=some (.int .i64 (pickN c 9:Int),σ):=pick10 c 9 (by omega) h1 bs σ
def rowX (x:GRaw):GW:=⟨(factR x).name,(factR x).args,(pickN x.n3 9:Int)⟩
def rowsX (l:List GRaw):List GW:=(l.take 40).map rowX
theorem rows10_ok (facts:List GRaw) (hx:FactsOk facts):pureT T c28 [.isl (facts.map GRaw.enc) false]=some (.isl ((rowsX facts).map GW.enc) false):=by
 obtain ⟨hok,hlen⟩:=hx
 have hrl:(rowsX facts).length=min 40 facts.length:=by simp [rowsX]
 apply pure_enter (by simp [c28])
 simp [c28]
 refine W_for T 0 37 (min 40 facts.length) (fun i f τ=>f 0=.isl (facts.map GRaw.enc) false∧f 4=.int .i64 (i:Int)∧∃ l,f 3=l∧LX 0 3 τ (((rowsX facts).take i).map GW.enc) l) ?_ _ _ ?_
 ·rintro i f τ hi ⟨f0,f4,l,f3,Li⟩
  by_cases hlt:i<min 40 facts.length
  ·have hl1:i<facts.length:=by omega
   have hl2:(i:Int)<40:=by omega
   have w1:IntKind.i64.wrap ((i:Int)+1)=(i:Int)+1:=wr64 (by omega) (by omega)
   have hk:=hok _ (zqT hl1)
   have hc:=callFact6 facts[i] hk
   rw [GRaw.enc_eq] at hc
   have hp:=pick10_9 facts[i].n3 hk.2.2.2.2.2
   have hrx:(rowsX facts)[i]?=some (rowX facts[i]):=by simp [rowsX,hl1,show i<40 by omega]
   simp [f0,f3,f4,hl1,hl2,w1,hc,GU.enc_eq,setRun,hp,chkO_l,objOf,GRaw.enc_eq,-appendA_ag]
   refine stW_app2 (N:=0) Li rfl rfl (by omega) (by omega) (by omega) (by simp; omega) fun x' σ' hL' hlen' hk'=>?_
   have e:((rowsX facts).take i).map GW.enc++[AV.agg (List.map AV.nrm [.str (factR facts[i]).name,.isl (GV.encs (factR facts[i]).args) false,.int .i64 (pickN facts[i].n3 9:Int)])]=((rowsX facts).take (i+1)).map GW.enc:=by
    rw [List.take_add_one,hrx]; simp [GW.enc,GW.cls,rowX]
   rw [e] at hL'
   simp [f0,f4,w1,hlt]
   rw [List.map_take] at hL'
   exact hL'
  ·have he:i=min 40 facts.length:=by omega
   have hrt:(rowsX facts).take i=rowsX facts:=List.take_of_length_le (by omega)
   rw [hrt] at Li
   obtain ⟨τ6,hcl⟩:=Li.closeR
   by_cases h1:i<facts.length
   ·have h2:¬ (i:Int)<40:=by omega
    simp [f0,f3,f4,h1,h2,hcl]
   ·simp [f0,f3,f4,h1,hcl]
 ·exact ⟨by simp,by simp,.isl [] true,by simp,.inl ⟨by simp,rfl⟩⟩
end Go.Proofs.Ytkempedphjopmaa
end
section
namespace Go.Mach
theorem LX.isl {N sz bytes:Nat} {b:Bool} {σ:Heap} {es:List AV} {x:AV} (h:LX N sz σ es x) (ys:List AV) (hok:ys.all (okEl sz true)=true) (hl:es.length+ys.length≤1000000000) (h0:0<sz) (hb:bytes≤1000) (hN:N≤σ.length) :
  ∃ x' σ',appendC σ sz true bytes false x (.isl ys b)=some (x',σ')∧LX N sz σ' (es++ys) x'∧σ.length≤σ'.length∧∀ (i:Nat) (o:AObj),σ[i]?=some o→(i<N∨((∀ n,o≠.tok n sz)∧∀ cs fz,o=.cells cs fz false→cs.length≠sz))→σ'[i]?=some o:=by
 rw [appendC_isl]
 have he2:elemsN σ sz true (.isl ys b)=some ys:=rfl
 rcases h with ⟨rfl,rfl⟩ | ⟨k,cs,fz,rfl,hkN,hk,hcl,hcc,rfl⟩ | ⟨k,rfl,hkN,hk,hes⟩
 ·rw [closeS_isl]
  by_cases hy:ys=[]
  ·subst hy
   refine ⟨.isl [] true,σ,by simp [appendA,elemsN,elemsA,isSl],.inl ⟨rfl,rfl⟩,Nat.le_refl _,fun i o h _=>h⟩
  ·have he1:elemsA σ sz true (.isl [] true)=some []:=rfl
   have hmul:(0+ys.length) * bytes≤1000000000 * 1000:=Nat.mul_le_mul (by simpa using hl) hb
   have hn:¬ (sz=0∨(0+ys.length) * bytes > 70368744177664∨0+ys.length > 70368744177664):=by simp at hl; omega
   refine ⟨.own σ.length ys,σ++[.tok ys.length sz],?_,.inr (.inr ⟨σ.length,by simp,hN,by simp,by simpa using hok⟩),by simp,fun i o h _=>by rw [zqA (zqI.1 h).1]; exact h⟩
   simp only [appendA,he1,he2,Option.bind_some,isSl,if_neg hy,List.length_nil,if_neg hn]
   simp [hok]
 ·obtain ⟨c1,c2⟩:=LX.closeS_len (σ:=σ) k sz
  have hkl:=(zqI.1 hk).1
  have tidyN:∀ l:List AV,l.all AV.tidy=true→l.map AV.nrm=l:=fun l hl=>by
   rw [zqQ] at hl
   rw [List.map_congr_left (g:=fun y=>y) (fun x hx=>?_),List.map_id']
   have:=hl x hx
   cases x with
   | isl es b=>cases b with
    | true=>cases this
    | false=>rfl
   | _=>rfl
  have k1:∃ fz',(closeS σ (.sl k 0 1 sz true))[k]?=some (.cells (cs.map AV.nrm) fz' false):=by
   simp only [closeS,hk]
   split
   ·exact ⟨fz,by simp [hkl]⟩
   ·rename_i hn
    have:cs.all AV.tidy=true:=by
     cases h:cs.all AV.tidy with
     | true=>rfl
     | false=>exact absurd ⟨h,hcc⟩ hn
    rw [tidyN cs this]; exact ⟨fz,hk⟩
  obtain ⟨fz',k1⟩:=k1
  have hkeep:∀ (i:Nat) (o:AObj),σ[i]?=some o→(i<N∨((∀ n,o≠.tok n sz)∧∀ cs fz,o=.cells cs fz false→cs.length≠sz))→(closeS σ (.sl k 0 1 sz true))[i]?=some o:=fun i o hi h12=>by
   have hne:i≠k:=by
    rintro rfl
    rw [hk] at hi; injection hi with hi
    rcases h12 with h | ⟨_,h2⟩
    ·omega
    ·exact h2 cs fz hi.symm hcl
   rw [c2 i hne]; exact hi
  have hnn:((cs.map AV.nrm).map AV.nrm)=cs.map AV.nrm:=by
   rw [List.map_map]; apply List.map_congr_left; intro x _
   cases x <;> rfl
  have hcl':(cs.map AV.nrm).length=sz:=by simpa using hcl
  have hcc':=nrm_all hcc
  generalize closeS σ (.sl k 0 1 sz true)=τ at *
  by_cases hy:ys=[]
  ·subst hy
   refine ⟨.sl k 0 1 sz true,τ,?_,.inr (.inl ⟨k,cs.map AV.nrm,fz',rfl,hkN,k1,hcl',hcc',by rw [hnn]; simp⟩),by omega,hkeep⟩
   have e1:=elems_ag1 k1 hcl'
   simp [appendA,elemsN,elemsA,isSl] at e1 ⊢
   simp [e1]
  ·have e1:=elems_ag1 k1 hcl'
   have he2':elemsN τ sz true (.isl ys b)=some ys:=rfl
   have hmul:(1+ys.length) * bytes≤1000000000 * 1000:=Nat.mul_le_mul (by simpa using hl) hb
   have hn:¬ (sz=0∨(1+ys.length) * bytes > 70368744177664∨1+ys.length > 70368744177664):=by simp at hl; omega
   have o1:okEl sz true (.agg (cs.map AV.nrm))=true:=by simp only [okEl,AV.clo,hcc',AV.cells,hcl',decide_true,Bool.and_self]
   refine ⟨.own τ.length (.agg (cs.map AV.nrm) :: ys),τ++[.tok (1+ys.length) sz],?_,.inr (.inr ⟨τ.length,rfl,by omega,by simp; omega,by simp [o1]; simpa using hok⟩),by simp; omega,fun i o hi h12=>by
    have:=hkeep i o hi h12
    rw [zqA (zqI.1 this).1]; exact this⟩
   simp only [appendA,e1,he2',Option.bind_some,isSl,if_neg hy,List.length_singleton,if_neg hn,k1]
   simp [hok,o1,hcl]
 ·rw [closeS_own]
  have hkl:=(zqI.1 hk).1
  by_cases hy:ys=[]
  ·subst hy
   exact ⟨.own k es,σ,by simp [appendA,elemsN,elemsA,isSl],.inr (.inr ⟨k,by simp,hkN,by simpa using hk,by simpa using hes⟩),Nat.le_refl _,fun i o h _=>h⟩
  ·have he1:elemsA σ sz true (.own k es)=some es:=rfl
   have hmul:(es.length+ys.length) * bytes≤1000000000 * 1000:=Nat.mul_le_mul hl hb
   have hn:¬ (sz=0∨(es.length+ys.length) * bytes > 70368744177664∨es.length+ys.length > 70368744177664):=by omega
   refine ⟨.own k (es++ys),σ.set k (.tok (es.length+ys.length) sz),?_,.inr (.inr ⟨k,rfl,hkN,by rw [zqJ,List.getElem?_set_self hkl],by simp [List.all_append,hes,hok]⟩),by simp,fun i o hi h12=>?_⟩
   ·simp only [appendA,he1,he2,Option.bind_some,isSl,if_neg hy,if_neg hn,hk]
    simp [hok,hes]
   ·have:k≠i:=by
     rintro rfl
     rw [hk] at hi; injection hi with hi
     rcases h12 with h | ⟨h1,_⟩
     ·omega
     ·exact h1 _ hi.symm
    rw [zqC this]; exact hi
theorem LX.put {N sz j fz:Nat} {ext:Bool} {σ:Heap} {es cs:List AV} {x:AV} (h:LX N sz σ es x) (hj:σ[j]?=some (.cells cs fz ext)) (hne:cs.length≠sz) (o:AObj):LX N sz (σ.set j o) es x:=by
 rcases h with h | ⟨k,cs',fz',h1,h2,h3,h4,h5⟩ | ⟨k,h1,h2,h3,h4⟩
 ·exact .inl h
 ·have:j≠k:=by rintro rfl; rw [hj] at h3; injection h3 with h3; injection h3 with h3; subst h3; exact hne h4
  exact .inr (.inl ⟨k,cs',fz',h1,h2,by rw [zqC this]; exact h3,h4,h5⟩)
 ·have:j≠k:=by rintro rfl; rw [hj] at h3; cases h3
  exact .inr (.inr ⟨k,h1,h2,by rw [zqC this]; exact h3,h4⟩)
end Go.Mach
end
section
namespace Go.Proofs.Ytkempedphjopmaa
open Go.Mach
theorem nameFit_le (s:ByteArray):(nameFit s).size≤16:=(nameFit_size s).2
theorem textFit_le (s:ByteArray):(textFit s).size≤s.size:=by
 have h:textFit s=ba ((s.data.toList.take 32).map textC):=rfl
 rw [h,baF_size]
 have:s.data.toList.length=s.size:=by simp
 simp; omega
theorem fitV_size:∀ (d:Nat) (v:GV),(fitV d v).size≤5 * v.size
 | d,.mk k n t l=>by
  have hz:(⟨#[]⟩:ByteArray).size=0:=rfl
  have h1:=nameFit_le t
  have h2:=textFit_le t
  unfold fitV
  split
  ·simp only [GV.size,GV.sizes,hz]; omega
  split
  ·simp only [GV.size,GV.sizes,GV.text]; omega
  split
  ·simp only [GV.size,GV.sizes,GV.text]; omega
  split
  ·simp only [GV.size,GV.sizes,hz]; omega
  ·rename_i d'
   have hs:GV.sizes ((l.take 16).map fun x=>fitV d' (if d'=0∧pickN x.kind 4=3 then .mk 0 x.num x.text x.items else x))≤5 * GV.sizes (l.take 16):=by
    generalize l.take 16=m
    induction m with
    | nil=>simp [GV.sizes]
    | cons x m ih=>
     have hx:=fitV_size d' (if d'=0∧pickN x.kind 4=3 then .mk 0 x.num x.text x.items else x)
     have he:(if d'=0∧pickN x.kind 4=3 then (.mk 0 x.num x.text x.items:GV) else x).size=x.size:=by
      split
      ·cases x; rfl
      ·rfl
     rw [he] at hx
     simp only [List.map_cons,GV.sizes]; omega
   have h16:GV.sizes (l.take 16)≤GV.sizes l:=by
    rw [sizes_sum,sizes_sum,List.map_take]
    generalize l.map GV.size=m
    have:m.sum=(m.take 16).sum+(m.drop 16).sum:=by rw [←List.sum_append,List.take_append_drop]
    omega
   have hz':(GV.mk 4 0 ⟨#[]⟩ ((l.take 16).map fun x=>fitV d' (if d'=0∧pickN x.kind 4=3 then .mk 0 x.num x.text x.items else x))).size=(⟨#[]⟩:ByteArray).size+GV.sizes ((l.take 16).map fun x=>fitV d' (if d'=0∧pickN x.kind 4=3 then .mk 0 x.num x.text x.items else x))+5:=rfl
   have hv':(GV.mk k n t l).size=t.size+GV.sizes l+5:=rfl
   simp only [GV.items]
   rw [hz',hv',hz]; omega
theorem fit_le (v:GV):(fit v).size≤5 * v.size:=fitV_size 4 v
def toV:GV:=.mk 3 0 ⟨#[98]⟩ []
def bRow (more:List GV) (i:Nat) (x:GW):GW:=⟨x.name,toV :: x.args.drop 1++(match more[i]? with | some v=>[fit v] | none=>[]),x.stamp⟩
def bRows (more:List GV) (l:List GW):Nat→List GW
 | 0=>[]
 | i+1=>bRows more l i++(match l[i]? with | some x=>[bRow more i x] | none=>[])
theorem bRows_succ {more:List GV} {l:List GW} {i:Nat} (h:i<l.length):bRows more l (i+1)=bRows more l i++[bRow more i l[i]]:=by
 rw [bRows,zqF h]
theorem bRows_len (more:List GV) (l:List GW):∀ i,i≤l.length→(bRows more l i).length=i
 | 0,_=>rfl
 | i+1,h=>by rw [bRows_succ (by omega),zqJ,bRows_len more l i (by omega)]; rfl
theorem bRows_mem {more:List GV} {l:List GW}:∀ {i:Nat},i≤l.length→∀ {x:GW},x∈bRows more l i→∃ k,∃ h:k<l.length,x=bRow more k l[k]
 | 0,_,x,hx=>by simp [bRows] at hx
 | i+1,h,x,hx=>by
  rw [bRows_succ (by omega)] at hx
  rcases List.mem_append.1 hx with hx | hx
  ·exact bRows_mem (by omega) hx
  ·simp at hx; exact ⟨i,by omega,hx⟩
theorem GV_okEl (l:List GV):(GV.encs l).all (okEl 4 true)=true:=by
 rw [zqQ]; intro x hx
 rw [GV.encs_map] at hx; obtain ⟨v,_,rfl⟩:=List.mem_map.1 hx
 rw [GV.enc_eq]; rfl
theorem sizes_app (a b:List GV):GV.sizes (a++b)=GV.sizes a+GV.sizes b:=by simp [sizes_sum]
theorem sizesW_app (a b:List GW):sizesW (a++b)=sizesW a+sizesW b:=by simp [sizesW_sum]
theorem addrN_size (n:Nat):(addrN n).size≤1:=by
 unfold addrN
 match n with
 | 0=>decide
 | 1=>decide
 | 2=>decide
 | 3=>decide
 | n+4=>simp; decide
theorem fargR_size (x:GRaw) (i:Nat):(fargR x i).size≤6:=by
 have hz:(⟨#[]⟩:ByteArray).size=0:=rfl
 unfold fargR
 split
 ·have:=addrN_size (pickN ((x.at' i).tdiv 2) 4)
  simp only [addrV,GV.size,GV.sizes]; omega
 ·simp only [numV,GV.size,GV.sizes,hz]; omega
theorem rowX_size (x:GRaw):GV.sizes (rowX x).args≤18:=by
 have h:∀ m:List Nat,GV.sizes (m.map (fargR x))≤6 * m.length:=fun m=>by
  induction m with
  | nil=>simp [GV.sizes]
  | cons i m ih=>have:=fargR_size x i; simp only [List.map_cons,GV.sizes,zqU]; omega
 have h2:=h (List.range (relR x).arity.toNat)
 have h3:=(rel_arity x).2.1
 simp at h2
 show GV.sizes ((List.range (relR x).arity.toNat).map (fargR x))≤18
 omega
theorem bRow_size (more:List GV) (i:Nat) (x:GRaw):GV.sizes (bRow more i (rowX x)).args≤24+(match more[i]? with | some v=>5 * v.size | none=>0):=by
 have h1:=rowX_size x
 have h2:GV.sizes ((rowX x).args.drop 1)≤GV.sizes (rowX x).args:=by
  have:GV.sizes (rowX x).args=GV.sizes ((rowX x).args.take 1)+GV.sizes ((rowX x).args.drop 1):=by rw [←sizes_app,List.take_append_drop]
  omega
 have h3:toV.size=6:=by decide
 simp only [bRow]
 rw [List.cons_append,GV.sizes,sizes_app]
 cases h:more[i]? with
 | none=>simp only [GV.sizes]; omega
 | some v=>have:=fit_le v; simp only [GV.sizes]; omega
theorem bRows_size (more:List GV) (facts:List GRaw):∀ i,i≤(rowsX facts).length→sizesW (bRows more (rowsX facts) i)≤24 * i+5 * GV.sizes (more.take i)
 | 0,_=>by simp [bRows,sizesW]
 | i+1,h=>by
  have ih:=bRows_size more facts i (by omega)
  have hxl:(rowsX facts).length=(facts.take 40).length:=by simp [rowsX]
  obtain ⟨y,hy⟩:∃ y,(rowsX facts)[i]'(by omega)=rowX y:=⟨(facts.take 40)[i]'(by omega),by simp [rowsX]⟩
  have hb:=bRow_size more i y
  rw [bRows_succ (by omega),sizesW_app,hy,List.take_add_one (l:=more)]
  simp only [sizesW]
  cases hm:more[i]? with
  | none=>rw [hm] at hb; simp at hb ⊢; omega
  | some v=>rw [hm] at hb; rw [sizes_app]; simp [GV.sizes] at hb ⊢; omega
theorem sizes_take_le (l:List GV) (i:Nat):GV.sizes (l.take i)≤GV.sizes l:=by
 have:GV.sizes l=GV.sizes (l.take i)+GV.sizes (l.drop i):=by rw [←sizes_app,List.take_append_drop]
 omega
theorem sizesW_mem {l:List GW} {x:GW} (h:x∈l):GV.sizes x.args≤sizesW l:=by
 rw [sizesW_sum]; exact mem_le_sum (List.mem_map_of_mem (f:=fun x:GW=>GV.sizes x.args) h)
theorem sizesW_sub:∀ {K L:List GW},K.Nodup→(∀ x∈K,x∈L)→sizesW K≤sizesW L
 | [],_,_,_=>by simp [sizesW]
 | x :: K,L,hn,hs=>by
  obtain ⟨A,B,rfl⟩:=List.append_of_mem (hs x (by simp))
  rw [List.nodup_cons] at hn
  have:=sizesW_sub (K:=K) (L:=A++B) hn.2 fun y hy=>by
   have h:=hs y (by simp [hy])
   rcases List.mem_append.1 h with h | h
   ·exact List.mem_append_left _ h
   ·rcases List.mem_cons.1 h with rfl | h
    ·exact absurd hy hn.1
    ·exact List.mem_append_right _ h
  rw [sizesW_app] at this ⊢
  simp only [sizesW]; omega
def PLoop (s1 s2:Int) (L:List GW) (τ:Heap):Prop:=
 ∃ l,3≤τ.length∧τ[0]?=some (.cells [.str ⟨#[]⟩,.str ⟨#[]⟩,.int .i64 0,.int .i64 0,.isl [] true] 0 false)∧τ[1]?=some (.cells [.str ⟨#[97]⟩,.str ⟨#[98]⟩,.int .i64 s1,.int .i64 s2,l] 0 false)∧τ[2]?=some (.cells [.int .i64 3,.int .i64 0,.str ⟨#[98]⟩,.isl [] true] 0 false)∧LX 3 3 τ (L.map GW.enc) l
set_option maxHeartbeats 1000000 in
theorem batch_ok (facts:List GRaw) (hx:FactsOk facts) (more:List GV) (hm:GV.oks more) (hms:GV.sizes more≤1048576) (start seq:Int) (h1:GV.i64ok start) (h2:GV.i64ok seq) :
  ∃ K:List GW,UpW K∧(∀ x∈K,x∈bRows more (rowsX facts) (rowsX facts).length)∧K.length≤(rowsX facts).length ∧
   pureT T c15 [.isl (facts.map GRaw.enc) false,.isl (GV.encs more) false,.int .i64 start,.int .i64 seq]=some (GF.mk ⟨#[97]⟩ ⟨#[98]⟩ (pickN start 1099511627777:Int) (pickN seq 1099511627777:Int) K).enc:=by
 have p1:=fun bs σ=>pick15 start 1099511627777 (by omega) h1 bs σ
 have p2:=fun bs σ=>pick15 seq 1099511627777 (by omega) h2 bs σ
 simp only [Int.cast_ofNat_Int] at p1 p2
 have p1':∀ bs σ,callT T 12 [.int .i64 start,.int .i64 1099511627777] bs σ=some (.int .i64 (pickN start 1099511627777:Int),σ):=p1
 have p2':∀ bs σ,callT T 12 [.int .i64 seq,.int .i64 1099511627777] bs σ=some (.int .i64 (pickN seq 1099511627777:Int),σ):=p2
 have cr:∀ bs σ,callT T 28 [.isl (facts.map GRaw.enc) false] bs σ=some (.isl ((rowsX facts).map GW.enc) false,σ):=fun bs σ=>call_clean rfl rfl rfl (by simp) (rows10_ok facts hx)
 obtain ⟨rows,hrows⟩:∃ rows,rows=rowsX facts:=⟨_,rfl⟩
 rw [←hrows] at cr ⊢
 have hrl:rows.length≤40:=by rw [hrows]; simp [rowsX]; omega
 have hrne:∀ x∈rows,x.args≠[]∧x.args.length≤3:=fun x hh=>by
  rw [hrows] at hh
  obtain ⟨y,_,rfl⟩:=List.mem_map.1 hh
  have h1:=fargs_len y
  obtain ⟨a1,a2,_⟩:=rel_arity y
  exact ⟨fun e=>by have:(factR y).args=[]:=e; rw [this] at h1; simp at h1; omega,by show (factR y).args.length≤3; omega⟩
 obtain ⟨L,hL⟩:∃ L,L=bRows more rows rows.length:=⟨_,rfl⟩
 have hLl:L.length=rows.length:=by rw [hL]; exact bRows_len _ _ _ (Nat.le_refl _)
 have hsz:∀ x∈L,x.args≠[]∧GV.sizes x.args≤1000000000:=fun x hh=>by
  have hmem:=hh
  rw [hL] at hh
  obtain ⟨k,hk,rfl⟩:=bRows_mem (Nat.le_refl _) hh
  refine ⟨by simp [bRow],?_⟩
  have h1:=bRows_size more facts rows.length (by rw [hrows]; exact Nat.le_refl _)
  rw [←hrows,←hL] at h1
  have h2:=sizesW_mem hmem
  have h3:=sizes_take_le more rows.length
  omega
 have hM:∃ K:List GW,UpW K∧(∀ x∈K,x∈L)∧K.length≤L.length∧pureT T c30 [.isl (L.map GW.enc) false]=some (.isl (K.map GW.enc) false):=by
  by_cases e:L=[]
  ·rw [e]
   exact ⟨[],by simp [UpW],fun x h=>h,Nat.le_refl _,merge_none⟩
  ·exact merge_some L e (by omega) hsz
 obtain ⟨K,k1,k2,k3,k4⟩:=hM
 refine ⟨K,k1,by rw [←hL]; exact k2,by omega,?_⟩
 generalize pickN start 1099511627777=s1 at *
 generalize pickN seq 1099511627777=s2 at *
 apply pure_enter (by simp [c15])
 simp [c15,p1',p2',cr,setRun]
 refine W_for T 0 73 rows.length (fun i f τ=>f 1=.isl (GV.encs more) false∧f 8=.ptr 0 0∧f 9=.ptr 1 0∧f 10=.ptr 2 0∧f 11=.isl (rows.map GW.enc) false∧f 12=.int .i64 (i:Int)∧PLoop s1 s2 (bRows more rows i) τ) ?_ _ _ ?_
 ·rintro i f τ hi ⟨f1,f8,f9,f10,f11,f12,l,hl3,g0,g1,g2,Li⟩
  by_cases hlt:i<rows.length
  ·have w1:IntKind.i64.wrap ((i:Int)+1)=(i:Int)+1:=wr64 (by omega) (by omega)
   obtain ⟨hne,hal⟩:=hrne _ (zqT hlt)
   have hsucc:=bRows_succ (more:=more) hlt
   obtain ⟨nm,args,st,hr⟩:∃ nm args st,rows[i]=⟨nm,args,st⟩:=⟨_,_,_,rfl⟩
   rw [hr] at hne hal hsucc
   have hg:rows[i]?=some ⟨nm,args,st⟩:=by rw [zqF hlt,hr]
   have hne':args≠[]:=hne
   have hal':args.length≤3:=hal
   have h1l:1≤args.length:=List.length_pos_iff.2 hne'
   have hdrop:slSlV 4 (some (.int .i64 1)) none (.isl (GV.encs args) false)=some (.isl (GV.encs (args.drop 1)) false):=by
    have:=slI_drop (sz:=4) (es:=GV.encs args) (c:=false) (n:=1) (by simp; omega) (by rw [zqQ]; intro e he; simp [lenIs,encsV_len args e he])
    rw [show ((1:Nat):Int)=1 from rfl] at this
    rw [this,GV.encs_map,GV.encs_map,List.map_drop]
   obtain ⟨a,ha⟩:∃ a,a=τ.length:=⟨_,rfl⟩
   obtain ⟨τ0,hτ0⟩:∃ τ0:Heap,τ0=τ++[.cells [.int .i64 3,.int .i64 0,.str ⟨#[98]⟩,.isl [] true] 0 false,.cells [.str ⟨#[]⟩,.isl [] true,.int .i64 0] 0 false]:=⟨_,rfl⟩
   have h0l:τ0.length=a+2:=by rw [hτ0,ha]; simp
   have q0:τ0[a]?=some (.cells [.int .i64 3,.int .i64 0,.str ⟨#[98]⟩,.isl [] true] 0 false):=by rw [hτ0,ha]; simp
   have q1:τ0[a+1]?=some (.cells [.str ⟨#[]⟩,.isl [] true,.int .i64 0] 0 false):=by rw [hτ0,ha]; simp
   have qk:∀ i,i<a→τ0[i]?=τ[i]?:=fun i hi=>by rw [hτ0,zqA (by omega)]
   have L0:LX a 4 τ0 (GV.encs [toV]) (.sl a 0 1 4 true):=.inr (.inl ⟨a,_,0,rfl,Nat.le_refl _,q0,rfl,rfl,rfl⟩)
   obtain ⟨x1,τ1,e1,L1,hl1,hk1⟩:=L0.isl (bytes:=56) (b:=false) (GV.encs (args.drop 1)) (GV_okEl _) (by simp; omega) (by omega) (by omega) (by omega)
   have ecat:GV.encs [toV]++GV.encs (args.drop 1)=GV.encs (toV :: args.drop 1):=rfl
   rw [ecat] at L1
   rw [appendC_isl,List.drop_one] at e1
   have q1':τ1[a+1]?=some (.cells [.str ⟨#[]⟩,.isl [] true,.int .i64 0] 0 false):=hk1 _ _ q1 (.inr ⟨fun n e=>(by cases e),fun cs fz e=>(by injection e with e; subst e; simp)⟩)
   have hk1':∀ i,i<a→τ1[i]?=τ[i]?:=fun i hi=>by
    rw [←qk i hi,hk1 i _ (zqF (by omega)) (.inl hi),zqF]
   obtain ⟨τ2,hτ2⟩:∃ τ2:Heap,τ2=τ1.set (a+1) (.cells [.str nm,x1,.int .i64 st] 0 false):=⟨_,rfl⟩
   have L2:LX a 4 τ2 (GV.encs (toV :: args.drop 1)) x1:=by rw [hτ2]; exact L1.put q1' (by simp) _
   have q2:τ2[a+1]?=some (.cells [.str nm,x1,.int .i64 st] 0 false):=by rw [hτ2]; exact List.getElem?_set_self (by omega)
   have hl2:τ2.length=τ1.length:=by rw [hτ2]; simp
   have hk2:∀ i,i<a→τ2[i]?=τ[i]?:=fun i hi=>by rw [hτ2,zqC (by omega)]; exact hk1' i hi
   have hs1:=L1.solid
   have hc1:=L1.cells
   have hfin:∀ (args':List GV) (x:AV) (τ5:Heap),bRow more i ⟨nm,args,st⟩=⟨nm,args',st⟩→(∀ i,i<a→τ5[i]?=τ[i]?)→τ5[a+1]?=some (.cells [.str nm,x,.int .i64 st] 0 false)→LX a 4 τ5 (GV.encs args') x→a+2≤τ5.length →
     ∃ x' σ',appendC (τ5++[.cells [.str nm,x,.int .i64 st] 0 false]) 3 true 48 false l (.sl τ5.length 0 1 3 true)=some (x',σ')∧σ'[1]?=some (.cells [.str ⟨#[97]⟩,.str ⟨#[98]⟩,.int .i64 s1,.int .i64 s2,l] 0 false)∧x'.solid=true∧x'.cells=[x'] ∧
      PLoop s1 s2 (bRows more rows (i+1)) (σ'.set 1 (.cells [.str ⟨#[97]⟩,.str ⟨#[98]⟩,.int .i64 s1,.int .i64 s2,x'] 0 false)):=fun args' x τ5 hb hk5 hq5 L5 hl5=>by
    have hjF:(τ5++[AObj.cells [.str nm,x,.int .i64 st] 0 false])[τ5.length]?=some (.cells [.str nm,x,.int .i64 st] 0 false):=by simp
    obtain ⟨σ1,z,fj,hX,hj1,hz1,hz2,hlσ,hkσ⟩:=closeX_row (L5.app _) hjF
    have hall:∀ i,i<τ.length→σ1[i]?=τ[i]?:=fun i hi=>by
     rw [hkσ i (by omega) (by omega),zqA (by omega),hk5 i (by omega)]
    obtain ⟨x',σ',m1,m2,m3,m4,-⟩:=app_any (bytes:=48) hX hj1 (sz:=3) rfl (by simp [AV.clo1]; exact hz1) (by omega) (by omega) Li hall (by omega) hl3 (by simp [bRows_len more rows i (by omega)]; omega)
    have hl':3≤σ'.length:=by rw [hlσ,zqJ] at m3; simp at m3; omega
    refine ⟨x',σ',m1,by rw [m4 1 (by omega)]; exact g1,m2.solid,m2.cells,x',by simpa using hl',by rw [zqC (by omega),m4 0 (by omega)]; exact g0,List.getElem?_set_self (by omega),by rw [zqC (by omega),m4 2 (by omega)]; exact g2,?_⟩
    rw [hsucc,hb]
    have e:(bRows more rows i).map GW.enc++[AV.agg (List.map AV.nrm [.str nm,z,.int .i64 st])]=(bRows more rows i++[(⟨nm,args',st⟩:GW)]).map GW.enc:=by
     simp [GW.enc,GW.cls,hz2]
    rw [←e]
    exact m2.keep fun j o hj ho=>by rw [zqC (by omega)]; exact ho
   by_cases hmore:i<more.length
   ·have hgm:more[i]?=some more[i]:=zqF hmore
    have hbR:bRow more i ⟨nm,args,st⟩=⟨nm,(toV :: args.drop 1)++[fit more[i]],st⟩:=by simp [bRow,hgm]
    have hmm:=sizes_mem (zqT hmore)
    have hfit:=callFit more[i] ((GV.oks_iff _).1 hm _ (zqT hmore)) (by omega)
    have hj3:(τ2++[AObj.cells (fit more[i]).enc.cells 0 false])[τ2.length]?=some (.cells (fit more[i]).enc.cells 0 false):=by simp
    have hclo:(fit more[i]).enc.cells.all AV.clo1=true:=by rw [GV.enc_cells]; rfl
    obtain ⟨x2,τ4,n1,n2,n3,n4⟩:=app_any0 (bytes:=56) (closeX_idem hj3 hclo) hj3 (sz:=4) (by rw [GV.enc_cells]; rfl) hclo (by omega) (by omega) L2 (fun i hi=>zqA hi) (Nat.le_refl _) (by omega) (by simp; omega)
    have e4:GV.encs (toV :: args.drop 1)++[AV.agg ((fit more[i]).enc.cells.map AV.nrm)]=GV.encs ((toV :: args.drop 1)++[fit more[i]]):=by
     have e2:GV.encs ((toV :: args.drop 1)++[fit more[i]])=GV.encs (toV :: args.drop 1)++[(fit more[i]).enc]:=by simp [GV.encs_map]
     rw [e2,GV.enc_cells,GV.enc_eq]; rfl
    rw [e4] at n2
    have q4:τ4[a+1]?=some (.cells [.str nm,x1,.int .i64 st] 0 false):=n4 _ _ q2 (.inr ⟨fun n e=>(by cases e),fun cs fz e=>(by injection e with e; subst e; simp)⟩)
    have n3':a+2≤τ4.length:=by simp at n3; omega
    have L5:LX a 4 (τ4.set (a+1) (.cells [.str nm,x2,.int .i64 st] 0 false)) (GV.encs ((toV :: args.drop 1)++[fit more[i]])) x2:=n2.toLX.put q4 (by simp) _
    have q5:(τ4.set (a+1) (.cells [.str nm,x2,.int .i64 st] 0 false))[a+1]?=some (.cells [.str nm,x2,.int .i64 st] 0 false):=List.getElem?_set_self (by omega)
    have hk5:∀ i,i<a→(τ4.set (a+1) (.cells [.str nm,x2,.int .i64 st] 0 false))[i]?=τ[i]?:=fun i hi=>by
     rw [zqC (by omega),←hk2 i hi,n4 i _ (zqF (by omega)) (.inl hi),zqF]
    obtain ⟨τ5,hτ5⟩:∃ τ5:Heap,τ5=τ4.set (a+1) (.cells [.str nm,x2,.int .i64 st] 0 false):=⟨_,rfl⟩
    rw [←hτ5] at L5 q5 hk5
    obtain ⟨x',σ',f1',f2',f3',f4',f5'⟩:=hfin _ x2 τ5 hbR hk5 q5 L5 (by rw [hτ5]; simpa using n3')
    have g15:τ5[1]?=some (.cells [.str ⟨#[97]⟩,.str ⟨#[98]⟩,.int .i64 s1,.int .i64 s2,l] 0 false):=by rw [hk5 1 (by omega)]; exact g1
    have hs2:=n2.solid
    have hc2:=n2.cells
    rw [GV.enc_cells] at n1
    simp [-getElem?_pos,f1,f8,f9,f10,f11,f12,hlt,hr,hg,g2,GW.cls,hdrop,setRun,←ha,←hτ0,e1,chkO_l,objOf,q1,q1',hs1,hc1,←hτ2,hmore,q2,hgm,hfit,n1,q4,hs2,hc2,←hτ5,g15,q5,f1',f2',f3',f4',w1,-appendA_ag]
    exact f5'
   ·have hgm:more[i]?=none:=List.getElem?_eq_none (by omega)
    have hbR:bRow more i ⟨nm,args,st⟩=⟨nm,toV :: args.drop 1,st⟩:=by simp [bRow,hgm]
    obtain ⟨x',σ',f1',f2',f3',f4',f5'⟩:=hfin _ x1 τ2 hbR hk2 q2 L2 (by omega)
    have g12:τ2[1]?=some (.cells [.str ⟨#[97]⟩,.str ⟨#[98]⟩,.int .i64 s1,.int .i64 s2,l] 0 false):=by rw [hk2 1 (by omega)]; exact g1
    simp [-getElem?_pos,f1,f8,f9,f10,f11,f12,hlt,hr,hg,g2,GW.cls,hdrop,setRun,←ha,←hτ0,e1,chkO_l,objOf,q1,q1',hs1,hc1,←hτ2,hmore,q2,g12,f1',f2',f3',f4',w1,-appendA_ag]
    exact f5'
  ·have he:i=rows.length:=by omega
   subst he
   rw [←hL] at Li
   obtain ⟨σ',hcA,hcl,hck⟩:=Li.closeA
   have hm0:callT T 30 [l] 0 τ=some (.isl (K.map GW.enc) false,σ'):=call_data rfl rfl rfl k4 rfl rfl (by simp only [closeT,hcA,Option.bind_some,Option.map_some])
   have u1:σ'[1]?=some (.cells [.str ⟨#[97]⟩,.str ⟨#[98]⟩,.int .i64 s1,.int .i64 s2,l] 0 false):=by rw [hck 1 (by omega)]; exact g1
   have u0:σ'[0]?=some (.cells [.str ⟨#[]⟩,.str ⟨#[]⟩,.int .i64 0,.int .i64 0,.isl [] true] 0 false):=by rw [hck 0 (by omega)]; exact g0
   have u1s:∀ o,(σ'.set 1 o)[1]?=some o:=fun o=>List.getElem?_set_self (by omega)
   have u0s:∀ o,(σ'.set 1 o)[0]?=σ'[0]?:=fun o=>by rw [zqC (by omega)]
   have u2s:∀ o o',((σ'.set 1 o).set 0 o')[0]?=some o':=fun o o'=>List.getElem?_set_self (by simp; omega)
   simp [-getElem?_pos,f1,f8,f9,f10,f11,f12,g1,hm0,u1,setRun,u1s,u0s,u0,u2s,GF.enc]
   done
 ·exact ⟨by simp,by simp,by simp,by simp,by simp,by simp,.isl [] true,by simp,by simp,by simp,by simp,.inl ⟨rfl,rfl⟩⟩
open Go.Mach
theorem gw_iff (a b:GW):a=b↔a.name=b.name∧a.stamp=b.stamp∧a.args=b.args:=⟨fun h=>by rw [h]; simp,fun h=>by cases a; cases b; simp_all⟩
theorem gf_iff (a b:GF):a=b↔a.frm=b.frm∧a.to=b.to∧a.start=b.start∧a.seq=b.seq∧a.rows=b.rows:=⟨fun h=>by rw [h]; simp,fun h=>by cases a; cases b; simp_all⟩
instance:DecidableEq GW:=fun a b=>decidable_of_iff _ (gw_iff a b).symm
instance:DecidableEq GF:=fun a b=>decidable_of_iff _ (gf_iff a b).symm
theorem awake15_ev:evalFn T 300 10 [] 0 []=some (.bool true,[]):=by kernel_rfl
theorem awake15_ok:pureT T c10 []=some (.bool true):=pureT_of_call rfl rfl rfl rfl (callT_of_eval awake15_ev)
theorem callAwake15 (bs:Nat) (σ:Heap):callT T 10 [] bs σ=some (.bool true,σ):=call_clean rfl rfl rfl rfl awake15_ok
theorem toV_right:rightV 4 toV=true:=by decide +kernel
theorem nameA:nameOK ⟨#[97]⟩=true:=by decide +kernel
theorem nameBb:nameOK ⟨#[98]⟩=true:=by decide +kernel
theorem bRow_ok (more:List GV) (i:Nat) (y:GRaw):rowOK ⟨#[98]⟩ (bRow more i (rowX y))=true:=by
 have h1:nameOK (factR y).name=true:=by
  have:=rel_OK y
  simp only [relOK,zqL] at this
  exact this.1.1
 have h2:=fargs_len y
 obtain ⟨a1,a2,_⟩:=rel_arity y
 have h3:∀ v∈(factR y).args,rightV 4 v=true:=fun v hv=>by
  obtain ⟨i,_,rfl⟩:=List.mem_map.1 hv
  exact fargR_R y i
 have h4:nearB (pickN y.n3 9:Int)=true:=by rw [nearB_iff]; have:=pickN_lt (c:=y.n3) (n:=9) (by omega); omega
 obtain ⟨E,hE,hEl,hEr⟩:∃ E,(bRow more i (rowX y)).args=toV :: ((factR y).args.drop 1++E)∧E.length≤1∧∀ v∈E,rightV 4 v=true:=by
  cases hm:more[i]? with
  | none=>exact ⟨[],by simp [bRow,rowX,hm],by simp,by simp⟩
  | some w=>exact ⟨[fit w],by simp [bRow,rowX,hm],by simp,fun v hv=>by simp at hv; rw [hv]; exact fit_right w⟩
 have h7:((bRow more i (rowX y)).args).all (rightV 4)=true:=by
  rw [zqQ]; intro v hv
  rw [hE] at hv
  rcases List.mem_cons.1 hv with rfl | hv
  ·exact toV_right
  ·rcases List.mem_append.1 hv with hv | hv
   ·exact h3 v (List.mem_of_mem_drop hv)
   ·exact hEr v hv
 have h8:(bRow more i (rowX y)).args.length≤8∧1≤(bRow more i (rowX y)).args.length:=by
  rw [hE]; simp only [zqU,zqJ,List.length_drop]; omega
 have h9:headB ⟨#[98]⟩ (bRow more i (rowX y)).args=true:=by simp [bRow,headB,toV,GV.kind,GV.text]
 simp only [rowOK,zqL,decide_eq_true_eq]
 exact ⟨⟨⟨⟨⟨h1,h8.2⟩,h8.1⟩,h4⟩,h7⟩,h9⟩
theorem batch_good {more:List GV} {facts:List GRaw} (hms:GV.sizes more≤1048576) {K:List GW} (k1:UpW K) (k2:∀ x∈K,x∈bRows more (rowsX facts) (rowsX facts).length) (k3:K.length≤(rowsX facts).length) (s1 s2:Nat) (h1:s1<1099511627777) (h2:s2<1099511627777) :
  FOk ⟨⟨#[97]⟩,⟨#[98]⟩,s1,s2,K⟩∧SzF ⟨⟨#[97]⟩,⟨#[98]⟩,s1,s2,K⟩∧(layB ⟨⟨#[97]⟩,⟨#[98]⟩,s1,s2,K⟩).length≤12000000:=by
 have hrl:(rowsX facts).length≤40:=by simp [rowsX]; omega
 have hrow:∀ x∈K,rowOK ⟨#[98]⟩ x=true:=fun x hx=>by
  obtain ⟨k,hk,rfl⟩:=bRows_mem (Nat.le_refl _) (k2 x hx)
  obtain ⟨y,hy⟩:∃ y,(rowsX facts)[k]=rowX y:=⟨(facts.take 40)[k]'(by simpa [rowsX] using hk),by simp [rowsX]⟩
  rw [hy]; exact bRow_ok more k y
 have hF:FOk ⟨⟨#[97]⟩,⟨#[98]⟩,s1,s2,K⟩:=by
  refine ⟨nameA,nameBb,(by decide:(⟨#[97]⟩:ByteArray)≠⟨#[98]⟩),(nearB_iff _).2 ⟨by show (0:Int)≤s1; omega,by show (s1:Int)≤_; omega⟩,(nearB_iff _).2 ⟨by show (0:Int)≤s2; omega,by show (s2:Int)≤_; omega⟩,by show K.length≤400; omega,fun k hk x hx=>⟨hrow x (zqR hx),?_⟩⟩
  by_cases h0:k=0
  ·exact .inl h0
  ·refine .inr fun y hy=>?_
   have hk':k<K.length:=hk
   have hx':K[k]?=some x:=hx
   have hy':K[k - 1]?=some y:=hy
   rw [zqF hk'] at hx'; injection hx' with hx'
   rw [zqF (by omega)] at hy'; injection hy' with hy'
   rw [←hx',←hy']
   exact List.pairwise_iff_getElem.1 k1 (k - 1) k (by omega) hk' (by omega)
 have hnd:K.Nodup:=by
  refine List.Pairwise.imp (fun {a b} h=>?_) k1
  rintro rfl
  have:=cmpW_self a; omega
 have hz1:=sizesW_sub hnd k2
 have hz2:=bRows_size more facts (rowsX facts).length (Nat.le_refl _)
 have hz3:=sizes_take_le more (rowsX facts).length
 have hz:sizesW K≤5243840:=by omega
 have hS:SzF ⟨⟨#[97]⟩,⟨#[98]⟩,s1,s2,K⟩:=by
  refine ⟨by show sizesW K≤_; omega,by show (1:Nat)≤_; omega,by show (1:Nat)≤_; omega,by show K.length≤_; omega,fun x hx=>⟨?_,?_⟩⟩
  ·have:=(hF.name hx).2.1; omega
  ·have:=sizesW_mem (l:=K) hx; omega
 refine ⟨hF,hS,?_⟩
 have l1:=preB_len hF
 have l2:=rowsB_len K fun x hx=>(hF.name hx).2.1
 have l3:(layB ⟨⟨#[97]⟩,⟨#[98]⟩,s1,s2,K⟩).length=(bodyB ⟨⟨#[97]⟩,⟨#[98]⟩,s1,s2,K⟩).length+4:=by simp [layB]
 rw [l3,bodyB_eq,zqJ]
 simp only
 omega
open Go.Mach
open Go.Mach
open Go.Mach
open Go.Mach
open Go.RowKit Go.Mach
def q9 : List AOper := [
                  ⟨(some 69), .alloc [.bool false], none, []⟩,
                  ⟨none, .store 1 (.t 69) (.c (.bool true)), none, []⟩,
                  ⟨none, .store 1 (.t 69) (.c (.bool false)), none, []⟩,
                  ⟨(some 70), .load 1 false (.t 69), none, []⟩]
def t9 (l:List AOper):ACode:=
 .seq (.seq (.region [
  ⟨(some 26),.mv (.t 1),none,[]⟩,
  ⟨(some 27),.call 12 [.t 26,.c (.int .i64 7)],none,[]⟩]) (
 .block 0 (
  .seq (.region [
   ⟨(some 34),.bin .eql (.t 27) (.c (.int .i64 0)),none,[]⟩,
   ⟨(some 33),.mv (.t 34),none,[]⟩]) (
  .cond (.t 33) (
   .region [
    ⟨(some 35),.faddr 0 (.t 6),none,[]⟩,
    ⟨none,.store 1 (.t 35) (.c (.str ⟨#[98]⟩)),none,[]⟩]) (
   .seq (.region [
    ⟨(some 37),.bin .eql (.t 27) (.c (.int .i64 1)),none,[]⟩,
    ⟨(some 36),.mv (.t 37),none,[]⟩]) (
   .cond (.t 36) (
    .region [
     ⟨(some 38),.faddr 4 (.t 6),none,[]⟩,
     ⟨(some 39),.load 1 false (.t 38),none,[]⟩,
     ⟨(some 40),.mv (.t 7),none,[]⟩,
     ⟨(some 41),.build [.int .i64 0,.int .i64 0,.str ⟨#[]⟩,.isl [] true] [(0,1,.c (.int .i64 3)),(2,1,.c (.str ⟨#[99]⟩))],none,[]⟩,
     ⟨(some 42),.buildSl 1 4 true [.int .i64 0,.int .i64 0,.str ⟨#[]⟩,.isl [] true] [(0,4,.t 41)],none,[]⟩,
     ⟨(some 43),.iaddrS 3 (.t 39) (.t 40),none,[]⟩,
     ⟨(some 44),.faddr 1 (.t 43),none,[]⟩,
     ⟨none,.store 1 (.t 44) (.t 42),none,[]⟩]) (
    .seq (.region [
     ⟨(some 46),.bin .eql (.t 27) (.c (.int .i64 2)),none,[]⟩,
     ⟨(some 45),.mv (.t 46),none,[]⟩]) (
    .cond (.t 45) (
     .region [
      ⟨(some 47),.faddr 4 (.t 6),none,[]⟩,
      ⟨(some 48),.load 1 false (.t 47),none,[]⟩,
      ⟨(some 49),.faddr 4 (.t 6),none,[]⟩,
      ⟨(some 50),.load 1 false (.t 49),none,[]⟩,
      ⟨(some 51),.mv (.t 7),none,[]⟩,
      ⟨(some 52),.iaddrS 3 (.t 50) (.t 51),none,[]⟩,
      ⟨(some 53),.load 3 true (.t 52),none,[]⟩,
      ⟨(some 54),.buildSl 1 3 true [.str ⟨#[]⟩,.isl [] true,.int .i64 0] [(0,3,.t 53)],none,[]⟩,
      ⟨(some 55),.append 3 true 48 true (.t 48) (.t 54),none,[]⟩,
      ⟨(some 56),.faddr 4 (.t 6),none,[]⟩,
      ⟨none,.store 1 (.t 56) (.t 55),none,[]⟩]) (
     .seq (.region [
      ⟨(some 58),.bin .eql (.t 27) (.c (.int .i64 3)),none,[]⟩,
      ⟨(some 57),.mv (.t 58),none,[]⟩]) (
     .cond (.t 57) (
      .region [
       ⟨(some 59),.faddr 3 (.t 6),none,[]⟩,
       ⟨none,.store 1 (.t 59) (.c (.int .i64 (-1))),none,[]⟩]) (
      .seq (.region [
       ⟨(some 61),.bin .eql (.t 27) (.c (.int .i64 4)),none,[]⟩,
       ⟨(some 60),.mv (.t 61),none,[]⟩]) (
      .cond (.t 60) (
       .region [
        ⟨(some 62),.faddr 4 (.t 6),none,[]⟩,
        ⟨(some 63),.load 1 false (.t 62),none,[]⟩,
        ⟨(some 64),.mv (.t 7),none,[]⟩,
        ⟨(some 65),.iaddrS 3 (.t 63) (.t 64),none,[]⟩,
        ⟨(some 66),.faddr 2 (.t 65),none,[]⟩,
        ⟨none,.store 1 (.t 66) (.c (.int .i64 (-1))),none,[]⟩]) (
       .seq (.region [
        ⟨(some 68),.bin .eql (.t 27) (.c (.int .i64 5)),none,[]⟩,
        ⟨(some 67),.mv (.t 68),none,[]⟩]) (
       .cond (.t 67) (
        .seq (.region l) (
        .cond (.t 70) (
         .seq (.region [
          ⟨(some 71),.faddr 4 (.t 6),none,[]⟩,
          ⟨(some 72),.load 1 false (.t 71),none,[]⟩,
          ⟨(some 73),.mv (.t 7),none,[]⟩,
          ⟨(some 74),.iaddrS 3 (.t 72) (.t 73),none,[]⟩,
          ⟨(some 75),.faddr 1 (.t 74),none,[]⟩,
          ⟨(some 76),.load 1 false (.t 75),none,[]⟩,
          ⟨(some 77),.build [.int .i64 0,.int .i64 0,.str ⟨#[]⟩,.isl [] true] [],none,[]⟩,
          ⟨(some 78),.len false (.t 76),none,[]⟩,
          ⟨(some 79),.buildSl 1 4 true [.int .i64 0,.int .i64 0,.str ⟨#[]⟩,.isl [] true] [(0,4,.c (.agg [.int .i64 0,.int .i64 0,.str ⟨#[]⟩,.isl [] true]))],none,[]⟩,
          ⟨(some 80),.append 4 true 56 true (.t 76) (.t 79),none,[]⟩,
          ⟨(some 81),.iaddrS 3 (.t 72) (.t 73),none,[]⟩,
          ⟨(some 82),.faddr 1 (.t 81),none,[]⟩,
          ⟨none,.store 1 (.t 82) (.t 80),none,[]⟩]) (
         .region [
          ⟨(some 83),.iaddrS 4 (.t 80) (.t 78),none,[]⟩,
          ⟨none,.store 4 (.t 83) (.t 77),none,[]⟩])) (
         .region [
          ⟨(some 84),.faddr 4 (.t 6),none,[]⟩,
          ⟨(some 85),.load 1 false (.t 84),none,[]⟩,
          ⟨(some 86),.mv (.t 7),none,[]⟩,
          ⟨(some 87),.faddr 4 (.t 6),none,[]⟩,
          ⟨(some 88),.load 1 false (.t 87),none,[]⟩,
          ⟨(some 89),.mv (.t 7),none,[]⟩,
          ⟨(some 90),.iaddrS 3 (.t 88) (.t 89),none,[]⟩,
          ⟨(some 91),.faddr 1 (.t 90),none,[]⟩,
          ⟨(some 92),.load 1 false (.t 91),none,[]⟩,
          ⟨(some 93),.build [.int .i64 0,.int .i64 0,.str ⟨#[]⟩,.isl [] true] [],none,[]⟩,
          ⟨(some 94),.buildSl 1 4 true [.int .i64 0,.int .i64 0,.str ⟨#[]⟩,.isl [] true] [(0,4,.t 93)],none,[]⟩,
          ⟨(some 95),.append 4 true 56 true (.t 92) (.t 94),none,[.t 84]⟩,
          ⟨(some 96),.iaddrS 3 (.t 85) (.t 86),none,[]⟩,
          ⟨(some 97),.faddr 1 (.t 96),none,[]⟩,
          ⟨none,.store 1 (.t 97) (.t 95),none,[]⟩]))) (
        .region [
         ⟨(some 28),.faddr 4 (.t 6),none,[]⟩,
         ⟨(some 29),.load 1 false (.t 28),none,[]⟩,
         ⟨(some 30),.mv (.t 7),none,[]⟩,
         ⟨(some 31),.iaddrS 3 (.t 29) (.t 30),none,[]⟩,
         ⟨(some 32),.faddr 0 (.t 31),none,[]⟩,
         ⟨none,.store 1 (.t 32) (.c (.str ⟨#[90]⟩)),none,[]⟩]))))))))))))))) (
 .seq (.region [
  ⟨(some 99),.load 5 true (.t 6),none,[]⟩,
  ⟨(some 100),.call 13 [.t 99],none,[]⟩,
  ⟨(some 98),.mv (.t 100),none,[]⟩,
  ⟨(some 101),.extract 0 (.t 98),none,[]⟩,
  ⟨(some 102),.extract 1 (.t 98),none,[]⟩,
  ⟨(some 8),.mv (.t 101),none,[]⟩,
  ⟨(some 9),.mv (.t 102),none,[]⟩]) (
 .seq (.region [
  ⟨(some 103),.mv (.t 5),none,[]⟩,
  ⟨(some 104),.mv (.t 103),none,[]⟩,
  ⟨(some 105),.mv (.t 8),(some (104,true)),[]⟩,
  ⟨(some 106),.bin .eql (.t 105) (.c (.str ⟨#[]⟩)),(some (104,true)),[]⟩,
  ⟨(some 107),.pick (.t 104) (.t 106) (.c (.bool false)),none,[]⟩,
  ⟨(some 108),.mv (.t 107),none,[]⟩,
  ⟨(some 109),.mv (.t 9),(some (108,true)),[]⟩,
  ⟨(some 110),.bin .eql (.t 109) (.c (.int .i64 1)),(some (108,true)),[]⟩,
  ⟨(some 111),.pick (.t 108) (.t 110) (.c (.bool false)),none,[]⟩,
  ⟨(some 4),.mv (.t 111),none,[]⟩]) (
 .ret)))
def w9 (l:List AOper):ACode:=
 .seq (.region [
  ⟨(some 4),.mv (.c (.bool false)),none,[]⟩]) (
 .seq (.region [
  ⟨(some 10),.call 10 [],none,[]⟩,
  ⟨(some 5),.mv (.t 10),none,[]⟩]) (
 .seq (.region [
  ⟨(some 11),.mv (.t 0),none,[]⟩,
  ⟨(some 12),.call 15 [.t 11,.c (.isl [] true),.c (.int .i64 1),.c (.int .i64 2)],none,[]⟩,
  ⟨(some 6),.alloc [.str ⟨#[]⟩,.str ⟨#[]⟩,.int .i64 0,.int .i64 0,.isl [] true],none,[]⟩,
  ⟨none,.store 5 (.t 6) (.t 12),none,[]⟩]) (
 .seq (.region [
  ⟨(some 13),.faddr 4 (.t 6),none,[]⟩,
  ⟨(some 14),.load 1 false (.t 13),none,[]⟩,
  ⟨(some 15),.append 3 true 48 true (.c (.isl [] true)) (.t 14),none,[]⟩,
  ⟨(some 16),.build [.int .i64 0,.int .i64 0,.str ⟨#[]⟩,.isl [] true] [(0,1,.c (.int .i64 3)),(2,1,.c (.str ⟨#[98]⟩))],none,[]⟩,
  ⟨(some 17),.buildSl 1 4 true [.int .i64 0,.int .i64 0,.str ⟨#[]⟩,.isl [] true] [(0,4,.t 16)],none,[]⟩,
  ⟨(some 18),.build [.str ⟨#[]⟩,.isl [] true,.int .i64 0] [(0,1,.c (.str ⟨#[122,122]⟩)),(1,1,.t 17)],none,[]⟩,
  ⟨(some 19),.buildSl 1 3 true [.str ⟨#[]⟩,.isl [] true,.int .i64 0] [(0,3,.t 18)],none,[]⟩,
  ⟨(some 20),.append 3 true 48 true (.t 15) (.t 19),none,[]⟩,
  ⟨(some 21),.faddr 4 (.t 6),none,[]⟩,
  ⟨none,.store 1 (.t 21) (.t 20),none,[]⟩]) (
 .seq (.region [
  ⟨(some 22),.faddr 4 (.t 6),none,[]⟩,
  ⟨(some 23),.load 1 false (.t 22),none,[]⟩,
  ⟨(some 24),.len false (.t 23),none,[]⟩,
  ⟨(some 25),.bin .sub (.t 24) (.c (.int .i64 1)),none,[]⟩,
  ⟨(some 7),.mv (.t 25),none,[]⟩]) (
 (t9 l))))))
def p9:Pol:={mt:=false,mtAt:=[20,55,80,95],mode:=.pure,clArgs:=true,clRes:=true}
theorem w9_ok:(Try.f9.body.bind (comp2 Try.prog p9.mtOf Try.f9.ntmps))=some (w9 (swap2 q9),w9 q9):=by kernel_rfl
theorem w9_res:Try.f9.results.toList.mapM (compRes Try.prog)=some [.tmp 4]:=by kernel_rfl
theorem w9_nt:Try.f9.ntmps=112:=by kernel_rfl
open Go.RowKit Go.Mach
def clsQ (p:GW × Option Nat):List AV:=match p.2 with
 | none=>p.1.cls
 | some a=>clsO p.1 a
def HoldsN (σ:Heap) (a:Nat) (ds:List AV):Prop:=∃ cs fz e,σ[a]?=some (.cells cs fz e)∧cs.all AV.clo1=true∧cs.map AV.nrm=ds
theorem HoldsN.frz {σ:Heap} {a:Nat} {ds:List AV} (h:HoldsN σ a ds) (id n:Nat):HoldsN (Mach.frz σ id n) a ds:=by
 obtain ⟨cs,fz,e,h,h1,h2⟩:=h
 obtain ⟨fz',e',k⟩:=Holds.frz (cs:=cs) ⟨fz,e,h⟩ id n
 exact ⟨cs,fz',e',k,h1,h2⟩
theorem closeLW_nrm {c:Heap→AV→Option (AV × Heap)} (hc:∀ σ v,v.clo1=true→c σ v=some (v.nrm,σ)):∀ (l:List AV) (σ:Heap),l.all AV.clo1=true→closeLW c σ l=some (l.map AV.nrm,σ)
 | [],_,_=>rfl
 | v :: l,σ,h=>by
  simp only [List.all_cons,zqL] at h
  simp only [closeLW,hc σ v h.1,Option.bind_some,closeLW_nrm hc l σ h.2,Option.map_some,List.map_cons]
theorem close0_nrm (σ:Heap) (v:AV) (h:v.clo1=true):close0 σ v=some (v.nrm,σ):=by
 cases v <;> first | rfl | (simp [AV.clo1] at h; done)
theorem closeUp_nrm {c:Heap→AV→Option (AV × Heap)} (σ:Heap) (v:AV) (h:v.clo1=true):closeUp c σ v=some (v.nrm,σ):=by
 have:=close0_nrm σ v h
 cases v <;> first | exact this | (simp [AV.clo1] at h; done)
theorem close_argsN {c:Heap→AV→Option (AV × Heap)} (hc:∀ σ v,v.clo1=true→c σ v=some (v.nrm,σ)) {σ:Heap} {a:Nat} {l:List GV} (h:HoldsN σ a (flat (GV.encs l))) :
  closeUp c σ (.sl a 0 l.length 4 true)=some (.isl (GV.encs l) false,Mach.frz σ a (l.length * 4)):=by
 obtain ⟨cs,fz,e,h,h1,h2⟩:=h
 have hf:=flat_len (encsV_len l)
 rw [GV.encs_length,←h2,List.length_map] at hf
 have hcl:=encsV_clo l
 simp only [closeUp,h]
 rw [window_full hf,Option.bind_some,closeLW_nrm hc _ _ h1,Option.bind_some,h2,if_pos (clo1n_all hcl).1]
 have:=flat_chunk (s:=4) (es:=GV.encs l) (fun e he=>by rw [GV.encs_map] at he; obtain ⟨v,_,rfl⟩:=List.mem_map.1 he; exact ⟨_,GV.enc_eq v,rfl⟩)
 rw [GV.encs_length] at this
 rw [this]; simp
theorem cls_n (x:GW):x.cls.all clo1n=true:=by
 have h:=GW.cls_clo x
 simp only [GW.cls,List.all_cons,List.all_nil,Bool.and_true,zqL] at h ⊢
 refine ⟨rfl,?_,rfl⟩
 have h2:=h.2.1
 simpa [clo1n] using h2
theorem closeLW_app {c:Heap→AV→Option (AV × Heap)}:∀ (l m:List AV) (σ:Heap),closeLW c σ (l++m)=(closeLW c σ l).bind fun r=>(closeLW c r.2 m).map fun s=>(r.1++s.1,s.2)
 | [],m,σ=>by simp [closeLW]
 | v :: l,m,σ=>by
  simp only [List.cons_append,closeLW]
  cases c σ v with
  | none=>rfl
  | some r=>
   simp only [Option.bind_some,closeLW_app l m r.2]
   cases closeLW c r.2 l with
   | none=>rfl
   | some s=>simp [Option.map_map,Function.comp_def]
theorem closeLW_rowsQ {c:Heap→AV→Option (AV × Heap)} (hc:∀ σ v,v.clo1=true→c σ v=some (v.nrm,σ)):∀ (ps:List (GW × Option Nat)) (σ:Heap),(∀ p∈ps,∀ a,p.2=some a→HoldsN σ a (flat (GV.encs p.1.args))) →
  ∃ σ',closeLW (closeUp c) σ (ps.flatMap clsQ)=some (fW (ps.map (·.1)),σ')
 | [],σ,_=>⟨σ,rfl⟩
 | (x,none) :: ps,σ,h=>by
  obtain ⟨σ',ih⟩:=closeLW_rowsQ hc ps σ fun p hp=>h p (by simp [hp])
  refine ⟨σ',?_⟩
  rw [List.flatMap_cons,List.map_cons,fW_cons,closeLW_app,show clsQ (x,none)=x.cls from rfl,closeLW_id (fun σ v h=>closeUp_id σ v h) _ _ (cls_n x),Option.bind_some,ih]; rfl
 | (x,some a) :: ps,σ,h=>by
  have h1:=h (x,some a) (by simp) a rfl
  obtain ⟨σ',ih⟩:=closeLW_rowsQ hc ps (Mach.frz σ a (x.args.length * 4)) fun p hp b hb=>(h p (by simp [hp]) b hb).frz _ _
  refine ⟨σ',?_⟩
  have e1:=closeUp_id (c:=c) σ (.str x.name) rfl
  have e2:=close_argsN hc h1
  have e3:=closeUp_id (c:=c) (Mach.frz σ a (x.args.length * 4)) (.int .i64 x.stamp) rfl
  rw [List.flatMap_cons,List.map_cons,fW_cons]
  rw [show clsQ (x,some a)=[.str x.name,.sl a 0 x.args.length 4 true,.int .i64 x.stamp] from rfl]
  simp only [List.cons_append,List.nil_append,closeLW,e1,e2,e3,Option.bind_some,ih,Option.map_some]
theorem clsQ_len (ps:List (GW × Option Nat)):(ps.flatMap clsQ).length=ps.length * 3:=by
 induction ps with
 | nil=>rfl
 | cons p ps ih=>
  rw [List.flatMap_cons,zqJ,ih]
  have:(clsQ p).length=3:=by obtain ⟨x,o⟩:=p; cases o <;> rfl
  simp only [zqU]; omega
theorem close_rowsQ {σ:Heap} {id m:Nat} {fz:Nat} {ext:Bool} (ps:List (GW × Option Nat)) (hm:m=ps.length) (h:σ[id]?=some (.cells (ps.flatMap clsQ) fz ext)) (hp:∀ p∈ps,∀ a,p.2=some a→HoldsN σ a (flat (GV.encs p.1.args)))
  {x:GW} {a:Nat} (hx:(x,some a)∈ps):∃ σ',close1 σ (.sl id 0 m 3 true)=some (.isl ((ps.map (·.1)).map GW.enc) false,σ'):=by
 have hl:=clsQ_len ps
 rw [←hm] at hl
 have h0:m≠0:=fun e=>by rw [hm] at e; rw [List.length_eq_zero_iff.1 e] at hx; cases hx
 have hw:window (ps.flatMap clsQ) 0 (m * 3)=some (ps.flatMap clsQ):=by
  unfold window; rw [if_pos (by omega),List.drop_zero,List.take_of_length_le (by omega)]
 have hn:close0 σ (.sl id 0 m 3 true)=none:=by
  simp only [close0,if_neg h0,h,hw,Option.bind_some]
  rw [if_neg]
  intro hh
  have:(AV.sl a 0 x.args.length 4 true).clo1=true:=zqQ.1 hh _ (List.mem_flatMap.2 ⟨_,hx,by simp [clsQ,clsO]⟩)
  simp [AV.clo1] at this
 have hp':∀ p∈ps,∀ a,p.2=some a→HoldsN (Mach.frz σ id (0+m * 3)) a (flat (GV.encs p.1.args)):=fun p hh a ha=>(hp p hh a ha).frz _ _
 obtain ⟨σ',hr⟩:=closeLW_rowsQ (c:=closeUp (closeUp close0)) (fun σ v h=>closeUp_nrm σ v h) ps _ hp'
 refine ⟨σ',?_⟩
 unfold close1
 rw [hn]
 have hfl:=fW_flat (ps.map (·.1))
 have hch:=flat_chunk (s:=3) (es:=(ps.map (·.1)).map GW.enc) (fun e he=>by obtain ⟨v,_,rfl⟩:=List.mem_map.1 he; exact ⟨_,rfl,rfl⟩)
 rw [List.length_map,List.length_map,hfl,←hm] at hch
 have hcl:(fW (ps.map (·.1))).all AV.clo1=true:=by
  rw [←hfl,zqQ]; intro y hy
  obtain ⟨e,he,hxe⟩:=List.mem_flatMap.1 hy
  obtain ⟨v,_,rfl⟩:=List.mem_map.1 he
  exact zqQ.1 (GW.cls_clo v) y hxe
 show closeUp (closeUp (closeUp (closeUp close0))) σ (.sl id 0 m 3 true)=_
 rw [closeUp_sl _ 0 m 3 true h,hw,Option.bind_some,hr,Option.bind_some]
 rw [if_pos hcl,hch]; rfl
theorem lay_bad {σ:Heap} {id m fz:Nat} {ext:Bool} (ps:List (GW × Option Nat)) (hm:m=ps.length) (h:σ[id]?=some (.cells (ps.flatMap clsQ) fz ext)) (hp:∀ p∈ps,∀ a,p.2=some a→HoldsN σ a (flat (GV.encs p.1.args)))
  {x:GW} {a:Nat} (hx:(x,some a)∈ps) {fr to:ByteArray} {st sq:Int} (hs:SzF ⟨fr,to,st,sq,ps.map (·.1)⟩) (hbad:¬ FOk ⟨fr,to,st,sq,ps.map (·.1)⟩) (bs:Nat) :
  callT T 13 [.agg [.str fr,.str to,.int .i64 st,.int .i64 sq,.sl id 0 m 3 true]] bs σ=some (.tup [.str ⟨#[]⟩,.int .i64 1],σ):=by
 obtain ⟨σ',hc⟩:=close_rowsQ ps hm h hp hx
 obtain ⟨b,hb⟩:∃ b:GF,b=⟨fr,to,st,sq,ps.map (·.1)⟩:=⟨_,rfl⟩
 have hcl:closeT σ [.agg [.str fr,.str to,.int .i64 st,.int .i64 sq,.sl id 0 m 3 true]]=some ([b.enc],σ'):=by
  rw [hb]; simp [closeT,closeA,closeL,hc,GF.enc]
 rw [←hb] at hs hbad
 have hl:=lay_no b hs hbad
 have hd:[b.enc].all AV.dat=true:=(clean_closeT (σ:=[]) (by simp)).2
 exact call_scal (af:=c13) rfl rfl rfl hl rfl hd hcl
open Go.RowKit Go.Mach
theorem bad_row {b:GF} {k:Nat} {x:GW} (hx:b.rows[k]?=some x) (h:rowOK b.to x=false):¬ FOk b:=fun hf=>by
 have:=(hf.rows k (zqI.1 hx).1 x hx).1
 rw [h] at this; cases this
theorem bad_twice {b:GF} {k:Nat} {x:GW} (h1:b.rows[k]?=some x) (h2:b.rows[k+1]?=some x):¬ FOk b:=fun hf=>by
 rcases (hf.rows (k+1) (zqI.1 h2).1 x h2).2 with h | h
 ·omega
 ·have:=h x (by simpa using h1)
  have:=cmpW_self x; omega
structure SzK (K:List GW):Prop where
 tot:sizesW K≤5243840
 len:K.length≤40
 nm:∀ x∈K,x.name.size≤16
theorem szf_more {K L:List GW} (h:SzK K) (hL:L.length≤2) (h2:∀ x∈L,x.name.size≤16∧GV.sizes x.args≤1000) {fr to:ByteArray} (h3:fr.size≤16) (h4:to.size≤16) (st sq:Int):SzF ⟨fr,to,st,sq,K++L⟩:=by
 have hs:sizesW L≤2000:=by
  match L,hL with
  | [],_=>simp [sizesW]
  | [x],_=>have:=(h2 x (by simp)).2; simp [sizesW]; omega
  | [x,y],_=>have:=(h2 x (by simp)).2; have:=(h2 y (by simp)).2; simp [sizesW]; omega
 have h1:=h.tot
 have h5:=h.len
 refine ⟨by show sizesW (K++L)≤_; rw [sizesW_app]; omega,by show fr.size≤_; omega,by show to.size≤_; omega,by show (K++L).length≤_; simp; omega,fun x hx=>?_⟩
 have hx':x∈K++L:=hx
 have hm:=sizesW_mem hx'
 rw [sizesW_app] at hm
 refine ⟨?_,by omega⟩
 rcases List.mem_append.1 hx' with hk | hk
 ·have:=h.nm x hk; omega
 ·have:=(h2 x hk).1; omega
def adr (s:ByteArray):GV:=.mk 3 0 s []
def zz:GW:=⟨⟨#[122,122]⟩,[adr ⟨#[98]⟩],0⟩
theorem flatQ {K:List GW} {L:List (GW × Option Nat)}:(K.map (fun x=>(x,(none:Option Nat)))++L).flatMap clsQ=fW K++L.flatMap clsQ:=by
 rw [List.flatMap_append]; congr 1
 induction K with
 | nil=>rfl
 | cons x K ih=>rw [List.map_cons,List.flatMap_cons,fW_cons,ih]; rfl
theorem lay_one {K:List GW} (hK:SzK K) {z:GW} (hz:z.name.size≤16∧GV.sizes z.args≤1000) {fr to:ByteArray} (h3:fr.size≤16) (h4:to.size≤16) {st sq:Int} (hbad:¬ FOk ⟨fr,to,st,sq,K++[z]⟩) {A:List AV} (hA:A=fW K) {m a:Nat} {zl:Nat} (hzl:zl=z.args.length) {n:Nat} (hn:n=K.length+1)
  (bs:Nat) {σ:Heap} (h:σ[m]?=some (.cells (A++[.str z.name,.sl a 0 zl 4 true,.int .i64 z.stamp]) 0 true)) (ha:HoldsN σ a (flat (GV.encs z.args))) :
  callT T 13 [.agg [.str fr,.str to,.int .i64 st,.int .i64 sq,.sl m 0 n 3 true]] bs σ=some (.tup [.str ⟨#[]⟩,.int .i64 1],σ):=by
 subst hA hzl hn
 have hmap:(K.map (fun x=>(x,(none:Option Nat)))++[(z,some a)]).map (·.1)=K++[z]:=by simp [Function.comp_def]
 refine lay_bad (K.map (fun x=>(x,none))++[(z,some a)]) (by simp) (by rw [flatQ]; exact h) ?_ (x:=z) (a:=a) (by simp) (by rw [hmap]; exact szf_more hK (by simp) (by simpa using hz) h3 h4 st sq) (by rw [hmap]; exact hbad) bs
 intro p hp b hb
 rcases List.mem_append.1 hp with hp | hp
 ·obtain ⟨x,_,rfl⟩:=List.mem_map.1 hp; cases hb
 ·simp at hp; subst hp; injection hb with hb; subst hb; exact ha
theorem lay_dup {K:List GW} (hK:SzK K) {z:GW} (hz:z.name.size≤16∧GV.sizes z.args≤1000) {fr to:ByteArray} (h3:fr.size≤16) (h4:to.size≤16) {st sq:Int} {A:List AV} (hA:A=fW K) {m a:Nat} {zl:Nat} (hzl:zl=z.args.length) {n:Nat} (hn:n=K.length+2)
  (bs:Nat) {σ:Heap} (h:σ[m]?=some (.cells (A++[.str z.name,.sl a 0 zl 4 true,.int .i64 z.stamp,.str z.name,.sl a 0 zl 4 true,.int .i64 z.stamp]) 0 true)) (ha:HoldsN σ a (flat (GV.encs z.args))) :
  callT T 13 [.agg [.str fr,.str to,.int .i64 st,.int .i64 sq,.sl m 0 n 3 true]] bs σ=some (.tup [.str ⟨#[]⟩,.int .i64 1],σ):=by
 subst hA hzl hn
 have hmap:(K.map (fun x=>(x,(none:Option Nat)))++[(z,some a),(z,some a)]).map (·.1)=K++[z,z]:=by simp [Function.comp_def]
 refine lay_bad (K.map (fun x=>(x,none))++[(z,some a),(z,some a)]) (by simp) (by rw [flatQ]; exact h) ?_ (x:=z) (a:=a) (by simp) (by rw [hmap]; exact szf_more hK (by simp) (by simpa using hz) h3 h4 st sq) (by rw [hmap]; exact bad_twice (k:=K.length) (x:=z) (by simp) (by simp)) bs
 intro p hp b hb
 rcases List.mem_append.1 hp with hp | hp
 ·obtain ⟨x,_,rfl⟩:=List.mem_map.1 hp; cases hb
 ·simp at hp; subst hp; injection hb with hb; subst hb; exact ha
open Go.RowKit Go.Mach
theorem win_app {A:List AV} {k:Nat} (h:A.length=k) (B:List AV) (o n:Nat):window (A++B) (k+o) n=window B o n:=by
 subst h
 unfold window
 by_cases h2:o+n≤B.length
 ·rw [if_pos (by simp; omega),if_pos h2]
  have e:(A++B).drop (A.length+o)=B.drop o:=by rw [List.drop_append,List.drop_eq_nil_of_le (by omega),List.nil_append,show A.length+o - A.length=o by omega]
  rw [e]
 ·rw [if_neg (by simp; omega),if_neg h2]
theorem win_app0 {A:List AV} {k:Nat} (h:A.length=k) (B:List AV) (n:Nat):window (A++B) k n=window B 0 n:=win_app h B 0 n
theorem setRun_app {A:List AV} {k:Nat} (h:A.length=k):∀ (xs B:List AV) (o:Nat),setRun (A++B) (k+o) xs=A++setRun B o xs
 | [],B,o=>rfl
 | x :: xs,B,o=>by
  subst h
  simp only [setRun]
  rw [List.set_append_right _ _ (by omega),show A.length+o - A.length=o by omega,Nat.add_assoc]
  exact setRun_app rfl xs (B.set o x) (o+1)
theorem setRun_app0 {A:List AV} {k:Nat} (h:A.length=k) (xs B:List AV):setRun (A++B) k xs=A++setRun B 0 xs:=setRun_app h xs B 0
theorem app_dup {K:List GW} {A:List AV} (hA:A=fW K) (hn:K.length≤100) {m a id:Nat} {σ:Heap} (h:σ[m]?=some (.cells (A++[.str ⟨#[122,122]⟩,.sl a 0 1 4 true,.int .i64 0]) 0 true)) (h2:σ[id]?=some (.cells [.str ⟨#[122,122]⟩,.sl a 0 1 4 true,.int .i64 0] 0 false)) :
  appendA σ 3 true 48 true (.sl m 0 (K.length+1) 3 true) (.sl id 0 1 3 true)=some (.sl σ.length 0 (K.length+2) 3 true,σ.set m .dead++[.cells (A++[.str ⟨#[122,122]⟩,.sl a 0 1 4 true,.int .i64 0,.str ⟨#[122,122]⟩,.sl a 0 1 4 true,.int .i64 0]) 0 true]):=by
 have hfl:flat (K.map GW.enc++[AV.agg [.str ⟨#[122,122]⟩,.sl a 0 1 4 true,.int .i64 0]])=A++[.str ⟨#[122,122]⟩,.sl a 0 1 4 true,.int .i64 0]:=by
  rw [hA,←fW_flat]; simp [flat,AV.cells]
 have hch:=flat_chunk (s:=3) (es:=K.map GW.enc++[AV.agg [.str ⟨#[122,122]⟩,.sl a 0 1 4 true,.int .i64 0]]) (fun e he=>by
  rcases List.mem_append.1 he with he | he
  ·obtain ⟨x,_,rfl⟩:=List.mem_map.1 he; exact ⟨_,rfl,rfl⟩
  ·simp at he; subst he; exact ⟨_,rfl,rfl⟩)
 have hlen:(K.map GW.enc++[AV.agg [.str ⟨#[122,122]⟩,.sl a 0 1 4 true,.int .i64 0]]).length=K.length+1:=by simp
 have:=app_mt_sl (σ:=σ) (id:=id) (k:=m) (sz:=3) (bytes:=48) (es:=K.map GW.enc++[AV.agg [.str ⟨#[122,122]⟩,.sl a 0 1 4 true,.int .i64 0]]) h2 rfl (by omega) (by omega) (by rw [hfl]; exact h) (by rw [hfl,hlen,hA]; simp [fW_len]; omega) hch (by rw [hlen]; omega)
 rw [hlen,hfl] at this
 rw [this]
 simp [AV.nrm,zqP]
theorem app_arg {a id:Nat} {σ:Heap} (h:σ[a]?=some (.cells [.int .i64 3,.int .i64 0,.str ⟨#[98]⟩,.isl [] true] 0 false)) (h2:σ[id]?=some (.cells [.int .i64 0,.int .i64 0,.str ⟨#[]⟩,.isl [] true] 0 false)) :
  appendA σ 4 true 56 true (.sl a 0 1 4 true) (.sl id 0 1 4 true)=some (.sl σ.length 0 2 4 true,σ++[.cells [.int .i64 3,.int .i64 0,.str ⟨#[98]⟩,.isl [] true,.int .i64 0,.int .i64 0,.str ⟨#[]⟩,.isl [] false] 0 true]):=by
 simp [appendA,elemsN,elemsA,h,h2,window,chunk,mk,isSl,flat,AV.cells,AV.nrm]
def z1:GW:=⟨⟨#[122,122]⟩,[adr ⟨#[99]⟩],0⟩
def z4:GW:=⟨⟨#[122,122]⟩,[adr ⟨#[98]⟩],-1⟩
def z5:GW:=⟨⟨#[122,122]⟩,[adr ⟨#[98]⟩,.mk 0 0 ⟨#[]⟩ []],0⟩
def z6:GW:=⟨⟨#[90]⟩,[adr ⟨#[98]⟩],0⟩
set_option maxRecDepth 100000 in
theorem tail9 (l:List AOper) (hl:l=q9∨l=swap2 q9) {which:Int} (hw:GV.i64ok which) {K:List GW} (hK:SzK K) {s1 s2:Int} {f:FR} {τ:Heap} {m a:Nat} (f1:f 1=.int .i64 which) (f5:f 5=.bool true) (f6:f 6=.ptr 0 0) (f7:f 7=.int .i64 (K.length:Int))
  {A:List AV} (hA:A=fW K) (t0:τ[0]?=some (.cells [.str ⟨#[97]⟩,.str ⟨#[98]⟩,.int .i64 s1,.int .i64 s2,.sl m 0 (K.length+1) 3 true] 0 false))
  (tm:τ[m]?=some (.cells (A++[.str ⟨#[122,122]⟩,.sl a 0 1 4 true,.int .i64 0]) 0 true)) (ta:τ[a]?=some (.cells [.int .i64 3,.int .i64 0,.str ⟨#[98]⟩,.isl [] true] 0 false)) (h0m:0≠m) (h0a:0≠a) (hma:m≠a) :
  wpK T 0 112 [.code (t9 l)] f τ (endP 112 [.tmp 4] (.bool true)):=by
 have hp:∀ bs σ,callT T 12 [.int .i64 which,.int .i64 7] bs σ=some (.int .i64 (pickN which 7:Int),σ):=fun bs σ=>pick15 which 7 (by omega) hw bs σ
 have hpl:=pickN_lt (c:=which) (n:=7) (by omega)
 generalize pickN which 7=p at *
 have hAl:A.length=K.length * 3:=by rw [hA]; exact fW_len K
 have w0:=win_app0 hAl
 have w1:=win_app hAl
 have r0:=setRun_app0 hAl
 have r1:=setRun_app hAl
 have hlt:(K.length:Int)<(K.length:Int)+1:=by omega
 have l0:0<τ.length:=(zqI.1 t0).1
 have lm:m<τ.length:=(zqI.1 tm).1
 have la:a<τ.length:=(zqI.1 ta).1
 have hz:zz.name.size≤16∧GV.sizes zz.args≤1000:=by decide
 have hzN:∀ {σ:Heap},σ[a]?=some (.cells [.int .i64 3,.int .i64 0,.str ⟨#[98]⟩,.isl [] true] 0 false)→HoldsN σ a (flat (GV.encs zz.args)):=fun h=>⟨_,_,_,h,rfl,rfl⟩
 have hN1:∀ {σ:Heap},σ[τ.length]?=some (.cells [.int .i64 3,.int .i64 0,.str ⟨#[99]⟩,.isl [] true] 0 false)→HoldsN σ τ.length (flat (GV.encs z1.args)):=fun h=>⟨_,_,_,h,rfl,rfl⟩
 match p,hpl with
 | 0,_=>
  have hlay:=fun bs (σ:Heap) h h2=>lay_one hK (z:=zz) hz (fr:=⟨#[98]⟩) (to:=⟨#[98]⟩) (by decide) (by decide) (st:=s1) (sq:=s2) (fun hf=>hf.ne rfl) hA (m:=m) (a:=a) (zl:=1) rfl rfl bs (σ:=σ) h (hzN h2)
  rw [show zz.name=⟨#[122,122]⟩ from rfl,show zz.stamp=0 from rfl] at hlay
  simp [-getElem?_pos,t9,hp,f1,f5,f6,f7,t0,tm,ta,h0m,h0a,hma,h0m.symm,h0a.symm,hma.symm,l0,lm,la,zqC,list_set_at,List.length_set,zqE,zqD,zqA,zqB,setRun,w0,w1,r0,r1,hAl,hlt,AV.clo1,AV.cellv,hlay]
 | 1,_=>
  have hz':z1.name.size≤16∧GV.sizes z1.args≤1000:=by decide
  have hlay:=fun bs (σ:Heap) h h2=>lay_one hK (z:=z1) hz' (fr:=⟨#[97]⟩) (to:=⟨#[98]⟩) (by decide) (by decide) (st:=s1) (sq:=s2) (bad_row (k:=K.length) (x:=z1) (by simp) (show rowOK ⟨#[98]⟩ z1=false by decide)) hA (m:=m) (a:=τ.length) (zl:=1) rfl rfl bs (σ:=σ) h (hN1 h2)
  rw [show z1.name=⟨#[122,122]⟩ from rfl,show z1.stamp=0 from rfl] at hlay
  simp [-getElem?_pos,t9,hp,f1,f5,f6,f7,t0,tm,ta,h0m,h0a,hma,h0m.symm,h0a.symm,hma.symm,l0,lm,la,zqC,list_set_at,List.length_set,zqE,zqD,zqA,zqB,setRun,w0,w1,r0,r1,hAl,hlt,AV.clo1,AV.cellv,hlay]
 | 2,_=>
  have hlay:=fun bs (σ:Heap) h h2=>lay_dup hK (z:=zz) hz (fr:=⟨#[97]⟩) (to:=⟨#[98]⟩) (by decide) (by decide) (st:=s1) (sq:=s2) hA (m:=τ.length+1) (a:=a) (zl:=1) rfl rfl bs (σ:=σ) h (hzN h2)
  rw [show zz.name=⟨#[122,122]⟩ from rfl,show zz.stamp=0 from rfl] at hlay
  have happ:=fun (σ:Heap) id h1 h2=>app_dup hA (by have:=hK.len; omega) (m:=m) (a:=a) (σ:=σ) (id:=id) h1 h2
  simp [-getElem?_pos,t9,hp,f1,f5,f6,f7,t0,tm,ta,h0m,h0a,hma,h0m.symm,h0a.symm,hma.symm,l0,lm,la,zqC,list_set_at,List.length_set,zqE,zqD,zqA,zqB,setRun,w0,w1,r0,r1,hAl,hlt,AV.clo1,AV.cellv,hlay,happ]
 | 3,_=>
  have hz':zz.name.size≤16∧GV.sizes zz.args≤1000:=by decide
  have hlay:=fun bs (σ:Heap) h h2=>lay_one hK (z:=zz) hz' (fr:=⟨#[97]⟩) (to:=⟨#[98]⟩) (by decide) (by decide) (st:=s1) (sq:=-1) (fun hf=>absurd ((nearB_iff _).1 hf.seq).1 (show ¬ (0:Int)≤-1 by decide)) hA (m:=m) (a:=a) (zl:=1) rfl rfl bs (σ:=σ) h (hzN h2)
  rw [show zz.name=⟨#[122,122]⟩ from rfl,show zz.stamp=0 from rfl] at hlay
  simp [-getElem?_pos,t9,hp,f1,f5,f6,f7,t0,tm,ta,h0m,h0a,hma,h0m.symm,h0a.symm,hma.symm,l0,lm,la,zqC,list_set_at,List.length_set,zqE,zqD,zqA,zqB,setRun,w0,w1,r0,r1,hAl,hlt,AV.clo1,AV.cellv,hlay]
 | 4,_=>
  have hz':z4.name.size≤16∧GV.sizes z4.args≤1000:=by decide
  have hlay:=fun bs (σ:Heap) h h2=>lay_one hK (z:=z4) hz' (fr:=⟨#[97]⟩) (to:=⟨#[98]⟩) (by decide) (by decide) (st:=s1) (sq:=s2) (bad_row (k:=K.length) (x:=z4) (by simp) (show rowOK ⟨#[98]⟩ z4=false by decide)) hA (m:=m) (a:=a) (zl:=1) rfl rfl bs (σ:=σ) h (hzN h2)
  rw [show z4.name=⟨#[122,122]⟩ from rfl,show z4.stamp=-1 from rfl] at hlay
  simp [-getElem?_pos,t9,hp,f1,f5,f6,f7,t0,tm,ta,h0m,h0a,hma,h0m.symm,h0a.symm,hma.symm,l0,lm,la,zqC,list_set_at,List.length_set,zqE,zqD,zqA,zqB,setRun,w0,w1,r0,r1,hAl,hlt,AV.clo1,AV.cellv,hlay]
 | 5,_=>
  have hz':z5.name.size≤16∧GV.sizes z5.args≤1000:=by decide
  have hN5:∀ {σ:Heap},σ[τ.length+2]?=some (.cells [.int .i64 3,.int .i64 0,.str ⟨#[98]⟩,.isl [] true,.int .i64 0,.int .i64 0,.str ⟨#[]⟩,.isl [] false] 0 true)→HoldsN σ (τ.length+2) (flat (GV.encs z5.args)):=fun h=>⟨_,_,_,h,rfl,rfl⟩
  have hN5b:∀ {σ:Heap},σ[τ.length+2]?=some (.cells [.int .i64 3,.int .i64 0,.str ⟨#[98]⟩,.isl [] true,.int .i64 0,.int .i64 0,.str ⟨#[]⟩,.isl [] true] 0 true)→HoldsN σ (τ.length+2) (flat (GV.encs z5.args)):=fun h=>⟨_,_,_,h,rfl,rfl⟩
  have hlay:=fun bs (σ:Heap) h h2=>lay_one hK (z:=z5) hz' (fr:=⟨#[97]⟩) (to:=⟨#[98]⟩) (by decide) (by decide) (st:=s1) (sq:=s2) (bad_row (k:=K.length) (x:=z5) (by simp) (show rowOK ⟨#[98]⟩ z5=false by decide)) hA (m:=m) (a:=τ.length+2) (zl:=2) rfl rfl bs (σ:=σ) h (hN5 h2)
  have hlay2:=fun bs (σ:Heap) h h2=>lay_one hK (z:=z5) hz' (fr:=⟨#[97]⟩) (to:=⟨#[98]⟩) (by decide) (by decide) (st:=s1) (sq:=s2) (bad_row (k:=K.length) (x:=z5) (by simp) (show rowOK ⟨#[98]⟩ z5=false by decide)) hA (m:=m) (a:=τ.length+2) (zl:=2) rfl rfl bs (σ:=σ) h (hN5b h2)
  rw [show z5.name=⟨#[122,122]⟩ from rfl,show z5.stamp=0 from rfl] at hlay hlay2
  have ha1:a≠τ.length:=by omega
  rcases hl with rfl | rfl
  ·rw [q9]
   simp [-getElem?_pos,t9,hp,f1,f5,f6,f7,t0,tm,ta,h0m,h0a,hma,h0m.symm,h0a.symm,hma.symm,l0,lm,la,zqC,list_set_at,List.length_set,zqE,zqD,zqA,zqB,setRun,w0,w1,r0,r1,hAl,hlt,AV.clo1,AV.cellv,hlay,app_arg,chkO_l,objOf]
  ·rw [q9,swap2]
   simp [-getElem?_pos,t9,hp,f1,f5,f6,f7,t0,tm,ta,h0m,h0a,hma,h0m.symm,h0a.symm,hma.symm,l0,lm,la,zqC,list_set_at,List.length_set,zqE,zqD,zqA,zqB,setRun,w0,w1,r0,r1,hAl,hlt,AV.clo1,AV.cellv,hlay,hlay2,app_arg]
 | 6,_=>
  have hz':z6.name.size≤16∧GV.sizes z6.args≤1000:=by decide
  have hlay:=fun bs (σ:Heap) h h2=>lay_one hK (z:=z6) hz' (fr:=⟨#[97]⟩) (to:=⟨#[98]⟩) (by decide) (by decide) (st:=s1) (sq:=s2) (bad_row (k:=K.length) (x:=z6) (by simp) (show rowOK ⟨#[98]⟩ z6=false by decide)) hA (m:=m) (a:=a) (zl:=1) rfl rfl bs (σ:=σ) h (hzN h2)
  rw [show z6.name=⟨#[90]⟩ from rfl,show z6.stamp=0 from rfl] at hlay
  simp [-getElem?_pos,t9,hp,f1,f5,f6,f7,t0,tm,ta,h0m,h0a,hma,h0m.symm,h0a.symm,hma.symm,l0,lm,la,zqC,list_set_at,List.length_set,zqE,zqD,zqA,zqB,setRun,w0,w1,r0,r1,hAl,hlt,AV.clo1,AV.cellv,hlay,app_arg,chkO_l,objOf]
open Go.RowKit Go.Mach
theorem app_start {K:List GW} (hn:K.length≤100) (hne:K≠[]) (σ:Heap):appendA σ 3 true 48 true (.isl [] true) (.isl (K.map GW.enc) false)=some (.sl σ.length 0 K.length 3 true,σ++[.cells (fW K) 0 true]):=by
 have hf:=fW_flat K
 have hl:=fW_len K
 have h1:K.map GW.enc≠[]:=by simpa using hne
 have hb:¬ (3=0∨(0+K.length) * 48 > 70368744177664∨0+K.length > 70368744177664):=by omega
 simp only [appendA,elemsN,elemsA,Option.bind_some,isSl,List.length_nil,List.length_map,if_neg h1,if_neg hb,hf]
 simp [flat,hl]
theorem app_none (σ:Heap):appendA σ 3 true 48 true (.isl [] true) (.isl [] false)=some (.isl [] true,σ):=rfl
theorem app_first {a id:Nat} {σ:Heap} (h2:σ[id]?=some (.cells [.str ⟨#[122,122]⟩,.sl a 0 1 4 true,.int .i64 0] 0 false)) :
  appendA σ 3 true 48 true (.isl [] true) (.sl id 0 1 3 true)=some (.sl σ.length 0 1 3 true,σ++[.cells [.str ⟨#[122,122]⟩,.sl a 0 1 4 true,.int .i64 0] 0 true]):=by
 exact app_mt_nil (sz:=3) h2 rfl (by omega) (by omega)
theorem app_more {K:List GW} (hn:K.length≤100) {m a id:Nat} {σ:Heap} (h:σ[m]?=some (.cells (fW K) 0 true)) (h2:σ[id]?=some (.cells [.str ⟨#[122,122]⟩,.sl a 0 1 4 true,.int .i64 0] 0 false)) :
  appendA σ 3 true 48 true (.sl m 0 K.length 3 true) (.sl id 0 1 3 true)=some (.sl σ.length 0 (K.length+1) 3 true,σ.set m .dead++[.cells (fW K++[.str ⟨#[122,122]⟩,.sl a 0 1 4 true,.int .i64 0]) 0 true]):=by
 have hfl:=fW_flat K
 have hch:=flat_chunk (s:=3) (es:=K.map GW.enc) (fun e he=>by obtain ⟨x,_,rfl⟩:=List.mem_map.1 he; exact ⟨_,rfl,rfl⟩)
 have hlen:(K.map GW.enc).length=K.length:=by simp
 have:=app_mt_sl (σ:=σ) (id:=id) (k:=m) (sz:=3) (bytes:=48) (es:=K.map GW.enc) h2 rfl (by omega) (by omega) (by rw [hfl]; exact h) (by rw [hfl,hlen,fW_len]) hch (by rw [hlen]; omega)
 rw [hlen,hfl] at this
 rw [this]
 simp [AV.nrm]
theorem batch_size {facts:List GRaw} {K:List GW} (k1:UpW K) (k2:∀ x∈K,x∈bRows [] (rowsX facts) (rowsX facts).length) (k3:K.length≤(rowsX facts).length) {fr to:ByteArray} {s1 s2:Int} (hF:FOk ⟨fr,to,s1,s2,K⟩):SzK K:=by
 have hrl:(rowsX facts).length≤40:=by simp [rowsX]; omega
 have hnd:K.Nodup:=by
  refine List.Pairwise.imp (fun {a b} h=>?_) k1
  rintro rfl
  have:=cmpW_self a; omega
 have hz1:=sizesW_sub hnd k2
 have hz2:=bRows_size [] facts (rowsX facts).length (Nat.le_refl _)
 have hz3:=sizes_take_le [] (rowsX facts).length
 have hz4:GV.sizes []=0:=rfl
 exact ⟨by omega,by omega,fun x hx=>by have:=(hF.name hx).2.1; omega⟩
set_option maxRecDepth 100000 in
theorem refuses_law (l:List AOper) (hl:l=q9∨l=swap2 q9) (facts:List GRaw) (hx:FactsOk facts) (which:Int) (hw:GV.i64ok which) :
  pureT T ⟨112,[.tmp 4],w9 l,.pure,true,true⟩ [.isl (facts.map GRaw.enc) false,.int .i64 which]=some (.bool true):=by
 obtain ⟨K,k1,k2,k3,k4⟩:=batch_ok facts hx [] (by trivial) (by decide) 1 2 ⟨by omega,by omega⟩ ⟨by omega,by omega⟩
 obtain ⟨g1,g2,g3⟩:=batch_good (more:=[]) (by decide) k1 k2 k3 (pickN 1 1099511627777) (pickN 2 1099511627777) (pickN_lt (by omega)) (pickN_lt (by omega))
 have hK:=batch_size k1 k2 k3 g1
 generalize ((pickN 1 1099511627777:Nat):Int)=s1 at *
 generalize ((pickN 2 1099511627777:Nat):Int)=s2 at *
 have hb:∀ bs σ,callT T 15 [.isl (facts.map GRaw.enc) false,.isl [] true,.int .i64 1,.int .i64 2] bs σ=some ((GF.mk ⟨#[97]⟩ ⟨#[98]⟩ s1 s2 K).enc,σ):=fun bs σ=>
  call_data (af:=c15) rfl rfl rfl k4 rfl (by simp) (by simp [closeT,closeA,GV.encs])
 rw [GF.enc_eq] at hb
 apply pure_enter (by simp)
 have hlen:=hK.len
 have w1:∀ n:Nat,n≤100→IntKind.i64.wrap (n:Int)=(n:Int):=fun n h=>wr64 (by omega) (by omega)
 by_cases hne:K=[]
 ·subst hne
  have af:=fun a=>app_first (a:=a) (id:=2) (σ:=[.cells [.str ⟨#[97]⟩,.str ⟨#[98]⟩,.int .i64 s1,.int .i64 s2,.isl [] false] 0 false,.cells [.int .i64 3,.int .i64 0,.str ⟨#[98]⟩,.isl [] true] 0 false,.cells [.str ⟨#[122,122]⟩,.sl a 0 1 4 true,.int .i64 0] 0 false]) rfl
  simp [w9,callAwake15,hb,setRun,app_none,af,AV.clo1]
  exact tail9 l hl hw hK (m:=3) (a:=1) rfl rfl rfl rfl rfl rfl rfl rfl (by omega) (by omega) (by omega)
 ·have hlen':K.length≤100:=by omega
  have am:=app_more hlen' (m:=1) (a:=2) (id:=3) (σ:=[.cells [.str ⟨#[97]⟩,.str ⟨#[98]⟩,.int .i64 s1,.int .i64 s2,.isl (K.map GW.enc) false] 0 false,.cells (fW K) 0 true,.cells [.int .i64 3,.int .i64 0,.str ⟨#[98]⟩,.isl [] true] 0 false,.cells [.str ⟨#[122,122]⟩,.sl 2 0 1 4 true,.int .i64 0] 0 false]) rfl rfl
  simp [w9,callAwake15,hb,setRun,app_start hlen' hne,am,AV.clo1,w1 K.length hlen']
  exact tail9 l hl hw hK (m:=4) (a:=2) rfl rfl rfl rfl rfl rfl rfl rfl (by omega) (by omega) (by omega)
open Go.Mach
structure IsFr (P:Program) (tF tWL tW tV tL tI tS:TypeId):Prop where
 fs:∃ fs:Array Field,P.underlying tF=some (.struct fs)∧fs.toList.map (·.type)=[tS,tS,tI,tI,tWL]
 list:P.underlying tWL=some (.slice tW)
 row:∃ fs:Array Field,P.underlying tW=some (.struct fs)∧fs.toList.map (·.type)=[tS,tL,tI]
 val:IsV P tV tL tI tS
end Go.Proofs.Ytkempedphjopmaa
end
