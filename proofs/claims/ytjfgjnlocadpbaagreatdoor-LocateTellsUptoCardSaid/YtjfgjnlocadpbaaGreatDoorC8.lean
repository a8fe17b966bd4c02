import Derived.Test.YtjfgjnlocadpbaaGreatDoorC7
import Derived.Test.YtjfgjnlocadpbaaGreatDoorC3
import Derived.Test.YtjfgjnlocadpbaaGreatDoorC6
set_option linter.unusedVariables false
set_option linter.unusedSimpArgs false
set_option linter.unnecessarySimpa false
section
namespace Go.Mach
def LX (N sz:Nat) (σ:Heap) (es:List AV) (x:AV):Prop:=
 (es=[]∧x=.isl [] true) ∨
 (∃ k cs fz,x=.sl k 0 1 sz true∧N≤k∧σ[k]?=some (.cells cs fz false)∧cs.length=sz∧cs.all AV.clo1=true∧es=[.agg (cs.map AV.nrm)]) ∨
 (∃ k,x=.own k es∧N≤k∧σ[k]?=some (.tok es.length sz)∧es.all (okEl sz true)=true)
theorem closeX_idem {σ:Heap} {j off n sz fj:Nat} {ag ej:Bool} {ds:List AV} (hj:σ[j]?=some (.cells ds fj ej)) (hdc:ds.all AV.clo1=true):closeX σ (.sl j off n sz ag)=σ:=by
 simp only [closeX,hj,hdc,if_true]
theorem appendC_closeX {σ σ1:Heap} {sz bytes:Nat} {ag:Bool} {s x:AV} (h:closeX σ x=σ1) (h1:closeX σ1 x=σ1):appendC σ sz ag bytes false s x=appendC σ1 sz ag bytes false s x:=by
 unfold appendC; simp [h,h1]
theorem LX.closeS_len {σ:Heap} (id sz:Nat):(closeS σ (.sl id 0 1 sz true)).length=σ.length∧∀ i,i≠id→(closeS σ (.sl id 0 1 sz true))[i]?=σ[i]?:=by
 simp only [closeS]
 split
 ·rename_i cs fz ext h
  split
  ·exact ⟨by simp,fun i hi=>by rw [zqC (Ne.symm hi)]⟩
  ·exact ⟨rfl,fun _ _=>rfl⟩
 ·exact ⟨rfl,fun _ _=>rfl⟩
def LO (N sz:Nat) (ag:Bool) (σ:Heap) (es:List AV) (x:AV):Prop:=
 (es=[]∧x=.isl [] true)∨(∃ k,x=.own k es∧N≤k∧σ[k]?=some (.tok es.length sz)∧es.all (okEl sz ag)=true)
theorem LO.nil (N sz:Nat) (ag:Bool) (σ:Heap):LO N sz ag σ [] (.isl [] true):=.inl ⟨rfl,rfl⟩
theorem LO.toLX {N sz:Nat} {σ:Heap} {es:List AV} {x:AV} (h:LO N sz true σ es x):LX N sz σ es x:=by
 rcases h with h | ⟨k,h⟩
 ·exact .inl h
 ·exact .inr (.inr ⟨k,h⟩)
theorem LO.len {N sz:Nat} {ag:Bool} {σ:Heap} {es:List AV} {x:AV} (h:LO N sz ag σ es x):lenV false x=some (.int .i64 (es.length:Int)):=by
 rcases h with ⟨rfl,rfl⟩ | ⟨k,rfl,_⟩ <;> simp
theorem LO.solid {N sz:Nat} {ag:Bool} {σ:Heap} {es:List AV} {x:AV} (h:LO N sz ag σ es x):x.solid=true:=by
 rcases h with ⟨rfl,rfl⟩ | ⟨k,rfl,_⟩ <;> rfl
theorem LO.cells {N sz:Nat} {ag:Bool} {σ:Heap} {es:List AV} {x:AV} (h:LO N sz ag σ es x):x.cells=[x]:=by
 rcases h with ⟨rfl,rfl⟩ | ⟨k,rfl,_⟩ <;> rfl
theorem LO.close {N sz:Nat} {ag:Bool} {σ:Heap} {es:List AV} {x:AV} (h:LO N sz ag σ es x) (τ:Heap):close0 τ x=some (.isl es false,τ):=by
 rcases h with ⟨rfl,rfl⟩ | ⟨k,rfl,_⟩ <;> rfl
theorem LO.close1 {N sz:Nat} {ag:Bool} {σ:Heap} {es:List AV} {x:AV} (h:LO N sz ag σ es x) (τ:Heap):Go.Mach.close1 τ x=some (.isl es false,τ):=close1_of0 (h.close τ)
theorem LO.closeA {N sz:Nat} {ag:Bool} {σ:Heap} {es:List AV} {x:AV} (h:LO N sz ag σ es x) (τ:Heap):Go.Mach.closeA τ x=some (.isl es false,τ):=by
 have hc:=h.close1 τ
 rcases h with ⟨rfl,rfl⟩ | ⟨k,rfl,_⟩ <;> exact hc
theorem LO.keep {N sz:Nat} {ag:Bool} {σ τ:Heap} {es:List AV} {x:AV} (h:LO N sz ag σ es x) (hk:∀ i o,N≤i→σ[i]?=some o→τ[i]?=some o):LO N sz ag τ es x:=by
 rcases h with h | ⟨k,h1,h2,h3,h4⟩
 ·exact .inl h
 ·exact .inr ⟨k,h1,h2,hk _ _ h2 h3,h4⟩
theorem LO.at {N sz:Nat} {ag:Bool} {σ:Heap} {es:List AV} {x:AV} (h:LO N sz ag σ es x) {i:Nat} (hi:i<es.length) (hz:(es[i]).cells.length=sz):iaddrV sz x (.int .i64 (i:Int))=some (.iptr (es[i]).cells 0):=by
 rcases h with ⟨rfl,rfl⟩ | ⟨k,rfl,_⟩
 ·simp at hi
 ·simp [hi,hz]
theorem app_any0 {σ0 σ σ1:Heap} {j sz bytes fj N:Nat} {ej:Bool} {ds:List AV} {es:List AV} {x:AV}
  (hX:closeX σ (.sl j 0 1 sz true)=σ1) (hj:σ1[j]?=some (.cells ds fj ej)) (hd:ds.length=sz) (hdc:ds.all AV.clo1=true) (h0:0<sz) (hb:bytes≤1000)
  (hx:LX N sz σ0 es x) (hσ:∀ i,i<σ0.length→σ1[i]?=σ0[i]?) (hj0:σ0.length≤j) (hN:N≤σ0.length) (hl:es.length≤1000000000) :
  ∃ x' σ',appendC σ sz true bytes false x (.sl j 0 1 sz true)=some (x',σ')∧LO N sz true σ' (es++[.agg (ds.map AV.nrm)]) x'∧σ1.length≤σ'.length∧∀ i o,σ0[i]?=some o→(i<N∨((∀ n,o≠.tok n sz)∧∀ cs fz,o=.cells cs fz false→cs.length≠sz))→σ'[i]?=some o:=by
 have hjl:j<σ1.length:=(zqI.1 hj).1
 rw [appendC_closeX hX (closeX_idem hj hdc)]
 have o2:okEl sz true (.agg (ds.map AV.nrm))=true:=by simp only [okEl,AV.clo,nrm_all hdc,AV.cells,List.length_map,hd,decide_true,Bool.and_self]
 rcases hx with ⟨rfl,rfl⟩ | ⟨k,cs,fz,rfl,hkN,hk,hcl,hcc,rfl⟩ | ⟨k,rfl,hkN,hk,hes⟩
 ·refine ⟨.own σ1.length [.agg (ds.map AV.nrm)],σ1++[.tok 1 sz],by rw [appendC_clo hj hdc]; exact app_ag hj hd hdc h0 hb (app1_nil ..),.inr ⟨σ1.length,rfl,by omega,by simp,by simp [o2]⟩,by simp,fun i o hi h12=>?_⟩
  have hil:=(zqI.1 hi).1
  rw [zqA (by omega),hσ i hil]; exact hi
 ·have hkl:k<σ0.length:=(zqI.1 hk).1
  have hk1:σ1[k]?=some (.cells cs fz false):=by rw [hσ k hkl]; exact hk
  obtain ⟨c1,c2⟩:=LX.closeS_len (σ:=σ1) k sz
  have o1:okEl sz true (.agg (cs.map AV.nrm))=true:=by simp only [okEl,AV.clo,nrm_all hcc,AV.cells,List.length_map,hcl,decide_true,Bool.and_self]
  refine ⟨_,_,app_slC hk1 hj (by omega) hcl hd hcc hdc h0 hb,.inr ⟨σ1.length,rfl,by omega,?_,by simp [o1,o2]⟩,by simp [c1],fun i o hi h12=>?_⟩
  ·rw [←c1]; simp
  ·have hil:=(zqI.1 hi).1
   have hne:i≠k:=by
    rintro rfl
    rw [hk] at hi; injection hi with hi
    rcases h12 with h | ⟨_,h2⟩
    ·omega
    ·exact h2 cs fz hi.symm hcl
   rw [zqA (by rw [c1]; omega),c2 i hne,hσ i hil]; exact hi
 ·have hkl:k<σ0.length:=(zqI.1 hk).1
  have hk1:σ1[k]?=some (.tok es.length sz):=by rw [hσ k hkl]; exact hk
  refine ⟨.own k (es++[.agg (ds.map AV.nrm)]),σ1.set k (.tok (es.length+1) sz),by rw [appendC_clo hj hdc]; exact app_ag hj hd hdc h0 hb (app1_own hes (by omega) hk1),.inr ⟨k,rfl,hkN,?_,by simp [List.all_append,hes,o2]⟩,by simp,fun i o hi h12=>?_⟩
  ·rw [list_set_at (by omega)]; simp
  ·have hil:=(zqI.1 hi).1
   have hne:i≠k:=by
    rintro rfl
    rw [hk] at hi; injection hi with hi
    rcases h12 with h | ⟨h1,_⟩
    ·omega
    ·exact h1 _ hi.symm
   rw [zqC (Ne.symm hne),hσ i hil]; exact hi
theorem LX.other {N sz sz2:Nat} {σ0 σ':Heap} {es2:List AV} {y:AV} (hne:sz2≠sz) (h:LX N sz2 σ0 es2 y) (hk:∀ i o,σ0[i]?=some o→(i<N∨((∀ n,o≠.tok n sz)∧∀ cs fz,o=.cells cs fz false→cs.length≠sz))→σ'[i]?=some o):LX N sz2 σ' es2 y:=by
 rcases h with h | ⟨k,cs,fz,h1,h2,h3,h4,h5⟩ | ⟨k,h1,h2,h3,h4⟩
 ·exact .inl h
 ·exact .inr (.inl ⟨k,cs,fz,h1,h2,hk _ _ h3 (.inr ⟨fun n e=>(by cases e),fun cs' fz' e=>(by injection e with e1; subst e1; omega)⟩),h4,h5⟩)
 ·exact .inr (.inr ⟨k,h1,h2,hk _ _ h3 (.inr ⟨fun n e=>(by injection e with e1 e2; exact hne e2),fun cs' fz' e=>(by cases e)⟩),h4⟩)
theorem app_any {σ0 σ σ1:Heap} {j sz bytes fj N:Nat} {ej:Bool} {ds:List AV} {es:List AV} {x:AV}
  (hX:closeX σ (.sl j 0 1 sz true)=σ1) (hj:σ1[j]?=some (.cells ds fj ej)) (hd:ds.length=sz) (hdc:ds.all AV.clo1=true) (h0:0<sz) (hb:bytes≤1000)
  (hx:LX N sz σ0 es x) (hσ:∀ i,i<σ0.length→σ1[i]?=σ0[i]?) (hj0:σ0.length≤j) (hN:N≤σ0.length) (hl:es.length≤1000000000) :
  ∃ x' σ',appendC σ sz true bytes false x (.sl j 0 1 sz true)=some (x',σ')∧LX N sz σ' (es++[.agg (ds.map AV.nrm)]) x'∧σ1.length≤σ'.length∧(∀ i,i<N→σ'[i]?=σ0[i]?)∧∀ sz2 es2 y,sz2≠sz→LX N sz2 σ0 es2 y→LX N sz2 σ' es2 y:=by
 obtain ⟨x',σ',h1,h2,h3,h4⟩:=app_any0 (bytes:=bytes) hX hj hd hdc h0 hb hx hσ hj0 hN hl
 exact ⟨x',σ',h1,h2.toLX,h3,fun i hi=>by rw [h4 i _ (zqF (by omega)) (.inl hi),zqF],fun sz2 es2 y hne hy=>hy.other hne h4⟩
theorem LX.len {N sz:Nat} {σ:Heap} {es:List AV} {x:AV} (h:LX N sz σ es x):lenV false x=some (.int .i64 (es.length:Int)):=by
 rcases h with ⟨rfl,rfl⟩ | ⟨k,cs,fz,rfl,_,_,_,_,rfl⟩ | ⟨k,rfl,_⟩ <;> simp
theorem LX.solid {N sz:Nat} {σ:Heap} {es:List AV} {x:AV} (h:LX N sz σ es x):x.solid=true:=by
 rcases h with ⟨rfl,rfl⟩ | ⟨k,cs,fz,rfl,_⟩ | ⟨k,rfl,_⟩ <;> rfl
theorem LX.cells {N sz:Nat} {σ:Heap} {es:List AV} {x:AV} (h:LX N sz σ es x):x.cells=[x]:=by
 rcases h with ⟨rfl,rfl⟩ | ⟨k,cs,fz,rfl,_⟩ | ⟨k,rfl,_⟩ <;> rfl
theorem LX.keep {N sz:Nat} {σ τ:Heap} {es:List AV} {x:AV} (h:LX N sz σ es x) (hk:∀ i o,N≤i→σ[i]?=some o→τ[i]?=some o):LX N sz τ es x:=by
 rcases h with h | ⟨k,cs,fz,h1,h2,h3,h4⟩ | ⟨k,h1,h2,h3,h4⟩
 ·exact .inl h
 ·exact .inr (.inl ⟨k,cs,fz,h1,h2,hk _ _ h2 h3,h4⟩)
 ·exact .inr (.inr ⟨k,h1,h2,hk _ _ h2 h3,h4⟩)
theorem close0_one {σ:Heap} {k sz fz:Nat} {ext:Bool} {cs:List AV} (hk:σ[k]?=some (.cells cs fz ext)) (hl:cs.length=sz) (hc:cs.all AV.clo1=true):close0 σ (.sl k 0 1 sz true)=some (.isl [.agg (cs.map AV.nrm)] false,frz σ k sz):=by
 subst hl
 have hw:window cs 0 cs.length=some cs:=window_full rfl
 have hc2:¬ (1:Nat)=0:=by decide
 simp only [close0,if_neg hc2,hk,Nat.one_mul,Nat.zero_add,hw,Option.bind_some,hc,if_true]
 have ht:List.take cs.length (List.map AV.nrm cs)=List.map AV.nrm cs:=List.take_of_length_le (by simp)
 simp [chunk,mk,ht]
theorem LX.frz {N sz k m:Nat} {σ:Heap} {es:List AV} {y:AV} (h:LX N sz σ es y):LX N sz (Go.Mach.frz σ k m) es y:=by
 unfold Go.Mach.frz
 split
 ·rename_i cs0 fz0 ext0 h0
  have hk:=(zqI.1 h0).1
  rcases h with h | ⟨j,cs,fz,h1,h2,h3,h4⟩ | ⟨j,h1,h2,h3,h4⟩
  ·exact .inl h
  ·by_cases e:k=j
   ·subst e
    rw [h0] at h3; injection h3 with h3; injection h3 with e1 e2 e3; subst e1 e3
    exact .inr (.inl ⟨k,cs0,_,h1,h2,list_set_at hk,h4⟩)
   ·exact .inr (.inl ⟨j,cs,fz,h1,h2,by rw [zqC e]; exact h3,h4⟩)
  ·have e:k≠j:=by rintro rfl; rw [h0] at h3; cases h3
   exact .inr (.inr ⟨j,h1,h2,by rw [zqC e]; exact h3,h4⟩)
 ·exact h
theorem LX.close {N sz:Nat} {σ:Heap} {es:List AV} {x:AV} (h:LX N sz σ es x):∃ σ',close0 σ x=some (.isl es false,σ')∧σ'.length=σ.length∧(∀ i,i<N→σ'[i]?=σ[i]?)∧∀ N2 sz2 es2 y,LX N2 sz2 σ es2 y→LX N2 sz2 σ' es2 y:=by
 rcases h with ⟨rfl,rfl⟩ | ⟨k,cs,fz,rfl,hN,hk,hl,hc,rfl⟩ | ⟨k,rfl,_⟩
 ·exact ⟨σ,rfl,rfl,fun _ _=>rfl,fun _ _ _ _ h=>h⟩
 ·refine ⟨_,close0_one hk hl hc,?_,fun i hi=>?_,fun _ _ _ _ h=>h.frz⟩
  ·simp only [Go.Mach.frz,hk,List.length_set]
  ·simp only [Go.Mach.frz,hk]; rw [zqC (by omega)]
 ·exact ⟨σ,rfl,rfl,fun _ _=>rfl,fun _ _ _ _ h=>h⟩
theorem LX.closeA {N sz:Nat} {σ:Heap} {es:List AV} {x:AV} (h:LX N sz σ es x):∃ σ',Go.Mach.closeA σ x=some (.isl es false,σ')∧σ'.length=σ.length∧∀ i,i<N→σ'[i]?=σ[i]?:=by
 obtain ⟨σ',h1,h2,h3,_⟩:=h.close
 refine ⟨σ',?_,h2,h3⟩
 rcases h with ⟨rfl,rfl⟩ | ⟨k,cs,fz,rfl,hN,hk,hl,hc,rfl⟩ | ⟨k,rfl,_⟩ <;> exact close1_of0 h1
theorem lenIs_map {α:Type} (enc:α→AV) (sz:Nat) (h:∀ x,(enc x).cells.length=sz) (l:List α):(l.map enc).all (lenIs sz)=true:=by
 rw [zqQ]; intro x hx
 obtain ⟨y,_,rfl⟩:=List.mem_map.1 hx
 simp [lenIs,h y]
section
variable {T:Tab} {bs n:Nat}
theorem stW_appX {σ0 σ σ1:Heap} {j sz bytes fj N:Nat} {ej:Bool} {ds:List AV} {es:List AV} {x:AV} {d:Option Nat} {os:List AOper} {k:List Fr} {f:FR} {τ:Heap} {Q:AExit→FR→Heap→Prop}
  (hX:closeX σ (.sl j 0 1 sz true)=σ1) (hj:σ1[j]?=some (.cells ds fj ej)) (hd:ds.length=sz) (hdc:ds.all AV.clo1=true) (h0:0<sz) (hb:bytes≤1000)
  (hx:LX N sz σ0 es x) (hσ:∀ i,i<σ0.length→σ1[i]?=σ0[i]?) (hj0:σ0.length≤j) (hN:N≤σ0.length) (hl:es.length≤1000000000)
  (h:∀ x' σ',LX N sz σ' (es++[.agg (ds.map AV.nrm)]) x'→σ1.length≤σ'.length→(∀ i,i<N→σ'[i]?=σ0[i]?)→wpK T bs n (.ops os :: k) (updO f d x') σ' Q) :
  stW T bs n (appendC σ sz true bytes false x (.sl j 0 1 sz true)) d [] os k f τ Q:=by
 obtain ⟨x',σ',h1,h2,h3,h4,_⟩:=app_any (bytes:=bytes) hX hj hd hdc h0 hb hx hσ hj0 hN hl
 rw [h1]
 exact ⟨rfl,h x' σ' h2 h3 h4⟩
theorem stW_app1 {σ0:Heap} {sz bytes fj N:Nat} {ej:Bool} {ds:List AV} {es:List AV} {x:AV} {d:Option Nat} {os:List AOper} {k:List Fr} {f:FR} {τ:Heap} {Q:AExit→FR→Heap→Prop}
  (hx:LX N sz σ0 es x) (hd:ds.length=sz) (hdc:ds.all AV.clo1=true) (h0:0<sz) (hb:bytes≤1000) (hN:N≤σ0.length) (hl:es.length≤1000000000)
  (h:∀ x' σ',LX N sz σ' (es++[.agg (ds.map AV.nrm)]) x'→σ0.length+1≤σ'.length→(∀ i,i<N→σ'[i]?=σ0[i]?)→wpK T bs n (.ops os :: k) (updO f d x') σ' Q) :
  stW T bs n (appendC (σ0++[.cells ds fj ej]) sz true bytes false x (.sl σ0.length 0 1 sz true)) d [] os k f τ Q:=by
 have hj:(σ0++[.cells ds fj ej])[σ0.length]?=some (.cells ds fj ej):=List.getElem?_concat_length
 exact stW_appX (closeX_idem hj hdc) hj hd hdc h0 hb hx (fun i hi=>zqA hi) (Nat.le_refl _) hN hl fun x' σ' h1 h2 h3=>h x' σ' h1 (by simpa using h2) h3
def LastOk (y z:AV):Prop:=(y.clo1=true∧y.nrm=z)∨∃ k ys,y=.own k ys∧z=.isl ys false
theorem stW_app1K {σ0:Heap} {sz bytes fj N:Nat} {ej:Bool} {ds:List AV} {es:List AV} {x:AV} {d:Option Nat} {os:List AOper} {k:List Fr} {f:FR} {τ:Heap} {Q:AExit→FR→Heap→Prop}
  (hx:LX N sz σ0 es x) (hd:ds.length=sz) (hdc:ds.all AV.clo1=true) (h0:0<sz) (hb:bytes≤1000) (hN:N≤σ0.length) (hl:es.length≤1000000000)
  (h:∀ x' σ',LX N sz σ' (es++[.agg (ds.map AV.nrm)]) x'→σ0.length+1≤σ'.length→(∀ i,i<N→σ'[i]?=σ0[i]?)→(∀ sz2 es2 y,sz2≠sz→LX N sz2 σ0 es2 y→LX N sz2 σ' es2 y)→wpK T bs n (.ops os :: k) (updO f d x') σ' Q) :
  stW T bs n (appendC (σ0++[.cells ds fj ej]) sz true bytes false x (.sl σ0.length 0 1 sz true)) d [] os k f τ Q:=by
 have hj:(σ0++[.cells ds fj ej])[σ0.length]?=some (.cells ds fj ej):=List.getElem?_concat_length
 obtain ⟨x',σ',h1,h2,h3,h4,h5⟩:=app_any (bytes:=bytes) (closeX_idem hj hdc) hj hd hdc h0 hb hx (fun i hi=>zqA hi) (Nat.le_refl _) hN hl
 rw [h1]
 exact ⟨rfl,h x' σ' h2 (by simpa using h3) h4 h5⟩
theorem stW_app2 {σ0:Heap} {o:AObj} {sz bytes fj N:Nat} {ej:Bool} {ds:List AV} {es:List AV} {x:AV} {d:Option Nat} {os:List AOper} {k:List Fr} {f:FR} {τ:Heap} {Q:AExit→FR→Heap→Prop}
  (hx:LX N sz σ0 es x) (hd:ds.length=sz) (hdc:ds.all AV.clo1=true) (h0:0<sz) (hb:bytes≤1000) (hN:N≤σ0.length) (hl:es.length≤1000000000)
  (h:∀ x' σ',LX N sz σ' (es++[.agg (ds.map AV.nrm)]) x'→σ0.length+2≤σ'.length→(∀ i,i<N→σ'[i]?=σ0[i]?)→wpK T bs n (.ops os :: k) (updO f d x') σ' Q) :
  stW T bs n (appendC (σ0++[o,.cells ds fj ej]) sz true bytes false x (.sl (σ0.length+1) 0 1 sz true)) d [] os k f τ Q:=by
 have hj:(σ0++[o,.cells ds fj ej])[σ0.length+1]?=some (.cells ds fj ej):=by simp
 exact stW_appX (closeX_idem hj hdc) hj hd hdc h0 hb hx (fun i hi=>zqA hi) (by omega) hN hl fun x' σ' h1 h2 h3=>h x' σ' h1 (by simpa using h2) h3
end
end Go.Mach
end
section
namespace Go.Mach
def apart (x y:AV):Prop:=∀ k es es2,x=.own k es→y≠.own k es2
section
variable {T:Tab} {bs n:Nat}
theorem stW_s1 {σ0:Heap} {v:AV} {bytes fj N:Nat} {ej:Bool} {es:List AV} {x:AV} {d:Option Nat} {os:List AOper} {k:List Fr} {f:FR} {τ:Heap} {Q:AExit→FR→Heap→Prop}
  (hx:LO N 1 false σ0 es x) (hv:v.clo1=true) (hok:okEl 1 false v=true) (hnr:v.nrm=v) (hb:bytes≤1000) (hN:N≤σ0.length) (hl:es.length≤1000000000)
  (h:∀ x' σ',LO N 1 false σ' (es++[v]) x'→σ0.length+1≤σ'.length→(∀ i,i<N→σ'[i]?=σ0[i]?)→(∀ (i:Nat) (o:AObj),σ0[i]?=some o→(∀ n s,o≠.tok n s)→σ'[i]?=some o)→wpK T bs n (.ops os :: k) (updO f d x') σ' Q) :
  stW T bs n (appendC (σ0++[.cells [v] fj ej]) 1 false bytes false x (.sl σ0.length 0 1 1 false)) d [] os k f τ Q:=by
 have hj:(σ0++[.cells [v] fj ej])[σ0.length]?=some (.cells [v] fj ej):=List.getElem?_concat_length
 have hall:[v].all AV.clo1=true:=by simp [hv]
 rw [appendC_clo hj hall]
 have e2:elemsN (σ0++[.cells [v] fj ej]) 1 false (.sl σ0.length 0 1 1 false)=some [v]:=by rw [elemsN_s1 hj,hnr]
 rcases hx with ⟨rfl,rfl⟩ | ⟨m,rfl,hmN,hm,hes⟩
 ·have:=app1_eq (bytes:=bytes) e2 hok (by omega) hb (app1_nil ..)
  simp only [closeS_isl]
  rw [this]
  refine ⟨rfl,h _ _ (.inr ⟨_,rfl,by simp; omega,by simp,by simp [hok]⟩) (by simp) (fun i hi=>?_) fun i o ho _=>?_⟩
  ·rw [zqA (by simp; omega),zqA (by omega)]
  ·have:=(zqI.1 ho).1
   rw [zqA (by simp; omega),zqA this]; exact ho
 ·have hml:=(zqI.1 hm).1
  have hm1:(σ0++[AObj.cells [v] fj ej])[m]?=some (.tok es.length 1):=by rw [zqA hml]; exact hm
  have:=app1_eq (bytes:=bytes) e2 hok (by omega) hb (app1_own hes (by omega) hm1)
  simp only [closeS_own]
  rw [this]
  refine ⟨rfl,h _ _ (.inr ⟨m,rfl,hmN,by rw [list_set_at (by simp; omega)]; simp,by simp [List.all_append,hes,hok]⟩) (by simp) (fun i hi=>?_) fun i o ho hno=>?_⟩
  ·rw [zqC (by omega),zqA (by omega)]
  ·have hne:m≠i:=by rintro rfl; rw [hm] at ho; injection ho with ho; exact hno _ _ ho.symm
   rw [zqC hne,zqA (zqI.1 ho).1]; exact ho
theorem stW_s3 {σ0:Heap} {o1 o2:AObj} {v:AV} {bytes fj N:Nat} {ej:Bool} {es:List AV} {x:AV} {d:Option Nat} {os:List AOper} {k:List Fr} {f:FR} {τ:Heap} {Q:AExit→FR→Heap→Prop}
  (hx:LO N 1 false σ0 es x) (hv:v.clo1=true) (hok:okEl 1 false v=true) (hnr:v.nrm=v) (hb:bytes≤1000) (hN:N≤σ0.length) (hl:es.length≤1000000000)
  (h:∀ x' σ',LO N 1 false σ' (es++[v]) x'→σ0.length+3≤σ'.length→(∀ i,i<N→σ'[i]?=σ0[i]?)→(∀ (i:Nat) (o:AObj),(σ0++[o1,o2])[i]?=some o→(∀ n s,o≠.tok n s)→σ'[i]?=some o)→wpK T bs n (.ops os :: k) (updO f d x') σ' Q) :
  stW T bs n (appendC (σ0++[o1,o2,.cells [v] fj ej]) 1 false bytes false x (.sl (σ0.length+2) 0 1 1 false)) d [] os k f τ Q:=by
 have e1:σ0++[o1,o2,.cells [v] fj ej]=(σ0++[o1,o2])++[.cells [v] fj ej]:=by simp
 have e2:σ0.length+2=(σ0++[o1,o2]).length:=by simp
 rw [e1,e2]
 exact stW_s1 (hx.keep fun i q _ hi=>by rw [zqA (zqI.1 hi).1]; exact hi) hv hok hnr hb (by simp; omega) hl fun x' σ' h1 h2 h3 h4=>h x' σ' h1 (by simp at h2; omega) (fun i hi=>by rw [h3 i hi,zqA (by omega)]) h4
end
end Go.Mach
end
section
set_option maxRecDepth 100000
namespace Go.Proofs.YtjfgjnlocadpbaaGreatDoor
open Go.Mach
theorem rels_get (x:GRaw):(relsD.map GD.enc)[pickN x.name 6]?=some (relR x).enc:=by
 have hlt:=pickN_lt (c:=x.name) (n:=6) (by omega)
 rw [List.getElem?_map]
 have:relsD[pickN x.name 6]?=some (relR x):=by
  unfold relR
  generalize pickN x.name 6=n at *
  match n,hlt with
  | 0,_=>rfl
  | 1,_=>rfl
  | 2,_=>rfl
  | 3,_=>rfl
  | 4,_=>rfl
  | 5,_=>rfl
 rw [this]; rfl
theorem raw_at (x:GRaw) (i:Nat) (h:i<4):window [AV.int .i64 x.kind,.int .i64 x.name,.int .i64 x.n0,.int .i64 x.n1,.int .i64 x.n2,.int .i64 x.n3] (2+i) 1=some [.int .i64 (x.at' i)]:=by
 match i,h with
 | 0,_=>rfl
 | 1,_=>rfl
 | 2,_=>rfl
 | 3,_=>rfl
theorem pick6_6 (c:Int) (h1:GV.i64ok c) (bs:Nat) (σ:Heap):callT T 27 [.int .i64 c,.int .i64 6] bs σ=some (.int .i64 (pickN c 6:Int),σ):=pick6 c 6 (by omega) h1 bs σ
theorem pick6_12 (c:Int) (h1:GV.i64ok c) (bs:Nat) (σ:Heap):callT T 27 [.int .i64 c,.int .i64 12] bs σ=some (.int .i64 (pickN c 12:Int),σ):=pick6 c 12 (by omega) h1 bs σ
theorem pick6_4 (c:Int) (h1:GV.i64ok c) (bs:Nat) (σ:Heap):callT T 27 [.int .i64 c,.int .i64 4] bs σ=some (.int .i64 (pickN c 4:Int),σ):=pick6 c 4 (by omega) h1 bs σ
theorem pick6_3 (c:Int) (h1:GV.i64ok c) (bs:Nat) (σ:Heap):callT T 27 [.int .i64 c,.int .i64 3] bs σ=some (.int .i64 (pickN c 3:Int),σ):=pick6 c 3 (by omega) h1 bs σ
theorem pick6_2 (c:Int) (h1:GV.i64ok c) (bs:Nat) (σ:Heap):callT T 27 [.int .i64 c,.int .i64 2] bs σ=some (.int .i64 (pickN c 2:Int),σ):=pick6 c 2 (by omega) h1 bs σ
theorem pick6_5 (c:Int) (h1:GV.i64ok c) (bs:Nat) (σ:Heap):callT T 27 [.int .i64 c,.int .i64 5] bs σ=some (.int .i64 (pickN c 5:Int),σ):=pick6 c 5 (by omega) h1 bs σ
theorem pick6_8 (c:Int) (h1:GV.i64ok c) (bs:Nat) (σ:Heap):callT T 27 [.int .i64 c,.int .i64 8] bs σ=some (.int .i64 (pickN c 8:Int),σ):=pick6 c 8 (by omega) h1 bs σ
theorem pick6_26 (c:Int) (h1:GV.i64ok c) (bs:Nat) (σ:Heap):callT T 27 [.int .i64 c,.int .i64 26] bs σ=some (.int .i64 (pickN c 26:Int),σ):=pick6 c 26 (by omega) h1 bs σ
abbrev cT (t:GT):List AV:=[.int .i64 t.kind,.str t.name,.int .i64 t.value.kind,.int .i64 t.value.num,.str t.value.text,.isl (GV.encs t.value.items) false,.isl (GT.encs t.args) false]
theorem LX.snocT {N:Nat} {σ:Heap} {es:List GT} {x:AV} (t:GT) (h:LX N 7 σ (GT.encs es++[.agg ((cT t).map AV.nrm)]) x):LX N 7 σ (GT.encs (es++[t])) x:=by
 rw [←GT.encs_snoc,GT.enc_eq t]; exact h
abbrev opC (nm:ByteArray) (x:AV):List AV:=[.int .i64 4,.str nm,.int .i64 0,.int .i64 0,.str ⟨#[]⟩,.isl [] true,x]
def opT (nm:ByteArray) (a b:GT):GT:=.mk 4 nm (.mk 0 0 ⟨#[]⟩ []) [a,b]
theorem closeX_op {σ0:Heap} (nm:ByteArray) (a b:GT):closeX (σ0++[.cells (cT a++cT b) 0 false,.cells (opC nm (.sl σ0.length 0 2 7 true)) 0 false]) (.sl (σ0.length+1) 0 1 7 true) =
  σ0++[.cells (cT a++cT b) 14 false,.cells (cT (opT nm a b)) 0 false]:=by
 have g0:(σ0++[.cells (cT a++cT b) 0 false,.cells (opC nm (.sl σ0.length 0 2 7 true)) 0 false])[σ0.length]?=some (.cells (cT a++cT b) 0 false):=by simp
 have g1:(σ0++[.cells (cT a++cT b) 0 false,.cells (opC nm (.sl σ0.length 0 2 7 true)) 0 false])[σ0.length+1]?=some (.cells (opC nm (.sl σ0.length 0 2 7 true)) 0 false):=by simp
 have hw:window (cT a++cT b) 0 14=some (cT a++cT b):=rfl
 have hc:close0 (σ0++[.cells (cT a++cT b) 0 false,.cells (opC nm (.sl σ0.length 0 2 7 true)) 0 false]) (.sl σ0.length 0 2 7 true)=some (.isl (GT.encs [a,b]) false,σ0++[.cells (cT a++cT b) 14 false,.cells (opC nm (.sl σ0.length 0 2 7 true)) 0 false]):=by
  have hc2:¬ (2:Nat)=0:=by decide
  simp only [close0,if_neg hc2,g0,Nat.reduceMul,Nat.zero_add,hw,Option.bind_some]
  have h14:((cT a++cT b).all AV.clo1)=true:=rfl
  rw [if_pos h14]
  have hch:chunk 7 true 2 ((cT a++cT b).map AV.nrm)=some (GT.encs [a,b]):=by simp [GT.encs,GT.enc_eq a,GT.enc_eq b]
  rw [hch]
  simp only [frz,g0,Option.map_some]
  simp
 have i1:∀ (σ:Heap) k n,close1 σ (AV.int k n)=some (.int k n,σ):=fun _ _ _=>rfl
 have s1:∀ (σ:Heap) n,close1 σ (AV.str n)=some (.str n,σ):=fun _ _=>rfl
 have l1:∀ (σ:Heap) n b,close1 σ (AV.isl n b)=some (.isl n false,σ):=fun _ _ _=>rfl
 have hL:closeL (σ0++[.cells (cT a++cT b) 0 false,.cells (opC nm (.sl σ0.length 0 2 7 true)) 0 false]) (opC nm (.sl σ0.length 0 2 7 true))=some (cT (opT nm a b),σ0++[.cells (cT a++cT b) 14 false,.cells (opC nm (.sl σ0.length 0 2 7 true)) 0 false]):=by
  simp only [closeL,i1,s1,l1,close1_of0 hc,Option.bind_some,Option.map_some]
  rfl
 have h2:(opC nm (.sl σ0.length 0 2 7 true)).all AV.clo1=false:=rfl
 have g2:(σ0++[.cells (cT a++cT b) 14 false,.cells (opC nm (.sl σ0.length 0 2 7 true)) 0 false])[σ0.length+1]?=some (.cells (opC nm (.sl σ0.length 0 2 7 true)) 0 false):=by simp
 have h3:((cT (opT nm a b)).all AV.clo1=true∧(opC nm (.sl σ0.length 0 2 7 true)).length=(cT (opT nm a b)).length):=⟨rfl,rfl⟩
 simp only [closeX,g1,h2,hL,g2,h3,and_self,if_true,Bool.false_eq_true,if_false]
 simp
theorem atom_ok (x:GRaw) (hx:x.ok):pureT T c28 [x.enc]=some (.tup [.str (relR x).name,.isl (GT.encs (atomR x)) false]):=by
 have hp:=pick6_6 x.name hx.2.1
 have hr:=rels_get x
 obtain ⟨a1,a2,a3⟩:=rel_arity x
 have hv:=callV6 x.n0 hx.2.2.1
 have hlt:=pickN_lt (c:=x.name) (n:=6) (by omega)
 have hlt':(pickN x.name 6:Int)<6:=by omega
 have hl6:relsD.length=6:=rfl
 unfold atomR
 generalize hn:(relR x).arity.toNat=n at *
 apply pure_enter (by simp [c28])
 simp [c28,callRelations6,setRun,hp,hr,hv]
 refine W_for T 0 72 (n - 1) (fun i f σ=>f 1=.ptr 0 0∧f 4=.ptr 1 0∧f 6=.int .i64 ((i:Int)+1)∧2≤σ.length∧σ[0]?=some (.cells x.enc.cells 0 false)∧σ[1]?=some (.cells (relR x).enc.cells 0 false)∧LX 2 7 σ (GT.encs (argsR x (i+1))) (f 5)) ?_ _ _ ?_
 ·rintro i f σ hi ⟨h1,h4,h6,hN,h0,hd,hL⟩
  by_cases hlt:i+1<n
  ·have hlt2:(i:Int)+1<(n:Int):=by omega
   have hb4:0≤(i:Int)+1∧(i:Int)+1<4:=by omega
   have hw:IntKind.i64.wrap ((i:Int)+1+1)=(i:Int)+1+1:=wr64 (by omega) (by omega)
   have hk:=GRaw.at_ok hx (i+1)
   have hpp:=pick6_12 _ hk
   have hx0:=raw_at x (i+1) (by omega)
   have hsucc:argsR x (i+1+1)=argsR x (i+1)++[argR (x.at' (i+1))]:=by
    unfold argsR; rw [List.range_succ,List.map_append]; simp
   have hal:=argsR_len x (i+1)
   rw [hsucc]
   generalize argsR x (i+1)=es at *
   generalize x.at' (i+1)=m at *
   have hq:GV.i64ok (m.tdiv 12):=tdiv_ok hk 12 (by omega)
   have hwm:IntKind.i64.wrap (m.tdiv 12)=m.tdiv 12:=wr64 hq.1 hq.2
   have hel:(GT.encs es).length≤1000000000:=by simp; omega
   by_cases c9:pickN m 12=9
   ·have h2:=pick6_4 (m.tdiv 12) hq
    have hnu:=callNum6
    rw [c9] at hpp
    have ea:argR m=numT (pickN (m.tdiv 12) 4):=by simp [argR,c9]
    rw [ea]
    simp [h1,h4,h6,h0,hd,←a3,hn,hlt2,hb4,hx0,hpp,h2,hnu,hwm,mk,setRun,-appendA_ag]
    refine stW_app1 (N:=2) hL rfl rfl (by omega) (by omega) hN hel fun x' σ' hL' hlen' hk'=>?_
    simp [h1,h4,h6,hw,hk',h0,hd]
    exact ⟨by omega,by omega,a3.symm,LX.snocT _ hL'⟩
   ·by_cases c10:pickN m 12=10
    ·have h2:=pick6_3 (m.tdiv 12) hq
     have hl3:=pickN_lt (c:=m.tdiv 12) (n:=3) (by omega)
     have hl3':(pickN (m.tdiv 12) 3:Int)<3:=by omega
     rw [c10] at hpp
     have ea:argR m=addrT (pickN (m.tdiv 12) 3):=by simp [argR,c9,c10]
     have hget:window [AV.str ⟨#[97]⟩,.str ⟨#[98]⟩,.str ⟨#[99]⟩] (pickN (m.tdiv 12) 3) 1=some [.str (addrN (pickN (m.tdiv 12) 3))]:=by
      generalize pickN (m.tdiv 12) 3=q at *
      match q,hl3 with
      | 0,_=>rfl
      | 1,_=>rfl
      | 2,_=>rfl
     rw [ea]
     simp [h1,h4,h6,h0,hd,←a3,hn,hlt2,hb4,hx0,hpp,h2,hwm,mk,setRun,hl3',hget,-appendA_ag]
     refine stW_app2 (N:=2) hL rfl rfl (by omega) (by omega) hN hel fun x' σ' hL' hlen' hk'=>?_
     simp [h1,h4,h6,hw,hk',h0,hd]
     exact ⟨by omega,by omega,a3.symm,LX.snocT _ hL'⟩
    ·by_cases c11:pickN m 12=11
     ·rw [c11] at hpp
      have ea:argR m=opT ⟨#[43]⟩ (vT (m.tdiv 12)) (numT 1):=by simp [argR,c9,c10,c11,sumT,vT_n,opT]
      have hvv:=callV6 _ hq
      have hnu:=callNum6 1
      rw [ea]
      simp [h1,h4,h6,h0,hd,←a3,hn,hlt2,hb4,hx0,hpp,hvv,hnu,hwm,mk,setRun,-appendA_ag]
      refine stW_appX (N:=2) (closeX_op ⟨#[43]⟩ (vT (m.tdiv 12)) (numT 1)) (by rw [zqB (by omega),Nat.add_sub_cancel_left]; rfl) rfl rfl (by omega) (by omega) hL (fun i hi=>zqA hi) (by omega) hN hel fun x' σ' hL' hlen' hk'=>?_
      simp at hlen'
      simp [h1,h4,h6,hw,hk',h0,hd]
      exact ⟨by omega,by omega,a3.symm,LX.snocT _ hL'⟩
     ·have ea:argR m=vT m:=by simp [argR,c9,c10,c11]
      have hvv:=callV6 m hk
      rw [ea]
      have n9:¬ (pickN m 12:Int)=9:=by omega
      have n10:¬ (pickN m 12:Int)=10:=by omega
      have n11:¬ (pickN m 12:Int)=11:=by omega
      simp [h1,h4,h6,h0,hd,←a3,hn,hlt2,hb4,hx0,hpp,hvv,mk,setRun,n9,n10,n11,-appendA_ag]
      refine stW_app1 (N:=2) hL rfl rfl (by omega) (by omega) hN hel fun x' σ' hL' hlen' hk'=>?_
      simp [h1,h4,h6,hw,hk',h0,hd]
      exact ⟨by omega,by omega,a3.symm,LX.snocT _ hL'⟩
  ·have he:i+1=n:=by omega
   subst he
   obtain ⟨σ',hcl,_⟩:=hL.closeA
   have hlt2:¬ (i:Int)+1<((i+1:Nat):Int):=by omega
   simp [h1,h4,h6,h0,hd,←a3,hn,hlt2,hcl]
 ·simp
  refine .inr (.inl ⟨2,_,0,rfl,by omega,by simp; rfl,rfl,rfl,?_⟩)
  simp [AV.nrm,argsR_succ]
  rw [GT.enc_eq]
end Go.Proofs.YtjfgjnlocadpbaaGreatDoor
end
section
set_option maxRecDepth 100000
namespace Go.Proofs.YtjfgjnlocadpbaaGreatDoor
open Go.Mach
theorem rel_link (x:GRaw):(relR x).name=⟨#[108,105,110,107]⟩↔pickN x.name 6=0:=by
 obtain ⟨n,hn,e1,e⟩:=rel_cases x
 rw [e,e1]
 match n,hn with
 | 0,_=>decide
 | 1,_=>decide
 | 2,_=>decide
 | 3,_=>decide
 | 4,_=>decide
 | 5,_=>decide
abbrev cV (t:GV):List AV:=[.int .i64 t.kind,.int .i64 t.num,.str t.text,.isl (GV.encs t.items) false]
theorem addr_get (q:Nat) (h:q<4):window [AV.str ⟨#[97]⟩,.str ⟨#[98]⟩,.str ⟨#[99]⟩,.str ⟨#[100]⟩] q 1=some [.str (addrN q)]:=by
 match q,h with
 | 0,_=>rfl
 | 1,_=>rfl
 | 2,_=>rfl
 | 3,_=>rfl
theorem fact_ok (x:GRaw) (hx:x.ok):pureT T c22 [x.enc]=some (factR x).enc:=by
 have hp:=pick6_6 x.name hx.2.1
 have hr:=rels_get x
 obtain ⟨a1,a2,a3⟩:=rel_arity x
 have hlt:=pickN_lt (c:=x.name) (n:=6) (by omega)
 have hlt':(pickN x.name 6:Int)<6:=by omega
 have hl6:relsD.length=6:=rfl
 have hlink:=rel_link x
 unfold factR
 generalize hn:(relR x).arity.toNat=n at *
 apply pure_enter (by simp [c22])
 simp [c22,callRelations6,setRun,hp,hr]
 refine W_for T 0 68 n (fun i f σ=>f 1=.ptr 0 0∧f 2=.ptr 1 0∧f 3=.ptr 2 0∧f 4=.ptr 3 0∧f 5=.int .i64 (i:Int)∧4≤σ.length∧σ[0]?=some (.cells x.enc.cells 0 false)∧(∃ a b,σ[1]?=some (.cells [a,b] 0 false))∧σ[2]?=some (.cells (relR x).enc.cells 0 false)∧∃ l,σ[3]?=some (.cells [.str (relR x).name,l] 0 false)∧LX 4 4 σ (GV.encs ((List.range i).map (fargR x))) l) ?_ _ _ ?_
 ·rintro i f σ hi ⟨h1,h2,h3,h4,h5,hN,h0,ho,hd,l,hl3,hL⟩
  by_cases hlt:i<n
  ·have hlt2:(i:Int)<(n:Int):=by omega
   have hb4:0≤(i:Int)∧(i:Int)<4:=by omega
   have hw:IntKind.i64.wrap ((i:Int)+1)=(i:Int)+1:=wr64 (by omega) (by omega)
   have hk:=GRaw.at_ok hx i
   have hx0:=raw_at x i (by omega)
   have hsucc:(List.range (i+1)).map (fargR x)=(List.range i).map (fargR x)++[fargR x i]:=by
    rw [List.range_succ,List.map_append]; rfl
   have hal:((List.range i).map (fargR x)).length=i:=by simp
   have hf:fargR x i=if i=0∨i=1∧(pickN x.name 6=0∨pickN (x.at' i) 2=0) then addrV (pickN ((x.at' i).tdiv 2) 4) else numV (pickN ((x.at' i).tdiv 2) 5):=rfl
   rw [hsucc,hf]
   generalize (List.range i).map (fargR x)=es at *
   generalize x.at' i=m at *
   have hq:GV.i64ok (m.tdiv 2):=tdiv_ok hk 2 (by omega)
   have hwm:IntKind.i64.wrap (m.tdiv 2)=m.tdiv 2:=wr64 hq.1 hq.2
   have hel:(GV.encs es).length≤1000000000:=by simp; omega
   have p2:=pick6_2 m hk
   have p4:=pick6_4 _ hq
   have p5:=pick6_5 _ hq
   have q4:=pickN_lt (c:=m.tdiv 2) (n:=4) (by omega)
   have q4':(pickN (m.tdiv 2) 4:Int)<4:=by omega
   have hget:=addr_get _ q4
   have w1:IntKind.i64.wrap 1=1:=by decide
   have w2:IntKind.i64.wrap 2=2:=by decide
   have fin:∀ (v:GV) (σ':Heap) x' (es':List AV),es'=GV.encs (es++[v])→LX 4 4 σ' es' x'→σ.length+1≤σ'.length→(∀ i,i<4→σ'[i]?=σ[i]?) →
     4≤σ'.length∧(∃ a b,σ[1]?=some (AObj.cells [a,b] 0 false))∧(relR x).arity=(n:Int)∧∃ l,(List.set σ' 3 (AObj.cells [AV.str (relR x).name,x'] 0 false))[3]?=some (AObj.cells [AV.str (relR x).name,l] 0 false) ∧
      LX 4 4 (List.set σ' 3 (AObj.cells [AV.str (relR x).name,x'] 0 false)) (GV.encs (es++[v])) l:=fun v σ' x' es' he hL' hl' hk'=>by
    subst he
    exact ⟨by omega,ho,a3.symm,x',list_set_at (by omega),hL'.keep fun i o hi ho=>by rw [zqC (by omega)]; exact ho⟩
   have h02:∀ o (h:0<(σ++[o]).length),(σ++[o])[0]'h=.cells [.int .i64 x.kind,.int .i64 x.name,.int .i64 x.n0,.int .i64 x.n1,.int .i64 x.n2,.int .i64 x.n3] 0 false:=fun o h=>Option.some_inj.1 ((zqF h).symm.trans (by rw [zqA (by omega)]; exact h0))
   by_cases c0:i=0
   ·subst c0
    simp at hlt2
    simp [h1,h2,h3,h4,h5,h0,hd,←a3,hn,hlt2,hx0,h02,p4,hwm,mk,setRun,hl3,q4',hget,-appendA_ag]
    refine stW_app2 (N:=4) hL rfl rfl (by omega) (by omega) hN hel fun x' σ' hL' hlen' hk'=>?_
    simp [h1,h2,h3,h4,h5,hw,hk',h0,hd,hl3,hL'.solid,hL'.cells,setRun,w1,w2]
    first | exact fin (addrV (pickN (m.tdiv 2) 4)) σ' x' _ (by rw [←encs_snoc,GV.enc_eq]; rfl) hL' (by omega) hk' | exact ⟨by omega,fin (addrV (pickN (m.tdiv 2) 4)) σ' x' _ (by rw [←encs_snoc,GV.enc_eq]; rfl) hL' (by omega) hk'⟩
   ·by_cases c1:i=1
    ·subst c1
     by_cases cl:pickN x.name 6=0
     ·have hln:=eq_true (hlink.2 cl)
      simp at hlt2
      simp [h1,h2,h3,h4,h5,h0,hd,←a3,hn,hlt2,hx0,h02,p4,hwm,mk,setRun,hl3,q4',hget,hln,cl,-appendA_ag]
      refine stW_app2 (N:=4) hL rfl rfl (by omega) (by omega) hN hel fun x' σ' hL' hlen' hk'=>?_
      simp [h1,h2,h3,h4,h5,hw,hk',h0,hd,hl3,hL'.solid,hL'.cells,setRun,w1,w2]
      first | exact fin (addrV (pickN (m.tdiv 2) 4)) σ' x' _ (by rw [←encs_snoc,GV.enc_eq]; rfl) hL' (by omega) hk' | exact ⟨by omega,fin (addrV (pickN (m.tdiv 2) 4)) σ' x' _ (by rw [←encs_snoc,GV.enc_eq]; rfl) hL' (by omega) hk'⟩
     ·have hln:¬ (relR x).name=⟨#[108,105,110,107]⟩:=fun h=>cl (hlink.1 h)
      by_cases c2:pickN m 2=0
      ·rw [c2] at p2
       simp at hlt2
       simp [h1,h2,h3,h4,h5,h0,hd,←a3,hn,hlt2,hx0,h02,p4,p2,hwm,mk,setRun,hl3,q4',hget,hln,cl,c2,-appendA_ag]
       refine stW_app2 (N:=4) hL rfl rfl (by omega) (by omega) hN hel fun x' σ' hL' hlen' hk'=>?_
       simp [h1,h2,h3,h4,h5,hw,hk',h0,hd,hl3,hL'.solid,hL'.cells,setRun,w1,w2]
       first | exact fin (addrV (pickN (m.tdiv 2) 4)) σ' x' _ (by rw [←encs_snoc,GV.enc_eq]; rfl) hL' (by omega) hk' | exact ⟨by omega,fin (addrV (pickN (m.tdiv 2) 4)) σ' x' _ (by rw [←encs_snoc,GV.enc_eq]; rfl) hL' (by omega) hk'⟩
      ·have c2':¬ (pickN m 2:Int)=0:=by omega
       simp at hlt2
       simp [h1,h2,h3,h4,h5,h0,hd,←a3,hn,hlt2,hx0,p5,p2,hwm,mk,setRun,hl3,hln,cl,c2,c2',-appendA_ag]
       refine stW_app1 (N:=4) hL rfl rfl (by omega) (by omega) hN hel fun x' σ' hL' hlen' hk'=>?_
       simp [h1,h2,h3,h4,h5,hw,hk',h0,hd,hl3,hL'.solid,hL'.cells,setRun,w1,w2]
       first | exact fin (numV (pickN (m.tdiv 2) 5)) σ' x' _ (by rw [←encs_snoc,GV.enc_eq]; rfl) hL' (by omega) hk' | exact ⟨by omega,fin (numV (pickN (m.tdiv 2) 5)) σ' x' _ (by rw [←encs_snoc,GV.enc_eq]; rfl) hL' (by omega) hk'⟩
    ·have c0':¬ (i:Int)=0:=by omega
     have c1':¬ (i:Int)=1:=by omega
     simp [h1,h2,h3,h4,h5,h0,hd,←a3,hn,hlt2,hb4,hx0,p5,hwm,mk,setRun,hl3,c0,c1,c1',-appendA_ag]
     refine stW_app1 (N:=4) hL rfl rfl (by omega) (by omega) hN hel fun x' σ' hL' hlen' hk'=>?_
     simp [h1,h2,h3,h4,h5,hw,hk',h0,hd,hl3,hL'.solid,hL'.cells,setRun,w1,w2]
     first | exact fin (numV (pickN (m.tdiv 2) 5)) σ' x' _ (by rw [←encs_snoc,GV.enc_eq]; rfl) hL' (by omega) hk' | exact ⟨by omega,fin (numV (pickN (m.tdiv 2) 5)) σ' x' _ (by rw [←encs_snoc,GV.enc_eq]; rfl) hL' (by omega) hk'⟩
  ·have he:i=n:=by omega
   subst he
   obtain ⟨a,b,ho⟩:=ho
   obtain ⟨σ',hcl,_⟩:=(hL.keep (τ:=σ.set 1 (.cells [.str (relR x).name,l] 0 false)) fun i o hi ho=>by rw [zqC (by omega)]; exact ho).close
   have hcl1:=close1_of0 hcl
   have hlt2:¬ (i:Int)<(i:Int):=by omega
   have hs1:(σ.set 1 (.cells [.str (relR x).name,l] 0 false))[1]?=some (.cells [.str (relR x).name,l] 0 false):=list_set_at (by omega)
   simp [h1,h2,h3,h4,h5,h0,hd,←a3,hn,hlt2,hl3,ho,hs1,hcl1,GU.enc_eq]
 ·simp
  exact .inl ⟨rfl,rfl⟩
theorem callFact6 (x:GRaw) (hx:x.ok) (bs:Nat) (σ:Heap):callT T 22 [x.enc] bs σ=some ((factR x).enc,σ):=call_clean rfl rfl rfl (by simp) (fact_ok x hx)
theorem callAtom6 (x:GRaw) (hx:x.ok) (bs:Nat) (σ:Heap):callT T 28 [x.enc] bs σ=some (.tup [.str (relR x).name,.isl (GT.encs (atomR x)) false],σ):=call_clean rfl rfl rfl (by simp) (atom_ok x hx)
end Go.Proofs.YtjfgjnlocadpbaaGreatDoor
end
section
set_option maxRecDepth 100000
namespace Go.Proofs.YtjfgjnlocadpbaaGreatDoor
open Go.Mach
theorem test_get (q:Nat) (h:q<6):window [AV.str ⟨#[61,61]⟩,.str ⟨#[33,61]⟩,.str ⟨#[60]⟩,.str ⟨#[60,61]⟩,.str ⟨#[62]⟩,.str ⟨#[62,61]⟩] q 1=some [.str (tSix.getD q ⟨#[]⟩)]:=by
 match q,h with
 | 0,_=>rfl
 | 1,_=>rfl
 | 2,_=>rfl
 | 3,_=>rfl
 | 4,_=>rfl
 | 5,_=>rfl
theorem two_get (q:Nat) (h:q<2):window [AV.str ⟨#[43]⟩,.str ⟨#[45]⟩] q 1=some [.str (if q=0 then ⟨#[43]⟩ else ⟨#[45]⟩)]:=by
 match q,h with
 | 0,_=>rfl
 | 1,_=>rfl
theorem two_getT (a b:GT) (q:Nat) (h:q<2):window (cT a++cT b) (q * 7) 7=some (cT (if q=0 then a else b)):=by
 match q,h with
 | 0,_=>rfl
 | 1,_=>rfl
theorem close1_two {σ:Heap} {k fz:Nat} {e:Bool} (a b:GT) (h:σ[k]?=some (.cells (cT a++cT b) fz e)):close1 σ (.sl k 0 2 7 true)=some (.isl (GT.encs [a,b]) false,frz σ k 14):=by
 refine close1_of0 ?_
 have hc2:¬ (2:Nat)=0:=by decide
 have hw:window (cT a++cT b) 0 14=some (cT a++cT b):=rfl
 simp only [close0,if_neg hc2,h,Nat.reduceMul,Nat.zero_add,hw,Option.bind_some]
 have h14:((cT a++cT b).all AV.clo1)=true:=rfl
 rw [if_pos h14]
 have hch:chunk 7 true 2 ((cT a++cT b).map AV.nrm)=some (GT.encs [a,b]):=by simp [GT.encs,GT.enc_eq a,GT.enc_eq b]
 rw [hch]; rfl
theorem close0_two {σ:Heap} {k fz:Nat} {e:Bool} (a b:GT) (h:σ[k]?=some (.cells (cT a++cT b) fz e)):close0 σ (.sl k 0 2 7 true)=some (.isl (GT.encs [a,b]) false,frz σ k 14):=by
 have hc2:¬ (2:Nat)=0:=by decide
 have hw:window (cT a++cT b) 0 14=some (cT a++cT b):=rfl
 simp only [close0,if_neg hc2,h,Nat.reduceMul,Nat.zero_add,hw,Option.bind_some]
 have h14:((cT a++cT b).all AV.clo1)=true:=rfl
 rw [if_pos h14]
 have hch:chunk 7 true 2 ((cT a++cT b).map AV.nrm)=some (GT.encs [a,b]):=by simp [GT.encs,GT.enc_eq a,GT.enc_eq b]
 rw [hch]; rfl
theorem close1_opT {σ:Heap} {k m fz fm:Nat} {e em:Bool} (nm:ByteArray) (a b:GT) (h:σ[k]?=some (.cells (opC nm (.sl m 0 2 7 true)) fz e)) (hm:σ[m]?=some (.cells (cT a++cT b) fm em)) (hne:k≠m) :
  ∃ σ',close1 σ (.sl k 0 1 7 true)=some (.isl (GT.encs [opT nm a b]) false,σ'):=by
 have h2:close0 σ (.sl k 0 1 7 true)=none:=by
  have hc2:¬ (1:Nat)=0:=by decide
  have hw:window (opC nm (.sl m 0 2 7 true)) 0 7=some (opC nm (.sl m 0 2 7 true)):=rfl
  simp only [close0,if_neg hc2,h,Nat.one_mul,hw,Option.bind_some]
  rfl
 have hfz:(frz σ k 7)[m]?=some (.cells (cT a++cT b) fm em):=by
  simp only [frz,h]; rw [zqC hne]; exact hm
 have i1:∀ c (σ:Heap) k n,closeUp c σ (AV.int k n)=some (.int k n,σ):=fun _ _ _ _=>rfl
 have s1:∀ c (σ:Heap) n,closeUp c σ (AV.str n)=some (.str n,σ):=fun _ _ _=>rfl
 have l1:∀ c (σ:Heap) n b,closeUp c σ (AV.isl n b)=some (.isl n false,σ):=fun _ _ _ _=>rfl
 have i0:∀ (σ:Heap) k n,close0 σ (AV.int k n)=some (.int k n,σ):=fun _ _ _=>rfl
 have s0:∀ (σ:Heap) n,close0 σ (AV.str n)=some (.str n,σ):=fun _ _=>rfl
 have l0:∀ (σ:Heap) n b,close0 σ (AV.isl n b)=some (.isl n false,σ):=fun _ _ _=>rfl
 have hw:window (opC nm (.sl m 0 2 7 true)) 0 7=some (opC nm (.sl m 0 2 7 true)):=rfl
 have hw2:window (cT a++cT b) 0 14=some (cT a++cT b):=rfl
 have hb:=close0_two a b hfz
 have hU:∀ c,(∀ (σ:Heap) n,c σ (AV.str n)=some (.str n,σ))→(∀ (σ:Heap) k n,c σ (AV.int k n)=some (.int k n,σ))→(∀ (σ:Heap) n b,c σ (AV.isl n b)=some (.isl n false,σ)) →
   (∃ σ',c (frz σ k 7) (.sl m 0 2 7 true)=some (.isl (GT.encs [a,b]) false,σ'))→∃ σ',closeUp c σ (.sl k 0 1 7 true)=some (.isl (GT.encs [opT nm a b]) false,σ'):=by
  rintro c c1 c2 c3 ⟨σ',c4⟩
  refine ⟨σ',?_⟩
  simp only [closeUp,h,Nat.one_mul,Nat.zero_add,hw,Option.bind_some,closeLW,c1,c2,c3,c4,Option.map_some]
  simp [AV.clo1,chunk,mk,GT.encs,opT,GT.enc_eq]
 have hlen14:((cT a++cT b).all AV.clo1)=true:=rfl
 have up:∀ c (τ:Heap) fm em,τ[m]?=some (.cells (cT a++cT b) fm em)→(∀ (σ:Heap) n,c σ (AV.str n)=some (.str n,σ))→(∀ (σ:Heap) k n,c σ (AV.int k n)=some (.int k n,σ))→(∀ (σ:Heap) n b,c σ (AV.isl n b)=some (.isl n false,σ)) →
   closeUp c τ (.sl m 0 2 7 true)=some (.isl (GT.encs [a,b]) false,frz τ m 14):=by
  intro c τ fm em hτ c1 c2 c3
  have hlw:∀ τ',closeLW c τ' (cT a++cT b)=some (cT a++cT b,τ'):=fun τ'=>by simp [closeLW,c1,c2,c3]
  have hch:chunk 7 true 2 (cT a++cT b)=some (GT.encs [a,b]):=by simp [GT.encs,GT.enc_eq a,GT.enc_eq b,chunk,mk]
  simp only [closeUp,hτ,Nat.reduceMul,Nat.zero_add,hw2,Option.bind_some,hlw,hlen14,if_true,hch,Option.map_some]
 unfold close1
 rw [h2]
 exact hU _ (s1 _) (i1 _) (l1 _) ⟨_,up _ _ _ _ hfz (s1 _) (i1 _) (l1 _)⟩
theorem close_ex {σ:Heap} {x y:AV} {F:AV × Heap→Option (AV × Heap)} {r:AV} (h:∃ σ',close1 σ x=some (y,σ')) (hF:∀ σ',∃ z,F (y,σ')=some (r,z)):∃ z,(close1 σ x).bind F=some (r,z):=by
 obtain ⟨σ',h⟩:=h
 rw [h]; exact hF σ'
theorem lit6_ok (x:GRaw) (hx:x.ok):pureT T c29 [x.enc]=some (litR x).enc:=by
 have hA:=callAtom6 x hx
 have h8:=pick6_8 x.kind hx.1
 have hl8:=pickN_lt (c:=x.kind) (n:=8) (by omega)
 unfold litR
 apply pure_enter (by simp [c29])
 by_cases c4:pickN x.kind 8<4
 ·have:pickN x.kind 8=0∨pickN x.kind 8=1∨pickN x.kind 8=2∨pickN x.kind 8=3:=by omega
  rw [if_pos c4]
  rcases this with h | h | h | h <;> (rw [h] at h8; simp [c29,hA,←GRaw.enc_eq,h8,setRun,GL.enc_eq])
 ·by_cases c5:pickN x.kind 8=4
  ·rw [if_neg c4,if_pos c5]
   rw [c5] at h8
   simp [c29,hA,←GRaw.enc_eq,h8,setRun,GL.enc_eq]
  ·by_cases c7:pickN x.kind 8<7
   ·rw [if_neg c4,if_neg c5,if_pos c7]
    have p6:=pick6_6 x.name hx.2.1
    have q6:=pickN_lt (c:=x.name) (n:=6) (by omega)
    have q6':(pickN x.name 6:Int)<6:=by omega
    have g6:=test_get _ q6
    have v0:=callV6 x.n0 hx.2.2.1
    have v1:=callV6 x.n1 hx.2.2.2.1
    have p4:=pick6_4 x.n2 hx.2.2.2.2.1
    have p2:=pick6_2 x.n3 hx.2.2.2.2.2
    have q2:=pickN_lt (c:=x.n3) (n:=2) (by omega)
    have q2':(pickN x.n3 2:Int)<2:=by omega
    have hnu:=callNum6 (pickN x.n2 4)
    have hg2:=two_getT (numT (pickN x.n2 4)) (vT x.n1) _ q2
    simp only [cT,List.cons_append,List.nil_append] at hg2
    have:pickN x.kind 8=5∨pickN x.kind 8=6:=by omega
    rcases this with h | h <;> (rw [h] at h8; simp [c29,hA,←GRaw.enc_eq,h8,setRun,GL.enc_eq,p6,q6',g6,mk,v0,v1,p4,p2,q2',hnu,hg2]; rw [close1_two (vT x.n0) _ rfl]; simp)
   ·rw [if_neg c4,if_neg c5,if_neg c7]
    have h:pickN x.kind 8=7:=by omega
    rw [h] at h8
    have v0:=callV6 x.n0 hx.2.2.1
    have v1:=callV6 x.n1 hx.2.2.2.1
    have v2:=callV6 x.n2 hx.2.2.2.2.1
    have p2:=pick6_2 x.n3 hx.2.2.2.2.2
    have hq:GV.i64ok (x.n3.tdiv 2):=tdiv_ok hx.2.2.2.2.2 2 (by omega)
    have hwm:IntKind.i64.wrap (x.n3.tdiv 2)=x.n3.tdiv 2:=wr64 hq.1 hq.2
    have p2b:=pick6_2 _ hq
    have q2:=pickN_lt (c:=x.n3) (n:=2) (by omega)
    have q2':(pickN x.n3 2:Int)<2:=by omega
    have q3:=pickN_lt (c:=x.n3.tdiv 2) (n:=2) (by omega)
    have q3':(pickN (x.n3.tdiv 2) 2:Int)<2:=by omega
    have g2:=two_get _ q2
    have hnu:=callNum6 1
    have hfd:fieldV 1 1 false (vT x.n0).enc=some (.str (vName (pickN x.n0 6))):=by rw [GT.enc_eq]; rfl
    have hg2:=two_getT (numT 1) (vT x.n2) _ q3
    simp only [cT,List.cons_append,List.nil_append] at hg2
    simp [c29,hA,←GRaw.enc_eq,h8,setRun,GL.enc_eq,v0,v1,v2,p2,p2b,hwm,q2',q3',g2,mk,hnu,hg2,hfd]
    refine close_ex (close1_opT (if pickN x.n3 2=0 then ⟨#[43]⟩ else ⟨#[45]⟩) (vT x.n1) (if pickN (x.n3.tdiv 2) 2=0 then numT 1 else vT x.n2) rfl rfl (by decide)) fun σ'=>?_
    simp [opT]
theorem callLit6 (x:GRaw) (hx:x.ok) (bs:Nat) (σ:Heap):callT T 29 [x.enc] bs σ=some ((litR x).enc,σ):=call_clean rfl rfl rfl (by simp) (lit6_ok x hx)
end Go.Proofs.YtjfgjnlocadpbaaGreatDoor
end
section
set_option maxRecDepth 100000
namespace Go.Proofs.YtjfgjnlocadpbaaGreatDoor
open Go.Mach
theorem agg_get (q:Nat) (h:q<3):window [AV.str ⟨#[109,105,110]⟩,.str ⟨#[109,97,120]⟩,.str ⟨#[99,111,117,110,116]⟩] q 1=some [.str (aggN q)]:=by
 match q,h with
 | 0,_=>rfl
 | 1,_=>rfl
 | 2,_=>rfl
abbrev RT:ACode:=sndC (sndC (sndC (sndC (sndC (sndC (sndC c13.body))))))
theorem rule_tail6 (h:GRaw) (hh:h.ok) (lab:ByteArray) (body:List GL) (lst:AV) (f:FR) (σ:Heap) (h4:f 4=.ptr 0 0) (h5:f 5=.ptr 2 0) (h6:f 6=.ptr 3 0) (hN:4≤σ.length)
  (c0:∃ a b c d e g,σ[0]?=some (.cells [a,b,c,d,e,g] 0 false)) (c2:σ[2]?=some (.cells [.str lab,.str (relR h).name,.isl (GT.encs (atomR h)) false,.str ⟨#[]⟩,.int .i64 0,lst] 0 false))
  (c3:σ[3]?=some (.cells h.enc.cells 0 false)) (hL:LX 4 3 σ (body.map GL.enc) lst) :
  wpK T 0 88 [.code RT] f σ (endP 88 [.cell 4 6 true] (GR.enc ⟨lab,(relR h).name,atomR h,if aggR h=true then aggN (pickN (h.kind.tdiv 5) 3) else ⟨#[]⟩,if aggR h=true then 1 else 0,body⟩)):=by
 obtain ⟨a,b,c,d,e,g,c0⟩:=c0
 have p5:=pick6_5 h.kind hh.1
 have hq:GV.i64ok (h.kind.tdiv 5):=tdiv_ok hh.1 5 (by omega)
 have hwm:IntKind.i64.wrap (h.kind.tdiv 5)=h.kind.tdiv 5:=wr64 hq.1 hq.2
 have p3:=pick6_3 _ hq
 have q3:=pickN_lt (c:=h.kind.tdiv 5) (n:=3) (by omega)
 have q3':(pickN (h.kind.tdiv 5) 3:Int)<3:=by omega
 have g3:=agg_get _ q3
 have hs0:∀ o,(σ.set 0 o)[0]?=some o:=fun o=>list_set_at (by omega)
 have hcl:∀ o,∃ σ',close1 (σ.set 0 o) lst=some (.isl (body.map GL.enc) false,σ'):=fun o=>by
  obtain ⟨σ',h1,_⟩:=(hL.keep (τ:=σ.set 0 o) fun i o hi ho=>by rw [zqC (by omega)]; exact ho).close
  exact ⟨σ',close1_of0 h1⟩
 have ga3:∀ o,(σ++[o])[3]?=some (.cells [.int .i64 h.kind,.int .i64 h.name,.int .i64 h.n0,.int .i64 h.n1,.int .i64 h.n2,.int .i64 h.n3] 0 false):=fun o=>by rw [zqA (by omega)]; exact c3
 have ga2:∀ o,(σ++[o])[2]?=some (.cells [.str lab,.str (relR h).name,.isl (GT.encs (atomR h)) false,.str ⟨#[]⟩,.int .i64 0,lst] 0 false):=fun o=>by rw [zqA (by omega)]; exact c2
 have hs2:∀ o o',((σ++[o]).set 2 o')[2]?=some o':=fun o o'=>list_set_at (by simp; omega)
 have ga0:∀ o o' h,((σ++[o]).set 2 o')[0]'h=.cells [a,b,c,d,e,g] 0 false:=fun o o' h=>Option.some_inj.1 ((zqF h).symm.trans (by rw [zqC (by decide),zqA (by omega)]; exact c0))
 have ga0':∀ o o',((σ++[o]).set 2 o')[0]?=some (.cells [a,b,c,d,e,g] 0 false):=fun o o'=>by rw [zqC (by decide),zqA (by omega)]; exact c0
 have hs20:∀ o o' o'',(((σ++[o]).set 2 o').set 0 o'')[0]?=some o'':=fun o o' o''=>list_set_at (by simp)
 have hcl2:∀ o o' o'',∃ σ',close1 (((σ++[o]).set 2 o').set 0 o'') lst=some (.isl (body.map GL.enc) false,σ'):=fun o o' o''=>by
  obtain ⟨σ',h1,_⟩:=(hL.keep (τ:=((σ++[o]).set 2 o').set 0 o'') fun i q hi ho=>by
   rw [zqC (by omega),zqC (by omega),zqA (zqI.1 ho).1]; exact ho).close
  exact ⟨σ',close1_of0 h1⟩
 by_cases k4:pickN h.kind 5=4
 ·rw [k4] at p5
  by_cases k1:1<(atomR h).length
  ·have k1':(1:Int)<((atomR h).length:Int):=by omega
   have e1:(atomR h)[1]?=some (atomR h)[1]:=zqF k1
   by_cases k2:(atomR h)[1].kind=1
   ·have ha:aggR h=true:=by unfold aggR; rw [e1]; simp [k4,k2]
    simp [RT,c13,sndC,h4,h5,h6,c0,c2,c3,p5,k1',k1,e1,k2,hwm,p3,q3',g3,mk,setRun,ha,ga2,ga3,hs2,ga0,ga0',hs20]
    refine close_ex (hcl2 _ _ _) fun σ'=>?_
    simp [GR.enc_eq]
   ·have ha:aggR h=false:=by unfold aggR; rw [e1]; simp [k4,k2]
    simp [RT,c13,sndC,h4,h5,h6,c0,c2,c3,p5,k1',k1,e1,k2,setRun,ha,hs0]
    refine close_ex (hcl _) fun σ'=>?_
    simp [GR.enc_eq]
  ·have k1':¬ (1:Int)<((atomR h).length:Int):=by omega
   have ha:aggR h=false:=by unfold aggR; rw [List.getElem?_eq_none (by omega)]; simp
   simp [RT,c13,sndC,h4,h5,h6,c0,c2,c3,p5,k1',setRun,ha,hs0]
   refine close_ex (hcl _) fun σ'=>?_
   simp [GR.enc_eq]
 ·have k4':¬ (pickN h.kind 5:Int)=4:=by omega
  have ha:aggR h=false:=by unfold aggR; simp [k4]
  simp [RT,c13,sndC,h4,h5,h6,c0,c2,c3,p5,k4,k4',setRun,ha,hs0]
  refine close_ex (hcl _) fun σ'=>?_
  simp [GR.enc_eq]
theorem pickN_small (n:Nat) (h:n<26):pickN n 26=n:=by
 unfold pickN; rw [if_neg (by omega)]; simp; omega
theorem body_take (l:List GRaw) (h:1<l.length):bodyR l=(((l.take 5).drop 1)).map litR:=by
 unfold bodyR; rw [if_neg (by omega)]
abbrev RL:ACode:=sndC (sndC (sndC (sndC (sndC c13.body))))
theorem rule_loop6 (l:List GRaw) (hl:∀ x∈l,x.ok) (hlen:l.length≤100000000000) (h:GRaw) (hh:h.ok) (lab:ByteArray) (f:FR) (σ:Heap) (h0:f 0=.isl (l.map GRaw.enc) false) (h4:f 4=.ptr 0 0) (h5:f 5=.ptr 2 0) (h6:f 6=.ptr 3 0) (hN:4≤σ.length)
  (c0:∃ a b c d e g,σ[0]?=some (.cells [a,b,c,d,e,g] 0 false)) (c2:σ[2]?=some (.cells [.str lab,.str (relR h).name,.isl (GT.encs (atomR h)) false,.str ⟨#[]⟩,.int .i64 0,.isl [] true] 0 false))
  (c3:σ[3]?=some (.cells h.enc.cells 0 false)) :
  wpK T 0 88 [.code RL] f σ (endP 88 [.cell 4 6 true] (GR.enc ⟨lab,(relR h).name,atomR h,if aggR h=true then aggN (pickN (h.kind.tdiv 5) 3) else ⟨#[]⟩,if aggR h=true then 1 else 0,bodyR l⟩)):=by
 have tail:=rule_tail6 h hh lab (bodyR l)
 have hL0:∀ bs σ,callT T 29 [.agg [.int .i64 0,.int .i64 0,.int .i64 0,.int .i64 0,.int .i64 0,.int .i64 0]] bs σ=some ((litR .zero).enc,σ):=callLit6 .zero GRaw.zero_ok
 have hb:RL=.seq (fstC RL) (.seq (fstC (sndC RL)) RT):=rfl
 rw [hb]
 generalize RT=K at tail
 generalize GR.enc ⟨lab,(relR h).name,atomR h,if aggR h=true then aggN (pickN (h.kind.tdiv 5) 3) else ⟨#[]⟩,if aggR h=true then 1 else 0,bodyR l⟩=res at *
 have fin:∀ (v:GL) (es:List GL) (σ σ':Heap) x' (es':List AV),es'=(es++[v]).map GL.enc→LX 4 3 σ' es' x'→4≤σ.length→σ.length+1≤σ'.length→(∀ i,i<4→σ'[i]?=σ[i]?)→∀ o,LX 4 3 (σ'.set 2 o) ((es++[v]).map GL.enc) x':=fun v es σ σ' x' es' he hL' h4 hl' hk' o=>by
  subst he
  exact hL'.keep fun i o hi ho=>by rw [zqC (by omega)]; exact ho
 simp [RL,c13,sndC,fstC]
 refine W_for T 0 88 (min l.length 5 - 1) (fun i f σ=>f 0=.isl (l.map GRaw.enc) false∧f 4=.ptr 0 0∧f 5=.ptr 2 0∧f 6=.ptr 3 0∧f 7=.int .i64 ((i:Int)+1)∧4≤σ.length∧(∃ a b c d e g,σ[0]?=some (.cells [a,b,c,d,e,g] 0 false)) ∧
  σ[3]?=some (.cells h.enc.cells 0 false)∧∃ lst,σ[2]?=some (.cells [.str lab,.str (relR h).name,.isl (GT.encs (atomR h)) false,.str ⟨#[]⟩,.int .i64 0,lst] 0 false)∧LX 4 3 σ (((((l.take 5).drop 1).take i).map litR).map GL.enc) lst) ?_ _ _ ?_
 ·rintro i f σ hi ⟨h0,h4,h5,h6,h7,hN,c0,c3,lst,c2,hL⟩
  by_cases hlt:i+1<min l.length 5
  ·have hlt1:i+1<l.length:=by omega
   have hlt2:(i:Int)+1<(l.length:Int):=by omega
   have hlt3:(i:Int)+1<5:=by omega
   have h0i:0≤(i:Int)+1:=by omega
   have hw:IntKind.i64.wrap ((i:Int)+1+1)=(i:Int)+1+1:=wr64 (by omega) (by omega)
   have e1:l[i+1]?=some l[i+1]:=zqF hlt1
   have hc:=callLit6 l[i+1] (hl _ (zqT hlt1))
   have htk:(((l.take 5).drop 1).take (i+1)).map litR=(((l.take 5).drop 1).take i).map litR++[litR l[i+1]]:=by
    have hd:i<((l.take 5).drop 1).length:=by simp; omega
    rw [zqO hd,List.map_append]
    have:((l.take 5).drop 1)[i]=l[i+1]:=by simp [Nat.add_comm]
    rw [this]; rfl
   have hal:((((l.take 5).drop 1).take i).map litR).length≤5:=by simp; omega
   rw [htk]
   generalize (((l.take 5).drop 1).take i).map litR=es at *
   simp [h0,h4,h5,h6,h7,hlt2,hlt3,hlt1,h0i,c2,e1,hc,←GRaw.enc_eq,setRun,-appendA_ag]
   refine stW_app1 (N:=4) hL rfl rfl (by omega) (by omega) hN (by simp; omega) fun x' σ' hL' hlen' hk'=>?_
   simp [h0,h4,h5,h6,h7,hw,hk',c0,c3,c2,hL'.solid,hL'.cells,setRun]
   refine ⟨by omega,by omega,x',list_set_at (by omega),?_⟩
   have:=fin (litR l[i+1]) es σ σ' x' _ (by rw [List.map_append]; rfl) hL' hN (by omega) hk' (.cells [.str lab,.str (relR h).name,.isl (GT.encs (atomR h)) false,.str ⟨#[]⟩,.int .i64 0,x'] 0 false)
   rwa [List.map_append] at this
  ·have he:i=min l.length 5 - 1:=by omega
   have htk:((l.take 5).drop 1).take i=(l.take 5).drop 1:=List.take_of_length_le (by simp; omega)
   rw [htk] at hL
   by_cases hl1:l.length≤1
   ·have hnil:(l.take 5).drop 1=[]:=List.drop_eq_nil_of_le (by simp; omega)
    have hbd:bodyR l=[litR .zero]:=by unfold bodyR; rw [if_pos hl1]
    rw [hnil] at hL
    have hlt2:¬ ((i:Int)+1<(l.length:Int)):=by omega
    have hlv:=hL.len
    simp [h0,h4,h5,h6,h7,hlt2,c2,hlv,hL0,setRun,-appendA_ag]
    refine stW_app1 (N:=4) hL rfl rfl (by omega) (by omega) hN (by simp) fun x' σ' hL' hlen' hk'=>?_
    obtain ⟨a,b,c,d,e,g,c0⟩:=c0
    simp [h0,h4,h5,h6,h7,hk',c0,c3,c2,hL'.solid,hL'.cells,setRun]
    refine tail x' _ _ (by simp [h4]) (by simp [h5]) (by simp [h6]) (by simp; omega) ⟨a,b,c,d,e,g,by rw [zqC (by decide),hk' 0 (by omega)]; exact c0⟩ (list_set_at (by omega)) (by rw [zqC (by decide),hk' 3 (by omega)]; exact c3) ?_
    rw [hbd]
    exact fin (litR .zero) [] σ σ' x' _ rfl hL' hN (by omega) hk' _
   ·have hbd:=body_take l (by omega)
    rw [←hbd] at hL
    have hbl:=bodyR_len l
    have hlv:=hL.len
    have hne:¬ ((bodyR l).length:Int)=0:=by omega
    have hne2:¬ bodyR l=[]:=fun e=>by rw [e] at hbl; simp at hbl
    by_cases h5l:(i:Int)+1<(l.length:Int)
    ·have hlt3:¬ (i:Int)+1<5:=by omega
     simp [h0,h4,h5,h6,h7,h5l,hlt3,c2,hlv,hne,hne2]
     exact tail lst _ σ (by simp [h4]) (by simp [h5]) (by simp [h6]) hN c0 c2 c3 hL
    ·simp [h0,h4,h5,h6,h7,h5l,c2,hlv,hne,hne2]
     exact tail lst _ σ (by simp [h4]) (by simp [h5]) (by simp [h6]) hN c0 c2 c3 hL
 ·simp [h0,h4,h5,h6,c2,c3,hN,c0]
  exact .inl ⟨rfl,rfl⟩
theorem rule6_ok (l:List GRaw) (hl:∀ x∈l,x.ok) (hlen:l.length≤100000000000) (n:Nat) (hn:n<26):pureT T c13 [.isl (l.map GRaw.enc) false,.int .i64 (n:Int)]=some (ruleR l n).enc:=by
 have hp:=pick6_26 (n:Int) (by unfold GV.i64ok; omega)
 rw [pickN_small n hn] at hp
 have hho:(headR l).ok:=by
  cases l with
  | nil=>exact GRaw.zero_ok
  | cons x l=>exact hl x (by simp)
 have loop:=rule_loop6 l hl hlen (headR l) hho (⟨#[114]⟩++⟨#[UInt8.ofNat (97+n)]⟩)
 have hw97:IntKind.i64.wrap (97+(n:Int))=97+(n:Int):=wr64 (by omega) (by omega)
 have hu8:IntKind.u8.wrap (97+(n:Int))=97+(n:Int):=wru8 (by omega) (by omega)
 have hb2:∀ o:AObj,b2sV [o,.cells [.int .u8 (97+(n:Int))] 0 false] (.sl 1 0 1 1 false)=some (.str ⟨#[UInt8.ofNat (97+n)]⟩):=fun o=>
  b2s_bv (l:=[UInt8.ofNat (97+n)]) (fz:=0) (ext:=false) (by simp [bv]; omega) (by simp)
 have hs1:(⟨#[114]⟩:ByteArray).size=1:=rfl
 have hs2:(⟨#[UInt8.ofNat (97+n)]⟩:ByteArray).size=1:=rfl
 unfold ruleR
 generalize UInt8.ofNat (97+n)=lb at *
 apply pure_enter (by simp [c13])
 show wpK T 0 88 [.code c13.body] _ [] (endP 88 [.cell 4 6 true] _)
 have hb:c13.body=.seq (fstC c13.body) (.seq (fstC (sndC c13.body)) (.seq (fstC (sndC (sndC c13.body))) (.seq (fstC (sndC (sndC (sndC c13.body)))) (.seq (fstC (sndC (sndC (sndC (sndC c13.body))))) RL)))):=rfl
 rw [hb]
 generalize RL=K at loop
 cases l with
 | nil=>
  have hA:∀ bs σ,callT T 28 [.agg [.int .i64 0,.int .i64 0,.int .i64 0,.int .i64 0,.int .i64 0,.int .i64 0]] bs σ=some (.tup [.str (relR .zero).name,.isl (GT.encs (atomR .zero)) false],σ):=callAtom6 .zero GRaw.zero_ok
  simp [c13,sndC,fstC,hp,hw97,hu8,setRun,hb2,hs1,hs2,hA]
  refine loop _ _ (by simp) (by simp) (by simp) (by simp) (by simp) ⟨_,_,_,_,_,_,rfl⟩ (by simp [headR]) (by simp [headR,GRaw.zero])
 | cons x l=>
  have hA:=callAtom6 x (hl x (by simp))
  simp [c13,sndC,fstC,hp,hw97,hu8,setRun,hb2,hs1,hs2,hA,←GRaw.enc_eq]
  refine loop _ _ (by simp) (by simp) (by simp) (by simp) (by simp) ⟨_,_,_,_,_,_,rfl⟩ (by simp [headR]) (by simp [headR,GRaw.zero])
theorem callRule6R (l:List GRaw) (hl:∀ x∈l,x.ok) (hlen:l.length≤100000000000) (n:Nat) (hn:n<26) (bs:Nat) (σ:Heap):callT T 13 [.isl (l.map GRaw.enc) false,.int .i64 (n:Int)] bs σ=some ((ruleR l n).enc,σ):=call_clean rfl rfl rfl (by simp) (rule6_ok l hl hlen n hn)
end Go.Proofs.YtjfgjnlocadpbaaGreatDoor
end
section
set_option maxRecDepth 100000
namespace Go.Proofs.YtjfgjnlocadpbaaGreatDoor
open Go.Mach
abbrev PF:ACode:=sndC (sndC (sndC c9.body))
theorem prog_facts (rs:List GR) (facts:List GRaw) (hf:∀ x∈facts,x.ok) (hlen:facts.length≤100000000000) (lst:AV) (f:FR) (σ:Heap) (h1:f 1=.isl (facts.map GRaw.enc) false) (h4:f 4=.ptr 0 0) (h5:f 5=.ptr 1 0) (hN:2≤σ.length)
  (c0:∃ a b c,σ[0]?=some (.cells [a,b,c] 0 false)) (c1:σ[1]?=some (.cells [.isl (relsD.map GD.enc) false,.isl [] true,lst] 0 false)) (hL:LX 2 6 σ (rs.map GR.enc) lst) :
  wpK T 0 52 [.code PF] f σ (endP 52 [.cell 4 3 true] (GP.enc ⟨relsD,(facts.take 12).map factR,rs⟩)):=by
 simp [PF,c9,sndC]
 refine W_for T 0 52 (min facts.length 12) (fun i f σ=>f 1=.isl (facts.map GRaw.enc) false∧f 4=.ptr 0 0∧f 5=.ptr 1 0∧f 7=.int .i64 (i:Int)∧2≤σ.length∧(∃ a b c,σ[0]?=some (.cells [a,b,c] 0 false)) ∧
  ∃ ls,σ[1]?=some (.cells [.isl (relsD.map GD.enc) false,ls,lst] 0 false)∧LX 2 6 σ (rs.map GR.enc) lst∧LX 2 2 σ (((facts.take i).map factR).map GU.enc) ls) ?_ _ _ ?_
 ·rintro i f σ hi ⟨h1,h4,h5,h7,hN,⟨a,b,c,c0⟩,ls,c1,hL,hM⟩
  by_cases hlt:i<min facts.length 12
  ·have hlt1:i<facts.length:=by omega
   have hlt2:(i:Int)<(facts.length:Int):=by omega
   have hlt3:(i:Int)<12:=by omega
   have hw:IntKind.i64.wrap ((i:Int)+1)=(i:Int)+1:=wr64 (by omega) (by omega)
   have e1:facts[i]?=some facts[i]:=zqF hlt1
   have hc:=callFact6 facts[i] (hf _ (zqT hlt1))
   have htk:(facts.take (i+1)).map factR=(facts.take i).map factR++[factR facts[i]]:=by
    rw [zqO hlt1,List.map_append]; rfl
   have hal:((facts.take i).map factR).length≤12:=by simp; omega
   rw [htk]
   generalize (facts.take i).map factR=es at *
   simp [h1,h4,h5,h7,hlt2,hlt3,hlt1,c1,e1,hc,←GRaw.enc_eq,setRun,-appendA_ag]
   refine stW_app1K (N:=2) hM rfl rfl (by omega) (by omega) hN (by simp; omega) fun x' σ' hL' hlen' hk' hoth=>?_
   have hL2:=hoth 6 _ _ (by decide) hL
   simp [h1,h4,h5,h7,hw,hk',c0,c1,hL'.solid,hL'.cells,setRun]
   have kp:∀ {sz es y} o,LX 2 sz σ' es y→LX 2 sz (σ'.set 1 o) es y:=fun o h=>h.keep fun i q hi ho=>by rw [zqC (by omega)]; exact ho
   refine ⟨by omega,by omega,x',list_set_at (by omega),kp _ hL2,?_⟩
   have:=kp (.cells [.isl (relsD.map GD.enc) false,x',lst] 0 false) hL'
   exact this
  ·have he:i=min facts.length 12:=by omega
   have htk:facts.take i=facts.take 12:=by
    by_cases h:facts.length≤12
    ·rw [List.take_of_length_le (by omega),List.take_of_length_le h]
    ·have:i=12:=by omega
     rw [this]
   rw [htk] at hM
   have hs0:∀ o,(σ.set 0 o)[0]?=some o:=fun o=>list_set_at (by omega)
   have kp:∀ {sz es y} o,LX 2 sz σ es y→LX 2 sz (σ.set 0 o) es y:=fun o h=>h.keep fun i q hi ho=>by rw [zqC (by omega)]; exact ho
   have hcl:∀ o,∃ σ',close1 (σ.set 0 o) ls=some (.isl (((facts.take 12).map factR).map GU.enc) false,σ')∧∃ σ'',close1 σ' lst=some (.isl (rs.map GR.enc) false,σ''):=fun o=>by
    obtain ⟨σ1,k1,_,_,k3⟩:=(kp o hM).close
    obtain ⟨σ2,k4,_⟩:=(k3 _ _ _ _ (kp o hL)).close
    exact ⟨σ1,close1_of0 k1,σ2,close1_of0 k4⟩
   have ht12:List.take 12 (List.map factR facts)=(facts.take 12).map factR:=by rw [List.map_take]
   by_cases h12:(i:Int)<(facts.length:Int)
   ·have hlt3:¬ (i:Int)<12:=by omega
    simp [h1,h4,h5,h7,h12,hlt3,c1,c0,hs0]
    obtain ⟨σ1,k1,σ2,k2⟩:=hcl (AObj.cells [AV.isl (List.map GD.enc relsD) false,ls,lst] 0 false)
    simp [k1,k2,GP.enc_eq]
   ·simp [h1,h4,h5,h7,h12,c1,c0,hs0]
    obtain ⟨σ1,k1,σ2,k2⟩:=hcl (AObj.cells [AV.isl (List.map GD.enc relsD) false,ls,lst] 0 false)
    simp [k1,k2,GP.enc_eq]
 ·simp [h1,h4,h5,c1,hN,c0,hL]
  exact .inl ⟨rfl,rfl⟩
theorem rulesR_snoc (rules:List (List GRaw)) (i:Nat) (h:i<rules.length):((rules.take (i+1)).zipIdx).map (fun p=>ruleR p.1 p.2)=((rules.take i).zipIdx).map (fun p=>ruleR p.1 p.2)++[ruleR rules[i] i]:=by
 rw [zqO h,List.zipIdx_append,List.map_append]
 have:(rules.take i).length=i:=by simp; omega
 simp [this]
theorem prog6_ok (rules:List (List GRaw)) (facts:List GRaw) (hr:∀ l∈rules,(∀ x∈l,x.ok)∧l.length≤100000000000) (hrl:rules.length≤100000000000) (hf:∀ x∈facts,x.ok) (hlen:facts.length≤100000000000) :
  pureT T c9 [.isl (encRR rules) false,.isl (facts.map GRaw.enc) false]=some (progR rules facts).enc:=by
 have tail:=prog_facts (rulesR rules) facts hf hlen
 unfold progR
 apply pure_enter (by simp [c9])
 show wpK T 0 52 [.code c9.body] _ [] (endP 52 [.cell 4 3 true] _)
 have hb:c9.body=.seq (fstC c9.body) (.seq (fstC (sndC c9.body)) (.seq (fstC (sndC (sndC c9.body))) PF)):=rfl
 rw [hb]
 generalize PF=K at tail
 generalize GP.enc ⟨relsD,(facts.take 12).map factR,rulesR rules⟩=res at *
 simp [c9,sndC,fstC,callRelations6,setRun]
 refine W_for T 0 52 (min rules.length 6) (fun i f σ=>f 0=.isl (encRR rules) false∧f 1=.isl (facts.map GRaw.enc) false∧f 4=.ptr 0 0∧f 5=.ptr 1 0∧f 6=.int .i64 (i:Int)∧2≤σ.length∧(∃ a b c,σ[0]?=some (.cells [a,b,c] 0 false)) ∧
  ∃ ls,σ[1]?=some (.cells [.isl (relsD.map GD.enc) false,.isl [] true,ls] 0 false)∧LX 2 6 σ ((((rules.take i).zipIdx).map fun p=>ruleR p.1 p.2).map GR.enc) ls) ?_ _ _ ?_
 ·rintro i f σ hi ⟨h0,h1,h4,h5,h6,hN,⟨a,b,c,c0⟩,ls,c1,hL⟩
  by_cases hlt:i<min rules.length 6
  ·have hlt1:i<rules.length:=by omega
   have hlt2:(i:Int)<(rules.length:Int):=by omega
   have hlt3:(i:Int)<6:=by omega
   have hw:IntKind.i64.wrap ((i:Int)+1)=(i:Int)+1:=wr64 (by omega) (by omega)
   have e1:rules[i]?=some rules[i]:=zqF hlt1
   have hc:=callRule6R rules[i] (hr _ (zqT hlt1)).1 (hr _ (zqT hlt1)).2 i (by omega)
   have htk:=rulesR_snoc rules i hlt1
   have hal:(((rules.take i).zipIdx).map fun p=>ruleR p.1 p.2).length≤6:=by simp; omega
   rw [htk]
   generalize (((rules.take i).zipIdx).map fun p=>ruleR p.1 p.2)=es at *
   simp [h0,h1,h4,h5,h6,hlt2,hlt3,hlt1,c1,e1,hc,setRun,-appendA_ag]
   refine stW_app1 (N:=2) hL rfl rfl (by omega) (by omega) hN (by simp; omega) fun x' σ' hL' hlen' hk'=>?_
   simp [h0,h1,h4,h5,h6,hw,hk',c0,c1,hL'.solid,hL'.cells,setRun]
   have kp:∀ {sz es y} o,LX 2 sz σ' es y→LX 2 sz (σ'.set 1 o) es y:=fun o h=>h.keep fun i q hi ho=>by rw [zqC (by omega)]; exact ho
   refine ⟨by omega,by omega,x',list_set_at (by omega),?_⟩
   have:=kp (.cells [.isl (relsD.map GD.enc) false,.isl [] true,x'] 0 false) hL'
   exact this
  ·have he:i=min rules.length 6:=by omega
   have htk:rules.take i=rules.take 6:=by
    by_cases h:rules.length≤6
    ·rw [List.take_of_length_le (by omega),List.take_of_length_le h]
    ·have:i=6:=by omega
     rw [this]
   rw [htk] at hL
   by_cases h12:(i:Int)<(rules.length:Int)
   ·have hlt3:¬ (i:Int)<6:=by omega
    simp [h0,h1,h4,h5,h6,h12,hlt3]
    refine tail ls _ σ ?_ ?_ ?_ hN ⟨a,b,c,c0⟩ c1 hL <;> simp [h1,h4,h5]
   ·simp [h0,h1,h4,h5,h6,h12]
    refine tail ls _ σ ?_ ?_ ?_ hN ⟨a,b,c,c0⟩ c1 hL <;> simp [h1,h4,h5]
 ·simp
  exact .inl ⟨rfl,rfl⟩
theorem callProg6 (rules:List (List GRaw)) (facts:List GRaw) (hr:∀ l∈rules,(∀ x∈l,x.ok)∧l.length≤100000000000) (hrl:rules.length≤100000000000) (hf:∀ x∈facts,x.ok) (hlen:facts.length≤100000000000) (bs:Nat) (σ:Heap) :
  callT T 9 [.isl (encRR rules) false,.isl (facts.map GRaw.enc) false] bs σ=some ((progR rules facts).enc,σ):=call_clean rfl rfl rfl (by simp) (prog6_ok rules facts hr hrl hf hlen)
end Go.Proofs.YtjfgjnlocadpbaaGreatDoor
end
section
namespace Go.Proofs.YtjfgjnlocadpbaaGreatDoor
open Go.Mach
theorem bulkAs_le {α:Type} (enc:α→AV) (c:Nat):∀ l:List α,(∀ x∈l,bulkA (enc x)≤c)→bulkAs (l.map enc)≤c * l.length
 | [],_=>by simp [bulkAs]
 | x :: l,h=>by
  have h1:=bulkAs_le enc c l fun y hy=>h y (by simp [hy])
  have h2:=h x (by simp)
  simp only [List.map_cons,bulkAs,zqU,Nat.mul_add]; omega
theorem tsizes_le (c:Nat) (l:List GT) (h:∀ t∈l,t.size≤c):GT.sizes l≤c * l.length:=by
 rw [←GT.bulk_encs,GT.encs_map]
 exact bulkAs_le GT.enc c l fun t ht=>by rw [GT.bulk_enc]; exact h t ht
theorem gsizes_le (c:Nat) (l:List GV) (h:∀ t∈l,t.size≤c):GV.sizes l≤c * l.length:=by
 rw [←GV.bulk_encs,GV.encs_map]
 exact bulkAs_le GV.enc c l fun t ht=>by rw [GV.bulk_enc]; exact h t ht
theorem vTn_size:∀ n,n<6→(vTn n).size≤40:=by decide +kernel
theorem vT_size (c:Int):(vT c).size≤40:=vTn_size _ (pickN_lt (by omega))
theorem numT_size (n:Int):(numT n).size≤40:=by
 have h0:(ByteArray.mk #[]).size=0:=rfl
 simp [numT,GT.size,GT.sizes,GV.size,GV.sizes,h0]
theorem addrT_size:∀ n,n<3→(addrT n).size≤40:=by decide +kernel
theorem sumT_size:∀ n,n<6→(sumT n).size≤40:=by decide +kernel
theorem argR_size (k:Int):(argR k).size≤40:=by
 unfold argR
 split
 ·exact numT_size _
 split
 ·exact addrT_size _ (pickN_lt (by omega))
 split
 ·exact sumT_size _ (pickN_lt (by omega))
 ·exact vT_size k
theorem atomR_size (x:GRaw):GT.sizes (atomR x)≤120:=by
 obtain ⟨_,h2,_⟩:=rel_arity x
 have:=tsizes_le 40 (atomR x) (fun t ht=>by
  obtain ⟨i,_,rfl⟩:=List.mem_map.1 ht
  split
  ·exact vT_size _
  ·exact argR_size _)
 have hl:(atomR x).length=(relR x).arity.toNat:=by simp [atomR]
 rw [hl] at this; omega
theorem relR_size (x:GRaw):(relR x).name.size≤4:=by
 obtain ⟨n,hn,_,e⟩:=rel_cases x
 rw [e]
 match n,hn with
 | 0,_=>decide
 | 1,_=>decide
 | 2,_=>decide
 | 3,_=>decide
 | 4,_=>decide
 | 5,_=>decide
theorem tSix_size:∀ n,n<6→(tSix.getD n ⟨#[]⟩).size≤4:=by decide +kernel
theorem vName_size:∀ n,n<6→(vName n).size≤4:=by decide +kernel
theorem litR_size (x:GRaw):(litR x).size≤200:=by
 have h1:=atomR_size x
 have h2:=relR_size x
 unfold litR
 split
 ·simp only [GL.size,GL.enc,bulkA,bulkAs,GT.bulk_encs]; omega
 split
 ·simp only [GL.size,GL.enc,bulkA,bulkAs,GT.bulk_encs]; omega
 split
 ·have h3:=tSix_size _ (pickN_lt (c:=x.name) (n:=6) (by omega))
  have h4:GT.sizes [vT x.n0,if pickN x.n3 2=0 then numT (pickN x.n2 4) else vT x.n1]≤80:=tsizes_le 40 _ fun t ht=>by
   simp only [List.mem_cons,List.not_mem_nil,or_false] at ht
   rcases ht with rfl | rfl
   ·exact vT_size _
   ·split
    ·exact numT_size _
    ·exact vT_size _
  simp only [GL.size,GL.enc,bulkA,bulkAs,GT.bulk_encs]; omega
 ·have h3:=vName_size _ (pickN_lt (c:=x.n0) (n:=6) (by omega))
  have h4:GT.sizes [vT x.n1,if pickN (x.n3.tdiv 2) 2=0 then numT 1 else vT x.n2]≤80:=tsizes_le 40 _ fun t ht=>by
   simp only [List.mem_cons,List.not_mem_nil,or_false] at ht
   rcases ht with rfl | rfl
   ·exact vT_size _
   ·split
    ·exact numT_size _
    ·exact vT_size _
  have h5:(if pickN x.n3 2=0 then (⟨#[43]⟩:ByteArray) else ⟨#[45]⟩).size≤1:=by split <;> decide
  have h0:(ByteArray.mk #[]).size=0:=rfl
  simp only [GL.size,GL.enc,bulkA,bulkAs,GT.bulk_encs,GT.sizes,GT.size,GV.size,GV.sizes,h0] at h4 ⊢; omega
theorem aggN_size (n:Nat):(aggN n).size≤5:=by
 unfold aggN
 split
 ·decide
 split <;> decide
theorem ruleR_size (l:List GRaw) (n:Nat):(ruleR l n).size≤1000:=by
 have h1:=atomR_size (headR l)
 have h2:=relR_size (headR l)
 have h3:=aggN_size (pickN ((headR l).kind.tdiv 5) 3)
 have h4:bulkAs ((bodyR l).map GL.enc)≤200 * (bodyR l).length:=bulkAs_le GL.enc 200 _ fun y hy=>by
  obtain ⟨x,rfl⟩:=bodyR_mem l hy
  exact litR_size x
 have h5:=(bodyR_len l).2
 have h6:((⟨#[114]⟩:ByteArray)++⟨#[UInt8.ofNat (97+n)]⟩).size=2:=by rw [ByteArray.size_append]; rfl
 have h7:(if aggR (headR l)=true then aggN (pickN ((headR l).kind.tdiv 5) 3) else ⟨#[]⟩).size≤5:=by
  split
  ·exact h3
  ·decide
 simp only [ruleR,GR.size,GR.enc,bulkA,bulkAs,GT.bulk_encs,h6]; omega
theorem addrV_size:∀ n,n<4→(addrV n).size≤40:=by decide +kernel
theorem factR_size (x:GRaw):(factR x).size≤200:=by
 obtain ⟨_,h2,_⟩:=rel_arity x
 have h1:=relR_size x
 have h0:(ByteArray.mk #[]).size=0:=rfl
 have:=gsizes_le 40 (factR x).args (fun t ht=>by
  obtain ⟨i,_,rfl⟩:=List.mem_map.1 ht
  unfold fargR
  split
  ·exact addrV_size _ (pickN_lt (by omega))
  ·simp [numV,GV.size,GV.sizes,h0])
 have hl:=fargs_len x
 rw [hl] at this
 have e1:(factR x).name=(relR x).name:=rfl
 simp only [GU.size,GU.enc,bulkA,bulkAs,GV.bulk_encs,e1]; omega
theorem GP.size_le (p:GP) (a b c:Nat) (h1:∀ x∈p.decls,x.size≤a) (h2:∀ x∈p.facts,x.size≤b) (h3:∀ x∈p.rules,x.size≤c):p.size≤a * p.decls.length+b * p.facts.length+c * p.rules.length+4:=by
 have k1:=bulkAs_le GD.enc a p.decls h1
 have k2:=bulkAs_le GU.enc b p.facts h2
 have k3:=bulkAs_le GR.enc c p.rules h3
 simp only [GP.size,GP.enc,bulkA,bulkAs]; omega
theorem relsD_size:∀ x∈relsD,x.size≤20:=by decide +kernel
theorem rulesR_size (rules:List (List GRaw)):∀ x∈rulesR rules,x.size≤1000:=fun x hx=>by
 obtain ⟨p,_,rfl⟩:=List.mem_map.1 hx
 exact ruleR_size _ _
theorem facts_size (facts:List GRaw):∀ x∈(facts.take 12).map factR,x.size≤200:=fun x hx=>by
 obtain ⟨p,_,rfl⟩:=List.mem_map.1 hx
 exact factR_size _
end Go.Proofs.YtjfgjnlocadpbaaGreatDoor
end
section
set_option maxRecDepth 100000
namespace Go.Proofs.YtjfgjnlocadpbaaGreatDoor
open Go.Mach
theorem rulesR_B (rules:List (List GRaw)):(rulesR rules).all ruleB=true∧(rulesR rules).length≤6:=by
 constructor
 ·rw [zqQ]; intro v hv
  obtain ⟨x,hx,rfl⟩:=List.mem_map.1 hv
  have:=List.snd_lt_of_mem_zipIdx hx
  refine ruleR_B _ _ ?_
  simp at this; omega
 ·simp [rulesR]; omega
theorem facts_B (facts:List GRaw):((facts.take 12).map factR).all tupB=true∧((facts.take 12).map factR).length≤12:=by
 constructor
 ·rw [zqQ]; intro v hv
  obtain ⟨x,_,rfl⟩:=List.mem_map.1 hv
  exact tupB_R x
 ·simp; omega
theorem check_rules6 (facts:List GRaw) (rs:List GR) (hr:rs.all ruleB=true) (hl:rs.length≤64):checkP ⟨relsD,(facts.take 12).map factR,rs⟩=firstP ⟨relsD,[],[]⟩ rs 0:=by
 rw [check_rawR rfl ?_ (facts_good rfl _)]
 ·exact first_congr (p:=⟨relsD,(facts.take 12).map factR,rs⟩) (q:=⟨relsD,[],[]⟩) rfl rs 0
 ·obtain ⟨h1,h2⟩:=facts_B facts
  have h4:relsD.length=6:=rfl
  simp only [progB,h1,hr,relsD_B,h4,Bool.and_true,decide_eq_true_eq]
  omega
theorem raw_prog (rules:List (List GRaw)) (facts:List GRaw) (hr:RawsOk rules) (hf:FactsOk facts):∃ fs rs,rs.length≤6∧fs.length≤12∧rs=rulesR rules∧fs=(facts.take 12).map factR ∧
  (∀ bs σ,callT T 9 [.isl (encRR rules) false,.isl (facts.map GRaw.enc) false] bs σ=some (.agg [.isl (relsD.map GD.enc) false,.isl (fs.map GU.enc) false,.isl (rs.map GR.enc) false],σ)) ∧
  ∀ rs':List GR,(∀ r∈rs',r∈rs)→rs'.length≤64→checkP ⟨relsD,fs,rs'⟩=firstP ⟨relsD,[],[]⟩ rs' 0∧(GP.mk relsD fs rs').size≤1000000000:=by
 refine ⟨_,_,(rulesR_B rules).2,(facts_B facts).2,rfl,rfl,fun bs σ=>callProg6 rules facts hr.1 hr.2 hf.1 hf.2 bs σ,fun rs' h1 h2=>⟨check_rules6 facts rs' ?_ h2,?_⟩⟩
 ·rw [zqQ]
  exact fun r hr'=>zqQ.1 (rulesR_B rules).1 r (h1 r hr')
 ·have:=GP.size_le ⟨relsD,(facts.take 12).map factR,rs'⟩ 20 200 1000 relsD_size (facts_size facts) fun r hr'=>rulesR_size rules r (h1 r hr')
  have e1:relsD.length=6:=rfl
  have e2:=(facts_B facts).2
  simp only [e1] at this
  omega
end Go.Proofs.YtjfgjnlocadpbaaGreatDoor
end
section
set_option maxRecDepth 100000
namespace Go.Proofs.YtjfgjnlocadpbaaGreatDoor
open Go.Mach
def bN (n:ByteArray):ByteArray:=⟨#[78]⟩++n
mutual
def turnT:GT→GT
 | .mk k n v l=>if k=1 then .mk 1 (bN n) (.mk 0 0 ⟨#[]⟩ []) [] else .mk k n v (turnL l)
def turnL:List GT→List GT
 | []=>[]
 | t :: l=>turnT t :: turnL l
end
mutual
theorem vs1_turn:∀ t:GT,vs1 (turnT t)=(vs1 t).map bN
 | .mk k n v l=>by
  by_cases h:k=1
  ·simp [turnT,vs1,h]
  ·simp only [turnT,vs1,if_neg h]
   exact vsL_turn l
theorem vsL_turn:∀ l:List GT,vsL (turnL l)=(vsL l).map bN
 | []=>rfl
 | t :: l=>by simp only [turnL,vsL,List.map_append,vs1_turn t,vsL_turn l]
end
end Go.Proofs.YtjfgjnlocadpbaaGreatDoor
end
section
namespace Go.Proofs.YtjfgjnlocadpbaaGreatDoor
open Go.Mach
structure IsRaw (P:Program) (tR tA tI:TypeId):Prop where
 fs:∃ fs:Array Field,P.underlying tR=some (.struct fs)∧fs.toList.map (·.type)=[tI,tI,tA]
 arr:P.underlying tA=some (.array 4 tI)
 int:P.underlying tI=some (.int .i64)
theorem asRaw {P:Program} {tR tA tI:TypeId} (hT:IsRaw P tR tA tI) {x:AV} (h:TyA P tR x):∃ v:GRaw,x=v.enc∧v.ok:=by
 have e1:IntKind.i64.min=-9223372036854775808:=by decide
 have e2:IntKind.i64.max=9223372036854775807:=by decide
 obtain ⟨fs0,hf0,hts⟩:=hT.fs
 obtain ⟨vs,rfl,hl,hv⟩:=h.asStruct hf0
 have hlen:vs.length=3:=by rw [hl,←List.length_map (f:=(·.type)),hts]; rfl
 match vs,hlen with
 | [x0,x1,x2],_=>
  obtain ⟨y0,rfl,p0,q0⟩:=(field_ty hts hv (i:=0) rfl rfl).asInt hT.int
  obtain ⟨y1,rfl,p1,q1⟩:=(field_ty hts hv (i:=1) rfl rfl).asInt hT.int
  obtain ⟨ws,rfl,hwl,hw⟩:=(field_ty hts hv (i:=2) rfl rfl).asArray hT.arr
  match ws,hwl with
  | [w0,w1,w2,w3],_=>
   obtain ⟨z0,rfl,a0,b0⟩:=(hw w0 (by simp)).asInt hT.int
   obtain ⟨z1,rfl,a1,b1⟩:=(hw w1 (by simp)).asInt hT.int
   obtain ⟨z2,rfl,a2,b2⟩:=(hw w2 (by simp)).asInt hT.int
   obtain ⟨z3,rfl,a3,b3⟩:=(hw w3 (by simp)).asInt hT.int
   rw [e1] at p0 p1 a0 a1 a2 a3; rw [e2] at q0 q1 b0 b1 b2 b3
   exact ⟨⟨y0,y1,z0,z1,z2,z3⟩,by simp [GRaw.enc,flat],⟨p0,q0⟩,⟨p1,q1⟩,⟨a0,b0⟩,⟨a1,b1⟩,⟨a2,b2⟩,⟨a3,b3⟩⟩
theorem argRaws {P:Program} {tL tR tA tI:TypeId} (hT:IsRaw P tR tA tI) (hL:P.underlying tL=some (.slice tR)) {x:AV} (h:TyA P tL x) (hb:bulkA x≤1048576):∃ l:List GRaw,x=.isl (l.map GRaw.enc) false∧FactsOk l:=by
 obtain ⟨es,rfl,hes⟩:=h.asSlice hL
 obtain ⟨l,rfl,hl⟩:=list_enc GRaw.enc GRaw.ok es fun z hz=>asRaw hT (hes z hz)
 have:=bulk_len (l.map GRaw.enc)
 simp only [bulkA,List.length_map] at hb this
 exact ⟨l,rfl,hl,by omega⟩
theorem argRR {P:Program} {tLL tL tR tA tI:TypeId} (hT:IsRaw P tR tA tI) (hL:P.underlying tL=some (.slice tR)) (hLL:P.underlying tLL=some (.slice tL)) {x:AV} (h:TyA P tLL x) (hb:bulkA x≤1048576):∃ l:List (List GRaw),x=.isl (encRR l) false∧RawsOk l:=by
 obtain ⟨es,rfl,hes⟩:=h.asSlice hLL
 simp only [bulkA] at hb
 obtain ⟨l,rfl,hl⟩:=list_enc (fun l:List GRaw=>AV.isl (l.map GRaw.enc) false) FactsOk es fun z hz=>by
  have:=bulk_mem hz
  exact argRaws hT hL (hes z hz) (by omega)
 have:=bulk_len (l.map fun l:List GRaw=>AV.isl (l.map GRaw.enc) false)
 simp only [List.length_map] at this
 exact ⟨l,rfl,fun y hy=>hl y hy,by omega⟩
theorem tyRaw:IsRaw Tryz.prog 66 64 3:=⟨fieldTys_some (by kernel_rfl),by kernel_rfl,by kernel_rfl⟩
theorem argF6 {x:AV} (h:TyA Tryz.prog 48 x) (hb:bulkA x≤1048576):∃ l:List GRaw,x=.isl (l.map GRaw.enc) false∧FactsOk l:=argRaws tyRaw (by kernel_rfl) h hb
theorem argR6 {x:AV} (h:TyA Tryz.prog 22 x) (hb:bulkA x≤1048576):∃ l:List (List GRaw),x=.isl (encRR l) false∧RawsOk l:=argRR (tL:=48) tyRaw (by kernel_rfl) (by kernel_rfl) h hb
end Go.Proofs.YtjfgjnlocadpbaaGreatDoor
end
section
namespace Go.Proofs.YtjfgjnlocadpbaaGreatDoor
open Go.Mach
structure GPl where
 from':ByteArray
 to:ByteArray
 head:ByteArray
abbrev nilB:ByteArray:=⟨#[]⟩
def nilPl:GPl:=⟨nilB,nilB,nilB⟩
def GPl.enc (p:GPl):AV:=.agg [.str p.from',.str p.to,.str p.head]
abbrev sLink:ByteArray:=⟨#[108,105,110,107]⟩
structure RS where
 all:List ByteArray
 links:List ((ByteArray × ByteArray) × Int)
 atoms:Nat
def lookW (m:List ((ByteArray × ByteArray) × Int)) (a b:ByteArray):Option Int:=(m.find? fun p=>decide (p.1.1=a∧p.1.2=b)).map (·.2)
def linkL (l:GL):Bool:=decide (l.name=sLink) && decide ((l.args[1]?).map GT.kind=some 1)
def arg1 (l:GL):ByteArray:=((l.args[1]?).map GT.name).getD nilB
def setW (m:List ((ByteArray × ByteArray) × Int)) (a b:ByteArray) (i:Int):List ((ByteArray × ByteArray) × Int):=if (lookW m a b).isSome=true then m else m++[((a,b),i)]
def stepR (s:RS) (l:GL) (a:GT) (i:Nat):RS:=
 if l.kind=2 then ⟨addB s.all a.name,s.links,s.atoms⟩
 else ⟨addB s.all a.name,if linkL l=true then setW s.links a.name (arg1 l) i else s.links,s.atoms+1⟩
def readGo:List GL→Nat→RS→Option RS
 | [],_,s=>some s
 | l :: ls,i,s=>if l.kind=1∨l.kind=2 then (match l.args with
   | []=>none
   | a :: _=>if a.kind=1 then readGo ls (i+1) (stepR s l a i) else none) else readGo ls (i+1) s
def readP (body:List GL):Option RS:=match readGo body 0 ⟨[],[],0⟩ with
 | some s=>if 0<s.atoms then some s else none
 | none=>none
def oneP (s:RS) (a head:ByteArray):Option GPl:=if head=a∨(lookW s.links a head).isSome=true then some ⟨a,nilB,head⟩ else none
def twoP (s:RS) (a b head:ByteArray):Option GPl:=match lookW s.links a b,lookW s.links b a with
 | none,none=>none
 | some _,none=>if head=a∨head=b then some ⟨a,b,head⟩ else none
 | none,some _=>if head=a∨head=b then some ⟨b,a,head⟩ else none
 | some i,some k=>if head=a∨head=b then some (if k<i then ⟨b,a,head⟩ else ⟨a,b,head⟩) else none
def placeQ (s:RS) (head:ByteArray):Option GPl:=match s.all with
 | [a]=>oneP s a head
 | [a,b]=>twoP s a b head
 | _=>none
def headK (r:GR):Int:=((r.args[0]?).map GT.kind).getD 0
def headN (r:GR):ByteArray:=((r.args[0]?).map GT.name).getD nilB
def aggOk (r:GR) (p:GPl):Bool:=decide (r.agg=nilB) || (decide (p.to=nilB) && decide (p.head=p.from'))
def placeP (r:GR):Option GPl:=
 if ruleB r=true∧r.head≠sLink∧headK r=1 then (match readP r.body with
  | none=>none
  | some s=>match placeQ s (headN r) with
   | none=>none
   | some p=>if aggOk r p=true then some p else none) else none
theorem mem_addB7 (b:List ByteArray) (n m:ByteArray):m∈addB b n↔m∈b∨m=n:=by
 unfold addB
 split
 ·rename_i h
  have:=(memB_iff n b).1 h
  constructor
  ·exact .inl
  ·rintro (h | rfl)
   ·exact h
   ·exact this
 ·simp
theorem nodup_addB7 {b:List ByteArray} (h:b.Nodup) (n:ByteArray):(addB b n).Nodup:=by
 unfold addB
 split
 ·exact h
 ·rename_i hn
  rw [List.nodup_append]
  refine ⟨h,by simp,fun x hx y hy e=>?_⟩
  simp at hy; subst hy e
  exact hn ((memB_iff x b).2 hx)
theorem lookW_set (m:List ((ByteArray × ByteArray) × Int)) (a b c d:ByteArray) (i:Int):lookW (setW m a b i) c d=if (lookW m c d).isSome=true then lookW m c d else if a=c∧b=d then some i else none:=by
 unfold setW
 split
 ·rename_i h
  split
  ·rfl
  ·rename_i h2
   split
   ·rename_i e; obtain ⟨rfl,rfl⟩:=e; exact absurd h h2
   ·cases h3:lookW m c d with
    | none=>rfl
    | some _=>rw [h3] at h2; simp at h2
 ·rename_i h
  unfold lookW
  rw [List.find?_append]
  cases h3:m.find? fun p=>decide (p.1.1=c∧p.1.2=d) with
  | some q=>simp
  | none=>
   simp only [Option.none_or,Option.map_none,Option.isSome_none,Bool.false_eq_true,if_false,List.find?_cons,List.find?_nil]
   by_cases e:a=c∧b=d
   ·simp [e]
   ·simp [e]
theorem lookW_some {m:List ((ByteArray × ByteArray) × Int)} {a b c d:ByteArray} {i:Int}:(lookW (setW m a b i) c d).isSome=true↔(lookW m c d).isSome=true∨(a=c∧b=d):=by
 rw [lookW_set]
 split
 ·rename_i h; simp [h]
 ·rename_i h
  split
  ·rename_i e; simp [e]
  ·rename_i e; simp [h,e]
def linkOf (l:GL) (a b:ByteArray):Prop:=l.kind=1∧linkL l=true∧(∃ t,l.args[0]?=some t∧t.name=a)∧arg1 l=b
theorem read_spec:∀ (ls:List GL) (i:Nat) (s t:RS),readGo ls i s=some t →
  (∀ m,m∈t.all↔m∈s.all∨∃ l∈ls,(l.kind=1∨l.kind=2)∧∃ x,l.args[0]?=some x∧x.name=m) ∧
  (∀ l∈ls,l.kind=1∨l.kind=2→∃ x,l.args[0]?=some x∧x.kind=1) ∧
  (∀ a b,(lookW t.links a b).isSome=true↔(lookW s.links a b).isSome=true∨∃ l∈ls,linkOf l a b)∧(s.all.Nodup→t.all.Nodup)
 | [],i,s,t,h=>by
  injection h with h; subst h
  simp
 | l :: ls,i,s,t,h=>by
  simp only [readGo] at h
  by_cases hk:l.kind=1∨l.kind=2
  ·rw [if_pos hk] at h
   cases ha:l.args with
   | nil=>rw [ha] at h; cases h
   | cons a as'=>
    rw [ha] at h
    simp only at h
    by_cases hv:a.kind=1
    ·rw [if_pos hv] at h
     obtain ⟨h1,h2,h3,h4⟩:=read_spec ls (i+1) _ t h
     have hall:(stepR s l a i).all=addB s.all a.name:=by unfold stepR; split <;> rfl
     have hl0:l.args[0]?=some a:=by rw [ha]; rfl
     refine ⟨fun m=>?_,fun x hx=>?_,fun c d=>?_,fun hn=>h4 ?_⟩
     ·rw [h1,hall,mem_addB7]
      constructor
      ·rintro ((h | rfl) | ⟨x,hx,h⟩)
       ·exact .inl h
       ·exact .inr ⟨l,by simp,hk,a,hl0,rfl⟩
       ·exact .inr ⟨x,by simp [hx],h⟩
      ·rintro (h | ⟨x,hx,hxk,y,hy,rfl⟩)
       ·exact .inl (.inl h)
       ·rcases List.mem_cons.1 hx with rfl | hx
        ·rw [hl0] at hy; injection hy with hy; subst hy; exact .inl (.inr rfl)
        ·exact .inr ⟨x,hx,hxk,y,hy,rfl⟩
     ·rcases List.mem_cons.1 hx with rfl | hx
      ·exact fun _=>⟨a,hl0,hv⟩
      ·exact h2 x hx
     ·rw [h3]
      have hs:(lookW (stepR s l a i).links c d).isSome=true↔(lookW s.links c d).isSome=true∨linkOf l c d:=by
       unfold stepR
       by_cases hk2:l.kind=2
       ·rw [if_pos hk2]
        constructor
        ·exact .inl
        ·rintro (h | ⟨h,_⟩)
         ·exact h
         ·omega
       ·rw [if_neg hk2]
        have hk1:l.kind=1:=by rcases hk with h | h; exact h; exact absurd h hk2
        simp only
        by_cases hll:linkL l=true
        ·rw [if_pos hll,lookW_some]
         constructor
         ·rintro (h | ⟨rfl,rfl⟩)
          ·exact .inl h
          ·exact .inr ⟨hk1,hll,⟨a,hl0,rfl⟩,rfl⟩
         ·rintro (h | ⟨_,_,⟨y,hy,rfl⟩,rfl⟩)
          ·exact .inl h
          ·rw [hl0] at hy; injection hy with hy; subst hy; exact .inr ⟨rfl,rfl⟩
        ·rw [if_neg hll]
         constructor
         ·exact .inl
         ·rintro (h | ⟨_,h,_⟩)
          ·exact h
          ·exact absurd h hll
      rw [hs]
      constructor
      ·rintro ((h | h) | ⟨x,hx,h⟩)
       ·exact .inl h
       ·exact .inr ⟨l,by simp,h⟩
       ·exact .inr ⟨x,by simp [hx],h⟩
      ·rintro (hq | ⟨x,hx,hq⟩)
       ·exact .inl (.inl hq)
       ·rcases List.mem_cons.1 hx with rfl | hx
        ·exact .inl (.inr hq)
        ·exact .inr ⟨x,hx,hq⟩
     ·rw [hall]; exact nodup_addB7 hn a.name
    ·rw [if_neg hv] at h; cases h
  ·rw [if_neg hk] at h
   obtain ⟨h1,h2,h3,h4⟩:=read_spec ls (i+1) s t h
   refine ⟨fun m=>?_,fun x hx=>?_,fun c d=>?_,h4⟩
   ·rw [h1]
    constructor
    ·rintro (h | ⟨x,hx,h⟩)
     ·exact .inl h
     ·exact .inr ⟨x,by simp [hx],h⟩
    ·rintro (h | ⟨x,hx,hxk,h⟩)
     ·exact .inl h
     ·rcases List.mem_cons.1 hx with rfl | hx
      ·exact absurd hxk hk
      ·exact .inr ⟨x,hx,hxk,h⟩
   ·rcases List.mem_cons.1 hx with rfl | hx
    ·exact fun h=>absurd h hk
    ·exact h2 x hx
   ·rw [h3]
    constructor
    ·rintro (h | ⟨x,hx,h⟩)
     ·exact .inl h
     ·exact .inr ⟨x,by simp [hx],h⟩
    ·rintro (hq | ⟨x,hx,hq⟩)
     ·exact .inl hq
     ·rcases List.mem_cons.1 hx with rfl | hx
      ·exact absurd (.inl hq.1) hk
      ·exact .inr ⟨x,hx,hq⟩
end Go.Proofs.YtjfgjnlocadpbaaGreatDoor
end
section
namespace Go.Proofs.YtjfgjnlocadpbaaGreatDoor
open Go.Mach
def link1 (a b:ByteArray) (l:GL):Bool:=decide (l.kind=1) && decide (l.name=sLink) && decide (1<l.args.length) && decide ((l.args[0]?).map GT.name=some a) && decide ((l.args[1]?).map GT.kind=some 1) && decide ((l.args[1]?).map GT.name=some b)
def linkedB (body:List GL) (a b:ByteArray):Bool:=body.any (link1 a b)
theorem link1_iff (a b:ByteArray) (l:GL):link1 a b l=true↔linkOf l a b:=by
 unfold link1 linkOf linkL arg1
 simp only [zqL,decide_eq_true_eq]
 constructor
 ·rintro ⟨⟨⟨⟨⟨h1,h2⟩,h3⟩,h4⟩,h5⟩,h6⟩
  refine ⟨h1,⟨h2,h5⟩,?_,by rw [h6]; rfl⟩
  obtain ⟨t,ht,e⟩:=zqG.1 h4
  exact ⟨t,ht,e⟩
 ·rintro ⟨h1,⟨h2,h5⟩,⟨t,ht,e⟩,h6⟩
  obtain ⟨y,hy,_⟩:=zqG.1 h5
  have h3:=(zqI.1 hy).1
  refine ⟨⟨⟨⟨⟨h1,h2⟩,h3⟩,by rw [ht,←e]; rfl⟩,h5⟩,?_⟩
  rw [hy] at h6 ⊢
  simp at h6 ⊢
  exact h6
theorem linked_iff (body:List GL) (a b:ByteArray):linkedB body a b=true↔∃ l∈body,linkOf l a b:=by
 unfold linkedB
 rw [List.any_eq_true]
 constructor
 ·rintro ⟨l,h1,h2⟩; exact ⟨l,h1,(link1_iff a b l).1 h2⟩
 ·rintro ⟨l,h1,h2⟩; exact ⟨l,h1,(link1_iff a b l).2 h2⟩
theorem var_ne {t:GT} (h:termR 8 t=true) (hk:t.kind=1):t.name≠nilB:=by
 intro e
 have:termR 8 t=termB t (t.args.all (termR 7)):=rfl
 rw [this] at h
 unfold termB at h
 rw [if_pos hk,e] at h
 simp only [zqL] at h
 exact absurd h.2 (by decide)
theorem lit_names {l:GL} (h:litB l=true) (hk:l.kind=1∨l.kind=2):(∃ t,l.args[0]?=some t)∧∀ t∈l.args,t.kind=1→t.name≠nilB:=by
 unfold litB at h
 rw [if_pos hk] at h
 simp only [zqL,argsB] at h
 obtain ⟨_,⟨h1,h2⟩,h3⟩:=h
 refine ⟨?_,fun t ht htk=>var_ne (zqQ.1 h2 t ht) htk⟩
 cases ha:l.args with
 | nil=>rw [ha] at h3; cases h3
 | cons a as'=>exact ⟨a,rfl⟩
theorem readP_spec {body:List GL} {s:RS} (h:readP body=some s):(∀ m,m∈s.all↔∃ l∈body,(l.kind=1∨l.kind=2)∧∃ x,l.args[0]?=some x∧x.name=m) ∧
  (∀ l∈body,l.kind=1∨l.kind=2→∃ x,l.args[0]?=some x∧x.kind=1)∧(∀ a b,(lookW s.links a b).isSome=true↔linkedB body a b=true)∧s.all.Nodup:=by
 unfold readP at h
 cases hg:readGo body 0 ⟨[],[],0⟩ with
 | none=>rw [hg] at h; cases h
 | some t=>
  rw [hg] at h
  simp only at h
  split at h
  ·injection h with h; subst h
   obtain ⟨h1,h2,h3,h4⟩:=read_spec body 0 _ _ hg
   refine ⟨fun m=>?_,h2,fun a b=>?_,h4 List.nodup_nil⟩
   ·rw [h1]; simp
   ·rw [h3,linked_iff]
    constructor
    ·rintro (h | h)
     ·cases h
     ·exact h
    ·exact .inr
  ·cases h
def atB (p:GPl) (l:GL):Bool:=decide (0<l.args.length) && decide ((l.args[0]?).map GT.kind=some 1) && (decide ((l.args[0]?).map GT.name=some p.from') || (decide (p.to≠nilB) && decide ((l.args[0]?).map GT.name=some p.to)))
structure PlaceOk (r:GR) (p:GPl):Prop where
 at':∀ l∈r.body,l.kind=1∨l.kind=2→atB p l=true
 ne:p.from'≠p.to
 head:headN r=p.head
 two:p.to≠nilB→linkedB r.body p.from' p.to=true∧(p.head=p.from'∨p.head=p.to)
 one:p.to=nilB→p.head≠p.from'→linkedB r.body p.from' p.head=true
 agg:r.agg≠nilB→p.to=nilB∧p.head=p.from'
end Go.Proofs.YtjfgjnlocadpbaaGreatDoor
end
section
namespace Go.Proofs.YtjfgjnlocadpbaaGreatDoor
open Go.Mach
theorem names_ne {r:GR} (hb:ruleB r=true) {s:RS} (hr:readP r.body=some s):∀ m∈s.all,m≠nilB:=fun m hm=>by
 obtain ⟨h1,h2,_,_⟩:=readP_spec hr
 unfold ruleB at hb
 simp only [zqL] at hb
 obtain ⟨l,hl,hk,x,hx,rfl⟩:=(h1 m).1 hm
 obtain ⟨y,hy,hyk⟩:=h2 l hl hk
 rw [hx] at hy; injection hy with hy; subst hy
 exact (lit_names (zqQ.1 hb.1.2 l hl) hk).2 x (zqR hx) hyk
end Go.Proofs.YtjfgjnlocadpbaaGreatDoor
end
section
namespace Go.Proofs.YtjfgjnlocadpbaaGreatDoor
open Go.Mach
abbrev kW (a b:ByteArray):AV:=.agg [.str a,.str b]
def encW (m:List ((ByteArray × ByteArray) × Int)):List (AV × AV):=m.map fun p=>(kW p.1.1 p.1.2,.int .i64 p.2)
def idxW (a b:ByteArray):List ((ByteArray × ByteArray) × Int)→Nat
 | []=>0
 | p :: m=>if a=p.1.1∧b=p.1.2 then 0 else idxW a b m+1
theorem mfind_w (a b:ByteArray):∀ (m:List ((ByteArray × ByteArray) × Int)) (i:Nat),mfind true [2,2] [.str a,.str b] i (encW m)=some ((lookW m a b).map fun v=>(i+idxW a b m,.int .i64 v))
 | [],i=>rfl
 | p :: m,i=>by
  have ih:=mfind_w a b m (i+1)
  simp only [encW,List.map_cons,mfind,keyC,if_true,Option.bind_some,eqcs_str,eqcs_nil,Option.map_some,Bool.and_true] at ih ⊢
  by_cases h:a=p.1.1∧b=p.1.2
  ·obtain ⟨h1,h2⟩:=h
   simp [lookW,List.find?_cons,idxW,h1,h2]
  ·have hl:lookW (p :: m) a b=lookW m a b:=by
    unfold lookW
    rw [List.find?_cons]
    have:decide (p.1.1=a∧p.1.2=b)=false:=decide_eq_false fun e=>h ⟨e.1.symm,e.2.symm⟩
    rw [this]
   have hd:(decide (a=p.1.1) && decide (b=p.1.2))=false:=by
    rw [←Bool.not_eq_true,zqL,decide_eq_true_eq,decide_eq_true_eq]; exact h
   rw [hd,hl]
   simp only [ih,idxW,if_neg h]
   congr 2
   funext v
   congr 1
   omega
theorem mlook_w {σ:Heap} {id:Nat} {m:List ((ByteArray × ByteArray) × Int)} (h:σ[id]?=some (.mp (encW m))) (a b:ByteArray):mlookA σ true [2,2] (.int .i64 0) true (.map id) (kW a b)=some (.tup [.int .i64 ((lookW m a b).getD 0),.bool (lookW m a b).isSome]):=by
 simp only [mlookA,keyC,if_true,Option.bind_some,eqcs_str,eqcs_nil,Option.map_some,Option.isSome_some,mapOf,h,mfind_w]
 cases lookW m a b <;> simp [lookV]
theorem mset_w {σ:Heap} {id:Nat} {m:List ((ByteArray × ByteArray) × Int)} (h:σ[id]?=some (.mp (encW m))) (a b:ByteArray) (i:Int) (hn:lookW m a b=none):msetA σ true [2,2] (.map id) (kW a b) (.int .i64 i)=some (σ.set id (.mp (encW (setW m a b i)))):=by
 have hcl:closeA σ (.int .i64 i)=some (.int .i64 i,σ):=by simp
 have hk:(kW a b).clo=true:=rfl
 simp only [msetA,keyC,if_true,Option.bind_some,eqcs_str,eqcs_nil,Option.map_some,Option.isSome_some,true_and,hk,hcl,h,mfind_w,hn,Option.map_none]
 have hs:setW m a b i=m++[((a,b),i)]:=by unfold setW; rw [hn]; rfl
 rw [hs]
 simp [encW,AV.clo,AV.clo1]
end Go.Proofs.YtjfgjnlocadpbaaGreatDoor
end
section
set_option maxRecDepth 100000
namespace Go.Proofs.YtjfgjnlocadpbaaGreatDoor
open Go.Mach
abbrev plA (j:Nat) (l:List ByteArray) (k:Nat) (n:Int):AV:=.agg [.own j (l.map .str),.map k,.int .i64 n]
theorem has7 {σ:Heap} {k:Nat} {m:List ((ByteArray × ByteArray) × Int)} (hk:σ[k]?=some (.mp (encW m))) (j:Nat) (l:List ByteArray) (n:Int) (a b:ByteArray) (bs:Nat) :
  callT T 49 [plA j l k n,.str a,.str b] bs σ=some (.bool (lookW m a b).isSome,σ):=by
 have hkl:k<σ.length:=(zqI.1 hk).1
 have hk2:∀ o,(σ++[o])[k]?=some (.mp (encW m)):=fun o=>by rw [zqA hkl]; exact hk
 refine heap_enter (args':=[plA j l k n,.str a,.str b]) (σ1:=σ) (af:=c49) rfl rfl (by simp [c49]) (by simp [c49]) rfl ?_
 simp [c49,baseA,setRun,mlook_w (hk2 _),res1,dropA_gc,refLt,refLt2_bool]
theorem one7 {σ:Heap} {k:Nat} {m:List ((ByteArray × ByteArray) × Int)} (hk:σ[k]?=some (.mp (encW m))) (j:Nat) (a head:ByteArray) (n:Int) (bs:Nat) :
  callT T 25 [plA j [a] k n,.str head] bs σ=some (.tup [.agg [.str a,.str nilB,.str head],.bool (decide (head=a) || (lookW m a head).isSome)],σ):=by
 have hkl:k<σ.length:=(zqI.1 hk).1
 have hk2:∀ o o',(σ++[o,o'])[k]?=some (.mp (encW m)):=fun o o'=>by rw [zqA hkl]; exact hk
 have hh:=fun o o'=>has7 (hk2 o o') j [a] n a head
 simp only [plA,List.map_cons,List.map_nil] at hh
 refine heap_enter (args':=[plA j [a] k n,.str head]) (σ1:=σ) (af:=c25) rfl rfl (by simp [c25]) (by simp [c25]) rfl ?_
 by_cases he:head=a
 ·simp [c25,baseA,setRun,he,res1,dropA_gc,refLt]
  exact ⟨rfl,refLt2_bool _ _⟩
 ·simp [c25,baseA,setRun,he,hh,res1,dropA_gc,refLt]
  exact ⟨rfl,refLt2_bool _ _⟩
theorem con7 (l:List ByteArray) (s:ByteArray) (hl:l.length≤100000000000) (j:Nat) (bs:Nat) (σ:Heap):callT T 48 [.own j (l.map .str),.str s] bs σ=some (.bool (memB s l),σ):=by
 have h:=conS_ok l s hl
 have:=call_pure (T:=T) (f:=48) (bs:=bs) (σ:=σ) (σ':=σ) (args:=[.own j (l.map .str),.str s]) rfl rfl rfl (by simp [closeT,closeA,close1,close0]) (by simp) h
 exact this
theorem two7 {σ:Heap} {k:Nat} {m:List ((ByteArray × ByteArray) × Int)} (hk:σ[k]?=some (.mp (encW m))) (j:Nat) (a b head:ByteArray) (n:Int) (bs:Nat) :
  callT T 26 [plA j [a,b] k n,.str head] bs σ=some (match lookW m a b,lookW m b a with
   | none,none=>.tup [.agg [.str nilB,.str nilB,.str nilB],.bool false]
   | some _,none=>.tup [.agg [.str a,.str b,.str head],.bool (memB head [a,b])]
   | none,some _=>.tup [.agg [.str b,.str a,.str head],.bool (memB head [a,b])]
   | some i,some q=>if q<i then .tup [.agg [.str b,.str a,.str head],.bool (memB head [a,b])] else .tup [.agg [.str a,.str b,.str head],.bool (memB head [a,b])],σ):=by
 have hkl:k<σ.length:=(zqI.1 hk).1
 have hk2:∀ l,(σ++l)[k]?=some (.mp (encW m)):=fun l=>by rw [zqA hkl]; exact hk
 have hc:=con7 [a,b] head (by simp) j
 simp only [List.map_cons,List.map_nil] at hc
 refine heap_enter (args':=[plA j [a,b] k n,.str head]) (σ1:=σ) (af:=c26) rfl rfl (by simp [c26]) (by simp [c26]) rfl ?_
 cases e1:lookW m a b with
 | none=>
  cases e2:lookW m b a with
  | none=>
   simp [c26,baseA,setRun,mlook_w (hk2 _),e1,e2,res1,dropA_gc,refLt]
   exact ⟨rfl,refLt2_bool _ _⟩
  | some q=>
   simp [c26,baseA,setRun,mlook_w (hk2 _),e1,e2,hc,res1,dropA_gc,refLt]
   exact ⟨rfl,refLt2_bool _ _⟩
 | some i=>
  cases e2:lookW m b a with
  | none=>
   simp [c26,baseA,setRun,mlook_w (hk2 _),e1,e2,hc,res1,dropA_gc,refLt]
   exact ⟨rfl,refLt2_bool _ _⟩
  | some q=>
   by_cases hq:q<i
   ·simp [c26,baseA,setRun,mlook_w (hk2 _),e1,e2,hc,hq,res1,dropA_gc,refLt]
    exact ⟨rfl,refLt2_bool _ _⟩
   ·simp [c26,baseA,setRun,mlook_w (hk2 _),e1,e2,hc,hq,res1,dropA_gc,refLt]
    exact ⟨rfl,refLt2_bool _ _⟩
theorem conLO {N:Nat} {σ:Heap} {l:List ByteArray} {x:AV} (h:LO N 1 false σ (l.map .str) x) (s:ByteArray) (hl:l.length≤100000000000) (bs:Nat) (τ:Heap):callT T 48 [x,.str s] bs τ=some (.bool (memB s l),τ):=by
 have h1:=h.closeA τ
 have:=call_pure (T:=T) (f:=48) (bs:=bs) (σ:=τ) (σ':=τ) (args:=[x,.str s]) (args':=[.isl (l.map .str) false,.str s]) rfl rfl rfl (by simp [closeT,h1,close1,close0]) (by simp) (conS_ok l s hl)
 exact this
def ReadQ (σ:Heap) (o:Option RS) (r:AV × Heap):Prop:=
 σ.length+2≤r.2.length∧(∀ m,m<σ.length→r.2[m]?=σ[m]?)∧(match o with
  | none=>∃ x n,r.1=.tup [.agg [x,.map (σ.length+1),.int .i64 n],.bool false]∧x.cells=[x]∧x.solid=true
  | some s=>∃ x,r.1=.tup [.agg [x,.map (σ.length+1),.int .i64 (s.atoms:Int)],.bool (decide (0<s.atoms))]∧LO (σ.length+2) 1 false r.2 (s.all.map .str) x∧r.2[σ.length+1]?=some (.mp (encW s.links)))
structure ReadI (σ:Heap) (body:List GL) (i:Nat) (f:FR) (τ:Heap):Prop where
 h2:f 2=.ptr σ.length 0
 h12:f 12=.isl (body.map GL.enc) false
 h13:f 13=.int .i64 (body.length:Int)
 h14:f 14=.int .i64 (i:Int)
 len:σ.length+2≤τ.length
 frame:∀ m,m<σ.length→τ[m]?=σ[m]?
 st:∃ s x,readGo body 0 ⟨[],[],0⟩=readGo (body.drop i) i s∧s.atoms≤i∧s.all.length≤i∧τ[σ.length]?=some (.cells [x,.map (σ.length+1),.int .i64 (s.atoms:Int)] 0 false)∧τ[σ.length+1]?=some (.mp (encW s.links))∧LO (σ.length+2) 1 false τ (s.all.map .str) x
theorem step2 {s:RS} {l:GL} {a:GT} {i:Nat} (h:l.kind=2):stepR s l a i=⟨addB s.all a.name,s.links,s.atoms⟩:=by unfold stepR; rw [if_pos h]
theorem step1n {s:RS} {l:GL} {a:GT} {i:Nat} (h:l.kind=1) (hl:linkL l=false):stepR s l a i=⟨addB s.all a.name,s.links,s.atoms+1⟩:=by unfold stepR; rw [if_neg (by omega),hl]; rfl
theorem step1l {s:RS} {l:GL} {a:GT} {i:Nat} (h:l.kind=1) (hl:linkL l=true):stepR s l a i=⟨addB s.all a.name,setW s.links a.name (arg1 l) i,s.atoms+1⟩:=by unfold stepR; rw [if_neg (by omega),hl]; rfl
set_option maxHeartbeats 4000000 in
theorem read7 (body:List GL) (ha:∀ l∈body,l.kind=1∨l.kind=2→l.args≠[]) (hb:body.length≤100000000) (bs:Nat) (σ:Heap) (hbs:bs≤σ.length) :
  ∃ r,callT T 24 [.isl (body.map GL.enc) false] bs σ=some r∧ReadQ σ (readGo body 0 ⟨[],[],0⟩) r:=by
 refine heap_enterE (args':=[.isl (body.map GL.enc) false]) (σ1:=σ) (af:=c24) rfl rfl (by simp [c24]) (by simp [c24]) (by simp [closeArgs,c24]) ?_
 have hbs1:bs≤σ.length+1:=by omega
 simp [c24,baseA,hbs,hbs1]
 refine W_for T bs 98 body.length (ReadI σ body) ?_ _ _ ?_
 ·rintro i f τ hi ⟨h2,h12,h13,h14,hN,hall,s,x,hgo,hat,hal,cp,cm,hO⟩
  rw [hgo]
  have i0:σ.length<τ.length:=by omega
  have i1:σ.length+1<τ.length:=by omega
  have ix:x.cells=[x]:=hO.cells
  have iy:x.solid=true:=hO.solid
  have mlW:∀ (τ':Heap) (h:τ'[σ.length+1]?=some (.mp (encW s.links))) (a b:ByteArray),mlookA τ' true [2,2] (.int .i64 0) true (.map (σ.length+1)) (kW a b)=some (.tup [.int .i64 ((lookW s.links a b).getD 0),.bool (lookW s.links a b).isSome]):=fun τ' h a b=>mlook_w h a b
  have msW:∀ (τ':Heap) (h:τ'[σ.length+1]?=some (.mp (encW s.links))) (a b:ByteArray) (hn:lookW s.links a b=none),msetA τ' true [2,2] (.map (σ.length+1)) (kW a b) (.int .i64 i)=some (τ'.set (σ.length+1) (.mp (encW (setW s.links a b i)))):=fun τ' h a b hn=>mset_w h a b i hn
  by_cases hlt:i<body.length
  ·have hw:IntKind.i64.wrap ((i:Int)+1)=(i:Int)+1:=wr64 (by omega) (by omega)
   have e1:body[i]?=some body[i]:=zqF hlt
   rw [zqM hlt] at hgo ⊢
   simp only [readGo] at hgo ⊢
   have hbody:=zqT hlt
   have ha':=ha _ hbody
   generalize hl:body[i]=l at *
   by_cases hk:l.kind=1∨l.kind=2
   ·simp only [if_pos hk] at hgo ⊢
    cases hargs:l.args with
    | nil=>exact absurd hargs (ha' hk)
    | cons a rest=>
     simp only [hargs] at hgo ⊢
     have hal1:(addB s.all a.name).length≤i+1:=by
      unfold addB
      split
      ·omega
      ·simp; omega
     have hcon:=fun bs τ'=>conLO hO a.name (by omega) bs τ'
     have e0:GT.encs (a :: rest)=a.enc :: GT.encs rest:=rfl
     by_cases hav:a.kind=1
     ·simp only [if_pos hav] at hgo ⊢
      have hwa:IntKind.i64.wrap ((s.atoms:Int)+1)=(s.atoms:Int)+1:=wr64 (by omega) (by omega)
      rcases hk with hk | hk
      ·by_cases hm:memB a.name s.all=true
       ·have hadd:addB s.all a.name=s.all:=by unfold addB; rw [if_pos hm]
        rw [hadd] at hal1
        by_cases hln:l.name=sLink
        ·cases hrest:rest with
         | nil=>
          have hll:linkL l=false:=by unfold linkL; rw [hargs,hrest]; simp
          rw [step1n hk hll,hadd] at hgo ⊢
          simp [h2,h12,h13,h14,hlt,hw,setRun,e1,hk,hav,e0,hcon,cp,cm,i0,i1,hbs,hbs1,hargs,hwa,ix,iy,hm,hln,hrest,-appendA_s,-getElem?_pos,zqA,zqB,zqC,list_set_at,zqE,zqD]
          refine ⟨by simp [h2],by simp [h12],by simp [h13],by simp,by simp; omega,fun m hm=>?_,_,x,hgo,by simp only; omega,hal1,?_,?_,?_⟩
          ·simp [-getElem?_pos,zqA,zqB,zqC,list_set_at,zqE,zqD,(show m<τ.length by omega),(show σ.length≠m by omega),(show σ.length+1≠m by omega)]
           exact hall m hm
          ·simp [-getElem?_pos,zqA,zqB,zqC,list_set_at,zqE,zqD,i0,i1,cp,cm]
          ·simp [-getElem?_pos,zqA,zqB,zqC,list_set_at,zqE,zqD,i0,i1,cp,cm]
          ·refine hO.keep fun m o hm ho=>?_
           have hml:=(zqI.1 ho).1
           simp [-getElem?_pos,zqA,zqB,zqC,list_set_at,zqE,zqD,hml,(show σ.length≠m by omega),(show σ.length+1≠m by omega)]
           exact ho
         | cons b rest'=>
          have e3:GT.encs (b :: rest')=b.enc :: GT.encs rest':=rfl
          have hl2:(1:Int)<(rest'.length:Int)+1+1:=by omega
          by_cases hbk:b.kind=1
          ·have hll:linkL l=true:=by unfold linkL; rw [hargs,hrest,hln]; simp [hbk]
           have har:arg1 l=b.name:=by unfold arg1; rw [hargs,hrest]; rfl
           rw [step1l hk hll,har,hadd] at hgo ⊢
           cases hlook:lookW s.links a.name b.name with
           | some v=>
            have hset:setW s.links a.name b.name i=s.links:=by unfold setW; rw [hlook]; rfl
            rw [hset] at hgo ⊢
            simp [h2,h12,h13,h14,hlt,hw,setRun,e1,hk,hav,e0,hcon,cp,cm,i0,i1,hbs,hbs1,hargs,hwa,ix,iy,hm,hln,hrest,hbk,e3,hl2,hlook,mlW,-appendA_s,-getElem?_pos,zqA,zqB,zqC,list_set_at,zqE,zqD]
            refine ⟨by simp [h2],by simp [h12],by simp [h13],by simp,by simp; omega,fun m hm=>?_,_,x,hgo,by simp only; omega,hal1,?_,?_,?_⟩
            ·simp [-getElem?_pos,zqA,zqB,zqC,list_set_at,zqE,zqD,(show m<τ.length by omega),(show σ.length≠m by omega),(show σ.length+1≠m by omega)]
             exact hall m hm
            ·simp [-getElem?_pos,zqA,zqB,zqC,list_set_at,zqE,zqD,i0,i1,cp,cm]
            ·simp [-getElem?_pos,zqA,zqB,zqC,list_set_at,zqE,zqD,i0,i1,cp,cm]
            ·refine hO.keep fun m o hm ho=>?_
             have hml:=(zqI.1 ho).1
             simp [-getElem?_pos,zqA,zqB,zqC,list_set_at,zqE,zqD,hml,(show σ.length≠m by omega),(show σ.length+1≠m by omega)]
             exact ho
           | none=>
            simp [h2,h12,h13,h14,hlt,hw,setRun,e1,hk,hav,e0,hcon,cp,cm,i0,i1,hbs,hbs1,hargs,hwa,ix,iy,hm,hln,hrest,hbk,e3,hl2,hlook,mlW,msW,-appendA_s,-getElem?_pos,zqA,zqB,zqC,list_set_at,zqE,zqD]
            refine ⟨by simp [h2],by simp [h12],by simp [h13],by simp,by simp; omega,fun m hm=>?_,_,x,hgo,by simp only; omega,hal1,?_,?_,?_⟩
            ·simp [-getElem?_pos,zqA,zqB,zqC,list_set_at,zqE,zqD,(show m<τ.length by omega),(show σ.length≠m by omega),(show σ.length+1≠m by omega)]
             exact hall m hm
            ·simp [-getElem?_pos,zqA,zqB,zqC,list_set_at,zqE,zqD,i0,i1,cp,cm]
            ·simp [-getElem?_pos,zqA,zqB,zqC,list_set_at,zqE,zqD,i0,i1,cp,cm]
            ·refine hO.keep fun m o hm ho=>?_
             have hml:=(zqI.1 ho).1
             simp [-getElem?_pos,zqA,zqB,zqC,list_set_at,zqE,zqD,hml,(show σ.length≠m by omega),(show σ.length+1≠m by omega)]
             exact ho
          ·have hll:linkL l=false:=by unfold linkL; rw [hargs,hrest]; simp [hbk]
           rw [step1n hk hll,hadd] at hgo ⊢
           simp [h2,h12,h13,h14,hlt,hw,setRun,e1,hk,hav,e0,hcon,cp,cm,i0,i1,hbs,hbs1,hargs,hwa,ix,iy,hm,hln,hrest,hbk,e3,hl2,-appendA_s,-getElem?_pos,zqA,zqB,zqC,list_set_at,zqE,zqD]
           refine ⟨by simp [h2],by simp [h12],by simp [h13],by simp,by simp; omega,fun m hm=>?_,_,x,hgo,by simp only; omega,hal1,?_,?_,?_⟩
           ·simp [-getElem?_pos,zqA,zqB,zqC,list_set_at,zqE,zqD,(show m<τ.length by omega),(show σ.length≠m by omega),(show σ.length+1≠m by omega)]
            exact hall m hm
           ·simp [-getElem?_pos,zqA,zqB,zqC,list_set_at,zqE,zqD,i0,i1,cp,cm]
           ·simp [-getElem?_pos,zqA,zqB,zqC,list_set_at,zqE,zqD,i0,i1,cp,cm]
           ·refine hO.keep fun m o hm ho=>?_
            have hml:=(zqI.1 ho).1
            simp [-getElem?_pos,zqA,zqB,zqC,list_set_at,zqE,zqD,hml,(show σ.length≠m by omega),(show σ.length+1≠m by omega)]
            exact ho
        ·have hll:linkL l=false:=by unfold linkL; rw [decide_eq_false hln]; rfl
         rw [step1n hk hll,hadd] at hgo ⊢
         simp [h2,h12,h13,h14,hlt,hw,setRun,e1,hk,hav,e0,hcon,cp,cm,i0,i1,hbs,hbs1,hargs,hwa,ix,iy,hm,hln,-appendA_s,-getElem?_pos,zqA,zqB,zqC,list_set_at,zqE,zqD]
         refine ⟨by simp [h2],by simp [h12],by simp [h13],by simp,by simp; omega,fun m hm=>?_,_,x,hgo,by simp only; omega,hal1,?_,?_,?_⟩
         ·simp [-getElem?_pos,zqA,zqB,zqC,list_set_at,zqE,zqD,(show m<τ.length by omega),(show σ.length≠m by omega),(show σ.length+1≠m by omega)]
          exact hall m hm
         ·simp [-getElem?_pos,zqA,zqB,zqC,list_set_at,zqE,zqD,i0,i1,cp,cm]
         ·simp [-getElem?_pos,zqA,zqB,zqC,list_set_at,zqE,zqD,i0,i1,cp,cm]
         ·refine hO.keep fun m o hm ho=>?_
          have hml:=(zqI.1 ho).1
          simp [-getElem?_pos,zqA,zqB,zqC,list_set_at,zqE,zqD,hml,(show σ.length≠m by omega),(show σ.length+1≠m by omega)]
          exact ho
       ·have hm':memB a.name s.all=false:=by simpa using hm
        have hadd:addB s.all a.name=s.all++[a.name]:=by unfold addB; rw [if_neg hm]
        simp [h2,h12,h13,h14,hlt,hw,setRun,e1,hk,hav,e0,hcon,cp,cm,i0,i1,hbs,hbs1,hargs,hwa,ix,iy,hm',-appendA_s,-getElem?_pos,zqA,zqB,zqC,list_set_at,zqE,zqD]
        refine stW_s3 (N:=σ.length+2) hO rfl rfl rfl (by omega) hN (by simp; omega) fun x1 τ1 hO1 l1 q3 q4=>?_
        have np1:σ.length≠τ.length:=by omega
        have np2:σ.length≠τ.length+1:=by omega
        have np3:σ.length+1≠τ.length:=by omega
        have np4:σ.length+1≠τ.length+1:=by omega
        have j0:σ.length<τ1.length:=by omega
        have j1:σ.length+1<τ1.length:=by omega
        have ix1:x1.cells=[x1]:=hO1.cells
        have iy1:x1.solid=true:=hO1.solid
        have dp:τ1[σ.length]?=_:=(q3 _ (by omega)).trans cp
        have dm:τ1[σ.length+1]?=_:=(q3 _ (by omega)).trans cm
        have dl:τ1[τ.length]?=some (.cells [.int .i64 1,.str l.name,.isl (a.enc :: GT.encs rest) false] 0 false):=q4 τ.length _ (by simp) (fun _ _ e=>by cases e)
        have da:τ1[τ.length+1]?=some (.cells [.int .i64 1,.str a.name,.int .i64 a.value.kind,.int .i64 a.value.num,.str a.value.text,.isl (GV.encs a.value.items) false,.isl (GT.encs a.args) false] 0 false):=q4 (τ.length+1) _ (by simp) (fun _ _ e=>by cases e)
        rw [show s.all.map AV.str++[.str a.name]=(addB s.all a.name).map .str by rw [hadd,List.map_append]; rfl] at hO1
        by_cases hln:l.name=sLink
        ·cases hrest:rest with
         | nil=>
          have hll:linkL l=false:=by unfold linkL; rw [hargs,hrest]; simp
          rw [step1n hk hll] at hgo ⊢
          simp [h2,h12,h13,h14,hlt,hw,setRun,e1,hk,hav,e0,dp,dm,dl,da,j0,j1,np1,np2,np3,np4,hbs,hbs1,hargs,hwa,ix1,iy1,hm',hln,hrest,-appendA_s,-getElem?_pos,zqA,zqB,zqC,list_set_at,zqE,zqD]
          refine ⟨by simp [h2],by simp [h12],by simp [h13],by simp,by simp; omega,fun m hm=>?_,_,x1,hgo,by simp only; omega,hal1,?_,?_,?_⟩
          ·simp [-getElem?_pos,zqA,zqB,zqC,list_set_at,zqE,zqD,(show m<τ1.length by omega),(show σ.length≠m by omega),(show σ.length+1≠m by omega)]
           exact (q3 m (by omega)).trans (hall m hm)
          ·simp [-getElem?_pos,zqA,zqB,zqC,list_set_at,zqE,zqD,j0,j1,dp,dm]
          ·simp [-getElem?_pos,zqA,zqB,zqC,list_set_at,zqE,zqD,j0,j1,dp,dm]
          ·refine hO1.keep fun m o hm ho=>?_
           have hml:=(zqI.1 ho).1
           simp [-getElem?_pos,zqA,zqB,zqC,list_set_at,zqE,zqD,hml,(show σ.length≠m by omega),(show σ.length+1≠m by omega)]
           exact ho
         | cons b rest'=>
          have e3:GT.encs (b :: rest')=b.enc :: GT.encs rest':=rfl
          have hl2:(1:Int)<(rest'.length:Int)+1+1:=by omega
          by_cases hbk:b.kind=1
          ·have hll:linkL l=true:=by unfold linkL; rw [hargs,hrest,hln]; simp [hbk]
           have har:arg1 l=b.name:=by unfold arg1; rw [hargs,hrest]; rfl
           rw [step1l hk hll,har] at hgo ⊢
           cases hlook:lookW s.links a.name b.name with
           | some v=>
            have hset:setW s.links a.name b.name i=s.links:=by unfold setW; rw [hlook]; rfl
            rw [hset] at hgo ⊢
            simp [h2,h12,h13,h14,hlt,hw,setRun,e1,hk,hav,e0,dp,dm,dl,da,j0,j1,np1,np2,np3,np4,hbs,hbs1,hargs,hwa,ix1,iy1,hm',hln,hrest,hbk,e3,hl2,hlook,mlW,-appendA_s,-getElem?_pos,zqA,zqB,zqC,list_set_at,zqE,zqD]
            refine ⟨by simp [h2],by simp [h12],by simp [h13],by simp,by simp; omega,fun m hm=>?_,_,x1,hgo,by simp only; omega,hal1,?_,?_,?_⟩
            ·simp [-getElem?_pos,zqA,zqB,zqC,list_set_at,zqE,zqD,(show m<τ1.length by omega),(show σ.length≠m by omega),(show σ.length+1≠m by omega)]
             exact (q3 m (by omega)).trans (hall m hm)
            ·simp [-getElem?_pos,zqA,zqB,zqC,list_set_at,zqE,zqD,j0,j1,dp,dm]
            ·simp [-getElem?_pos,zqA,zqB,zqC,list_set_at,zqE,zqD,j0,j1,dp,dm]
            ·refine hO1.keep fun m o hm ho=>?_
             have hml:=(zqI.1 ho).1
             simp [-getElem?_pos,zqA,zqB,zqC,list_set_at,zqE,zqD,hml,(show σ.length≠m by omega),(show σ.length+1≠m by omega)]
             exact ho
           | none=>
            simp [h2,h12,h13,h14,hlt,hw,setRun,e1,hk,hav,e0,dp,dm,dl,da,j0,j1,np1,np2,np3,np4,hbs,hbs1,hargs,hwa,ix1,iy1,hm',hln,hrest,hbk,e3,hl2,hlook,mlW,msW,-appendA_s,-getElem?_pos,zqA,zqB,zqC,list_set_at,zqE,zqD]
            refine ⟨by simp [h2],by simp [h12],by simp [h13],by simp,by simp; omega,fun m hm=>?_,_,x1,hgo,by simp only; omega,hal1,?_,?_,?_⟩
            ·simp [-getElem?_pos,zqA,zqB,zqC,list_set_at,zqE,zqD,(show m<τ1.length by omega),(show σ.length≠m by omega),(show σ.length+1≠m by omega)]
             exact (q3 m (by omega)).trans (hall m hm)
            ·simp [-getElem?_pos,zqA,zqB,zqC,list_set_at,zqE,zqD,j0,j1,dp,dm]
            ·simp [-getElem?_pos,zqA,zqB,zqC,list_set_at,zqE,zqD,j0,j1,dp,dm]
            ·refine hO1.keep fun m o hm ho=>?_
             have hml:=(zqI.1 ho).1
             simp [-getElem?_pos,zqA,zqB,zqC,list_set_at,zqE,zqD,hml,(show σ.length≠m by omega),(show σ.length+1≠m by omega)]
             exact ho
          ·have hll:linkL l=false:=by unfold linkL; rw [hargs,hrest]; simp [hbk]
           rw [step1n hk hll] at hgo ⊢
           simp [h2,h12,h13,h14,hlt,hw,setRun,e1,hk,hav,e0,dp,dm,dl,da,j0,j1,np1,np2,np3,np4,hbs,hbs1,hargs,hwa,ix1,iy1,hm',hln,hrest,hbk,e3,hl2,-appendA_s,-getElem?_pos,zqA,zqB,zqC,list_set_at,zqE,zqD]
           refine ⟨by simp [h2],by simp [h12],by simp [h13],by simp,by simp; omega,fun m hm=>?_,_,x1,hgo,by simp only; omega,hal1,?_,?_,?_⟩
           ·simp [-getElem?_pos,zqA,zqB,zqC,list_set_at,zqE,zqD,(show m<τ1.length by omega),(show σ.length≠m by omega),(show σ.length+1≠m by omega)]
            exact (q3 m (by omega)).trans (hall m hm)
           ·simp [-getElem?_pos,zqA,zqB,zqC,list_set_at,zqE,zqD,j0,j1,dp,dm]
           ·simp [-getElem?_pos,zqA,zqB,zqC,list_set_at,zqE,zqD,j0,j1,dp,dm]
           ·refine hO1.keep fun m o hm ho=>?_
            have hml:=(zqI.1 ho).1
            simp [-getElem?_pos,zqA,zqB,zqC,list_set_at,zqE,zqD,hml,(show σ.length≠m by omega),(show σ.length+1≠m by omega)]
            exact ho
        ·have hll:linkL l=false:=by unfold linkL; rw [decide_eq_false hln]; rfl
         rw [step1n hk hll] at hgo ⊢
         simp [h2,h12,h13,h14,hlt,hw,setRun,e1,hk,hav,e0,dp,dm,dl,da,j0,j1,np1,np2,np3,np4,hbs,hbs1,hargs,hwa,ix1,iy1,hm',hln,-appendA_s,-getElem?_pos,zqA,zqB,zqC,list_set_at,zqE,zqD]
         refine ⟨by simp [h2],by simp [h12],by simp [h13],by simp,by simp; omega,fun m hm=>?_,_,x1,hgo,by simp only; omega,hal1,?_,?_,?_⟩
         ·simp [-getElem?_pos,zqA,zqB,zqC,list_set_at,zqE,zqD,(show m<τ1.length by omega),(show σ.length≠m by omega),(show σ.length+1≠m by omega)]
          exact (q3 m (by omega)).trans (hall m hm)
         ·simp [-getElem?_pos,zqA,zqB,zqC,list_set_at,zqE,zqD,j0,j1,dp,dm]
         ·simp [-getElem?_pos,zqA,zqB,zqC,list_set_at,zqE,zqD,j0,j1,dp,dm]
         ·refine hO1.keep fun m o hm ho=>?_
          have hml:=(zqI.1 ho).1
          simp [-getElem?_pos,zqA,zqB,zqC,list_set_at,zqE,zqD,hml,(show σ.length≠m by omega),(show σ.length+1≠m by omega)]
          exact ho
      ·by_cases hm:memB a.name s.all=true
       ·have hadd:addB s.all a.name=s.all:=by unfold addB; rw [if_pos hm]
        rw [hadd] at hal1
        rw [step2 hk,hadd] at hgo ⊢
        simp [h2,h12,h13,h14,hlt,hw,setRun,e1,hk,hav,e0,hcon,cp,cm,i0,i1,hbs,hbs1,hargs,hwa,ix,iy,hm,-appendA_s,-getElem?_pos,zqA,zqB,zqC,list_set_at,zqE,zqD]
        refine ⟨by simp [h2],by simp [h12],by simp [h13],by simp,by simp; omega,fun m hm=>?_,_,x,hgo,by simp only; omega,hal1,?_,?_,?_⟩
        ·simp [-getElem?_pos,zqA,zqB,zqC,list_set_at,zqE,zqD,(show m<τ.length by omega),(show σ.length≠m by omega),(show σ.length+1≠m by omega)]
         exact hall m hm
        ·simp [-getElem?_pos,zqA,zqB,zqC,list_set_at,zqE,zqD,i0,i1,cp,cm]
        ·simp [-getElem?_pos,zqA,zqB,zqC,list_set_at,zqE,zqD,i0,i1,cp,cm]
        ·refine hO.keep fun m o hm ho=>?_
         have hml:=(zqI.1 ho).1
         simp [-getElem?_pos,zqA,zqB,zqC,list_set_at,zqE,zqD,hml,(show σ.length≠m by omega),(show σ.length+1≠m by omega)]
         exact ho
       ·have hm':memB a.name s.all=false:=by simpa using hm
        have hadd:addB s.all a.name=s.all++[a.name]:=by unfold addB; rw [if_neg hm]
        simp [h2,h12,h13,h14,hlt,hw,setRun,e1,hk,hav,e0,hcon,cp,cm,i0,i1,hbs,hbs1,hargs,hwa,ix,iy,hm',-appendA_s,-getElem?_pos,zqA,zqB,zqC,list_set_at,zqE,zqD]
        refine stW_s3 (N:=σ.length+2) hO rfl rfl rfl (by omega) hN (by simp; omega) fun x1 τ1 hO1 l1 q3 q4=>?_
        have np1:σ.length≠τ.length:=by omega
        have np2:σ.length≠τ.length+1:=by omega
        have np3:σ.length+1≠τ.length:=by omega
        have np4:σ.length+1≠τ.length+1:=by omega
        have j0:σ.length<τ1.length:=by omega
        have j1:σ.length+1<τ1.length:=by omega
        have ix1:x1.cells=[x1]:=hO1.cells
        have iy1:x1.solid=true:=hO1.solid
        have dp:τ1[σ.length]?=_:=(q3 _ (by omega)).trans cp
        have dm:τ1[σ.length+1]?=_:=(q3 _ (by omega)).trans cm
        have dl:τ1[τ.length]?=some (.cells [.int .i64 2,.str l.name,.isl (a.enc :: GT.encs rest) false] 0 false):=q4 τ.length _ (by simp) (fun _ _ e=>by cases e)
        have da:τ1[τ.length+1]?=some (.cells [.int .i64 1,.str a.name,.int .i64 a.value.kind,.int .i64 a.value.num,.str a.value.text,.isl (GV.encs a.value.items) false,.isl (GT.encs a.args) false] 0 false):=q4 (τ.length+1) _ (by simp) (fun _ _ e=>by cases e)
        rw [show s.all.map AV.str++[.str a.name]=(addB s.all a.name).map .str by rw [hadd,List.map_append]; rfl] at hO1
        rw [step2 hk] at hgo ⊢
        simp [h2,h12,h13,h14,hlt,hw,setRun,hk,dp,dm,dl,da,j0,j1,np1,np2,np3,np4,hbs,hbs1,ix1,iy1,-appendA_s,-getElem?_pos,zqA,zqB,zqC,list_set_at,zqE,zqD]
        refine ⟨by simp [h2],by simp [h12],by simp [h13],by simp,by simp; omega,fun m hm=>?_,_,x1,hgo,by simp only; omega,hal1,?_,?_,?_⟩
        ·simp [-getElem?_pos,zqA,zqB,zqC,list_set_at,zqE,zqD,(show m<τ1.length by omega),(show σ.length≠m by omega),(show σ.length+1≠m by omega)]
         exact (q3 m (by omega)).trans (hall m hm)
        ·simp [-getElem?_pos,zqA,zqB,zqC,list_set_at,zqE,zqD,j0,j1,dp,dm]
        ·simp [-getElem?_pos,zqA,zqB,zqC,list_set_at,zqE,zqD,j0,j1,dp,dm]
        ·refine hO1.keep fun m o hm ho=>?_
         have hml:=(zqI.1 ho).1
         simp [-getElem?_pos,zqA,zqB,zqC,list_set_at,zqE,zqD,hml,(show σ.length≠m by omega),(show σ.length+1≠m by omega)]
         exact ho
     ·simp only [if_neg hav] at hgo ⊢
      rcases hk with hk | hk <;> simp [h2,h12,h13,h14,hlt,hw,setRun,e1,hk,hav,e0,hargs,cp,cm,i0,i1,hbs,hbs1,ix,iy,-getElem?_pos,zqA,zqB,zqC,list_set_at,zqE,zqD]
      all_goals
       refine ⟨by simp; omega,fun m hm=>?_,x,_,rfl,ix,iy⟩
       have hm1:m<τ.length:=by omega
       simp [-getElem?_pos,zqA,zqB,zqC,list_set_at,zqE,zqD,hm1,(show σ.length≠m by omega)]
       exact hall m hm
   ·simp only [if_neg hk] at hgo ⊢
    have k1:¬ l.kind=1:=fun e=>hk (.inl e)
    have k2:¬ l.kind=2:=fun e=>hk (.inr e)
    simp [h2,h12,h13,h14,hlt,hw,k1,k2,setRun,e1,i0,i1,-getElem?_pos,zqA,zqB,zqC,list_set_at,zqE,zqD]
    refine ⟨by simp [h2],by simp [h12],by simp [h13],by simp,by simp; omega,fun m hm=>?_,s,x,hgo,by omega,by omega,?_,?_,?_⟩
    ·rw [zqA (by omega)]; exact hall m hm
    ·rw [zqA (by omega)]; exact cp
    ·rw [zqA (by omega)]; exact cm
    ·exact hO.keep fun m o _ ho=>by rw [zqA (zqI.1 ho).1]; exact ho
  ·have he:i=body.length:=by omega
   subst he
   rw [List.drop_length]
   simp [h2,h12,h13,h14,cp,i0,hbs,ix,iy,setRun,readGo,-getElem?_pos,zqA,zqB,zqC,list_set_at,zqE,zqD]
   have hfr:∀ o m,m<σ.length→(τ.set σ.length o)[m]?=σ[m]?:=fun o m hm=>by rw [zqC (by omega)]; exact hall m hm
   have hOk:∀ o,LO (σ.length+2) 1 false (τ.set σ.length o) (s.all.map .str) x:=fun o=>hO.keep fun m q hm ho=>by rw [zqC (by omega)]; exact ho
   have hmk:∀ o,(τ.set σ.length o)[σ.length+1]?=some (.mp (encW s.links)):=fun o=>by rw [zqC (by omega)]; exact cm
   refine ⟨fun h0=>⟨by simp; omega,hfr _,x,by simp [h0],hOk _,hmk _⟩,fun h0=>⟨by simp; omega,hfr _,x,by simp [h0],hOk _,hmk _⟩⟩
 ·refine ⟨by simp,by simp,by simp,by simp,by simp,fun m hm=>?_,⟨[],[],0⟩,.isl [] true,rfl,Nat.le_refl _,Nat.le_refl _,?_,?_,.inl ⟨rfl,rfl⟩⟩
  ·rw [zqA hm]
  ·simp
  ·simp [encW]
end Go.Proofs.YtjfgjnlocadpbaaGreatDoor
end
section
set_option maxRecDepth 100000
namespace Go.Proofs.YtjfgjnlocadpbaaGreatDoor
open Go.Mach
theorem text_empty (r:GR):textRule r=nilB↔¬ ruleB r=true:=by
 unfold textRule
 split
 ·rename_i h
  constructor
  ·intro e
   exfalso
   have h1:(S (shRule r)).data.toList=nilB.data.toList:=by rw [e]
   have h2:(S (shRule r)).data.toList=shRule r:=by simp [S]
   rw [h2] at h1
   unfold shRule at h1
   simp at h1
  ·exact fun e=>absurd h e
 ·rename_i h
  exact ⟨fun _=>h,fun _=>rfl⟩
theorem lit_args {l:GL} (h:litB l=true) (hk:l.kind=1∨l.kind=2):l.args≠[]:=by
 obtain ⟨⟨t,ht⟩,_⟩:=lit_names h hk
 intro e; rw [e] at ht; cases ht
theorem add_ne (b:List ByteArray) (n:ByteArray):addB b n≠[]:=by
 unfold addB
 split
 ·rename_i h; intro e; rw [e] at h; cases h
 ·simp
def resPl (o:Option GPl):AV:=.tup [(o.getD nilPl).enc,.bool o.isSome]
set_option maxHeartbeats 4000000 in
theorem place7 (r:GR) (hs:r.size≤100000000):pureT T c10 [r.enc]=some (resPl (placeP r)):=by
 have hsay:=sayRule r (by omega)
 have hte:=text_empty r
 have hbl:=GR.body_len r
 simp only [GR.enc_eq] at hsay
 apply pure_enter (by simp [c10])
 by_cases hb:ruleB r=true
 ·have ht:¬ textRule r=nilB:=fun e=>hte.1 e hb
  have hlit:∀ l∈r.body,litB l=true:=by
   unfold ruleB at hb
   simp only [zqL] at hb
   exact zqQ.1 hb.1.2
  have hargs:∃ a rest,r.args=a :: rest:=by
   unfold ruleB argsB at hb
   simp only [zqL,decide_eq_true_eq] at hb
   cases h:r.args with
   | nil=>rw [h] at hb; simp at hb
   | cons a rest=>exact ⟨a,rest,rfl⟩
  obtain ⟨a,rest,har⟩:=hargs
  have e0:GT.encs (a :: rest)=a.enc :: GT.encs rest:=rfl
  rw [har,e0] at hsay
  by_cases hh:r.head=sLink
  ·have hp:placeP r=none:=by unfold placeP; rw [if_neg (fun h=>h.2.1 hh)]
   rw [hp]
   simp [c10,har,e0,hsay,ht,eq_true hh,setRun,resPl,nilPl,GPl.enc]
  ·by_cases hk:a.kind=1
   ·have hc:ruleB r=true∧r.head≠sLink∧headK r=1:=⟨hb,hh,by unfold headK; rw [har]; simp [hk]⟩
    have hn:headN r=a.name:=by unfold headN; rw [har]; rfl
    obtain ⟨⟨v,σ1⟩,hcall,hl1,hfr,hq⟩:=read7 r.body (fun l hl hk=>lit_args (hlit l hl) hk) (by omega) 0 [.cells [.str r.label,.str r.head,.isl (a.enc :: GT.encs rest) false,.str r.agg,.int .i64 r.pos,.isl (r.body.map GL.enc) false] 0 false,.cells [.str nilB,.str nilB,.str nilB] 0 false] (by omega)
    simp at hl1
    simp only at hfr hq
    have f0:σ1[0]?=some (.cells [.str r.label,.str r.head,.isl (a.enc :: GT.encs rest) false,.str r.agg,.int .i64 r.pos,.isl (r.body.map GL.enc) false] 0 false):=by rw [hfr 0 (by simp)]; rfl
    have f1:σ1[1]?=some (.cells [.str nilB,.str nilB,.str nilB] 0 false):=by rw [hfr 1 (by simp)]; rfl
    have n0:0<σ1.length:=by omega
    have n1:1<σ1.length:=by omega
    cases hg:readGo r.body 0 ⟨[],[],0⟩ with
    | none=>
     have hp:placeP r=none:=by unfold placeP readP; rw [if_pos hc,hg]
     rw [hp]
     rw [hg] at hq
     obtain ⟨x,n,hv,hx1,hx2⟩:=hq
     subst hv
     simp [c10,hsay,ht,hh,hk,har,e0,hcall,setRun,resPl,nilPl,GPl.enc,hx1,hx2,-getElem?_pos,zqA,zqB,zqC,list_set_at,zqE,zqD,n0,n1,f0,f1]
     done
    | some s=>
     rw [hg] at hq
     obtain ⟨x,hv,hO,hm⟩:=hq
     subst hv
     have n3:3<σ1.length:=by omega
     have hm3:σ1[3]?=some (.mp (encW s.links)):=hm
     have hm4:∀ o:AObj,(σ1++[o])[3]?=some (.mp (encW s.links)):=fun o=>by rw [zqA n3]; exact hm3
     by_cases hat:0<s.atoms
     ·have hrp:readP r.body=some s:=by unfold readP; rw [hg]; simp only [if_pos hat]
      have hpl:placeP r=match placeQ s a.name with
        | none=>none
        | some p=>if aggOk r p=true then some p else none:=by unfold placeP; rw [if_pos hc,hrp,hn] <;> rfl
      rcases hO with ⟨hnil,rfl⟩ | ⟨j,rfl,_,_,_⟩
      ·have hall:s.all=[]:=by simpa using hnil
       have hq0:placeQ s a.name=none:=by unfold placeQ; rw [hall]
       rw [hq0] at hpl
       rw [hpl]
       simp [c10,hsay,ht,hh,hk,har,e0,hcall,setRun,n0,n1,f0,f1,-getElem?_pos,zqA,zqB,zqC,list_set_at,zqE,zqD,hat,resPl,nilPl,GPl.enc]
      ·match hall:s.all with
       | []=>
        have hq0:placeQ s a.name=none:=by unfold placeQ; rw [hall]
        rw [hq0] at hpl
        rw [hpl]
        simp [c10,hsay,ht,hh,hk,har,e0,hcall,setRun,n0,n1,f0,f1,-getElem?_pos,zqA,zqB,zqC,list_set_at,zqE,zqD,hat,hall,resPl,nilPl,GPl.enc]
       | [b]=>
        have hone:=fun o bs=>one7 (hm4 o) j b a.name (s.atoms:Int) bs
        simp only [plA,List.map_cons,List.map_nil] at hone
        have hq0:placeQ s a.name=oneP s b a.name:=by unfold placeQ; rw [hall]
        rw [hq0] at hpl
        unfold oneP at hpl
        by_cases hok:a.name=b∨(lookW s.links b a.name).isSome=true
        ·rw [if_pos hok] at hpl
         have hok':(decide (a.name=b) || (lookW s.links b a.name).isSome)=true:=by simpa using hok
         rw [hok'] at hone
         by_cases hag:r.agg=nilB
         ·have hpl2:placeP r=some ⟨b,nilB,a.name⟩:=by rw [hpl]; simp [aggOk,hag]
          rw [hpl2]
          simp [c10,hsay,ht,hh,hk,har,e0,hcall,setRun,n0,n1,f0,f1,-getElem?_pos,zqA,zqB,zqC,list_set_at,zqE,zqD,hat,hall,hone,eq_true hag,resPl,GPl.enc]
          done
         ·by_cases hhb:a.name=b
          ·have hpl2:placeP r=some ⟨b,nilB,a.name⟩:=by rw [hpl]; simp [aggOk,hag,hhb]
           rw [hpl2]
           simp [c10,hsay,ht,hh,hk,har,e0,hcall,setRun,n0,n1,f0,f1,-getElem?_pos,zqA,zqB,zqC,list_set_at,zqE,zqD,hat,hall,hone,hag,eq_true hhb,resPl,GPl.enc]
           done
          ·have hpl2:placeP r=none:=by rw [hpl]; simp [aggOk,hag,hhb]
           rw [hpl2]
           simp [c10,hsay,ht,hh,hk,har,e0,hcall,setRun,n0,n1,f0,f1,-getElem?_pos,zqA,zqB,zqC,list_set_at,zqE,zqD,hat,hall,hone,hag,hhb,resPl,nilPl,GPl.enc]
           done
        ·rw [if_neg hok] at hpl
         have hok':(decide (a.name=b) || (lookW s.links b a.name).isSome)=false:=by
          cases h:(decide (a.name=b) || (lookW s.links b a.name).isSome) with
          | false=>rfl
          | true=>exact absurd (by simpa using h) hok
         rw [hok'] at hone
         rw [hpl]
         simp [c10,hsay,ht,hh,hk,har,e0,hcall,setRun,n0,n1,f0,f1,-getElem?_pos,zqA,zqB,zqC,list_set_at,zqE,zqD,hat,hall,hone,resPl,nilPl,GPl.enc]
         done
       | [b,c]=>
        have hne:=names_ne hb hrp
        have htw:=fun o bs=>two7 (hm4 o) j b c a.name (s.atoms:Int) bs
        simp only [plA,List.map_cons,List.map_nil] at htw
        have hq0:placeQ s a.name=twoP s b c a.name:=by unfold placeQ; rw [hall]
        rw [hq0] at hpl
        unfold twoP at hpl
        cases e1:lookW s.links b c with
        | none=>
         cases e2:lookW s.links c b with
         | none=>
          rw [e1,e2] at hpl
          simp only [e1,e2] at htw
          rw [hpl]
          simp [c10,hsay,ht,hh,hk,har,e0,hcall,setRun,n0,n1,f0,f1,-getElem?_pos,zqA,zqB,zqC,list_set_at,zqE,zqD,hat,hall,htw,resPl,nilPl,GPl.enc]
         | some q=>
          rw [e1,e2] at hpl
          simp only [e1,e2] at htw
          simp only at hpl
          have hnt:¬ b=nilB:=hne b (by rw [hall]; simp)
          by_cases hmem:a.name=b∨a.name=c
          ·have hmb:memB a.name [b,c]=true:=by unfold memB; simpa using hmem
           rw [hmb] at htw
           rw [if_pos hmem] at hpl
           by_cases hag:r.agg=nilB
           ·have hpl2:placeP r=some ⟨c,b,a.name⟩:=by rw [hpl]; simp [aggOk,hag]
            rw [hpl2]
            simp [c10,hsay,ht,hh,hk,har,e0,hcall,setRun,n0,n1,f0,f1,-getElem?_pos,zqA,zqB,zqC,list_set_at,zqE,zqD,hat,hall,htw,eq_true hag,resPl,GPl.enc]
           ·have hpl2:placeP r=none:=by rw [hpl]; simp [aggOk,hag,hnt]
            rw [hpl2]
            simp [c10,hsay,ht,hh,hk,har,e0,hcall,setRun,n0,n1,f0,f1,-getElem?_pos,zqA,zqB,zqC,list_set_at,zqE,zqD,hat,hall,htw,hag,hnt,resPl,nilPl,GPl.enc]
          ·have hmb:memB a.name [b,c]=false:=by
            cases h:memB a.name [b,c] with
            | false=>rfl
            | true=>exact absurd (by unfold memB at h; simpa using h) hmem
           rw [hmb] at htw
           rw [if_neg hmem] at hpl
           rw [hpl]
           simp [c10,hsay,ht,hh,hk,har,e0,hcall,setRun,n0,n1,f0,f1,-getElem?_pos,zqA,zqB,zqC,list_set_at,zqE,zqD,hat,hall,htw,resPl,nilPl,GPl.enc]
        | some i=>
         cases e2:lookW s.links c b with
         | none=>
          rw [e1,e2] at hpl
          simp only [e1,e2] at htw
          simp only at hpl
          have hnt:¬ c=nilB:=hne c (by rw [hall]; simp)
          by_cases hmem:a.name=b∨a.name=c
          ·have hmb:memB a.name [b,c]=true:=by unfold memB; simpa using hmem
           rw [hmb] at htw
           rw [if_pos hmem] at hpl
           by_cases hag:r.agg=nilB
           ·have hpl2:placeP r=some ⟨b,c,a.name⟩:=by rw [hpl]; simp [aggOk,hag]
            rw [hpl2]
            simp [c10,hsay,ht,hh,hk,har,e0,hcall,setRun,n0,n1,f0,f1,-getElem?_pos,zqA,zqB,zqC,list_set_at,zqE,zqD,hat,hall,htw,eq_true hag,resPl,GPl.enc]
           ·have hpl2:placeP r=none:=by rw [hpl]; simp [aggOk,hag,hnt]
            rw [hpl2]
            simp [c10,hsay,ht,hh,hk,har,e0,hcall,setRun,n0,n1,f0,f1,-getElem?_pos,zqA,zqB,zqC,list_set_at,zqE,zqD,hat,hall,htw,hag,hnt,resPl,nilPl,GPl.enc]
          ·have hmb:memB a.name [b,c]=false:=by
            cases h:memB a.name [b,c] with
            | false=>rfl
            | true=>exact absurd (by unfold memB at h; simpa using h) hmem
           rw [hmb] at htw
           rw [if_neg hmem] at hpl
           rw [hpl]
           simp [c10,hsay,ht,hh,hk,har,e0,hcall,setRun,n0,n1,f0,f1,-getElem?_pos,zqA,zqB,zqC,list_set_at,zqE,zqD,hat,hall,htw,resPl,nilPl,GPl.enc]
         | some q=>
          rw [e1,e2] at hpl
          simp only [e1,e2] at htw
          simp only at hpl
          by_cases hqi:q<i
          ·simp only [if_pos hqi] at htw hpl
           have hnt:¬ b=nilB:=hne b (by rw [hall]; simp)
           by_cases hmem:a.name=b∨a.name=c
           ·have hmb:memB a.name [b,c]=true:=by unfold memB; simpa using hmem
            rw [hmb] at htw
            rw [if_pos hmem] at hpl
            by_cases hag:r.agg=nilB
            ·have hpl2:placeP r=some ⟨c,b,a.name⟩:=by rw [hpl]; simp [aggOk,hag]
             rw [hpl2]
             simp [c10,hsay,ht,hh,hk,har,e0,hcall,setRun,n0,n1,f0,f1,-getElem?_pos,zqA,zqB,zqC,list_set_at,zqE,zqD,hat,hall,htw,eq_true hag,resPl,GPl.enc]
            ·have hpl2:placeP r=none:=by rw [hpl]; simp [aggOk,hag,hnt]
             rw [hpl2]
             simp [c10,hsay,ht,hh,hk,har,e0,hcall,setRun,n0,n1,f0,f1,-getElem?_pos,zqA,zqB,zqC,list_set_at,zqE,zqD,hat,hall,htw,hag,hnt,resPl,nilPl,GPl.enc]
           ·have hmb:memB a.name [b,c]=false:=by
             cases h:memB a.name [b,c] with
             | false=>rfl
             | true=>exact absurd (by unfold memB at h; simpa using h) hmem
            rw [hmb] at htw
            rw [if_neg hmem] at hpl
            rw [hpl]
            simp [c10,hsay,ht,hh,hk,har,e0,hcall,setRun,n0,n1,f0,f1,-getElem?_pos,zqA,zqB,zqC,list_set_at,zqE,zqD,hat,hall,htw,resPl,nilPl,GPl.enc]
          ·simp only [if_neg hqi] at htw hpl
           have hnt:¬ c=nilB:=hne c (by rw [hall]; simp)
           by_cases hmem:a.name=b∨a.name=c
           ·have hmb:memB a.name [b,c]=true:=by unfold memB; simpa using hmem
            rw [hmb] at htw
            rw [if_pos hmem] at hpl
            by_cases hag:r.agg=nilB
            ·have hpl2:placeP r=some ⟨b,c,a.name⟩:=by rw [hpl]; simp [aggOk,hag]
             rw [hpl2]
             simp [c10,hsay,ht,hh,hk,har,e0,hcall,setRun,n0,n1,f0,f1,-getElem?_pos,zqA,zqB,zqC,list_set_at,zqE,zqD,hat,hall,htw,eq_true hag,resPl,GPl.enc]
            ·have hpl2:placeP r=none:=by rw [hpl]; simp [aggOk,hag,hnt]
             rw [hpl2]
             simp [c10,hsay,ht,hh,hk,har,e0,hcall,setRun,n0,n1,f0,f1,-getElem?_pos,zqA,zqB,zqC,list_set_at,zqE,zqD,hat,hall,htw,hag,hnt,resPl,nilPl,GPl.enc]
           ·have hmb:memB a.name [b,c]=false:=by
             cases h:memB a.name [b,c] with
             | false=>rfl
             | true=>exact absurd (by unfold memB at h; simpa using h) hmem
            rw [hmb] at htw
            rw [if_neg hmem] at hpl
            rw [hpl]
            simp [c10,hsay,ht,hh,hk,har,e0,hcall,setRun,n0,n1,f0,f1,-getElem?_pos,zqA,zqB,zqC,list_set_at,zqE,zqD,hat,hall,htw,resPl,nilPl,GPl.enc]
       | b :: c :: d :: rest2=>
        have hq0:placeQ s a.name=none:=by unfold placeQ; rw [hall]
        rw [hq0] at hpl
        rw [hpl]
        have l1:¬ ((rest2.length:Int)+1+1+1=1):=by omega
        have l2:¬ ((rest2.length:Int)+1+1+1=2):=by omega
        simp [c10,hsay,ht,hh,hk,har,e0,hcall,setRun,n0,n1,f0,f1,-getElem?_pos,zqA,zqB,zqC,list_set_at,zqE,zqD,hat,hall,l1,l2,resPl,nilPl,GPl.enc]
        done
     ·have hrp:readP r.body=none:=by unfold readP; rw [hg]; simp only [if_neg hat]
      have hpl:placeP r=none:=by unfold placeP; rw [if_pos hc,hrp]
      rw [hpl]
      simp [c10,hsay,ht,hh,hk,har,e0,hcall,setRun,n0,n1,f0,f1,-getElem?_pos,zqA,zqB,zqC,list_set_at,zqE,zqD,hat,hO.solid,hO.cells,resPl,nilPl,GPl.enc]
   ·have hp:placeP r=none:=by unfold placeP; rw [if_neg (fun h=>hk (by have:=h.2.2; unfold headK at this; rw [har] at this; simpa using this))]
    rw [hp]
    simp [c10,hsay,ht,hh,hk,har,e0,setRun,resPl,nilPl,GPl.enc]
 ·have ht:textRule r=nilB:=hte.2 hb
  have hp:placeP r=none:=by unfold placeP; rw [if_neg (fun h=>hb h.1)]
  rw [hp]
  simp [c10,hsay,ht,setRun,resPl,nilPl,GPl.enc]
end Go.Proofs.YtjfgjnlocadpbaaGreatDoor
end
section
set_option maxRecDepth 100000
namespace Go.Proofs.YtjfgjnlocadpbaaGreatDoor
open Go.Mach
theorem callPlace (r:GR) (hs:r.size≤100000000) (bs:Nat) (σ:Heap):callT T 10 [r.enc] bs σ=some (resPl (placeP r),σ):=call_clean rfl rfl rfl (by simp) (place7 r hs)
theorem awake7_eval:evalFn T 300 8 [] 0 []=some (.bool true,[]):=by kernel_rfl
theorem awake7_ok:pureT T c8 []=some (.bool true):=pureT_of_call rfl rfl rfl rfl (callT_of_eval awake7_eval)
theorem callAwake7 (bs:Nat) (σ:Heap):callT T 8 [] bs σ=some (.bool true,σ):=call_clean rfl rfl rfl rfl awake7_ok
end Go.Proofs.YtjfgjnlocadpbaaGreatDoor
end
section
set_option maxRecDepth 100000
namespace Go.Proofs.YtjfgjnlocadpbaaGreatDoor
open Go.Mach
def lostB (r:GR):Bool:=(placeP r).isNone
def checkL (p:GP):Int × Int:=if (checkP p).1≠0 then checkP p else if 0≤idxG lostB p.rules then (70,idxG lostB p.rules) else (0,-1)
theorem lost7 (r:GR) (hs:r.size≤100000000):pureT T c37 [r.enc]=some (.bool (lostB r)):=by
 have hp:=callPlace r hs
 apply pure_enter (by simp [c37])
 unfold lostB
 simp only [GR.enc_eq] at hp
 cases h:placeP r with
 | none=>rw [h] at hp; simp [c37,hp,resPl,nilPl,GPl.enc,setRun]
 | some q=>rw [h] at hp; simp [c37,hp,resPl,GPl.enc,setRun]
theorem callLost (r:GR) (hs:r.size≤100000000) (bs:Nat) (σ:Heap):callT T 37 [r.enc] bs σ=some (.bool (lostB r),σ):=call_clean rfl rfl rfl (by simp) (lost7 r hs)
theorem check7 (p:GP) (hp:p.size≤1000000000) (hr:∀ r∈p.rules,r.size≤100000000) (hl:p.rules.length≤100000000):pureT T c16 [p.enc]=some (res2 (checkL p)):=by
 have hck:=callCheck p hp
 have hi:=fun σ=>idxRule lostB p.rules 37 [] (by omega) σ fun x hx bs=>callLost x (hr x hx) bs σ
 simp only [GP.enc_eq] at hck
 obtain ⟨⟨e,n⟩,hen⟩:∃ x,checkP p=x:=⟨_,rfl⟩
 rw [hen] at hck
 unfold checkL
 rw [hen]
 apply pure_enter (by simp [c16])
 by_cases h0:e=0
 ·by_cases h1:0≤idxG lostB p.rules
  ·simp [c16,hck,hi,h0,h1,setRun,GP.enc_eq]
  ·simp [c16,hck,hi,h0,h1,setRun,GP.enc_eq]
 ·simp [c16,hck,hi,h0,setRun,GP.enc_eq]
theorem callCheckL (p:GP) (hp:p.size≤1000000000) (hr:∀ r∈p.rules,r.size≤100000000) (hl:p.rules.length≤100000000) (bs:Nat) (σ:Heap):callT T 16 [p.enc] bs σ=some (res2 (checkL p),σ):=call_clean rfl rfl rfl (by simp) (check7 p hp hr hl)
theorem idx_at {l:List GR} {i:Nat} (hi:i<l.length) (h:∀ j,(hj:j<l.length)→j<i→lostB l[j]=false) (hp:lostB l[i]=true):idxG lostB l=(i:Int):=by
 unfold idxG; rw [idxG_drop lostB l i hi h hp]
theorem idx_none {l:List GR} (h:∀ j,(hj:j<l.length)→lostB l[j]=false):idxG lostB l=-1:=by
 unfold idxG
 have:l.findIdx? lostB=none:=by
  rw [List.findIdx?_eq_none_iff]
  intro x hx
  obtain ⟨j,hj,rfl⟩:=zqS hx
  exact h j hj
 rw [this]
end Go.Proofs.YtjfgjnlocadpbaaGreatDoor
end
section
set_option maxRecDepth 100000
namespace Go.Proofs.YtjfgjnlocadpbaaGreatDoor
open Go.Mach
def nub (ns:List ByteArray):List ByteArray:=ns.foldl addB []
def encN (b:List ByteArray):AV:=.isl (b.map .str) false
theorem mem_fold7:∀ (ns b:List ByteArray) (m:ByteArray),m∈ns.foldl addB b↔m∈b∨m∈ns
 | [],b,m=>by simp
 | n :: ns,b,m=>by rw [List.foldl_cons,mem_fold7 ns,mem_addB7]; simp [or_assoc]
theorem fold_len7:∀ (ns b:List ByteArray),(ns.foldl addB b).length≤b.length+ns.length
 | [],b=>by simp
 | n :: ns,b=>by
  rw [List.foldl_cons]
  have:=fold_len7 ns (addB b n)
  have h2:(addB b n).length≤b.length+1:=by unfold addB; split <;> simp
  simp only [zqU]; omega
theorem nub_len7 (ns:List ByteArray):(nub ns).length≤ns.length:=by have:=fold_len7 ns []; simpa [nub] using this
theorem mem_nub7 (ns:List ByteArray) (m:ByteArray):m∈nub ns↔m∈ns:=by simp [nub,mem_fold7]
theorem add_fold (c b:List ByteArray) (n:ByteArray):(addB c n).foldl addB b=addB (c.foldl addB b) n:=by
 by_cases h:memB n c=true
 ·have h2:memB n (c.foldl addB b)=true:=(memB_iff _ _).2 ((mem_fold7 _ _ _).2 (.inr ((memB_iff _ _).1 h)))
  have e1:addB c n=c:=by unfold addB; rw [if_pos h]
  have e2:addB (c.foldl addB b) n=c.foldl addB b:=by generalize c.foldl addB b=q at *; unfold addB; rw [if_pos h2]
  rw [e1,e2]
 ·have e1:addB c n=c++[n]:=by unfold addB; rw [if_neg h]
  rw [e1,List.foldl_append]; rfl
theorem fold_fold:∀ (l c b:List ByteArray),(l.foldl addB c).foldl addB b=l.foldl addB (c.foldl addB b)
 | [],c,b=>rfl
 | n :: l,c,b=>by rw [List.foldl_cons,List.foldl_cons,fold_fold l,add_fold]
theorem nub_fold (l b:List ByteArray):(nub l).foldl addB b=l.foldl addB b:=fold_fold l [] b
theorem vsL_app7:∀ a b:List GT,vsL (a++b)=vsL a++vsL b
 | [],b=>rfl
 | t :: a,b=>by simp only [List.cons_append,vsL,vsL_app7 a b,zqP]
theorem rHas_ok (b:List ByteArray) (s:ByteArray) (hl:b.length≤1000000000):pureT T c90 [encN b,.str s]=some (.bool (memB s b)):=by
 apply pure_enter (by simp [c90])
 simp [c90,encN]
 refine W_for T 0 18 b.length (fun i f σ=>f 0=.isl (b.map .str) false∧f 1=.str s∧f 5=.int .i64 (i:Int)∧memB s b=memB s (b.drop i)) ?_ _ _ ?_
 ·rintro i f σ hi ⟨h0,h1,h5,hm⟩
  by_cases hlt:i<b.length
  ·have hw:IntKind.i64.wrap ((i:Int)+1)=(i:Int)+1:=wr64 (by omega) (by omega)
   have e1:b[i]?=some b[i]:=zqF hlt
   rw [zqM hlt] at hm
   have hc:memB s (b[i] :: b.drop (i+1))=(decide (s=b[i]) || memB s (b.drop (i+1))):=rfl
   rw [hc] at hm
   by_cases hs:b[i]=s
   ·rw [decide_eq_true hs.symm,Bool.true_or] at hm
    simp [h0,h1,h5,hlt,e1,hs,setRun,hm]
   ·rw [decide_eq_false (fun e=>hs e.symm),Bool.false_or] at hm
    simp [h0,h1,h5,hlt,e1,hs,hw,hm]
  ·have he:i=b.length:=by omega
   subst he
   rw [List.drop_length] at hm
   have hm':memB s b=false:=hm
   simp [h0,h1,h5,setRun,hm']
 ·simp
theorem callRHas (b:List ByteArray) (s:ByteArray) (hl:b.length≤1000000000) (bs:Nat) (σ:Heap):callT T 90 [.isl (b.map .str) false,.str s] bs σ=some (.bool (sym (memB s b)),σ):=call_clean rfl rfl rfl (by simp) (rHas_ok b s hl)
theorem callRHasO (b:List ByteArray) (s:ByteArray) (hl:b.length≤1000000000) {N:Nat} {τ:Heap} {x:AV} (h:LO N 1 false τ (b.map .str) x) (bs:Nat) (σ:Heap):callT T 90 [x,.str s] bs σ=some (.bool (sym (memB s b)),σ):=by
 rw [call_pure (T:=T) (f:=90) (bs:=bs) (σ:=σ) (σ':=σ) (args':=[encN b,.str s]) rfl rfl rfl (by unfold closeT; rw [h.closeA]; rfl) (by simp [encN]) (rHas_ok b s hl),ite_self]; rfl
set_option maxHeartbeats 1000000 in
theorem rVars_ok:∀ (k:Nat) (t:GT),t.size≤k→k≤1000000000→pureT T c119 [t.enc]=some (encN (nub (vs1 t))):=by
 intro k
 induction k using Nat.strongRecOn with
 | ind k ih=>
  intro t ht hk
  by_cases hk1:t.kind=1
  ·have hv:vs1 t=[t.name]:=by
    cases t; simp only [GT.kind] at hk1; simp [vs1,hk1,GT.name]
   have hv2:nub (vs1 t)=[t.name]:=by rw [hv]; rfl
   apply pure_enter (by simp [c119])
   rw [hv2]
   simp [c119,hk1,setRun,encN,GT.enc_eq]
   exact ⟨_,rfl⟩
  ·have hv:vs1 t=vsL t.args:=by
    cases t; simp only [GT.kind] at hk1; simp [vs1,hk1,GT.args]
   have hal:=GT.args_le t
   have hC:∀ x∈t.args,∀ bs σ,callT T 119 [x.enc] bs σ=some (encN (nub (vs1 x)),σ):=fun x hx bs σ=>by
    have h1:=GT.sizes_mem hx
    exact call_clean rfl rfl rfl (by simp) (ih x.size (by omega) x (Nat.le_refl _) (by omega))
   have hlen:=GT.len_sizes t.args
   have htot:=vsL_len t.args
   apply pure_enter (by simp [c119])
   rw [hv]
   simp [c119,hk1,GT.enc_eq]
   refine W_for T 0 49 t.args.length (fun i f σ=>f 1=.ptr 0 0∧f 4=.int .i64 (i:Int)∧1≤σ.length∧σ[0]?=some (.cells [.int .i64 t.kind,.str t.name,.int .i64 t.value.kind,.int .i64 t.value.num,.str t.value.text,.isl (GV.encs t.value.items) false,.isl (GT.encs t.args) false] 0 false)∧LO 1 1 false σ ((nub (vsL (t.args.take i))).map .str) (f 3)) ?_ _ _ ?_
   ·rintro i f σ hi ⟨h1,h4,hN,z0,hO⟩
    by_cases hlt:i<t.args.length
    ·have hw:IntKind.i64.wrap ((i:Int)+1)=(i:Int)+1:=wr64 (by omega) (by omega)
     have e1:t.args[i]?=some t.args[i]:=zqF hlt
     have hc:=hC _ (zqT hlt)
     have hsplit:vsL t.args=vsL (t.args.take i)++(vs1 t.args[i]++vsL (t.args.drop (i+1))):=by
      conv=>lhs; rw [←List.take_append_drop i t.args,zqM hlt]
      rw [vsL_app7]; rfl
     have hnext:nub (vsL (t.args.take (i+1)))=(nub (vs1 t.args[i])).foldl addB (nub (vsL (t.args.take i))):=by
      rw [nub_fold,zqO hlt,vsL_app7]
      have e:vsL [t.args[i]]=vs1 t.args[i]:=by simp [vsL]
      rw [e]; unfold nub; rw [List.foldl_append]
     have hl1:=nub_len7 (vsL (t.args.take i))
     have hl2:=nub_len7 (vs1 t.args[i])
     have hl3:(vsL t.args).length=(vsL (t.args.take i)).length+((vs1 t.args[i]).length+(vsL (t.args.drop (i+1))).length):=by rw [hsplit]; simp
     rw [hnext]
     generalize nub (vsL (t.args.take i))=cur at *
     generalize nub (vs1 t.args[i])=ns at *
     simp only [encN,GT.enc_eq] at hc
     simp [h1,h4,z0,hlt,e1,hc,GT.enc_eq]
     refine W_for T 0 49 ns.length (fun j f τ=>f 1=.ptr 0 0∧f 4=.int .i64 (i:Int)∧f 5=.isl (ns.map .str) false∧f 6=.int .i64 (j:Int)∧1≤τ.length∧τ[0]?=some (.cells [.int .i64 t.kind,.str t.name,.int .i64 t.value.kind,.int .i64 t.value.num,.str t.value.text,.isl (GV.encs t.value.items) false,.isl (GT.encs t.args) false] 0 false)∧LO 1 1 false τ (((ns.take j).foldl addB cur).map .str) (f 3)) ?_ _ _ ?_
     ·rintro j f τ hj ⟨g1,g4,g5,g6,gN,y0,gO⟩
      by_cases hjl:j<ns.length
      ·have hwj:IntKind.i64.wrap ((j:Int)+1)=(j:Int)+1:=wr64 (by omega) (by omega)
       have e2:ns[j]?=some ns[j]:=zqF hjl
       have hfl:=fold_len7 (ns.take j) cur
       have htl:(ns.take j).length≤ns.length:=by simp; omega
       have hh:=callRHasO ((ns.take j).foldl addB cur) ns[j] (by omega) gO
       have hstep:(ns.take (j+1)).foldl addB cur=addB ((ns.take j).foldl addB cur) ns[j]:=by
        rw [zqO hjl,List.foldl_append]; rfl
       rw [hstep]
       generalize (ns.take j).foldl addB cur=cu at *
       by_cases hm:memB ns[j] cu=true
       ·have ha:addB cu ns[j]=cu:=by unfold addB; rw [if_pos hm]
        rw [hm] at hh
        rw [ha]
        simp [g1,g4,g5,g6,y0,hjl,e2,hh,sym,hwj,gN]
        exact gO
       ·have ha:addB cu ns[j]=cu++[ns[j]]:=by unfold addB; rw [if_neg hm]
        have hm':memB ns[j] cu=false:=by simpa using hm
        rw [hm'] at hh
        rw [ha]
        simp [g1,g4,g5,g6,y0,hjl,e2,hh,sym,-appendA_s]
        refine stW_s1 (N:=1) (bytes:=16) (v:=.str ns[j]) gO rfl rfl rfl (by omega) gN (by simp; omega) fun x1 τ1 hO1 l1 q3 q4=>?_
        simp [g1,g4,g5,g6,hwj,q3 0 (by omega),y0]
        exact ⟨by omega,hO1⟩
      ·have hej:j=ns.length:=by omega
       subst hej
       rw [List.take_length] at gO
       simp [g1,g4,g5,g6,y0,hw,gN]
       exact gO
     ·simp [h1,h4,z0,hN]
      exact hO
    ·have hei:i=t.args.length:=by omega
     subst hei
     rw [List.take_length] at hO
     have hr:closeR σ (f 3)=some (.isl ((nub (vsL t.args)).map .str) false,σ):=by
      have:=hO.closeA σ
      rcases hO with ⟨h1,h2⟩ | ⟨k,h2,_⟩ <;> rw [h2] at this ⊢ <;> exact this
     simp [h1,h4,z0,hr,endP,res1,encN]
   ·simp
    exact .inl ⟨rfl,rfl⟩
end Go.Proofs.YtjfgjnlocadpbaaGreatDoor
end
section
set_option maxRecDepth 100000
namespace Go.Proofs.YtjfgjnlocadpbaaGreatDoor
open Go.Mach
theorem callRVars (t:GT) (ht:t.size≤1000000000) (bs:Nat) (σ:Heap):callT T 119 [t.enc] bs σ=some (encN (nub (vs1 t)),σ):=call_clean rfl rfl rfl (by simp) (rVars_ok t.size t (Nat.le_refl _) ht)
theorem all_nub (b l:List ByteArray):(nub l).all (fun m=>memB m b)=l.all fun m=>memB m b:=by
 have:(nub l).all (fun m=>memB m b)=true↔(l.all fun m=>memB m b)=true:=by
  simp only [zqQ,mem_nub7]
 cases h1:(nub l).all (fun m=>memB m b) <;> cases h2:(l.all fun m=>memB m b) <;> simp_all
theorem rFree_ok (b:List ByteArray) (l:List GT) (hb:b.length≤1000000000) (hl:GT.sizes l≤1000000000):pureT T c89 [.isl (GT.encs l) false,encN b]=some (.bool (!(allB b l))):=by
 have hlen:=GT.len_sizes l
 apply pure_enter (by simp [c89])
 simp [c89,encN]
 refine W_for T 0 34 l.length (fun i f σ=>f 0=.isl (GT.encs l) false∧f 1=.isl (b.map .str) false∧f 5=.int .i64 (i:Int)∧allB b l=allB b (l.drop i)) ?_ _ _ ?_
 ·rintro i f σ hi ⟨h0,h1,h5,hA⟩
  by_cases hlt:i<l.length
  ·have hw:IntKind.i64.wrap ((i:Int)+1)=(i:Int)+1:=wr64 (by omega) (by omega)
   have e1:l[i]?=some l[i]:=zqF hlt
   have hm:=GT.sizes_mem (zqT hlt)
   have hc:=callRVars l[i] (by omega)
   have hl2:=nub_len7 (vs1 l[i])
   have hl3:=vs1_len l[i]
   have hcons:allB b (l.drop i)=((nub (vs1 l[i])).all (fun m=>memB m b) && allB b (l.drop (i+1))):=by
    rw [zqM hlt,all_nub]
    unfold allB
    simp only [vsL,List.all_append]
   rw [hcons] at hA
   generalize nub (vs1 l[i])=ns at *
   simp only [encN,GT.enc_eq] at hc
   simp [h0,h1,h5,hlt,e1,hc,GT.enc_eq]
   refine W_for T 0 34 ns.length (fun j f τ=>f 0=.isl (GT.encs l) false∧f 1=.isl (b.map .str) false∧f 5=.int .i64 (i:Int)∧f 6=.isl (ns.map .str) false∧f 7=.int .i64 (j:Int)∧ns.all (fun m=>memB m b)=(ns.drop j).all (fun m=>memB m b)) ?_ _ _ ?_
   ·rintro j f τ hj ⟨g0,g1,g5,g6,g7,gA⟩
    by_cases hjl:j<ns.length
    ·have hwj:IntKind.i64.wrap ((j:Int)+1)=(j:Int)+1:=wr64 (by omega) (by omega)
     have e2:ns[j]?=some ns[j]:=zqF hjl
     have hh:=callRHas b ns[j] hb
     rw [zqM hjl,List.all_cons] at gA
     cases hm:memB ns[j] b with
     | true=>
      rw [hm] at hh gA
      rw [Bool.true_and] at gA
      simp [g0,g1,g5,g6,g7,hjl,e2,hh,sym,hwj,gA]
     | false=>
      rw [hm] at hh gA
      rw [Bool.false_and] at gA
      rw [gA,Bool.false_and] at hA
      simp [g0,g1,g5,g6,g7,hjl,e2,hh,sym,setRun,hA]
    ·have hej:j=ns.length:=by omega
     subst hej
     rw [List.drop_length,List.all_nil] at gA
     rw [gA,Bool.true_and] at hA
     simp [g0,g1,g5,g6,g7,hw,hA]
   ·simp [h0,h1,h5]
  ·have hei:i=l.length:=by omega
   subst hei
   rw [List.drop_length] at hA
   have hA':allB b l=true:=hA
   simp [h0,h1,h5,setRun,hA']
 ·simp
theorem callRFree (b:List ByteArray) (l:List GT) (hb:b.length≤1000000000) (hl:GT.sizes l≤1000000000) {N:Nat} {τ:Heap} {x:AV} (h:LO N 1 false τ (b.map .str) x) (bs:Nat) (σ:Heap):callT T 89 [.isl (GT.encs l) false,x] bs σ=some (.bool (sym (!(allB b l))),σ):=by
 rw [call_pure (T:=T) (f:=89) (bs:=bs) (σ:=σ) (σ':=σ) (args':=[.isl (GT.encs l) false,encN b]) rfl rfl rfl (by simp [closeT,h.closeA,encN]) (by simp [encN]) (rFree_ok b l hb hl),ite_self]; rfl
theorem rArity_ok (p:GP) (n:ByteArray) (hl:p.decls.length≤1000000000):pureT T c58 [p.enc,.str n]=some (.int .i64 (arityP p n)):=by
 apply pure_enter (by simp [c58])
 simp [c58,GP.enc_eq]
 refine W_for T 0 27 p.decls.length (fun i f σ=>f 1=.str n∧f 2=.ptr 0 0∧f 5=.int .i64 (i:Int)∧σ[0]?=some (.cells [.isl (p.decls.map GD.enc) false,.isl (p.facts.map GU.enc) false,.isl (p.rules.map GR.enc) false] 0 false)∧p.decls.find? (fun d=>decide (d.name=n))=(p.decls.drop i).find? (fun d=>decide (d.name=n))) ?_ _ _ ?_
 ·rintro i f σ hi ⟨h1,h2,h5,z0,hA⟩
  by_cases hlt:i<p.decls.length
  ·have hw:IntKind.i64.wrap ((i:Int)+1)=(i:Int)+1:=wr64 (by omega) (by omega)
   have e1:p.decls[i]?=some p.decls[i]:=zqF hlt
   rw [zqM hlt,List.find?_cons] at hA
   by_cases hs:p.decls[i].name=n
   ·rw [decide_eq_true hs] at hA
    have hP:arityP p n=p.decls[i].arity:=by unfold arityP; rw [hA]
    simp [h1,h2,h5,z0,hlt,e1,hs,setRun,hP]
   ·rw [decide_eq_false hs] at hA
    simp [h1,h2,h5,z0,hlt,e1,hs,hw,hA]
  ·have he:i=p.decls.length:=by omega
   subst he
   rw [List.drop_length] at hA
   have hP:arityP p n=0:=by unfold arityP; rw [hA]; rfl
   simp [h1,h2,h5,z0,setRun,hP]
 ·simp
theorem callRArity (p:GP) (n:ByteArray) (hl:p.decls.length≤1000000000) (bs:Nat) (σ:Heap):callT T 58 [p.enc,.str n] bs σ=some (.int .i64 (arityP p n),σ):=call_clean rfl rfl rfl (by simp) (rArity_ok p n hl)
end Go.Proofs.YtjfgjnlocadpbaaGreatDoor
end
section
set_option maxRecDepth 100000
namespace Go.Proofs.YtjfgjnlocadpbaaGreatDoor
open Go.Mach
def SameM (b c:List ByteArray):Prop:=∀ m,memB m b=memB m c
theorem SameM.all {b c:List ByteArray} (h:SameM b c) (l:List GT):allB b l=allB c l:=by
 unfold allB; congr 1; funext m; exact h m
theorem memB_app (m:ByteArray) (a b:List ByteArray):memB m (a++b)=(memB m a || memB m b):=by unfold memB; rw [List.any_append]
theorem memB_add (m:ByteArray) (b:List ByteArray) (n:ByteArray):memB m (addB b n)=(memB m b || decide (m=n)):=by
 have:memB m (addB b n)=true↔(memB m b || decide (m=n))=true:=by
  rw [memB_iff,mem_addB7,Bool.or_eq_true,memB_iff,decide_eq_true_eq]
 cases h1:memB m (addB b n) <;> cases h2:(memB m b || decide (m=n)) <;> simp_all
theorem SameM.add {b c:List ByteArray} (h:SameM b c) (n:ByteArray):SameM (addB b n) (c++[n]):=fun m=>by
 rw [memB_add,memB_app,h m]; unfold memB; simp
theorem SameM.fold {b c:List ByteArray} (h:SameM b c):∀ ns:List ByteArray,SameM (ns.foldl addB b) (c++ns):=fun ns=>by
 induction ns generalizing b c with
 | nil=>simpa using h
 | cons n ns ih=>
  rw [List.foldl_cons]
  have:=ih (h.add n)
  rwa [zqP] at this
theorem tops_snoc (l:List GT) (t:GT):tops (l++[t])=if t.kind=1 then tops l++[t.name] else tops l:=by
 unfold tops
 rw [List.filter_append,List.map_append]
 by_cases h:t.kind=1 <;> simp [h]
theorem tops_len (l:List GT):(tops l).length≤l.length:=by
 unfold tops; rw [List.length_map]; exact List.length_filter_le _ _
set_option maxHeartbeats 4000000 in
theorem rRule_ok (p:GP) (r:GR) (hp:p.decls.length≤1000000000) (hr:r.size≤1000000000) (hk:∀ l∈r.body,1≤l.kind) (ha:∀ l∈r.body,l.kind=1→l.args.length≤8) (hbl:r.body.length≤8):pureT T c59 [p.enc,r.enc]=some (.int .i64 (ruleP p r)):=by
 have hA:=fun n=>callRArity p n hp
 simp only [GP.enc_eq] at hA
 have hra:=GR.args_le r
 apply pure_enter (by simp [c59])
 by_cases hh:arityP p r.head=(r.args.length:Int)
 ·simp [c59,GP.enc_eq,GR.enc_eq,hA,hh,setRun]
  refine W_for T 0 108 r.body.length (fun i f σ=>f 2=.ptr 0 0∧f 3=.ptr 1 0∧f 5=.int .i64 (i:Int)∧2≤σ.length∧σ[0]?=some (.cells [.isl (p.decls.map GD.enc) false,.isl (p.facts.map GU.enc) false,.isl (p.rules.map GR.enc) false] 0 false)∧σ[1]?=some (.cells [.str r.label,.str r.head,.isl (GT.encs r.args) false,.str r.agg,.int .i64 r.pos,.isl (r.body.map GL.enc) false] 0 false)∧r.body.any (badL p)=(r.body.drop i).any (badL p)) ?_ _ _ ?_
  ·rintro i f σ hi ⟨h2,h3,h5,hN,z0,z1,hB⟩
   have i0:0<σ.length:=by omega
   have i1:1<σ.length:=by omega
   by_cases hlt:i<r.body.length
   ·have hw:IntKind.i64.wrap ((i:Int)+1)=(i:Int)+1:=wr64 (by omega) (by omega)
    have e1:r.body[i]?=some r.body[i]:=zqF hlt
    have hk1:=hk _ (zqT hlt)
    rw [zqM hlt,List.any_cons] at hB
    by_cases hkd:r.body[i].kind≤2
    ·by_cases hbad:arityP p r.body[i].name=(r.body[i].args.length:Int)
     ·have:badL p r.body[i]=false:=by unfold badL; simp [hbad]
      rw [this,Bool.false_or] at hB
      simp [h2,h3,h5,z0,z1,i0,i1,hlt,e1,hA,hkd,hbad,hw,setRun,GL.enc_eq,hB,-getElem?_pos,zqA,zqB,zqE,zqD]
      omega
     ·have:badL p r.body[i]=true:=by
       unfold badL
       have:r.body[i].kind=1∨r.body[i].kind=2:=by omega
       simp [hbad,this]
      rw [this,Bool.true_or] at hB
      have hP:ruleP p r=60:=by unfold ruleP relsB; rw [hB]; simp
      simp [h2,h3,h5,z0,z1,i0,i1,hlt,e1,hA,hkd,hbad,hw,setRun,GL.enc_eq,hP,-getElem?_pos,zqA,zqB,zqE,zqD]
    ·have:badL p r.body[i]=false:=by
      unfold badL
      have h1:¬ r.body[i].kind=1:=by omega
      have h2:¬ r.body[i].kind=2:=by omega
      simp [h1,h2]
     rw [this,Bool.false_or] at hB
     simp [h2,h3,h5,z0,z1,i0,i1,hlt,e1,hA,hkd,hw,setRun,GL.enc_eq,hB,-getElem?_pos,zqA,zqB,zqE,zqD]
     omega
   ·have hei:i=r.body.length:=by omega
    subst hei
    rw [List.drop_length,List.any_nil] at hB
    have hrel:relsB p r=true:=by unfold relsB; rw [hB]; simp [hh]
    have hP:ruleP p r=if (goB [] r.body).1≠0 then (goB [] r.body).1 else if allB (goB [] r.body).2 r.args=false then 61 else 0:=by unfold ruleP; rw [hrel]; simp
    simp [h2,h3,h5,z0,z1]
    refine W_for T 0 108 r.body.length (fun i f τ=>f 2=.ptr 0 0∧f 3=.ptr 1 0∧f 8=.int .i64 (i:Int)∧2≤τ.length∧τ[1]?=some (AObj.cells [.str r.label,.str r.head,.isl (GT.encs r.args) false,.str r.agg,.int .i64 r.pos,.isl (r.body.map GL.enc) false] 0 false)∧∃ b c:List ByteArray,SameM b c∧goB [] r.body=goB b (r.body.drop i)∧c.length≤9 * i∧LO 2 1 false τ (c.map .str) (f 7)) ?_ _ _ ?_
    ·rintro i f τ hi ⟨g2,g3,g8,gN,y1,b,c,hS,hg,hcl,hO⟩
     have j1:1<τ.length:=by omega
     by_cases hlt:i<r.body.length
     ·have hw:IntKind.i64.wrap ((i:Int)+1)=(i:Int)+1:=wr64 (by omega) (by omega)
      have e1:r.body[i]?=some r.body[i]:=zqF hlt
      have hbs:=GR.body_mem r (zqT hlt)
      have hba:=GL.args_le r.body[i]
      rw [zqM hlt] at hg
      have hgo:goB b (r.body[i] :: r.body.drop (i+1))=if (takesP b r.body[i]).1≠0 then takesP b r.body[i] else goB (takesP b r.body[i]).2 (r.body.drop (i+1)):=rfl
      rw [hgo] at hg
      by_cases hk1:r.body[i].kind=1
      ·have hal:=ha _ (zqT hlt) hk1
       have htk:takesB b r.body[i]=(tops r.body[i].args).foldl addB b:=by unfold takesB; rw [if_pos hk1]
       have hS':=hS.fold (tops r.body[i].args)
       have htl:=tops_len r.body[i].args
       simp [g2,g3,g8,y1,j1,hlt,e1,hk1,setRun,GL.enc_eq,-appendA_s,-getElem?_pos,zqA,zqB,zqC,list_set_at,zqE,zqD]
       obtain ⟨m,hm⟩:∃ m,τ.length=m:=⟨_,rfl⟩
       rw [hm]
       refine W_for T 0 108 r.body[i].args.length (fun j f υ=>f 2=.ptr 0 0∧f 3=.ptr 1 0∧f 8=.int .i64 (i:Int)∧f 9=.ptr m 0∧f 10=.int .i64 (j:Int)∧m+1≤υ.length∧υ[1]?=some (AObj.cells [.str r.label,.str r.head,.isl (GT.encs r.args) false,.str r.agg,.int .i64 r.pos,.isl (r.body.map GL.enc) false] 0 false)∧υ[m]?=some (AObj.cells [.int .i64 1,.str r.body[i].name,.isl (GT.encs r.body[i].args) false] 0 false)∧LO 2 1 false υ ((c++tops (r.body[i].args.take j)).map .str) (f 7)) ?_ _ _ ?_
       ·rintro j f υ hj ⟨k2,k3,k8,k9,k10,kN,x1,xm,kO⟩
        have i1:1<υ.length:=by omega
        have im:m<υ.length:=by omega
        by_cases hjl:j<r.body[i].args.length
        ·have hwj:IntKind.i64.wrap ((j:Int)+1)=(j:Int)+1:=wr64 (by omega) (by omega)
         have e2:r.body[i].args[j]?=some r.body[i].args[j]:=zqF hjl
         have htp:=tops_len (r.body[i].args.take j)
         have htt:(r.body[i].args.take j).length≤8:=by simp; omega
         rw [zqO hjl,tops_snoc]
         by_cases hv:r.body[i].args[j].kind=1
         ·rw [if_pos hv]
          simp [k2,k3,k8,k9,k10,x1,xm,i1,im,hjl,e2,hv,GT.enc_eq,-appendA_s,-getElem?_pos,zqA,zqB,zqC,list_set_at,zqE,zqD]
          refine stW_s1 (N:=2) (bytes:=16) (v:=.str r.body[i].args[j].name) kO rfl rfl rfl (by omega) (by omega) (by simp; omega) fun z υ1 hO1 l1 q3 q4=>?_
          have x1':=q4 1 _ x1 (by simp)
          have xm':=q4 m _ xm (by simp)
          simp [k2,k3,k8,k9,k10,hwj,x1',xm']
          exact ⟨by omega,by simpa using hO1⟩
         ·rw [if_neg hv]
          simp [k2,k3,k8,k9,k10,x1,xm,i1,im,hjl,e2,hv,hwj,GT.enc_eq,-appendA_s,-getElem?_pos,zqA,zqB,zqC,list_set_at,zqE,zqD]
          exact ⟨by omega,by simpa using kO⟩
        ·have hej:j=r.body[i].args.length:=by omega
         subst hej
         rw [List.take_length] at kO
         have hfr:=callRFree (c++tops r.body[i].args) r.body[i].args (by simp; omega) (by omega) kO
         rw [←hS'.all] at hfr
         have hk4:¬ r.body[i].kind=4:=by omega
         cases hal2:allB ((tops r.body[i].args).foldl addB b) r.body[i].args with
         | false=>
          have ht:takesP b r.body[i]=(61,(tops r.body[i].args).foldl addB b):=by unfold takesP; rw [htk,if_pos hal2]
          rw [ht] at hg
          have hP':ruleP p r=61:=by rw [hP,hg]; simp
          rw [hal2] at hfr
          simp [k2,k3,k8,k9,k10,x1,xm,i1,im,hfr,sym,setRun,hP',-appendA_s,-getElem?_pos,zqA,zqB,zqC,list_set_at,zqE,zqD]
         | true=>
          have ht:takesP b r.body[i]=(0,(tops r.body[i].args).foldl addB b):=by unfold takesP; rw [htk,hal2]; simp [hk4]
          rw [ht] at hg
          rw [hal2] at hfr
          simp [k2,k3,k8,k9,k10,x1,xm,i1,im,hfr,sym,hw,setRun,-appendA_s,-getElem?_pos,zqA,zqB,zqC,list_set_at,zqE,zqD]
          exact ⟨by omega,_,_,hS',by simpa using hg,by simp; omega,by simpa using kO⟩
       ·simp [g2,g3,g8,hm,y1,j1,hk1,-appendA_s,-getElem?_pos,zqA,zqB,zqC,list_set_at,zqE,zqD]
        exact ⟨by rw [zqA j1]; exact y1,by simpa [tops] using hO.keep (τ:=τ++[AObj.cells [.int .i64 1,.str r.body[i].name,.isl (GT.encs r.body[i].args) false] 0 false]) fun i o _ hi=>by rw [zqA (zqI.1 hi).1]; exact hi⟩
      ·have htk:takesB b r.body[i]=b:=by unfold takesB; rw [if_neg hk1]
       have hfr:=callRFree c r.body[i].args (by omega) (by omega) hO
       rw [←hS.all] at hfr
       have hOk:=hO.keep (τ:=τ++[AObj.cells [.int .i64 r.body[i].kind,.str r.body[i].name,.isl (GT.encs r.body[i].args) false] 0 false]) fun i o _ hi=>by rw [zqA (zqI.1 hi).1]; exact hi
       have jm:∀ o:AObj,(τ++[o])[1]?=some (AObj.cells [.str r.label,.str r.head,.isl (GT.encs r.args) false,.str r.agg,.int .i64 r.pos,.isl (r.body.map GL.enc) false] 0 false):=fun o=>by rw [zqA j1]; exact y1
       cases hal2:allB b r.body[i].args with
       | false=>
        have ht:takesP b r.body[i]=(61,b):=by unfold takesP; rw [htk,if_pos hal2]
        rw [ht] at hg
        have hP':ruleP p r=61:=by rw [hP,hg]; simp
        rw [hal2] at hfr
        simp [g2,g3,g8,y1,j1,hlt,e1,hk1,hfr,sym,setRun,GL.enc_eq,hP',-appendA_s,-getElem?_pos,zqA,zqB,zqC,list_set_at,zqE,zqD]
       | true=>
        rw [hal2] at hfr
        by_cases hk4:r.body[i].kind=4
        ·have hhs:=callRHasO c r.body[i].name (by omega) hO
         cases hme:memB r.body[i].name c with
         | true=>
          have ht:takesP b r.body[i]=(62,b):=by unfold takesP; rw [htk,hal2]; simp [hk4,hS _,hme]
          rw [ht] at hg
          have hP':ruleP p r=62:=by rw [hP,hg]; simp
          rw [hme] at hhs
          simp [g2,g3,g8,y1,j1,hlt,e1,hk4,hfr,hhs,sym,setRun,GL.enc_eq,hP',-appendA_s,-getElem?_pos,zqA,zqB,zqC,list_set_at,zqE,zqD]
         | false=>
          have ht:takesP b r.body[i]=(0,addB b r.body[i].name):=by unfold takesP; rw [htk,hal2]; simp [hk4,hS _,hme]
          rw [ht] at hg
          rw [hme] at hhs
          simp [g2,g3,g8,y1,j1,hlt,e1,hk4,hfr,hhs,sym,setRun,GL.enc_eq,-appendA_s,-getElem?_pos,zqA,zqB,zqC,list_set_at,zqE,zqD]
          have q1:τ++[AObj.cells [.int .i64 4,.str r.body[i].name,.isl (GT.encs r.body[i].args) false] 0 false,AObj.cells [.str r.body[i].name] 0 false]=(τ++[AObj.cells [.int .i64 4,.str r.body[i].name,.isl (GT.encs r.body[i].args) false] 0 false])++[AObj.cells [.str r.body[i].name] 0 false]:=by simp
          have q2:τ.length+1=(τ++[AObj.cells [.int .i64 4,.str r.body[i].name,.isl (GT.encs r.body[i].args) false] 0 false]).length:=by simp
          rw [hk4] at hOk
          rw [q1,q2]
          refine stW_s1 (N:=2) (bytes:=16) (v:=.str r.body[i].name) hOk rfl rfl rfl (by omega) (by simp; omega) (by simp; omega) fun z υ1 hO1 l1 q3 q4=>?_
          have x1':=q4 1 _ (jm _) (by simp)
          simp at l1
          simp [g2,g3,g8,hw,x1']
          exact ⟨by omega,_,_,hS.add _,by simpa using hg,by simp; omega,by simpa using hO1⟩
        ·have ht:takesP b r.body[i]=(0,b):=by unfold takesP; rw [htk,hal2]; simp [hk4]
         rw [ht] at hg
         simp [g2,g3,g8,y1,j1,hlt,e1,hk1,hk4,hfr,sym,hw,setRun,GL.enc_eq,-appendA_s,-getElem?_pos,zqA,zqB,zqC,list_set_at,zqE,zqD]
         exact ⟨by omega,_,_,hS,by simpa using hg,by omega,hOk⟩
     ·have hei:i=r.body.length:=by omega
      subst hei
      rw [List.drop_length] at hg
      have hg':goB [] r.body=(0,b):=hg
      have hfr:=callRFree c r.args (by omega) (by omega) hO
      rw [←hS.all] at hfr
      cases hal2:allB b r.args with
      | false=>
       have hP':ruleP p r=61:=by rw [hP,hg']; simp [hal2]
       rw [hal2] at hfr
       simp [g2,g3,g8,y1,j1,hfr,sym,setRun,hP',-appendA_s,-getElem?_pos,zqA,zqB,zqC,list_set_at,zqE,zqD]
      | true=>
       have hP':ruleP p r=0:=by rw [hP,hg']; simp [hal2]
       rw [hal2] at hfr
       simp [g2,g3,g8,y1,j1,hfr,sym,setRun,hP',-appendA_s,-getElem?_pos,zqA,zqB,zqC,list_set_at,zqE,zqD]
    ·simp [h2,h3,hN,z1]
     exact ⟨[],[],fun _=>rfl,rfl,by simp,.inl ⟨rfl,rfl⟩⟩
  ·simp
 ·have hP:ruleP p r=60:=by unfold ruleP relsB; simp [hh]
  simp [c59,GP.enc_eq,GR.enc_eq,hA,hh,setRun,hP]
end Go.Proofs.YtjfgjnlocadpbaaGreatDoor
end
section
set_option maxRecDepth 100000
namespace Go.Proofs.YtjfgjnlocadpbaaGreatDoor
open Go.Mach
theorem rule_facts {r:GR} (h:ruleB r=true):(∀ l∈r.body,1≤l.kind)∧(∀ l∈r.body,l.kind=1→l.args.length≤8)∧r.body.length≤8:=by
 unfold ruleB at h
 simp only [zqL,decide_eq_true_eq] at h
 obtain ⟨⟨⟨⟨⟨_,_⟩,_⟩,b4⟩,b5⟩,_⟩:=h
 refine ⟨fun l hl=>?_,fun l hl hk=>?_,b4.2⟩
 ·have:=zqQ.1 b5 l hl
  unfold litB at this
  split at this
  ·omega
  split at this
  ·omega
  split at this
  ·omega
  ·cases this
 ·have:=zqQ.1 b5 l hl
  unfold litB argsB at this
  rw [if_pos (.inl hk)] at this
  simp only [zqL,decide_eq_true_eq] at this
  exact this.2.1.1.2
theorem callRRule (p:GP) (r:GR) (hp:p.decls.length≤1000000000) (hr:r.size≤1000000000) (hb:ruleB r=true) (bs:Nat) (σ:Heap):callT T 59 [p.enc,r.enc] bs σ=some (.int .i64 (ruleP p r),σ):=by
 obtain ⟨h1,h2,h3⟩:=rule_facts hb
 exact call_clean rfl rfl rfl (by simp [GP.enc_eq]) (rRule_ok p r hp hr h1 h2 h3)
theorem dupD_iff:∀ (l:List GD) (b:List ByteArray),dupD b l=true↔∃ i,∃ h:i<l.length,l[i].name∈b∨∃ k,∃ h2:k<i,l[k].name=l[i].name
 | [],b=>by simp [dupD]
 | d :: l,b=>by
  simp only [dupD,Bool.or_eq_true,memB_iff,dupD_iff l]
  constructor
  ·rintro (h | ⟨i,hi,h⟩)
   ·exact ⟨0,by simp,.inl h⟩
   ·refine ⟨i+1,by simpa using hi,?_⟩
    rcases h with h | ⟨k,hk,h⟩
    ·rcases (mem_addB7 _ _ _).1 h with h | h
     ·exact .inl h
     ·exact .inr ⟨0,by omega,h.symm⟩
    ·exact .inr ⟨k+1,by omega,h⟩
  ·rintro ⟨i,hi,h⟩
   cases i with
   | zero=>
    rcases h with h | ⟨k,hk,_⟩
    ·exact .inl h
    ·omega
   | succ i=>
    right
    refine ⟨i,by simpa using hi,?_⟩
    rcases h with h | ⟨k,hk,h⟩
    ·exact .inl ((mem_addB7 _ _ _).2 (.inl h))
    ·cases k with
     | zero=>exact .inl ((mem_addB7 _ _ _).2 (.inr h.symm))
     | succ k=>exact .inr ⟨k,by omega,h⟩
end Go.Proofs.YtjfgjnlocadpbaaGreatDoor
end
section
set_option maxRecDepth 100000
namespace Go.Proofs.YtjfgjnlocadpbaaGreatDoor
open Go.Mach
set_option maxHeartbeats 4000000 in
theorem rCheck6_ok (p:GP) (hp:p.size≤1000000000):pureT T c38 [p.enc]=some (res2 (checkP p)):=by
 have hR:=callR4Right p (by omega)
 have hl:=GP.rules_len p
 have hdl:=GP.decls_len p
 have hA:=fun n=>callRArity p n (by omega)
 simp only [GP.enc_eq] at hR hA
 apply pure_enter (by simp [c38])
 by_cases hr:progB p=true
 ·rw [hr] at hR
  have hpb:=hr
  unfold progB at hpb
  simp only [zqL,decide_eq_true_eq] at hpb
  obtain ⟨⟨⟨⟨l1,l2,l3⟩,b2⟩,b3⟩,b4⟩:=hpb
  have hRu:∀ x∈p.rules,∀ bs σ,callT T 59 [p.enc,x.enc] bs σ=some (.int .i64 (ruleP p x),σ):=fun x hx bs σ=>callRRule p x (by omega) (by have:=GP.rules_mem p hx; omega) (zqQ.1 b3 x hx) bs σ
  simp [c38,GP.enc_eq,hR,sym]
  refine W_for T 0 80 p.decls.length (fun i f τ=>f 1=.ptr 0 0∧f 5=.int .i64 (i:Int)∧τ=[pCells p]∧∀ a,(ha:a<p.decls.length)→a<i→∀ k,(hk:k<a)→p.decls[k].name≠p.decls[a].name) ?_ _ _ ?_
  ·rintro i f τ hi ⟨h1,h5,rfl,hD⟩
   by_cases hlt:i<p.decls.length
   ·have hw:IntKind.i64.wrap ((i:Int)+1)=(i:Int)+1:=wr64 (by omega) (by omega)
    have e1:p.decls[i]?=some p.decls[i]:=zqF hlt
    simp [h1,h5,hlt,pCells]
    refine W_for T 0 80 i (fun k f τ=>f 1=.ptr 0 0∧f 5=.int .i64 (i:Int)∧f 6=.int .i64 (k:Int)∧τ=[pCells p]∧∀ k',(hk:k'<k)→(h2:k'<p.decls.length)→p.decls[k'].name≠p.decls[i].name) ?_ _ _ ?_
    ·rintro k f τ hk ⟨g1,g5,g6,rfl,hE⟩
     by_cases hkl:k<i
     ·have hwk:IntKind.i64.wrap ((k:Int)+1)=(k:Int)+1:=wr64 (by omega) (by omega)
      have hkl2:k<p.decls.length:=by omega
      have e2:p.decls[k]?=some p.decls[k]:=zqF hkl2
      by_cases hn:p.decls[k].name=p.decls[i].name
      ·have hdup:dupD [] p.decls=true:=(dupD_iff _ _).2 ⟨i,hlt,.inr ⟨k,hkl,hn⟩⟩
       simp [g1,g5,g6,hkl,hkl2,hlt,e1,e2,hn,setRun,pCells,checkP,hr,hdup]
      ·simp [g1,g5,g6,hkl,hkl2,hlt,e1,e2,hn,hwk,pCells]
       intro k' hk' h2
       by_cases e:k'=k
       ·subst e; exact hn
       ·exact hE k' (by omega) h2
     ·have he:k=i:=by omega
      subst he
      simp [g1,g5,g6,hw,pCells]
      intro a ha hai k' hk'
      by_cases e:a=k
      ·subst e; exact hE k' hk' (by omega)
      ·exact hD a ha (by omega) k' hk'
    ·simp [h1,h5,pCells]
   ·have he:i=p.decls.length:=by omega
    have hdup:dupD [] p.decls=false:=by
     cases hd:dupD [] p.decls with
     | false=>rfl
     | true=>
      obtain ⟨a,ha,h⟩:=(dupD_iff _ _).1 hd
      rcases h with h | ⟨k,hk,h⟩
      ·cases h
      ·exact absurd h (hD a ha (by omega) k hk)
    simp [h1,h5,he,pCells]
    refine W_for T 0 80 p.facts.length (fun i f τ=>f 1=.ptr 0 0∧f 7=.int .i64 (i:Int)∧τ=[pCells p]∧p.facts.any (badF p)=(p.facts.drop i).any (badF p)) ?_ _ _ ?_
    ·rintro i f τ hi ⟨g1,g7,rfl,hF⟩
     by_cases hlt:i<p.facts.length
     ·have hw:IntKind.i64.wrap ((i:Int)+1)=(i:Int)+1:=wr64 (by omega) (by omega)
      have e1:p.facts[i]?=some p.facts[i]:=zqF hlt
      rw [zqM hlt,List.any_cons] at hF
      by_cases hb:arityP p p.facts[i].name=(p.facts[i].args.length:Int)
      ·have:badF p p.facts[i]=false:=by unfold badF; simp [hb]
       rw [this,Bool.false_or] at hF
       simp [g1,g7,hlt,e1,hA,hb,hw,pCells,GU.enc_eq,hF]
      ·have:badF p p.facts[i]=true:=by unfold badF; simp [hb]
       rw [this,Bool.true_or] at hF
       simp [g1,g7,hlt,e1,hA,hb,setRun,pCells,GU.enc_eq,checkP,hr,hdup,hF]
     ·have he:i=p.facts.length:=by omega
      subst he
      rw [List.drop_length,List.any_nil] at hF
      have hck:checkP p=firstP p p.rules 0:=by unfold checkP; simp [hr,hdup,hF]
      rw [hck]
      simp [g1,g7,pCells]
      refine W_for T 0 80 p.rules.length (fun i f τ=>f 1=.ptr 0 0∧f 8=.int .i64 (i:Int)∧τ=[pCells p]∧firstP p p.rules 0=firstP p (p.rules.drop i) i) ?_ _ _ ?_
      ·rintro i f τ hi ⟨k1,k8,rfl,hP⟩
       by_cases hlt:i<p.rules.length
       ·have hw:IntKind.i64.wrap ((i:Int)+1)=(i:Int)+1:=wr64 (by omega) (by omega)
        have e1:p.rules[i]?=some p.rules[i]:=zqF hlt
        have hc:=hRu _ (zqT hlt)
        simp only [GP.enc_eq,GR.enc_eq] at hc
        rw [zqM hlt] at hP
        simp only [firstP] at hP
        by_cases h0:ruleP p p.rules[i]=0
        ·rw [if_neg (by simp [h0])] at hP
         simp [k1,k8,hlt,e1,hc,h0,hw,pCells,GR.enc_eq,hP]
        ·rw [if_pos h0] at hP
         simp [k1,k8,hlt,e1,hc,h0,setRun,pCells,GR.enc_eq,hP]
       ·have he:i=p.rules.length:=by omega
        subst he
        rw [List.drop_length] at hP
        have hP':firstP p p.rules 0=(0,-1):=hP
        simp [k1,k8,setRun,pCells,hP']
      ·simp [g1,pCells]
    ·simp [h1,pCells]
  ·simp [pCells]
 ·have hr':progB p=false:=by simpa using hr
  rw [hr'] at hR
  simp [c38,GP.enc_eq,hR,sym,setRun,checkP,hr']
end Go.Proofs.YtjfgjnlocadpbaaGreatDoor
end
section
set_option maxRecDepth 100000
namespace Go.Proofs.YtjfgjnlocadpbaaGreatDoor
open Go.Mach
theorem rLink_ok (body:List GL) (a b:ByteArray) (hb:body.length≤100000000):pureT T c41 [.isl (body.map GL.enc) false,.str a,.str b]=some (.bool (linkedB body a b)):=by
 apply pure_enter (by simp [c41])
 simp [c41]
 refine W_for T 0 59 body.length (fun i f σ=>f 0=.isl (body.map GL.enc) false∧f 1=.str a∧f 2=.str b∧f 7=.int .i64 (i:Int)∧linkedB body a b=linkedB (body.drop i) a b) ?_ _ _ ?_
 ·rintro i f σ hi ⟨h0,h1,h2,h7,hg⟩
  by_cases hlt:i<body.length
  ·have hw:IntKind.i64.wrap ((i:Int)+1)=(i:Int)+1:=wr64 (by omega) (by omega)
   have e1:body[i]?=some body[i]:=zqF hlt
   rw [zqM hlt] at hg
   have hc:linkedB (body[i] :: body.drop (i+1)) a b=(link1 a b body[i] || linkedB (body.drop (i+1)) a b):=rfl
   rw [hc] at hg
   by_cases hl:link1 a b body[i]=true
   ·rw [hl,Bool.true_or] at hg
    have hl':=hl
    unfold link1 at hl
    simp only [zqL,decide_eq_true_eq] at hl
    obtain ⟨⟨⟨⟨⟨k1,k2⟩,k3⟩,k4⟩,k5⟩,k6⟩:=hl
    match hargs:body[i].args with
    | []=>rw [hargs] at k3; simp at k3
    | [x]=>rw [hargs] at k3; simp at k3
    | x :: y :: rest=>
     rw [hargs] at k4 k5 k6
     simp at k4 k5 k6
     have e3:GT.encs (x :: y :: rest)=x.enc :: y.enc :: GT.encs rest:=rfl
     have hl2:(1:Int)<(rest.length:Int)+1+1:=by omega
     simp [h0,h1,h2,h7,hlt,e1,setRun,k1,k2,hargs,e3,hl2,k4,k5,k6,hg]
   ·have hl':link1 a b body[i]=false:=by simpa using hl
    rw [hl',Bool.false_or] at hg
    have fin:∀ P:Prop,P→True:=fun _ _=>trivial
    by_cases k1:body[i].kind=1
    ·by_cases k2:body[i].name=sLink
     ·match hargs:body[i].args with
      | []=>simp [h0,h1,h2,h7,hlt,e1,setRun,k1,k2,hargs,hw,hg]
      | [x]=>simp [h0,h1,h2,h7,hlt,e1,setRun,k1,k2,hargs,hw,hg]
      | x :: y :: rest=>
       have e3:GT.encs (x :: y :: rest)=x.enc :: y.enc :: GT.encs rest:=rfl
       have hl2:(1:Int)<(rest.length:Int)+1+1:=by omega
       by_cases k5:y.kind=1
       ·by_cases k4:x.name=a
        ·by_cases k6:y.name=b
         ·exfalso
          apply hl
          unfold link1
          rw [hargs]
          simp [k1,k2,k4,k5,k6]
         ·simp [h0,h1,h2,h7,hlt,e1,setRun,k1,k2,hargs,e3,hl2,k4,k5,k6,hw,hg]
        ·simp [h0,h1,h2,h7,hlt,e1,setRun,k1,k2,hargs,e3,hl2,k4,k5,hw,hg]
       ·simp [h0,h1,h2,h7,hlt,e1,setRun,k1,k2,hargs,e3,hl2,k5,hw,hg]
     ·simp [h0,h1,h2,h7,hlt,e1,setRun,k1,k2,hw,hg]
    ·simp [h0,h1,h2,h7,hlt,e1,setRun,k1,hw,hg]
  ·have he:i=body.length:=by omega
   subst he
   rw [List.drop_length] at hg
   have hg':linkedB body a b=false:=hg
   simp [h0,h1,h2,h7,hg']
 ·simp
theorem callRLink (body:List GL) (a b:ByteArray) (hb:body.length≤100000000) (bs:Nat) (σ:Heap):callT T 41 [.isl (body.map GL.enc) false,.str a,.str b] bs σ=some (.bool (sym (linkedB body a b)),σ):=call_clean rfl rfl rfl (by simp) (rLink_ok body a b hb)
def varP (l:List GT):ByteArray:=match l with
 | []=>nilB
 | t :: _=>if t.kind=1 then t.name else nilB
theorem rVar_ok (l:List GT):pureT T c40 [.isl (GT.encs l) false]=some (.str (varP l)):=by
 apply pure_enter (by simp [c40])
 cases l with
 | nil=>simp [c40,setRun,varP,GT.encs]
 | cons t l=>
  have e3:GT.encs (t :: l)=t.enc :: GT.encs l:=rfl
  have h1:¬ ((l.length:Int)+1=0):=by omega
  by_cases hk:t.kind=1
  ·simp [c40,setRun,varP,e3,h1,hk,GT.enc_eq]
  ·simp [c40,setRun,varP,e3,h1,hk,GT.enc_eq]
theorem callRVar (l:List GT) (bs:Nat) (σ:Heap):callT T 40 [.isl (GT.encs l) false] bs σ=some (.str (varP l),σ):=call_clean rfl rfl rfl (by simp) (rVar_ok l)
end Go.Proofs.YtjfgjnlocadpbaaGreatDoor
end
section
namespace Go.Proofs.YtjfgjnlocadpbaaGreatDoor
open Go.Mach
def firstL (a b:ByteArray):List GL→Nat→Option Int
 | [],_=>none
 | l :: ls,i=>if link1 a b l=true then some (i:Int) else firstL a b ls (i+1)
theorem look_first:∀ (ls:List GL) (i:Nat) (s t:RS),readGo ls i s=some t→∀ a b,lookW t.links a b=if (lookW s.links a b).isSome=true then lookW s.links a b else firstL a b ls i
 | [],i,s,t,h,a,b=>by
  injection h with h; subst h
  unfold firstL
  split
  ·rfl
  ·rename_i hn
   cases hl:lookW s.links a b with
   | none=>rfl
   | some v=>rw [hl] at hn; exact absurd rfl hn
 | l :: ls,i,s,t,h,c,d=>by
  simp only [readGo] at h
  by_cases hk:l.kind=1∨l.kind=2
  ·rw [if_pos hk] at h
   cases ha:l.args with
   | nil=>rw [ha] at h; cases h
   | cons a rest=>
    rw [ha] at h
    simp only at h
    by_cases hv:a.kind=1
    ·rw [if_pos hv] at h
     rw [look_first ls (i+1) _ t h]
     have hl0:l.args[0]?=some a:=by rw [ha]; rfl
     have h1:link1 c d l=true↔l.kind=1∧linkL l=true∧a.name=c∧arg1 l=d:=by
      rw [link1_iff]
      unfold linkOf
      constructor
      ·rintro ⟨q1,q2,⟨x,hx,e⟩,q4⟩
       rw [hl0] at hx; injection hx with hx; subst hx
       exact ⟨q1,q2,e,q4⟩
      ·rintro ⟨q1,q2,e,q4⟩
       exact ⟨q1,q2,⟨a,hl0,e⟩,q4⟩
     have hF:firstL c d (l :: ls) i=if link1 c d l=true then some (i:Int) else firstL c d ls (i+1):=rfl
     rw [hF]
     unfold stepR
     by_cases hk2:l.kind=2
     ·rw [if_pos hk2]
      have hn:¬ link1 c d l=true:=fun e=>by have:=(h1.1 e).1; omega
      rw [if_neg hn]
     ·rw [if_neg hk2]
      have hk1:l.kind=1:=hk.resolve_right hk2
      simp only
      by_cases hll:linkL l=true
      ·rw [if_pos hll,lookW_set]
       by_cases hs:(lookW s.links c d).isSome=true
       ·rw [if_pos hs,if_pos hs,if_pos hs]
       ·rw [if_neg hs,if_neg hs]
        by_cases he:a.name=c∧arg1 l=d
        ·rw [if_pos he,if_pos (by rfl),if_pos (h1.2 ⟨hk1,hll,he.1,he.2⟩)]
        ·rw [if_neg he,if_neg (by simp),if_neg (fun e=>he ⟨(h1.1 e).2.2.1,(h1.1 e).2.2.2⟩)]
      ·rw [if_neg hll,if_neg (fun e=>hll (h1.1 e).2.1)]
    ·rw [if_neg hv] at h; cases h
  ·rw [if_neg hk] at h
   rw [look_first ls (i+1) s t h]
   have hn:¬ link1 c d l=true:=fun e=>hk (.inl ((link1_iff c d l).1 e).1)
   have hF:firstL c d (l :: ls) i=firstL c d ls (i+1):=by simp only [firstL,if_neg hn]
   rw [hF]
theorem readP_first {body:List GL} {s:RS} (h:readP body=some s) (a b:ByteArray):lookW s.links a b=firstL a b body 0:=by
 unfold readP at h
 cases hg:readGo body 0 ⟨[],[],0⟩ with
 | none=>rw [hg] at h; cases h
 | some t=>
  rw [hg] at h
  simp only at h
  split at h
  ·injection h with h; subst h
   have:=look_first body 0 _ _ hg a b
   rw [this]; rfl
  ·cases h
end Go.Proofs.YtjfgjnlocadpbaaGreatDoor
end
section
namespace Go.Proofs.YtjfgjnlocadpbaaGreatDoor
open Go.Mach
def dirL (a b:ByteArray):List GL→Option Bool
 | []=>none
 | l :: ls=>if link1 a b l=true then some true else if link1 b a l=true then some false else dirL a b ls
theorem firstL_ge (a b:ByteArray):∀ (ls:List GL) (i:Nat) (v:Int),firstL a b ls i=some v→(i:Int)≤v
 | [],i,v,h=>by cases h
 | l :: ls,i,v,h=>by
  simp only [firstL] at h
  split at h
  ·injection h with h; omega
  ·have:=firstL_ge a b ls (i+1) v h; omega
theorem link1_two {a b:ByteArray} {l:GL} (h1:link1 a b l=true) (h2:link1 b a l=true):a=b:=by
 obtain ⟨_,_,⟨t,ht,e1⟩,_⟩:=(link1_iff a b l).1 h1
 obtain ⟨_,_,⟨u,hu,e2⟩,_⟩:=(link1_iff b a l).1 h2
 rw [ht] at hu; injection hu with hu; subst hu
 rw [←e1,←e2]
theorem dirL_spec {a b:ByteArray} (hne:a≠b):∀ (ls:List GL) (i:Nat),dirL a b ls=match firstL a b ls i,firstL b a ls i with
  | none,none=>none
  | some _,none=>some true
  | none,some _=>some false
  | some x,some y=>some (decide (¬ y<x))
 | [],i=>rfl
 | l :: ls,i=>by
  simp only [dirL,firstL]
  by_cases h1:link1 a b l=true
  ·have h2:¬ link1 b a l=true:=fun e=>hne (link1_two h1 e)
   simp only [if_pos h1,if_neg h2]
   cases h:firstL b a ls (i+1) with
   | none=>rfl
   | some v=>
    have:=firstL_ge b a ls (i+1) v h
    show some true=some (decide (¬ v<(i:Int)))
    rw [decide_eq_true (by omega)]
  ·simp only [if_neg h1]
   by_cases h2:link1 b a l=true
   ·simp only [if_pos h2]
    cases h:firstL a b ls (i+1) with
    | none=>rfl
    | some v=>
     have:=firstL_ge a b ls (i+1) v h
     show some false=some (decide (¬ (i:Int)<v))
     rw [decide_eq_false (by omega)]
   ·simp only [if_neg h2]
    exact dirL_spec hne ls (i+1)
end Go.Proofs.YtjfgjnlocadpbaaGreatDoor
end
section
set_option maxRecDepth 100000
namespace Go.Proofs.YtjfgjnlocadpbaaGreatDoor
open Go.Mach
theorem varP_lit {l:GL} (h:litB l=true) (hk:l.kind=1∨l.kind=2):∃ a rest,l.args=a :: rest∧(varP l.args=nilB↔¬ a.kind=1)∧(a.kind=1→varP l.args=a.name):=by
 obtain ⟨_,h2⟩:=lit_names h hk
 cases ha:l.args with
 | nil=>exact absurd ha (lit_args h hk)
 | cons a rest=>
  refine ⟨a,rest,rfl,⟨fun e hv=>?_,fun hv=>?_⟩,fun hv=>?_⟩
  ·have hn:=h2 a (by rw [ha]; simp) hv
   unfold varP at e
   simp only [if_pos hv] at e
   exact hn e
  ·unfold varP; simp only [if_neg hv]
  ·unfold varP; simp only [if_pos hv]
theorem read_ne:∀ (ls:List GL) (i:Nat) (s t:RS),readGo ls i s=some t→(0<s.atoms→s.all≠[])→0<t.atoms→t.all≠[]
 | [],i,s,t,h,h0=>by injection h with h; subst h; exact h0
 | l :: ls,i,s,t,h,h0=>by
  simp only [readGo] at h
  by_cases hk:l.kind=1∨l.kind=2
  ·rw [if_pos hk] at h
   cases ha:l.args with
   | nil=>rw [ha] at h; cases h
   | cons a rest=>
    rw [ha] at h
    simp only at h
    by_cases hv:a.kind=1
    ·rw [if_pos hv] at h
     refine read_ne ls (i+1) _ t h fun _=>?_
     have hall:(stepR s l a i).all=addB s.all a.name:=by unfold stepR; split <;> rfl
     rw [hall]; exact add_ne _ _
    ·rw [if_neg hv] at h; cases h
  ·rw [if_neg hk] at h
   exact read_ne ls (i+1) s t h h0
theorem two_dir {body:List GL} {s:RS} (h:readP body=some s) {b c:ByteArray} (hne:b≠c) (head:ByteArray) :
  twoP s b c head=match dirL b c body with
   | none=>none
   | some true=>if head=b∨head=c then some ⟨b,c,head⟩ else none
   | some false=>if head=b∨head=c then some ⟨c,b,head⟩ else none:=by
 rw [dirL_spec hne body 0]
 unfold twoP
 rw [readP_first h b c,readP_first h c b]
 cases firstL b c body 0 with
 | none=>cases firstL c b body 0 <;> rfl
 | some x=>
  cases firstL c b body 0 with
  | none=>rfl
  | some y=>
   by_cases hlt:y<x
   ·simp [hlt]
   ·simp [hlt]
theorem slI_mid {sz:Nat} {es:List AV} {c:Bool} {a n:Nat} (ha:a≤n) (h:n≤es.length) (hz:es.all (lenIs sz)=true):slSlV sz (some (.int .i64 (a:Int))) (some (.int .i64 (n:Int))) (.isl es c)=some (.isl ((es.take n).drop a) false):=by
 have h1:slSlA sz a n (.isl es c)=some (.isl ((es.take n).drop a) false):=by
  have hc:a≤n∧n≤es.length∧(a=0∨es.all (lenIs sz)=true):=⟨ha,h,.inr hz⟩
  simp only [slSlA,if_pos hc]
 have h2:bndV es.length es.length (some (.int .i64 (n:Int)))=some n:=by
  simp only [bndV]; rw [if_pos ⟨by omega,by omega⟩]; rfl
 have h3:bndV n 0 (some (.int .i64 (a:Int)))=some a:=by
  simp only [bndV]; rw [if_pos ⟨by omega,by omega⟩]; rfl
 have h0:¬ isSl (.isl es c)=false:=by simp [isSl]
 have hl:lenA (.isl es c)=some es.length:=rfl
 unfold slSlV
 rw [if_neg h0,hl]
 simp only [Option.bind_some,h2,h3,h1]
theorem linked_one (l:GL) (a b:ByteArray):linkedB [l] a b=link1 a b l:=by unfold linkedB; simp
abbrev PB:ACode:=c18.body
abbrev P7:ACode:=sndC (sndC (sndC (sndC (sndC (sndC (sndC PB))))))
abbrev P8:ACode:=sndC P7
abbrev P10:ACode:=sndC (sndC P8)
abbrev P11:ACode:=sndC P10
def rCells (r:GR):AObj:=.cells [.str r.label,.str r.head,.isl (GT.encs r.args) false,.str r.agg,.int .i64 r.pos,.isl (r.body.map GL.enc) false] 0 false
def plCells (p:GPl):AObj:=.cells [.str p.from',.str p.to,.str p.head] 0 false
def plFin (r:GR) (o:Option GPl):Option GPl:=match o with
 | none=>none
 | some p=>if aggOk r p=true then some p else none
theorem plFin_some (r:GR) (p:GPl):plFin r (some p)=if aggOk r p=true then some p else none:=rfl
theorem place_end (r:GR) (p:GPl) (f:FR) (σ:Heap) {j:Nat} (h1:f 1=.ptr 0 0) (h2:f 2=.ptr 1 0) (h4:f 4=.ptr 2 0) (h5:f 5=.str p.head) (h13:f 13=.ptr j 0)
  (z0:σ[0]?=some (rCells r)) (z1:σ[1]?=some (plCells nilPl)) (z2:σ[2]?=some (plCells nilPl)) (zj:σ[j]?=some (plCells p)) (hl:3≤σ.length) :
  wpK T 0 202 [.code P11] f σ (endP 202 [.cell 2 3 true,.tmp 3] (resPl (if aggOk r p=true then some p else none))):=by
 unfold rCells at z0
 unfold plCells nilPl at z1 z2
 unfold plCells at zj
 have n1:1<σ.length:=by omega
 have n2:2<σ.length:=by omega
 by_cases hag:r.agg=nilB
 ·have h:aggOk r p=true:=by simp [aggOk,hag]
  rw [if_pos h]
  simp [-getElem?_pos,zqC,list_set_at,zqE,zqD,P11,P10,P8,P7,PB,c18,sndC,h1,h2,h4,h5,h13,z0,z1,z2,zj,n1,n2,eq_true hag,setRun,endP,res1,resPl,GPl.enc]
  done
 ·by_cases ht:p.to=nilB
  ·by_cases hh:p.head=p.from'
   ·have h:aggOk r p=true:=by simp [aggOk,ht,hh]
    rw [if_pos h]
    simp [-getElem?_pos,zqC,list_set_at,zqE,zqD,P11,P10,P8,P7,PB,c18,sndC,h1,h2,h4,h5,h13,z0,z1,z2,zj,n1,n2,hag,eq_true ht,hh,setRun,endP,res1,resPl,GPl.enc]
    done
   ·have h:¬ aggOk r p=true:=by simp [aggOk,hag,hh]
    rw [if_neg h]
    simp [-getElem?_pos,zqC,list_set_at,zqE,zqD,P11,P10,P8,P7,PB,c18,sndC,h1,h2,h4,h5,h13,z0,z1,z2,zj,n1,n2,hag,eq_true ht,hh,setRun,endP,res1,resPl,nilPl,GPl.enc,plFin]
    done
  ·have h:¬ aggOk r p=true:=by simp [aggOk,hag,ht]
   rw [if_neg h]
   simp [-getElem?_pos,zqC,list_set_at,zqE,zqD,P11,P10,P8,P7,PB,c18,sndC,h1,h2,h4,h5,h13,z0,z1,z2,zj,n1,n2,hag,ht,setRun,endP,res1,resPl,nilPl,GPl.enc,plFin]
   done
theorem place_one (r:GR) (b head:ByteArray) (f:FR) (σ:Heap) {j k:Nat} (hb:r.body.length≤100000000) (h1:f 1=.ptr 0 0) (h2:f 2=.ptr 1 0) (h4:f 4=.ptr 2 0) (h5:f 5=.str head) (h6:f 6=.own k [.str b]) (h13:f 13=.ptr j 0)
  (z0:σ[0]?=some (rCells r)) (z1:σ[1]?=some (plCells nilPl)) (z2:σ[2]?=some (plCells nilPl)) (zj:σ[j]?=some (plCells ⟨b,nilB,head⟩)) (hl:3≤σ.length) :
  wpK T 0 202 [.code P10] f σ (endP 202 [.cell 2 3 true,.tmp 3] (resPl (plFin r ((if head=b∨linkedB r.body b head=true then some (⟨b,nilB,head⟩:GPl) else none))))):=by
 have tail:=place_end r ⟨b,nilB,head⟩
 have hL:=callRLink r.body b head hb
 have hs:P10=.seq (fstC P10) P11:=rfl
 rw [hs]
 generalize P11=K at tail
 have y0:=z0
 have y1:=z1
 have y2:=z2
 unfold rCells at z0
 unfold plCells nilPl at z1 z2
 have n1:1<σ.length:=by omega
 have n2:2<σ.length:=by omega
 by_cases hh:head=b
 ·have hc:head=b∨linkedB r.body b head=true:=.inl hh
  rw [if_pos hc]
  rw [plFin_some]
  generalize hR:resPl (if aggOk r ⟨b,nilB,head⟩=true then some ⟨b,nilB,head⟩ else none)=R at tail ⊢
  cases hk:linkedB r.body b head with
  | true=>
   rw [hk] at hL
   simp [-getElem?_pos,zqC,list_set_at,zqE,zqD,P11,P10,P8,P7,PB,c18,sndC,fstC,h1,h2,h4,h5,h6,h13,z0,z1,z2,hL,eq_true hh]
   refine tail _ _ ?_ ?_ ?_ ?_ ?_ y0 y1 y2 zj hl <;> simp [h1,h2,h4,h5,h13]
  | false=>
   rw [hk] at hL
   simp [-getElem?_pos,zqC,list_set_at,zqE,zqD,P11,P10,P8,P7,PB,c18,sndC,fstC,h1,h2,h4,h5,h6,h13,z0,z1,z2,hL,eq_true hh]
   refine tail _ _ ?_ ?_ ?_ ?_ ?_ y0 y1 y2 zj hl <;> simp [h1,h2,h4,h5,h13]
 ·cases hk:linkedB r.body b head with
  | true=>
   rw [hk] at hL
   rw [if_pos (.inr rfl)]
   rw [plFin_some]
   generalize hR:resPl (if aggOk r ⟨b,nilB,head⟩=true then some ⟨b,nilB,head⟩ else none)=R at tail ⊢
   simp [-getElem?_pos,zqC,list_set_at,zqE,zqD,P11,P10,P8,P7,PB,c18,sndC,fstC,h1,h2,h4,h5,h6,h13,z0,z1,z2,hL,hh]
   refine tail _ _ ?_ ?_ ?_ ?_ ?_ y0 y1 y2 zj hl <;> simp [h1,h2,h4,h5,h13]
  | false=>
   rw [hk] at hL
   simp [-getElem?_pos,zqC,list_set_at,zqE,zqD,P11,P10,P8,P7,PB,c18,sndC,fstC,h1,h2,h4,h5,h6,h13,z0,z1,z2,n1,n2,hL,hh,setRun,endP,res1,resPl,nilPl,GPl.enc,plFin]
   done
end Go.Proofs.YtjfgjnlocadpbaaGreatDoor
end
section
set_option maxRecDepth 100000
namespace Go.Proofs.YtjfgjnlocadpbaaGreatDoor
open Go.Mach
def dirS (d:Option Bool) (b c a e:ByteArray):Prop:=match d with
 | none=>a=b∧e=nilB
 | some true=>a=b∧e=c
 | some false=>a=c∧e=b
def dirPl (d:Option Bool) (b c head:ByteArray):Option GPl:=match d with
 | none=>none
 | some true=>if head=b∨head=c then some ⟨b,c,head⟩ else none
 | some false=>if head=b∨head=c then some ⟨c,b,head⟩ else none
def elsC:ACode→ACode
 | .cond _ _ b=>b
 | c=>c
def thnC:ACode→ACode
 | .cond _ a _=>a
 | c=>c
abbrev PL:ACode:=fstC (elsC (sndC (fstC P10)))
abbrev PC:ACode:=sndC (elsC (sndC (fstC P10)))
theorem place_chk (r:GR) (b c head a e:ByteArray) (D:Option Bool) (f:FR) (σ:Heap) {j:Nat} (hbn:b≠nilB) (hcn:c≠nilB) (hd:dirS D b c a e) (h1:f 1=.ptr 0 0) (h2:f 2=.ptr 1 0) (h4:f 4=.ptr 2 0) (h5:f 5=.str head) (h13:f 13=.ptr j 0)
  (z0:σ[0]?=some (rCells r)) (z1:σ[1]?=some (plCells nilPl)) (z2:σ[2]?=some (plCells nilPl)) (zj:σ[j]?=some (plCells ⟨a,e,head⟩)) (hl:3≤σ.length) :
  wpK T 0 202 [.code PC,.code P11] f σ (endP 202 [.cell 2 3 true,.tmp 3] (resPl (plFin r (dirPl D b c head)))):=by
 have tail:=place_end r
 generalize P11=K at tail
 have y0:=z0
 have y1:=z1
 have y2:=z2
 have yj:=zj
 unfold plCells nilPl at z1 z2
 unfold plCells at zj
 have n1:1<σ.length:=by omega
 have n2:2<σ.length:=by omega
 have main:e≠nilB→(dirPl D b c head=if head=a∨head=e then some ⟨a,e,head⟩ else none)→wpK T 0 202 [.code PC,.code K] f σ (endP 202 [.cell 2 3 true,.tmp 3] (resPl (plFin r (dirPl D b c head)))):=by
  intro he hp
  rw [hp]
  by_cases q1:head=a
  ·rw [if_pos (.inl q1)]
   rw [plFin_some]
   have tail:=tail ⟨a,e,head⟩
   generalize hR:resPl (if aggOk r ⟨a,e,head⟩=true then some ⟨a,e,head⟩ else none)=R at tail ⊢
   simp [-getElem?_pos,zqC,list_set_at,zqE,zqD,PC,elsC,P10,P8,P7,PB,c18,sndC,fstC,h1,h2,h4,h5,h13,z1,z2,zj,he,eq_true q1]
   refine tail _ _ ?_ ?_ ?_ ?_ ?_ y0 y1 y2 yj hl <;> simp [h1,h2,h4,h5,h13]
  ·by_cases q2:head=e
   ·rw [if_pos (.inr q2)]
    rw [plFin_some]
    have tail:=tail ⟨a,e,head⟩
    generalize hR:resPl (if aggOk r ⟨a,e,head⟩=true then some ⟨a,e,head⟩ else none)=R at tail ⊢
    simp [-getElem?_pos,zqC,list_set_at,zqE,zqD,PC,elsC,P10,P8,P7,PB,c18,sndC,fstC,h1,h2,h4,h5,h13,z1,z2,zj,he,q1,eq_true q2]
    refine tail _ _ ?_ ?_ ?_ ?_ ?_ y0 y1 y2 yj hl <;> simp [h1,h2,h4,h5,h13]
   ·rw [if_neg (fun q=>q.elim q1 q2)]
    simp [-getElem?_pos,zqC,list_set_at,zqE,zqD,PC,elsC,P10,P8,P7,PB,c18,sndC,fstC,h1,h2,h4,h5,h13,z1,z2,zj,n1,n2,he,q1,q2,setRun,endP,res1,resPl,nilPl,GPl.enc,plFin]
    done
 cases D with
 | none=>
  obtain ⟨rfl,rfl⟩:=hd
  simp [-getElem?_pos,zqC,list_set_at,zqE,zqD,dirPl,plFin,PC,elsC,P10,P8,P7,PB,c18,sndC,fstC,h1,h2,h4,h5,h13,z1,z2,zj,n1,n2,setRun,endP,res1,resPl,nilPl,GPl.enc,plFin]
  done
 | some d=>
  cases d with
  | true=>
   obtain ⟨rfl,rfl⟩:=hd
   exact main hcn rfl
  | false=>
   obtain ⟨rfl,rfl⟩:=hd
   refine main hbn ?_
   show (if head=e∨head=a then some (⟨a,e,head⟩:GPl) else none)=_
   by_cases q1:head=e
   ·rw [if_pos (.inl q1),if_pos (.inr q1)]
   ·by_cases q2:head=a
    ·rw [if_pos (.inr q2),if_pos (.inl q2)]
    ·rw [if_neg (fun q=>q.elim q1 q2),if_neg (fun q=>q.elim q2 q1)]
set_option maxHeartbeats 2000000 in
theorem place_two (r:GR) (b c head:ByteArray) (f:FR) (σ:Heap) {j k:Nat} (hb:r.body.length≤100000000) (hbn:b≠nilB) (hcn:c≠nilB) (hne:b≠c) (h1:f 1=.ptr 0 0) (h2:f 2=.ptr 1 0) (h4:f 4=.ptr 2 0) (h5:f 5=.str head) (h6:f 6=.own k [.str b,.str c]) (h13:f 13=.ptr j 0)
  (z0:σ[0]?=some (rCells r)) (z1:σ[1]?=some (plCells nilPl)) (z2:σ[2]?=some (plCells nilPl)) (zj:σ[j]?=some (plCells ⟨b,nilB,head⟩)) (hl:3≤σ.length) (hj:3≤j) :
  wpK T 0 202 [.code P10] f σ (endP 202 [.cell 2 3 true,.tmp 3] (resPl (plFin r (dirPl (dirL b c r.body) b c head)))):=by
 obtain ⟨D,hD⟩:∃ D,dirL b c r.body=D:=⟨_,rfl⟩
 rw [hD]
 have tail:=fun a e=>place_chk r b c head a e D
 have hs:P10=.seq (.seq (fstC (fstC P10)) (.cond (.t 100) (thnC (sndC (fstC P10))) (.seq PL PC))) P11:=rfl
 rw [hs]
 generalize hR:(resPl (plFin r (dirPl D b c head)))=R at tail ⊢
 generalize PC=K at tail
 generalize P11=K2 at tail
 simp [PL,elsC,P10,P8,P7,PB,c18,sndC,fstC,h1,h2,h4,h5,h6,h13]
 refine W_for T 0 202 r.body.length (fun i f σ=>f 1=.ptr 0 0∧f 2=.ptr 1 0∧f 4=.ptr 2 0∧f 5=.str head∧f 6=.own k [.str b,.str c]∧f 13=.ptr j 0∧f 15=.int .i64 (i:Int)∧3≤σ.length∧σ[0]?=some (rCells r)∧σ[1]?=some (plCells nilPl)∧σ[2]?=some (plCells nilPl) ∧
  ∃ a e,σ[j]?=some (plCells ⟨a,e,head⟩)∧((e=nilB∧a=b∧D=dirL b c (r.body.drop i))∨(e≠nilB∧dirS D b c a e))) ?_ _ _ ?_
 ·clear h1 h2 h4 h5 h6 h13 z0 z1 z2 zj hl
  rintro i f σ hi ⟨h1,h2,h4,h5,h6,h13,h15,hl,y0,y1,y2,a,e,yj,hst⟩
  have z0:=y0
  have z1:=y1
  have z2:=y2
  have zj:=yj
  unfold rCells at z0
  unfold plCells nilPl at z1 z2
  unfold plCells at zj
  have n0:0<σ.length:=by omega
  have n1:1<σ.length:=by omega
  have n2:2<σ.length:=by omega
  have nj:j<σ.length:=(zqI.1 zj).1
  have j0:j≠0:=by omega
  have j1:j≠1:=by omega
  have j2:j≠2:=by omega
  by_cases hlt:i<r.body.length
  ·have hw:IntKind.i64.wrap ((i:Int)+1)=(i:Int)+1:=wr64 (by omega) (by omega)
   rcases hst with ⟨he,ha,hd⟩ | ⟨he,hd⟩
   ·have hsl:slSlV 3 (some (.int .i64 (i:Int))) (some (.int .i64 ((i:Int)+1))) (.isl (r.body.map GL.enc) false)=some (.isl ([r.body[i]].map GL.enc) false):=by
     have:=slI_mid (sz:=3) (es:=r.body.map GL.enc) (c:=false) (a:=i) (n:=i+1) (by omega) (by simp; omega) (lenIs_map GL.enc 3 (fun _=>rfl) _)
     rw [zqO (by simpa using hlt),List.drop_append_of_le_length (by simp; omega),List.drop_of_length_le (by simp; omega)] at this
     simpa using this
    have hL1:=callRLink [r.body[i]] b c (by simp)
    have hL2:=callRLink [r.body[i]] c b (by simp)
    rw [linked_one] at hL1 hL2
    simp only [List.map_cons,List.map_nil] at hL1 hL2 hsl
    rw [zqM hlt] at hd
    simp only [dirL] at hd
    by_cases k1:link1 b c r.body[i]=true
    ·have k2:¬ link1 c b r.body[i]=true:=fun e=>hne (link1_two k1 e)
     have k2':link1 c b r.body[i]=false:=by simpa using k2
     rw [if_pos k1] at hd
     rw [k1] at hL1
     rw [k2'] at hL2
     simp [-getElem?_pos,zqC,list_set_at,zqE,zqD,h1,h2,h4,h5,h6,h13,h15,z0,z1,z2,zj,hlt,hw,hsl,hL1,hL2,setRun,nj,he,ha,y0,y1,y2,j0,j1,j2]
     exact ⟨hl,rfl,rfl,b,c,rfl,.inr ⟨hcn,by rw [hd]; exact ⟨rfl,rfl⟩⟩⟩
    ·have k1':link1 b c r.body[i]=false:=by simpa using k1
     rw [if_neg k1] at hd
     rw [k1'] at hL1
     by_cases k2:link1 c b r.body[i]=true
     ·rw [if_pos k2] at hd
      rw [k2] at hL2
      simp [-getElem?_pos,zqC,list_set_at,zqE,zqD,h1,h2,h4,h5,h6,h13,h15,z0,z1,z2,zj,hlt,hw,hsl,hL1,hL2,setRun,nj,he,ha,y0,y1,y2,j0,j1,j2]
      exact ⟨hl,rfl,rfl,c,b,rfl,.inr ⟨hbn,by rw [hd]; exact ⟨rfl,rfl⟩⟩⟩
     ·have k2':link1 c b r.body[i]=false:=by simpa using k2
      rw [if_neg k2] at hd
      rw [k2'] at hL2
      simp [-getElem?_pos,zqC,list_set_at,zqE,zqD,h1,h2,h4,h5,h6,h13,h15,z0,z1,z2,zj,hlt,hw,hsl,hL1,hL2,setRun,nj,he,ha,y0,y1,y2]
      exact ⟨hl,rfl,rfl,b,nilB,rfl,.inl ⟨rfl,rfl,hd⟩⟩
   ·simp [-getElem?_pos,zqC,list_set_at,zqE,zqD,h1,h2,h4,h5,h6,h13,h15,z0,z1,z2,zj,hlt,hw,he]
    refine tail a e _ _ hbn hcn hd ?_ ?_ ?_ ?_ ?_ y0 y1 y2 yj hl <;> simp [h1,h2,h4,h5,h13]
  ·have he:i=r.body.length:=by omega
   have hd:dirS D b c a e:=by
    rcases hst with ⟨rfl,rfl,hd⟩ | ⟨_,hd⟩
    ·subst he
     rw [List.drop_length] at hd
     rw [hd]; exact ⟨rfl,rfl⟩
    ·exact hd
   simp [-getElem?_pos,zqC,list_set_at,zqE,zqD,h1,h2,h4,h5,h6,h13,h15,z0,z1,z2,zj,hlt]
   refine tail a e _ _ hbn hcn hd ?_ ?_ ?_ ?_ ?_ y0 y1 y2 yj hl <;> simp [h1,h2,h4,h5,h13]
 ·simp [h1,h2,h4,h5,h6,h13,z0,z1,z2,zj,hl]
  exact ⟨b,nilB,rfl,.inl ⟨rfl,rfl,hD.symm⟩⟩
end Go.Proofs.YtjfgjnlocadpbaaGreatDoor
end
section
set_option maxRecDepth 100000
namespace Go.Proofs.YtjfgjnlocadpbaaGreatDoor
open Go.Mach
theorem place_tail (r:GR) (head:ByteArray) (s:RS) (hb:r.body.length≤100000000) (hg:readGo r.body 0 ⟨[],[],0⟩=some s) (hn:0<s.atoms→∀ m∈s.all,m≠nilB) (f:FR) (σ:Heap) (h1:f 1=.ptr 0 0) (h2:f 2=.ptr 1 0) (h4:f 4=.ptr 2 0) (h5:f 5=.str head) (h7:f 7=.int .i64 (s.atoms:Int))
  (h6:LO 3 1 false σ (s.all.map .str) (f 6)) (z0:σ[0]?=some (rCells r)) (z1:σ[1]?=some (plCells nilPl)) (z2:σ[2]?=some (plCells nilPl)) (hl:3≤σ.length) :
  wpK T 0 202 [.code P8] f σ (endP 202 [.cell 2 3 true,.tmp 3] (resPl (plFin r ((if 0<s.atoms then placeQ s head else none))))):=by
 have tail1:=fun b=>place_one r b head
 have tail2:=fun b c=>place_two r b c head
 have hs:P8=.seq (fstC P8) (.seq (fstC (sndC P8)) P10):=rfl
 rw [hs]
 generalize P10=K at tail1 tail2
 have y0:=z0
 have y1:=z1
 have y2:=z2
 unfold plCells nilPl at z1 z2
 have n1:1<σ.length:=by omega
 have n2:2<σ.length:=by omega
 by_cases ha:0<s.atoms
 ·have ha':¬ (s.atoms=0):=by omega
  have hrp:readP r.body=some s:=by unfold readP; rw [hg]; simp only [if_pos ha]
  have hne:=read_ne _ _ _ _ hg (fun h=>by cases h) ha
  rw [if_pos ha]
  have hn:=hn ha
  rcases h6 with ⟨hnil,_⟩ | ⟨k,h6,_,_,_⟩
  ·exact absurd (by simpa using hnil) hne
  ·match hall:s.all with
   | []=>exact absurd hall hne
   | [b]=>
    have hq:placeQ s head=if head=b∨linkedB r.body b head=true then some ⟨b,nilB,head⟩ else none:=by
     have h3:=(readP_spec hrp).2.2.1 b head
     unfold placeQ; rw [hall]
     simp only [oneP]
     by_cases q:head=b
     ·simp [q]
     ·cases q2:(lookW s.links b head).isSome with
      | true=>rw [if_pos (.inr rfl),if_pos (.inr (h3.1 q2))]
      | false=>rw [if_neg (fun x=>x.elim q (fun y=>by cases y)),if_neg (fun x=>x.elim q (fun y=>by rw [h3.2 y] at q2; cases q2))]
    rw [hq]
    rw [hall] at h6
    have h6':f 6=.own k [.str b]:=h6
    generalize hR:(resPl (plFin r ((if head=b∨linkedB r.body b head=true then some (⟨b,nilB,head⟩:GPl) else none))))=R
    have tail1:=tail1 b
    rw [hR] at tail1
    simp [-getElem?_pos,zqC,list_set_at,zqA,zqB,zqE,zqD,P8,P7,PB,c18,sndC,fstC,h1,h2,h4,h5,h6',h7,ha',setRun]
    refine tail1 (k:=k) (j:=σ.length) _ _ hb ?_ ?_ ?_ ?_ ?_ ?_ ?_ ?_ ?_ ?_ ?_ <;> first | (simp [h1,h2,h4,h5,h6',plCells]; done) | (rw [zqA (by omega)]; first | exact y0 | exact y1 | exact y2) | (simp; omega)
   | [b,c]=>
    have hnd:=(readP_spec hrp).2.2.2
    rw [hall] at hnd hn
    have hbc:b≠c:=by simp at hnd; exact hnd
    have hbn:=hn b (by simp)
    have hcn:=hn c (by simp)
    have hq:placeQ s head=dirPl (dirL b c r.body) b c head:=by
     unfold placeQ; rw [hall]
     simp only
     rw [two_dir hrp hbc head]; rfl
    rw [hq]
    rw [hall] at h6
    have h6':f 6=.own k [.str b,.str c]:=h6
    generalize hR:(resPl (plFin r (dirPl (dirL b c r.body) b c head)))=R
    have tail2:=tail2 b c
    rw [hR] at tail2
    simp [-getElem?_pos,zqC,list_set_at,zqA,zqB,zqE,zqD,P8,P7,PB,c18,sndC,fstC,h1,h2,h4,h5,h6',h7,ha',setRun]
    refine tail2 (k:=k) (j:=σ.length) _ _ hb hbn hcn hbc ?_ ?_ ?_ ?_ ?_ ?_ ?_ ?_ ?_ ?_ ?_ hl <;> first | (simp [h1,h2,h4,h5,h6',plCells]; done) | (rw [zqA (by omega)]; first | exact y0 | exact y1 | exact y2) | (simp; omega)
   | b :: c :: d :: rest=>
    have hq:placeQ s head=none:=by unfold placeQ; rw [hall]
    rw [hq]
    rw [hall] at h6
    have h6':f 6=.own k (.str b :: .str c :: .str d :: rest.map .str):=h6
    have l2:(2:Int)<(rest.length:Int)+1+1+1:=by omega
    simp [-getElem?_pos,zqC,list_set_at,zqE,zqD,P8,P7,PB,c18,sndC,fstC,h1,h2,h4,h5,h6',h7,ha',setRun,z1,z2,n1,n2,l2,endP,res1,resPl,nilPl,GPl.enc,plFin]
    done
 ·have ha':s.atoms=0:=by omega
  rw [if_neg ha]
  simp [-getElem?_pos,zqC,list_set_at,zqE,zqD,P8,P7,PB,c18,sndC,fstC,h1,h2,h4,h5,h7,ha',setRun,z1,z2,n1,n2,endP,res1,resPl,nilPl,GPl.enc,plFin]
  done
end Go.Proofs.YtjfgjnlocadpbaaGreatDoor
end
