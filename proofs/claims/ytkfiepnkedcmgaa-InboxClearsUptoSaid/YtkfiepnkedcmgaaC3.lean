import Derived.Test.YtkfiepnkedcmgaaC2
import Derived.Scope
import Derived.Laws.Strings
import Derived.Test.YtkfiepnkedcmgaaRows
import Derived.ProofKit
import Derived.OpenShut
import Derived.JoinedCond
import Derived.Laws.Bits64
import Derived.Laws.BitsLemmas
set_option linter.unusedVariables false
set_option linter.unusedSimpArgs false
set_option linter.unnecessarySimpa false
section
namespace Go.Mach
open Go.RowKit
open Classical
section
variable {P:Program} {mt:Bool} {nt:Nat} {ops:Array Oper} {call:CallF} {bs:Nat} {ds:List Deferred} {r0:Option Nat} {n0:Nat}
theorem getD_false_true {l:Array Bool} {j:Nat} (hj:j<l.size):l.getD j false=l.getD j true:=by simp [Array.getD_eq_getD_getElem?,hj]
theorem anc_listed {ops:Array Oper} (hE:okEdges 0 ops.toList=true) {listed:Array Bool}
  (hcl:∀ (j:Nat) o,ops[j]?=some o→listed.getD j false=true→∀ e∈o.after,Region.binds .any e=true→listed.getD e.on false=true) :
  ∀ (j:Nat) o,ops[j]?=some o→(∀ e∈o.after,Region.binds .any e=true→listed.getD e.on false=true)→∀ i,((masks ops.toList []).getD j 0).testBit i=true→listed.getD i false=true:=by
 intro j
 induction j using Nat.strongRecOn with
 | ind j ih=>
  intro o ho hr i hi
  have ho':ops.toList[j]?=some o:=by simpa using ho
  have hm:=masks_get ops.toList [] (by simpa using hE) j o ho'
  simp only [List.length_nil,Nat.zero_add] at hm
  rw [hm] at hi
  obtain ⟨e,he,hb,h1⟩:=maskOf_bit hi
  have hl:=hr e he hb
  rcases h1 with rfl | h1
  ·exact hl
  ·have hlt:=okEdges_get _ _ hE j o ho' e he hb
   rw [Nat.zero_add] at hlt
   have hsz:j<ops.size:=(zqN.1 ho).1
   have ho2:ops[e.on]?=some ops[e.on]:=Array.getElem?_eq_getElem (by omega)
   exact ih e.on hlt _ ho2 (fun e' he' hb'=>hcl _ _ ho2 hl e' he' hb') i h1
def Lp (z:List (Nat × AOper)) (n:Nat) (listed:Array Bool) (p:Nat):Prop:=p<n∧listed.getD (zord z p) false=true
noncomputable def unl (n:Nat) (listed:Array Bool):List Nat:=(List.range n).filter fun j=>!listed.getD j false
theorem any_loop {g0:Gh} {ow0:Nat→Option Nat} {w0:World} {R:Nat→Regs} {H:Nat→Heap} {Q:Exit→Act→World→Prop} {z:List (Nat × AOper)}
  (hP:Plan P mt nt ops ops.size (zord z) (zanc ops.size (masks ops.toList []) z) (zao z)) (hE:okEdges 0 ops.toList=true) (hcall:CallOK P call)
  (hst:∀ i,i<ops.size→StepR call bs (zao z i) (R i) (H i) (R (i+1)) (H (i+1))) (h0:HR g0 ow0 (H 0) w0) (hbs:bs≤(H 0).length) (hnt:nt≤(R 0).length)
  (hQ:∀ g' ow' a' w',RR g' (R ops.size) a'.tmps→a'.defers=ds→HR g' ow' (H ops.size) w'→St bs g0 ow0 (H 0) w0 g' ow' (H ops.size) w'→Q .normal a' w') :
  ∀ (fuel:Nat) (listed:Array Bool) (a:Act) (w:World),listed.size=ops.size→(unl ops.size listed).length≤fuel →
   (∀ (j:Nat) o,ops[j]?=some o→listed.getD j false=true→∀ e∈o.after,Region.binds .any e=true→listed.getD e.on false=true) →
   Inv ds bs R H ops.size (zao z) g0 ow0 w0 (Lp z ops.size listed) a w→wpAnyIn (rnd r0) n0 P .any ops Q fuel listed a w:=by
 have hend:∀ (listed:Array Bool) (a:Act) (w:World),listed.size=ops.size→Region.ready .any ops listed=[] →
   Inv ds bs R H ops.size (zao z) g0 ow0 w0 (Lp z ops.size listed) a w→Q .normal a w:=by
  intro listed a w hs hr hI
  have hall:∀ j,j<ops.size→listed.getD j false=true:=by
   intro j
   induction j using Nat.strongRecOn with
   | ind j ih=>
    intro hj
    cases hl:listed.getD j false with
    | true=>rfl
    | false=>
     have:j∈Region.ready .any ops listed:=mem_ready.2 ⟨by rw [←getD_false_true (by omega)]; exact hl,_,Array.getElem?_eq_getElem hj,fun e he hb=>by
      have hlt:=okEdges_get _ _ hE j _ (by simpa using (Array.getElem?_eq_getElem hj)) e he hb
      rw [Nat.zero_add] at hlt
      exact ih e.on hlt (by omega)⟩
     rw [hr] at this; cases this
  obtain ⟨g,ow,k,h,hk⟩:=hI
  have hkn:k=ops.size:=by
   rcases Nat.lt_or_ge k ops.size with hlt | hge
   ·exact absurd ⟨hlt,hall _ (hP.lt k hlt)⟩ (h.E2 k (Nat.le_refl _) hlt (hk hlt))
   ·have:=h.le; omega
  subst hkn
  have hl:=R_len hst _ (Nat.le_refl _)
  refine hQ g ow a w (h.rr.congr (by rw [mixR_len,hl]) fun t=>?_) h.df h.hr h.st
  rw [mixR_get hl]
  split
  ·rfl
  ·rename_i hn
   exact R_keep hst _ (Nat.zero_le _) (Nat.le_refl _) fun q _ hq hd=>hn ⟨q,hq,⟨hq,hall _ (hP.lt q hq)⟩,hd⟩
 intro fuel
 induction fuel with
 | zero=>
  intro listed a w hs hf hcl hI
  have hr:Region.ready .any ops listed=[]:=by
   cases hr:Region.ready .any ops listed with
   | nil=>rfl
   | cons j l=>
    have hj:j∈Region.ready .any ops listed:=by rw [hr]; exact List.mem_cons_self
    obtain ⟨h1,o,ho,_⟩:=mem_ready.1 hj
    have hjn:j<ops.size:=(zqN.1 ho).1
    have:j∈unl ops.size listed:=List.mem_filter.2 ⟨by simpa using hjn,by rw [getD_false_true (by omega),h1]; rfl⟩
    have hz:unl ops.size listed=[]:=List.eq_nil_of_length_eq_zero (by omega)
    rw [hz] at this; cases this
  exact ⟨hr,hend listed a w hs hr hI⟩
 | succ fuel ih=>
  intro listed a w hs hf hcl hI
  refine ⟨fun hr=>hend listed a w hs hr hI,fun j hj=>?_⟩
  obtain ⟨h1,o,ho,hready⟩:=mem_ready.1 hj
  have hjn:j<ops.size:=(zqN.1 ho).1
  have h1':listed.getD j false=false:=by rw [getD_false_true (by omega)]; exact h1
  obtain ⟨p,hp,rfl⟩:=hP.sur j hjn
  have hset:∀ i,(listed.setIfInBounds (zord z p) true).getD i false=(decide (i=zord z p) || listed.getD i false):=fun i=>by
   by_cases hi:i=zord z p
   ·subst hi; simp [Array.getD_eq_getD_getElem?,hs,hjn]
   ·rw [getD_set_ne false (Ne.symm hi)]; simp [hi]
  have hLeq:(fun q=>Lp z ops.size listed q∨q=p)=Lp z ops.size (listed.setIfInBounds (zord z p) true):=by
   funext q
   apply propext
   simp only [Lp,hset,Bool.or_eq_true,decide_eq_true_eq]
   constructor
   ·rintro (⟨h2,h3⟩ | rfl)
    ·exact ⟨h2,.inr h3⟩
    ·exact ⟨hp,.inl rfl⟩
   ·rintro ⟨h2,h3 | h3⟩
    ·exact .inr (hP.inj q p h2 hp h3)
    ·exact .inl ⟨h2,h3⟩
  refine wpOpIn_mono (fun a' w' hI'=>?_) (step_any (r0:=r0) (n0:=n0) (ds:=ds) (L:=Lp z ops.size listed) hP hcall hst h0 hbs hnt hp (fun h2=>by rw [h2.2] at h1'; cases h1') (fun q hq=>?_) (fun q r hq hr ha hLr=>?_) hI)
  ·refine ih _ a' w' (by simpa using hs) ?_ ?_ (by rw [←hLeq]; exact hI')
   ·have:(unl ops.size (listed.setIfInBounds (zord z p) true)).length<(unl ops.size listed).length:=by
     have e:unl ops.size (listed.setIfInBounds (zord z p) true)=(unl ops.size listed).filter fun i=>!decide (i=zord z p):=by
      unfold unl
      rw [List.filter_filter]
      congr 1; funext i
      rw [hset,Bool.not_or]
     rw [e]
     have hle:=List.length_filter_le (fun i=>!decide (i=zord z p)) (unl ops.size listed)
     rcases Nat.lt_or_ge ((unl ops.size listed).filter fun i=>!decide (i=zord z p)).length (unl ops.size listed).length with hlt | hge
     ·exact hlt
     ·have:=List.length_filter_eq_length_iff.1 (Nat.le_antisymm hle hge) (zord z p) (List.mem_filter.2 ⟨by simpa using hjn,by rw [h1']; rfl⟩)
      simp at this
    omega
   ·intro i o' ho' hl e he hb
    rw [hset,Bool.or_eq_true] at hl ⊢
    refine .inr ?_
    rcases hl with hl | hl
    ·have:i=zord z p:=by simpa using hl
     subst this
     rw [ho] at ho'; injection ho' with ho'; subst ho'
     exact hready e he hb
    ·exact hcl i o' ho' hl e he hb
  ·exact ⟨hq.1,anc_listed hE hcl _ o ho hready _ hq.2⟩
  ·have hlt:=hP.lt r hr
   have ho2:ops[zord z r]?=some ops[zord z r]:=Array.getElem?_eq_getElem hlt
   exact ⟨hq,anc_listed hE hcl _ _ ho2 (fun e he hb=>hcl _ _ ho2 hLr.2 e he hb) _ ha.2⟩
theorem region_any (hm:P.follows .mixedOrders=true) (hcall:CallOK P call) {asq:List AOper} (hc:compD P mt nt ops=some asq) {ρ ρ':Regs} {σ σ':Heap} (hx:runOps call bs asq ρ σ=some (ρ',σ'))
  {g:Gh} {ow:Nat→Option Nat} {a:Act} {w:World} (h:HR g ow σ w) (hbs:bs≤σ.length) (hR:RR g ρ a.tmps) (hd:a.defers=ds) (hnt:nt≤ρ.length) {Q:Exit→Act→World→Prop} {id:Nat}
  (hQ:∀ g' ow' a' w',RR g' ρ' a'.tmps→a'.defers=ds→HR g' ow' σ' w'→St bs g ow σ w g' ow' σ' w'→Q .normal a' w') :
  (Code.region id ops true).wpIn (rnd r0) n0 P Q a w:=by
 unfold compD at hc
 obtain ⟨as0,ha,hc⟩:=zqH.1 hc
 split at hc
 ·rename_i hE
  obtain ⟨z,hz,rfl⟩:=zqG.1 hc
  obtain ⟨hlen,hP⟩:=plan_of ha hz
  obtain ⟨R,H,e1,e2,e3,e4,hst⟩:=run_steps _ _ _ _ _ hx
  have hst':∀ i,i<ops.size→StepR call bs (zao z i) (R i) (H i) (R (i+1)) (H (i+1)):=fun i hi=>hst i _ (by
   rw [List.getElem?_map]; unfold zao; rw [List.getD_eq_getElem?_getD,zqF (by omega)]; rfl)
  rw [List.length_map,hlen] at e3 e4
  refine wpIn_region_any hm (any_loop (ds:=ds) (g0:=g) (ow0:=ow) (w0:=w) hP hE hcall hst' (by rw [e2]; exact h) (by rw [e2]; exact hbs) (by rw [e1]; exact hnt)
   (fun g' ow' a' w'=>by rw [e2,e3,e4]; exact hQ g' ow' a' w') ops.size _ a _ (by simp) ?_ ?_ ?_)
  ·unfold unl
   exact Nat.le_trans (List.length_filter_le _ _) (by simp)
  ·intro j o ho hl
   simp [Array.getD_eq_getD_getElem?] at hl
   rcases Nat.lt_or_ge j ops.size with h1 | h1
   ·simp [h1] at hl
   ·simp [Nat.not_lt.2 h1] at hl
  ·have:Lp z ops.size (Array.replicate ops.size false)=fun _=>False:=by
    funext p; apply propext
    simp only [Lp,iff_false]
    rintro ⟨_,hl⟩
    simp only [Array.getD_eq_getD_getElem?,Array.getElem?_replicate] at hl
    split at hl <;> simp at hl
   rw [this]
   exact inv_start hst' (by rw [e2]; exact h) e1 ⟨rfl,rfl,rfl⟩ rfl hR hd
 ·cases hc
end
end Go.Mach
end
section
namespace Go.Mach
open Go.RowKit
def stuckC:ACode:=.cond (.c .nilptr) .skip .skip
theorem exec_stuck {call:CallF} {k bs:Nat} {ρ:Regs} {σ:Heap}:exec call k bs stuckC ρ σ=none:=rfl
def labsA:ACode→List Nat
 | .lab l=>[l]
 | .seq a b=>labsA a++labsA b
 | _=>[]
def findA:ACode→Nat→Option ACode
 | .seq a b,l=>match findA a l with
  | some rest=>some (.seq rest b)
  | none=>findA b l
 | .lab l',l=>if l'=l then some .skip else none
 | _,_=>none
def scopeA (x:ACode):ACode:=match labsA x with
 | [l]=>match findA x l with
  | some y=>.scope x l y
  | none=>stuckC
 | _=>stuckC
def noRf:ACode→Bool
 | .seq a b=>noRf a && noRf b
 | .cond _ a b=>noRf a && noRf b
 | .block _ b=>noRf b
 | .loop b=>noRf b
 | .scope _ _ _=>false
 | .rfn _ _=>false
 | _=>true
def compC (P:Program) (mt:Array Oper→Bool) (nt:Nat):Code→Option ACode
 | .skip=>some .skip
 | .label l=>some (.lab l)
 | .region _ ops draw=>if draw then some (((compD P (mt ops) nt ops).map .region).getD stuckC) else some (((ops.toList.mapM (compOper P (mt ops) ops)).map .region).getD stuckC)
 | .seq a b=>(compC P mt nt a).bind fun x=>(compC P mt nt b).map fun y=>.seq x y
 | .cond c a b=>(cx c).bind fun z=>(compC P mt nt a).bind fun x=>(compC P mt nt b).map fun y=>.cond z x y
 | .block id b=>if id<gno then (compC P mt nt b).map (.block id) else some stuckC
 | .loop b=>(compC P mt nt b).map .loop
 | .exit id=>if id<gno then some (.exit id) else some stuckC
 | .goto l=>some (.exit (gno+l))
 | .scope b=>(compC P mt nt b).map scopeA
 | .rangeFunc f ps asg b=>(cx f).map fun x=>.rfn x ⟨ps,asg,b⟩
 | .ret=>some .ret
 | _=>some stuckC
theorem findA_of {P:Program} {mt:Array Oper→Bool} {nt:Nat}:∀ (c:Code) (x:ACode),compC P mt nt c=some x→∀ l,(∀ r,findLabel c l=some r→∃ y,findA x l=some y)∧(findLabel c l=none→findA x l=none)∧(findLabel c l≠none→l∈labsA x)
 | .seq a b,x,hc,l=>by
  simp only [compC] at hc
  obtain ⟨xa,ha,hc⟩:=zqH.1 hc
  obtain ⟨xb,hb,rfl⟩:=zqG.1 hc
  obtain ⟨a1,a2,a3⟩:=findA_of a xa ha l
  obtain ⟨b1,b2,b3⟩:=findA_of b xb hb l
  simp only [findLabel,findA,labsA,List.mem_append]
  cases hfa:findLabel a l with
  | some ra=>
   obtain ⟨y,hy⟩:=a1 ra hfa
   simp [hy,a3 (by rw [hfa]; simp)]
  | none=>
   rw [a2 hfa]
   exact ⟨b1,b2,fun h=>.inr (b3 h)⟩
 | .label l',x,hc,l=>by
  simp only [compC] at hc; injection hc with hc; subst hc
  simp only [findLabel,findA,labsA]
  by_cases h:l'=l
  ·subst h; simp
  ·simp [h]
 | .skip,x,hc,l=>by simp only [compC] at hc; injection hc with hc; subst hc; simp [findLabel,findA]
 | .region id ops draw,x,hc,l=>by
  have hx:findA x l=none:=by
   cases draw <;> simp only [compC,if_true,Bool.false_eq_true,if_false] at hc <;> injection hc with hc <;> subst hc
   ·cases ops.toList.mapM (compOper P (mt ops) ops) <;> rfl
   ·cases compD P (mt ops) nt ops <;> rfl
  simp [findLabel,hx]
 | .cond c a b,x,hc,l=>by
  simp only [compC] at hc
  obtain ⟨z,_,hc⟩:=zqH.1 hc
  obtain ⟨xa,_,hc⟩:=zqH.1 hc
  obtain ⟨xb,_,rfl⟩:=zqG.1 hc
  simp [findLabel,findA]
 | .block id b,x,hc,l=>by
  simp only [compC] at hc
  split at hc
  ·obtain ⟨xb,_,rfl⟩:=zqG.1 hc; simp [findLabel,findA]
  ·injection hc with hc; subst hc; simp [findLabel,findA,stuckC]
 | .loop b,x,hc,l=>by
  simp only [compC] at hc
  obtain ⟨xb,_,rfl⟩:=zqG.1 hc; simp [findLabel,findA]
 | .exit id,x,hc,l=>by
  simp only [compC] at hc
  split at hc <;> injection hc with hc <;> subst hc <;> simp [findLabel,findA,stuckC]
 | .goto _,x,hc,l=>by simp only [compC] at hc; injection hc with hc; subst hc; simp [findLabel,findA]
 | .scope b,x,hc,l=>by
  simp only [compC] at hc
  obtain ⟨xb,_,rfl⟩:=zqG.1 hc
  have:findA (scopeA xb) l=none:=by
   unfold scopeA
   split
   ·split <;> rfl
   ·rfl
  simp [findLabel,this]
 | .rangeFunc _ _ _ _,x,hc,l=>by
  simp only [compC] at hc
  obtain ⟨xb,_,rfl⟩:=zqG.1 hc; simp [findLabel,findA]
 | .ret,x,hc,l=>by simp only [compC] at hc; injection hc with hc; subst hc; simp [findLabel,findA]
 | .refuse _,x,hc,l=>by simp only [compC] at hc; injection hc with hc; subst hc; simp [findLabel,findA,stuckC]
def toExit:AExit→Exit
 | .normal=>.normal
 | .exit id=>if id<gno then .exit id else .goto (id - gno)
 | .ret=>.ret
def mkD (D:Nat):Deferred:={target:=.collected D,args:=#[]}
structure NewD (n:Nat) (ow:Nat→Option Nat) (w:World) (Ds:List Nat):Prop where
 nd:Ds.Nodup
 pt:∀ D∈Ds,n≤D∧ow D=none∧w.heap[D]?=some (.deferred (some []))
theorem NewD.nil {n ow w}:NewD n ow w []:=⟨.nil,fun D h=>by simp at h⟩
theorem NewD.trans {n bs g1 ow1 σ1 w1 g2 ow2 σ2 w2 Ds1 Ds2} (h:NewD n ow1 w1 Ds1) (s:St bs g1 ow1 σ1 w1 g2 ow2 σ2 w2) (k:NewD w1.heap.size ow2 w2 Ds2) (hn:n≤w1.heap.size):NewD n ow2 w2 (Ds2++Ds1):=by
 refine ⟨List.nodup_append.2 ⟨k.nd,h.nd,fun a ha b hb e=>?_⟩,fun D hD=>?_⟩
 ·subst e
  have h1:=(k.pt a ha).1
  have h2:=(zqN.1 (h.pt a hb).2.2).1
  omega
 ·rcases List.mem_append.1 hD with hD | hD
  ·obtain ⟨a,b,c⟩:=k.pt D hD; exact ⟨by omega,b,c⟩
  ·obtain ⟨a,b,c⟩:=h.pt D hD
   obtain ⟨d,e⟩:=s.frame D (zqN.1 c).1 b
   exact ⟨a,e,d.trans c⟩
def Post (bs:Nat) (g:Gh) (ow:Nat→Option Nat) (σ:Heap) (w:World) (ds:List Deferred) (r:St3) (ex:Exit) (a':Act) (w':World):Prop:=
 ex=toExit r.1∧∃ g' ow' Ds,RR g' r.2.1 a'.tmps∧a'.defers=Ds.map mkD++ds∧NewD w.heap.size ow' w' Ds∧HR g' ow' r.2.2 w'∧St bs g ow σ w g' ow' r.2.2 w'
theorem Post.here {bs g ow σ w r} {a:Act} (hR:RR g r.2.1 a.tmps) (hH:HR g ow r.2.2 w) (e:r.2.2=σ):Post bs g ow σ w a.defers r (toExit r.1) a w:=
 ⟨rfl,g,ow,[],hR,rfl,.nil,hH,by rw [e]; exact .refl ..⟩
theorem Post.after {bs g ow σ w g1 ow1 σ1 w1 r ex a' w' ds Ds1} {a1:Act} (s:St bs g ow σ w g1 ow1 σ1 w1) (d:a1.defers=Ds1.map mkD++ds) (n:NewD w.heap.size ow1 w1 Ds1) (h:Post bs g1 ow1 σ1 w1 a1.defers r ex a' w'):Post bs g ow σ w ds r ex a' w':=by
 obtain ⟨h1,g',ow',Ds,h2,h3,h4,h5,h6⟩:=h
 exact ⟨h1,g',ow',Ds++Ds1,h2,by rw [h3,d]; simp,n.trans h6 h4 s.size,h5,s.trans h6⟩
section
variable {P:Program} {mt:Array Oper→Bool} {nt:Nat} {call:CallF} {bs k:Nat} {r0:Option Nat}
def CodeOK (P:Program) (call:CallF) (k bs nt:Nat) (r0:Option Nat) (c:Code) (ac:ACode):Prop:=∀ ρ σ r,exec call k bs ac ρ σ=some r→∀ g ow a w,HR g ow σ w→bs≤σ.length→RR g ρ a.tmps→nt≤ρ.length →
 r.2.1.length=ρ.length∧c.wpIn (rnd r0) 0 P (Post bs g ow σ w a.defers r) a w
theorem room_rnd (r:Option Nat) (n:Nat):(rnd r).room n:=fun d hd=>by cases hd
theorem calm_rnd {r:Option Nat} {fr:Frame} {cs:List Frame} {w:World}:(lone fr cs w).fenced P (rnd r):=by
 intro g _
 exact ⟨(fun h=>by cases h),Or.inl trivial,(fun _ _=>trivial),(fun _ h=>by cases h)⟩
theorem wpIn_at {c:Code} {Q:Exit→Act→World→Prop} {a:Act} {w:World} (h:c.wpIn (rnd r0) 0 P Q a w):∃ e a' w',Q e a' w':=by
 obtain ⟨e,a',w',hq,_⟩:=h {(default:Frame) with roundOf:=r0} [] [] rfl trivial (room_rnd _ _)
 exact ⟨e,a',w',hq⟩
theorem loop_at {c:Code} {ac:ACode} (h:CodeOK P call k bs nt r0 c ac):∀ (n:Nat) ρ σ r,loopN (exec call k bs ac) n ρ σ=some r→∀ g ow a w,HR g ow σ w→bs≤σ.length→RR g ρ a.tmps→nt≤ρ.length →
  r.2.1.length=ρ.length∧∀ (b:Frame) (fk:List Item) (cs:List Frame),b.roundOf=r0→∃ e a' w',Post bs g ow σ w a.defers r e a' w'∧ArrivesIn (Machine.fenced P (rnd r0)) P (lone (b.atR a (.code c :: .inLoop c :: fk)) cs w) b fk cs e a' w'
 | 0,ρ,σ,r,hx,_,_,_,_,_,_,_,_=>by simp [loopN] at hx
 | n+1,ρ,σ,r,hx,g,ow,a,w,h1,h2,h3,h5=>by
  simp only [loopN] at hx
  obtain ⟨⟨e,ρ1,σ1⟩,hr,hx⟩:=zqH.1 hx
  obtain ⟨hl,hwp⟩:=h _ _ _ hr g ow a w h1 h2 h3 h5
  cases e with
  | normal=>
   simp only at hx hl
   have key:∀ g1 ow1 a1 w1,RR g1 ρ1 a1.tmps→HR g1 ow1 σ1 w1→bs≤σ1.length→r.2.1.length=ρ1.length∧∀ (b:Frame) (fk:List Item) (cs:List Frame),b.roundOf=r0→∃ e a' w',Post bs g1 ow1 σ1 w1 a1.defers r e a' w'∧ArrivesIn (Machine.fenced P (rnd r0)) P (lone (b.atR a1 (.code c :: .inLoop c :: fk)) cs w1) b fk cs e a' w':=
    fun g1 ow1 a1 w1 k1 k3 k4=>loop_at h n ρ1 σ1 r hx g1 ow1 a1 w1 k3 k4 k1 (by omega)
   have hlen:r.2.1.length=ρ.length:=by
    obtain ⟨e,a1,w1,⟨_,g1,ow1,_,k1,_,_,k3,k4⟩⟩:=wpIn_at hwp
    rw [←hl]; exact (key g1 ow1 a1 w1 k1 k3 (Nat.le_trans h2 k4.len)).1
   refine ⟨hlen,fun b fk cs hro=>?_⟩
   obtain ⟨e,a1,w1,⟨he,g1,ow1,Ds,k1,kd,kn,k3,k4⟩,harr⟩:=hwp b (.inLoop c :: fk) cs hro trivial (room_rnd _ _)
   simp only [toExit] at he; subst he
   obtain ⟨e2,a2,w2,hq,harr2⟩:=(key g1 ow1 a1 w1 k1 k3 (Nat.le_trans h2 k4.len)).2 b fk cs hro
   exact ⟨e2,a2,w2,hq.after k4 kd kn,.of_steps (StepsIn.trans harr (.one calm_rnd stepR_inLoop)) harr2⟩
  | exit id=>
   simp only at hx; injection hx with hx; subst hx
   refine ⟨hl,fun b fk cs hro=>?_⟩
   obtain ⟨e,a1,w1,hq,harr⟩:=hwp b (.inLoop c :: fk) cs hro trivial (room_rnd _ _)
   have he:=hq.1; simp only [toExit] at he
   exact ⟨_,a1,w1,hq,.pass (x:=.inLoop c) rfl (fun _ _=>.inl (by rw [he]; split <;> simp)) harr⟩
  | ret=>
   simp only at hx; injection hx with hx; subst hx
   refine ⟨hl,fun b fk cs hro=>?_⟩
   obtain ⟨e,a1,w1,hq,harr⟩:=hwp b (.inLoop c :: fk) cs hro trivial (room_rnd _ _)
   have he:=hq.1; simp only [toExit] at he
   exact ⟨_,a1,w1,hq,.pass (x:=.inLoop c) rfl (fun _ _=>.inl (by rw [he]; simp)) harr⟩
theorem CodeOK.seq {x y:Code} {ax ay:ACode} (ihx:CodeOK P call k bs nt r0 x ax) (ihy:CodeOK P call k bs nt r0 y ay):CodeOK P call k bs nt r0 (.seq x y) (.seq ax ay):=by
 intro ρ σ r hx g ow a w h1 h2 h3 h5
 simp only [exec] at hx
 obtain ⟨⟨e,ρ1,σ1⟩,hr,hx⟩:=zqH.1 hx
 obtain ⟨hl,hwp⟩:=ihx _ _ _ hr g ow a w h1 h2 h3 h5
 simp only at hl
 cases e with
 | normal=>
  simp only [onNormal] at hx
  have key:=fun g1 ow1 a1 w1 k1 k2 k3=>ihy ρ1 σ1 r hx g1 ow1 a1 w1 k1 k2 k3 (by omega)
  refine ⟨?_,wpIn_seq (wpIn_mono hwp ?_)⟩
  ·obtain ⟨e,a1,w1,⟨_,g1,ow1,_,k1,_,_,k3,k4⟩⟩:=wpIn_at hwp
   rw [←hl]; exact (key g1 ow1 a1 w1 k3 (Nat.le_trans h2 k4.len) k1).1
  ·rintro e a1 w1 ⟨he,g1,ow1,Ds,k1,kd,kn,k3,k4⟩
   simp only [toExit] at he; subst he
   exact wpIn_mono (key g1 ow1 a1 w1 k3 (Nat.le_trans h2 k4.len) k1).2 fun e a2 w2 hq=>hq.after k4 kd kn
 | exit id=>
  simp only [onNormal] at hx; injection hx with hx; subst hx
  refine ⟨hl,wpIn_seq (wpIn_mono hwp ?_)⟩
  intro e a1 w1 hq
  have he:=hq.1; simp only [toExit] at he
  split at he <;> (subst he; exact hq)
 | ret=>
  simp only [onNormal] at hx; injection hx with hx; subst hx
  refine ⟨hl,wpIn_seq (wpIn_mono hwp ?_)⟩
  intro e a1 w1 hq
  have he:=hq.1; simp only [toExit] at he; subst he
  exact hq
theorem scope_at {c rest : Code} {arest : ACode} {l : Nat} (hf : findLabel c l = some rest) (hno : ∀ l', l' ≠ l → findLabel c l' = none) (hrest : CodeOK P call k bs nt none rest arest) :
    ∀ (n : Nat) (r1 r : St3), scopeN l (exec call k bs arest) n r1 = some r → ∀ g ow a w, HR g ow r1.2.2 w → bs ≤ r1.2.2.length → RR g r1.2.1 a.tmps → nt ≤ r1.2.1.length →
      r.2.1.length = r1.2.1.length ∧ ∀ (m : Machine) (b : Frame) (fk : List Item) (cs : List Frame), b.roundOf = none → ArrivesIn (Machine.fenced P (rnd none)) P m b (.inScope c :: fk) cs (toExit r1.1) a w →
        ∃ e a' w', Post bs g ow r1.2.2 w a.defers r e a' w' ∧ ArrivesIn (Machine.fenced P (rnd none)) P m b fk cs e a' w' := by
  have hout : ∀ (r1 : St3) g ow (a : Act) w, gotoL r1.1 l = false → HR g ow r1.2.2 w → RR g r1.2.1 a.tmps → ∀ (m : Machine) (b : Frame) (fk : List Item) (cs : List Frame), b.roundOf = none → ArrivesIn (Machine.fenced P (rnd none)) P m b (.inScope c :: fk) cs (toExit r1.1) a w →
        ∃ e a' w', Post bs g ow r1.2.2 w a.defers r1 e a' w' ∧ ArrivesIn (Machine.fenced P (rnd none)) P m b fk cs e a' w' := by
    intro r1 g ow a w hg hH hR m b fk cs hro harr
    refine ⟨toExit r1.1, a, w, .here hR hH rfl, ?_⟩
    obtain ⟨e1, ρ1, σ1⟩ := r1
    cases e1 with
    | normal => exact StepsIn.trans harr (.one calm_rnd (by rw [Frame.atR_of_none hro, Frame.atR_of_none hro]; exact step_inScope))
    | ret => exact harr
    | exit id =>
      simp only [toExit] at harr ⊢
      split at harr
      · rename_i hlt
        rw [if_pos hlt]
        exact ⟨fun k' hk => harr.1 k' (by simpa [exitTo] using hk), fun hr hk => by rw [hro] at hr; cases hr⟩
      · rename_i hlt
        rw [if_neg hlt]
        have hne : id - gno ≠ l := fun e => by
          simp only [gotoL, decide_eq_false_iff_not] at hg
          omega
        have hgt : gotoIn (id - gno) (.inScope c :: fk) = gotoIn (id - gno) fk := by simp [gotoIn, hno _ hne]
        exact ⟨fun k' hk => harr.1 k' (by rw [hgt]; exact hk), fun hr hk => by rw [hro] at hr; cases hr⟩
  intro n
  induction n with
  | zero =>
    intro r1 r hx g ow a w hH hb hR hnt
    simp only [scopeN] at hx
    split at hx
    · cases hx
    · rename_i hg
      injection hx with hx; subst hx
      exact ⟨rfl, hout r1 g ow a w (by simpa using hg) hH hR⟩
  | succ n ih =>
    intro r1 r hx g ow a w hH hb hR hnt
    simp only [scopeN] at hx
    split at hx
    · rename_i hg
      obtain ⟨r2, hr2, hx⟩ := zqH.1 hx
      obtain ⟨hl2, hwp⟩ := hrest _ _ _ hr2 g ow a w hH hb hR hnt
      have key := fun g1 ow1 a1 w1 (k1 : HR g1 ow1 r2.2.2 w1) k2 k3 => ih r2 r hx g1 ow1 a1 w1 k1 k2 k3 (by omega)
      refine ⟨?_, fun m b fk cs hro harr => ?_⟩
      · obtain ⟨e, a1, w1, ⟨_, g1, ow1, _, k1, _, _, k3, k4⟩⟩ := wpIn_at hwp
        rw [← hl2]; exact (key g1 ow1 a1 w1 k3 (Nat.le_trans hb k4.len) k1).1
      · obtain ⟨e, a1, w1, ⟨he, g1, ow1, Ds, k1, kd, kn, k3, k4⟩, harr2⟩ := hwp b (.inScope c :: fk) cs hro trivial (room_rnd _ _)
        subst he
        have hto : toExit r1.1 = .goto l := by
          cases h1 : r1.1 with
          | exit id =>
            rw [h1] at hg
            simp only [gotoL, decide_eq_true_eq] at hg
            subst hg
            simp only [toExit]
            rw [if_neg (Nat.not_lt.2 (Nat.le_add_right _ _)), Nat.add_sub_cancel_left]
          | normal => rw [h1] at hg; cases hg
          | ret => rw [h1] at hg; cases hg
        rw [hto] at harr
        have hs := harr.1 _ (show gotoIn l (.inScope c :: fk) = some (.code rest :: .inScope c :: fk) by simp [gotoIn, hf])
        obtain ⟨e2, a2, w2, hq, harr3⟩ := (key g1 ow1 a1 w1 k3 (Nat.le_trans hb k4.len) k1).2 m b fk cs hro (.of_steps hs harr2)
        exact ⟨e2, a2, w2, hq.after k4 kd kn, harr3⟩
    · rename_i hg
      injection hx with hx; subst hx
      exact ⟨rfl, hout r1 g ow a w (by simpa using hg) hH hR⟩
theorem HR.alloc0 {g:Gh} {ow:Nat→Option Nat} {σ:Heap} {w:World} (h:HR g ow σ w) (o:Obj):∃ ow',(∀ b,b<w.heap.size→ow' b=ow b)∧ow' w.heap.size=none∧HR g ow' σ (w.alloc o)∧St bs g ow σ w g ow' σ (w.alloc o):=by
 have hold:∀ b,b<w.heap.size→(w.alloc o).heap[b]?=w.heap[b]?:=fun b hb=>by
  show (w.heap.push o)[b]?=_
  rw [Array.getElem?_push]; simp [Nat.ne_of_lt hb]
 have hsz:w.heap.size≤(w.alloc o).heap.size:=by show w.heap.size≤(w.heap.push o).size; simp
 refine ⟨fun b=>if b=w.heap.size then none else ow b,fun b hb=>if_neg (Nat.ne_of_lt hb),if_pos rfl,?_,?_⟩
 ·have how:∀ b,b<w.heap.size→(if b=w.heap.size then none else ow b)=ow b:=fun b hb=>if_neg (Nat.ne_of_lt hb)
  refine ⟨fun b i v hm=>(cell_congr (hold b (h.lt hm)) i).trans (h.mem b i v hm),fun id x hx=>⟨(h.dom id x hx).1,Nat.lt_of_lt_of_le (h.dom id x hx).2 hsz⟩,h.domψ,?_,?_,h.tle,?_,?_,h.pin.of fun b hb ho=>⟨hold b hb,(how b hb).trans ho⟩⟩
  ·intro id cs fz ext hσ b c hp
   have hb:=(h.dom id _ hp).2
   obtain ⟨cv,tag,fr,k0,k1,k2,k3,k4,k5,k6⟩:=h.cel id cs fz ext hσ b c hp
   exact ⟨cv,tag,fr,(hold b hb).trans k0,k1,k2,k3,k4,(how b hb).trans k5,k6⟩
  ·intro id n s' hσ b p c hp
   obtain ⟨cv,tag,fr,k0,k1,k2,k3,k4⟩:=h.tk id n s' hσ b p c hp
   have hb:b<w.heap.size:=(zqN.1 k0).1
   exact ⟨cv,tag,fr,(hold b hb).trans k0,k1,k2,(how b hb).trans k3,k4⟩
  ·intro id s' pos hσ b c hp
   obtain ⟨k0,k1⟩:=h.it id s' pos hσ b c hp
   have hb:=(h.dom id _ hp).2
   exact ⟨(hold b hb).trans k0,(how b hb).trans k1⟩
  ·intro id o' hsp hσ b c hp
   exact (h.bd id o' hsp hσ b c hp).keep (.refl _) fun b' ho hb'=>⟨hold b' hb',(how b' hb').trans ho,fun i hi=>hi⟩
 ·exact ⟨.refl g,rfl,rfl,rfl,hsz,fun b hb ho=>⟨hold b hb,by simp [Nat.ne_of_lt hb,ho]⟩,Nat.le_refl _,fun _ _ hh=>hh,fun _ _ _ _=>rfl,
   fun id _ hl cs fz ext hσ=>⟨cs,fz,ext,hσ,fun i x hx=>.inr ⟨hx,fun b c hp=>cell_congr (hold b (h.dom id _ hp).2) i⟩⟩⟩
theorem HR.res_all {g:Gh} {ow:Nat→Option Nat} {σ:Heap} {w:World} (h:HR g ow σ w) {n:Nat} (hn:σ.length≤n):g.le (g.res n):=
 ⟨fun id x hx=>by simp only [Gh.res]; rw [if_pos (by have:=(h.dom id x hx).1; omega)]; exact hx,fun id m x hx=>by simp only [Gh.res]; rw [if_pos (by have:=h.domψ id m x hx; omega)]; exact hx,fun _ _ _ h=>h⟩
theorem HR.lpTo {g:Gh} {ow:Nat→Option Nat} {σ:Heap} {w:World} (h:HR g ow σ w) {id l c:Nat} (hp:g.φ id=some (l,c)) {rc:RCode} {tm:List AV} {st:LoopState} {pd:Option Code} (hσ:σ[id]?=some (.lp rc tm st pd)) :
  ∃ rec:Loop,w.heap[l]?=some (.loop rec)∧(rec.params=rc.params∧rec.assign=rc.assign∧rec.body=rc.body∧rec.state=st∧rec.pending=pd)∧RR (g.res id) tm rec.tmps ∧
   ∀ st' pd',HR g ow (σ.set id (.lp rc tm st' pd')) (w.putObj l (.loop {rec with state:=st',pending:=pd'}))∧St bs g ow σ w g ow (σ.set id (.lp rc tm st' pd')) (w.putObj l (.loop {rec with state:=st',pending:=pd'})):=by
 obtain ⟨rec,h1,h2,h3,h4,h5,h6⟩:LpAt g ow id l rc tm st pd w:=h.bd id _ rfl hσ l c hp
 refine ⟨rec,h1,h2,⟨h3,h4⟩,fun st' pd'=>?_⟩
 have hlt:l<w.heap.size:=(zqN.1 h1).1
 refine h.spTo (v:=.bool true) (w':=w.putObj l (.loop {rec with state:=st',pending:=pd'})) (o':=.lp rc tm st' pd') hp h5 h6 (fun k hk=>by simp [Value.ownBlock] at hk) ⟨rfl,rfl,rfl⟩ (by simp [World.putObj]) (fun k hk hne _=>World.putObj_heap_other hne) (fun _ _=>rfl) (.inr ⟨rfl,?_⟩)
 exact ⟨{rec with state:=st',pending:=pd'},World.putObj_heap_same hlt,⟨h2.1,h2.2.1,h2.2.2.1,rfl,rfl⟩,h3,h4,h5,h6⟩
theorem rfn_sound (hcall:CallOK P call) {f:Operand} {ps:Array Tmp} {asg b:Code} {x:AX} (hz:cx f=some x):CodeOK P call k bs nt none (.rangeFunc f ps asg b) (.rfn x ⟨ps,asg,b⟩):=by
 intro ρ σ y hx g ow a w h1 h2 h3 h5
 simp only [exec] at hx
 split at hx
 ·rename_i fn caps hfx
  obtain ⟨⟨v,σ2⟩,hcn,hend⟩:=zqH.1 hx
  unfold callN at hcn
  split at hcn
  ·cases hcn
  ·rename_i hne
   have hv:=ev_VR h3 hz
   rw [hfx] at hv
   generalize hcx:a.eval f=cv at hv
   cases hv with
   | @func _ _ vs hl hV=>
    obtain ⟨hent,hcl⟩:=hcall.fn _ _ _ _ _ _ hne hcn (by simp; omega)
    have hlen:y.2.1=ρ:=by
     unfold endLp at hend
     split at hend
     ·split at hend
      ·cases hend
      ·obtain ⟨e,_,hend⟩:=zqH.1 hend
       split at hend
       ·split at hend
        ·injection hend with hend; subst hend; rfl
        ·cases hend
       ·injection hend with hend; subst hend; rfl
     ·cases hend
    refine ⟨by rw [hlen],wpIn_rangeFunc fun fid _=>?_⟩
    obtain ⟨ow1,o1,o2,hH1,hS1⟩:=h1.alloc0 (bs:=bs) (.deferred (some []))
    obtain ⟨rec,hrec⟩:∃ rec:Loop,rec={state:=.ready,pending:=none,fn:=fid,tmps:=a.tmps,params:=ps,assign:=asg,body:=b,defers:=w.heap.size}:=⟨_,rfl⟩
    obtain ⟨W2,hW2⟩:∃ W2,(w.alloc (.deferred (some []))).alloc (.loop rec)=W2:=⟨_,rfl⟩
    have hsz1:(w.alloc (.deferred (some []))).heap.size=w.heap.size+1:=World.size_alloc ..
    have hn:=hH1.none_len (Nat.le_refl σ.length)
    have hW2h:W2.heap=(w.alloc (.deferred (some []))).heap.push (.loop rec):=by rw [←hW2]; rfl
    have hH2:HR (g.put σ.length (w.heap.size+1) 0) (upd ow1 (w.heap.size+1) σ.length) (σ++[.lp ⟨ps,asg,b⟩ ρ .ready none]) W2:=by
     rw [←hsz1]
     refine hH1.newAt hW2h hn.1 (by simp) (by simp) (by simp) (fun j hj _=>zqA hj) (fun j hj _=>hH1.none_len hj) 0 (fun cs fz ext e=>by simp at e) (fun s pos e=>by simp at e) (fun o' hsp e=>?_)
     simp at e; subst e
     refine .inr (.inr ⟨_,_,_,_,rec,rfl,rfl,by rw [hrec]; exact ⟨rfl,rfl,rfl,rfl,rfl⟩,by rw [hrec]; exact h3.len,fun t=>?_⟩)
     rw [hrec]
     exact (h3.val t).mono (hH1.res_all (Nat.le_refl _))
    have hS2:St bs g ow1 σ (w.alloc (.deferred (some []))) (g.put σ.length (w.heap.size+1) 0) (upd ow1 (w.heap.size+1) σ.length) (σ++[.lp ⟨ps,asg,b⟩ ρ .ready none]) W2:=by
     rw [←hsz1]
     exact St.newAt hH1 hW2h (by rw [←hW2]; exact ⟨rfl,rfl,rfl⟩) (Nat.le_refl _) (by simp) (fun j hj _=>zqA hj) 0
    have hp2:(g.put σ.length (w.heap.size+1) 0).φ σ.length=some (w.heap.size+1,0):=by simp [Gh.put]
    refine ⟨w.heap.size+1,[mkD w.heap.size],W2,{target:=.fn (.func fn) vs,args:=#[.func (.yield (w.heap.size+1)) #[] #[]]},W2,fn,#[.func (.yield (w.heap.size+1)) #[] #[]]++vs,W2,?_,?_,fun _ _=>trivial,?_,(fun hh=>by cases hh),?_⟩
    ·rw [←hW2,hrec]; exact run_enterLoop_outer _ _ _ _ _
    ·simp only [resolve,hcx]; simp [go_sem]
    ·have:=run_callFunc (P:=P) (w:=W2) hent (#[.func (.yield (w.heap.size+1)) #[] #[]]++vs)
     simp [invoke,this]
    ·refine callsIn_rnd ((hcl _ _ W2 _ hH2 ?_).mono ?_)
     ·have ha1:Args (g.put σ.length (w.heap.size+1) 0) [.yld σ.length] #[.func (.yield (w.heap.size+1)) #[] #[]]:=⟨rfl,fun i x c hx hc=>by cases i <;> simp at hx hc; subst hx hc; exact .yld hp2⟩
      exact ha1.append ⟨hl,fun i x v hx hv=>(hV i x v hx hv).mono (hS2.gle)⟩
     ·rintro e w3 ⟨cv3,g3,ow3,rfl,hV3,hH3,hS3⟩
      have hp3:=hS3.gle.φ _ _ hp2
      unfold endLp at hend
      split at hend
      ·rename_i rc tm st pd hσ2
       split at hend
       ·cases hend
       ·rename_i hbusy
        obtain ⟨rec3,k1,⟨k2,k3,k4,k5,k6⟩,_,hto⟩:=hH3.lpTo (bs:=bs) hp3 hσ2
        obtain ⟨hH4,hS4⟩:=hto .exhausted pd
        have hrun:=run_endLoop (P:=P) k1 (by rw [k5]; exact hbusy)
        have hw4:w3.putObj (w.heap.size+1) (.loop {rec3 with state:=.exhausted})=w3.putObj (w.heap.size+1) (.loop {rec3 with state:=.exhausted,pending:=pd}):=by rw [←k6]
        rw [hw4] at hrun
        have hSall:St bs g ow1 σ (w.alloc (.deferred (some []))) g3 ow3 _ _:=(hS2.trans hS3).trans hS4
        have hD:w.heap.size<(w.alloc (.deferred (some []))).heap.size:=by omega
        obtain ⟨f1,f2⟩:=hSall.frame _ hD o2
        have hpost:∀ e,y=(e,ρ,σ2.set σ.length (.lp rc tm .exhausted pd))→Post bs g ow σ w a.defers y (toExit e) {a with defers:=[mkD w.heap.size]++a.defers} (w3.putObj (w.heap.size+1) (.loop {rec3 with state:=.exhausted,pending:=pd})):=by
         rintro e rfl
         exact ⟨rfl,g3,ow3,[w.heap.size],h3.mono hSall.gle,rfl,⟨by simp,fun D hD=>by simp at hD; subst hD; exact ⟨Nat.le_refl _,f2,f1.trans (World.alloc_heap_new _ _)⟩⟩,hH4,hS1.trans hSall⟩
        refine ⟨pd,w3.putObj (w.heap.size+1) (.loop {rec3 with state:=.exhausted,pending:=pd}),by rw [k6] at hrun; exact hrun,?_⟩
        obtain ⟨e,he,hend⟩:=zqH.1 hend
        unfold pdX at he
        split at he
        ·injection he with he; subst he
         injection hend with hend
         exact hpost _ hend.symm
        ·injection he with he; subst he
         injection hend with hend
         exact wpIn_ret (hpost _ hend.symm)
        ·rename_i i
         injection he with he; subst he
         simp only at hend
         split at hend
         ·rename_i hi
          injection hend with hend
          have:=hpost _ hend.symm
          simp only [toExit,if_pos hi] at this
          exact wpIn_exit this
         ·cases hend
        ·cases he
      ·cases hend
 ·cases hx
theorem exec_sound2 (hm:P.follows .mixedOrders=true) (hcall:CallOK P call):∀ (c:Code) (ac:ACode),compC P mt nt c=some ac→r0=none∨noRf ac=true →
  CodeOK P call k bs nt r0 c ac∧∀ l rc,findLabel c l=some rc→∃ y,findA ac l=some y∧CodeOK P call k bs nt r0 rc y
 | .skip,ac,hc,_=>by
  simp only [compC] at hc; injection hc with hc; subst hc
  refine ⟨fun ρ σ r hx g ow a w h1 h2 h3 h5=>?_,fun l rc h=>by simp [findLabel] at h⟩
  simp only [exec] at hx; injection hx with hx; subst hx
  exact ⟨rfl,wpIn_skip (.here h3 h1 rfl)⟩
 | .label l',ac,hc,_=>by
  simp only [compC] at hc; injection hc with hc; subst hc
  refine ⟨fun ρ σ r hx g ow a w h1 h2 h3 h5=>?_,fun l rc h=>?_⟩
  ·simp only [exec] at hx; injection hx with hx; subst hx
   exact ⟨rfl,wpIn_label (.here h3 h1 rfl)⟩
  ·simp only [findLabel] at h
   split at h
   ·rename_i e
    have e:l'=l:=by simpa using e
    injection h with h; subst h e
    refine ⟨.skip,by simp [findA],fun ρ σ r hx g ow a w h1 h2 h3 h5=>?_⟩
    simp only [exec] at hx; injection hx with hx; subst hx
    exact ⟨rfl,wpIn_skip (.here h3 h1 rfl)⟩
   ·cases h
 | .exit id,ac,hc,_=>by
  refine ⟨?_,fun l rc h=>by simp [findLabel] at h⟩
  simp only [compC] at hc
  split at hc
  ·rename_i hid
   injection hc with hc; subst hc
   intro ρ σ r hx g ow a w h1 h2 h3 h5
   simp only [exec] at hx; injection hx with hx; subst hx
   have:=Post.here (bs:=bs) (r:=((.exit id:AExit),ρ,σ)) h3 h1 rfl
   simp only [toExit,if_pos hid] at this
   exact ⟨rfl,wpIn_exit this⟩
  ·injection hc with hc; subst hc
   intro ρ σ r hx; rw [exec_stuck] at hx; cases hx
 | .goto l,ac,hc,_=>by
  refine ⟨?_,fun l rc h=>by simp [findLabel] at h⟩
  simp only [compC] at hc; injection hc with hc; subst hc
  intro ρ σ r hx g ow a w h1 h2 h3 h5
  simp only [exec] at hx; injection hx with hx; subst hx
  have:=Post.here (bs:=bs) (r:=((.exit (gno+l):AExit),ρ,σ)) h3 h1 rfl
  simp only [toExit] at this
  rw [if_neg (Nat.not_lt.2 (Nat.le_add_right _ _)),Nat.add_sub_cancel_left] at this
  exact ⟨rfl,wpIn_goto this⟩
 | .ret,ac,hc,_=>by
  refine ⟨?_,fun l rc h=>by simp [findLabel] at h⟩
  simp only [compC] at hc; injection hc with hc; subst hc
  intro ρ σ r hx g ow a w h1 h2 h3 h5
  simp only [exec] at hx; injection hx with hx; subst hx
  exact ⟨rfl,wpIn_ret (.here (r:=((.ret:AExit),ρ,σ)) h3 h1 rfl)⟩
 | .region id ops draw,ac,hc,_=>by
  refine ⟨?_,fun l rc h=>by simp [findLabel] at h⟩
  intro ρ σ r hx g ow a w h1 h2 h3 h5
  cases draw with
  | true=>
   simp only [compC,if_true] at hc
   injection hc with hc
   cases has:compD P (mt ops) nt ops with
   | none=>rw [has] at hc; simp only [Option.map_none,Option.getD_none] at hc; subst hc; rw [exec_stuck] at hx; cases hx
   | some asq=>
   rw [has] at hc; simp only [Option.map_some,Option.getD_some] at hc; subst hc
   simp only [exec] at hx
   obtain ⟨⟨ρ',σ'⟩,hr,rfl⟩:=zqG.1 hx
   exact ⟨runOps_len hr,region_any hm hcall has hr h1 h2 h3 rfl h5 fun g' ow' a' w' k1 k2 k3 k4=>⟨rfl,g',ow',[],k1,k2,.nil,k3,k4⟩⟩
  | false=>
   simp only [compC,Bool.false_eq_true,if_false] at hc
   injection hc with hc
   cases has:ops.toList.mapM (compOper P (mt ops) ops) with
   | none=>rw [has] at hc; simp only [Option.map_none,Option.getD_none] at hc; subst hc; rw [exec_stuck] at hx; cases hx
   | some asq=>
   rw [has] at hc; simp only [Option.map_some,Option.getD_some] at hc; subst hc
   simp only [exec] at hx
   obtain ⟨⟨ρ',σ'⟩,hr,rfl⟩:=zqG.1 hx
   refine ⟨runOps_len hr,wpIn_region ?_⟩
   have:=ops_sound (P:=P) (r:=r0) (n:=0) (ds:=a.defers) (mt:=mt ops) (ops:=ops) hcall ops.toList asq 0 ρ σ g ow a w (fun j=>by simp) has hr h1 h2 h3 rfl (Q:=Post bs g ow σ w a.defers (.normal,ρ',σ')) fun g' ow' a' w' k1 k2 k3 k4=>⟨rfl,g',ow',[],k1,k2,.nil,k3,k4⟩
   simpa using this
 | .seq x y,ac,hc,hrf=>by
  simp only [compC] at hc
  obtain ⟨ax,hx',hc⟩:=zqH.1 hc
  obtain ⟨ay,hy',rfl⟩:=zqG.1 hc
  have ihx:=exec_sound2 hm hcall x ax hx' (hrf.imp (fun h=>h) fun h=>by simp only [noRf,zqL] at h; exact h.1)
  have ihy:=exec_sound2 hm hcall y ay hy' (hrf.imp (fun h=>h) fun h=>by simp only [noRf,zqL] at h; exact h.2)
  refine ⟨ihx.1.seq ihy.1,fun l rc h=>?_⟩
  simp only [findLabel] at h
  simp only [findA]
  split at h
  ·rename_i rest hr
   injection h with h; subst h
   obtain ⟨z,hz,hzok⟩:=ihx.2 l rest hr
   rw [hz]
   exact ⟨_,rfl,hzok.seq ihy.1⟩
  ·rename_i hr
   rw [(findA_of x ax hx' l).2.1 hr]
   exact ihy.2 l rc h
 | .cond c x y,ac,hc,hrf=>by
  refine ⟨?_,fun l rc h=>by simp [findLabel] at h⟩
  simp only [compC] at hc
  obtain ⟨z,hz,hc⟩:=zqH.1 hc
  obtain ⟨ax,hx',hc⟩:=zqH.1 hc
  obtain ⟨ay,hy',rfl⟩:=zqG.1 hc
  have ihx:=(exec_sound2 hm hcall x ax hx' (hrf.imp (fun h=>h) fun h=>by simp only [noRf,zqL] at h; exact h.1)).1
  have ihy:=(exec_sound2 hm hcall y ay hy' (hrf.imp (fun h=>h) fun h=>by simp only [noRf,zqL] at h; exact h.2)).1
  intro ρ σ r hx g ow a w h1 h2 h3 h5
  simp only [exec] at hx
  have hv:=ev_VR h3 hz
  split at hx
  ·rename_i e0; rw [e0] at hv
   obtain ⟨hl,hwp⟩:=ihx _ _ _ hx g ow a w h1 h2 h3 h5
   exact ⟨hl,wpIn_cond_true hv.boolv hwp⟩
  ·rename_i e0; rw [e0] at hv
   obtain ⟨hl,hwp⟩:=ihy _ _ _ hx g ow a w h1 h2 h3 h5
   exact ⟨hl,wpIn_cond_false hv.boolv hwp⟩
  ·cases hx
 | .block id c,ac,hc,hrf=>by
  refine ⟨?_,fun l rc h=>by simp [findLabel] at h⟩
  simp only [compC] at hc
  split at hc
  ·rename_i hid
   obtain ⟨ax,hx',rfl⟩:=zqG.1 hc
   have ih:=(exec_sound2 hm hcall c ax hx' (hrf.imp (fun h=>h) fun h=>by simpa only [noRf] using h)).1
   intro ρ σ r hx g ow a w h1 h2 h3 h5
   simp only [exec] at hx
   obtain ⟨⟨e,ρ1,σ1⟩,hr,rfl⟩:=zqG.1 hx
   obtain ⟨hl,hwp⟩:=ih _ _ _ hr g ow a w h1 h2 h3 h5
   simp only at hl
   refine ⟨by cases e <;> simp only [outBlock] <;> first | exact hl | (split <;> exact hl),wpIn_block (wpIn_mono hwp ?_)⟩
   rintro e' a1 w1 ⟨he,hq⟩
   subst he
   cases e with
   | normal=>exact ⟨rfl,hq⟩
   | ret=>exact ⟨rfl,hq⟩
   | exit id'=>
    simp only [toExit]
    by_cases hlt:id'<gno
    ·rw [if_pos hlt]
     simp only [Exit.inBlock,outBlock]
     split
     ·exact ⟨rfl,hq⟩
     ·exact ⟨by simp only [toExit,if_pos hlt],hq⟩
    ·rw [if_neg hlt]
     have hne:id'≠id:=by omega
     simp only [Exit.inBlock,outBlock,if_neg hne]
     exact ⟨by simp only [toExit,if_neg hlt],hq⟩
  ·injection hc with hc; subst hc
   intro ρ σ r hx; rw [exec_stuck] at hx; cases hx
 | .loop c,ac,hc,hrf=>by
  refine ⟨?_,fun l rc h=>by simp [findLabel] at h⟩
  simp only [compC] at hc
  obtain ⟨ax,hx',rfl⟩:=zqG.1 hc
  have ih:=(exec_sound2 hm hcall c ax hx' (hrf.imp (fun h=>h) fun h=>by simpa only [noRf] using h)).1
  intro ρ σ r hx g ow a w h1 h2 h3 h5
  simp only [exec] at hx
  obtain ⟨hl,harr⟩:=loop_at ih k ρ σ r hx g ow a w h1 h2 h3 h5
  refine ⟨hl,fun b fk cs hro _ _=>?_⟩
  obtain ⟨e,a',w',hq,h6⟩:=harr b fk cs hro
  exact ⟨e,a',w',hq,.of_steps (.one calm_rnd stepR_loop) h6⟩
 | .scope c,ac,hc,hrf=>by
  refine ⟨?_,fun l rc h=>by simp [findLabel] at h⟩
  simp only [compC] at hc
  obtain ⟨ax,hx',rfl⟩:=zqG.1 hc
  unfold scopeA at hrf ⊢
  split at hrf
  ·rename_i l hl
   split at hrf
   ·rename_i y hy
    rcases hrf with hr0 | hrf
    ·have ih:=exec_sound2 hm hcall c ax hx' (.inl hr0)
     subst hr0
     have hfl:∃ rest,findLabel c l=some rest:=by
      cases hf:findLabel c l with
      | some rest=>exact ⟨rest,rfl⟩
      | none=>rw [(findA_of c ax hx' l).2.1 hf] at hy; cases hy
     obtain ⟨rest,hf⟩:=hfl
     obtain ⟨y',hy',hrest⟩:=ih.2 l rest hf
     rw [hy] at hy'; injection hy' with hy'; subst hy'
     have hno:∀ l',l'≠l→findLabel c l'=none:=fun l' hne=>by
      cases hf':findLabel c l' with
      | none=>rfl
      | some z=>
       have:=(findA_of c ax hx' l').2.2 (by rw [hf']; simp)
       rw [hl] at this; simp at this; exact absurd this hne
     intro ρ σ r hx g ow a w h1 h2 h3 h5
     simp only [exec] at hx
     obtain ⟨r1,hr1,hx⟩:=zqH.1 hx
     obtain ⟨hl1,hwp⟩:=ih.1 _ _ _ hr1 g ow a w h1 h2 h3 h5
     have key:=fun g1 ow1 a1 w1 (k1:HR g1 ow1 r1.2.2 w1) k2 k3=>scope_at hf hno hrest k r1 r hx g1 ow1 a1 w1 k1 k2 k3 (by omega)
     refine ⟨?_,fun b fk cs hro _ _=>?_⟩
     ·obtain ⟨e,a1,w1,⟨_,g1,ow1,_,k1,_,_,k3,k4⟩⟩:=wpIn_at hwp
      rw [←hl1]; exact (key g1 ow1 a1 w1 k3 (Nat.le_trans h2 k4.len) k1).1
     ·obtain ⟨e,a1,w1,⟨he,g1,ow1,Ds,k1,kd,kn,k3,k4⟩,harr⟩:=hwp b (.inScope c :: fk) cs hro trivial (room_rnd _ _)
      subst he
      have hro':b.roundOf=none:=hro
      have hs:StepsIn (Machine.fenced P (rnd none)) P (lone (b.atR a (.code (.scope c) :: fk)) cs w) (lone (b.atR a (.code c :: .inScope c :: fk)) cs w):=
       .one calm_rnd (by rw [Frame.atR_of_none hro',Frame.atR_of_none hro']; exact step_scope)
      obtain ⟨e2,a2,w2,hq,harr3⟩:=(key g1 ow1 a1 w1 k3 (Nat.le_trans h2 k4.len) k1).2 _ b fk cs hro' (.of_steps hs harr)
      exact ⟨e2,a2,w2,hq.after k4 kd kn,harr3⟩
    ·cases hrf
   ·intro ρ σ r hx; rw [exec_stuck] at hx; cases hx
  ·intro ρ σ r hx; rw [exec_stuck] at hx; cases hx
 | .rangeFunc f ps asg b,ac,hc,hrf=>by
  refine ⟨?_,fun l rc h=>by simp [findLabel] at h⟩
  simp only [compC] at hc
  obtain ⟨x,hz,rfl⟩:=zqG.1 hc
  rcases hrf with rfl | hrf
  ·exact rfn_sound hcall hz
  ·cases hrf
 | .refuse _,_,hc,_=>by
  refine ⟨?_,fun l rc h=>by simp [findLabel] at h⟩
  simp only [compC] at hc; injection hc with hc; subst hc
  intro ρ σ r hx; rw [exec_stuck] at hx; cases hx
theorem exec_sound (hm:P.follows .mixedOrders=true) (hcall:CallOK P call) (c:Code) (ac:ACode) (hc:compC P mt nt c=some ac) (hr:r0=none∨noRf ac=true):CodeOK P call k bs nt r0 c ac:=(exec_sound2 hm hcall c ac hc hr).1
end
end Go.Mach
end
section
namespace Go.Mach
open Go.RowKit
section
variable {P:Program} {bs:Nat} {g:Gh} {ow:Nat→Option Nat} {σ σ1:Heap} {w:World}
theorem closeT_sound:∀ (xs:List AV) {g:Gh} {σ σ1:Heap} {ys:List AV} {cs:List Value},HR g ow σ w→VRs g xs cs→closeT σ xs=some (ys,σ1) →
  ∃ g1,ClOut bs g ow σ w σ1 g1∧VRs g1 ys cs
 | [],g,σ,σ1,ys,cs,h,hx,hc=>by
  simp only [closeT] at hc; injection hc with hc; injection hc with e1 e2; subst e1 e2
  exact ⟨g,.refl h,hx⟩
 | x :: xs,g,σ,σ1,ys,cs,h,hx,hc=>by
  simp only [closeT] at hc
  obtain ⟨⟨y,σa⟩,h1,hc⟩:=zqH.1 hc
  obtain ⟨⟨ys',σb⟩,h2,e⟩:=zqG.1 hc
  injection e with e1 e2; subst e1 e2
  obtain ⟨c,cs',rfl,hxc,hxs⟩:=hx.uncons
  obtain ⟨ga,ka,va⟩:=closeA_sound (bs:=bs) h hxc h1
  obtain ⟨gb,kb,vb⟩:=closeT_sound xs ka.1 (hxs.mono ka.2.1.gle) h2
  exact ⟨gb,ka.trans kb,.cons (va.mono kb.2.1.gle) vb⟩
theorem closeR_sound (h:HR g ow σ w) {x y:AV} {c:Value} (hx:VR g x c) (hc:closeR σ x=some (y,σ1)):∃ g1,ClOut bs g ow σ w σ1 g1∧VR g1 y c:=by
 unfold closeR at hc
 split at hc
 ·rename_i cs
  obtain ⟨⟨xs,σ2⟩,h1,e⟩:=zqG.1 hc
  injection e with e1 e2; subst e1 e2
  cases hx with
  | @tup _ vs hl hV=>
   obtain ⟨g1,k1,v1⟩:=closeT_sound (bs:=bs) cs (cs:=vs.toList) h ⟨by simpa using hl,fun i x v hx hv=>hV i x v hx (by simpa using hv)⟩ h1
   exact ⟨g1,k1,.tup (by have:=v1.len; simpa using this) fun i x v hx hv=>v1.val i x v hx (by simpa using hv)⟩
 ·exact closeA_sound h hx hc
theorem refLt0_VR {n:Nat} {x:AV} {c:Value} (h:VR g x c) (hr:refLt0 n x=true):VR (g.res n) x c:=by
 cases h with
 | undef=>exact .undef _
 | int k n=>exact .int k n
 | bool b=>exact .bool b
 | str s=>exact .str s
 | nilptr=>exact .nilptr
 | nilfunc=>exact .nilfunc
 | nilmap=>exact .nilmap
 | map hp=>simp only [refLt0,decide_eq_true_eq] at hr; exact .map (by simp only [Gh.res]; rw [if_pos hr]; exact hp)
 | yld hp=>simp only [refLt0,decide_eq_true_eq] at hr; exact .yld (by simp only [Gh.res]; rw [if_pos hr]; exact hp)
 | ptr hp=>simp only [refLt0,decide_eq_true_eq] at hr; exact .ptr (by simp only [Gh.res]; rw [if_pos hr]; exact hp)
 | iptr vs hc hM hV=>exact .iptr vs hc hM fun i x hx=>(hV i x hx).closed (g:=g) (g':=g.res n) (fun _ _ _ h=>h) (hc x (zqR hx))
 | isl vs hc hs ha hcap hn hM hV=>exact .isl vs hc hs ha hcap hn hM fun i x hx=>(hV i x hx).closed (g:=g) (g':=g.res n) (fun _ _ _ h=>h) (flat_clo1 hc (zqR hx))
 | own vs hc hs hp hn hM hV=>
  simp only [refLt0,decide_eq_true_eq] at hr
  exact .own vs hc hs (by simp only [Gh.res]; rw [if_pos hr]; exact hp) hn hM fun i x hx=>(hV i x hx).closed (g:=g) (g':=g.res n) (fun _ _ _ h=>h) (flat_clo1 hc (zqR hx))
 | sl hp hc hs hl=>simp only [refLt0,decide_eq_true_eq] at hr; exact .sl (by simp only [Gh.res]; rw [if_pos hr]; exact hp) hc hs hl
 | func a b=>simp [refLt0] at hr
 | meth a b=>simp [refLt0] at hr
 | agg a b c=>simp [refLt0] at hr
 | tup a b=>simp [refLt0] at hr
theorem refLt1_VR {n:Nat} {x:AV} {c:Value} (h:VR g x c) (hr:refLt1 n x=true):VR (g.res n) x c:=by
 unfold refLt1 at hr
 split at hr
 ·cases h with
  | func hl hV=>exact .func hl fun i x v hx hv=>refLt0_VR (hV i x v hx hv) (zqQ.1 hr x (zqR hx))
 ·cases h with
  | meth hl hV=>exact .meth hl fun i x v hx hv=>refLt0_VR (hV i x v hx hv) (zqQ.1 hr x (zqR hx))
 ·exact refLt0_VR h hr
theorem refLt2_VR {n:Nat} {x:AV} {c:Value} (h:VR g x c) (hr:refLt2 n x=true):VR (g.res n) x c:=by
 unfold refLt2 at hr
 split at hr
 ·cases h with
  | agg hl hc hV=>exact .agg hl hc fun i x v hx hv=>refLt1_VR (hV i x v hx hv) (zqQ.1 hr x (zqR hx))
 ·exact refLt1_VR h hr
theorem refLt_VR {n:Nat} {x:AV} {c:Value} (h:VR g x c) (hr:refLt n x=true):VR (g.res n) x c:=by
 unfold refLt at hr
 split at hr
 ·cases h with
  | tup hl hV=>exact .tup hl fun i x v hx hv=>refLt2_VR (hV i x v hx hv) (zqQ.1 hr x (zqR hx))
 ·exact refLt2_VR h hr
def compRes (P:Program):ResultVar→Option ARes
 | .tmp t=>some (.tmp t)
 | .cell a t=>(sizeT P t).bind fun s=>(aggT P t).map fun ag=>.cell a s ag
structure Pol where
 mt:Bool:=false
 mtAt:List Nat:=[]
 mode:Mode:=.pure
 clArgs:Bool:=true
 clRes:Bool:=true
def Pol.mtOf (p:Pol) (ops:Array Oper):Bool:=p.mt || (!p.mtAt.isEmpty && ops.any fun o=>match o.dst with | some d=>p.mtAt.contains d | none=>false)
def compF (P:Program) (pol:Pol) (fn:Func):Option AFunc:=
 if fn.name == "runtime.NumGoroutine" then none else
 fn.body.bind fun c=>(compC P pol.mtOf fn.ntmps c).bind fun ac=>(fn.results.toList.mapM (compRes P)).map fun rs=>⟨fn.ntmps,rs,ac,pol.mode,pol.clArgs,pol.clRes⟩
def resRun (tmps:Array Value):ResultVar→Sem Value
 | .tmp t=>pure (tmps.getD t undef)
 | .cell a t=>do loadVar t (← asAddr (tmps.getD a undef))
theorem run_results (h:HR g ow σ w) {ρ:Regs} {a:Act} (hR:RR g ρ a.tmps):∀ (l:List ResultVar) (rs:List ARes) (vs:List AV),l.mapM (compRes P)=some rs→resA ρ σ rs=some vs →
  ∃ cs:List Value,(l.mapM (resRun a.tmps)).run P w=.ok cs w∧VRs g vs cs
 | [],rs,vs,hc,hv=>by
  simp at hc; subst hc
  simp only [resA] at hv; injection hv with hv; subst hv
  exact ⟨[],by simp,rfl,fun i x c hx=>by simp at hx⟩
 | r :: l,rs,vs,hc,hv=>by
  rw [List.mapM_cons] at hc
  simp only [zqK,zqH,Option.pure_def] at hc
  obtain ⟨ar,har,rs',hrs,e⟩:=hc
  injection e with e; subst e
  have hhead:∃ v vs' c,vs=v :: vs'∧resA ρ σ rs'=some vs'∧(resRun a.tmps r).run P w=.ok c w∧VR g v c:=by
   cases r with
   | tmp t=>
    simp only [compRes] at har; injection har with har; subst har
    simp only [resA] at hv
    obtain ⟨vs',hvs,rfl⟩:=zqG.1 hv
    exact ⟨_,vs',_,rfl,hvs,rfl,hR.val t⟩
   | cell x t=>
    simp only [compRes] at har
    obtain ⟨s,hs,har⟩:=zqH.1 har
    obtain ⟨ag,hag,rfl⟩:=zqG.1 har
    simp only [resA] at hv
    obtain ⟨v,hl,hv⟩:=zqH.1 hv
    obtain ⟨vs',hvs,rfl⟩:=zqG.1 hv
    obtain ⟨u,hu,hU⟩:=loadA_sound h hs hag (hR.val x) hl
    refine ⟨v,vs',u,rfl,hvs,?_,hU⟩
    have hval:=hR.val x
    simp only [resRun]
    revert hval hu hl
    generalize a.tmps.getD x undef=cv
    generalize ρ.getD x .undef=av
    intro hl hu hval
    cases hval <;> simp only [loadA] at hl <;> try (cases hl; done)
    ·simpa [Instr.loadAt,Instr.sureAddr,asAddr] using hu
    ·simpa [Instr.loadAt,Instr.sureAddr,asAddr] using hu
  obtain ⟨v,vs',c,rfl,hvs,hc,hV⟩:=hhead
  obtain ⟨cs,hr,hVs⟩:=run_results h hR l rs' vs' hrs hvs
  refine ⟨c :: cs,?_,.cons hV hVs⟩
  rw [List.mapM_cons]
  simp only [Sem.run_bind,hc,Result.andThen_ok,hr,Sem.run_pure]
theorem results_eq (fn:Func) (tmps:Array Value):results fn tmps=(fn.results.mapM (resRun tmps) >>= fun vs=>pure (if h:vs.size=1 then vs[0] else .tuple vs)):=rfl
theorem results_sound (h:HR g ow σ w) {ρ:Regs} {a:Act} (hR:RR g ρ a.tmps) {fn:Func} {rs:List ARes} {vs:List AV} (hc:fn.results.toList.mapM (compRes P)=some rs) (hv:resA ρ σ rs=some vs) :
  ∃ c,(results fn a.tmps).run P w=.ok c w∧VR g (res1 vs) c:=by
 obtain ⟨cs,hr,hV⟩:=run_results h hR _ _ _ hc hv
 rw [results_eq,Array.mapM_eq_mapM_toList]
 refine ⟨if h:cs.toArray.size=1 then cs.toArray[0] else .tuple cs.toArray,by simp [hr],?_⟩
 match vs,cs,hV with
 | [],[],_=>exact .tup rfl fun i x v hx=>by simp at hx
 | [v],[c],hV=>exact hV.val 0 v c rfl rfl
 | x :: y :: l,c :: d :: l',hV=>exact .tup (by have:=hV.len; simpa [res1] using this) fun i x v hx hv=>hV.val i x v hx (by simpa using hv)
 | [],_ :: _,hV=>exact absurd hV.len (by simp)
 | _ :: _,[],hV=>exact absurd hV.len (by simp)
 | [_],_ :: _ :: _,hV=>exact absurd hV.len (by simp)
 | _ :: _ :: _,[_],hV=>exact absurd hV.len (by simp)
def PrimOK (P:Program) (f:Nat) (p:List AV→Nat→Heap→Option (AV × Heap)):Prop:=∀ args bs σ v σ',p args bs σ=some (v,σ')→bs≤σ.length→Enters P f ∧
 ∀ g ow w cargs,HR g ow σ w→Args g args cargs→Calls P f cargs w (CallPost bs g ow σ w v σ')
structure TabOK (P:Program) (T:Tab):Prop where
 mixed:P.follows .mixedOrders=true
 fn:∀ f af,T.fn f=some af→∃ fn pol,P.funcs[f]?=some fn∧compF P pol fn=some af
 pr:∀ f p,T.pr f=some p→PrimOK P f p
 yn:T.pr yno=none∧T.fn yno=none:=by exact ⟨rfl,rfl⟩
 rd:∀ rc nt a b,T.rd rc=some (nt,a,b)→∃ mt,compC P mt nt rc.assign=some a∧compC P mt nt rc.body=some b∧noRf a=true∧noRf b=true:=by intro rc nt a b h; cases h
theorem Args.VRs {args:List AV} {cargs:Array Value} (h:Args g args cargs):VRs g args cargs.toList:=⟨by simpa using h.len,fun i x c hx hc=>h.val i x c hx (by simpa using hc)⟩
theorem start_RR {args:List AV} {cargs:Array Value} (h:VRs g args cargs.toList) (n:Nat):RR g (args++List.replicate (n - args.length) .undef) (cargs++Array.replicate (n - cargs.size) undef):=by
 have hl:args.length=cargs.size:=by simpa using h.len
 refine ⟨by simp [hl],fun t=>?_⟩
 simp only [List.getD_eq_getElem?_getD,Array.getD_eq_getD_getElem?]
 rcases Nat.lt_or_ge t args.length with ht | ht
 ·rw [zqA ht,Array.getElem?_append_left (by omega)]
  have h1:args[t]?=some args[t]:=zqF ht
  have h2:cargs[t]?=some (cargs[t]'(by omega)):=Array.getElem?_eq_getElem (by omega)
  rw [h1,h2]
  exact h.val t _ _ h1 (by simp)
 ·rw [zqB ht,Array.getElem?_append_right (by omega),List.getElem?_replicate,Array.getElem?_replicate]
  split <;> (split <;> exact .undef _)
theorem cloC_VR {g g':Gh} (hg:∀ b i v,g.M b i=some v→g'.M b i=some v) {x:AV} {v:Value} (h:VR g x v) (hd:x.cloC=true):VR g' x v:=by
 unfold AV.cloC at hd
 split at hd
 ·cases h with
  | iptr vs hc hM hV=>exact .iptr vs hc (fun i x hx=>hg _ _ _ (hM i x hx)) fun i x hx=>(hV i x hx).closed hg (hc x (zqR hx))
 ·exact h.closed hg hd
theorem dat1_VR {g g':Gh} (hg:∀ b i v,g.M b i=some v→g'.M b i=some v) {x:AV} {v:Value} (h:VR g x v) (hd:x.dat1=true):VR g' x v:=by
 cases h with
 | agg hl hc hV=>simp [AV.dat1,AV.clo1] at hd
 | func hl hV=>exact .func hl fun i y u hy hu=>cloC_VR hg (hV i y u hy hu) (zqQ.1 hd y (zqR hy))
 | meth hl hV=>exact .meth hl fun i y u hy hu=>cloC_VR hg (hV i y u hy hu) (zqQ.1 hd y (zqR hy))
 | undef=>simp [AV.dat1,AV.clo1] at hd
 | int k n=>exact .int k n
 | bool b=>exact .bool b
 | str s=>exact .str s
 | nilptr=>exact .nilptr
 | nilfunc=>exact .nilfunc
 | nilmap=>exact .nilmap
 | map hp=>simp [AV.dat1,AV.clo1] at hd
 | yld hp=>simp [AV.dat1,AV.clo1] at hd
 | ptr hp=>simp [AV.dat1,AV.clo1] at hd
 | iptr vs a b c=>exact cloC_VR hg (.iptr vs a b c) hd
 | isl vs a b c d e f k=>exact VR.closed hg (.isl vs a b c d e f k) hd
 | own vs a b c d e f=>simp [AV.dat1,AV.clo1] at hd
 | sl a b c d=>simp [AV.dat1,AV.clo1] at hd
 | tup a b=>simp [AV.dat1,AV.clo1] at hd
theorem dat_VR {g g':Gh} (hg:∀ b i v,g.M b i=some v→g'.M b i=some v) {x:AV} {v:Value} (h:VR g x v) (hd:x.dat=true):VR g' x v:=by
 unfold AV.dat at hd
 split at hd
 ·cases h with
  | agg hl hc hV=>exact .agg hl hc fun i y u hy hu=>dat1_VR hg (hV i y u hy hu) (zqQ.1 hd y (zqR hy))
 ·exact dat1_VR hg h hd
theorem datR_VR {g g':Gh} (hg:∀ b i v,g.M b i=some v→g'.M b i=some v) {x:AV} {v:Value} (h:VR g x v) (hd:x.datR=true):VR g' x v:=by
 unfold AV.datR at hd
 split at hd
 ·cases h with
  | tup hl hV=>exact .tup hl fun i y u hy hu=>dat_VR hg (hV i y u hy hu) (zqQ.1 hd y (zqR hy))
 ·exact dat_VR hg h hd
theorem HR.bare (h:HR g ow σ w):HR (g.res 0) (fun _=>none) [] w:=
 ⟨h.mem,fun id x hx=>by simp [Gh.res] at hx,fun id n x hx=>by simp [Gh.res] at hx,fun id cs fz ext hσ=>by simp at hσ,fun id n s hσ=>by simp at hσ,fun id n s hσ=>by simp at hσ,fun id s pos hσ=>by simp at hσ,fun id o hsp hσ=>by simp at hσ,fun p hp=>⟨(h.pin p hp).1,rfl⟩⟩
theorem HR.back {g':Gh} {ow':Nat→Option Nat} {σ':Heap} {w':World} (h:HR g ow σ w) (s:St 0 (g.res 0) (fun _=>none) [] w g' ow' σ' w') (h':HR g' ow' σ' w') :
  HR ⟨g.φ,g.ψ,g'.M⟩ ow σ w'∧St bs g ow σ w ⟨g.φ,g.ψ,g'.M⟩ ow σ w':=by
 have hle:g.le ⟨g.φ,g.ψ,g'.M⟩:=⟨fun _ _ h=>h,fun _ _ _ h=>h,fun b i v hm=>s.gle.M b i v hm⟩
 have hheap:∀ b,b<w.heap.size→w'.heap[b]?=w.heap[b]?:=fun b hb=>(s.frame b hb rfl).1
 have hM:∀ b,b<w.heap.size→∀ i,g'.M b i=g.M b i:=fun b hb i=>s.frM b hb rfl i
 refine ⟨⟨h'.mem,fun id x hx=>⟨(h.dom id x hx).1,Nat.lt_of_lt_of_le (h.dom id x hx).2 s.size⟩,h.domψ,?_,?_,h.tle,?_,?_,h.pin.of fun b hb ho=>⟨hheap b hb,ho⟩⟩,?_⟩
 ·intro id cs fz ext hσ b c hp
  have hb:=(h.dom id _ hp).2
  obtain ⟨cv,tag,fr,k0,k1,k2,k3,k4,k5,k6⟩:=h.cel id cs fz ext hσ b c hp
  refine ⟨cv,tag,fr,(hheap b hb).trans k0,k1,k2,k3,fun i x hx=>?_,k5,fun i h1=>?_⟩
  ·obtain ⟨a,v,b',c'⟩:=k4 i x hx; exact ⟨a,v,b',c'.mono hle⟩
  ·have:=k6 i h1; exact ⟨(hM b hb i).trans this.1,this.2⟩
 ·intro id n s' hσ b p c hp
  obtain ⟨cv,tag,fr,k0,k1,k2,k3,k4⟩:=h.tk id n s' hσ b p c hp
  have hb:b<w.heap.size:=(zqN.1 k0).1
  exact ⟨cv,tag,fr,(hheap b hb).trans k0,k1,k2,k3,fun i hi=>⟨(hM b hb i).trans (k4 i hi).1,(k4 i hi).2⟩⟩
 ·intro id s' pos hσ b c hp
  obtain ⟨k0,k1⟩:=h.it id s' pos hσ b c hp
  exact ⟨(hheap b (h.dom id _ hp).2).trans k0,k1⟩
 ·intro id o hsp hσ b c hp
  exact (h.bd id o hsp hσ b c hp).keep (Gh.res_mono hle _) fun b' ho hb'=>⟨hheap b' hb',ho,fun i hi=>(hM b' hb' i).trans hi⟩
 ·refine ⟨hle,s.os,s.tape,s.output,s.size,fun b hb ho=>⟨hheap b hb,ho⟩,Nat.le_refl _,fun _ _ hh=>hh,fun b hb _ i=>hM b hb i,fun id _ hl cs fz ext hσ=>⟨cs,fz,ext,hσ,fun i x hx=>.inr ⟨hx,fun b c hp=>cell_congr (hheap b (h.dom id _ hp).2) i⟩⟩⟩
theorem HR.more {w':World} (h:HR g ow σ w) (hs:w.heap.size≤w'.heap.size) (hheap:∀ b,b<w.heap.size→w'.heap[b]?=w.heap[b]?) (ho:w'.os=w.os) (ht:w'.tape=w.tape) (hu:w'.output=w.output) :
  HR g ow σ w'∧St bs g ow σ w g ow σ w':=by
 refine ⟨⟨fun b i v hm=>(cell_congr (hheap b (h.lt hm)) i).trans (h.mem b i v hm),fun id x hx=>⟨(h.dom id x hx).1,Nat.lt_of_lt_of_le (h.dom id x hx).2 hs⟩,h.domψ,?_,?_,h.tle,?_,?_,h.pin.of fun b hb ho=>⟨hheap b hb,ho⟩⟩,?_⟩
 ·intro id cs fz ext hσ b c hp
  have hb:=(h.dom id _ hp).2
  obtain ⟨cv,tag,fr,k0,k1⟩:=h.cel id cs fz ext hσ b c hp
  exact ⟨cv,tag,fr,(hheap b hb).trans k0,k1⟩
 ·intro id n s' hσ b p c hp
  obtain ⟨cv,tag,fr,k0,k1⟩:=h.tk id n s' hσ b p c hp
  have hb:b<w.heap.size:=(zqN.1 k0).1
  exact ⟨cv,tag,fr,(hheap b hb).trans k0,k1⟩
 ·intro id s' pos hσ b c hp
  obtain ⟨k0,k1⟩:=h.it id s' pos hσ b c hp
  exact ⟨(hheap b (h.dom id _ hp).2).trans k0,k1⟩
 ·intro id o hsp hσ b c hp
  exact (h.bd id o hsp hσ b c hp).keep (.refl _) fun b' ho hb'=>⟨hheap b' hb',ho,fun i hi=>hi⟩
 ·exact ⟨.refl g,ho,ht,hu,hs,fun b hb ho=>⟨hheap b hb,ho⟩,Nat.le_refl _,fun _ _ hh=>hh,fun _ _ _ _=>rfl,fun id _ hl cs fz ext hσ=>⟨cs,fz,ext,hσ,fun i x hx=>.inr ⟨hx,fun b c hp=>cell_congr (hheap b (h.dom id _ hp).2) i⟩⟩⟩
theorem scal1_VR {g':Gh} {x:AV} {v:Value} (h:VR g x v) (hd:x.scal1=true):VR g' x v:=by
 cases h <;> first | (cases hd; done) | constructor
theorem scal_VR {g':Gh} {x:AV} {v:Value} (h:VR g x v) (hd:x.scal=true):VR g' x v:=by
 unfold AV.scal at hd
 split at hd
 ·cases h with
  | tup hl hV=>exact .tup hl fun i y u hy hu=>scal1_VR (hV i y u hy hu) (zqQ.1 hd y (zqR hy))
 ·exact scal1_VR h hd
theorem HR.put0 {D:Nat} {x:Option (List Deferred)} {o':Obj} (h:HR g ow σ w) (ho:ow D=none) (hD:w.heap[D]?=some (.deferred x)):HR g ow σ (w.putObj D o'):=by
 have hoth:∀ b,b≠D→(w.putObj D o').heap[b]?=w.heap[b]?:=fun b hb=>World.putObj_heap_other hb
 have hown:∀ b id,ow b=some id→b≠D:=fun b id hb e=>by subst e; rw [ho] at hb; cases hb
 have hcell:∀ b cv t fr,w.heap[b]?=some (.cells cv t fr)→b≠D:=fun b cv t fr hb e=>by subst e; rw [hD] at hb; cases hb
 refine ⟨fun b i v hm=>?_,fun id x hx=>⟨(h.dom id x hx).1,by simpa using (h.dom id x hx).2⟩,h.domψ,?_,?_,h.tle,?_,?_,fun p hp=>?_⟩
 ·have hc:=h.mem b i v hm
  have hb:b≠D:=fun e=>by
   subst e
   simp only [World.cell?,hD] at hc
   simp at hc
  exact (cell_congr (hoth b hb) i).trans hc
 ·intro id cs fz ext hσ b c hp
  obtain ⟨cv,tag,fr,k0,k1⟩:=h.cel id cs fz ext hσ b c hp
  exact ⟨cv,tag,fr,(hoth b (hcell b _ _ _ k0)).trans k0,k1⟩
 ·intro id n s' hσ b p c hp
  obtain ⟨cv,tag,fr,k0,k1⟩:=h.tk id n s' hσ b p c hp
  exact ⟨cv,tag,fr,(hoth b (hcell b _ _ _ k0)).trans k0,k1⟩
 ·intro id s' pos hσ b c hp
  obtain ⟨k0,k1⟩:=h.it id s' pos hσ b c hp
  exact ⟨(hoth b (hown b _ k1)).trans k0,k1⟩
 ·intro id o2 hsp hσ b c hp
  exact (h.bd id o2 hsp hσ b c hp).keep (.refl _) fun b' hb' _=>⟨hoth b' (hown b' _ hb'),hb',fun i hi=>hi⟩
 ·obtain ⟨⟨t,fr,h1⟩,h2⟩:=h.pin p hp
  exact ⟨⟨t,fr,(hoth _ (hcell _ _ _ _ h1)).trans h1⟩,h2⟩
theorem St.put0 {D:Nat} {o':Obj} {g':Gh} {ow':Nat→Option Nat} {σ':Heap} {w':World} (s:St bs g ow σ w g' ow' σ' w') (h:HR g ow σ w) (hD:w.heap.size≤D):St bs g ow σ w g' ow' σ' (w'.putObj D o'):=by
 have hoth:∀ b,b<w.heap.size→(w'.putObj D o').heap[b]?=w'.heap[b]?:=fun b hb=>World.putObj_heap_other (by omega)
 refine ⟨s.gle,s.os,s.tape,s.output,by simpa using s.size,fun b hb ho=>⟨(hoth b hb).trans (s.frame b hb ho).1,(s.frame b hb ho).2⟩,s.len,s.nonew,s.frM,fun id hi hl cs' fz' ext' hσ=>?_⟩
 obtain ⟨cs,fz,ext,h1,h2⟩:=s.disc id hi hl cs' fz' ext' hσ
 refine ⟨cs,fz,ext,h1,fun i x hx=>(h2 i x hx).imp (fun h=>h) fun hh=>⟨hh.1,fun b c hp=>?_⟩⟩
 exact (cell_congr (hoth b (h.dom id _ hp).2) i).trans (hh.2 b c hp)
def shut:List Nat→World→World
 | [],w=>w
 | D :: Ds,w=>shut Ds (w.putObj D (.deferred none))
theorem HR.shut {g0:Gh} {ow0:Nat→Option Nat} {σ0:Heap} {w0:World} (h0:HR g0 ow0 σ0 w0):∀ (Ds:List Nat) {w:World},NewD w0.heap.size ow w Ds→HR g ow σ w→St bs g0 ow0 σ0 w0 g ow σ w→HR g ow σ (shut Ds w)∧St bs g0 ow0 σ0 w0 g ow σ (shut Ds w)
 | [],w,_,h,s=>⟨h,s⟩
 | D :: Ds,w,n,h,s=>by
  obtain ⟨n1,n2,n3⟩:=n.pt D (by simp)
  refine HR.shut h0 Ds ⟨(List.nodup_cons.1 n.nd).2,fun D' hD'=>?_⟩ (h.put0 n2 n3) (s.put0 h0 n1)
  obtain ⟨m1,m2,m3⟩:=n.pt D' (by simp [hD'])
  have hne:D'≠D:=fun e=>(List.nodup_cons.1 n.nd).1 (by rw [←e]; exact hD')
  exact ⟨m1,m2,(World.putObj_heap_other hne).trans m3⟩
theorem leaves_all {fn:Func} {tmps:Array Value} {R:Ending→World→Prop}:∀ (Ds:List Nat) (w:World),Ds.Nodup→(∀ D∈Ds,w.heap[D]?=some (.deferred (some [])))→(∃ v,(results fn tmps).run P (shut Ds w)=.ok v (shut Ds w)∧R (.returned v) (shut Ds w)) →
  LeavesInM Fence.wide 0 P fn tmps R (Ds.map mkD) .returning w
 | [],w,_,_,h=>by simpa only [List.map_nil,LeavesInM,LeavesIn,shut] using h
 | D :: Ds,w,nd,hD,h=>by
  simp only [List.map_cons,LeavesInM]
  refine ⟨by simp,.inl ⟨D,_,rfl,run_takeDeferred (hD D (by simp)),leaves_all Ds _ (List.nodup_cons.1 nd).2 (fun D' hD'=>?_) h⟩⟩
  have hne:D'≠D:=fun e=>(List.nodup_cons.1 nd).1 (by rw [←e]; exact hD')
  exact (World.putObj_heap_other hne).trans (hD D' (by simp [hD']))
theorem calls_end {f:Nat} {fn:Func} {c:Code} {args:Array Value} {R:Ending→World→Prop} (hf:P.funcs[f]?=some fn) (hb:fn.body=some c)
  (h:c.wpIn (rnd none) 0 P (bodyPostM Fence.wide 0 P fn R) {tmps:=args++Array.replicate (fn.ntmps - args.size) undef,defers:=[]} w):Calls P f args w R:=
 callsIn_wide.1 (callsIn_of_wp_marks (F:=Fence.wide) (n:=0) hf hb trivial h)
theorem putAll_RR:∀ (ps:List Nat) (xs:List AV) (cs:List Value) {tm:Regs} {tmps:Array Value},VRs g xs cs→RR g tm tmps→RR g (putAll ps xs tm) ((ps.zip cs).foldl (fun tmps p=>tmps.setIfInBounds p.1 p.2) tmps)
 | [],xs,cs,tm,tmps,_,h=>by simpa [putAll] using h
 | p :: ps,xs,cs,tm,tmps,hx,h=>by
  cases xs with
  | nil=>rw [hx.nil_left]; simpa [putAll] using h
  | cons x xs=>
   obtain ⟨c,cs',rfl,h1,h2⟩:=hx.uncons
   have:=putAll_RR ps xs cs' h2 (h.set p h1)
   simpa [putAll] using this
theorem putAll_len:∀ (ps:List Nat) (xs:List AV) (tm:Regs),(putAll ps xs tm).length=tm.length
 | [],xs,tm=>rfl
 | p :: ps,[],tm=>by simp [putAll]
 | p :: ps,x :: xs,tm=>by
  have:=putAll_len ps xs (tm.set p x)
  simpa [putAll] using this
theorem round_sound {T:Tab} (hT:TabOK P T) {call:CallF} {k:Nat} (ih:CallOK P call) {id:Nat} {args:List AV} {v:AV} {σ':Heap} (hx:roundA T.rd (exec call k bs) (.yld id :: args) σ=some (v,σ')) (hbs:bs≤σ.length)
  (h:HR g ow σ w) {l c:Nat} (hp:g.φ id=some (l,c)) {cargs:Array Value} (hA:Args g args cargs) :
  ∃ fn tmps assign body,(Instr.yield l cargs).run P w=.ok (.round l fn tmps assign body) w∧RoundIn Fence.wide 0 P l fn tmps assign body w (CallPost bs g ow σ w v σ'):=by
 simp only [roundA] at hx
 split at hx
 ·rename_i rc tm st pd hσ
  obtain ⟨⟨nt,a,b⟩,hrd,hx⟩:=zqH.1 hx
  simp only at hx
  split at hx
  ·rename_i hcd
   obtain ⟨⟨e1,ρ1,σ1⟩,hex1,hx⟩:=zqH.1 hx
   unfold bodyA at hx
   split at hx
   ·rename_i ρ1' σ1' e0
    injection e0 with e0 e0'; injection e0' with e0' e0''; subst e0 e0' e0''
    obtain ⟨σ2,hbeg,hx⟩:=zqH.1 hx
    obtain ⟨⟨e3,ρ3,σ3⟩,hex3,hend⟩:=zqH.1 hx
    obtain ⟨mt,hca,hcb,hna,hnb⟩:=hT.rd rc nt a b hrd
    obtain ⟨rec,k1,⟨k2,k3,k4,_,_⟩,kR,_⟩:=h.lpTo (bs:=bs) hp hσ
    refine ⟨_,_,_,_,run_yield (P:=P) k1 (by rw [k2,←hcd.1]; exact hA.len.symm),roundIn_of_wpIn trivial ?_⟩
    rw [k3,k4]
    have hR0:RR g (putAll rc.params.toList args tm) ((rec.params.zip cargs).foldl (fun tmps (t,a)=>tmps.setIfInBounds t a) rec.tmps):=by
     have:=putAll_RR rc.params.toList args cargs.toList hA.VRs ⟨kR.len,fun t=>(kR.val t).mono (Gh.res_le _ _)⟩
     rw [k2,←Array.foldl_toList,Array.toList_zip]
     exact this
    obtain ⟨l1,hwp1⟩:=exec_sound (r0:=some l) (k:=k) (bs:=bs) hT.mixed ih _ _ hca (.inr hna) _ _ _ hex1 g ow {tmps:=(rec.params.zip cargs).foldl (fun tmps (t,a)=>tmps.setIfInBounds t a) rec.tmps,defers:=[]} w h hbs hR0 (by rw [putAll_len]; exact hcd.2)
    rw [putAll_len] at l1
    refine wpIn_mono hwp1 ?_
    rintro e a1 w1 ⟨he,g1,ow1,Ds1,kR1,_,_,kH1,kS1⟩
    simp only [toExit] at he; subst he
    unfold begLp at hbeg
    split at hbeg
    ·rename_i rc1 tm1 pd1 hσ1
     injection hbeg with hbeg; subst hbeg
     have hp1:=kS1.gle.φ _ _ hp
     simp only at kR1 kH1 kS1 l1
     obtain ⟨rec1,m1,⟨_,_,_,m5,_⟩,_,mto⟩:=kH1.lpTo (bs:=bs) hp1 hσ1
     obtain ⟨kH2,kS2⟩:=mto .busy pd1
     have hw2:w1.putObj l (.loop {rec1 with state:=.busy})=w1.putObj l (.loop {rec1 with state:=.busy,pending:=pd1}):=by
      obtain ⟨rec1',n1,⟨_,_,_,_,n6⟩,_⟩:=kH1.lpTo (bs:=bs) hp1 hσ1
      rw [m1] at n1; injection n1 with n1; injection n1 with n1; subst n1
      rw [←n6]
     have hbr:=run_beginRound (P:=P) m1 m5
     rw [hw2] at hbr
     refine ⟨_,hbr,?_⟩
     obtain ⟨_,hwp3⟩:=exec_sound (r0:=some l) (k:=k) (bs:=bs) hT.mixed ih _ _ hcb (.inr hnb) _ _ _ hex3 g1 ow1 a1 _ kH2 (by simpa using Nat.le_trans hbs kS1.len) kR1 (by omega)
     refine wpIn_mono hwp3 ?_
     rintro e a3 w3 ⟨he,g3,ow3,Ds3,kR3,_,_,kH3,kS3⟩
     subst he
     simp only at kH3 kS3
     have hp3:=kS3.gle.φ _ _ hp1
     unfold endRd at hend
     simp only at hend
     split at hend
     ·rename_i rc3 tm3 st3 pd3 hσ3
      obtain ⟨rec3,n1,_,_,nto⟩:=kH3.lpTo (bs:=bs) hp3 hσ3
      have hall:=(kS1.trans kS2).trans kS3
      cases e3 with
      | normal=>
       injection hend with hend; injection hend with e1 e2; subst e1 e2
       obtain ⟨hH4,hS4⟩:=nto .ready none
       have:=run_endRound (P:=P) none n1
       exact ⟨_,_,this,_,g3,ow3,rfl,.bool _,hH4,hall.trans hS4⟩
      | ret=>
       injection hend with hend; injection hend with e1 e2; subst e1 e2
       obtain ⟨hH4,hS4⟩:=nto .done (some .ret)
       have:=run_endRound (P:=P) (some .ret) n1
       exact ⟨_,_,this,_,g3,ow3,rfl,.bool _,hH4,hall.trans hS4⟩
      | exit i=>
       simp only at hend
       split at hend
       ·rename_i hi
        injection hend with hend; injection hend with e1 e2; subst e1 e2
        obtain ⟨hH4,hS4⟩:=nto .done (some (.exit i))
        have:=run_endRound (P:=P) (some (.exit i)) n1
        simp only [toExit,if_pos hi]
        exact ⟨_,_,this,_,g3,ow3,rfl,.bool _,hH4,hall.trans hS4⟩
       ·cases hend
     ·cases hend
    ·cases hbeg
   ·cases hx
  ·cases hx
 ·cases hx
theorem eval_sound {T:Tab} (hT:TabOK P T):∀ k,CallOK P (evalFn T k)
 | 0=>⟨fun f args bs σ v σ' _ hx=>by simp [evalFn] at hx,fun id args bs σ v σ' hx=>by simp [evalFn] at hx⟩
 | k+1=>by
  have ih:=eval_sound hT k
  refine ⟨fun f args bs σ v σ' hne hx hbs=>?_,fun id args bs σ v σ' hx hbs g ow w cargs l c hH hp hA=>?_⟩
  rotate_left
  ·simp only [evalFn,hT.yn.1,hT.yn.2,if_true] at hx
   exact round_sound hT ih hx hbs hH hp hA
  simp only [evalFn] at hx
  split at hx
  ·rename_i p hp
   exact hT.pr f p hp args bs σ v σ' hx hbs
  split at hx
  ·rw [if_neg hne] at hx; cases hx
  ·rename_i af haf
   obtain ⟨fn,pol,hfn,hcf⟩:=hT.fn f af haf
   unfold compF at hcf
   split at hcf
   ·cases hcf
   ·rename_i hname
    obtain ⟨c,hbody,hcf⟩:=zqH.1 hcf
    obtain ⟨ac,hac,hcf⟩:=zqH.1 hcf
    obtain ⟨rs,hrs,rfl⟩:=zqG.1 hcf
    refine ⟨⟨fn,hfn,by rw [hbody]; rfl,by simpa using hname⟩,fun g ow w cargs hH hA=>calls_end hfn hbody ?_⟩
    split at hx
    ·
     obtain ⟨⟨args',σa⟩,hcl,hx⟩:=zqH.1 hx
     simp only at hx
     split at hx
     ·rename_i hdat
      obtain ⟨u,hx',e⟩:=zqG.1 hx
      injection e with e1 e2; subst e1 e2
      obtain ⟨⟨e,ρ,σb⟩,hex,hfin⟩:=zqH.1 hx'
      obtain ⟨ga,⟨hHa,hSa,hla⟩,hVa⟩:=closeT_sound (bs:=bs) args hH hA.VRs hcl
      have hV0:VRs (ga.res 0) args' cargs.toList:=⟨hVa.len,fun i x c hx hc=>dat_VR (g:=ga) (g':=ga.res 0) (fun _ _ _ h=>h) (hVa.val i x c hx hc) (zqQ.1 hdat x (zqR hx))⟩
      have hwp:=(exec_sound (P:=P) (r0:=none) (mt:=pol.mtOf) (nt:=fn.ntmps) hT.mixed ih c ac hac (.inl rfl) _ _ _ hex (ga.res 0) (fun _=>none)
       {tmps:=cargs++Array.replicate (fn.ntmps - cargs.size) undef,defers:=[]} w hHa.bare (Nat.le_refl 0) (start_RR hV0 _) (by simp only [startA,zqJ,List.length_replicate]; omega)).2
      refine wpIn_mono hwp ?_
      rintro ex a' w1 ⟨he,g',ow',Ds,hR',hd',hD',hH1,hS1⟩
      simp only at he hR' hH1 hS1
      obtain ⟨hH',hS'⟩:=HR.shut hHa.bare Ds hD' hH1 hS1
      obtain ⟨w',hw'⟩:∃ w',shut Ds w1=w':=⟨_,rfl⟩
      rw [hw'] at hH' hS'
      have hgo:∀ {e'},finP ⟨fn.ntmps,rs,ac,pol.mode,pol.clArgs,pol.clRes⟩ (e',ρ,σb)=some u→(∀ id,e'≠.exit id) →
        ∃ cv,(results fn a'.tmps).run P w'=.ok cv w'∧CallPost bs g ow σ w u (if u.scal=true then σ else σa) (.returned cv) w':=by
       intro e' hf hne
       have hf':((resA ρ σb rs).bind fun vs=>(closeR σb (res1 vs)).bind fun x=>if x.1.datR=true then some x.1 else none)=some u:=by
        cases e' with
        | exit id=>exact absurd rfl (hne id)
        | normal=>exact hf
        | ret=>exact hf
       obtain ⟨vs,hvs,hf'⟩:=zqH.1 hf'
       obtain ⟨⟨u',σc⟩,hcr,hdr⟩:=zqH.1 hf'
       simp only at hdr
       split at hdr
       ·rename_i hdu
        injection hdr with hdr; subst hdr
        obtain ⟨cv,hrun,hV⟩:=results_sound hH' hR' hrs hvs
        obtain ⟨gc,⟨hHc,hSc,hlc⟩,hVc⟩:=closeR_sound (bs:=0) hH' hV hcr
        by_cases hsc:u'.scal=true
        ·have hS2:=hS'.trans hSc
         obtain ⟨hB,hSB⟩:=hH.more (bs:=bs) (w':=w') hS2.size (fun b hb=>(hS2.frame b hb rfl).1) hS2.os hS2.tape hS2.output
         rw [if_pos hsc]
         exact ⟨cv,hrun,cv,g,ow,rfl,scal_VR hVc hsc,hB,hSB⟩
        rw [if_neg hsc]
        obtain ⟨hB,hSB⟩:=HR.back (bs:=bs) hHa (hS'.trans hSc) hHc
        exact ⟨cv,hrun,cv,_,ow,rfl,datR_VR (g:=gc) (g':=⟨ga.φ,ga.ψ,gc.M⟩) (fun _ _ _ h=>h) hVc hdu,hB,hSa.trans hSB⟩
       ·cases hdr
      cases e with
      | exit id=>simp [finP] at hfin
      | normal=>
       simp only [toExit] at he; subst he
       obtain ⟨cv,hc1,hc2⟩:=hgo hfin (fun id h=>by cases h)
       simp only [List.append_nil] at hd'
       show LeavesInM Fence.wide 0 P fn a'.tmps _ a'.defers .returning w1
       rw [hd']
       exact leaves_all Ds w1 hD'.nd (fun D hD=>(hD'.pt D hD).2.2) ⟨cv,by rw [hw']; exact hc1,by rw [hw']; exact hc2⟩
      | ret=>
       simp only [toExit] at he; subst he
       obtain ⟨cv,hc1,hc2⟩:=hgo hfin (fun id h=>by cases h)
       simp only [List.append_nil] at hd'
       show LeavesInM Fence.wide 0 P fn a'.tmps _ a'.defers .returning w1
       rw [hd']
       exact leaves_all Ds w1 hD'.nd (fun D hD=>(hD'.pt D hD).2.2) ⟨cv,by rw [hw']; exact hc1,by rw [hw']; exact hc2⟩
     ·cases hx
    ·rename_i hmode
     obtain ⟨⟨args',σa⟩,hcl,hx⟩:=zqH.1 hx
     obtain ⟨⟨e,ρ,σb⟩,hex,hfin⟩:=zqH.1 hx
     simp only at hcl hex hfin
     have hca:∃ ga,ClOut bs g ow σ w σa ga∧VRs ga args' cargs.toList:=by
      unfold closeArgs at hcl
      split at hcl
      ·exact closeT_sound args hH hA.VRs hcl
      ·injection hcl with hcl; injection hcl with e1 e2; subst e1 e2; exact ⟨g,.refl hH,hA.VRs⟩
     obtain ⟨ga,⟨hHa,hSa,hla⟩,hVa⟩:=hca
     have hb:baseA ⟨fn.ntmps,rs,ac,pol.mode,pol.clArgs,pol.clRes⟩ bs σa.length≤σa.length:=by
      unfold baseA; split
      ·omega
      ·exact Nat.le_refl _
     have hwp:=(exec_sound (P:=P) (r0:=none) (mt:=pol.mtOf) (nt:=fn.ntmps) hT.mixed ih c ac hac (.inl rfl) _ _ _ hex ga ow
      {tmps:=cargs++Array.replicate (fn.ntmps - cargs.size) undef,defers:=[]} w hHa hb (start_RR hVa _) (by simp only [startA,zqJ,List.length_replicate]; omega)).2
     refine wpIn_mono hwp ?_
     rintro ex a' w1 ⟨he,g',ow',Ds,hR',hd',hD',hH1,hS1⟩
     simp only at he hR' hH1 hS1
     obtain ⟨hH',hS'⟩:=HR.shut hHa Ds hD' hH1 hS1
     obtain ⟨w',hw'⟩:∃ w',shut Ds w1=w':=⟨_,rfl⟩
     rw [hw'] at hH' hS'
     have hgo:∀ {e'},finA ⟨fn.ntmps,rs,ac,pol.mode,pol.clArgs,pol.clRes⟩ σa.length (e',ρ,σb)=some (v,σ')→(∀ id,e'≠.exit id) →
       ∃ cv,(results fn a'.tmps).run P w'=.ok cv w'∧CallPost bs g ow σ w v σ' (.returned cv) w':=by
      intro e' hf hne
      have hf':((resA ρ σb rs).bind fun vs=>(closeRes pol.clRes σb (res1 vs)).bind (dropA pol.mode σa.length))=some (v,σ'):=by
       cases e' with
       | exit id=>exact absurd rfl (hne id)
       | normal=>exact hf
       | ret=>exact hf
      obtain ⟨vs,hvs,hf'⟩:=zqH.1 hf'
      obtain ⟨⟨u,σc⟩,hcr,hdr⟩:=zqH.1 hf'
      obtain ⟨cv,hrun,hV⟩:=results_sound hH' hR' hrs hvs
      refine ⟨cv,hrun,?_⟩
      have hcc:∃ gc,ClOut (baseA ⟨fn.ntmps,rs,ac,pol.mode,pol.clArgs,pol.clRes⟩ bs σa.length) g' ow' σb w' σc gc∧VR gc u cv:=by
       unfold closeRes at hcr
       split at hcr
       ·exact closeR_sound hH' hV hcr
       ·injection hcr with hcr; injection hcr with e1 e2; subst e1 e2; exact ⟨g',.refl hH',hV⟩
      obtain ⟨gc,⟨hHc,hSc,hlc⟩,hVc⟩:=hcc
      have hS2:=hS'.trans hSc
      have hdrop:pol.mode≠.raw→dropA pol.mode σa.length (u,σc)=(if refLt σa.length u=true then some (u,σc.take σa.length) else none):=fun h=>by
       unfold dropA; split
       ·rename_i e; exact absurd e h
       ·rfl
      by_cases hm:pol.mode=.raw
      ·rw [hm] at hdr
       simp only [dropA] at hdr
       injection hdr with hdr; injection hdr with e1 e2; subst e1 e2
       simp only [baseA,hm] at hS2
       exact ⟨cv,gc,ow',rfl,hVc,hHc,hSa.trans hS2⟩
      ·rw [hdrop hm] at hdr
       split at hdr
       ·rename_i hlt
        injection hdr with hdr; injection hdr with e1 e2; subst e1 e2
        have hbase:baseA ⟨fn.ntmps,rs,ac,pol.mode,pol.clArgs,pol.clRes⟩ bs σa.length=σa.length:=by
         unfold baseA; split
         ·rename_i e; exact absurd e hm
         ·rfl
        rw [hbase] at hS2
        obtain ⟨hHd,hSd⟩:=hHa.gc hS2 hHc
        exact ⟨cv,_,ow',rfl,refLt_VR hVc hlt,hHd,hSa.trans (hSd.base (by omega))⟩
       ·cases hdr
     cases e with
     | exit id=>simp [finA] at hfin
     | normal=>
      simp only [toExit] at he; subst he
      obtain ⟨cv,hc1,hc2⟩:=hgo hfin (fun id h=>by cases h)
      simp only [List.append_nil] at hd'
      show LeavesInM Fence.wide 0 P fn a'.tmps _ a'.defers .returning w1
      rw [hd']
      exact leaves_all Ds w1 hD'.nd (fun D hD=>(hD'.pt D hD).2.2) ⟨cv,by rw [hw']; exact hc1,by rw [hw']; exact hc2⟩
     | ret=>
      simp only [toExit] at he; subst he
      obtain ⟨cv,hc1,hc2⟩:=hgo hfin (fun id h=>by cases h)
      simp only [List.append_nil] at hd'
      show LeavesInM Fence.wide 0 P fn a'.tmps _ a'.defers .returning w1
      rw [hd']
      exact leaves_all Ds w1 hD'.nd (fun D hD=>(hD'.pt D hD).2.2) ⟨cv,by rw [hw']; exact hc1,by rw [hw']; exact hc2⟩
theorem callT_sound {T:Tab} (hT:TabOK P T) {f:Nat} (hne:f≠yno) {args:List AV} {v:AV} {σ':Heap} (hx:callT T f args bs σ=some (v,σ')) (hbs:bs≤σ.length) (hH:HR g ow σ w) {cargs:Array Value} (hA:Args g args cargs) :
  Calls P f cargs w (CallPost bs g ow σ w v σ'):=by
 obtain ⟨k,hk⟩:=lim_some hx
 exact ((eval_sound hT k).fn f args bs σ v σ' hne hk hbs).2 g ow w cargs hH hA
end
end Go.Mach
end
section
namespace Go.Mach
open Go.RowKit
abbrev FR:=Nat→AV
def lst (n:Nat) (f:FR):Regs:=(List.range n).map f
def upF (f:FR) (d:Nat) (v:AV):FR:=fun t=>if t=d then v else f t
theorem lst_length (n:Nat) (f:FR):(lst n f).length=n:=by simp [lst]
theorem lst_getD (n:Nat) (f:FR) (t:Nat):(lst n f).getD t .undef=if t<n then f t else .undef:=by
 simp only [lst,List.getD_eq_getElem?_getD,List.getElem?_map]
 rcases Nat.lt_or_ge t n with h | h
 ·rw [List.getElem?_range h,if_pos h]; rfl
 ·rw [List.getElem?_eq_none (by simpa using h),if_neg (by omega)]; rfl
theorem lst_set (n:Nat) (f:FR) (d:Nat) (v:AV):(lst n f).set d v=lst n (upF f d v):=by
 apply List.ext_getElem?
 intro t
 simp only [lst,List.getElem?_set,List.getElem?_map,List.length_map,List.length_range]
 by_cases h:d=t
 ·subst h
  rcases Nat.lt_or_ge d n with h | h
  ·simp [h,upF]
  ·simp [Nat.not_lt.2 h]
 ·simp only [if_neg h]
  rcases Nat.lt_or_ge t n with h' | h'
  ·rw [List.getElem?_range h']; simp [upF,Ne.symm h]
  ·rw [List.getElem?_eq_none (by simpa using h')]; rfl
def evF (n:Nat) (f:FR):AX→AV
 | .t t=>if t<n then f t else .undef
 | .c v=>v
 | .f k=>.func k []
@[simp] theorem ev_lst (n:Nat) (f:FR) (x:AX):ev (lst n f) x=evF n f x:=by
 cases x with
 | t t=>exact lst_getD n f t
 | _=>rfl
def updO (f:FR):Option Nat→AV→FR
 | some d,v=>upF f d v
 | none,_=>f
theorem setDst_lst (n:Nat) (f:FR) (d:Option Nat) (v:AV):setDst (lst n f) d v=lst n (updO f d v):=by
 cases d with
 | none=>rfl
 | some d=>exact lst_set n f d v
def guardV (b:Bool):AV→Option Bool
 | .bool c=>some (c == b)
 | .tup _=>some false
 | _=>none
section
variable (T:Tab) (bs n:Nat)
def W (c:ACode) (f:FR) (σ:Heap) (Q:AExit→FR→Heap→Prop):Prop:=∃ e f' σ',execT T bs c (lst n f) σ=some (e,lst n f',σ')∧Q e f' σ'
inductive Fr where
 | code (c:ACode)
 | ops (os:List AOper)
 | blk (id:Nat)
def ACode.sz:ACode→Nat
 | .region os=>os.length+2
 | .seq a b=>a.sz+b.sz+1
 | .cond _ a b=>a.sz+b.sz+1
 | .block _ c=>c.sz+2
 | .loop c=>c.sz+1
 | _=>1
def Fr.sz:Fr→Nat
 | .code c=>c.sz
 | .ops os=>os.length+1
 | .blk _=>1
def szs (k:List Fr):Nat:=(k.map Fr.sz).sum
def popTo (id:Nat):List Fr→Option (List Fr)
 | []=>none
 | .blk i :: k=>if i=id then some k else popTo id k
 | _ :: k=>popTo id k
theorem ACode.sz_pos (c:ACode):0<c.sz:=by cases c <;> simp [ACode.sz]
theorem Fr.sz_pos (x:Fr):0<x.sz:=by
 cases x with
 | code c=>exact c.sz_pos
 | ops os=>simp [Fr.sz]
 | blk id=>simp [Fr.sz]
theorem popTo_sz {id:Nat}:∀ {k k':List Fr},popTo id k=some k'→szs k'<szs k
 | [],k',h=>by simp [popTo] at h
 | x :: k,k',h=>by
  have hx:=x.sz_pos
  have e:szs (x :: k)=x.sz+szs k:=by simp [szs]
  cases x with
  | blk i=>
   simp only [popTo] at h
   split at h
   ·injection h with h; subst h; omega
   ·have:=popTo_sz h; omega
  | code c=>have:=popTo_sz (k:=k) (k':=k') h; omega
  | ops os=>have:=popTo_sz (k:=k) (k':=k') h; omega
def contQ:List Fr→(AExit→FR→Heap→Prop)→AExit→FR→Heap→Prop
 | [],Q,e,f,σ=>Q e f σ
 | .code b :: k,Q,e,f,σ=>match e with
  | .normal=>W T bs n b f σ (contQ k Q)
  | e=>contQ k Q e f σ
 | .ops os :: k,Q,e,f,σ=>match e with
  | .normal=>W T bs n (.region os) f σ (contQ k Q)
  | e=>contQ k Q e f σ
 | .blk id :: k,Q,e,f,σ=>match e with
  | .exit i=>if i=id then contQ k Q .normal f σ else contQ k Q (.exit i) f σ
  | e=>contQ k Q e f σ
def wpK (k:List Fr) (f:FR) (σ:Heap) (Q:AExit→FR→Heap→Prop):Prop:=
 match k with
 | []=>Q .normal f σ
 | .blk _ :: k=>wpK k f σ Q
 | .ops [] :: k=>wpK k f σ Q
 | .ops (⟨d,op,none,chk⟩ :: os) :: k=>match stepAll (callT T) bs (lst n f) σ op with
  | some (v,σ1)=>chkO (lst n f) σ σ1 chk=some ()∧wpK (.ops os :: k) (updO f d v) σ1 Q
  | none=>False
 | .ops (⟨d,op,some (g,w),chk⟩ :: os) :: k=>match guardV w (evF n f (.t g)) with
  | some true=>(match stepAll (callT T) bs (lst n f) σ op with
   | some (v,σ1)=>chkO (lst n f) σ σ1 chk=some ()∧wpK (.ops os :: k) (updO f d v) σ1 Q
   | none=>False)
  | some false=>wpK (.ops os :: k) (updO f d (.tup [])) σ Q
  | none=>False
 | .code .skip :: k=>wpK k f σ Q
 | .code (.region os) :: k=>wpK (.ops os :: k) f σ Q
 | .code (.seq a b) :: k=>wpK (.code a :: .code b :: k) f σ Q
 | .code (.cond c x y) :: k=>match evF n f c with
  | .bool true=>wpK (.code x :: k) f σ Q
  | .bool false=>wpK (.code y :: k) f σ Q
  | _=>False
 | .code (.block id c) :: k=>wpK (.code c :: .blk id :: k) f σ Q
 | .code (.exit id) :: k=>match _h:popTo id k with
  | some k'=>wpK k' f σ Q
  | none=>Q (.exit id) f σ
 | .code .ret :: _=>Q .ret f σ
 | .code (.loop c) :: k=>W T bs n (.loop c) f σ (contQ T bs n k Q)
 | .code (.lab _) :: k=>wpK k f σ Q
 | .code (.scope c l rest) :: k=>W T bs n (.scope c l rest) f σ (contQ T bs n k Q)
 | .code (.rfn x rc) :: k=>W T bs n (.rfn x rc) f σ (contQ T bs n k Q)
termination_by szs k
decreasing_by
 all_goals (simp only [szs,List.map_cons,List.sum_cons,Fr.sz,ACode.sz,zqU,List.length_nil] at *)
 all_goals (try omega)
 ·have:=popTo_sz _h; simp only [szs] at this; omega
def stW (r:Option (AV × Heap)) (d:Option Nat) (chk:List AX) (os:List AOper) (k:List Fr) (f:FR) (σ:Heap) (Q:AExit→FR→Heap→Prop):Prop:=match r with
 | some (v,σ1)=>chkO (lst n f) σ σ1 chk=some ()∧wpK T bs n (.ops os :: k) (updO f d v) σ1 Q
 | none=>False
def gdW (r:Option Bool) (d:Option Nat) (op:AOp) (chk:List AX) (os:List AOper) (k:List Fr) (f:FR) (σ:Heap) (Q:AExit→FR→Heap→Prop):Prop:=match r with
 | some true=>stW T bs n (stepAll (callT T) bs (lst n f) σ op) d chk os k f σ Q
 | some false=>wpK T bs n (.ops os :: k) (updO f d (.tup [])) σ Q
 | none=>False
def cdW (v:AV) (x y:ACode) (k:List Fr) (f:FR) (σ:Heap) (Q:AExit→FR→Heap→Prop):Prop:=match v with
 | .bool true=>wpK T bs n (.code x :: k) f σ Q
 | .bool false=>wpK T bs n (.code y :: k) f σ Q
 | _=>False
def exW (r:Option (List Fr)) (id:Nat) (f:FR) (σ:Heap) (Q:AExit→FR→Heap→Prop):Prop:=match r with
 | some k=>wpK T bs n k f σ Q
 | none=>Q (.exit id) f σ
section
variable (k:List Fr) (f:FR) (σ:Heap) (Q:AExit→FR→Heap→Prop) (os:List AOper) (d:Option Nat) (op:AOp) (chk:List AX)
@[simp] theorem wpK_nil:wpK T bs n [] f σ Q=Q .normal f σ:=by rw [wpK]
@[simp] theorem wpK_blk (id:Nat):wpK T bs n (.blk id :: k) f σ Q=wpK T bs n k f σ Q:=by rw [wpK]
@[simp] theorem wpK_ops:wpK T bs n (.ops [] :: k) f σ Q=wpK T bs n k f σ Q:=by rw [wpK]
@[simp] theorem wpK_op:wpK T bs n (.ops (⟨d,op,none,chk⟩ :: os) :: k) f σ Q=stW T bs n (stepAll (callT T) bs (lst n f) σ op) d chk os k f σ Q:=by rw [wpK]; rfl
@[simp] theorem wpK_gd (g:Nat) (w:Bool):wpK T bs n (.ops (⟨d,op,some (g,w),chk⟩ :: os) :: k) f σ Q=gdW T bs n (guardV w (evF n f (.t g))) d op chk os k f σ Q:=by rw [wpK]; rfl
@[simp] theorem wpK_skip:wpK T bs n (.code .skip :: k) f σ Q=wpK T bs n k f σ Q:=by rw [wpK]
@[simp] theorem wpK_region:wpK T bs n (.code (.region os) :: k) f σ Q=wpK T bs n (.ops os :: k) f σ Q:=by rw [wpK]
@[simp] theorem wpK_seq (a b:ACode):wpK T bs n (.code (.seq a b) :: k) f σ Q=wpK T bs n (.code a :: .code b :: k) f σ Q:=by rw [wpK]
@[simp] theorem wpK_cond (c:AX) (x y:ACode):wpK T bs n (.code (.cond c x y) :: k) f σ Q=cdW T bs n (evF n f c) x y k f σ Q:=by rw [wpK]; rfl
@[simp] theorem wpK_block (id:Nat) (c:ACode):wpK T bs n (.code (.block id c) :: k) f σ Q=wpK T bs n (.code c :: .blk id :: k) f σ Q:=by rw [wpK]
@[simp] theorem wpK_exit (id:Nat):wpK T bs n (.code (.exit id) :: k) f σ Q=exW T bs n (popTo id k) id f σ Q:=by
 rw [wpK]; split <;> rename_i h <;> rw [h] <;> rfl
@[simp] theorem wpK_ret:wpK T bs n (.code .ret :: k) f σ Q=Q .ret f σ:=by rw [wpK]
@[simp] theorem wpK_loop (c:ACode):wpK T bs n (.code (.loop c) :: k) f σ Q=W T bs n (.loop c) f σ (contQ T bs n k Q):=by rw [wpK]
@[simp] theorem stW_nil (v:AV) (σ1:Heap):stW T bs n (some (v,σ1)) d [] os k f σ Q=wpK T bs n (.ops os :: k) (updO f d v) σ1 Q:=by simp [stW,chkO_nil]
@[simp] theorem stW_cons (v:AV) (σ1:Heap) (x:AX):stW T bs n (some (v,σ1)) d (x :: chk) os k f σ Q=(chkO (lst n f) σ σ1 (x :: chk)=some ()∧wpK T bs n (.ops os :: k) (updO f d v) σ1 Q):=rfl
@[simp] theorem stW_none:stW T bs n none d chk os k f σ Q=False:=rfl
@[simp] theorem gdW_true:gdW T bs n (some true) d op chk os k f σ Q=stW T bs n (stepAll (callT T) bs (lst n f) σ op) d chk os k f σ Q:=rfl
@[simp] theorem gdW_false:gdW T bs n (some false) d op chk os k f σ Q=wpK T bs n (.ops os :: k) (updO f d (.tup [])) σ Q:=rfl
@[simp] theorem cdW_true (x y:ACode):cdW T bs n (.bool true) x y k f σ Q=wpK T bs n (.code x :: k) f σ Q:=rfl
@[simp] theorem cdW_false (x y:ACode):cdW T bs n (.bool false) x y k f σ Q=wpK T bs n (.code y :: k) f σ Q:=rfl
@[simp] theorem exW_some (id:Nat):exW T bs n (some k) id f σ Q=wpK T bs n k f σ Q:=rfl
@[simp] theorem exW_none (id:Nat):exW T bs n none id f σ Q=Q (.exit id) f σ:=rfl
end
theorem W_mono {c:ACode} {f σ} {Q Q':AExit→FR→Heap→Prop} (h:W T bs n c f σ Q) (hq:∀ e f σ,Q e f σ→Q' e f σ):W T bs n c f σ Q':=by
 obtain ⟨e,f',σ',hr,hk⟩:=h; exact ⟨e,f',σ',hr,hq _ _ _ hk⟩
theorem W_op {d:Option Nat} {op:AOp} {gd:Option (Nat × Bool)} {chk:List AX} {os:List AOper} {f:FR} {σ:Heap} {Q:AExit→FR→Heap→Prop} {v:AV} {σ1:Heap} (hg:guardA (lst n f) gd=some true)
  (hs:stepAll (callT T) bs (lst n f) σ op=some (v,σ1)) (hc:chkO (lst n f) σ σ1 chk=some ()) (h:W T bs n (.region os) (updO f d v) σ1 Q):W T bs n (.region (⟨d,op,gd,chk⟩ :: os)) f σ Q:=by
 obtain ⟨e,f',σ',hr,hk⟩:=h
 refine ⟨e,f',σ',?_,hk⟩
 rw [execT_region,opsT_cons]
 rw [execT_region] at hr
 simp only [hg,Option.bind_some,hs,hc,setDst_lst]
 exact hr
theorem W_no {d:Option Nat} {op:AOp} {gd:Option (Nat × Bool)} {chk:List AX} {os:List AOper} {f:FR} {σ:Heap} {Q:AExit→FR→Heap→Prop} (hg:guardA (lst n f) gd=some false)
  (h:W T bs n (.region os) (updO f d (.tup [])) σ Q):W T bs n (.region (⟨d,op,gd,chk⟩ :: os)) f σ Q:=by
 obtain ⟨e,f',σ',hr,hk⟩:=h
 refine ⟨e,f',σ',?_,hk⟩
 rw [execT_region,opsT_cons]
 rw [execT_region] at hr
 simp only [hg,Option.bind_some,setDst_lst]
 exact hr
theorem popTo_contQ {id:Nat} {Q:AExit→FR→Heap→Prop} {f:FR} {σ:Heap}:∀ (k:List Fr),(∀ k',popTo id k=some k'→contQ T bs n k' Q .normal f σ→contQ T bs n k Q (.exit id) f σ)∧(popTo id k=none→Q (.exit id) f σ→contQ T bs n k Q (.exit id) f σ)
 | []=>⟨fun k' h=>by simp [popTo] at h,fun _ h=>h⟩
 | .code c :: k=>popTo_contQ k
 | .ops os :: k=>popTo_contQ k
 | .blk i :: k=>by
  simp only [popTo,contQ]
  by_cases h:i=id
  ·subst h
   simp only [if_true]
   exact ⟨fun k' hk hq=>by injection hk with hk; subst hk; exact hq,fun hk=>by cases hk⟩
  ·simp only [if_neg h,if_neg (Ne.symm h)]
   exact popTo_contQ k
theorem guard_ev {f:FR} {g:Nat} {w b:Bool} (h:guardV w (evF n f (.t g))=some b):guardA (lst n f) (some (g,w))=some b:=by
 have:=lst_getD n f g
 simp only [guardA,this]
 simp only [evF] at h
 generalize (if g<n then f g else .undef)=x at h
 cases x <;> simp_all [guardV]
theorem wpK_sound:∀ (k:List Fr) (f:FR) (σ:Heap) (Q:AExit→FR→Heap→Prop),wpK T bs n k f σ Q→contQ T bs n k Q .normal f σ:=by
 intro k f σ Q
 induction k,f,σ using wpK.induct T bs n with
 | case1 f σ=>rw [wpK]; exact id
 | case2 f σ id k ih=>rw [wpK]; exact ih
 | case3 f σ k ih=>rw [wpK]; intro h; exact ⟨.normal,f,σ,by rw [execT_region,opsT_nil]; rfl,ih h⟩
 | case4 f σ d op chk os k v σ1 hs ih=>
  rw [wpK,hs]; rintro ⟨hc,h⟩
  exact W_op T bs n rfl hs hc (ih h)
 | case5 f σ d op chk os k hs=>rw [wpK,hs]; exact False.elim
 | case6 f σ d op g w chk os k hg v σ1 hs ih=>
  rw [wpK,hg]; simp only [hs]; rintro ⟨hc,h⟩
  exact W_op T bs n (guard_ev n hg) hs hc (ih h)
 | case7 f σ d op g w chk os k hg hs=>rw [wpK,hg]; simp only [hs]; exact False.elim
 | case8 f σ d op g w chk os k hg ih=>
  rw [wpK,hg]; intro h
  exact W_no T bs n (guard_ev n hg) (ih h)
 | case9 f σ d op g w chk os k hg=>rw [wpK,hg]; exact False.elim
 | case10 f σ k ih=>rw [wpK]; intro h; exact ⟨.normal,f,σ,execT_skip ..,ih h⟩
 | case11 f σ k os ih=>rw [wpK]; exact ih
 | case12 f σ k a b ih=>
  rw [wpK]; intro h
  obtain ⟨e,f1,σ1,hr,hq⟩:=ih h
  cases e with
  | normal=>
   obtain ⟨e2,f2,σ2,hr2,hq2⟩:=hq
   exact ⟨e2,f2,σ2,by rw [execT_seq,hr]; exact hr2,hq2⟩
  | exit id=>exact ⟨_,f1,σ1,by rw [execT_seq,hr]; rfl,hq⟩
  | ret=>exact ⟨_,f1,σ1,by rw [execT_seq,hr]; rfl,hq⟩
 | case13 f σ k c x y hb ih=>
  rw [wpK,hb]; intro h
  obtain ⟨e,f1,σ1,hr,hq⟩:=ih h
  exact ⟨e,f1,σ1,by rw [execT_cond,ev_lst,hb]; exact hr,hq⟩
 | case14 f σ k c x y hb ih=>
  rw [wpK,hb]; intro h
  obtain ⟨e,f1,σ1,hr,hq⟩:=ih h
  exact ⟨e,f1,σ1,by rw [execT_cond,ev_lst,hb]; exact hr,hq⟩
 | case15 f σ k c x y h1 h2=>
  rw [wpK]
  split
  ·rename_i e; exact absurd e h1
  ·rename_i e; exact absurd e h2
  ·exact False.elim
 | case16 f σ id c k ih=>
  rw [wpK]; intro h
  obtain ⟨e,f1,σ1,hr,hq⟩:=ih h
  cases e with
  | normal=>exact ⟨_,f1,σ1,by rw [execT_block,hr]; rfl,hq⟩
  | ret=>exact ⟨_,f1,σ1,by rw [execT_block,hr]; rfl,hq⟩
  | exit i=>
   simp only [contQ] at hq
   by_cases hi:i=id
   ·rw [if_pos hi] at hq
    exact ⟨_,f1,σ1,by rw [execT_block,hr]; simp only [Option.map_some,outBlock,if_pos hi],hq⟩
   ·rw [if_neg hi] at hq
    exact ⟨_,f1,σ1,by rw [execT_block,hr]; simp only [Option.map_some,outBlock,if_neg hi],hq⟩
 | case17 f σ id k k' hk ih=>
  rw [wpK_exit,hk]; intro h
  exact ⟨_,f,σ,execT_exit ..,(popTo_contQ T bs n k).1 k' hk (ih h)⟩
 | case18 f σ id k hk=>
  rw [wpK_exit,hk]; intro h
  exact ⟨_,f,σ,execT_exit ..,(popTo_contQ T bs n k).2 hk h⟩
 | case19 f σ k=>
  rw [wpK]; intro h
  have:∀ k,contQ T bs n k Q .ret f σ:=fun k=>by
   induction k with
   | nil=>exact h
   | cons x k ih=>cases x <;> exact ih
  exact ⟨_,f,σ,execT_ret ..,this k⟩
 | case20 f σ k c=>rw [wpK]; exact id
 | case21 f σ l k ih=>rw [wpK]; intro h; exact ⟨.normal,f,σ,execT_lab ..,ih h⟩
 | case22 f σ c l rest k=>rw [wpK]; exact id
 | case23 f σ x rc k=>rw [wpK]; exact id
theorem wpC_sound {c:ACode} {f:FR} {σ:Heap} {Q:AExit→FR→Heap→Prop} (h:wpK T bs n [.code c] f σ Q):W T bs n c f σ Q:=by
 have:=wpK_sound T bs n [.code c] f σ Q h
 exact W_mono T bs n this fun e f σ hq=>by cases e <;> exact hq
theorem contQ_exit {id:Nat} {k:List Fr} {Q:AExit→FR→Heap→Prop} {f:FR} {σ:Heap} (h:exW T bs n (popTo id k) id f σ Q):contQ T bs n k Q (.exit id) f σ:=by
 cases hk:popTo id k with
 | some k'=>rw [hk] at h; exact (popTo_contQ T bs n k).1 k' hk (wpK_sound T bs n k' f σ Q h)
 | none=>rw [hk] at h; exact (popTo_contQ T bs n k).2 hk h
theorem contQ_ret {k:List Fr} {Q:AExit→FR→Heap→Prop} {f:FR} {σ:Heap} (h:Q .ret f σ):contQ T bs n k Q .ret f σ:=by
 induction k with
 | nil=>exact h
 | cons x k ih=>cases x <;> exact ih
end
def resF (n:Nat) (f:FR) (σ:Heap):List ARes→Option (List AV)
 | []=>some []
 | .tmp t :: rs=>(resF n f σ rs).map fun vs=>evF n f (.t t) :: vs
 | .cell a sz ag :: rs=>(loadA σ sz ag (evF n f (.t a))).bind fun v=>(resF n f σ rs).map fun vs=>v :: vs
theorem resA_lst (n:Nat) (f:FR) (σ:Heap):∀ rs,resA (lst n f) σ rs=resF n f σ rs
 | []=>rfl
 | .tmp t :: rs=>by simp only [resA,resF,resA_lst n f σ rs,lst_getD,evF]
 | .cell a sz ag :: rs=>by simp only [resA,resF,resA_lst n f σ rs,lst_getD,evF]
def endP (n:Nat) (rs:List ARes) (v:AV):AExit→FR→Heap→Prop
 | .exit _,_,_=>False
 | _,f,σ=>∃ vs σ1,resF n f σ rs=some vs∧closeR σ (res1 vs)=some (v,σ1)∧v.datR=true
def argF (args:List AV):FR:=fun t=>args.getD t .undef
theorem startA_lst {af:AFunc} {args:List AV} (h:args.length≤af.ntmps):startA af args=lst af.ntmps (argF args):=by
 apply List.ext_getElem?
 intro t
 simp only [startA,lst,List.getElem?_map]
 rcases Nat.lt_or_ge t af.ntmps with h1 | h1
 ·rw [List.getElem?_range h1]
  rcases Nat.lt_or_ge t args.length with h2 | h2
  ·rw [zqA h2]; simp [argF,h2]
  ·rw [zqB h2,List.getElem?_replicate,if_pos (by omega)]; simp [argF,Nat.not_lt.2 h2]
 ·rw [List.getElem?_eq_none (by simp; omega),List.getElem?_eq_none (by simpa using h1)]; rfl
theorem pure_enter {T:Tab} {af:AFunc} {args:List AV} {v:AV} (h:args.length≤af.ntmps) (hw:wpK T 0 af.ntmps [.code af.body] (argF args) [] (endP af.ntmps af.res v)):pureT T af args=some v:=by
 obtain ⟨e,f',σ',hr,hk⟩:=wpC_sound T 0 af.ntmps hw
 unfold pureT
 rw [startA_lst h,hr]
 cases e with
 | exit id=>exact hk.elim
 | normal=>
  obtain ⟨vs,σ1,h1,h2,h3⟩:=hk
  simp only [Option.bind_some,finP,resA_lst,h1,h2]
  rw [if_pos h3]
 | ret=>
  obtain ⟨vs,σ1,h1,h2,h3⟩:=hk
  simp only [Option.bind_some,finP,resA_lst,h1,h2]
  rw [if_pos h3]
def AV.clean0:AV→Bool
 | .int _ _ | .bool _ | .str _ | .nilptr | .nilfunc | .isl _ false | .nilmap=>true
 | _=>false
def AV.cleanC:AV→Bool
 | .iptr cs _=>cs.all AV.clo1
 | v=>v.clean0
def AV.clean:AV→Bool
 | .agg cs=>cs.all AV.clean0
 | .func _ cs=>cs.all AV.cleanC
 | .meth _ cs=>cs.all AV.cleanC
 | .iptr cs _=>cs.all AV.clo1
 | v=>v.clean0
theorem clean0_close {σ:Heap} {v:AV} (h:v.clean0=true):close1 σ v=some (v,σ)∧v.clo1=true:=by
 cases v <;> first | exact ⟨rfl,rfl⟩ | (cases h; done) | skip
 rename_i es c
 cases c
 ·exact ⟨rfl,rfl⟩
 ·cases h
theorem clean_closeL {σ:Heap}:∀ {l:List AV},l.all AV.clean0=true→closeL σ l=some (l,σ)∧l.all AV.clo1=true
 | [],_=>⟨rfl,rfl⟩
 | v :: l,h=>by
  simp only [List.all_cons,zqL] at h
  obtain ⟨h1,h2⟩:=clean0_close (σ:=σ) h.1
  obtain ⟨h3,h4⟩:=clean_closeL (σ:=σ) h.2
  exact ⟨by simp [closeL,h1,h3],by simp [h2,h4]⟩
theorem cleanC_close {σ:Heap} {v:AV} (h:v.cleanC=true):closeP σ v=some (v,σ)∧v.cloC=true:=by
 cases v <;> first | (cases h; done) | exact clean0_close h | exact ⟨rfl,h⟩
theorem clean_closePL {σ:Heap}:∀ {l:List AV},l.all AV.cleanC=true→closePL σ l=some (l,σ)∧l.all AV.cloC=true
 | [],_=>⟨rfl,rfl⟩
 | v :: l,h=>by
  simp only [List.all_cons,zqL] at h
  obtain ⟨h1,h2⟩:=cleanC_close (σ:=σ) h.1
  obtain ⟨h3,h4⟩:=clean_closePL (σ:=σ) h.2
  exact ⟨by simp [closePL,h1,h3],by simp [h2,h4]⟩
theorem AV.dat1_of {x:AV} (h:x.clo1=true):x.dat1=true:=by cases x <;> first | exact h | (cases h; done)
theorem clean_close {σ:Heap} {v:AV} (h:v.clean=true):closeA σ v=some (v,σ)∧v.dat=true:=by
 cases v with
 | agg cs=>
  obtain ⟨h1,h2⟩:=clean_closeL (σ:=σ) h
  refine ⟨by simp [closeA,h1],?_⟩
  simp only [AV.dat,zqQ] at h2 ⊢
  exact fun x hx=>AV.dat1_of (h2 x hx)
 | func f cs=>obtain ⟨h1,h2⟩:=clean_closePL (σ:=σ) h; exact ⟨by simp [closeA,h1],h2⟩
 | meth f cs=>obtain ⟨h1,h2⟩:=clean_closePL (σ:=σ) h; exact ⟨by simp [closeA,h1],h2⟩
 | iptr cs o=>exact ⟨rfl,h⟩
 | _=>
  simp only [AV.clean] at h
  exact ⟨(clean0_close (σ:=σ) h).1,(clean0_close (σ:=σ) h).2⟩
theorem clean_closeT {σ:Heap}:∀ {l:List AV},l.all AV.clean=true→closeT σ l=some (l,σ)∧l.all AV.dat=true
 | [],_=>⟨rfl,rfl⟩
 | v :: l,h=>by
  simp only [List.all_cons,zqL] at h
  obtain ⟨h1,h2⟩:=clean_close (σ:=σ) h.1
  obtain ⟨h3,h4⟩:=clean_closeT (σ:=σ) h.2
  exact ⟨by simp [closeT,h1,h3],by simp [h2,h4]⟩
theorem call_pure {T:Tab} {f:Nat} {af:AFunc} {args args':List AV} {v:AV} {bs:Nat} {σ σ':Heap} (hp:T.pr f=none) (hf:T.fn f=some af) (hm:af.mode=.pure) (hc:closeT σ args=some (args',σ')) (hd:args'.all AV.dat=true) (h:pureT T af args'=some v) :
  callT T f args bs σ=some (v,if v.scal=true then σ else σ'):=by
 rw [callT_pure T bs σ hp hf hm,hc]
 simp only [Option.bind_some,if_pos hd,h,Option.map_some]
theorem call_clean {T:Tab} {f:Nat} {af:AFunc} {args:List AV} {v:AV} {bs:Nat} {σ:Heap} (hp:T.pr f=none) (hf:T.fn f=some af) (hm:af.mode=.pure) (hc:args.all AV.clean=true) (h:pureT T af args=some v) :
  callT T f args bs σ=some (v,σ):=by rw [call_pure hp hf hm (clean_closeT hc).1 (clean_closeT (σ:=σ) hc).2 h,ite_self]
@[simp] theorem evF_t (n:Nat) (f:FR) (t:Nat):evF n f (.t t)=if t<n then f t else .undef:=rfl
@[simp] theorem evF_c (n:Nat) (f:FR) (v:AV):evF n f (.c v)=v:=rfl
@[simp] theorem evF_f (n:Nat) (f:FR) (k:Nat):evF n f (.f k)=.func k []:=rfl
@[simp] theorem upF_apply (f:FR) (d:Nat) (v:AV) (t:Nat):upF f d v t=if t=d then v else f t:=rfl
@[simp] theorem updO_some (f:FR) (d:Nat) (v:AV):updO f (some d) v=upF f d v:=rfl
@[simp] theorem updO_none (f:FR) (v:AV):updO f none v=f:=rfl
@[simp] theorem guardV_bool (b c:Bool):guardV b (.bool c)=some (c == b):=rfl
@[simp] theorem guardV_tup (b:Bool) (l:List AV):guardV b (.tup l)=some false:=rfl
@[simp] theorem popTo_blk (id i:Nat) (k:List Fr):popTo id (.blk i :: k)=if i=id then some k else popTo id k:=rfl
@[simp] theorem popTo_code (id:Nat) (c:ACode) (k:List Fr):popTo id (.code c :: k)=popTo id k:=rfl
@[simp] theorem popTo_ops (id:Nat) (os:List AOper) (k:List Fr):popTo id (.ops os :: k)=popTo id k:=rfl
@[simp] theorem popTo_nil (id:Nat):popTo id []=none:=rfl
@[simp] theorem argF_0 (a:AV) (l:List AV):argF (a :: l) 0=a:=rfl
@[simp] theorem argF_s (a:AV) (l:List AV) (t:Nat):argF (a :: l) (t+1)=argF l t:=by simp [argF]
section
variable (c:CallF) (bs:Nat) (ρ:Regs) (σ:Heap)
attribute [simp] fillA chunk setRun resF closeT closeL
@[simp] theorem window_z (l:List AV) (n:Nat):window l 0 n=if n≤l.length then some (l.take n) else none:=by simp [window]
@[simp] theorem window_s (a:AV) (l:List AV) (o n:Nat):window (a :: l) (o+1) n=window l o n:=by
 simp only [window,zqU,List.drop_succ_cons]
 by_cases h:o+n≤l.length
 ·rw [if_pos h,if_pos (by omega)]
 ·rw [if_neg h,if_neg (by omega)]
@[simp] theorem cells_undef:(AV.undef).cells=[AV.undef]:=rfl
@[simp] theorem solid_undef:(AV.undef).solid=false:=rfl
@[simp] theorem clo1_undef:(AV.undef).clo1=false:=rfl
@[simp] theorem clo_undef:(AV.undef).clo=false:=rfl
@[simp] theorem dat_undef:(AV.undef).dat=false:=rfl
@[simp] theorem dat1_undef:(AV.undef).dat1=false:=rfl
@[simp] theorem datR_undef:(AV.undef).datR=false:=rfl
@[simp] theorem isSl_undef:isSl (AV.undef)=false:=rfl
@[simp] theorem nrm_undef :(AV.undef).nrm=(AV.undef):=rfl
@[simp] theorem nrm_int (k:IntKind) (n:Int):(AV.int k n).nrm=(AV.int k n):=rfl
@[simp] theorem nrm_bool (b:Bool):(AV.bool b).nrm=(AV.bool b):=rfl
@[simp] theorem nrm_str (s:ByteArray):(AV.str s).nrm=(AV.str s):=rfl
@[simp] theorem nrm_nilptr :(AV.nilptr).nrm=(AV.nilptr):=rfl
@[simp] theorem nrm_nilfunc :(AV.nilfunc).nrm=(AV.nilfunc):=rfl
@[simp] theorem nrm_nilmap :(AV.nilmap).nrm=(AV.nilmap):=rfl
@[simp] theorem nrm_ptr (i o:Nat):(AV.ptr i o).nrm=(AV.ptr i o):=rfl
@[simp] theorem nrm_map (i:Nat):(AV.map i).nrm=(AV.map i):=rfl
@[simp] theorem nrm_yld (i:Nat):(AV.yld i).nrm=(AV.yld i):=rfl
@[simp] theorem nrm_iptr (cs:List AV) (o:Nat):(AV.iptr cs o).nrm=(AV.iptr cs o):=rfl
@[simp] theorem nrm_own (i:Nat) (es:List AV):(AV.own i es).nrm=(AV.own i es):=rfl
@[simp] theorem nrm_sl (i o l z:Nat) (g:Bool):(AV.sl i o l z g).nrm=(AV.sl i o l z g):=rfl
@[simp] theorem nrm_func (f:Nat) (cs:List AV):(AV.func f cs).nrm=(AV.func f cs):=rfl
@[simp] theorem nrm_meth (f:Nat) (cs:List AV):(AV.meth f cs).nrm=(AV.meth f cs):=rfl
@[simp] theorem nrm_agg (cs:List AV):(AV.agg cs).nrm=(AV.agg cs):=rfl
@[simp] theorem nrm_isl (es:List AV) (b:Bool):(AV.isl es b).nrm=.isl es false:=rfl
@[simp] theorem close1_undef:close1 σ (AV.undef)=some ((AV.undef),σ):=rfl
@[simp] theorem closeA_undef:closeA σ (AV.undef)=close1 σ (AV.undef):=rfl
@[simp] theorem closeR_undef:closeR σ (AV.undef)=closeA σ (AV.undef):=rfl
@[simp] theorem cells_int (k:IntKind) (n:Int):(AV.int k n).cells=[AV.int k n]:=rfl
@[simp] theorem solid_int (k:IntKind) (n:Int):(AV.int k n).solid=true:=rfl
@[simp] theorem clo1_int (k:IntKind) (n:Int):(AV.int k n).clo1=true:=rfl
@[simp] theorem clo_int (k:IntKind) (n:Int):(AV.int k n).clo=true:=rfl
@[simp] theorem dat_int (k:IntKind) (n:Int):(AV.int k n).dat=true:=rfl
@[simp] theorem dat1_int (k:IntKind) (n:Int):(AV.int k n).dat1=true:=rfl
@[simp] theorem datR_int (k:IntKind) (n:Int):(AV.int k n).datR=true:=rfl
@[simp] theorem isSl_int (k:IntKind) (n:Int):isSl (AV.int k n)=false:=rfl
@[simp] theorem close1_int (k:IntKind) (n:Int):close1 σ (AV.int k n)=some ((AV.int k n),σ):=rfl
@[simp] theorem closeA_int (k:IntKind) (n:Int):closeA σ (AV.int k n)=close1 σ (AV.int k n):=rfl
@[simp] theorem closeR_int (k:IntKind) (n:Int):closeR σ (AV.int k n)=closeA σ (AV.int k n):=rfl
@[simp] theorem cells_bool (b:Bool):(AV.bool b).cells=[AV.bool b]:=rfl
@[simp] theorem solid_bool (b:Bool):(AV.bool b).solid=true:=rfl
@[simp] theorem clo1_bool (b:Bool):(AV.bool b).clo1=true:=rfl
@[simp] theorem clo_bool (b:Bool):(AV.bool b).clo=true:=rfl
@[simp] theorem dat_bool (b:Bool):(AV.bool b).dat=true:=rfl
@[simp] theorem dat1_bool (b:Bool):(AV.bool b).dat1=true:=rfl
@[simp] theorem datR_bool (b:Bool):(AV.bool b).datR=true:=rfl
@[simp] theorem isSl_bool (b:Bool):isSl (AV.bool b)=false:=rfl
@[simp] theorem close1_bool (b:Bool):close1 σ (AV.bool b)=some ((AV.bool b),σ):=rfl
@[simp] theorem closeA_bool (b:Bool):closeA σ (AV.bool b)=close1 σ (AV.bool b):=rfl
@[simp] theorem closeR_bool (b:Bool):closeR σ (AV.bool b)=closeA σ (AV.bool b):=rfl
@[simp] theorem cells_str (s:ByteArray):(AV.str s).cells=[AV.str s]:=rfl
@[simp] theorem solid_str (s:ByteArray):(AV.str s).solid=true:=rfl
@[simp] theorem clo1_str (s:ByteArray):(AV.str s).clo1=true:=rfl
@[simp] theorem clo_str (s:ByteArray):(AV.str s).clo=true:=rfl
@[simp] theorem dat_str (s:ByteArray):(AV.str s).dat=true:=rfl
@[simp] theorem dat1_str (s:ByteArray):(AV.str s).dat1=true:=rfl
@[simp] theorem datR_str (s:ByteArray):(AV.str s).datR=true:=rfl
@[simp] theorem isSl_str (s:ByteArray):isSl (AV.str s)=false:=rfl
@[simp] theorem close1_str (s:ByteArray):close1 σ (AV.str s)=some ((AV.str s),σ):=rfl
@[simp] theorem closeA_str (s:ByteArray):closeA σ (AV.str s)=close1 σ (AV.str s):=rfl
@[simp] theorem closeR_str (s:ByteArray):closeR σ (AV.str s)=closeA σ (AV.str s):=rfl
@[simp] theorem cells_nilptr:(AV.nilptr).cells=[AV.nilptr]:=rfl
@[simp] theorem solid_nilptr:(AV.nilptr).solid=true:=rfl
@[simp] theorem clo1_nilptr:(AV.nilptr).clo1=true:=rfl
@[simp] theorem clo_nilptr:(AV.nilptr).clo=true:=rfl
@[simp] theorem dat_nilptr:(AV.nilptr).dat=true:=rfl
@[simp] theorem dat1_nilptr:(AV.nilptr).dat1=true:=rfl
@[simp] theorem datR_nilptr:(AV.nilptr).datR=true:=rfl
@[simp] theorem isSl_nilptr:isSl (AV.nilptr)=false:=rfl
@[simp] theorem close1_nilptr:close1 σ (AV.nilptr)=some ((AV.nilptr),σ):=rfl
@[simp] theorem closeA_nilptr:closeA σ (AV.nilptr)=close1 σ (AV.nilptr):=rfl
@[simp] theorem closeR_nilptr:closeR σ (AV.nilptr)=closeA σ (AV.nilptr):=rfl
@[simp] theorem cells_nilfunc:(AV.nilfunc).cells=[AV.nilfunc]:=rfl
@[simp] theorem cells_nilmap:(AV.nilmap).cells=[AV.nilmap]:=rfl
@[simp] theorem solid_nilfunc:(AV.nilfunc).solid=true:=rfl
@[simp] theorem solid_nilmap:(AV.nilmap).solid=true:=rfl
@[simp] theorem clo1_nilfunc:(AV.nilfunc).clo1=true:=rfl
@[simp] theorem clo1_nilmap:(AV.nilmap).clo1=true:=rfl
@[simp] theorem clo_nilfunc:(AV.nilfunc).clo=true:=rfl
@[simp] theorem clo_nilmap:(AV.nilmap).clo=true:=rfl
@[simp] theorem dat_nilfunc:(AV.nilfunc).dat=true:=rfl
@[simp] theorem dat_nilmap:(AV.nilmap).dat=true:=rfl
@[simp] theorem dat1_nilfunc:(AV.nilfunc).dat1=true:=rfl
@[simp] theorem dat1_nilmap:(AV.nilmap).dat1=true:=rfl
@[simp] theorem datR_nilfunc:(AV.nilfunc).datR=true:=rfl
@[simp] theorem datR_nilmap:(AV.nilmap).datR=true:=rfl
@[simp] theorem isSl_nilfunc:isSl (AV.nilfunc)=false:=rfl
@[simp] theorem isSl_nilmap:isSl (AV.nilmap)=false:=rfl
@[simp] theorem close1_nilfunc:close1 σ (AV.nilfunc)=some ((AV.nilfunc),σ):=rfl
@[simp] theorem close1_nilmap:close1 σ (AV.nilmap)=some ((AV.nilmap),σ):=rfl
@[simp] theorem closeA_nilfunc:closeA σ (AV.nilfunc)=close1 σ (AV.nilfunc):=rfl
@[simp] theorem closeA_nilmap:closeA σ (AV.nilmap)=close1 σ (AV.nilmap):=rfl
@[simp] theorem closeR_nilfunc:closeR σ (AV.nilfunc)=closeA σ (AV.nilfunc):=rfl
@[simp] theorem closeR_nilmap:closeR σ (AV.nilmap)=closeA σ (AV.nilmap):=rfl
@[simp] theorem cells_ptr (i o:Nat):(AV.ptr i o).cells=[AV.ptr i o]:=rfl
@[simp] theorem cells_map (i:Nat):(AV.map i).cells=[AV.map i]:=rfl
@[simp] theorem cells_yld (i:Nat):(AV.yld i).cells=[AV.yld i]:=rfl
@[simp] theorem solid_ptr (i o:Nat):(AV.ptr i o).solid=true:=rfl
@[simp] theorem solid_map (i:Nat):(AV.map i).solid=true:=rfl
@[simp] theorem solid_yld (i:Nat):(AV.yld i).solid=true:=rfl
@[simp] theorem clo1_ptr (i o:Nat):(AV.ptr i o).clo1=false:=rfl
@[simp] theorem clo1_map (i:Nat):(AV.map i).clo1=false:=rfl
@[simp] theorem clo1_yld (i:Nat):(AV.yld i).clo1=false:=rfl
@[simp] theorem clo_ptr (i o:Nat):(AV.ptr i o).clo=false:=rfl
@[simp] theorem clo_map (i:Nat):(AV.map i).clo=false:=rfl
@[simp] theorem clo_yld (i:Nat):(AV.yld i).clo=false:=rfl
@[simp] theorem dat_ptr (i o:Nat):(AV.ptr i o).dat=false:=rfl
@[simp] theorem dat_map (i:Nat):(AV.map i).dat=false:=rfl
@[simp] theorem dat_yld (i:Nat):(AV.yld i).dat=false:=rfl
@[simp] theorem dat1_ptr (i o:Nat):(AV.ptr i o).dat1=false:=rfl
@[simp] theorem dat1_map (i:Nat):(AV.map i).dat1=false:=rfl
@[simp] theorem dat1_yld (i:Nat):(AV.yld i).dat1=false:=rfl
@[simp] theorem datR_ptr (i o:Nat):(AV.ptr i o).datR=false:=rfl
@[simp] theorem datR_map (i:Nat):(AV.map i).datR=false:=rfl
@[simp] theorem datR_yld (i:Nat):(AV.yld i).datR=false:=rfl
@[simp] theorem isSl_ptr (i o:Nat):isSl (AV.ptr i o)=false:=rfl
@[simp] theorem isSl_map (i:Nat):isSl (AV.map i)=false:=rfl
@[simp] theorem isSl_yld (i:Nat):isSl (AV.yld i)=false:=rfl
@[simp] theorem close1_ptr (i o:Nat):close1 σ (AV.ptr i o)=some ((AV.ptr i o),σ):=rfl
@[simp] theorem close1_map (i:Nat):close1 σ (AV.map i)=some ((AV.map i),σ):=rfl
@[simp] theorem close1_yld (i:Nat):close1 σ (AV.yld i)=some ((AV.yld i),σ):=rfl
@[simp] theorem closeA_ptr (i o:Nat):closeA σ (AV.ptr i o)=close1 σ (AV.ptr i o):=rfl
@[simp] theorem closeA_map (i:Nat):closeA σ (AV.map i)=close1 σ (AV.map i):=rfl
@[simp] theorem closeA_yld (i:Nat):closeA σ (AV.yld i)=close1 σ (AV.yld i):=rfl
@[simp] theorem closeR_ptr (i o:Nat):closeR σ (AV.ptr i o)=closeA σ (AV.ptr i o):=rfl
@[simp] theorem closeR_map (i:Nat):closeR σ (AV.map i)=closeA σ (AV.map i):=rfl
@[simp] theorem closeR_yld (i:Nat):closeR σ (AV.yld i)=closeA σ (AV.yld i):=rfl
@[simp] theorem cells_iptr (cs:List AV) (o:Nat):(AV.iptr cs o).cells=[AV.iptr cs o]:=rfl
@[simp] theorem solid_iptr (cs:List AV) (o:Nat):(AV.iptr cs o).solid=true:=rfl
@[simp] theorem clo1_iptr (cs:List AV) (o:Nat):(AV.iptr cs o).clo1=false:=rfl
@[simp] theorem clo_iptr (cs:List AV) (o:Nat):(AV.iptr cs o).clo=false:=rfl
@[simp] theorem dat_iptr (cs:List AV) (o:Nat):(AV.iptr cs o).dat=cs.all AV.clo1:=rfl
@[simp] theorem dat1_iptr (cs:List AV) (o:Nat):(AV.iptr cs o).dat1=cs.all AV.clo1:=rfl
@[simp] theorem datR_iptr (cs:List AV) (o:Nat):(AV.iptr cs o).datR=cs.all AV.clo1:=rfl
@[simp] theorem isSl_iptr (cs:List AV) (o:Nat):isSl (AV.iptr cs o)=false:=rfl
@[simp] theorem close1_iptr (cs:List AV) (o:Nat):close1 σ (AV.iptr cs o)=some ((AV.iptr cs o),σ):=rfl
@[simp] theorem closeA_iptr (cs:List AV) (o:Nat):closeA σ (AV.iptr cs o)=close1 σ (AV.iptr cs o):=rfl
@[simp] theorem closeR_iptr (cs:List AV) (o:Nat):closeR σ (AV.iptr cs o)=closeA σ (AV.iptr cs o):=rfl
@[simp] theorem cells_isl (es:List AV) (b:Bool):(AV.isl es b).cells=[AV.isl es b]:=rfl
@[simp] theorem solid_isl (es:List AV) (b:Bool):(AV.isl es b).solid=true:=rfl
@[simp] theorem clo1_isl (es:List AV) (b:Bool):(AV.isl es b).clo1=true:=rfl
@[simp] theorem clo_isl (es:List AV) (b:Bool):(AV.isl es b).clo=true:=rfl
@[simp] theorem dat_isl (es:List AV) (b:Bool):(AV.isl es b).dat=true:=rfl
@[simp] theorem dat1_isl (es:List AV) (b:Bool):(AV.isl es b).dat1=true:=rfl
@[simp] theorem datR_isl (es:List AV) (b:Bool):(AV.isl es b).datR=true:=rfl
@[simp] theorem isSl_isl (es:List AV) (b:Bool):isSl (AV.isl es b)=true:=rfl
@[simp] theorem closeA_isl (es:List AV) (b:Bool):closeA σ (AV.isl es b)=close1 σ (AV.isl es b):=rfl
@[simp] theorem closeR_isl (es:List AV) (b:Bool):closeR σ (AV.isl es b)=closeA σ (AV.isl es b):=rfl
@[simp] theorem cells_own (i:Nat) (es:List AV):(AV.own i es).cells=[AV.own i es]:=rfl
@[simp] theorem solid_own (i:Nat) (es:List AV):(AV.own i es).solid=true:=rfl
@[simp] theorem clo1_own (i:Nat) (es:List AV):(AV.own i es).clo1=false:=rfl
@[simp] theorem clo_own (i:Nat) (es:List AV):(AV.own i es).clo=false:=rfl
@[simp] theorem dat_own (i:Nat) (es:List AV):(AV.own i es).dat=false:=rfl
@[simp] theorem dat1_own (i:Nat) (es:List AV):(AV.own i es).dat1=false:=rfl
@[simp] theorem datR_own (i:Nat) (es:List AV):(AV.own i es).datR=false:=rfl
@[simp] theorem isSl_own (i:Nat) (es:List AV):isSl (AV.own i es)=true:=rfl
@[simp] theorem closeA_own (i:Nat) (es:List AV):closeA σ (AV.own i es)=close1 σ (AV.own i es):=rfl
@[simp] theorem closeR_own (i:Nat) (es:List AV):closeR σ (AV.own i es)=closeA σ (AV.own i es):=rfl
@[simp] theorem cells_sl (i o l z:Nat) (g:Bool):(AV.sl i o l z g).cells=[AV.sl i o l z g]:=rfl
@[simp] theorem solid_sl (i o l z:Nat) (g:Bool):(AV.sl i o l z g).solid=true:=rfl
@[simp] theorem clo1_sl (i o l z:Nat) (g:Bool):(AV.sl i o l z g).clo1=false:=rfl
@[simp] theorem clo_sl (i o l z:Nat) (g:Bool):(AV.sl i o l z g).clo=false:=rfl
@[simp] theorem dat_sl (i o l z:Nat) (g:Bool):(AV.sl i o l z g).dat=false:=rfl
@[simp] theorem dat1_sl (i o l z:Nat) (g:Bool):(AV.sl i o l z g).dat1=false:=rfl
@[simp] theorem datR_sl (i o l z:Nat) (g:Bool):(AV.sl i o l z g).datR=false:=rfl
@[simp] theorem isSl_sl (i o l z:Nat) (g:Bool):isSl (AV.sl i o l z g)=true:=rfl
@[simp] theorem closeA_sl (i o l z:Nat) (g:Bool):closeA σ (AV.sl i o l z g)=close1 σ (AV.sl i o l z g):=rfl
@[simp] theorem closeR_sl (i o l z:Nat) (g:Bool):closeR σ (AV.sl i o l z g)=closeA σ (AV.sl i o l z g):=rfl
@[simp] theorem cells_func (f:Nat) (cs:List AV):(AV.func f cs).cells=[AV.func f cs]:=rfl
@[simp] theorem solid_func (f:Nat) (cs:List AV):(AV.func f cs).solid=true:=rfl
@[simp] theorem clo1_func (f:Nat) (cs:List AV):(AV.func f cs).clo1=false:=rfl
@[simp] theorem clo_func (f:Nat) (cs:List AV):(AV.func f cs).clo=false:=rfl
@[simp] theorem dat_func (f:Nat) (cs:List AV):(AV.func f cs).dat=cs.all AV.cloC:=rfl
@[simp] theorem dat1_func (f:Nat) (cs:List AV):(AV.func f cs).dat1=cs.all AV.cloC:=rfl
@[simp] theorem datR_func (f:Nat) (cs:List AV):(AV.func f cs).datR=cs.all AV.cloC:=rfl
@[simp] theorem isSl_func (f:Nat) (cs:List AV):isSl (AV.func f cs)=false:=rfl
@[simp] theorem close1_func (f:Nat) (cs:List AV):close1 σ (AV.func f cs)=some ((AV.func f cs),σ):=rfl
@[simp] theorem closeA_func (f:Nat) (cs:List AV):closeA σ (AV.func f cs)=(closePL σ cs).map fun x=>(.func f x.1,x.2):=rfl
@[simp] theorem closeR_func (f:Nat) (cs:List AV):closeR σ (AV.func f cs)=closeA σ (AV.func f cs):=rfl
@[simp] theorem cells_meth (f:Nat) (cs:List AV):(AV.meth f cs).cells=[AV.meth f cs]:=rfl
@[simp] theorem solid_meth (f:Nat) (cs:List AV):(AV.meth f cs).solid=true:=rfl
@[simp] theorem clo1_meth (f:Nat) (cs:List AV):(AV.meth f cs).clo1=false:=rfl
@[simp] theorem clo_meth (f:Nat) (cs:List AV):(AV.meth f cs).clo=false:=rfl
@[simp] theorem dat_meth (f:Nat) (cs:List AV):(AV.meth f cs).dat=cs.all AV.cloC:=rfl
@[simp] theorem dat1_meth (f:Nat) (cs:List AV):(AV.meth f cs).dat1=cs.all AV.cloC:=rfl
@[simp] theorem datR_meth (f:Nat) (cs:List AV):(AV.meth f cs).datR=cs.all AV.cloC:=rfl
@[simp] theorem isSl_meth (f:Nat) (cs:List AV):isSl (AV.meth f cs)=false:=rfl
@[simp] theorem close1_meth (f:Nat) (cs:List AV):close1 σ (AV.meth f cs)=some ((AV.meth f cs),σ):=rfl
@[simp] theorem closeA_meth (f:Nat) (cs:List AV):closeA σ (AV.meth f cs)=(closePL σ cs).map fun x=>(.meth f x.1,x.2):=rfl
@[simp] theorem closeR_meth (f:Nat) (cs:List AV):closeR σ (AV.meth f cs)=closeA σ (AV.meth f cs):=rfl
@[simp] theorem cells_agg (cs:List AV):(AV.agg cs).cells=cs:=rfl
@[simp] theorem solid_agg (cs:List AV):(AV.agg cs).solid=true:=rfl
@[simp] theorem clo1_agg (cs:List AV):(AV.agg cs).clo1=false:=rfl
@[simp] theorem clo_agg (cs:List AV):(AV.agg cs).clo=cs.all AV.clo1:=rfl
@[simp] theorem dat_agg (cs:List AV):(AV.agg cs).dat=cs.all AV.dat1:=rfl
@[simp] theorem dat1_agg (cs:List AV):(AV.agg cs).dat1=false:=rfl
@[simp] theorem datR_agg (cs:List AV):(AV.agg cs).datR=cs.all AV.dat1:=rfl
@[simp] theorem isSl_agg (cs:List AV):isSl (AV.agg cs)=false:=rfl
@[simp] theorem closeR_agg (cs:List AV):closeR σ (AV.agg cs)=closeA σ (AV.agg cs):=rfl
@[simp] theorem cells_tup (vs:List AV):(AV.tup vs).cells=[AV.tup vs]:=rfl
@[simp] theorem solid_tup (vs:List AV):(AV.tup vs).solid=false:=rfl
@[simp] theorem clo1_tup (vs:List AV):(AV.tup vs).clo1=false:=rfl
@[simp] theorem clo_tup (vs:List AV):(AV.tup vs).clo=false:=rfl
@[simp] theorem dat_tup (vs:List AV):(AV.tup vs).dat=false:=rfl
@[simp] theorem dat1_tup (vs:List AV):(AV.tup vs).dat1=false:=rfl
@[simp] theorem datR_tup (vs:List AV):(AV.tup vs).datR=vs.all AV.dat:=rfl
@[simp] theorem isSl_tup (vs:List AV):isSl (AV.tup vs)=false:=rfl
@[simp] theorem close1_tup (vs:List AV):close1 σ (AV.tup vs)=some ((AV.tup vs),σ):=rfl
@[simp] theorem closeA_tup (vs:List AV):closeA σ (AV.tup vs)=close1 σ (AV.tup vs):=rfl
@[simp] theorem close1_isl (es:List AV) (b:Bool):close1 σ (.isl es b)=some (.isl es false,σ):=rfl
@[simp] theorem close1_own (i:Nat) (es:List AV):close1 σ (.own i es)=some (.isl es false,σ):=rfl
@[simp] theorem close1_agg (cs:List AV):close1 σ (.agg cs)=some (.agg cs,σ):=rfl
@[simp] theorem cloC_undef:(AV.undef).cloC=false:=rfl
@[simp] theorem closeP_undef:closeP σ (AV.undef)=close1 σ (AV.undef):=rfl
@[simp] theorem cloC_int (k:IntKind) (n:Int):(AV.int k n).cloC=true:=rfl
@[simp] theorem closeP_int (k:IntKind) (n:Int):closeP σ (AV.int k n)=close1 σ (AV.int k n):=rfl
@[simp] theorem cloC_bool (b:Bool):(AV.bool b).cloC=true:=rfl
@[simp] theorem closeP_bool (b:Bool):closeP σ (AV.bool b)=close1 σ (AV.bool b):=rfl
@[simp] theorem cloC_str (s:ByteArray):(AV.str s).cloC=true:=rfl
@[simp] theorem closeP_str (s:ByteArray):closeP σ (AV.str s)=close1 σ (AV.str s):=rfl
@[simp] theorem cloC_nilptr:(AV.nilptr).cloC=true:=rfl
@[simp] theorem closeP_nilptr:closeP σ (AV.nilptr)=close1 σ (AV.nilptr):=rfl
@[simp] theorem cloC_nilfunc:(AV.nilfunc).cloC=true:=rfl
@[simp] theorem cloC_nilmap:(AV.nilmap).cloC=true:=rfl
@[simp] theorem closeP_nilfunc:closeP σ (AV.nilfunc)=close1 σ (AV.nilfunc):=rfl
@[simp] theorem closeP_nilmap:closeP σ (AV.nilmap)=close1 σ (AV.nilmap):=rfl
@[simp] theorem cloC_ptr (i o:Nat):(AV.ptr i o).cloC=false:=rfl
@[simp] theorem cloC_map (i:Nat):(AV.map i).cloC=false:=rfl
@[simp] theorem closeP_map (i:Nat):closeP σ (AV.map i)=close1 σ (AV.map i):=rfl
@[simp] theorem cloC_yld (i:Nat):(AV.yld i).cloC=false:=rfl
@[simp] theorem closeP_yld (i:Nat):closeP σ (AV.yld i)=close1 σ (AV.yld i):=rfl
@[simp] theorem cloC_iptr (cs:List AV) (o:Nat):(AV.iptr cs o).cloC=cs.all AV.clo1:=rfl
@[simp] theorem closeP_iptr (cs:List AV) (o:Nat):closeP σ (AV.iptr cs o)=close1 σ (AV.iptr cs o):=rfl
@[simp] theorem cloC_isl (es:List AV) (b:Bool):(AV.isl es b).cloC=true:=rfl
@[simp] theorem closeP_isl (es:List AV) (b:Bool):closeP σ (AV.isl es b)=close1 σ (AV.isl es b):=rfl
@[simp] theorem cloC_own (i:Nat) (es:List AV):(AV.own i es).cloC=false:=rfl
@[simp] theorem closeP_own (i:Nat) (es:List AV):closeP σ (AV.own i es)=close1 σ (AV.own i es):=rfl
@[simp] theorem cloC_sl (i o l z:Nat) (g:Bool):(AV.sl i o l z g).cloC=false:=rfl
@[simp] theorem closeP_sl (i o l z:Nat) (g:Bool):closeP σ (AV.sl i o l z g)=close1 σ (AV.sl i o l z g):=rfl
@[simp] theorem cloC_func (f:Nat) (cs:List AV):(AV.func f cs).cloC=false:=rfl
@[simp] theorem closeP_func (f:Nat) (cs:List AV):closeP σ (AV.func f cs)=close1 σ (AV.func f cs):=rfl
@[simp] theorem cloC_meth (f:Nat) (cs:List AV):(AV.meth f cs).cloC=false:=rfl
@[simp] theorem closeP_meth (f:Nat) (cs:List AV):closeP σ (AV.meth f cs)=close1 σ (AV.meth f cs):=rfl
@[simp] theorem cloC_agg (cs:List AV):(AV.agg cs).cloC=false:=rfl
@[simp] theorem closeP_agg (cs:List AV):closeP σ (AV.agg cs)=close1 σ (AV.agg cs):=rfl
@[simp] theorem cloC_tup (vs:List AV):(AV.tup vs).cloC=false:=rfl
@[simp] theorem closeP_tup (vs:List AV):closeP σ (AV.tup vs)=close1 σ (AV.tup vs):=rfl
@[simp] theorem closeP_ptr (id off:Nat):closeP σ (.ptr id off)=(match σ[id]? with | some (.cells cs fz ext)=>(closeL (frz σ id cs.length) cs).bind fun x=>if x.1.all AV.clo1=true then some (.iptr x.1 off,x.2) else none | _=>none):=rfl
@[simp] theorem closePL_nil:closePL σ []=some ([],σ):=rfl
@[simp] theorem closePL_cons (v:AV) (vs:List AV):closePL σ (v :: vs)=(closeP σ v).bind fun x=>(closePL x.2 vs).map fun y=>(x.1 :: y.1,y.2):=rfl
@[simp] theorem closeA_agg (cs:List AV):closeA σ (.agg cs)=(closeL σ cs).map fun x=>(.agg x.1,x.2):=rfl
@[simp] theorem closeR_tup (vs:List AV):closeR σ (.tup vs)=(closeT σ vs).map fun x=>(.tup x.1,x.2):=rfl
@[simp] theorem mk_true (w:List AV):mk true w=some (.agg w):=rfl
@[simp] theorem mk_one (v:AV):mk false [v]=some v:=rfl
@[simp] theorem lenA_isl (es:List AV) (b:Bool):lenA (.isl es b)=some es.length:=rfl
@[simp] theorem lenA_own (i:Nat) (es:List AV):lenA (.own i es)=some es.length:=rfl
@[simp] theorem lenA_sl (i o l z:Nat) (g:Bool):lenA (.sl i o l z g)=some l:=rfl
@[simp] theorem lenA_str (s:ByteArray):lenA (.str s)=some s.size:=rfl
@[simp] theorem notNil_isl_cons (e:AV) (es:List AV) (b:Bool):notNil (.isl (e :: es) b)=true:=rfl
@[simp] theorem notNil_own (i:Nat) (es:List AV):notNil (.own i es)=true:=rfl
@[simp] theorem notNil_sl (i o l z:Nat) (g:Bool):notNil (.sl i o l z g)=true:=rfl
@[simp] theorem res1_one (v:AV):res1 [v]=v:=rfl
@[simp] theorem res1_two (v u:AV) (l:List AV):res1 (v :: u :: l)=.tup (v :: u :: l):=rfl
@[simp] theorem res1_nil:res1 []=.tup []:=rfl
@[simp] theorem loadA_ptr (sz:Nat) (ag:Bool) (id off:Nat):loadA σ sz ag (.ptr id off)=(match σ[id]? with | some (.cells cs _ _)=>(window cs off sz).bind (mk ag) | _=>none):=rfl
@[simp] theorem loadA_iptr (sz:Nat) (ag:Bool) (cs:List AV) (off:Nat):loadA σ sz ag (.iptr cs off)=(window cs off sz).bind (mk ag):=rfl
@[simp] theorem storeA_ptr (sz:Nat) (v:AV) (id off:Nat):storeA bs σ sz v (.ptr id off)=(match σ[id]? with | some (.cells cs fz ext)=>if fz≤off∧off+sz≤cs.length∧v.solid=true∧v.cells.length=sz∧(bs≤id∨v.cells.all AV.clo1=true) then some (σ.set id (.cells (setRun cs off v.cells) fz ext)) else none | _=>none):=rfl
@[simp] theorem endP_ret (n:Nat) (f:FR) (rs:List ARes) (v:AV):endP n rs v .ret f σ=∃ vs σ1,resF n f σ rs=some vs∧closeR σ (res1 vs)=some (v,σ1)∧v.datR=true:=rfl
@[simp] theorem endP_normal (n:Nat) (f:FR) (rs:List ARes) (v:AV):endP n rs v .normal f σ=∃ vs σ1,resF n f σ rs=some vs∧closeR σ (res1 vs)=some (v,σ1)∧v.datR=true:=rfl
@[simp] theorem st_mv (x:AX):stepAll c bs ρ σ (.mv x)=some (ev ρ x,σ):=rfl
@[simp] theorem st_bin (op:BinOp) (x y:AX):stepAll c bs ρ σ (.bin op x y)=(binA op (ev ρ x) (ev ρ y)).map fun v=>(v,σ):=rfl
@[simp] theorem st_un (op:UnOp) (x:AX):stepAll c bs ρ σ (.un op x)=(unA op (ev ρ x)).map fun v=>(v,σ):=rfl
@[simp] theorem callN_eq (f:Nat) (args:List AV) (h:f≠18446744073709551616):callN c f args bs σ=c f args bs σ:=if_neg h
@[simp] theorem st_call (f:Nat) (args:List AX):stepAll c bs ρ σ (.call f args)=callN c f (args.map (ev ρ)) bs σ:=rfl
def callV (c:CallF) (bs:Nat) (args:List AV) (σ:Heap):AV→Option (AV × Heap)
 | .func f caps=>callN c f (args++caps) bs σ
 | .meth f first=>callN c f (first++args) bs σ
 | .yld id=>c 18446744073709551616 (.yld id :: args) bs σ
 | _=>none
@[simp] theorem st_callv (x:AX) (args:List AX):stepAll c bs ρ σ (.callv x args)=callV c bs (args.map (ev ρ)) σ (ev ρ x):=by
 simp only [stepAll,callV]; cases ev ρ x <;> rfl
@[simp] theorem callV_meth (args:List AV) (f:Nat) (first:List AV):callV c bs args σ (.meth f first)=callN c f (first++args) bs σ:=rfl
@[simp] theorem callV_func (args:List AV) (f:Nat) (caps:List AV):callV c bs args σ (.func f caps)=callN c f (args++caps) bs σ:=rfl
@[simp] theorem callV_yld (args:List AV) (id:Nat):callV c bs args σ (.yld id)=c 18446744073709551616 (.yld id :: args) bs σ:=rfl
def pickV (a b:AV) (σ:Heap):AV→Option (AV × Heap)
 | .bool true=>some (a,σ)
 | .bool false=>some (b,σ)
 | _=>none
@[simp] theorem st_pick (x a b:AX):stepAll c bs ρ σ (.pick x a b)=pickV (ev ρ a) (ev ρ b) σ (ev ρ x):=rfl
@[simp] theorem pickV_true (a b:AV):pickV a b σ (.bool true)=some (a,σ):=rfl
@[simp] theorem pickV_false (a b:AV):pickV a b σ (.bool false)=some (b,σ):=rfl
@[simp] theorem st_allocB (t e:Nat):stepAll c bs ρ σ (.allocB t e)=some (.ptr σ.length 0,σ++[.bld t e []]):=rfl
@[simp] theorem st_alloc (zs:List AV):stepAll c bs ρ σ (.alloc zs)=some (.ptr σ.length 0,σ++[.cells zs 0 false]):=rfl
@[simp] theorem st_box (x:AX):stepAll c bs ρ σ (.box x)=if (ev ρ x).solid=true then some (.ptr σ.length 0,σ++[.cells (ev ρ x).cells 0 false]) else none:=rfl
@[simp] theorem st_build (zs:List AV) (ps:List (Nat × Nat × AX)):stepAll c bs ρ σ (.build zs ps)=(fillA ρ zs ps).map fun cs=>(.agg cs,σ):=rfl
@[simp] theorem st_buildSl (n sz:Nat) (ag:Bool) (zs:List AV) (ps:List (Nat × Nat × AX)):stepAll c bs ρ σ (.buildSl n sz ag zs ps)=(fillA ρ zs ps).map fun cs=>(.sl σ.length 0 n sz ag,σ++[.cells cs 0 false]):=rfl
@[simp] theorem st_load (sz:Nat) (ag:Bool) (x:AX):stepAll c bs ρ σ (.load sz ag x)=(loadA σ sz ag (ev ρ x)).map fun v=>(v,σ):=rfl
@[simp] theorem st_store (sz:Nat) (a x:AX):stepAll c bs ρ σ (.store sz a x)=(storeA bs σ sz (ev ρ x) (ev ρ a)).map fun σ'=>(.undef,σ'):=rfl
def nilckV (σ:Heap):AV→Option (AV × Heap)
 | .ptr id off=>some (.ptr id off,σ)
 | .iptr cs off=>some (.iptr cs off,σ)
 | .func f caps=>some (.func f caps,σ)
 | .meth f caps=>some (.meth f caps,σ)
 | _=>none
@[simp] theorem st_nilck (x:AX):stepAll c bs ρ σ (.nilck x)=nilckV σ (ev ρ x):=rfl
@[simp] theorem nilckV_ptr (id off:Nat):nilckV σ (.ptr id off)=some (.ptr id off,σ):=rfl
@[simp] theorem nilckV_iptr (cs:List AV) (off:Nat):nilckV σ (.iptr cs off)=some (.iptr cs off,σ):=rfl
@[simp] theorem nilckV_meth (f:Nat) (caps:List AV):nilckV σ (.meth f caps)=some (.meth f caps,σ):=rfl
@[simp] theorem nilckV_func (f:Nat) (caps:List AV):nilckV σ (.func f caps)=some (.func f caps,σ):=rfl
def eqbV (neg:Bool):AV→AV→Option AV
 | .bool a,.bool b=>some (.bool (neg != (a == b)))
 | _,_=>none
@[simp] theorem st_eqb (neg:Bool) (x y:AX):stepAll c bs ρ σ (.eqb neg x y)=(eqbV neg (ev ρ x) (ev ρ y)).map fun v=>(v,σ):=by
 simp only [stepAll,stepOp,eqbV]; cases ev ρ x <;> first | rfl | (cases ev ρ y <;> rfl)
@[simp] theorem eqbV_bool (neg a b:Bool):eqbV neg (.bool a) (.bool b)=some (.bool (neg != (a == b))):=rfl
@[simp] theorem st_mkmap:stepAll c bs ρ σ .mkmap=some (.map σ.length,σ++[.mp []]):=rfl
@[simp] theorem st_mlook (ag:Bool) (ks:List Nat) (zv:AV) (ok:Bool) (x k:AX):stepAll c bs ρ σ (.mlook ag ks zv ok x k)=(mlookA σ ag ks zv ok (ev ρ x) (ev ρ k)).map fun v=>(v,σ):=rfl
@[simp] theorem st_clear (sz:Nat) (zs:List AV) (x:AX):stepAll c bs ρ σ (.clear sz zs x)=(clearA bs σ sz zs (ev ρ x)).map fun σ'=>(.undef,σ'):=rfl
@[simp] theorem st_mset (ag:Bool) (ks:List Nat) (m k v:AX):stepAll c bs ρ σ (.mset ag ks m k v)=(msetA σ ag ks (ev ρ m) (ev ρ k) (ev ρ v)).map fun σ'=>(.undef,σ'):=rfl
@[simp] theorem st_eqag (neg:Bool) (ks:List Nat) (x y:AX):stepAll c bs ρ σ (.eqag neg ks x y)=(eqagV neg ks (ev ρ x) (ev ρ y)).map fun v=>(v,σ):=rfl
@[simp] theorem eqagV_agg (neg:Bool) (ks:List Nat) (cs ds:List AV):eqagV neg ks (.agg cs) (.agg ds)=(eqcs ks cs ds).map fun r=>.bool (neg != r):=rfl
@[simp] theorem eqcs_nil:eqcs [] [] []=some true:=rfl
@[simp] theorem eqcs_str (ks:List Nat) (a b:ByteArray) (cs ds:List AV):eqcs (2 :: ks) (.str a :: cs) (.str b :: ds)=(eqcs ks cs ds).map fun r=>(decide (a=b)) && r:=by
 simp only [eqcs]
 congr 1; funext r; congr 1
 rw [Bool.eq_iff_iff,beq_iff_eq,decide_eq_true_eq]
 constructor
 ·intro h
  rw [ByteArray.toList_eq,ByteArray.toList_eq] at h
  cases a; cases b; simp at h; simpa using h
 ·rintro rfl; rfl
@[simp] theorem st_eqnil (neg:Bool) (x:AX):stepAll c bs ρ σ (.eqnil neg x)=if notNil (ev ρ x)=true then some (.bool neg,σ) else none:=rfl
@[simp] theorem st_eqp (neg:Bool) (x:AX):stepAll c bs ρ σ (.eqp neg x)=(eqpV neg (ev ρ x)).map fun v=>(v,σ):=rfl
@[simp] theorem eqpV_nil (neg:Bool):eqpV neg .nilptr=some (.bool (!neg)):=rfl
@[simp] theorem eqpV_ptr (neg:Bool) (i o:Nat):eqpV neg (.ptr i o)=some (.bool neg):=rfl
@[simp] theorem eqpV_iptr (neg:Bool) (cs:List AV) (o:Nat):eqpV neg (.iptr cs o)=some (.bool neg):=rfl
def convV (k:IntKind):AV→Option AV
 | .int _ n=>some (.int k (k.wrap n))
 | _=>none
@[simp] theorem st_conv (k:IntKind) (x:AX):stepAll c bs ρ σ (.conv k x)=(convV k (ev ρ x)).map fun v=>(v,σ):=by
 simp only [stepAll,stepOp,convV]; cases ev ρ x <;> rfl
@[simp] theorem convV_int (k k':IntKind) (n:Int):convV k (.int k' n)=some (.int k (k.wrap n)):=rfl
def cvsV:AV→Option AV
 | .str s=>some (.str s)
 | _=>none
@[simp] theorem st_cvs (x:AX):stepAll c bs ρ σ (.cvs x)=(cvsV (ev ρ x)).map fun v=>(v,σ):=by
 simp only [stepAll,stepOp,cvsV]; cases ev ρ x <;> rfl
@[simp] theorem cvsV_str (s:ByteArray):cvsV (.str s)=some (.str s):=rfl
def s2bV (σ:Heap):AV→Option (AV × Heap)
 | .str s=>some (.sl σ.length 0 s.size 1 false,σ++[.cells (u8s s) 0 true])
 | _=>none
@[simp] theorem st_s2b (x:AX):stepAll c bs ρ σ (.s2b x)=s2bV σ (ev ρ x):=rfl
@[simp] theorem s2bV_str (s:ByteArray):s2bV σ (.str s)=some (.sl σ.length 0 s.size 1 false,σ++[.cells (u8s s) 0 true]):=rfl
def b2sV (σ:Heap) (v:AV):Option AV:=if isSl v=false then none else (elemsA σ 1 false v).bind fun es=>(bytesA es).map .str
@[simp] theorem st_b2s (x:AX):stepAll c bs ρ σ (.b2s x)=(b2sV σ (ev ρ x)).map fun v=>(v,σ):=by
 simp only [stepAll,stepOp,b2sV]
 split
 ·rfl
 ·cases elemsA σ 1 false (ev ρ x) with
  | none=>rfl
  | some es=>simp only [Option.bind_some,Option.map_map]; rfl
@[simp] theorem st_mkmeth (f:Nat) (caps:List AX):stepAll c bs ρ σ (.mkmeth f caps)=some (.meth f (caps.map (ev ρ)),σ):=rfl
@[simp] theorem st_mkfn (f:Nat) (caps:List AX):stepAll c bs ρ σ (.mkfn f caps)=some (.func f (caps.map (ev ρ)),σ):=rfl
def mkslV (sz : Nat) (ag : Bool) (bytes : Nat) (zs : List AV) (σ : Heap) : AV → AV → Option (AV × Heap)
  | .int .i64 n, .int .i64 m => if n = m ∧ 0 ≤ n ∧ n * bytes ≤ 70368744177664 ∧ n ≤ 70368744177664 then
        some (.sl σ.length 0 n.toNat sz ag, σ ++ [.cells ((List.replicate n.toNat zs).flatten) 0 false]) else none
  | _, _ => none
@[simp] theorem st_mksl (sz:Nat) (ag:Bool) (bytes:Nat) (zs:List AV) (l x:AX):stepAll c bs ρ σ (.mksl sz ag bytes zs l x)=mkslV sz ag bytes zs σ (ev ρ l) (ev ρ x):=rfl
@[simp] theorem mkslV_int (sz : Nat) (ag : Bool) (bytes : Nat) (zs : List AV) (n m : Int) : mkslV sz ag bytes zs σ (.int .i64 n) (.int .i64 m) = if n = m ∧ 0 ≤ n ∧ n * bytes ≤ 70368744177664 ∧ n ≤ 70368744177664 then
        some (.sl σ.length 0 n.toNat sz ag, σ ++ [.cells ((List.replicate n.toNat zs).flatten) 0 false]) else none := rfl
def bndV (len d:Nat):Option AV→Option Nat
 | none=>some d
 | some (.int _ n)=>if 0≤n∧n≤len then some n.toNat else none
 | some _=>none
theorem asNat_bnd (len d:Nat) (x:Option AX):asNat len x d ρ=bndV len d (x.map (ev ρ)):=by
 cases x with
 | none=>rfl
 | some x=>simp only [asNat,bndV,Option.map_some]; cases ev ρ x <;> rfl
@[simp] theorem bndV_none (len d:Nat):bndV len d none=some d:=rfl
@[simp] theorem bndV_int (len d:Nat) (k:IntKind) (n:Int):bndV len d (some (.int k n))=if 0≤n∧n≤len then some n.toNat else none:=rfl
def strSlV (lo hi:Option AV):AV→Option AV
 | .str s=>(bndV s.size s.size hi).bind fun h=>(bndV h 0 lo).map fun l=>.str (s.extract l h)
 | _=>none
@[simp] theorem st_strSl (x:AX) (lo hi:Option AX):stepAll c bs ρ σ (.strSl x lo hi)=(strSlV (lo.map (ev ρ)) (hi.map (ev ρ)) (ev ρ x)).map fun v=>(v,σ):=by
 simp only [stepAll,stepOp,asNat_bnd,strSlV]
 cases ev ρ x <;> try rfl
 rename_i s
 simp only
 cases bndV s.size s.size (hi.map (ev ρ)) with
 | none=>rfl
 | some h=>simp only [Option.bind_some,Option.map_map]; rfl
@[simp] theorem strSlV_str (lo hi:Option AV) (s:ByteArray):strSlV lo hi (.str s)=(bndV s.size s.size hi).bind fun h=>(bndV h 0 lo).map fun l=>.str (s.extract l h):=rfl
def slSlV (sz:Nat) (lo hi:Option AV) (v:AV):Option AV:=if isSl v=false then none else (lenA v).bind fun n=>(bndV n n hi).bind fun h=>(bndV h 0 lo).bind fun l=>slSlA sz l h v
@[simp] theorem st_slSl (sz:Nat) (x:AX) (lo hi:Option AX):stepAll c bs ρ σ (.slSl sz x lo hi)=(slSlV sz (lo.map (ev ρ)) (hi.map (ev ρ)) (ev ρ x)).map fun v=>(v,σ):=by
 simp only [stepAll,stepOp,asNat_bnd,slSlV]
 split
 ·rfl
 ·cases lenA (ev ρ x) with
  | none=>rfl
  | some n=>
   simp only [Option.bind_some]
   cases bndV n n (hi.map (ev ρ)) with
   | none=>rfl
   | some h=>
    simp only [Option.bind_some]
    cases bndV h 0 (lo.map (ev ρ)) <;> rfl
def faddrV (off:Nat) (σ:Heap):AV→Option (AV × Heap)
 | .ptr id o=>some (.ptr id (o+off),σ)
 | .iptr cs o=>some (.iptr cs (o+off),σ)
 | _=>none
@[simp] theorem st_faddr (off:Nat) (x:AX):stepAll c bs ρ σ (.faddr off x)=faddrV off σ (ev ρ x):=rfl
@[simp] theorem faddrV_ptr (off id o:Nat):faddrV off σ (.ptr id o)=some (.ptr id (o+off),σ):=rfl
@[simp] theorem faddrV_iptr (off o:Nat) (cs:List AV):faddrV off σ (.iptr cs o)=some (.iptr cs (o+off),σ):=rfl
def fieldV (off sz:Nat) (ag:Bool):AV→Option AV
 | .agg cs=>(window cs off sz).bind (mk ag)
 | _=>none
@[simp] theorem st_field (off sz:Nat) (ag:Bool) (x:AX):stepAll c bs ρ σ (.field off sz ag x)=(fieldV off sz ag (ev ρ x)).map fun v=>(v,σ):=by
 simp only [stepAll,stepOp,fieldV]; cases ev ρ x <;> rfl
@[simp] theorem fieldV_agg (off sz:Nat) (ag:Bool) (cs:List AV):fieldV off sz ag (.agg cs)=(window cs off sz).bind (mk ag):=rfl
def iaddrV (sz:Nat) (x:AV):AV→Option AV
 | .int _ n=>if 0≤n then (match x with
   | .isl es _=>es[n.toNat]?.bind fun e=>if e.cells.length=sz then some (.iptr e.cells 0) else none
   | .own _ es=>es[n.toNat]?.bind fun e=>if e.cells.length=sz then some (.iptr e.cells 0) else none
   | .sl id off len sz' _=>if n<len∧sz=sz' then some (.ptr id (off+n.toNat * sz)) else none
   | _=>none) else none
 | _=>none
@[simp] theorem st_iaddrS (sz:Nat) (x i:AX):stepAll c bs ρ σ (.iaddrS sz x i)=(iaddrV sz (ev ρ x) (ev ρ i)).map fun v=>(v,σ):=by
 simp only [stepAll,stepOp,iaddrV]
 cases ev ρ i <;> try rfl
 rename_i k n
 simp only
 split
 ·cases ev ρ x <;> try rfl
  ·rename_i es _
   simp only
   cases es[n.toNat]? with
   | none=>rfl
   | some e=>simp only [Option.bind_some]; split <;> rfl
  ·rename_i id es
   simp only
   cases es[n.toNat]? with
   | none=>rfl
   | some e=>simp only [Option.bind_some]; split <;> rfl
  ·simp only; split <;> rfl
 ·rfl
@[simp] theorem iaddrV_isl (sz:Nat) (es:List AV) (b:Bool) (k:IntKind) (n:Int):iaddrV sz (.isl es b) (.int k n)=if 0≤n then (es[n.toNat]?.bind fun e=>if e.cells.length=sz then some (.iptr e.cells 0) else none) else none:=rfl
@[simp] theorem iaddrV_own (sz:Nat) (es:List AV) (id:Nat) (k:IntKind) (n:Int):iaddrV sz (.own id es) (.int k n)=if 0≤n then (es[n.toNat]?.bind fun e=>if e.cells.length=sz then some (.iptr e.cells 0) else none) else none:=rfl
@[simp] theorem iaddrV_sl (sz:Nat) (id off len sz':Nat) (ag:Bool) (k:IntKind) (n:Int):iaddrV sz (.sl id off len sz' ag) (.int k n)=if 0≤n then (if n<len∧sz=sz' then some (.ptr id (off+n.toNat * sz)) else none) else none:=rfl
def iaddrAV (n sz:Nat) (σ:Heap):AV→AV→Option (AV × Heap)
 | .ptr id off,.int _ m=>if 0≤m∧m<n then some (.ptr id (off+m.toNat * sz),σ) else none
 | .iptr cs off,.int _ m=>if 0≤m∧m<n then some (.iptr cs (off+m.toNat * sz),σ) else none
 | _,_=>none
@[simp] theorem st_iaddrA (n sz:Nat) (x i:AX):stepAll c bs ρ σ (.iaddrA n sz x i)=iaddrAV n sz σ (ev ρ x) (ev ρ i):=rfl
@[simp] theorem iaddrAV_iptr (n sz:Nat) (cs:List AV) (off:Nat) (k:IntKind) (m:Int):iaddrAV n sz σ (.iptr cs off) (.int k m)=if 0≤m∧m<n then some (.iptr cs (off+m.toNat * sz),σ) else none:=rfl
@[simp] theorem iaddrAV_ptr (n sz id off:Nat) (k:IntKind) (m:Int):iaddrAV n sz σ (.ptr id off) (.int k m)=if 0≤m∧m<n then some (.ptr id (off+m.toNat * sz),σ) else none:=rfl
def idxStrV (v i:AV):Option AV:=match v,i with
 | .str s,.int _ n=>if 0≤n then (s.data.toList[n.toNat]?).map fun b=>.int .u8 (b.toNat:Int) else none
 | _,_=>none
@[simp] theorem st_idxStr (x i:AX):stepAll c bs ρ σ (.idxStr x i)=(idxStrV (ev ρ x) (ev ρ i)).map fun v=>(v,σ):=by
 simp only [stepAll,stepOp,idxStrV]
 cases ev ρ x <;> try rfl
 cases ev ρ i <;> try rfl
 simp only
 split
 ·simp only [Option.map_map]; rfl
 ·rfl
@[simp] theorem idxStrV_str (s:ByteArray) (k:IntKind) (n:Int):idxStrV (.str s) (.int k n)=if 0≤n then (s.data.toList[n.toNat]?).map fun b=>.int .u8 (b.toNat:Int) else none:=rfl
def idxArrV (n sz:Nat) (ag:Bool) (v i:AV):Option AV:=match v,i with
 | .agg cs,.int _ m=>if 0≤m∧m<n then (window cs (m.toNat * sz) sz).bind (mk ag) else none
 | _,_=>none
@[simp] theorem st_idxArr (n sz:Nat) (ag:Bool) (x i:AX):stepAll c bs ρ σ (.idxArr n sz ag x i)=(idxArrV n sz ag (ev ρ x) (ev ρ i)).map fun v=>(v,σ):=by
 simp only [stepAll,stepOp,idxArrV]
 cases ev ρ x <;> try rfl
 cases ev ρ i <;> try rfl
 simp only
 split <;> rfl
@[simp] theorem idxArrV_agg (n sz:Nat) (ag:Bool) (cs:List AV) (k:IntKind) (m:Int):idxArrV n sz ag (.agg cs) (.int k m)=if 0≤m∧m<n then (window cs (m.toNat * sz) sz).bind (mk ag) else none:=rfl
def extrV (i:Nat):AV→Option AV
 | .tup vs=>vs[i]?
 | _=>none
@[simp] theorem st_extract (i:Nat) (x:AX):stepAll c bs ρ σ (.extract i x)=(extrV i (ev ρ x)).map fun v=>(v,σ):=by
 simp only [stepAll,stepOp,extrV]; cases ev ρ x <;> rfl
@[simp] theorem extrV_tup (i:Nat) (vs:List AV):extrV i (.tup vs)=vs[i]?:=rfl
def lenV (st:Bool) (v:AV):Option AV:=if isSl v=st then none else (lenA v).map fun (n:Nat)=>.int .i64 (n:Int)
@[simp] theorem st_len (st:Bool) (x:AX):stepAll c bs ρ σ (.len st x)=(lenV st (ev ρ x)).map fun v=>(v,σ):=by
 simp only [stepAll,stepOp,lenV]
 split
 ·rfl
 ·simp only [Option.map_map]; rfl
@[simp] theorem lenV_str (s:ByteArray):lenV true (.str s)=some (.int .i64 (s.size:Int)):=rfl
@[simp] theorem lenV_isl (es:List AV) (b:Bool):lenV false (.isl es b)=some (.int .i64 (es.length:Int)):=rfl
@[simp] theorem lenV_own (id:Nat) (es:List AV):lenV false (.own id es)=some (.int .i64 (es.length:Int)):=rfl
@[simp] theorem lenV_sl (id off len sz:Nat) (ag:Bool):lenV false (.sl id off len sz ag)=some (.int .i64 (len:Int)):=rfl
@[simp] theorem st_append (sz:Nat) (ag:Bool) (b:Nat) (mt:Bool) (s x:AX):stepAll c bs ρ σ (.append sz ag b mt s x)=appendC σ sz ag b mt (ev ρ s) (ev ρ x):=rfl
@[simp] theorem st_max (xs:List AX):stepAll c bs ρ σ (.max xs)=(maxA (xs.map (ev ρ))).map fun v=>(v,σ):=rfl
@[simp] theorem maxA_int (k:IntKind) (a:Int) (l:List AV):maxA (.int k a :: l)=(maxF a l).map (.int k):=rfl
@[simp] theorem maxF_nil (a:Int):maxF a []=some a:=rfl
@[simp] theorem maxF_int (k:IntKind) (a b:Int) (l:List AV):maxF a (.int k b :: l)=maxF (if b > a then b else a) l:=rfl
def min2V:AV→AV→Option AV
 | .int k a,.int _ b=>some (.int k (if b<a then b else a))
 | _,_=>none
@[simp] theorem st_min2 (x y:AX):stepAll c bs ρ σ (.min2 x y)=(min2V (ev ρ x) (ev ρ y)).map fun v=>(v,σ):=by
 simp only [stepAll,stepOp,min2V]
 cases ev ρ x <;> try rfl
 cases ev ρ y <;> rfl
@[simp] theorem min2V_int (k k':IntKind) (a b:Int):min2V (.int k a) (.int k' b)=some (.int k (if b<a then b else a)):=rfl
def slClV (sz : Nat) (lo hi mx : AV) (v : AV) : Option AV := (lenA v).bind fun n => (bndV n n (some mx)).bind fun m => (bndV m n (some hi)).bind fun h => (bndV h 0 (some lo)).bind fun l =>
      if l = 0 ∧ h = m then (match v with
        | .isl es _ => some (.isl (es.take h) true)
        | _ => none) else none
@[simp] theorem st_slCl (sz:Nat) (x lo hi mx:AX):stepAll c bs ρ σ (.slCl sz x lo hi mx)=(slClV sz (ev ρ lo) (ev ρ hi) (ev ρ mx) (ev ρ x)).map fun v=>(v,σ):=by
 simp only [stepAll,stepOp,asNat_bnd,slClV,Option.map_some]
 cases lenA (ev ρ x) with
 | none=>rfl
 | some n=>
  simp only [Option.bind_some]
  cases bndV n n (some (ev ρ mx)) with
  | none=>rfl
  | some m=>
   simp only [Option.bind_some]
   cases bndV m n (some (ev ρ hi)) with
   | none=>rfl
   | some h=>
    simp only [Option.bind_some]
    cases bndV h 0 (some (ev ρ lo)) with
    | none=>rfl
    | some l=>
     simp only [Option.bind_some]
     split
     ·cases ev ρ x <;> rfl
     ·rfl
def arrSlV (n sz:Nat) (ag:Bool) (lo hi:Option AV) (σ:Heap):AV→Option (AV × Heap)
 | .ptr id off=>match σ[id]? with
  | some (.cells cs _ false)=>(bndV n n hi).bind fun h=>(bndV h 0 lo).bind fun l=>
    if off+n * sz=cs.length∧0<sz∧l<n then some (.sl id (off+l * sz) (h - l) sz ag,σ) else none
  | _=>none
 | _=>none
@[simp] theorem st_arrSl (n sz:Nat) (ag:Bool) (x:AX) (lo hi:Option AX):stepAll c bs ρ σ (.arrSl n sz ag x lo hi)=arrSlV n sz ag (lo.map (ev ρ)) (hi.map (ev ρ)) σ (ev ρ x):=by
 simp only [stepAll,stepOp,asNat_bnd,arrSlV]
 cases ev ρ x <;> rfl
def rngV (σ:Heap):AV→Option (AV × Heap)
 | .str s=>some (.ptr σ.length 0,σ++[.iter s 0])
 | _=>none
@[simp] theorem st_rng (x:AX):stepAll c bs ρ σ (.rng x)=rngV σ (ev ρ x):=rfl
@[simp] theorem rngV_str (s:ByteArray):rngV σ (.str s)=some (.ptr σ.length 0,σ++[.iter s 0]):=rfl
def nxtV (σ:Heap):AV→Option (AV × Heap)
 | .ptr id 0=>match σ[id]? with
   | some (.iter s pos)=>if pos<s.size then
     some (.tup [.bool true,.int .i64 (pos:Int),.int .i32 (Utf8.decode s pos).1],σ.set id (.iter s (pos+(Utf8.decode s pos).2)))
    else some (.tup [.bool false],σ)
   | _=>none
 | _=>none
@[simp] theorem st_nxt (x:AX):stepAll c bs ρ σ (.nxt x)=nxtV σ (ev ρ x):=rfl
end
def xorI (k:IntKind) (a b:Int):Int:=(BitVec.ofInt k.bits a ^^^ BitVec.ofInt k.bits b).toNat
theorem xorI_nat (k:IntKind) {a b:Nat} (ha:a<2 ^ k.bits) (hb:b<2 ^ k.bits):xorI k (a:Int) (b:Int)=((a ^^^ b:Nat):Int):=by
 simp only [xorI,BitVec.ofInt_natCast,BitVec.toNat_xor,BitVec.toNat_ofNat,Nat.mod_eq_of_lt ha,Nat.mod_eq_of_lt hb]
section
variable (k:IntKind) (a b:Int)
@[simp] theorem bin_add:binA .add (.int k a) (.int k b)=some (.int k (k.wrap (a+b))):=by simp [binA]
@[simp] theorem bin_sub:binA .sub (.int k a) (.int k b)=some (.int k (k.wrap (a - b))):=by simp [binA]
@[simp] theorem bin_mul:binA .mul (.int k a) (.int k b)=some (.int k (k.wrap (a * b))):=by simp [binA]
@[simp] theorem bin_quo:binA .quo (.int k a) (.int k b)=if b=0 then none else some (.int k (k.wrap (a.tdiv b))):=by simp [binA]
@[simp] theorem bin_rem:binA .rem (.int k a) (.int k b)=if b=0 then none else some (.int k (a.tmod b)):=by simp [binA]
@[simp] theorem bin_xor:binA .xor (.int k a) (.int k b)=some (.int k (k.wrap (xorI k a b))):=by simp [binA,xorI]
@[simp] theorem bin_shl (k':IntKind):binA .shl (.int k a) (.int k' b)=if 0≤b then some (.int k (k.wrap (a * 2 ^ (min b.toNat k.bits)))) else none:=rfl
@[simp] theorem bin_shr (k':IntKind):binA .shr (.int k a) (.int k' b)=if 0≤b then some (.int k (a.fdiv (2 ^ (min b.toNat k.bits)))) else none:=rfl
@[simp] theorem bin_eql:binA .eql (.int k a) (.int k b)=some (.bool (decide (a=b))):=by simp [binA]; rfl
@[simp] theorem bin_neq:binA .neq (.int k a) (.int k b)=some (.bool (!decide (a=b))):=by simp [binA]; rfl
@[simp] theorem bin_lss:binA .lss (.int k a) (.int k b)=some (.bool (decide (a<b))):=by simp [binA]
@[simp] theorem bin_leq:binA .leq (.int k a) (.int k b)=some (.bool (decide (a≤b))):=by simp [binA]
@[simp] theorem bin_gtr:binA .gtr (.int k a) (.int k b)=some (.bool (decide (a > b))):=by simp [binA]
@[simp] theorem bin_geq:binA .geq (.int k a) (.int k b)=some (.bool (decide (a ≥ b))):=by simp [binA]
variable (s t:ByteArray)
@[simp] theorem bin_sadd:binA .add (.str s) (.str t)=if ((s.size+t.size:Nat):Int)≤IntKind.i64.max then some (.str (s++t)) else none:=rfl
theorem toList_beq (s t:ByteArray):(s.toList == t.toList)=decide (s=t):=by
 rw [ByteArray.toList_eq,ByteArray.toList_eq,Bool.eq_iff_iff]
 simp only [beq_iff_eq,decide_eq_true_eq]
 exact ⟨fun h=>ByteArray.ext (Array.ext' h),fun h=>by rw [h]⟩
@[simp] theorem bin_seql:binA .eql (.str s) (.str t)=some (.bool (decide (s=t))):=by rw [←toList_beq]; rfl
@[simp] theorem bin_sneq:binA .neq (.str s) (.str t)=some (.bool (!decide (s=t))):=by rw [←toList_beq]; rfl
@[simp] theorem bin_slss:binA .lss (.str s) (.str t)=some (.bool (Op.bytesLess s.toList t.toList)):=rfl
@[simp] theorem bin_sgtr:binA .gtr (.str s) (.str t)=some (.bool (!(Op.bytesLess s.toList t.toList || s.toList == t.toList))):=rfl
@[simp] theorem bin_sleq:binA .leq (.str s) (.str t)=some (.bool (Op.bytesLess s.toList t.toList || s.toList == t.toList)):=rfl
@[simp] theorem bin_sgeq:binA .geq (.str s) (.str t)=some (.bool (!(Op.bytesLess s.toList t.toList))):=rfl
@[simp] theorem un_not (x:Bool):unA .not (.bool x)=some (.bool (!x)):=rfl
@[simp] theorem un_neg:unA .neg (.int k a)=some (.int k (k.wrap (0 - a))):=rfl
end
end Go.Mach
end
section
namespace Go.Mach
open Go.RowKit Go.ChangeShapes
open Go.Proofs.Ytkfiepnkedcmgaa (Rows.uptoBulk Rows.uptoBulkAll Rows.uptoSmall)
inductive TyA (P:Program):TypeId→AV→Prop where
 | bool {t:TypeId} (h:P.underlying t=some .bool) (b:Bool):TyA P t (.bool b)
 | int {t:TypeId} {k:IntKind} (h:P.underlying t=some (.int k)) (n:Int) (hn:(Lit.int k n).wf=true):TyA P t (.int k n)
 | str {t:TypeId} (h:P.underlying t=some .string) (s:ByteArray):TyA P t (.str s)
 | slice {t e:TypeId} {es:List AV} (h:P.underlying t=some (.slice e)) (hes:∀ x∈es,TyA P e x):TyA P t (.isl es false)
 | struct {t:TypeId} {fs:Array Field} {vs:List AV} (h:P.underlying t=some (.struct fs)) (hl:vs.length=fs.toList.length)
   (hv:∀ (i:Nat) f x,fs.toList[i]?=some f→vs[i]?=some x→TyA P f.type x):TyA P t (.agg (flat vs))
 | array {t e:TypeId} {n:Nat} {vs:List AV} (h:P.underlying t=some (.array n e)) (hl:vs.length=n) (hv:∀ x∈vs,TyA P e x):TyA P t (.agg (flat vs))
mutual
def bulkA:AV→Nat
 | .str s=>s.size+1
 | .isl es _=>bulkAs es+1
 | .agg cs=>bulkAs cs+1
 | _=>1
def bulkAs:List AV→Nat
 | []=>0
 | x :: xs=>bulkA x+bulkAs xs
end
theorem bulkAs_append:∀ xs ys:List AV,bulkAs (xs++ys)=bulkAs xs+bulkAs ys
 | [],ys=>by simp [bulkAs]
 | x :: xs,ys=>by simp only [List.cons_append,bulkAs,bulkAs_append xs ys]; omega
theorem bulkAs_cells (x:AV):bulkAs x.cells≤bulkA x:=by
 cases x <;> simp [AV.cells,bulkAs,bulkA]
theorem bulkAs_flat:∀ vs:List AV,bulkAs (flat vs)≤bulkAs vs
 | []=>by simp [flat,bulkAs]
 | x :: vs=>by
  have h1:=bulkAs_cells x
  have h2:=bulkAs_flat vs
  simp only [flat,List.flatMap_cons,bulkAs_append,bulkAs] at h2 ⊢; omega
def contig (P:Program):Nat→List Field→Option Nat
 | o,[]=>some o
 | o,f :: fs=>if f.offset=o then contig P (o+P.cellsOf f.type) fs else none
def supT (P:Program) (S:List TypeId) (t:TypeId):Bool:=match P.underlying t with
 | some .bool | some (.int _) | some .string=>P.cellsOf t == 1
 | some (.slice e)=>S.contains e && decide (0<P.cellsOf e) && P.cellsOf t == 1
 | some (.struct fs)=>fs.toList.all (fun f=>S.contains f.type) && contig P 0 fs.toList == some (P.cellsOf t)
 | some (.array n e)=>S.contains e && P.cellsOf t == n * P.cellsOf e
 | _=>false
def arrF (P : Program) (e : TypeId) (i : Nat) : Field := ⟨"", e, i * P.cellsOf e, false, "", "", 0⟩
theorem contig_arr (P:Program) (e:TypeId):∀ n k,contig P (k * P.cellsOf e) ((List.range' k n).map (arrF P e))=some ((k+n) * P.cellsOf e)
 | 0,k=>rfl
 | n+1,k=>by
  rw [List.range'_succ,List.map_cons]
  simp only [contig,arrF,if_true]
  have:=contig_arr P e n (k+1)
  rw [Nat.add_mul,Nat.one_mul] at this
  rw [this,show k+1+n=k+(n+1) by omega]
theorem mapM_map_o {α β γ:Type} (f:β→Option γ) (g:α→β):∀ l:List α,(l.map g).mapM f=l.mapM (fun x=>f (g x))
 | []=>rfl
 | x :: l=>by rw [List.map_cons,List.mapM_cons,List.mapM_cons,mapM_map_o f g l]
def memGh (w:World):Gh:=⟨fun _=>none,fun _ _=>none,fun b i=>w.cell? ⟨b,i,none⟩⟩
theorem memGh_HR (w:World) (hp:Pins (fun _=>none) w):HR (memGh w) (fun _=>none) [] w:=
 ⟨fun _ _ _ h=>h,fun _ _ h=>(by cases h),fun _ _ _ h=>(by cases h),fun _ _ _ _ h=>(by simp at h),fun _ _ _ h=>(by simp at h),fun _ _ _ h=>(by simp at h),fun _ _ _ h=>(by simp at h),fun _ _ _ h=>(by simp at h),hp⟩
theorem flat_get {s:Nat}:∀ {es:List AV},(∀ e∈es,e.cells.length=s)→0<s→∀ {i:Nat} {x:AV},(flat es)[i]?=some x→∃ j k e,es[j]?=some e∧e.cells[k]?=some x∧i=j * s+k
 | [],_,_,i,x,h=>by simp [flat] at h
 | e :: es,hc,hs,i,x,h=>by
  have hl:=hc e (by simp)
  simp only [flat,List.flatMap_cons] at h
  rcases Nat.lt_or_ge i e.cells.length with hi | hi
  ·rw [zqA hi] at h
   exact ⟨0,i,e,rfl,h,by omega⟩
  ·rw [zqB hi] at h
   obtain ⟨j,k,e',h1,h2,h3⟩:=flat_get (es:=es) (fun y hy=>hc y (by simp [hy])) hs h
   exact ⟨j+1,k,e',by simpa using h1,h2,by rw [Nat.add_mul]; omega⟩
section
variable {H:Type} {enc:TypeId × Value→H} {P:Program} {w:World} {S:List TypeId} {sp:Nat→Bool}
def RdA (P:Program) (w:World) (t:TypeId) (cs:List Value) (d:DataW H) (x:AV):Prop:=
 TyA P t x∧x.cells.length=cs.length∧cs.length=P.cellsOf t∧(∀ (i:Nat) y c,x.cells[i]?=some y→cs[i]?=some c→y.clo1=true∧VR (memGh w) y c)∧bulkA x≤Rows.uptoBulk d∧x.clo=true
theorem RdA.one {t:TypeId} {c:Value} {d:DataW H} {x:AV} (ht:TyA P t x) (hc:x.cells=[x]) (h1:P.cellsOf t=1) (hcl:x.clo1=true) (hV:VR (memGh w) x c) (hb:bulkA x≤Rows.uptoBulk d) (hx:x.clo=true):RdA P w t [c] d x:=by
 refine ⟨ht,by rw [hc]; rfl,by simp [h1],fun i y c' hy hc'=>?_,hb,hx⟩
 rw [hc] at hy
 cases i with
 | zero=>simp at hy hc'; subst hy hc'; exact ⟨hcl,hV⟩
 | succ i=>simp at hy
theorem fields_read {n:Nat} (ih:∀ t∈S,∀ cs d ps,DataW.trod enc P w 0 sp true n t cs=some (d,ps)→∃ x,RdA P w t cs d x) {cs:List Value} :
  ∀ (fs:List Field) (o o':Nat) (xs:List (DataW H × List MemPlace)),(∀ f∈fs,f.type∈S)→contig P o fs=some o' →
   fs.mapM (fun f=>DataW.trod enc P w 0 sp true n f.type ((cs.drop f.offset).take (P.cellsOf f.type)))=some xs →
   ∃ vs:List AV,vs.length=fs.length∧(∀ (i:Nat) f x,fs[i]?=some f→vs[i]?=some x→TyA P f.type x)∧o+(flat vs).length=o'∧(∀ (i:Nat) y c,(flat vs)[i]?=some y→cs[o+i]?=some c→y.clo1=true∧VR (memGh w) y c) ∧
    bulkAs vs≤Rows.uptoBulkAll (xs.map (·.1))∧∀ y∈flat vs,y.clo1=true
 | [],o,o',xs,_,ho,hm=>by
  simp only [contig] at ho; injection ho with ho
  simp at hm; subst hm
  exact ⟨[],rfl,fun i f x hf=>by simp at hf,by simp [flat,ho],fun i y c hy=>by simp [flat] at hy,by simp [bulkAs],fun y hy=>by simp [flat] at hy⟩
 | f :: fs,o,o',xs,hS,ho,hm=>by
  simp only [contig] at ho
  split at ho
  ·rename_i hof
   rw [List.mapM_cons] at hm
   simp only [zqK,zqH,Option.pure_def] at hm
   obtain ⟨⟨d,p⟩,hd,ys,hys,e⟩:=hm
   injection e with e; subst e
   obtain ⟨x,h1,h2,h3,h4,h5,h6⟩:=ih f.type (hS f (by simp)) _ _ _ hd
   obtain ⟨vs,k1,k2,k3,k4,k5,k6⟩:=fields_read ih fs _ _ _ (fun f' hf'=>hS f' (by simp [hf'])) ho hys
   have hlen:x.cells.length=P.cellsOf f.type:=h2.trans h3
   have hcl:∀ y∈x.cells,y.clo1=true:=fun y hy=>by
    cases x <;> first | (simp at h6; done) | (simp at hy; subst hy; exact h6) | exact zqQ.1 h6 y hy
   refine ⟨x :: vs,by simp [k1],fun i f' y hf' hy=>?_,?_,fun i y c hy hc=>?_,?_,fun y hy=>?_⟩
   ·cases i with
    | zero=>simp at hf' hy; subst hf' hy; exact h1
    | succ i=>simp at hf' hy; exact k2 i f' y hf' hy
   ·simp only [flat,List.flatMap_cons,zqJ] at k3 ⊢; omega
   ·simp only [flat,List.flatMap_cons] at hy
    rcases Nat.lt_or_ge i x.cells.length with hi | hi
    ·rw [zqA hi] at hy
     refine h4 i y c hy ?_
     rw [List.getElem?_take,if_pos (by omega),List.getElem?_drop,hof]; exact hc
    ·rw [zqB hi] at hy
     refine k4 _ y c hy ?_
     rw [show o+P.cellsOf f.type+(i - x.cells.length)=o+i by omega]; exact hc
   ·simp only [bulkAs,List.map_cons,Rows.uptoBulkAll]; omega
   ·simp only [flat,List.flatMap_cons,List.mem_append] at hy
    rcases hy with hy | hy
    ·exact hcl y hy
    ·exact k6 y hy
  ·cases ho
theorem elems_read {n:Nat} {e:TypeId} (he:e∈S) (ih:∀ t∈S,∀ cs d ps,DataW.trod enc P w 0 sp true n t cs=some (d,ps)→∃ x,RdA P w t cs d x) {a:Addr} :
  ∀ (l:List Nat) (xs:List (DataW H × List MemPlace)),l.mapM (fun i=>(w.cells? 0 (a.add (i * P.cellsOf e)) (P.cellsOf e)).bind (DataW.trod enc P w 0 sp true n e))=some xs →
   ∃ es:List AV,es.length=l.length∧(∀ (j:Nat) i x,l[j]?=some i→es[j]?=some x→TyA P e x∧x.cells.length=P.cellsOf e∧x.clo=true∧∀ (k:Nat) y,x.cells[k]?=some y→∃ c,w.cell? ((a.add (i * P.cellsOf e)).add k)=some c∧VR (memGh w) y c) ∧
    bulkAs es≤Rows.uptoBulkAll (xs.map (·.1))
 | [],xs,hm=>by
  simp at hm; subst hm
  exact ⟨[],rfl,fun j i x hj=>by simp at hj,by simp [bulkAs]⟩
 | i :: l,xs,hm=>by
  rw [List.mapM_cons] at hm
  simp only [zqK,zqH,Option.pure_def] at hm
  obtain ⟨⟨d,p⟩,⟨cs,hcs,hd⟩,ys,hys,e'⟩:=hm
  injection e' with e'; subst e'
  obtain ⟨x,h1,h2,h3,h4,h5,h6⟩:=ih e he _ _ _ hd
  obtain ⟨es,k1,k2,k3⟩:=elems_read he ih l ys (by simpa [zqK] using hys)
  refine ⟨x :: es,by simp [k1],fun j i' y hj hy=>?_,by simp only [bulkAs,List.map_cons,Rows.uptoBulkAll]; omega⟩
  cases j with
  | succ j=>simp at hj hy; exact k2 j i' y hj hy
  | zero=>
   simp at hj hy; subst hj hy
   refine ⟨h1,h2.trans h3,h6,fun k y hy=>?_⟩
   unfold World.cells? at hcs
   split at hcs
   ·obtain ⟨hl,hg⟩:=mapM_get hcs
    have hk:k<cs.length:=by have:=(zqI.1 hy).1; omega
    refine ⟨cs[k],?_,(h4 k y _ hy (zqF hk)).2⟩
    exact hg k k _ (by rw [List.getElem?_range (by simp at hl; omega)]) (zqF hk)
   ·cases hcs
theorem trod_read (hS:S.all (supT P S)=true):∀ (n:Nat),∀ t∈S,∀ cs (d:DataW H) ps,DataW.trod enc P w 0 sp true n t cs=some (d,ps)→∃ x,RdA P w t cs d x
 | 0,t,ht,cs,d,ps,h=>by simp [DataW.trod] at h
 | n+1,t,ht,cs,d,ps,h=>by
  have ih:=trod_read hS n
  have hsup:=zqQ.1 hS t ht
  unfold supT at hsup
  unfold DataW.trod at h
  cases hu:P.underlying t with
  | none=>rw [hu] at hsup; cases hsup
  | some u=>
   rw [hu] at hsup h
   cases u <;> simp only at hsup <;> try (cases hsup; done)
   case bool=>
    rcases cs with _ | ⟨c,_ | ⟨c2,cs⟩⟩ <;> (try cases c) <;> simp at h
    obtain ⟨rfl,rfl⟩:=h
    exact ⟨_,.one (.bool hu _) rfl (by simpa using hsup) rfl (.bool _) (by simp [bulkA,Rows.uptoBulk]) rfl⟩
   case int k=>
    rcases cs with _ | ⟨c,_ | ⟨c2,cs⟩⟩ <;> (try cases c) <;> simp at h
    obtain ⟨⟨rfl,hw⟩,rfl,rfl⟩:=h
    exact ⟨_,.one (.int hu _ hw) rfl (by simpa using hsup) rfl (.int _ _) (by simp [bulkA,Rows.uptoBulk]) rfl⟩
   case string=>
    rcases cs with _ | ⟨c,_ | ⟨c2,cs⟩⟩ <;> (try cases c) <;> simp at h
    obtain ⟨_,rfl,rfl⟩:=h
    exact ⟨_,.one (.str hu _) rfl (by simpa using hsup) rfl (.str _) (by simp [bulkA,Rows.uptoBulk]) rfl⟩
   case slice e=>
    simp only [zqL,decide_eq_true_eq,beq_iff_eq,List.contains_eq_mem] at hsup
    obtain ⟨⟨he,hpos⟩,h1t⟩:=hsup
    have he:e∈S:=by simpa using he
    rcases cs with _ | ⟨c,_ | ⟨c2,cs⟩⟩ <;> (try cases c) <;> (try (simp at h; done))
    rename_i a len cap
    cases a with
    | none=>
     cases len <;> cases cap <;> simp at h
     obtain ⟨rfl,rfl⟩:=h
     exact ⟨.isl [] false,.one (.slice hu (by simp)) rfl h1t rfl (isl_VR (es:=[]) (b:=0) (p:=0) (s:=1) (by simp) (by omega) (.inl rfl) (fun hh=>by cases hh) (Nat.zero_le _) (by simp [flat])) (by simp [bulkA,bulkAs,Rows.uptoBulk]) rfl⟩
    | some a=>
     simp only at h
     split at h
     ·rename_i hb
      obtain ⟨elems,hel,h⟩:=zqH.1 h
      obtain ⟨rest,hrest,h⟩:=zqG.1 h
      injection h with e1 e2; subst e1
      obtain ⟨es,k1,k2,k3⟩:=elems_read he ih (List.range len) elems (by simpa using hel)
      have hlen:es.length=len:=by simpa using k1
      have hall:∀ x∈es,∃ j,es[j]?=some x∧(TyA P e x∧x.cells.length=P.cellsOf e∧x.clo=true∧∀ (k:Nat) y,x.cells[k]?=some y→∃ c,w.cell? ((a.add (j * P.cellsOf e)).add k)=some c∧VR (memGh w) y c):=fun x hx=>by
       obtain ⟨j,hj,rfl⟩:=zqS hx
       exact ⟨j,zqF hj,k2 j j _ (by rw [List.getElem?_range (by omega)]) (zqF hj)⟩
      have hsp:es=[]∨a=⟨a.block,a.off,none⟩:=by
       cases hes:es with
       | nil=>exact .inl rfl
       | cons x0 es'=>
        refine .inr ?_
        obtain ⟨_,h3,_,h4⟩:=k2 0 0 x0 (by rw [List.getElem?_range (by rw [←hlen,hes]; simp)]) (by rw [hes]; rfl)
        have hx0:x0.cells[0]?=some (x0.cells[0]'(by omega)):=zqF (by omega)
        obtain ⟨c,hc,_⟩:=h4 0 _ hx0
        cases a with
        | mk b o s=>
         cases s with
         | none=>rfl
         | some v=>
          exfalso
          revert hc
          simp only [World.cell?,Addr.add]
          split <;> simp_all
      refine ⟨.isl es false,.one (.slice hu (fun x hx=>(hall x hx).choose_spec.2.1)) rfl h1t rfl ?_ ?_ ?_⟩
      ·rw [←hlen]
       refine isl_VR (b:=a.block) (p:=a.off) (s:=P.cellsOf e) (fun x hx=>?_) hpos (hsp.imp id fun h=>by rw [←h]) (fun hh=>by cases hh) (by rw [hlen]; exact hb.2.1) fun i x hx=>?_
       ·obtain ⟨j,_,_,h5,h6,_⟩:=hall x hx; exact ⟨h6,h5⟩
       ·obtain ⟨j,k,x',hj,hk,rfl⟩:=flat_get (fun x hx=>by obtain ⟨j,_,_,h5,_⟩:=hall x hx; exact h5) hpos hx
        obtain ⟨_,_,_,h7⟩:=k2 j j x' (by rw [List.getElem?_range (by have:=(zqI.1 hj).1; omega)]) hj
        obtain ⟨c,hc,hV⟩:=h7 k x hk
        refine ⟨c,?_,hV⟩
        rcases hsp with hsp | hsp
        ·rw [hsp] at hj; simp at hj
        ·rw [hsp,addr_add,addr_add] at hc
         simp only [memGh]; rw [←Nat.add_assoc]; exact hc
      ·simp only [bulkA,Rows.uptoBulk]; omega
      ·have:∀ x∈es,x.clo=true:=fun x hx=>by obtain ⟨j,_,_,_,h6,_⟩:=hall x hx; exact h6
       rfl
     ·cases h
   case struct fs=>
    simp only [zqL,beq_iff_eq] at hsup
    obtain ⟨h1,h2⟩:=hsup
    have h:(if cs.length=P.cellsOf t then (fs.toList.mapM fun f=>DataW.trod enc P w 0 sp true n f.type ((cs.drop f.offset).take (P.cellsOf f.type))).map fun xs=>(DataW.agg (xs.map (·.1)),xs.flatMap (·.2)) else none)=some (d,ps):=by
     simpa only using h
    split at h
    ·rename_i hlen
     obtain ⟨xs,hxs,e⟩:=zqG.1 h
     injection e with e1 e2; subst e1
     obtain ⟨vs,k1,k2,k3,k4,k5,k6⟩:=fields_read ih fs.toList 0 _ xs (fun f hf=>by have:=zqQ.1 h1 f hf; simpa using this) h2 hxs
     refine ⟨.agg (flat vs),.struct hu k1 k2,by simp only [AV.cells]; omega,hlen,fun i y c hy hc=>k4 i y c hy (by rw [Nat.zero_add]; exact hc),?_,zqQ.2 k6⟩
     have:=bulkAs_flat vs
     simp only [bulkA,Rows.uptoBulk]; omega
    ·cases h
   case array n2 e=>
    simp only [zqL,beq_iff_eq,List.contains_eq_mem] at hsup
    obtain ⟨he,h2⟩:=hsup
    have he:e∈S:=by simpa using he
    have h:(if cs.length=P.cellsOf t then ((List.range n2).mapM fun i=>DataW.trod enc P w 0 sp true n e ((cs.drop (i * P.cellsOf e)).take (P.cellsOf e))).map fun xs=>(DataW.agg (xs.map (·.1)),xs.flatMap (·.2)) else none)=some (d,ps):=by
     simpa only using h
    split at h
    ·rename_i hlen
     obtain ⟨xs,hxs,e'⟩:=zqG.1 h
     injection e' with e1 e2; subst e1
     have hc:=contig_arr P e n2 0
     rw [Nat.zero_mul,Nat.zero_add] at hc
     rw [List.range_eq_range'] at hxs
     obtain ⟨vs,k1,k2,k3,k4,k5,k6⟩:=fields_read ih ((List.range' 0 n2).map (arrF P e)) 0 _ xs (fun f hf=>by obtain ⟨i,_,rfl⟩:=List.mem_map.1 hf; exact he) hc (by rw [mapM_map_o]; exact hxs)
     rw [List.length_map,List.length_range'] at k1
     refine ⟨.agg (flat vs),.array hu k1 (fun x hx=>?_),by simp only [AV.cells]; omega,hlen,fun i y c hy hc=>k4 i y c hy (by rw [Nat.zero_add]; exact hc),?_,zqQ.2 k6⟩
     ·obtain ⟨i,hi,rfl⟩:=zqS hx
      have:=k2 i (arrF P e i) vs[i] (by rw [List.getElem?_map,List.getElem?_range' (by omega)]; simp) (zqF hi)
      exact this
     ·have:=bulkAs_flat vs
      simp only [bulkA,Rows.uptoBulk]; omega
    ·cases h
end
end Go.Mach
end
section
namespace Go.Mach
open Go.RowKit Go.ChangeShapes
open Go.Proofs.Ytkfiepnkedcmgaa (Rows.uptoBulk Rows.uptoBulkAll Rows.uptoSmall)
section
variable {H:Type} {enc:TypeId × Value→H} {P:Program} {w:World} {S:List TypeId} {sp:Nat→Bool}
theorem arg_read (hS:S.all (supT P S)=true) {t:TypeId} (ht:t∈S) {v:Value} {d:DataW H} {ps:List MemPlace} {b:Nat} {W:World} (h:DataW.Trod enc P w 0 sp true t v d ps) (hval:Value.okWide P W .any b t v) :
  ∃ x,TyA P t x∧VR (memGh w) x v∧bulkA x≤Rows.uptoBulk d:=by
 obtain ⟨n,hn⟩:=h
 obtain ⟨x,h1,h2,h3,h4,h5,h6⟩:=trod_read hS n t ht _ _ _ hn
 refine ⟨x,h1,?_,h5⟩
 have key:x.cells=[x]→v.cells=#[v]→VR (memGh w) x v:=fun e1 e2=>by
  rw [e1,e2] at h4
  exact (h4 0 x v rfl rfl).2
 have hv:(∀ fs,P.underlying t≠some (.struct fs))→(∀ n e,P.underlying t≠some (.array n e))→v.cells=#[v]:=fun hns hna=>by
  unfold Value.okWide at hval
  split at hval
  ·rename_i fs e; exact absurd e (hns _)
  ·rename_i e; exact absurd e (hna _ _)
  ·cases v with
   | agg cs=>
    exfalso
    unfold Cell.okWide Cell.ok at hval
    split at hval <;> rename_i h7 h8 <;> first | (cases h8; done) | skip
    split at hval <;> rename_i h9 h10 <;> first | (cases h10; done) | exact hval
   | _=>rfl
 cases h1 with
 | bool hu b=>exact key rfl (hv (fun fs e=>by rw [hu] at e; cases e) (fun n e' e=>by rw [hu] at e; cases e))
 | int hu n hw=>exact key rfl (hv (fun fs e=>by rw [hu] at e; cases e) (fun n e' e=>by rw [hu] at e; cases e))
 | str hu s=>exact key rfl (hv (fun fs e=>by rw [hu] at e; cases e) (fun n e' e=>by rw [hu] at e; cases e))
 | slice hu hes=>exact key rfl (hv (fun fs e=>by rw [hu] at e; cases e) (fun n e' e=>by rw [hu] at e; cases e))
 | @struct _ fs vs hu hl hvs=>
  unfold Value.okWide at hval
  rw [hu] at hval
  obtain ⟨cs,rfl,_,_⟩:=hval
  simp only [AV.cells,Value.cells] at h2 h4
  refine .agg (by simpa using h2) (fun y hy=>?_) fun i y c hy hc=>(h4 i y c hy (by simpa using hc)).2
  obtain ⟨i,hi,rfl⟩:=zqS hy
  exact clo1_cellv (h4 i _ _ (zqF hi) (zqF (by omega))).1
 | @array _ e n vs hu hl hvs=>
  unfold Value.okWide at hval
  rw [hu] at hval
  obtain ⟨cs,rfl,_,_⟩:=hval
  simp only [AV.cells,Value.cells] at h2 h4
  refine .agg (by simpa using h2) (fun y hy=>?_) fun i y c hy hc=>(h4 i y c hy (by simpa using hc)).2
  obtain ⟨i,hi,rfl⟩:=zqS hy
  exact clo1_cellv (h4 i _ _ (zqF hi) (zqF (by omega))).1
theorem args_read (hS:S.all (supT P S)=true) {b:Nat} {W:World}:∀ (ts:List TypeId) (vs:List Value) (ds:List (DataW H)) (ps:List MemPlace),DataW.TrodAll enc P w 0 sp true ts vs ds ps→(∀ t∈ts,t∈S) →
  (∀ (j:Nat) t v,ts[j]?=some t→vs[j]?=some v→Value.okWide P W .any b t v) →
  ∃ xs:List AV,xs.length=ts.length∧VRs (memGh w) xs vs∧(∀ (i:Nat) t x,ts[i]?=some t→xs[i]?=some x→TyA P t x)∧bulkAs xs≤Rows.uptoBulkAll ds∧ds.length=ts.length
 | [],vs,ds,ps,h,_,_=>by
  obtain ⟨rfl,rfl,rfl⟩:=trodAll_nil h
  exact ⟨[],rfl,⟨rfl,fun i x c hx=>by simp at hx⟩,fun i t x hx=>by simp at hx,by simp [bulkAs],rfl⟩
 | t :: ts,vs,ds,ps,h,hts,hval=>by
  obtain ⟨v,vs',d,ds',p,q,rfl,rfl,rfl,hd,hrest⟩:=trodAll_cons h
  obtain ⟨x,h1,h2,h3⟩:=arg_read hS (hts t (by simp)) hd (hval 0 t v rfl rfl)
  obtain ⟨xs,k0,k1,k2,k3,k4⟩:=args_read hS ts vs' ds' q hrest (fun t' ht'=>hts t' (by simp [ht'])) (fun j t' v' hj hv=>hval (j+1) t' v' (by simpa using hj) (by simpa using hv))
  refine ⟨x :: xs,by simp [k0],.cons h2 k1,fun i t' y ht' hy=>?_,by simp only [bulkAs,Rows.uptoBulkAll]; omega,by simp [k4]⟩
  cases i with
  | zero=>simp at ht' hy; subst ht' hy; exact h1
  | succ i=>simp at ht' hy; exact k2 i t' y ht' hy
theorem trodAll_stays (hl:laidOutB P=true) {W W':World} {sp':Nat→Bool}:∀ (ts:List TypeId) (vs:List Value) (ds:List (DataW H)) (ps:List MemPlace),(∀ t∈ts,P.readableRec t=true∧t<P.types.size)→DataW.TrodAll enc P W 0 (fun _=>true) true ts vs ds ps →
  (∀ p∈ps,W.sameAt W' p)→(∀ p∈ps,sp' p.block=true)→DataW.TrodAll enc P W' 0 sp' true ts vs ds ps
 | [],vs,ds,ps,_,h,_,_=>by
  obtain ⟨rfl,rfl,rfl⟩:=trodAll_nil h
  exact trodAll_mk0
 | t :: ts,vs,ds,ps,ht,h,hs,hsp=>by
  obtain ⟨v,vs',d,ds',p,q,rfl,rfl,rfl,hd,hrest⟩:=trodAll_cons h
  exact ⟨p,q,WideElems.Trod_stays hl (ht t (by simp)).1 (ht t (by simp)).2 hd (fun x hx=>hs x (by simp [hx])) (fun x hx=>hsp x (by simp [hx])),
   trodAll_stays hl ts vs' ds' q (fun t' ht'=>ht t' (by simp [ht'])) hrest (fun x hx=>hs x (by simp [hx])) (fun x hx=>hsp x (by simp [hx])),rfl⟩
theorem TyA.asBool {t:TypeId} {x:AV} (h:TyA P t x) (hu:P.underlying t=some .bool):∃ b,x=.bool b:=by
 cases h with
 | bool _ b=>exact ⟨b,rfl⟩
 | str h'=>rw [hu] at h'; cases h'
 | int h'=>rw [hu] at h'; cases h'
 | slice h'=>rw [hu] at h'; cases h'
 | struct h'=>rw [hu] at h'; cases h'
 | array h'=>rw [hu] at h'; cases h'
theorem TyA.asInt {t:TypeId} {x:AV} {k:IntKind} (h:TyA P t x) (hu:P.underlying t=some (.int k)):∃ n,x=.int k n∧k.min≤n∧n≤k.max:=by
 cases h with
 | int h' n hn=>rw [hu] at h'; injection h' with h'; injection h' with h'; subst h'; exact ⟨n,rfl,by simpa [Lit.wf] using hn⟩
 | bool h'=>rw [hu] at h'; cases h'
 | str h'=>rw [hu] at h'; cases h'
 | slice h'=>rw [hu] at h'; cases h'
 | struct h'=>rw [hu] at h'; cases h'
 | array h'=>rw [hu] at h'; cases h'
theorem TyA.asSlice {t e:TypeId} {x:AV} (h:TyA P t x) (hu:P.underlying t=some (.slice e)):∃ es,x=.isl es false∧∀ y∈es,TyA P e y:=by
 cases h with
 | slice h' hes=>rw [hu] at h'; injection h' with h'; injection h' with h'; subst h'; exact ⟨_,rfl,hes⟩
 | bool h'=>rw [hu] at h'; cases h'
 | int h'=>rw [hu] at h'; cases h'
 | str h'=>rw [hu] at h'; cases h'
 | struct h'=>rw [hu] at h'; cases h'
 | array h'=>rw [hu] at h'; cases h'
theorem TyA.asStruct {t:TypeId} {x:AV} {fs:Array Field} (h:TyA P t x) (hu:P.underlying t=some (.struct fs)):∃ vs:List AV,x=.agg (flat vs)∧vs.length=fs.toList.length∧∀ (i:Nat) f y,fs.toList[i]?=some f→vs[i]?=some y→TyA P f.type y:=by
 cases h with
 | struct h' hl hv=>rw [hu] at h'; injection h' with h'; injection h' with h'; subst h'; exact ⟨_,rfl,hl,hv⟩
 | bool h'=>rw [hu] at h'; cases h'
 | int h'=>rw [hu] at h'; cases h'
 | str h'=>rw [hu] at h'; cases h'
 | slice h'=>rw [hu] at h'; cases h'
 | array h'=>rw [hu] at h'; cases h'
theorem TyA.asArray {t e:TypeId} {n:Nat} {x:AV} (h:TyA P t x) (hu:P.underlying t=some (.array n e)):∃ vs:List AV,x=.agg (flat vs)∧vs.length=n∧∀ y∈vs,TyA P e y:=by
 cases h with
 | array h' hl hv=>rw [hu] at h'; injection h' with h'; injection h' with h1 h2; subst h1 h2; exact ⟨_,rfl,hl,hv⟩
 | bool h'=>rw [hu] at h'; cases h'
 | int h'=>rw [hu] at h'; cases h'
 | str h'=>rw [hu] at h'; cases h'
 | slice h'=>rw [hu] at h'; cases h'
 | struct h'=>rw [hu] at h'; cases h'
theorem law_contract {T:Tab} (hT:TabOK P T) (hS:S.all (supT P S)=true) (hl:laidOutB P=true) {f:Nat} {fn:Func} {spec:ChangeSpec} {tb:TypeId}
  (hps:fn.params.toList.all (fun t=>S.contains t && P.readableRec t && decide (t<P.types.size))=true) (hres:fn.resultTypes=#[tb]) (htb:P.underlying tb=some .bool) (hvars:spec.vars=[])
  (hfn:∀ ds:List (DataW H),ds.length=fn.params.toList.length→spec.fn H (ds++[])={results:=[.lit (.bool true)],args:=ds})
  (hlaw:∀ xs:List AV,xs.length=fn.params.toList.length→(∀ (i:Nat) t x,fn.params.toList[i]?=some t→xs[i]?=some x→TyA P t x)→bulkAs xs≤1048576→∃ σ',callT T f xs 0 []=some (.bool true,σ'))
  {W:World} (hpin:Pins (fun _=>none) W) {base:Nat} {args:Array Value} {ds gs:List (DataW H)} {before:List MemPlace}
  (hval:∀ (j:Nat) t v,fn.params[j]?=some t→args[j]?=some v→Value.okWide P W .any base t v)
  (hW:DataW.Whole enc P fn.params.toList spec.vars false W args.toList ds gs before) (hk:Rows.uptoSmall H (ds++gs)=true) :
  Calls P f args W fun e W'=>∃ v,e=.returned v∧spec.post enc P fn false true false false W args v W':=by
 have hW':=hW
 obtain ⟨p,q,hA,hV,rfl,hfz,hnd⟩:=hW
 rw [hvars] at hV
 obtain ⟨rfl,rfl⟩:=trodVars_none hV
 have hpt:∀ t∈fn.params.toList,t∈S∧P.readableRec t=true∧t<P.types.size:=fun t ht=>by
  have:=zqQ.1 hps t ht
  simpa [and_assoc] using this
 obtain ⟨xs,k0,k1,k2,k3,k4⟩:=args_read hS fn.params.toList args.toList ds p hA (fun t ht=>(hpt t ht).1) (fun j t v hj hv=>hval j t v (by simpa using hj) (by simpa using hv))
 have hb:Rows.uptoBulkAll ds≤1048576:=by have:=of_decide_eq_true hk; simpa using this
 obtain ⟨σ',hx⟩:=hlaw xs k0 k2 (by omega)
 have hne:f≠yno:=by
  rintro rfl
  rw [callT_yld T 0 [] hT.yn.1 hT.yn.2] at hx
  unfold roundA at hx
  split at hx
  ·simp at hx
  ·cases hx
 have hcalls:=callT_sound hT hne hx (Nat.zero_le _) (memGh_HR W hpin) (cargs:=args) ⟨by simpa using k1.len,fun i x c hx hc=>k1.val i x c hx (by simpa using hc)⟩
 refine hcalls.mono fun e W' hp=>?_
 obtain ⟨cv,g',ow',rfl,hVR,hH,hSt⟩:=hp
 have hcv:=hVR.boolv
 subst hcv
 have hbelow:=hSt.below (fun _=>rfl)
 have hlt:∀ x∈p,x.block<W.heap.size:=fun x hx=>by simpa using hW'.lt x (by simp [hx])
 refine ⟨_,rfl,ds,[],p++[],[],p,[],hW',?_,?_,?_,hbelow.frame _,fun h=>by cases h⟩
 ·rw [hfn ds k4,hres]
  exact trodAll_mk1 (shut_bool htb true)
 ·rw [hfn ds k4]
  exact trodAll_stays hl _ _ _ _ (fun t ht=>(hpt t ht).2) hA (fun x hx=>hbelow.same (hlt x hx)) (fun x hx=>by simpa using hlt x hx)
 ·rw [hfn ds k4,hvars]; rfl
end
end Go.Mach
end
section
namespace Go.Mach
open Go.RowKit
section
variable (T:Tab) (bs n:Nat)
theorem W_upto {c:ACode} {Q:AExit→FR→Heap→Prop} (N:Nat) (I:Nat→FR→Heap→Prop)
  (round:∀ i f σ Q',i≤N→I i f σ→(∀ f' σ',i<N→I (i+1) f' σ'→Q' .normal f' σ')→(∀ e f' σ',e≠.normal→Q e f' σ'→Q' e f' σ')→wpK T bs n [.code c] f σ Q') :
  ∀ f σ,I 0 f σ→W T bs n (.loop c) f σ Q:=by
 intro f σ h0
 have key:∀ k i f σ,N - i=k→i≤N→I i f σ→W T bs n (.loop c) f σ Q:=by
  intro k
  induction k with
  | zero=>
   intro i f σ hk hi hI
   obtain ⟨e,f1,σ1,hr,hq⟩:=wpC_sound T bs n (round i f σ (fun e f' σ'=>e≠.normal∧Q e f' σ') hi hI (fun f' σ' h=>by omega) (fun e f' σ' h1 h2=>⟨h1,h2⟩))
   refine ⟨e,f1,σ1,?_,hq.2⟩
   rw [execT_loop,hr]
   cases e with
   | normal=>exact absurd rfl hq.1
   | exit id=>rfl
   | ret=>rfl
  | succ k ih=>
   intro i f σ hk hi hI
   obtain ⟨e,f1,σ1,hr,hq⟩:=wpC_sound T bs n (round i f σ (fun e f' σ'=>(e=.normal∧I (i+1) f' σ')∨(e≠.normal∧Q e f' σ')) hi hI (fun f' σ' h hI'=>.inl ⟨rfl,hI'⟩) (fun e f' σ' h1 h2=>.inr ⟨h1,h2⟩))
   rcases hq with ⟨rfl,hI1⟩ | ⟨hne,hq⟩
   ·obtain ⟨e2,f2,σ2,hr2,hq2⟩:=ih (i+1) f1 σ1 (by omega) (by omega) hI1
    exact ⟨e2,f2,σ2,by rw [execT_loop,hr]; exact hr2,hq2⟩
   ·refine ⟨e,f1,σ1,?_,hq⟩
    rw [execT_loop,hr]
    cases e with
    | normal=>exact absurd rfl hne
    | exit id=>rfl
    | ret=>rfl
 exact key N 0 f σ (by omega) (Nat.zero_le _) h0
def stepW (k:List Fr) (Q:AExit→FR→Heap→Prop) (I:FR→Heap→Prop):AExit→FR→Heap→Prop
 | .normal,f,σ=>I f σ
 | .exit id,f,σ=>exW T bs n (popTo id k) id f σ Q
 | .ret,f,σ=>Q .ret f σ
@[simp] theorem stepW_normal (k:List Fr) (Q:AExit→FR→Heap→Prop) (I:FR→Heap→Prop) (f:FR) (σ:Heap):stepW T bs n k Q I .normal f σ=I f σ:=rfl
@[simp] theorem stepW_exit (k:List Fr) (Q:AExit→FR→Heap→Prop) (I:FR→Heap→Prop) (id:Nat) (f:FR) (σ:Heap):stepW T bs n k Q I (.exit id) f σ=exW T bs n (popTo id k) id f σ Q:=rfl
@[simp] theorem stepW_ret (k:List Fr) (Q:AExit→FR→Heap→Prop) (I:FR→Heap→Prop) (f:FR) (σ:Heap):stepW T bs n k Q I .ret f σ=Q .ret f σ:=rfl
theorem stepW_cont {k:List Fr} {Q:AExit→FR→Heap→Prop} {I:FR→Heap→Prop} {e:AExit} {f:FR} {σ:Heap} (he:e≠.normal) (h:stepW T bs n k Q I e f σ):contQ T bs n k Q e f σ:=by
 cases e with
 | normal=>exact absurd rfl he
 | exit id=>exact contQ_exit T bs n h
 | ret=>exact contQ_ret T bs n h
theorem W_for {c:ACode} {k:List Fr} {Q:AExit→FR→Heap→Prop} (N:Nat) (I:Nat→FR→Heap→Prop)
  (round:∀ i f σ,i≤N→I i f σ→wpK T bs n [.code c] f σ (stepW T bs n k Q fun f' σ'=>i<N∧I (i+1) f' σ')) :
  ∀ f σ,I 0 f σ→W T bs n (.loop c) f σ (contQ T bs n k Q):=by
 intro f σ h0
 have key:∀ m i f σ,N - i=m→i≤N→I i f σ→W T bs n (.loop c) f σ (contQ T bs n k Q):=by
  intro m
  induction m with
  | zero=>
   intro i f σ hk hi hI
   obtain ⟨e,f1,σ1,hr,hq⟩:=wpC_sound T bs n (round i f σ hi hI)
   refine ⟨e,f1,σ1,?_,?_⟩
   ·rw [execT_loop,hr]
    cases e with
    | normal=>have:=hq.1; omega
    | exit id=>rfl
    | ret=>rfl
   ·cases e with
    | normal=>have:=hq.1; omega
    | exit id=>exact stepW_cont T bs n (by simp) hq
    | ret=>exact stepW_cont T bs n (by simp) hq
  | succ m ih=>
   intro i f σ hk hi hI
   obtain ⟨e,f1,σ1,hr,hq⟩:=wpC_sound T bs n (round i f σ hi hI)
   cases e with
   | normal=>
    obtain ⟨e2,f2,σ2,hr2,hq2⟩:=ih (i+1) f1 σ1 (by omega) (by omega) hq.2
    exact ⟨e2,f2,σ2,by rw [execT_loop,hr]; exact hr2,hq2⟩
   | exit id=>exact ⟨_,f1,σ1,by rw [execT_loop,hr]; rfl,stepW_cont T bs n (by simp) hq⟩
   | ret=>exact ⟨_,f1,σ1,by rw [execT_loop,hr]; rfl,stepW_cont T bs n (by simp) hq⟩
 exact key N 0 f σ (by omega) (Nat.zero_le _) h0
theorem W_while {c:ACode} {k:List Fr} {Q:AExit→FR→Heap→Prop} (I:FR→Heap→Prop) (μ:FR→Heap→Nat)
  (round:∀ f σ,I f σ→wpK T bs n [.code c] f σ (stepW T bs n k Q fun f' σ'=>μ f' σ'<μ f σ∧I f' σ')) :
  ∀ f σ,I f σ→W T bs n (.loop c) f σ (contQ T bs n k Q):=by
 have key:∀ m f σ,μ f σ=m→I f σ→W T bs n (.loop c) f σ (contQ T bs n k Q):=by
  intro m
  induction m using Nat.strongRecOn with
  | ind m ih=>
   intro f σ hm hI
   obtain ⟨e,f1,σ1,hr,hq⟩:=wpC_sound T bs n (round f σ hI)
   cases e with
   | normal=>
    obtain ⟨e2,f2,σ2,hr2,hq2⟩:=ih _ (by rw [←hm]; exact hq.1) f1 σ1 rfl hq.2
    exact ⟨e2,f2,σ2,by rw [execT_loop,hr]; exact hr2,hq2⟩
   | exit id=>exact ⟨_,f1,σ1,by rw [execT_loop,hr]; rfl,stepW_cont T bs n (by simp) hq⟩
   | ret=>exact ⟨_,f1,σ1,by rw [execT_loop,hr]; rfl,stepW_cont T bs n (by simp) hq⟩
 exact fun f σ h=>key _ f σ rfl h
variable {k:List Fr} {f:FR} {σ:Heap} {Q:AExit→FR→Heap→Prop} {d:Option Nat} {op:AOp} {chk:List AX} {os:List AOper}
@[simp high] theorem stS (p:Prop) [Decidable p] (σ1:Heap):stW T bs n (some (.bool (decide p),σ1)) d [] os k f σ Q=((p→wpK T bs n (.ops os :: k) (updO f d (.bool true)) σ1 Q)∧(¬ p→wpK T bs n (.ops os :: k) (updO f d (.bool false)) σ1 Q)):=by
 by_cases h:p <;> simp [h]
@[simp high] theorem stN (p:Prop) [Decidable p] (σ1:Heap):stW T bs n (some (.bool (!decide p),σ1)) d [] os k f σ Q=((¬ p→wpK T bs n (.ops os :: k) (updO f d (.bool true)) σ1 Q)∧(p→wpK T bs n (.ops os :: k) (updO f d (.bool false)) σ1 Q)):=by
 by_cases h:p <;> simp [h]
def sym (b:Bool):Bool:=b
@[simp] theorem sym_true:sym true=true:=rfl
@[simp] theorem sym_false:sym false=false:=rfl
@[simp high] theorem stY (b:Bool) (σ1:Heap):stW T bs n (some (.bool (sym b),σ1)) d [] os k f σ Q=((b=true→wpK T bs n (.ops os :: k) (updO f d (.bool true)) σ1 Q)∧(b=false→wpK T bs n (.ops os :: k) (updO f d (.bool false)) σ1 Q)):=by
 cases b <;> simp
end
@[simp] theorem nxtV_ptr (σ : Heap) (id : Nat) : nxtV σ (.ptr id 0) = (match σ[id]? with
      | some (.iter s pos) => if pos < s.size then some (.tup [.bool true, .int .i64 (pos : Int), .int .i32 (Utf8.decode s pos).1], σ.set id (.iter s (pos + (Utf8.decode s pos).2))) else some (.tup [.bool false], σ)
      | _ => none) := rfl
theorem wr64 {n:Int} (h:-9223372036854775808≤n) (h2:n≤9223372036854775807):IntKind.i64.wrap n=n:=by rw [IntKind.wrap_i64]; omega
theorem wru32 {n:Int} (h:0≤n) (h2:n<4294967296):IntKind.u32.wrap n=n:=by rw [IntKind.wrap_u32]; omega
theorem wru8 {n:Int} (h:0≤n) (h2:n<256):IntKind.u8.wrap n=n:=by rw [IntKind.wrap_u8]; omega
theorem wru32_mod (n:Nat):IntKind.u32.wrap (n:Int)=((n % 4294967296:Nat):Int):=by
 rw [IntKind.wrap_u32]; omega
@[simp] theorem bits64:IntKind.i64.bits=64:=rfl
@[simp] theorem bitsu32:IntKind.u32.bits=32:=rfl
@[simp] theorem bitsu64:IntKind.u64.bits=64:=rfl
@[simp] theorem bitsu8:IntKind.u8.bits=8:=rfl
theorem u8s_len (s:ByteArray):(u8s s).length=s.size:=by simp [u8s]
theorem callT_of_eval {T:Tab} {k f:Nat} {args:List AV} {v:AV} (h:evalFn T k f args 0 []=some (v,[])):callT T f args 0 []=some (v,[]):=lim_eq (evalFn_M ..) h
theorem pureT_of_call {T:Tab} {f:Nat} {af:AFunc} {args:List AV} {v:AV} (hp:T.pr f=none) (hf:T.fn f=some af) (hm:af.mode=.pure) (hc:args.all AV.clean=true) (h:callT T f args 0 []=some (v,[])):pureT T af args=some v:=by
 rw [callT_pure T 0 [] hp hf hm,(clean_closeT hc).1] at h
 simp only [Option.bind_some,if_pos (clean_closeT (σ:=[]) hc).2] at h
 obtain ⟨u,hu,e⟩:=zqG.1 h
 injection e with e1 e2; subst e1; exact hu
section
@[simp] theorem clean0_int (k:IntKind) (n:Int):(AV.int k n).clean0=true:=rfl
@[simp] theorem clean0_bool (b:Bool):(AV.bool b).clean0=true:=rfl
@[simp] theorem clean0_str (s:ByteArray):(AV.str s).clean0=true:=rfl
@[simp] theorem clean0_isl (es:List AV):(AV.isl es false).clean0=true:=rfl
@[simp] theorem clean0_nilfunc:AV.nilfunc.clean0=true:=rfl
@[simp] theorem clean0_nilmap:AV.nilmap.clean0=true:=rfl
@[simp] theorem clean0_nilptr:AV.nilptr.clean0=true:=rfl
@[simp] theorem clean_int (k:IntKind) (n:Int):(AV.int k n).clean=true:=rfl
@[simp] theorem clean_bool (b:Bool):(AV.bool b).clean=true:=rfl
@[simp] theorem clean_str (s:ByteArray):(AV.str s).clean=true:=rfl
@[simp] theorem clean_isl (es:List AV):(AV.isl es false).clean=true:=rfl
@[simp] theorem clean_agg (cs:List AV):(AV.agg cs).clean=cs.all AV.clean0:=rfl
@[simp] theorem clean_func (f:Nat) (cs:List AV):(AV.func f cs).clean=cs.all AV.cleanC:=rfl
@[simp] theorem clean_meth (f:Nat) (cs:List AV):(AV.meth f cs).clean=cs.all AV.cleanC:=rfl
@[simp] theorem cleanC_iptr (cs:List AV) (o:Nat):(AV.iptr cs o).cleanC=cs.all AV.clo1:=rfl
@[simp] theorem clean_iptr (cs:List AV) (o:Nat):(AV.iptr cs o).clean=cs.all AV.clo1:=rfl
@[simp] theorem cleanC_int (k:IntKind) (n:Int):(AV.int k n).cleanC=true:=rfl
@[simp] theorem cleanC_isl (es:List AV):(AV.isl es false).cleanC=true:=rfl
theorem call_scal {T:Tab} {f:Nat} {af:AFunc} {args args':List AV} {v:AV} {bs:Nat} {σ σ':Heap} (hp:T.pr f=none) (hf:T.fn f=some af) (hm:af.mode=.pure) (h:pureT T af args'=some v) (hs:v.scal=true) (hd:args'.all AV.dat=true) (hc:closeT σ args=some (args',σ')) :
  callT T f args bs σ=some (v,σ):=by rw [call_pure hp hf hm hc hd h,if_pos hs]
theorem call_data {T:Tab} {f:Nat} {af:AFunc} {args args':List AV} {v:AV} {bs:Nat} {σ σ':Heap} (hp:T.pr f=none) (hf:T.fn f=some af) (hm:af.mode=.pure) (h:pureT T af args'=some v) (hs:v.scal=false) (hd:args'.all AV.dat=true) (hc:closeT σ args=some (args',σ')) :
  callT T f args bs σ=some (v,σ'):=by rw [call_pure hp hf hm hc hd h,hs]; rfl
end
@[simp] theorem chkO_same (ρ:Regs) (σ:Heap) (l:List AX):chkO ρ σ σ l=some ():=by
 unfold chkO
 rw [if_pos]
 exact zqQ.2 fun x _=>(sameO_iff _ _).2 rfl
def app1 (σ:Heap) (sz:Nat) (ag:Bool) (v:AV):AV→Option (AV × Heap)
 | .isl [] true=>some (.own σ.length [v],σ++[.tok 1 sz])
 | .own k es=>if es.all (okEl sz ag)=true∧es.length≤10000000000 then (match σ[k]? with
  | some (.tok n sz')=>if n=es.length∧sz'=sz then some (.own k (es++[v]),σ.set k (.tok (es.length+1) sz)) else none
  | _=>none) else none
 | _=>none
theorem app1_eq {σ:Heap} {sz:Nat} {ag:Bool} {bytes:Nat} {s x v:AV} {r:AV × Heap} (hx:elemsN σ sz ag x=some [v]) (hv:okEl sz ag v=true) (h0:0<sz) (hb:bytes≤1000) (h:app1 σ sz ag v s=some r):appendA σ sz ag bytes false s x=some r:=by
 unfold app1 at h
 split at h
 ·injection h with h; subst h
  have:¬ (sz=0∨(0+1) * bytes > 70368744177664∨0+1 > 70368744177664):=by omega
  have he:elemsA σ sz ag (.isl [] true)=some []:=rfl
  simp only [appendA,hx,he,Option.bind_some,isSl,List.length_nil,List.length_singleton,if_neg this]
  simp [hv]
 ·rename_i k es
  split at h
  ·rename_i hes
   split at h
   ·rename_i n sz' hk
    split at h
    ·rename_i hn
     injection h with h; subst h
     have hmul:(es.length+1) * bytes≤10000000001 * 1000:=Nat.mul_le_mul (by omega) hb
     have:¬ (sz=0∨(es.length+1) * bytes > 70368744177664∨es.length+1 > 70368744177664):=by omega
     have he:elemsA σ sz ag (.own k es)=some es:=rfl
     simp only [appendA,hx,he,Option.bind_some,isSl,List.length_singleton,if_neg this]
     simp [hv,hes.1,hk,hn]
    ·cases h
   ·cases h
  ·cases h
 ·cases h
theorem window_full {cs:List AV} {n:Nat} (h:cs.length=n):window cs 0 n=some cs:=by
 unfold window; rw [if_pos (by omega),List.drop_zero,List.take_of_length_le (by omega)]
theorem elems_ag1 {σ:Heap} {id sz fz:Nat} {ext:Bool} {cs:List AV} (h:σ[id]?=some (.cells cs fz ext)) (hl:cs.length=sz):elemsA σ sz true (.sl id 0 1 sz true)=some [.agg cs]:=by
 simp only [elemsA,h,Nat.one_mul,window_full hl,Option.bind_some,chunk]
 rw [List.take_of_length_le (by omega)]; rfl
theorem elemsN_ag1 {σ:Heap} {id sz fz:Nat} {ext:Bool} {cs:List AV} (h:σ[id]?=some (.cells cs fz ext)) (hl:cs.length=sz):elemsN σ sz true (.sl id 0 1 sz true)=some [.agg (cs.map AV.nrm)]:=by
 simp only [elemsN,h,Nat.one_mul,window_full hl,Option.bind_some,chunk]
 rw [List.take_of_length_le (by rw [List.length_map]; omega)]; rfl
theorem elemsN_s1 {σ:Heap} {id fz:Nat} {ext:Bool} {v:AV} (h:σ[id]?=some (.cells [v] fz ext)):elemsN σ 1 false (.sl id 0 1 1 false)=some [v.nrm]:=by
 simp only [elemsN,h,Nat.one_mul,window_full (cs:=[v]) (n:=1) rfl,Option.bind_some,chunk]
 rfl
theorem nrm_all {cs:List AV} (h:cs.all AV.clo1=true):(cs.map AV.nrm).all AV.clo1=true:=by
 rw [zqQ] at h ⊢
 intro x hx
 obtain ⟨y,hy,rfl⟩:=List.mem_map.1 hx
 rw [nrm_clo1]; exact h y hy
theorem app_ag {σ:Heap} {id sz fz bytes:Nat} {ext:Bool} {cs:List AV} {s:AV} {r:AV × Heap} (h:σ[id]?=some (.cells cs fz ext)) (hl:cs.length=sz) (hc:cs.all AV.clo1=true) (h0:0<sz) (hb:bytes≤1000) (ha:app1 σ sz true (.agg (cs.map AV.nrm)) s=some r) :
  appendA σ sz true bytes false s (.sl id 0 1 sz true)=some r:=app1_eq (elemsN_ag1 h hl) (by simp only [okEl,AV.clo,nrm_all hc,AV.cells,List.length_map,hl,decide_true,Bool.and_self]) h0 hb ha
theorem app_s {σ:Heap} {id fz bytes:Nat} {ext:Bool} {v s:AV} {r:AV × Heap} (h:σ[id]?=some (.cells [v] fz ext)) (hc:v.clo1=true) (hb:bytes≤1000) (ha:app1 σ 1 false v.nrm s=some r) :
  appendA σ 1 false bytes false s (.sl id 0 1 1 false)=some r:=app1_eq (elemsN_s1 h) (by cases v <;> first | rfl | (cases hc; done)) (by omega) hb ha
@[simp] theorem app1_nil (σ:Heap) (sz:Nat) (ag:Bool) (v:AV):app1 σ sz ag v (.isl [] true)=some (.own σ.length [v],σ++[.tok 1 sz]):=rfl
theorem app1_own {σ:Heap} {sz:Nat} {ag:Bool} {v:AV} {k:Nat} {es:List AV} (he:es.all (okEl sz ag)=true) (hl:es.length≤10000000000) (hk:σ[k]?=some (.tok es.length sz)):app1 σ sz ag v (.own k es)=some (.own k (es++[v]),σ.set k (.tok (es.length+1) sz)):=by
 simp only [app1,he,hl,hk,and_self,if_true]
def appendA0 (σ:Heap) (sz:Nat) (ag:Bool) (bytes:Nat) (s x:AV):Option (AV × Heap):=appendC σ sz ag bytes false s x
def appK (σ:Heap) (sz:Nat) (ag:Bool) (bytes:Nat) (x v:AV) (k:Nat) (es:List AV):Option AObj→Option (AV × Heap)
 | some (.tok n sz')=>if n=es.length∧sz'=sz∧es.all (okEl sz ag)=true∧es.length≤10000000000 then some (.own k (es++[v]),σ.set k (.tok (es.length+1) sz)) else appendA0 σ sz ag bytes (.own k es) x
 | _=>appendA0 σ sz ag bytes (.own k es) x
def appS (σ:Heap) (sz:Nat) (ag:Bool) (bytes:Nat) (x v:AV):AV→Option (AV × Heap)
 | .isl [] true=>some (.own σ.length [v],σ++[.tok 1 sz])
 | .own k es=>appK σ sz ag bytes x v k es σ[k]?
 | s=>appendA0 σ sz ag bytes s x
def appX (σ:Heap) (sz bytes:Nat) (s x:AV):Option AObj→Option (AV × Heap)
 | some (.cells cs _ _)=>if cs.length=sz∧cs.all AV.clo1=true∧0<sz∧bytes≤1000 then appS σ sz true bytes x (.agg (cs.map AV.nrm)) s else appendA0 σ sz true bytes s x
 | _=>appendA0 σ sz true bytes s x
def appY (σ:Heap) (bytes:Nat) (s x:AV):Option AObj→Option (AV × Heap)
 | some (.cells [v] _ _)=>if v.clo1=true∧bytes≤1000 then appS σ 1 false bytes x v.nrm s else appendA0 σ 1 false bytes s x
 | _=>appendA0 σ 1 false bytes s x
theorem appS_eq {σ:Heap} {sz:Nat} {ag:Bool} {bytes:Nat} {s x v:AV} (h:∀ r,app1 σ sz ag v s=some r→appendC σ sz ag bytes false s x=some r):appS σ sz ag bytes x v s=appendC σ sz ag bytes false s x:=by
 unfold appS
 split
 ·exact (h _ rfl).symm
 ·rename_i k es
  cases hk:σ[k]? with
  | none=>rfl
  | some o=>
   cases o with
   | tok n sz'=>
    simp only [appK]
    split
    ·rename_i hc
     obtain ⟨rfl,rfl,h1,h2⟩:=hc
     exact (h _ (app1_own h1 h2 hk)).symm
    ·rfl
   | _=>rfl
 ·rfl
theorem appendC_clo {σ:Heap} {id off len sz' fz sz bytes:Nat} {ext ag ag':Bool} {cs:List AV} {s:AV} (h:σ[id]?=some (.cells cs fz ext)) (hc:cs.all AV.clo1=true):appendC σ sz ag bytes false s (.sl id off len sz' ag')=appendA (closeS σ s) sz ag bytes false s (.sl id off len sz' ag'):=by
 simp only [appendC,closeX,h,hc,if_true,Bool.false_eq_true,if_false]
@[simp] theorem closeS_isl (σ:Heap) (es:List AV) (b:Bool):closeS σ (.isl es b)=σ:=rfl
@[simp] theorem closeS_own (σ:Heap) (k:Nat) (es:List AV):closeS σ (.own k es)=σ:=rfl
theorem app1_closeS {σ:Heap} {sz:Nat} {ag:Bool} {v s:AV} {r:AV × Heap} (h:app1 σ sz ag v s=some r):closeS σ s=σ:=by
 unfold app1 at h
 split at h
 ·rfl
 ·rfl
 ·cases h
theorem app_slC {σ:Heap} {id j sz fz fj bytes:Nat} {ej:Bool} {cs ds:List AV} (hid:σ[id]?=some (.cells cs fz false)) (hj:σ[j]?=some (.cells ds fj ej)) (hne:id≠j) (hc:cs.length=sz) (hd:ds.length=sz) (hcc:cs.all AV.clo1=true) (hdc:ds.all AV.clo1=true) (h0:0<sz) (hb:bytes≤1000) :
  appendC σ sz true bytes false (.sl id 0 1 sz true) (.sl j 0 1 sz true)=some (.own σ.length [.agg (cs.map AV.nrm),.agg (ds.map AV.nrm)],closeS σ (.sl id 0 1 sz true)++[.tok 2 sz]):=by
 rw [appendC_clo hj hdc]
 have hlen:(closeS σ (.sl id 0 1 sz true)).length=σ.length:=by
  simp only [closeS,hid]; split <;> simp
 have hidl:id<σ.length:=(zqI.1 hid).1
 have tidyN:∀ l:List AV,l.all AV.tidy=true→l.map AV.nrm=l:=fun l hl=>by
  rw [zqQ] at hl
  rw [List.map_congr_left (g:=fun y=>y) (fun x hx=>?_),List.map_id']
  have:=hl x hx
  cases x with
  | isl es b=>cases b with
   | true=>cases this
   | false=>rfl
  | _=>rfl
 have k1:∃ fz',(closeS σ (.sl id 0 1 sz true))[id]?=some (.cells (cs.map AV.nrm) fz' false):=by
  simp only [closeS,hid]
  split
  ·exact ⟨fz,by simp [hidl]⟩
  ·rename_i hn
   have:cs.all AV.tidy=true:=by
    cases h:cs.all AV.tidy with
    | true=>rfl
    | false=>exact absurd ⟨h,hcc⟩ hn
   rw [tidyN cs this]; exact ⟨fz,hid⟩
 have k2:(closeS σ (.sl id 0 1 sz true))[j]?=some (.cells ds fj ej):=by
  simp only [closeS,hid]
  split
  ·rw [List.getElem?_set,if_neg hne]; exact hj
  ·exact hj
 obtain ⟨fz',k1⟩:=k1
 generalize closeS σ (.sl id 0 1 sz true)=τ at *
 have hcl:(cs.map AV.nrm).length=sz:=by simp [hc]
 have e1:=elems_ag1 k1 hcl
 have e2:=elemsN_ag1 k2 hd
 have hne2:¬ (sz=0∨(1+1) * bytes > 70368744177664∨1+1 > 70368744177664):=by omega
 have o1:okEl sz true (.agg (cs.map AV.nrm))=true:=by simp only [okEl,AV.clo,nrm_all hcc,AV.cells,List.length_map,hc,decide_true,Bool.and_self]
 have o2:okEl sz true (.agg (ds.map AV.nrm))=true:=by simp only [okEl,AV.clo,nrm_all hdc,AV.cells,List.length_map,hd,decide_true,Bool.and_self]
 simp only [appendA,e1,e2,Option.bind_some,isSl,List.length_singleton,if_neg hne2,k1]
 simp [hc,o1,o2,hlen]
@[simp] theorem appendC_true (σ:Heap) (sz:Nat) (ag:Bool) (bytes:Nat) (s x:AV):appendC σ sz ag bytes true s x=appendA σ sz ag bytes true s x:=rfl
@[simp] theorem appendC_isl (σ:Heap) (sz:Nat) (ag:Bool) (bytes:Nat) (s:AV) (es:List AV) (b:Bool):appendC σ sz ag bytes false s (.isl es b)=appendA (closeS σ s) sz ag bytes false s (.isl es b):=rfl
@[simp] theorem appendC_own (σ:Heap) (sz:Nat) (ag:Bool) (bytes:Nat) (s:AV) (k:Nat) (es:List AV):appendC σ sz ag bytes false s (.own k es)=appendA (closeS σ s) sz ag bytes false s (.own k es):=rfl
@[simp] theorem appendC_str (σ:Heap) (sz:Nat) (ag:Bool) (bytes:Nat) (s:AV) (t:ByteArray):appendC σ sz ag bytes false s (.str t)=appendA (closeS σ s) sz ag bytes false s (.str t):=rfl
@[simp] theorem appendA_ag (σ:Heap) (sz bytes:Nat) (s:AV) (id:Nat):appendC σ sz true bytes false s (.sl id 0 1 sz true)=appX σ sz bytes s (.sl id 0 1 sz true) σ[id]?:=by
 cases hi:σ[id]? with
 | none=>rfl
 | some o=>
  cases o with
  | cells cs fz ext=>
   simp only [appX]
   split
   ·rename_i hc
    obtain ⟨h1,h2,h3,h4⟩:=hc
    exact (appS_eq fun r hr=>(appendC_clo hi h2).trans (by rw [app1_closeS hr]; exact app_ag hi h1 h2 h3 h4 hr)).symm
   ·rfl
  | _=>rfl
@[simp] theorem appendA_s (σ:Heap) (bytes:Nat) (s:AV) (id:Nat):appendC σ 1 false bytes false s (.sl id 0 1 1 false)=appY σ bytes s (.sl id 0 1 1 false) σ[id]?:=by
 cases hi:σ[id]? with
 | none=>rfl
 | some o=>
  cases o with
  | cells cs fz ext=>
   match cs with
   | [v]=>
    simp only [appY]
    split
    ·rename_i hc
     exact (appS_eq fun r hr=>(appendC_clo hi (by simp [hc.1])).trans (by rw [app1_closeS hr]; exact app_s hi hc.1 hc.2 hr)).symm
    ·rfl
   | []=>rfl
   | _ :: _ :: _=>rfl
  | _=>rfl
@[simp] theorem appX_cells (σ:Heap) (sz bytes:Nat) (s x:AV) (cs:List AV) (fz:Nat) (ext:Bool):appX σ sz bytes s x (some (.cells cs fz ext))=if cs.length=sz∧cs.all AV.clo1=true∧0<sz∧bytes≤1000 then appS σ sz true bytes x (.agg (cs.map AV.nrm)) s else appendA0 σ sz true bytes s x:=rfl
@[simp] theorem appY_cells (σ:Heap) (bytes:Nat) (s x v:AV) (fz:Nat) (ext:Bool):appY σ bytes s x (some (.cells [v] fz ext))=if v.clo1=true∧bytes≤1000 then appS σ 1 false bytes x v.nrm s else appendA0 σ 1 false bytes s x:=rfl
@[simp] theorem appS_nil (σ:Heap) (sz:Nat) (ag:Bool) (bytes:Nat) (x v:AV):appS σ sz ag bytes x v (.isl [] true)=some (.own σ.length [v],σ++[.tok 1 sz]):=rfl
@[simp] theorem appS_own (σ:Heap) (sz:Nat) (ag:Bool) (bytes:Nat) (x v:AV) (k:Nat) (es:List AV):appS σ sz ag bytes x v (.own k es)=appK σ sz ag bytes x v k es σ[k]?:=rfl
@[simp] theorem appK_tok (σ:Heap) (sz:Nat) (ag:Bool) (bytes:Nat) (x v:AV) (k:Nat) (es:List AV) (n sz':Nat):appK σ sz ag bytes x v k es (some (.tok n sz'))=if n=es.length∧sz'=sz∧es.all (okEl sz ag)=true∧es.length≤10000000000 then some (.own k (es++[v]),σ.set k (.tok (es.length+1) sz)) else appendA0 σ sz ag bytes (.own k es) x:=rfl
def endR (n:Nat) (rs:List ARes) (cl:Bool) (m:Mode) (n0:Nat) (r:AV × Heap):AExit→FR→Heap→Prop
 | .exit _,_,_=>False
 | _,f,σ=>((resF n f σ rs).bind fun vs=>(closeRes cl σ (res1 vs)).bind (dropA m n0))=some r
@[simp] theorem endR_ret (n:Nat) (rs:List ARes) (cl:Bool) (m:Mode) (n0:Nat) (r:AV × Heap) (f:FR) (σ:Heap):endR n rs cl m n0 r .ret f σ=(((resF n f σ rs).bind fun vs=>(closeRes cl σ (res1 vs)).bind (dropA m n0))=some r):=rfl
@[simp] theorem endR_normal (n:Nat) (rs:List ARes) (cl:Bool) (m:Mode) (n0:Nat) (r:AV × Heap) (f:FR) (σ:Heap):endR n rs cl m n0 r .normal f σ=(((resF n f σ rs).bind fun vs=>(closeRes cl σ (res1 vs)).bind (dropA m n0))=some r):=rfl
@[simp] theorem closeRes_true (σ:Heap) (v:AV):closeRes true σ v=closeR σ v:=rfl
@[simp] theorem closeRes_false (σ:Heap) (v:AV):closeRes false σ v=some (v,σ):=rfl
@[simp] theorem dropA_raw (n:Nat) (r:AV × Heap):dropA .raw n r=some r:=rfl
theorem dropA_gc (n:Nat) (r:AV × Heap):dropA .gc n r=if refLt n r.1=true then some (r.1,r.2.take n) else none:=rfl
theorem heap_enter {T:Tab} {f:Nat} {af:AFunc} {args args':List AV} {bs:Nat} {σ σ1:Heap} {r:AV × Heap} (hp:T.pr f=none) (hf:T.fn f=some af) (hm:af.mode≠.pure) (hl:args'.length≤af.ntmps) (hc:closeArgs af.clArgs σ args=some (args',σ1))
  (hw:wpK T (baseA af bs σ1.length) af.ntmps [.code af.body] (argF args') σ1 (endR af.ntmps af.res af.clRes af.mode σ1.length r)):callT T f args bs σ=some r:=by
 rw [callT_fn T bs σ hp hf hm,hc]
 obtain ⟨e,f',σ',hr,hk⟩:=wpC_sound T _ af.ntmps hw
 simp only [Option.bind_some]
 rw [startA_lst hl,hr]
 cases e with
 | exit id=>exact hk.elim
 | normal=>
  simp only [Option.bind_some,finA,resA_lst]
  exact hk
 | ret=>
  simp only [Option.bind_some,finA,resA_lst]
  exact hk
def endE (n:Nat) (rs:List ARes) (cl:Bool) (m:Mode) (n0:Nat) (P:AV × Heap→Prop):AExit→FR→Heap→Prop
 | .exit _,_,_=>False
 | _,f,σ=>∃ r,((resF n f σ rs).bind fun vs=>(closeRes cl σ (res1 vs)).bind (dropA m n0))=some r∧P r
@[simp] theorem endE_ret (n:Nat) (rs:List ARes) (cl:Bool) (m:Mode) (n0:Nat) (P:AV × Heap→Prop) (f:FR) (σ:Heap):endE n rs cl m n0 P .ret f σ=(∃ r,((resF n f σ rs).bind fun vs=>(closeRes cl σ (res1 vs)).bind (dropA m n0))=some r∧P r):=rfl
@[simp] theorem endE_normal (n:Nat) (rs:List ARes) (cl:Bool) (m:Mode) (n0:Nat) (P:AV × Heap→Prop) (f:FR) (σ:Heap):endE n rs cl m n0 P .normal f σ=(∃ r,((resF n f σ rs).bind fun vs=>(closeRes cl σ (res1 vs)).bind (dropA m n0))=some r∧P r):=rfl
theorem heap_enterE {T:Tab} {f:Nat} {af:AFunc} {args args':List AV} {bs:Nat} {σ σ1:Heap} {P:AV × Heap→Prop} (hp:T.pr f=none) (hf:T.fn f=some af) (hm:af.mode≠.pure) (hl:args'.length≤af.ntmps) (hc:closeArgs af.clArgs σ args=some (args',σ1))
  (hw:wpK T (baseA af bs σ1.length) af.ntmps [.code af.body] (argF args') σ1 (endE af.ntmps af.res af.clRes af.mode σ1.length P)):∃ r,callT T f args bs σ=some r∧P r:=by
 rw [callT_fn T bs σ hp hf hm,hc]
 obtain ⟨e,f',σ',hr,hk⟩:=wpC_sound T _ af.ntmps hw
 simp only [Option.bind_some]
 rw [startA_lst hl,hr]
 cases e with
 | exit id=>exact hk.elim
 | normal=>
  simp only [Option.bind_some,finA,resA_lst]
  exact hk
 | ret=>
  simp only [Option.bind_some,finA,resA_lst]
  exact hk
def headYld:List AV→Bool
 | .yld _ :: _=>true
 | _=>false
@[simp] theorem headYld_nil:headYld []=false:=rfl
@[simp] theorem headYld_agg (cs xs:List AV):headYld (.agg cs :: xs)=false:=by cases xs <;> rfl
@[simp] theorem headYld_int (k:IntKind) (n:Int) (xs:List AV):headYld (.int k n :: xs)=false:=by cases xs <;> rfl
@[simp] theorem headYld_str (s:ByteArray) (xs:List AV):headYld (.str s :: xs)=false:=by cases xs <;> rfl
@[simp] theorem headYld_bool (b:Bool) (xs:List AV):headYld (.bool b :: xs)=false:=by cases xs <;> rfl
@[simp] theorem headYld_isl (es:List AV) (c:Bool) (xs:List AV):headYld (.isl es c :: xs)=false:=by cases xs <;> rfl
@[simp] theorem headYld_ptr (i o:Nat) (xs:List AV):headYld (.ptr i o :: xs)=false:=by cases xs <;> rfl
@[simp] theorem headYld_iptr (cs:List AV) (o:Nat) (xs:List AV):headYld (.iptr cs o :: xs)=false:=by cases xs <;> rfl
@[simp] theorem headYld_own (i:Nat) (es xs:List AV):headYld (.own i es :: xs)=false:=by cases xs <;> rfl
@[simp] theorem headYld_sl (i o l s:Nat) (a:Bool) (xs:List AV):headYld (.sl i o l s a :: xs)=false:=by cases xs <;> rfl
@[simp] theorem headYld_func (f:Nat) (cs xs:List AV):headYld (.func f cs :: xs)=false:=by cases xs <;> rfl
@[simp] theorem headYld_map (i:Nat) (xs:List AV):headYld (.map i :: xs)=false:=by cases xs <;> rfl
end Go.Mach
end
section
namespace Go.Mach
open Go.RowKit
end Go.Mach
end
section
namespace Go.Mach
open Go.RowKit Go.ChangeShapes
open Go.Proofs.Ytkfiepnkedcmgaa (Rows.uptoBulk Rows.uptoBulkAll Rows.uptoSmall)
section
variable {P:Program} {mt:Array Oper→Bool} {nt:Nat} {call:CallF} {bs k:Nat} {r0:Option Nat}
def CodeOK2 (P:Program) (call:CallF) (k bs nt:Nat) (r0:Option Nat) (c:Code) (x y:ACode):Prop:=∀ ρ σ r s,exec call k bs x ρ σ=some r→exec call k bs y ρ σ=some s→∀ g ow a w,HR g ow σ w→bs≤σ.length→RR g ρ a.tmps→nt≤ρ.length →
 c.wpIn (rnd r0) 0 P (fun e a' w'=>(r.2.1.length=ρ.length∧Post bs g ow σ w a.defers r e a' w')∨(s.2.1.length=ρ.length∧Post bs g ow σ w a.defers s e a' w')) a w
theorem CodeOK.two {x:Code} {ax:ACode} (h:CodeOK P call k bs nt r0 x ax) {ρ:Regs} {σ:Heap} {r:St3} (hx:exec call k bs ax ρ σ=some r) {g:Gh} {ow:Nat→Option Nat} {a:Act} {w:World} (h1:HR g ow σ w) (h2:bs≤σ.length) (h3:RR g ρ a.tmps) (h5:nt≤ρ.length) :
  x.wpIn (rnd r0) 0 P (fun e a' w'=>r.2.1.length=ρ.length∧Post bs g ow σ w a.defers r e a' w') a w:=by
 obtain ⟨hl,hwp⟩:=h _ _ _ hx g ow a w h1 h2 h3 h5
 exact wpIn_mono hwp fun e a' w' hq=>⟨hl,hq⟩
theorem block_after {id n:Nat} (hid:id<gno) {r:St3} {g:Gh} {ow:Nat→Option Nat} {σ:Heap} {w:World} {ds:List Deferred} {Q:Exit→Act→World→Prop} (hQ:∀ e a' w',(outBlock id r).2.1.length=n→Post bs g ow σ w ds (outBlock id r) e a' w'→Q e a' w')
  {e:Exit} {a1:Act} {w1:World} (hl:r.2.1.length=n) (hp:Post bs g ow σ w ds r e a1 w1):Exit.inBlock id Q e a1 w1:=by
 obtain ⟨e1,ρ1,σ1⟩:=r
 obtain ⟨he,hq⟩:=hp
 subst he
 cases e1 with
 | normal=>exact hQ _ _ _ hl ⟨rfl,hq⟩
 | ret=>exact hQ _ _ _ hl ⟨rfl,hq⟩
 | exit id'=>
  simp only [toExit]
  by_cases hlt:id'<gno
  ·rw [if_pos hlt]
   simp only [Exit.inBlock]
   simp only [outBlock] at hQ
   split
   ·rename_i e; rw [if_pos e] at hQ; exact hQ _ _ _ hl ⟨rfl,hq⟩
   ·rename_i e; rw [if_neg e] at hQ; exact hQ _ _ _ hl ⟨by simp only [toExit,if_pos hlt],hq⟩
  ·rw [if_neg hlt]
   have hne:id'≠id:=by omega
   simp only [Exit.inBlock]
   simp only [outBlock,if_neg hne] at hQ
   exact hQ _ _ _ hl ⟨by simp only [toExit,if_neg hlt],hq⟩
theorem CodeOK2.block {id:Nat} {c:Code} {x y:ACode} (hid:id<gno) (ih:CodeOK2 P call k bs nt r0 c x y):CodeOK2 P call k bs nt r0 (.block id c) (.block id x) (.block id y):=by
 intro ρ σ r s hr hs g ow a w h1 h2 h3 h5
 simp only [exec] at hr hs
 obtain ⟨r1,hr',rfl⟩:=zqG.1 hr
 obtain ⟨s1,hs',rfl⟩:=zqG.1 hs
 refine wpIn_block (wpIn_mono (ih _ _ _ _ hr' hs' g ow a w h1 h2 h3 h5) ?_)
 rintro e a1 w1 (⟨hl,hp⟩ | ⟨hl,hp⟩)
 ·exact block_after hid (fun e a' w' k1 k2=>.inl ⟨k1,k2⟩) hl hp
 ·exact block_after hid (fun e a' w' k1 k2=>.inr ⟨k1,k2⟩) hl hp
end
section
variable {P:Program} {g:Gh} {ow:Nat→Option Nat} {w:World}
end
section
variable {H:Type} {enc:TypeId × Value→H} {P:Program} {w:World} {S:List TypeId}
end
end Go.Mach
end
