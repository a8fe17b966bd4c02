import Derived.Test.YtkfiepnkedcmgaaC3
import Derived.Maps.RangeRun
import Derived.LoopNIn
import Derived.Test.YtkfiepnkedcmgaaChecked
import Derived.KernelRfl
import Derived.WalkKit
import Derived.Lib.Bytealg
import Derived.BigFrameIn
import Derived.Lib.Builder
import Derived.Lib.AppendStr
import Derived.Lib.UnsafeStr
import Derived.Lib.Walk
import Derived.BigRegion
import Derived.Laws.IdiomCopy
import Derived.Laws.Externs
import Derived.Laws.RangeAny
set_option linter.unusedVariables false
set_option linter.unusedSimpArgs false
set_option linter.unnecessarySimpa false
section
namespace Go.Mach
open Go.RowKit
section
variable {P:Program} {bs:Nat} {g:Gh} {ow:Nat→Option Nat} {σ:Heap} {w:World}
def IterAt (g:Gh) (ow:Nat→Option Nat) (w:World) (id jt n:Nat) (dn:List Nat) (r:Nat):Prop:=
 ∃ b c c',g.φ id=some (b,c)∧g.φ jt=some (r,c')∧ow r=none∧w.heap[r]?=some (.mapIter (some b) n dn.toArray n)
theorem IterAt.keep {id jt n r:Nat} {dn:List Nat} {g':Gh} {ow':Nat→Option Nat} {σ':Heap} {w':World} (h:IterAt g ow w id jt n dn r) (s:St bs g ow σ w g' ow' σ' w'):IterAt g' ow' w' id jt n dn r:=by
 obtain ⟨b,c,c',h1,h2,h3,h4⟩:=h
 obtain ⟨k1,k2⟩:=s.frame r (zqN.1 h4).1 h3
 exact ⟨b,c,c',s.gle.φ _ _ h1,s.gle.φ _ _ h2,k2,k1.trans h4⟩
theorem HR.putI {D:Nat} {m:Option Nat} {s c:Nat} {seen:Array Nat} {o':Obj} (h:HR g ow σ w) (ho:ow D=none) (hD:w.heap[D]?=some (.mapIter m s seen c)):HR g ow σ (w.putObj D o'):=by
 have hoth:∀ b,b≠D→(w.putObj D o').heap[b]?=w.heap[b]?:=fun b hb=>World.putObj_heap_other hb
 have hown:∀ b id,ow b=some id→b≠D:=fun b id hb e=>by subst e; rw [ho] at hb; cases hb
 have hcell:∀ b cv t fr,w.heap[b]?=some (.cells cv t fr)→b≠D:=fun b cv t fr hb e=>by subst e; rw [hD] at hb; cases hb
 refine ⟨fun b i v hm=>?_,fun id x hx=>⟨(h.dom id x hx).1,by simpa using (h.dom id x hx).2⟩,h.domψ,?_,?_,h.tle,?_,?_,fun p hp=>?_⟩
 ·have hc:=h.mem b i v hm
  have hb:b≠D:=fun e=>by
   subst e
   simp only [World.cell?,hD] at hc
   simp at hc
  exact (cell_congr (hoth b hb) i).trans hc
 ·intro id cs fz ext hσ b c hp
  obtain ⟨cv,tag,fr,k0,k1⟩:=h.cel id cs fz ext hσ b c hp
  exact ⟨cv,tag,fr,(hoth b (hcell b _ _ _ k0)).trans k0,k1⟩
 ·intro id n s hσ b p c hp
  obtain ⟨cv,tag,fr,k0,k1⟩:=h.tk id n s hσ b p c hp
  exact ⟨cv,tag,fr,(hoth b (hcell b _ _ _ k0)).trans k0,k1⟩
 ·intro id s pos hσ b c hp
  obtain ⟨k0,k1⟩:=h.it id s pos hσ b c hp
  exact ⟨(hoth b (hown b _ k1)).trans k0,k1⟩
 ·intro id o2 hsp hσ b c hp
  exact (h.bd id o2 hsp hσ b c hp).keep (.refl _) fun b' hb' _=>⟨hoth b' (hown b' _ hb'),hb',fun i hi=>hi⟩
 ·obtain ⟨⟨t,fr,h1⟩,h2⟩:=h.pin p hp
  exact ⟨⟨t,fr,(hoth _ (hcell _ _ _ _ h1)).trans h1⟩,h2⟩
theorem HR.dead {r:Nat} (h:HR g ow σ w) (hr:r<w.heap.size):HR (g.put σ.length r 0) ow (σ++[.dead]) w∧St bs g ow σ w (g.put σ.length r 0) ow (σ++[.dead]) w:=by
 have hn:=(h.none_len (Nat.le_refl _)).1
 have hle:=Gh.put_le hn r 0
 have hφ:∀ j x,(g.put σ.length r 0).φ j=some x→(j=σ.length∧x=(r,0))∨(j≠σ.length∧g.φ j=some x):=fun j x hx=>by
  simp only [Gh.put] at hx; split at hx
  ·injection hx with hx; exact .inl ⟨by assumption,hx.symm⟩
  ·exact .inr ⟨by assumption,hx⟩
 have hnew:(σ++[AObj.dead])[σ.length]?=some .dead:=by simp
 have hold:∀ j,j≠σ.length→(σ++[AObj.dead])[j]?=σ[j]?:=fun j hj=>by
  rcases Nat.lt_or_ge j σ.length with hl | hl
  ·exact zqA hl
  ·rw [List.getElem?_eq_none (by simp; omega),List.getElem?_eq_none hl]
 refine ⟨⟨h.mem,fun j x hx=>?_,fun j n x hx=>by have:=h.domψ j n x hx; simp; omega,?_,?_,?_,?_,?_,h.pin⟩,?_⟩
 ·rcases hφ j x hx with ⟨rfl,rfl⟩ | ⟨_,hx⟩
  ·exact ⟨by simp,hr⟩
  ·have:=h.dom j x hx; exact ⟨by simp; omega,this.2⟩
 ·intro j cs fz ext hσ b c' hp
  rcases hφ j _ hp with ⟨rfl,_⟩ | ⟨hj,hp'⟩
  ·rw [hnew] at hσ; cases hσ
  ·rw [hold j hj] at hσ
   obtain ⟨cv,tag,fr,k0,k1,k2,k3,k4,k5,k6⟩:=h.cel j cs fz ext hσ b c' hp'
   refine ⟨cv,tag,fr,k0,k1,k2,k3,fun i x hx=>?_,k5,k6⟩
   obtain ⟨a,v,b',c''⟩:=k4 i x hx; exact ⟨a,v,b',c''.mono hle⟩
 ·intro j n s hσ b p c' hp
  have hp':g.ψ j n=some (b,p,c'):=hp
  have hj:j≠σ.length:=fun e=>by subst e; rw [hnew] at hσ; cases hσ
  rw [hold j hj] at hσ
  exact h.tk j n s hσ b p c' hp'
 ·intro j n s hσ m x hp
  have hp':g.ψ j m=some x:=hp
  have hj:j≠σ.length:=fun e=>by subst e; rw [hnew] at hσ; cases hσ
  rw [hold j hj] at hσ
  exact h.tle j n s hσ m x hp'
 ·intro j s pos hσ b c' hp
  rcases hφ j _ hp with ⟨rfl,_⟩ | ⟨hj,hp'⟩
  ·rw [hnew] at hσ; cases hσ
  ·rw [hold j hj] at hσ; exact h.it j s pos hσ b c' hp'
 ·intro j o' hsp hσ b c' hp
  rcases hφ j _ hp with ⟨rfl,_⟩ | ⟨hj,hp'⟩
  ·rw [hnew] at hσ; injection hσ with hσ; subst hσ; cases hsp
  ·rw [hold j hj] at hσ
   exact (h.bd j o' hsp hσ b c' hp').keep (Gh.res_mono hle _) fun b' ho hb'=>⟨rfl,ho,fun i hi=>hi⟩
 ·refine ⟨hle,rfl,rfl,rfl,Nat.le_refl _,fun b hb ho=>⟨rfl,ho⟩,by simp,fun j hj hj'=>?_,fun _ _ _ _=>rfl,fun j _ hj cs fz ext hσ=>?_⟩
  ·simp only [Gh.put]; rw [if_neg (by omega)]; exact hj'
  ·rw [hold j (by omega)] at hσ
   exact ⟨cs,fz,ext,hσ,fun i x hx=>.inr ⟨hx,fun b c hp=>rfl⟩⟩
def lf (n:Nat) (dn:List Nat):List Nat:=(List.range n).filter fun i=>!dn.contains i
theorem lf_lt {n i:Nat} {dn:List Nat} (h:i<n) (hd:i ∉ dn):(lf n (dn++[i])).length<(lf n dn).length:=by
 have e:lf n (dn++[i])=(lf n dn).filter fun j=>!decide (j=i):=by
  unfold lf; rw [List.filter_filter]; congr 1; funext j
  by_cases hj:j=i <;> simp [hj]
 rw [e]
 refine List.length_filter_lt_length_iff_exists.2 ⟨i,List.mem_filter.2 ⟨by simpa using h,by simpa using hd⟩,by simp⟩
theorem next_sound (h:HR g ow σ w) {id jt n r:Nat} {dn:List Nat} (hit:IterAt g ow w id jt n dn r) {es:List (AV × AV)} (hσ:σ[id]?=some (.mp es)) (hn:es.length=n) (ty:TypeId) :
  ((∀ i,i<n→i∈dn)∧(Instr.next (.pointer (some ⟨r,0,none⟩)) false ty).run P w=.ok (.tuple #[.bool false]) w) ∨
  ∃ i k v ck cv w',i<n∧i ∉ dn∧es[i]?=some (k,v)∧(Instr.next (.pointer (some ⟨r,0,none⟩)) false ty).run P w=.ok (.tuple #[.bool true,ck,cv]) w'∧VR g k ck∧VR g v cv∧HR g ow σ w'∧IterAt g ow w' id jt n (dn++[i]) r∧(∀ b:Nat,b≠r→w'.heap[b]?=w.heap[b]?) ∧
   ∀ {g0:Gh} {ow0:Nat→Option Nat} {σ0:Heap} {w0:World},HR g0 ow0 σ0 w0→St bs g0 ow0 σ0 w0 g ow σ w→w0.heap.size≤r→St bs g0 ow0 σ0 w0 g ow σ w':=by
 obtain ⟨b,c,c',h1,h2,h3,h4⟩:=hit
 obtain ⟨esC,clock,m1,m2,m3,m4,m5,m6,m7⟩:MapAt g ow id b es w:=h.bd id (.mp es) rfl hσ b c h1
 have hsz:esC.size=n:=m2.trans hn
 have hborn:∀ x∈esC.toList,x.born<n:=fun x hx=>by
  obtain ⟨i,hi,e⟩:=zqS hx
  have:=m7 i x (by rw [←Array.getElem?_toList,zqF hi,e])
  have:i<esC.size:=by simpa using hi
  omega
 rcases run_next_at (P:=P) w ty r b n n dn.toArray esC clock h4 m1 hborn (Nat.le_refl _) with ⟨h0,hrun⟩ | ⟨e,he,w1,hal,hrun⟩
 ·refine .inl ⟨fun i hi=>?_,hrun⟩
  have hx:=all_seen esC dn.toArray h0 esC[i] (by simp)
  rw [m7 i _ (Array.getElem?_eq_getElem (by omega))] at hx
  simpa using hx
 ·obtain ⟨hem,hes⟩:=mem_left he
  obtain ⟨i,hi,hie⟩:=zqS hem
  have hi':i<esC.size:=by simpa using hi
  have hget:esC[i]?=some e:=by rw [←Array.getElem?_toList,zqF hi,hie]
  have hbi:=m7 i e hget
  have hin:i<es.length:=by omega
  obtain ⟨k,v,hkv⟩:∃ k v,es[i]?=some (k,v):=⟨_,_,zqF hin⟩
  obtain ⟨e',he',c1,c2,v1,v2⟩:=m3 i k v hkv
  rw [hget] at he'; injection he' with he'; subst he'
  have hw1:HR g ow σ w1∧(∀ b:Nat,w1.heap[b]?=w.heap[b]?)∧∀ {g0:Gh} {ow0:Nat→Option Nat} {σ0:Heap} {w0:World},HR g0 ow0 σ0 w0→St bs g0 ow0 σ0 w0 g ow σ w→St bs g0 ow0 σ0 w0 g ow σ w1:=by
   rcases hal with rfl | rfl
   ·exact ⟨h,fun _=>rfl,fun _ s=>s⟩
   ·obtain ⟨a1,a2⟩:=h.more (bs:=bs) (w':=w.drew) (Nat.le_refl _) (fun b hb=>rfl) rfl rfl rfl
    exact ⟨a1,fun _=>rfl,fun _ s=>s.trans a2⟩
  obtain ⟨k1,k2,k3⟩:=hw1
  have hr1:w1.heap[r]?=some (.mapIter (some b) n dn.toArray n):=(k2 r).trans h4
  have hlt:r<w1.heap.size:=(zqN.1 hr1).1
  have hpush:dn.toArray.push e.born=(dn++[i]).toArray:=by rw [hbi]; simp
  have hck:clock=n:=m6.trans hsz
  refine .inr ⟨i,k,v,e.key,e.val,w1.putObj r (.mapIter (some b) n (dn++[i]).toArray n),by omega,?_,hkv,?_,v1,v2,k1.putI h3 hr1,⟨b,c,c',h1,h2,h3,World.putObj_heap_same hlt⟩,fun b hb=>(World.putObj_heap_other hb).trans (k2 b),fun h0 s hle=>(k3 h0 s).put0 h0 hle⟩
  ·rw [hbi] at hes; simpa using hes
  ·rw [hrun,hpush,hck]; rfl
theorem entry_sound (h:HR g ow σ w) {id jt n r i:Nat} {dn:List Nat} (hit:IterAt g ow w id jt n (dn++[i]) r) {es:List (AV × AV)} (hσ:σ[id]?=some (.mp es)) (hn:es.length=n) {k v:AV} (hkv:es[i]?=some (k,v)) :
  ∃ ck cv,(Instr.entry (.pointer (some ⟨r,0,none⟩))).run P w=.ok (.tuple #[ck,cv]) w∧VR g k ck∧VR g v cv:=by
 obtain ⟨b,c,c',h1,h2,h3,h4⟩:=hit
 obtain ⟨esC,clock,m1,m2,m3,m4,m5,m6,m7⟩:MapAt g ow id b es w:=h.bd id (.mp es) rfl hσ b c h1
 obtain ⟨e,he,c1,c2,v1,v2⟩:=m3 i k v hkv
 have hbi:=m7 i e he
 have hck:clock=n:=m6.trans (m2.trans hn)
 subst hck
 have hnd:(esC.toList.map (·.born)).Nodup:=by
  have:esC.toList.map (·.born)=List.range esC.size:=by
   apply List.ext_getElem?
   intro j
   rw [List.getElem?_map,Array.getElem?_toList]
   rcases Nat.lt_or_ge j esC.size with hj | hj
   ·rw [Array.getElem?_eq_getElem hj,List.getElem?_range hj,Option.map_some,m7 j _ (Array.getElem?_eq_getElem hj)]
   ·rw [Array.getElem?_eq_none hj,List.getElem?_eq_none (by simpa using hj)]; rfl
  rw [this]; exact List.nodup_range
 have hmem:e∈esC.toList:=by
  have:esC.toList[i]?=some e:=by rw [Array.getElem?_toList]; exact he
  exact zqR this
 refine ⟨e.key,e.val,run_entry_at (P:=P) w r b clock dn.toArray esC clock e ?_ m1 hmem hnd,v1,v2⟩
 rw [h4,hbi]; simp
end
section
variable {P:Program} {mt:Array Oper→Bool} {nt:Nat} {call:CallF} {bs k:Nat}
def mvO (t:Nat) (v:AV):AOper:=⟨some t,.mv (.c v),none,[]⟩
theorem runOps_mvO (t:Nat) (v:AV) (os:List AOper) (ρ:Regs) (σ:Heap):runOps call bs (mvO t v :: os) ρ σ=runOps call bs os (ρ.set t v) σ:=by
 simp only [runOps,mvO,guardA,Option.bind_some,stepAll,stepOp,ev,chkO_nil,setDst]
theorem first_rest (hcall:CallOK P call) {m:Bool} {id:Nat} {ops:Array Oper} {o:Oper} {l:List Oper} {os:List AOper} (hl:ops.toList=o :: l) (hos:l.mapM (compOper P m ops)=some os) (hg:o.guard=none) {t:Nat} (hd:o.dst=some t)
  {g:Gh} {ow:Nat→Option Nat} {ρ ρ':Regs} {σ σ':Heap} {x:AV} {cv:Value} {a:Act} {w w':World} (hrun:(execOp a.eval o).run P w=.ok (.value cv) w') (hV:VR g x cv) (hH:HR g ow σ w') (hR:RR g ρ a.tmps) (hbs:bs≤σ.length) (hx:runOps call bs os (ρ.set t x) σ=some (ρ',σ'))
  {Q:Exit→Act→World→Prop} (hQ:∀ g' ow' a' w'',RR g' ρ' a'.tmps→a'.defers=a.defers→HR g' ow' σ' w''→St bs g ow σ w' g' ow' σ' w''→Q .normal a' w'') :
  (Code.region id ops false).wpIn (rnd none) 0 P Q a w:=by
 refine wpIn_region ?_
 have hsz:ops.size=l.length+1:=by rw [←Array.length_toList,hl]; rfl
 have h0:ops[0]?=some o:=by rw [←Array.getElem?_toList,hl]; rfl
 rw [hsz,List.range_succ_eq_map]
 simp only [wpOpsIn,h0,Region.wanted,hg,if_true]
 refine ⟨fun _ _=>trivial,?_⟩
 show o.uponIn (rnd none) 0 P a _ Q ((o.semAt none a.eval).run P w)
 rw [Oper.semAt_none,hrun,Oper.uponIn_value]
 have hmap:List.map Nat.succ (List.range l.length)=(List.range l.length).map (1+·):=List.map_congr_left fun j _=>by show j+1=1+j; omega
 rw [hmap]
 have hR':RR g (ρ.set t x) (a.put o.dst cv).tmps:=by
  have:=put_RR (a:=a) hR (dst:=o.dst) hV
  rw [hd] at this ⊢; exact this
 exact ops_sound (ds:=a.defers) hcall l os 1 (ρ.set t x) σ g ow (a.put o.dst cv) w' (fun j=>by rw [←Array.getElem?_toList,hl,Nat.add_comm]; rfl) hos hx hH hbs hR' put_defers hQ
def stepOf (o:Oper):Option (Nat × Nat):=match o.op,o.dst,o.guard with
 | .next (.tmp it) false,some t,none=>some (it,t)
 | _,_,_=>none
def entryOp (o:Oper):Option (Nat × Nat):=match o.op,o.dst,o.guard with
 | .entry (.tmp it),some t,none=>some (it,t)
 | _,_,_=>none
theorem stepOf_some {o:Oper} {it t:Nat} (h:stepOf o=some (it,t)):o.op=.next (.tmp it) false∧o.dst=some t∧o.guard=none:=by
 unfold stepOf at h
 split at h
 ·rename_i h1 h2 h3; injection h with h; injection h with e1 e2; subst e1 e2; exact ⟨h1,h2,h3⟩
 ·cases h
theorem entryOp_some {o:Oper} {it t:Nat} (h:entryOp o=some (it,t)):o.op=.entry (.tmp it)∧o.dst=some t∧o.guard=none:=by
 unfold entryOp at h
 split at h
 ·rename_i h1 h2 h3; injection h with h; injection h with e1 e2; subst e1 e2; exact ⟨h1,h2,h3⟩
 ·cases h
theorem RR.iter {g:Gh} {ρ:Regs} {a:Act} (h:RR g ρ a.tmps) {it jt r c:Nat} (hi:ρ.getD it .undef=.ptr jt 0) (hp:g.φ jt=some (r,c)):a.eval (.tmp it)=.pointer (some ⟨r,0,none⟩):=by
 have hv:=h.val it
 rw [hi] at hv
 show a.tmps.getD it undef=_
 revert hv
 generalize a.tmps.getD it undef=cv
 intro hv
 cases hv with
 | ptr hq=>rw [hp] at hq; injection hq with hq; injection hq with e1 e2; subst e1; rfl
theorem getD_set_ne {ρ:Regs} {i t:Nat} (h:i≠t) (v:AV):(ρ.set t v).getD i .undef=ρ.getD i .undef:=by
 simp only [List.getD_eq_getElem?_getD]; rw [zqC (fun e=>h e.symm)]
theorem getD_set_eq {ρ:Regs} {t:Nat} (h:t<ρ.length) (v:AV):(ρ.set t v).getD t .undef=v:=by
 simp only [List.getD_eq_getElem?_getD]; rw [List.getElem?_set_self h]; rfl
theorem map_loop {T:Tab} (hT:TabOK P T) {r1 r2 bid bo it tN tM tE:Nat} {opsN opsE:Array Oper} {oN oN2 oE:Oper} {lE:List Oper} {c:Code} {os2:List AOper} {ac:ACode}
  (hN:opsN.toList=[oN,oN2]) (hNo:stepOf oN=some (it,tN)) (hN2:[oN2].mapM (compOper P (mt opsN) opsN)=some [⟨some tM,.extract 0 (.t tN),none,[]⟩])
  (hE:opsE.toList=oE :: lE) (hEo:entryOp oE=some (it,tE)) (hos2:lE.mapM (compOper P (mt opsE) opsE)=some os2) (hac:compC P mt nt c=some ac) (hbid:bid<gno) (hi1:it≠tN) (hi2:it≠tM) (hnt:tN<nt∧tM<nt∧it<nt)
  {J:List Nat→Regs→Heap→Prop} {Qf:Regs→Heap→Prop} {id jt n N:Nat}
  (hJ:∀ dn ρ σ,J dn ρ σ→(∃ es,σ[id]?=some (.mp es)∧es.length=n)∧ρ.getD it .undef=.ptr jt 0∧nt≤ρ.length∧ρ.length=N∧bs≤σ.length)
  (round:∀ dn ρ σ i kk vv es,J dn ρ σ→i<n→i ∉ dn→σ[id]?=some (.mp es)→es[i]?=some (kk,vv)→∃ k ρ' σ',exec (evalFn T k) k bs (.block bid (.seq (.region (mvO tE (.tup [kk,vv]) :: os2)) ac)) ((ρ.set tN (.tup [.bool true,kk,vv])).set tM (.bool true)) σ=some (.normal,ρ',σ')∧J (dn++[i]) ρ' σ')
  (last:∀ dn ρ σ,J dn ρ σ→(∀ i,i<n→i∈dn)→Qf ((ρ.set tN (.tup [.bool false])).set tM (.bool false)) σ)
  {g0:Gh} {ow0:Nat→Option Nat} {σ0:Heap} {w0:World} (h0:HR g0 ow0 σ0 w0) {ds:List Deferred} {r:Nat} (hr:w0.heap.size≤r) :
  ∀ (m:Nat) (dn:List Nat) ρ σ g ow (a:Act) w Ds,J dn ρ σ→(lf n dn).length<m→HR g ow σ w→RR g ρ a.tmps→IterAt g ow w id jt n dn r→St bs g0 ow0 σ0 w0 g ow σ w→a.defers=Ds.map mkD++ds→NewD w0.heap.size ow w Ds →
   Code.roundsIn (rnd none) 0 P (.seq (.region r1 opsN false) (.seq (.cond (.tmp tM) .skip (.exit bo)) (.block bid (.seq (.region r2 opsE false) c))))
    (fun e a' w'=>e=.exit bo∧∃ ρ' σ',Qf ρ' σ'∧ρ'.length=N∧Post bs g0 ow0 σ0 w0 ds (.normal,ρ',σ') .normal a' w') m a w:=by
 obtain ⟨n1,n2,n3⟩:=stepOf_some hNo
 obtain ⟨e1,e2,e3⟩:=entryOp_some hEo
 intro m
 induction m with
 | zero=>intro dn ρ σ g ow a w Ds _ h; omega
 | succ m ih=>
  intro dn ρ σ g ow a w Ds hj hm hH hR hit hS hds hDs
  obtain ⟨⟨es,hσ,hes⟩,hpt,hln,hlN,hbs⟩:=hJ dn ρ σ hj
  obtain ⟨b,cb,c',p1,p2,p3,p4⟩:=hit
  have hev:∀ {g':Gh} {ρ':Regs} {a':Act},RR g' ρ' a'.tmps→ρ'.getD it .undef=.ptr jt 0→g'.φ jt=some (r,c')→a'.eval (.tmp it)=.pointer (some ⟨r,0,none⟩):=fun h1 h2 h3=>h1.iter h2 h3
  have hexN:∀ {cv w'},(Instr.next (.pointer (some ⟨r,0,none⟩)) false oN.type).run P w=.ok cv w'→(execOp a.eval oN).run P w=.ok (.value cv) w':=fun {cv w'} h=>by
   unfold execOp; rw [n1]; simp only [hev hR hpt p2,Sem.run_bind,h,Result.andThen_ok,Sem.run_pure]
  rw [roundsIn_succ]
  have hrest:∀ (v:AV) (vs:List AV),runOps (evalFn T 0) bs [⟨some tM,.extract 0 (.t tN),none,[]⟩] (ρ.set tN (.tup (v :: vs))) σ=some ((ρ.set tN (.tup (v :: vs))).set tM v,σ):=fun v vs=>by
   have:ev (ρ.set tN (.tup (v :: vs))) (.t tN)=.tup (v :: vs):=getD_set_eq (by omega) _
   simp [runOps,guardA,stepAll,stepOp,this,chkO_nil,setDst]
  rcases next_sound (bs:=bs) hH ⟨b,cb,c',p1,p2,p3,p4⟩ hσ hes oN.type with ⟨hall,hrun⟩ | ⟨i,kk,vv,ck,cv,w1,hi,hid,hkv,hrun,v1,v2,hH1,hit1,hoth,hst⟩
  ·refine wpIn_seq (first_rest (eval_sound hT 0) hN hN2 n3 n2 (hexN hrun) (x:=.tup [.bool false]) (.tup rfl fun i x v hx hv=>?_) hH hR hbs (hrest _ _) fun g' ow' a' w'' k1 k2 k3 k4=>?_)
   ·match i,hx,hv with
    | 0,hx,hv=>simp at hx hv; subst hx hv; exact .bool _
    | i+1,hx,hv=>simp at hx
   ·have hb:=k1.val tM
    rw [getD_set_eq (by simp; omega)] at hb
    refine wpIn_seq (wpIn_cond_false (show a'.eval (.tmp tM)=.bool false from hb.boolv) (wpIn_exit ?_))
    refine ⟨rfl,_,_,last dn ρ σ hj hall,by simp [hlN],rfl,g',ow',Ds,k1,by rw [k2,hds],⟨hDs.nd,fun D hD=>?_⟩,k3,hS.trans k4⟩
    obtain ⟨q1,q2,q3⟩:=hDs.pt D hD
    obtain ⟨f1,f2⟩:=k4.frame D (zqN.1 q3).1 q2
    exact ⟨q1,f2,f1.trans q3⟩
  ·obtain ⟨kf,ρ',σ',hx,hj'⟩:=round dn ρ σ i kk vv es hj hi hid hσ hkv
   have hS1:=hst h0 hS hr
   have hDs1:NewD w0.heap.size ow w1 Ds:=⟨hDs.nd,fun D hD=>by
    obtain ⟨q1,q2,q3⟩:=hDs.pt D hD
    exact ⟨q1,q2,(hoth D fun e=>by subst e; rw [p4] at q3; cases q3).trans q3⟩⟩
   refine wpIn_seq (first_rest (eval_sound hT 0) hN hN2 n3 n2 (hexN hrun) (x:=.tup [.bool true,kk,vv]) (.tup rfl fun i x v hx hv=>?_) hH1 hR hbs (hrest _ _) fun g' ow' a' w'' k1 k2 k3 k4=>?_)
   ·match i,hx,hv with
    | 0,hx,hv=>simp at hx hv; subst hx hv; exact .bool _
    | 1,hx,hv=>simp at hx hv; subst hx hv; exact v1
    | 2,hx,hv=>simp at hx hv; subst hx hv; exact v2
    | i+3,hx,hv=>simp at hx
   ·have hb:=k1.val tM
    rw [getD_set_eq (by simp; omega)] at hb
    refine wpIn_seq (wpIn_cond_true (show a'.eval (.tmp tM)=.bool true from hb.boolv) (wpIn_skip ?_))
    simp only [exec] at hx
    obtain ⟨⟨eb,ρb,σb⟩,hxb,hob⟩:=zqG.1 hx
    obtain ⟨⟨er,ρr,σr⟩,hxr,hxc⟩:=zqH.1 hxb
    obtain ⟨⟨ρ2,σ2⟩,hx2,e⟩:=zqG.1 hxr
    injection e with e4 e5; injection e5 with e5 e6; subst e4 e5 e6
    simp only [onNormal] at hxc
    rw [runOps_mvO] at hx2
    have hit2:=hit1.keep k4
    obtain ⟨b2,cb2,c2',s1,s2,s3,s4⟩:=hit2
    have hpt1:((ρ.set tN (.tup [.bool true,kk,vv])).set tM (.bool true)).getD it .undef=.ptr jt 0:=by rw [getD_set_ne hi2,getD_set_ne hi1]; exact hpt
    obtain ⟨ck2,cv2,hen,u1,u2⟩:=entry_sound (P:=P) k3 ⟨b2,cb2,c2',s1,s2,s3,s4⟩ hσ hes hkv
    have hexE:(execOp a'.eval oE).run P w''=.ok (.value (.tuple #[ck2,cv2])) w'':=by
     unfold execOp; rw [e1]; simp only [k1.iter hpt1 s2,Sem.run_bind,hen,Result.andThen_ok,Sem.run_pure]
    have hS4:=hS1.trans k4
    have hDs2:NewD w0.heap.size ow' w'' Ds:=⟨hDs1.nd,fun D hD=>by
     obtain ⟨q1,q2,q3⟩:=hDs1.pt D hD
     obtain ⟨f1,f2⟩:=k4.frame D (zqN.1 q3).1 q2
     exact ⟨q1,f2,f1.trans q3⟩⟩
    have hbs2:=Nat.le_trans hbs k4.len
    have hl2:=runOps_len hx2
    refine wpIn_block (wpIn_seq (first_rest (eval_sound hT kf) hE hos2 e3 e2 hexE (x:=.tup [kk,vv]) (.tup rfl fun i x v hx hv=>?_) k3 k1 hbs2 hx2 fun g2 ow2 a2 w2 m1 m2 m3 m4=>?_))
    ·match i,hx,hv with
     | 0,hx,hv=>simp at hx hv; subst hx hv; exact u1
     | 1,hx,hv=>simp at hx hv; subst hx hv; exact u2
     | i+2,hx,hv=>simp at hx
    ·have hl3:ρ2.length=ρ.length:=by rw [hl2]; simp
     obtain ⟨hl4,hwp⟩:=exec_sound (P:=P) (r0:=none) (mt:=mt) (nt:=nt) (bs:=bs) (k:=kf) hT.mixed (eval_sound hT kf) c ac hac (.inl rfl) _ _ _ hxc g2 ow2 a2 w2 m3 (Nat.le_trans hbs2 m4.len) m1 (by omega)
     refine wpIn_mono hwp ?_
     rintro e a3 w3 ⟨he,g3,ow3,Ds3,z1,z2,z3,z4,z5⟩
     have hS5:=(hS4.trans m4).trans z5
     have hDs3:NewD w0.heap.size ow3 w3 (Ds3++Ds):=by
      have hDm:NewD w0.heap.size ow2 w2 Ds:=⟨hDs2.nd,fun D hD=>by
       obtain ⟨q1,q2,q3⟩:=hDs2.pt D hD
       obtain ⟨f1,f2⟩:=m4.frame D (zqN.1 q3).1 q2
       exact ⟨q1,f2,f1.trans q3⟩⟩
      exact hDm.trans z5 z3 (hS4.trans m4).size
     have hfin:eb=.normal∨eb=.exit bid:=by
      cases eb with
      | normal=>exact .inl rfl
      | ret=>simp [outBlock] at hob
      | exit id'=>
       simp only [outBlock] at hob
       split at hob
       ·rename_i h; exact .inr (by rw [h])
       ·injection hob with h1 h2; cases h1
     have hρ:ρb=ρ'∧σb=σ':=by
      rcases hfin with rfl | rfl
      ·simp only [outBlock] at hob; injection hob with h1 h2; injection h2 with h2 h3; exact ⟨h2,h3⟩
      ·simp only [outBlock,if_true] at hob; injection hob with h1 h2; injection h2 with h2 h3; exact ⟨h2,h3⟩
     obtain ⟨rfl,rfl⟩:=hρ
     have hnext:=ih (dn++[i]) ρb σb g3 ow3 a3 w3 (Ds3++Ds) hj' (by have:=lf_lt hi hid; omega) z4 z1 (IterAt.keep (IterAt.keep (⟨b2,cb2,c2',s1,s2,s3,s4⟩:IterAt g' ow' w'' id jt n (dn++[i]) r) m4) z5) hS5 (by rw [z2,m2,k2,hds]; simp) hDs3
     rcases hfin with rfl | rfl
     ·simp only [toExit] at he; subst he; exact hnext
     ·simp only [toExit,if_pos hbid] at he; subst he
      simp only [Exit.inBlock,if_true]; exact hnext
end
end Go.Mach
end
section
namespace Go.Mach
open Go.RowKit
section
variable {P:Program} {mt:Array Oper→Bool} {nt bs:Nat} {T:Tab}
def HT (P:Program) (bs nt:Nat) (c:Code) (Pre:Regs→Heap→Prop) (Qs:St3→Prop):Prop:=∀ ρ σ,Pre ρ σ→nt≤ρ.length→bs≤σ.length→∀ g ow a w,HR g ow σ w→RR g ρ a.tmps →
 c.wpIn (rnd none) 0 P (fun e a' w'=>∃ r:St3,Qs r∧r.2.1.length=ρ.length∧Post bs g ow σ w a.defers r e a' w') a w
theorem HT.det (hT:TabOK P T) {c:Code} {ac:ACode} (hc:compC P mt nt c=some ac) {Pre:Regs→Heap→Prop} {Qs:St3→Prop} (h:∀ ρ σ,Pre ρ σ→∃ k r,exec (evalFn T k) k bs ac ρ σ=some r∧Qs r):HT P bs nt c Pre Qs:=by
 intro ρ σ hp hn hb g ow a w hH hR
 obtain ⟨k,r,hx,hq⟩:=h ρ σ hp
 obtain ⟨hl,hwp⟩:=exec_sound (r0:=none) (mt:=mt) (nt:=nt) (bs:=bs) (k:=k) hT.mixed (eval_sound hT k) c ac hc (.inl rfl) _ _ _ hx g ow a w hH hb hR hn
 exact wpIn_mono hwp fun e a' w' hp=>⟨r,hq,hl,hp⟩
theorem HT.seq {x y:Code} {Pre:Regs→Heap→Prop} {Mid Qs:St3→Prop} (hx:HT P bs nt x Pre Mid) (hy:HT P bs nt y (fun ρ σ=>Mid (.normal,ρ,σ)) Qs) (ho:∀ r:St3,Mid r→r.1≠.normal→Qs r):HT P bs nt (.seq x y) Pre Qs:=by
 intro ρ σ hp hn hb g ow a w hH hR
 refine wpIn_seq (wpIn_mono (hx ρ σ hp hn hb g ow a w hH hR) ?_)
 rintro e a1 w1 ⟨⟨e1,ρ1,σ1⟩,hm,hl,hpost⟩
 simp only at hl
 cases e1 with
 | normal=>
  obtain ⟨he,g1,ow1,Ds,k1,kd,kn,k3,k4⟩:=hpost
  simp only [toExit] at he; subst he
  refine wpIn_mono (hy ρ1 σ1 hm (by omega) (Nat.le_trans hb k4.len) g1 ow1 a1 w1 k3 k1) ?_
  rintro e a2 w2 ⟨r,h1,h2,h3⟩
  exact ⟨r,h1,by omega,h3.after k4 kd kn⟩
 | exit id=>
  have he:=hpost.1; simp only [toExit] at he
  split at he <;> (subst he; exact ⟨_,ho _ hm (by simp),hl,hpost⟩)
 | ret=>
  have he:=hpost.1; simp only [toExit] at he; subst he
  exact ⟨_,ho _ hm (by simp),hl,hpost⟩
theorem ops_ahead {call:CallF} {m:Bool} {r:Option Nat} {n:Nat} {ds:List Deferred} (hcall:CallOK P call) {ops:Array Oper} {Q:Exit→Act→World→Prop} {ρ':Regs} {σ':Heap} (js:List Nat):∀ (l:List Oper) (os:List AOper) (i:Nat) (ρ:Regs) (σ:Heap) (g:Gh) (ow:Nat→Option Nat) (a:Act) (w:World),
  (∀ j,j<l.length→l[j]?=ops[i+j]?)→l.mapM (compOper P m ops)=some os→runOps call bs os ρ σ=some (ρ',σ')→HR g ow σ w→bs≤σ.length→RR g ρ a.tmps→a.defers=ds →
  (∀ g' ow' a' w',RR g' ρ' a'.tmps→a'.defers=ds→HR g' ow' σ' w'→St bs g ow σ w g' ow' σ' w'→wpOpsIn (rnd r) n P ops Q js a' w') →
  wpOpsIn (rnd r) n P ops Q ((List.range l.length).map (i+·)++js) a w
 | [],os,i,ρ,σ,g,ow,a,w,hl,hc,hx,h,hbs,hR,hd,hQ=>by
  simp at hc; subst hc
  simp only [runOps] at hx; injection hx with hx; injection hx with e1 e2; subst e1 e2
  exact hQ g ow a w hR hd h (.refl ..)
 | o :: l,os,i,ρ,σ,g,ow,a,w,hl,hc,hx,h,hbs,hR,hd,hQ=>by
  rw [List.mapM_cons] at hc
  simp only [zqK,zqH,Option.pure_def] at hc
  obtain ⟨ao,hao,os',hos,e⟩:=hc
  injection e with e; subst e
  unfold compOper at hao
  obtain ⟨aop,haop,hao⟩:=zqH.1 hao
  obtain ⟨gd,hgd,e⟩:=zqH.1 hao
  injection e with e; subst e
  have h0:ops[i]?=some o:=by simpa using (hl 0 (by simp)).symm
  have hlist:(List.range (o :: l).length).map (i+·)=i :: (List.range l.length).map (i+1+·):=by
   rw [zqU,List.range_succ_eq_map,List.map_cons,List.map_map]
   congr 1
   apply List.map_congr_left; intro j _; simp only [Function.comp]; omega
  rw [hlist,List.cons_append]
  have hl':∀ j,j<l.length→l[j]?=ops[i+1+j]?:=fun j hj=>by have:=hl (j+1) (by simpa using hj); simpa [Nat.add_assoc,Nat.add_comm 1 j] using this
  simp only [wpOpsIn,h0]
  simp only [runOps] at hx
  obtain ⟨b,hb,hx⟩:=zqH.1 hx
  have hw:=guard_sound hgd hR hb
  rw [hw]
  cases b with
  | true=>
   simp only [if_true]
   obtain ⟨r,hr,hx1⟩:=zqH.1 hx
   obtain ⟨u,_,hx2⟩:=zqH.1 hx1
   obtain ⟨v1,σ1⟩:=r
   refine step_sound hcall h hbs hR haop hr fun g' ow' w' cv hV hH hS=>?_
   refine ops_ahead (ds:=ds) hcall js l os' (i+1) _ _ g' ow' _ w' hl' hos hx2 hH (Nat.le_trans hbs hS.len) (put_RR (hR.mono hS.gle) hV) (by rw [put_defers]; exact hd) ?_
   intro g2 ow2 a2 w2 h1 h2 h3 h4
   exact hQ g2 ow2 a2 w2 h1 h2 h3 (hS.trans h4)
  | false=>
   simp only [Bool.false_eq_true,if_false]
   refine ⟨fun _ _=>trivial,?_⟩
   refine ops_ahead (ds:=ds) hcall js l os' (i+1) _ _ g ow _ w hl' hos hx h hbs (put_RR hR (.tup rfl fun i x v hx=>by simp at hx)) (by rw [put_defers]; exact hd) ?_
   intro g2 ow2 a2 w2 h1 h2 h3 h4
   exact hQ g2 ow2 a2 w2 h1 h2 h3 h4
def rangeOp (o:Oper):Option (TypeId × Operand × Nat):=match o.op,o.dst,o.guard with
 | .range t x,some d,none=>some (t,x,d)
 | _,_,_=>none
theorem rangeOp_some {o:Oper} {t:TypeId} {x:Operand} {d:Nat} (h:rangeOp o=some (t,x,d)):o.op=.range t x∧o.dst=some d∧o.guard=none:=by
 unfold rangeOp at h
 split at h
 ·rename_i h1 h2 h3; injection h with h; injection h with e1 h; injection h with e2 e3; subst e1 e2 e3; exact ⟨h1,h2,h3⟩
 ·cases h
theorem HT.mapr (hT:TabOK P T) {rb r1 r2 bid bo it tN tM tE:Nat} {opsB opsN opsE:Array Oper} {lB:List Oper} {oB oN oN2 oE:Oper} {lE:List Oper} {c:Code} {osB os2:List AOper} {ac:ACode} {t kt et:TypeId} {xo:Operand} {z:AX}
  (hB:opsB.toList=lB++[oB]) (hosB:lB.mapM (compOper P (mt opsB) opsB)=some osB) (hBo:rangeOp oB=some (t,xo,it)) (hz:cx xo=some z) (ht:P.underlying t=some (.map kt et))
  (hN:opsN.toList=[oN,oN2]) (hNo:stepOf oN=some (it,tN)) (hN2:[oN2].mapM (compOper P (mt opsN) opsN)=some [⟨some tM,.extract 0 (.t tN),none,[]⟩])
  (hE:opsE.toList=oE :: lE) (hEo:entryOp oE=some (it,tE)) (hos2:lE.mapM (compOper P (mt opsE) opsE)=some os2) (hac:compC P mt nt c=some ac) (hbid:bid<gno) (hi1:it≠tN) (hi2:it≠tM) (hnt:tN<nt∧tM<nt∧it<nt)
  {Pre:Regs→Heap→Prop} {Qs:St3→Prop}
  (h:∀ ρ σ,Pre ρ σ→nt≤ρ.length→bs≤σ.length→∃ k ρ1 σ1 id es,runOps (evalFn T k) bs osB ρ σ=some (ρ1,σ1)∧ev ρ1 z=.map id∧σ1[id]?=some (.mp es)∧∃ (J:List Nat→Regs→Heap→Prop) (Qf:Regs→Heap→Prop),J [] (ρ1.set it (.ptr σ1.length 0)) (σ1++[.dead]) ∧
   (∀ dn ρ' σ',J dn ρ' σ'→(∃ es',σ'[id]?=some (.mp es')∧es'.length=es.length)∧ρ'.getD it .undef=.ptr σ1.length 0∧nt≤ρ'.length∧ρ'.length=ρ.length∧bs≤σ'.length) ∧
   (∀ dn ρ' σ' i kk vv es',J dn ρ' σ'→i<es.length→i ∉ dn→σ'[id]?=some (.mp es')→es'[i]?=some (kk,vv)→∃ k ρ2 σ2,exec (evalFn T k) k bs (.block bid (.seq (.region (mvO tE (.tup [kk,vv]) :: os2)) ac)) ((ρ'.set tN (.tup [.bool true,kk,vv])).set tM (.bool true)) σ'=some (.normal,ρ2,σ2)∧J (dn++[i]) ρ2 σ2) ∧
   (∀ dn ρ' σ',J dn ρ' σ'→(∀ i,i<es.length→i∈dn)→Qf ((ρ'.set tN (.tup [.bool false])).set tM (.bool false)) σ')∧∀ ρ' σ',Qf ρ' σ'→Qs (.normal,ρ',σ')) :
  HT P bs nt (.seq (.region rb opsB false) (.block bo (.loop (.seq (.region r1 opsN false) (.seq (.cond (.tmp tM) .skip (.exit bo)) (.block bid (.seq (.region r2 opsE false) c))))))) Pre Qs:=by
 intro ρ σ hp hn hb g ow a w hH hR
 obtain ⟨k,ρ1,σ1,id,es,hx,hez,hσ,J,Qf,hj0,hJ,round,last,hfin⟩:=h ρ σ hp hn hb
 obtain ⟨b1,b2,b3⟩:=rangeOp_some hBo
 have hsz:opsB.size=lB.length+1:=by rw [←Array.length_toList,hB]; simp
 have hB0:opsB[lB.length]?=some oB:=by rw [←Array.getElem?_toList,hB]; simp
 have hl1:=runOps_len hx
 refine wpIn_seq (wpIn_region ?_)
 have hrange:List.range opsB.size=(List.range lB.length).map (0+·)++[lB.length]:=by rw [hsz,List.range_succ]; simp
 rw [hrange]
 refine ops_ahead (ds:=a.defers) (eval_sound hT k) _ lB osB 0 ρ σ g ow a w (fun j hj=>by rw [←Array.getElem?_toList,hB,Nat.zero_add,zqA hj]) hosB hx hH hb hR rfl fun g1 ow1 a1 w1 k1 k2 k3 k4=>?_
 simp only [wpOpsIn,hB0,Region.wanted,b3,if_true]
 refine ⟨fun _ _=>trivial,?_⟩
 show oB.uponIn (rnd none) 0 P a1 _ _ ((oB.semAt none a1.eval).run P w1)
 have hv:=ev_VR k1 hz
 rw [hez] at hv
 generalize hcx:a1.eval xo=cv at hv
 cases hv with
 | @map _ b c' hφ=>
  obtain ⟨esC,clock,m1,m2,m3,m4,m5,m6,m7⟩:MapAt g1 ow1 id b es w1:=k3.bd id (.mp es) rfl hσ b c' hφ
  have hrun:(execOp a1.eval oB).run P w1=.ok (.value (.pointer (some ⟨w1.heap.size,0,none⟩))) (w1.alloc (.mapIter (some b) clock #[] clock)):=by
   unfold execOp; rw [b1]; simp only [hcx,Sem.run_bind,run_range_map w1 t kt et b esC clock ht m1,Result.andThen_ok,Sem.run_pure]
  rw [Oper.semAt_none,hrun,Oper.uponIn_value]
  obtain ⟨ow2,o1,o2,hH2,hS2⟩:=k3.alloc0 (bs:=bs) (.mapIter (some b) clock #[] clock)
  have hlt:w1.heap.size<(w1.alloc (.mapIter (some b) clock #[] clock)).heap.size:=by show w1.heap.size<(w1.heap.push _).size; simp
  obtain ⟨hH3,hS3⟩:=hH2.dead (bs:=bs) hlt
  have hck:clock=es.length:=m6.trans m2
  have hpt:(g1.put σ1.length w1.heap.size 0).φ σ1.length=some (w1.heap.size,0):=by simp [Gh.put]
  have hSall:=(k4.trans hS2).trans hS3
  have hR3:RR (g1.put σ1.length w1.heap.size 0) (ρ1.set it (.ptr σ1.length 0)) (a1.put oB.dst (.pointer (some ⟨w1.heap.size,0,none⟩))).tmps:=by
   have:=put_RR (a:=a1) (dst:=oB.dst) ((k1.mono hS2.gle).mono hS3.gle) (x:=.ptr σ1.length 0) (c:=.pointer (some ⟨w1.heap.size,0,none⟩)) (.ptr hpt)
   rw [b2] at this ⊢; exact this
  have hit:IterAt (g1.put σ1.length w1.heap.size 0) ow2 (w1.alloc (.mapIter (some b) clock #[] clock)) id σ1.length es.length [] w1.heap.size:=
   ⟨b,c',0,hS3.gle.φ _ _ (hS2.gle.φ _ _ hφ),hpt,o2,by rw [←hck]; exact World.alloc_heap_new _ _⟩
  have hrounds:=map_loop (mt:=mt) (nt:=nt) (r1:=r1) (r2:=r2) (bo:=bo) hT hN hNo hN2 hE hEo hos2 hac hbid hi1 hi2 hnt (J:=J) (Qf:=Qf) (id:=id) (jt:=σ1.length) (n:=es.length) (N:=ρ.length) hJ round last hH (ds:=a.defers) (r:=w1.heap.size) k4.size
   ((lf es.length []).length+1) [] _ _ _ ow2 (a1.put oB.dst (.pointer (some ⟨w1.heap.size,0,none⟩))) _ [] hj0 (Nat.lt_succ_self _) hH3 hR3 hit hSall (by rw [put_defers,k2]; rfl) .nil
  show (Code.block bo _).wpIn (rnd none) 0 P _ _ _
  refine wpIn_block (wpIn_mono (wpIn_loop_rounds _ hrounds) ?_)
  rintro e a' w' ⟨rfl,ρ',σ',hq,hlen,hpost⟩
  simp only [Exit.inBlock,if_true]
  exact ⟨(.normal,ρ',σ'),hfin _ _ hq,hlen,hpost⟩
theorem prim_gc (hT : TabOK P T) {f : Nat} {fn : Func} {c : Code} {rs : List ARes} (hfn : P.funcs[f]? = some fn) (hbody : fn.body = some c) (hname : (fn.name == "runtime.NumGoroutine") = false) (hrs : fn.results.toList.mapM (compRes P) = some rs)
  {args:List AV} {σ:Heap} {v:AV} {σ':Heap} (h:HT P σ.length fn.ntmps c (fun ρ τ=>ρ=args++List.replicate (fn.ntmps - args.length) .undef∧τ=σ) (fun r=>finA ⟨fn.ntmps,rs,.skip,.gc,false,true⟩ σ.length r=some (v,σ')))
  {bs:Nat} (hbs:bs≤σ.length):Enters P f∧∀ g ow w cargs,HR g ow σ w→Args g args cargs→Calls P f cargs w (CallPost bs g ow σ w v σ'):=by
 refine ⟨⟨fn,hfn,by rw [hbody]; rfl,hname⟩,fun g ow w cargs hH hA=>calls_end hfn hbody ?_⟩
 have hwp:=h _ _ ⟨rfl,rfl⟩ (by simp only [zqJ,List.length_replicate]; omega) (Nat.le_refl _) g ow {tmps:=cargs++Array.replicate (fn.ntmps - cargs.size) undef,defers:=[]} w hH (start_RR hA.VRs _)
 refine wpIn_mono hwp ?_
 rintro ex a' w1 ⟨⟨e,ρ,σb⟩,hfin,hl,⟨he,g',ow',Ds,hR',hd',hD',hH1,hS1⟩⟩
 simp only at he hR' hH1 hS1
 obtain ⟨hH',hS'⟩:=HR.shut hH Ds hD' hH1 hS1
 obtain ⟨w',hw'⟩:∃ w',shut Ds w1=w':=⟨_,rfl⟩
 rw [hw'] at hH' hS'
 have hgo:∀ {e'},finA ⟨fn.ntmps,rs,.skip,.gc,false,true⟩ σ.length (e',ρ,σb)=some (v,σ')→(∀ id,e'≠.exit id) →
   ∃ cv,(results fn a'.tmps).run P w'=.ok cv w'∧CallPost bs g ow σ w v σ' (.returned cv) w':=by
  intro e' hf hne
  have hf':((resA ρ σb rs).bind fun vs=>(closeRes true σb (res1 vs)).bind (dropA .gc σ.length))=some (v,σ'):=by
   cases e' with
   | exit id=>exact absurd rfl (hne id)
   | normal=>exact hf
   | ret=>exact hf
  obtain ⟨vs,hvs,hf'⟩:=zqH.1 hf'
  obtain ⟨⟨u,σc⟩,hcr,hdr⟩:=zqH.1 hf'
  obtain ⟨cv,hrun,hV⟩:=results_sound hH' hR' hrs hvs
  refine ⟨cv,hrun,?_⟩
  obtain ⟨gc,⟨hHc,hSc,hlc⟩,hVc⟩:=closeR_sound (bs:=σ.length) hH' hV hcr
  have hS2:=hS'.trans hSc
  unfold dropA at hdr
  simp only at hdr
  split at hdr
  ·rename_i hlt
   injection hdr with hdr; injection hdr with e1 e2; subst e1 e2
   obtain ⟨hHd,hSd⟩:=hH.gc hS2 hHc
   exact ⟨cv,_,ow',rfl,refLt_VR hVc hlt,hHd,hSd.base hbs⟩
  ·cases hdr
 cases e with
 | exit id=>simp [finA] at hfin
 | normal=>
  simp only [toExit] at he; subst he
  obtain ⟨cv,hc1,hc2⟩:=hgo hfin (fun id h=>by cases h)
  simp only [List.append_nil] at hd'
  show LeavesInM Fence.wide 0 P fn a'.tmps _ a'.defers .returning w1
  rw [hd']
  exact leaves_all Ds w1 hD'.nd (fun D hD=>(hD'.pt D hD).2.2) ⟨cv,by rw [hw']; exact hc1,by rw [hw']; exact hc2⟩
 | ret=>
  simp only [toExit] at he; subst he
  obtain ⟨cv,hc1,hc2⟩:=hgo hfin (fun id h=>by cases h)
  simp only [List.append_nil] at hd'
  show LeavesInM Fence.wide 0 P fn a'.tmps _ a'.defers .returning w1
  rw [hd']
  exact leaves_all Ds w1 hD'.nd (fun D hD=>(hD'.pt D hD).2.2) ⟨cv,by rw [hw']; exact hc1,by rw [hw']; exact hc2⟩
def Tab.more (T:Tab) (q:Nat→Option (List AV→Nat→Heap→Option (AV × Heap))):Tab:={T with pr:=fun f=>(T.pr f).or (q f)}
theorem more_le {q:Nat→Option (List AV→Nat→Heap→Option (AV × Heap))} (hq:∀ f p,q f=some p→T.pr f=none→T.fn f=none∧f≠yno):∀ k,CallLe (evalFn T k) (evalFn (T.more q) k)
 | 0=>fun f args bs σ r h=>by simp [evalFn] at h
 | k+1=>fun f args bs σ=>by
  have ih:=more_le hq k
  show LeO (evalFn T (k+1) f args bs σ) (evalFn (T.more q) (k+1) f args bs σ)
  cases hp:T.pr f with
  | some p=>
   have:(T.more q).pr f=some p:=by simp [Tab.more,hp]
   simp only [evalFn,hp,this]; exact LeO.refl _
  | none=>
   cases hqf:q f with
   | some p=>
    obtain ⟨h1,h2⟩:=hq f p hqf hp
    simp only [evalFn,hp,h1,if_neg h2]
    exact fun r hr=>by cases hr
   | none=>
    have h3:(T.more q).pr f=none:=by simp [Tab.more,hp,hqf]
    have h4:(T.more q).fn=T.fn:=rfl
    have h5:(T.more q).rd=T.rd:=rfl
    simp only [evalFn,hp,h3,h4,h5]
    cases hf:T.fn f with
    | none=>
     simp only
     split
     ·exact roundA_mono (fun c ρ σ=>exec_mono ih (Nat.le_refl k) bs c ρ σ) args σ
     ·exact LeO.refl _
    | some af=>
     simp only
     split
     ·refine (LeO.refl _).bind fun r=>?_
      split
      ·exact LeO.map _ (LeO.bind (exec_mono ih (Nat.le_refl k) _ _ _ _) fun x=>LeO.refl _)
      ·exact LeO.refl _
     ·exact (LeO.refl _).bind fun r=>LeO.bind (exec_mono ih (Nat.le_refl k) _ _ _ _) fun x=>LeO.refl _
theorem more_call {q:Nat→Option (List AV→Nat→Heap→Option (AV × Heap))} (hq:∀ f p,q f=some p→T.pr f=none→T.fn f=none∧f≠yno) {f:Nat} {args:List AV} {bs:Nat} {σ:Heap} {r:AV × Heap} (h:callT T f args bs σ=some r):callT (T.more q) f args bs σ=some r:=by
 obtain ⟨k,hk⟩:=lim_some h
 exact lim_eq (evalFn_M ..) (more_le hq k _ _ _ _ _ hk)
theorem more_ok {q:Nat→Option (List AV→Nat→Heap→Option (AV × Heap))} (hT:TabOK P T) (hy:q yno=none) (hq:∀ f p,q f=some p→PrimOK P f p):TabOK P (T.more q) where
 mixed:=hT.mixed
 fn:=hT.fn
 pr f p h:=by
  simp only [Tab.more] at h
  cases hp:T.pr f with
  | some p'=>rw [hp] at h; simp at h; subst h; exact hT.pr f _ hp
  | none=>rw [hp] at h; simp at h; exact hq f p h
 yn:=⟨by simp [Tab.more,hT.yn.1,hy],hT.yn.2⟩
 rd:=hT.rd
end
end Go.Mach
end
section
namespace Go.Mach
open Go.RowKit
structure MC where
 osB:List AOper
 z:AX
 it:Nat
 tN:Nat
 tM:Nat
 tE:Nat
 bid:Nat
 os2:List AOper
 ac:ACode
structure MPt where
 rb:Nat
 r1:Nat
 r2:Nat
 bid:Nat
 bo:Nat
 tM:Nat
 opsB:Array Oper
 opsN:Array Oper
 opsE:Array Oper
 c:Code
def mpt:Code→Option MPt
 | .seq (.region rb opsB false) (.block bo (.loop (.seq (.region r1 opsN false) (.seq (.cond (.tmp tM) .skip (.exit bo')) (.block bid (.seq (.region r2 opsE false) c))))))=>
  if bo=bo' then some ⟨rb,r1,r2,bid,bo,tM,opsB,opsN,opsE,c⟩ else none
 | _=>none
theorem mpt_some {x:Code} {m:MPt} (h:mpt x=some m):x=.seq (.region m.rb m.opsB false) (.block m.bo (.loop (.seq (.region m.r1 m.opsN false) (.seq (.cond (.tmp m.tM) .skip (.exit m.bo)) (.block m.bid (.seq (.region m.r2 m.opsE false) m.c)))))):=by
 unfold mpt at h
 split at h
 ·split at h
  ·rename_i e; subst e; injection h with h; subst h; rfl
  ·cases h
 ·cases h
def moreOp (tN:Nat) (l:List AOper):Option Nat:=match l with
 | [⟨some tM,.extract 0 (.t t),none,[]⟩]=>if t=tN then some tM else none
 | _=>none
theorem moreOp_some {tN tM:Nat} {l:List AOper} (h:moreOp tN l=some tM):l=[⟨some tM,.extract 0 (.t tN),none,[]⟩]:=by
 unfold moreOp at h
 split at h
 ·split at h
  ·rename_i e; subst e; injection h with h; subst h; rfl
  ·cases h
 ·cases h
def two (l:List Oper):Option (Oper × Oper):=match l with
 | [a,b]=>some (a,b)
 | _=>none
def uncons (l:List Oper):Option (Oper × List Oper):=match l with
 | a :: l=>some (a,l)
 | _=>none
def mapOfT (P:Program) (t:TypeId):Bool:=match P.underlying t with
 | some (.map _ _)=>true
 | _=>false
def mc (P:Program) (mt:Array Oper→Bool) (nt:Nat) (x:Code):Option MC:=
 (mpt x).bind fun m=>(m.opsB.toList.getLast?).bind fun oB=>(m.opsB.toList.dropLast.mapM (compOper P (mt m.opsB) m.opsB)).bind fun osB=>(rangeOp oB).bind fun r=>(cx r.2.1).bind fun z=>
 (two m.opsN.toList).bind fun nn=>(stepOf nn.1).bind fun s=>([nn.2].mapM (compOper P (mt m.opsN) m.opsN)).bind fun osN=>(moreOp s.2 osN).bind fun tM=>
 (uncons m.opsE.toList).bind fun e=>(entryOp e.1).bind fun q=>(e.2.mapM (compOper P (mt m.opsE) m.opsE)).bind fun os2=>(compC P mt nt m.c).bind fun ac=>
 if mapOfT P r.1=true∧s.1=r.2.2∧q.1=r.2.2∧tM=m.tM∧m.bid<gno∧r.2.2≠s.2∧r.2.2≠tM∧s.2<nt∧tM<nt∧r.2.2<nt then some ⟨osB,z,r.2.2,s.2,tM,q.2,m.bid,os2,ac⟩ else none
section
variable {P:Program} {mt:Array Oper→Bool} {nt bs:Nat} {T:Tab}
theorem HT.mapc (hT:TabOK P T) {x:Code} {m:MC} (hm:mc P mt nt x=some m) {Pre:Regs→Heap→Prop} {Qs:St3→Prop}
  (h:∀ ρ σ,Pre ρ σ→nt≤ρ.length→bs≤σ.length→∃ k ρ1 σ1 id es,runOps (evalFn T k) bs m.osB ρ σ=some (ρ1,σ1)∧ev ρ1 m.z=.map id∧σ1[id]?=some (.mp es)∧∃ (J:List Nat→Regs→Heap→Prop) (Qf:Regs→Heap→Prop),J [] (ρ1.set m.it (.ptr σ1.length 0)) (σ1++[.dead]) ∧
   (∀ dn ρ' σ',J dn ρ' σ'→(∃ es',σ'[id]?=some (.mp es')∧es'.length=es.length)∧ρ'.getD m.it .undef=.ptr σ1.length 0∧nt≤ρ'.length∧ρ'.length=ρ.length∧bs≤σ'.length) ∧
   (∀ dn ρ' σ' i kk vv es',J dn ρ' σ'→i<es.length→i ∉ dn→σ'[id]?=some (.mp es')→es'[i]?=some (kk,vv)→∃ k ρ2 σ2,exec (evalFn T k) k bs (.block m.bid (.seq (.region (mvO m.tE (.tup [kk,vv]) :: m.os2)) m.ac)) ((ρ'.set m.tN (.tup [.bool true,kk,vv])).set m.tM (.bool true)) σ'=some (.normal,ρ2,σ2)∧J (dn++[i]) ρ2 σ2) ∧
   (∀ dn ρ' σ',J dn ρ' σ'→(∀ i,i<es.length→i∈dn)→Qf ((ρ'.set m.tN (.tup [.bool false])).set m.tM (.bool false)) σ')∧∀ ρ' σ',Qf ρ' σ'→Qs (.normal,ρ',σ')) :
  HT P bs nt x Pre Qs:=by
 unfold mc at hm
 obtain ⟨p,hp,hm⟩:=zqH.1 hm
 obtain ⟨oB,hoB,hm⟩:=zqH.1 hm
 obtain ⟨osB,hosB,hm⟩:=zqH.1 hm
 obtain ⟨⟨t,xo,it⟩,hr,hm⟩:=zqH.1 hm
 obtain ⟨z,hz,hm⟩:=zqH.1 hm
 obtain ⟨⟨oN,oN2⟩,hnn,hm⟩:=zqH.1 hm
 obtain ⟨⟨it2,tN⟩,hs,hm⟩:=zqH.1 hm
 obtain ⟨osN,hosN,hm⟩:=zqH.1 hm
 obtain ⟨tM,htM,hm⟩:=zqH.1 hm
 obtain ⟨⟨oE,lE⟩,he,hm⟩:=zqH.1 hm
 obtain ⟨⟨it3,tE⟩,hq,hm⟩:=zqH.1 hm
 obtain ⟨os2,hos2,hm⟩:=zqH.1 hm
 obtain ⟨ac,hac,hm⟩:=zqH.1 hm
 simp only at hm hz hs hosN htM hq hos2
 split at hm
 ·rename_i hc
  obtain ⟨c1,rfl,rfl,rfl,c5,c6,c7,c8,c9,c10⟩:=hc
  injection hm with hm; subst hm
  have hx:=mpt_some hp
  have hlast:p.opsB.toList=p.opsB.toList.dropLast++[oB]:=by
   have hne:p.opsB.toList≠[]:=fun e=>by rw [e] at hoB; cases hoB
   rw [List.getLast?_eq_some_getLast hne] at hoB; injection hoB with hoB
   rw [←hoB,List.dropLast_concat_getLast]
  have hN:p.opsN.toList=[oN,oN2]:=by
   unfold two at hnn; split at hnn
   ·rename_i a b e; injection hnn with hnn; injection hnn with e1 e2; subst e1 e2; exact e
   ·cases hnn
  have hE:p.opsE.toList=oE :: lE:=by
   unfold uncons at he; split at he
   ·rename_i a b e; injection he with he; injection he with e1 e2; subst e1 e2; exact e
   ·cases he
  have hut:∃ kt et,P.underlying t=some (.map kt et):=by
   unfold mapOfT at c1; split at c1
   ·rename_i kt et e; exact ⟨kt,et,e⟩
   ·cases c1
  obtain ⟨kt,et,hut⟩:=hut
  have htm:=moreOp_some htM
  subst htm
  rw [hx]
  exact HT.mapr hT hlast hosB hr hz hut hN hs hosN hE hq hos2 hac c5 c6 c7 ⟨c8,c9,c10⟩ h
 ·cases hm
end
end Go.Mach
end
section
namespace Go.Mach
open Go.RowKit
section
variable {P:Program} {mt:Array Oper→Bool} {nt bs:Nat} {T:Tab}
def HF (P:Program) (bs nt:Nat) (c:Code) (Pre:FR→Heap→Prop) (Qs:AExit→FR→Heap→Prop):Prop:=
 HT P bs nt c (fun ρ σ=>∃ f,ρ=lst nt f∧Pre f σ) (fun r=>∃ f',r.2.1=lst nt f'∧Qs r.1 f' r.2.2)
theorem wpC_k {c:ACode} {f:FR} {σ:Heap} {Q:AExit→FR→Heap→Prop} (h:wpK T bs nt [.code c] f σ Q):∃ k e f' σ',exec (evalFn T k) k bs c (lst nt f) σ=some (e,lst nt f',σ')∧Q e f' σ':=by
 obtain ⟨e,f',σ',hx,hq⟩:=wpC_sound T bs nt h
 obtain ⟨k,hk⟩:=lim_some hx
 exact ⟨k,e,f',σ',hk,hq⟩
theorem HF.det (hT:TabOK P T) {c:Code} {ac:ACode} (hc:compC P mt nt c=some ac) {Pre:FR→Heap→Prop} {Qs:AExit→FR→Heap→Prop} (h:∀ f σ,Pre f σ→wpK T bs nt [.code ac] f σ Qs):HF P bs nt c Pre Qs:=
 HT.det hT hc fun ρ σ ⟨f,hρ,hp⟩=>by
  subst hρ
  obtain ⟨k,e,f',σ',hx,hq⟩:=wpC_k (h f σ hp)
  exact ⟨k,_,hx,f',rfl,hq⟩
theorem HF.seq {x y:Code} {Pre:FR→Heap→Prop} {Mid Qs:AExit→FR→Heap→Prop} (hx:HF P bs nt x Pre Mid) (hy:HF P bs nt y (Mid .normal) Qs) (ho:∀ e f σ,Mid e f σ→e≠.normal→Qs e f σ):HF P bs nt (.seq x y) Pre Qs:=by
 refine HT.seq hx ?_ ?_
 ·intro ρ σ hm
  obtain ⟨f,hf,hm⟩:=hm
  exact hy ρ σ ⟨f,hf,hm⟩
 ·rintro r ⟨f,hf,hm⟩ hne
  exact ⟨f,hf,ho _ _ _ hm hne⟩
theorem HF.mapc (hT:TabOK P T) {x:Code} {m:MC} (hm:mc P mt nt x=some m) (hit:m.it<nt) {Pre:FR→Heap→Prop} {Qs:AExit→FR→Heap→Prop}
  (h:∀ f σ,Pre f σ→bs≤σ.length→wpK T bs nt [.code (.region m.osB)] f σ (fun e f1 σ1=>e=.normal∧∃ id es,evF nt f1 m.z=.map id∧σ1[id]?=some (.mp es)∧∃ (J:List Nat→FR→Heap→Prop) (Qf:FR→Heap→Prop),J [] (upF f1 m.it (.ptr σ1.length 0)) (σ1++[.dead]) ∧
   (∀ dn f' σ',J dn f' σ'→(∃ es',σ'[id]?=some (.mp es')∧es'.length=es.length)∧f' m.it=.ptr σ1.length 0∧bs≤σ'.length) ∧
   (∀ dn f' σ' i kk vv es',J dn f' σ'→i<es.length→i ∉ dn→σ'[id]?=some (.mp es')→es'[i]?=some (kk,vv)→wpK T bs nt [.code (.block m.bid (.seq (.region (mvO m.tE (.tup [kk,vv]) :: m.os2)) m.ac))] (upF (upF f' m.tN (.tup [.bool true,kk,vv])) m.tM (.bool true)) σ' (fun e f2 σ2=>e=.normal∧J (dn++[i]) f2 σ2)) ∧
   (∀ dn f' σ',J dn f' σ'→(∀ i,i<es.length→i∈dn)→Qf (upF (upF f' m.tN (.tup [.bool false])) m.tM (.bool false)) σ')∧∀ f' σ',Qf f' σ'→Qs .normal f' σ')) :
  HF P bs nt x Pre Qs:=by
 refine HT.mapc hT hm fun ρ σ hp _ hb=>?_
 obtain ⟨f,rfl,hp⟩:=hp
 obtain ⟨k,e,f1,σ1,hx,rfl,id,es,hz,hσ,J,Qf,j0,hJ,round,last,hfin⟩:=wpC_k (h f σ hp hb)
 simp only [exec] at hx
 obtain ⟨⟨ρ2,σ2⟩,hx2,e2⟩:=zqG.1 hx
 injection e2 with e3 e4; injection e4 with e4 e5
 simp only at e4 e5; subst e4 e5
 refine ⟨k,_,_,id,es,hx2,by rw [ev_lst]; exact hz,hσ,fun dn ρ' σ'=>∃ f',ρ'=lst nt f'∧J dn f' σ',fun ρ' σ'=>∃ f',ρ'=lst nt f'∧Qf f' σ',⟨_,lst_set ..,j0⟩,?_,?_,?_,?_⟩
 ·rintro dn ρ' σ' ⟨f',rfl,hj⟩
  obtain ⟨a1,a2,a3⟩:=hJ dn f' σ' hj
  exact ⟨a1,by rw [lst_getD,if_pos hit]; exact a2,by rw [lst_length]; exact Nat.le_refl _,by rw [lst_length,lst_length],a3⟩
 ·rintro dn ρ' σ' i kk vv es' ⟨f',rfl,hj⟩ hi hid hσ' hkv
  obtain ⟨k,e,f2,σ2,hx,rfl,hj2⟩:=wpC_k (round dn f' σ' i kk vv es' hj hi hid hσ' hkv)
  rw [←lst_set,←lst_set] at hx
  exact ⟨k,_,_,hx,f2,rfl,hj2⟩
 ·rintro dn ρ' σ' ⟨f',rfl,hj⟩ hall
  exact ⟨_,by rw [lst_set,lst_set],last dn f' σ' hj hall⟩
 ·rintro ρ' σ' ⟨f',rfl,hq⟩
  exact ⟨f',rfl,hfin _ _ hq⟩
theorem prim_hf (hT : TabOK P T) {f : Nat} {fn : Func} {c : Code} {rs : List ARes} (hfn : P.funcs[f]? = some fn) (hbody : fn.body = some c) (hname : (fn.name == "runtime.NumGoroutine") = false) (hrs : fn.results.toList.mapM (compRes P) = some rs)
  {args:List AV} (hl:args.length≤fn.ntmps) {σ:Heap} {v:AV} {σ':Heap} (h:HF P σ.length fn.ntmps c (fun f τ=>f=argF args∧τ=σ) (endR fn.ntmps rs true .gc σ.length (v,σ')))
  {bs:Nat} (hbs:bs≤σ.length):Enters P f∧∀ g ow w cargs,HR g ow σ w→Args g args cargs→Calls P f cargs w (CallPost bs g ow σ w v σ'):=by
 refine prim_gc hT hfn hbody hname hrs ?_ hbs
 rintro ρ τ ⟨rfl,rfl⟩ hn hb g ow a w hH hR
 have hst:args++List.replicate (fn.ntmps - args.length) AV.undef=lst fn.ntmps (argF args):=startA_lst (af:=⟨fn.ntmps,rs,.skip,.gc,false,true⟩) hl
 refine wpIn_mono (h _ _ ⟨argF args,hst,rfl,rfl⟩ hn hb g ow a w hH hR) ?_
 rintro e a' w' ⟨⟨e1,ρ1,σ1⟩,⟨f',rfl,hq⟩,hlen,hpost⟩
 refine ⟨_,?_,hlen,hpost⟩
 cases e1 with
 | exit id=>exact hq.elim
 | normal=>simp only [finA,resA_lst]; exact hq
 | ret=>simp only [finA,resA_lst]; exact hq
end
end Go.Mach
end
section
namespace Go.Proofs.Ytkfiepnkedcmgaa
open Go.Mach
abbrev oO (d:Nat)(x:AOp):AOper:=⟨some d,x,none,[]⟩
abbrev oU (x:AOp):AOper:=⟨none,x,none,[]⟩
abbrev oM (d x:Nat):AOper:=⟨some d,.mv (.t x),none,[]⟩
abbrev oF (d i x:Nat):AOper:=⟨some d,.faddr i (.t x),none,[]⟩
abbrev oL (d i x:Nat):AOper:=⟨some d,.load i false (.t x),none,[]⟩
abbrev oR (d i x:Nat):AOper:=⟨some d,.load i true (.t x),none,[]⟩
abbrev oX (d i x:Nat):AOper:=⟨some d,.extract i (.t x),none,[]⟩
abbrev oG (d:Nat)(x:AOp)(a:Nat)(b:Bool):AOper:=⟨some d,x,some (a,b),[]⟩
abbrev nI (n:Int):AX:=.c (.int .i64 n)
abbrev oS:AV:=.str ⟨#[]⟩
abbrev oZ:AV:=.int .i64 0
abbrev oN:AV:=.isl [] true
abbrev qR (o:List AOper)(c:ACode):ACode:=.seq (.region o) c
abbrev pP:Pol:={mt:=false,mtAt:=[],mode:=.pure,clArgs:=true,clRes:=true}
abbrev pG:Pol:={mt:=false,mtAt:=[],mode:=.gc,clArgs:=false,clRes:=false}
def c3:AFunc:=⟨89,[.tmp 2],qR [oO 2 (.mv (.c (.bool false)))] (qR [oO 13 (.call 8 []),oM 3 13] (qR [oO 14 (.call 9 [.c (.str ⟨#[98]⟩)]),oM 4 14] (.seq (qR [oM 15 3,oO 16 (.un .not (.t 15)),oM 17 16,oG 18 (.mv (.t 4)) 17 false,oG 19 (.eqp false (.t 18)) 17 false,oO 20 (.pick (.t 17) (.c (.bool true)) (.t 19))] (.cond (.t 20) (qR [oO 2 (.mv (.c (.bool false)))] .ret) .skip)) (qR [oO 21 (.buildSl 3 1 false [oZ,oZ,oZ] [(0,1,nI (-1)),(1,1,nI (-1)),(2,1,nI (-1))]),oM 5 21] (.seq (qR [oO 6 (.mv (nI 0))] (.block 0 (.loop (.seq (qR [oM 22 6,oM 23 0,oO 24 (.len false (.t 23)),oO 25 (.bin .lss (.t 22) (.t 24)),oM 26 25,oG 27 (.mv (.t 6)) 26 true,oG 28 (.bin .lss (.t 27) (nI 20)) 26 true,oO 29 (.pick (.t 26) (.t 28) (.c (.bool false)))] (.cond (.t 29) .skip (.exit 0))) (.seq (.block 1 (qR [oM 32 0,oM 33 6,oO 34 (.iaddrS 4 (.t 32) (.t 33)),oR 35 4 34,oO 36 (.call 10 [.t 35]),oO 7 (.alloc [oS,oS,oZ,oZ,oN]),oU (.store 5 (.t 7) (.t 36))] (qR [oM 37 0,oM 38 6,oO 39 (.iaddrS 4 (.t 37) (.t 38)),oF 40 0 39,oL 41 1 40,oO 42 (.call 11 [.t 41,nI 3]),oM 8 42] (qR [oF 43 2 7,oL 44 1 43,oO 45 (.bin .mul (nI 10) (.t 44)),oF 46 3 7,oL 47 1 46,oO 48 (.bin .add (.t 45) (.t 47)),oM 9 48] (.seq (qR [oM 49 4,oR 50 5 7,oM 52 9,oM 53 5,oM 54 8,oO 55 (.iaddrS 1 (.t 53) (.t 54)),oL 56 1 55,oO 57 (.bin .gtr (.t 52) (.t 56)),⟨(some 51),.call 12 [.t 49,.t 50],none,[.t 55]⟩,oO 58 (.eqb true (.t 51) (.t 57))] (.cond (.t 58) (qR [oO 2 (.mv (.c (.bool false)))] .ret) .skip)) (qR [oM 59 5,oM 60 8,oM 61 5,oM 62 8,oO 63 (.iaddrS 1 (.t 61) (.t 62)),oL 64 1 63,oM 65 9,oO 66 (.max [.t 64,.t 65]),oO 67 (.iaddrS 1 (.t 59) (.t 60)),oU (.store 1 (.t 67) (.t 66))] (qR [oM 69 4,oF 70 0 7,oL 71 1 70,oO 72 (.call 13 [.t 69,.t 71]),oM 68 72,oX 73 0 68,oX 74 1 68,oX 75 2 68,oM 10 73,oM 11 74,oM 12 75] (qR [oM 76 12,oO 77 (.un .not (.t 76)),oM 78 77,oG 79 (.mv (.t 10)) 78 false,oG 80 (.bin .mul (nI 10) (.t 79)) 78 false,oG 81 (.mv (.t 11)) 78 false,oG 82 (.bin .add (.t 80) (.t 81)) 78 false,oG 83 (.mv (.t 5)) 78 false,oG 84 (.mv (.t 8)) 78 false,oG 85 (.iaddrS 1 (.t 83) (.t 84)) 78 false,oG 86 (.load 1 false (.t 85)) 78 false,oG 87 (.bin .neq (.t 82) (.t 86)) 78 false,oO 88 (.pick (.t 78) (.c (.bool true)) (.t 87))] (.cond (.t 88) (qR [oO 2 (.mv (.c (.bool false)))] .ret) .skip))))))))) (.region [oM 30 6,oO 31 (.bin .add (.t 30) (nI 1)),oM 6 31])))))) (qR [oO 2 (.mv (.c (.bool true)))] .ret)))))),.pure,true,true⟩
theorem k3:compF Try.prog pP Try.f3=some c3:=by kernel_rfl
def c4:AFunc:=⟨77,[.tmp 4],qR [oO 3 (.box (.t 1)),oO 4 (.mv (.c (.bool false)))] (qR [oO 12 (.call 8 []),oM 5 12] (qR [oO 13 (.call 9 [.c (.str ⟨#[98]⟩)]),oM 6 13] (.seq (qR [oM 14 5,oO 15 (.un .not (.t 14)),oM 16 15,oG 17 (.mv (.t 6)) 16 false,oG 18 (.eqp false (.t 17)) 16 false,oO 19 (.pick (.t 16) (.c (.bool true)) (.t 18))] (.cond (.t 19) (qR [oO 4 (.mv (.c (.bool false)))] .ret) .skip)) (.seq (qR [oO 7 (.mv (nI 0))] (.block 0 (.loop (.seq (qR [oM 20 7,oM 21 0,oO 22 (.len false (.t 21)),oO 23 (.bin .lss (.t 20) (.t 22)),oM 24 23,oG 25 (.mv (.t 7)) 24 true,oG 26 (.bin .lss (.t 25) (nI 10)) 24 true,oO 27 (.pick (.t 24) (.t 26) (.c (.bool false)))] (.cond (.t 27) .skip (.exit 0))) (.seq (.block 1 (.region [oM 30 6,oM 31 0,oM 32 7,oO 33 (.iaddrS 4 (.t 31) (.t 32)),oR 34 4 33,oO 35 (.call 10 [.t 34]),oO 36 (.call 12 [.t 30,.t 35])])) (.region [oM 28 7,oO 29 (.bin .add (.t 28) (nI 1)),oM 7 29])))))) (qR [oM 37 6,oO 38 (.call 14 [.t 37,nI 0]),oM 8 38] (qR [oR 39 4 3,oO 40 (.call 10 [.t 39]),oO 9 (.alloc [oS,oS,oZ,oZ,oN]),oU (.store 5 (.t 9) (.t 40))] (qR [oF 41 2 9,oU (.store 1 (.t 41) (nI 99))] (qR [oR 42 5 9,oO 10 (.alloc [oS,oS,oZ,oZ,oN]),oU (.store 5 (.t 10) (.t 42))] (qR [oF 43 1 10,oU (.store 1 (.t 43) (.c (.str ⟨#[122,122]⟩)))] (qR [oF 44 4 10,oU (.store 1 (.t 44) (.c oN))] (qR [oR 45 5 9,oO 11 (.alloc [oS,oS,oZ,oZ,oN]),oU (.store 5 (.t 11) (.t 45))] (qR [oF 46 4 9,oL 47 1 46,oO 48 (.append 3 true 48 false (.c oN) (.t 47)),oO 49 (.build [oS,oN,oZ] [(0,1,.c (.str ⟨#[65]⟩))]),oO 50 (.buildSl 1 3 true [oS,oN,oZ] [(0,3,.t 49)]),oO 51 (.append 3 true 48 false (.t 48) (.t 50)),oF 52 4 11,oU (.store 1 (.t 52) (.t 51))] (.seq (qR [oM 53 6,oR 54 5 10,oO 55 (.call 12 [.t 53,.t 54]),oM 56 55,oG 57 (.mv (.t 6)) 56 false,oG 58 (.load 5 true (.t 11)) 56 false,oG 59 (.call 12 [.t 57,.t 58]) 56 false,oO 60 (.pick (.t 56) (.c (.bool true)) (.t 59)),oM 61 60,oG 62 (.mv (.t 6)) 61 false,oG 63 (.call 14 [.t 62,nI 0]) 61 false,oG 64 (.mv (.t 8)) 61 false,oG 65 (.call 15 [.t 63,.t 64]) 61 false,oG 66 (.un .not (.t 65)) 61 false,oO 67 (.pick (.t 61) (.c (.bool true)) (.t 66))] (.cond (.t 67) (qR [oO 4 (.mv (.c (.bool false)))] .ret) .skip)) (qR [oM 68 6,oR 69 5 9,oO 70 (.call 12 [.t 68,.t 69]),oM 71 70,oG 72 (.mv (.t 6)) 71 true,oG 73 (.load 5 true (.t 9)) 71 true,oG 74 (.call 12 [.t 72,.t 73]) 71 true,oG 75 (.un .not (.t 74)) 71 true,oO 76 (.pick (.t 71) (.t 75) (.c (.bool false))),oM 4 76] .ret)))))))))))))),.pure,true,true⟩
theorem k4:compF Try.prog pP Try.f4=some c4:=by kernel_rfl
def c5:AFunc:=⟨139,[.tmp 8],qR [oO 5 (.box (.t 1)),oO 8 (.mv (.c (.bool false)))] (qR [oO 23 (.call 8 []),oM 9 23] (.seq (qR [oM 24 0,oO 25 (.call 9 [.t 24]),oO 26 (.eqp false (.t 25)),oM 27 0,oO 28 (.call 16 [.t 27]),oO 29 (.eqp false (.t 28)),oO 30 (.eqb true (.t 26) (.t 29))] (.cond (.t 30) (qR [oO 8 (.mv (.c (.bool false)))] .ret) .skip)) (qR [oO 31 (.call 9 [.c (.str ⟨#[98]⟩)]),oM 10 31] (qR [oO 32 (.call 16 [.c (.str ⟨#[98]⟩)]),oM 11 32] (.seq (qR [oM 33 9,oO 34 (.un .not (.t 33)),oM 35 34,oG 36 (.mv (.t 10)) 35 false,oG 37 (.eqp false (.t 36)) 35 false,oO 38 (.pick (.t 35) (.c (.bool true)) (.t 37)),oM 39 38,oG 40 (.mv (.t 10)) 39 false,oG 41 (.load 5 true (.t 5)) 39 false,oG 43 (.mv (.t 11)) 39 false,oG 44 (.load 5 true (.t 5)) 39 false,⟨(some 42),.call 12 [.t 40,.t 41],(some (39,false)),[.t 5]⟩,oG 45 (.call 17 [.t 43,.t 44]) 39 false,oG 46 (.eqb true (.t 42) (.t 45)) 39 false,oO 47 (.pick (.t 39) (.c (.bool true)) (.t 46))] (.cond (.t 47) (qR [oO 8 (.mv (.c (.bool false)))] .ret) .skip)) (.seq (qR [oO 12 (.mv (nI 0))] (.block 0 (.loop (.seq (qR [oM 48 12,oM 49 2,oO 50 (.len false (.t 49)),oO 51 (.bin .lss (.t 48) (.t 50)),oM 52 51,oG 53 (.mv (.t 12)) 52 true,oG 54 (.bin .lss (.t 53) (nI 20)) 52 true,oO 55 (.pick (.t 52) (.t 54) (.c (.bool false)))] (.cond (.t 55) .skip (.exit 0))) (.seq (.block 1 (qR [oM 58 2,oM 59 12,oO 60 (.iaddrS 4 (.t 58) (.t 59)),oR 61 4 60,oO 62 (.call 10 [.t 61]),oO 13 (.alloc [oS,oS,oZ,oZ,oN]),oU (.store 5 (.t 13) (.t 62))] (qR [oO 14 (.mv (nI 0))] (.seq (qR [oM 63 12,oM 64 3,oO 65 (.len false (.t 64)),oO 66 (.bin .lss (.t 63) (.t 65))] (.cond (.t 66) (.region [oM 67 3,oM 68 12,oO 69 (.iaddrS 1 (.t 67) (.t 68)),oL 70 1 69,oO 71 (.call 11 [.t 70,nI 12]),oM 14 71]) .skip)) (.seq (qR [oM 72 10,oR 73 5 13,oM 75 11,oR 76 5 13,⟨(some 74),.call 12 [.t 72,.t 73],none,[.t 13]⟩,oO 77 (.call 17 [.t 75,.t 76]),oO 78 (.eqb true (.t 74) (.t 77)),oM 79 78,oG 80 (.mv (.t 10)) 79 false,oG 81 (.mv (.t 14)) 79 false,oG 83 (.mv (.t 11)) 79 false,oG 84 (.mv (.t 14)) 79 false,oG 82 (.call 14 [.t 80,.t 81]) 79 false,oG 85 (.call 18 [.t 83,.t 84]) 79 false,oG 86 (.call 15 [.t 82,.t 85]) 79 false,oG 87 (.un .not (.t 86)) 79 false,oO 88 (.pick (.t 79) (.c (.bool true)) (.t 87))] (.cond (.t 88) (qR [oO 8 (.mv (.c (.bool false)))] .ret) .skip)) (.seq (qR [oM 89 14,oO 90 (.bin .rem (.t 89) (nI 3)),oO 91 (.bin .eql (.t 90) (nI 2))] (.cond (.t 91) (qR [oM 92 10,oM 93 14,oO 94 (.call 19 [.t 92,.t 93])] (.region [oM 95 11,oM 96 14,oO 97 (.call 20 [.t 95,.t 96])])) .skip)) (qR [oF 98 0 5,oL 99 1 98,oO 100 (.buildSl 4 1 false [oS,oS,oS,oS] [(0,1,.c (.str ⟨#[97]⟩)),(1,1,.c (.str ⟨#[99]⟩)),(2,1,.c (.str ⟨#[100]⟩)),(3,1,.t 99)]),oO 101 (.len false (.t 100)),oO 102 (.mv (nI 0))] (.block 2 (.loop (qR [oO 103 (.bin .lss (.t 102) (.t 101))] (.seq (.cond (.t 103) .skip (.exit 2)) (.seq (.block 3 (qR [oO 104 (.iaddrS 1 (.t 100) (.t 102)),oL 105 1 104,oM 16 105] (qR [oM 107 10,oM 108 16,oO 109 (.call 13 [.t 107,.t 108]),oM 106 109,oX 110 0 106,oX 111 1 106,oX 112 2 106,oM 17 110,oM 18 111,oM 19 112] (qR [oM 114 11,oM 115 16,oO 116 (.call 21 [.t 114,.t 115]),oM 113 116,oX 117 0 113,oX 118 1 113,oX 119 2 113,oM 20 117,oM 21 118,oM 22 119] (qR [oM 120 17,oM 121 20,oO 122 (.bin .neq (.t 120) (.t 121)),oM 123 122,oG 124 (.mv (.t 18)) 123 false,oG 125 (.mv (.t 21)) 123 false,oG 126 (.bin .neq (.t 124) (.t 125)) 123 false,oO 127 (.pick (.t 123) (.c (.bool true)) (.t 126)),oM 128 127,oG 129 (.mv (.t 19)) 128 false,oG 130 (.mv (.t 22)) 128 false,oG 131 (.eqb true (.t 129) (.t 130)) 128 false,oO 132 (.pick (.t 128) (.c (.bool true)) (.t 131))] (.cond (.t 132) (qR [oO 8 (.mv (.c (.bool false)))] .ret) .skip)))))) (.region [oO 133 (.bin .add (.t 102) (nI 1)),oM 102 133]))))))))))))) (.region [oM 56 12,oO 57 (.bin .add (.t 56) (nI 1)),oM 12 57])))))) (qR [oM 134 10,oO 135 (.call 14 [.t 134,nI 0]),oM 136 11,oO 137 (.call 18 [.t 136,nI 0]),oO 138 (.call 15 [.t 135,.t 137]),oM 8 138] .ret))))))),.pure,true,true⟩
theorem k5:compF Try.prog pP Try.f5=some c5:=by kernel_rfl
def c6:AFunc:=⟨145,[.tmp 6],qR [oO 6 (.mv (.c (.bool false)))] (qR [oO 19 (.call 8 []),oM 7 19] (qR [oO 20 (.call 9 [.c (.str ⟨#[98]⟩)]),oM 8 20] (.seq (qR [oM 21 7,oO 22 (.un .not (.t 21)),oM 23 22,oG 24 (.mv (.t 8)) 23 false,oG 25 (.eqp false (.t 24)) 23 false,oO 26 (.pick (.t 23) (.c (.bool true)) (.t 25))] (.cond (.t 26) (qR [oO 6 (.mv (.c (.bool false)))] .ret) .skip)) (qR [oO 9 (.alloc [oS,oS,oZ,oZ,oN,oS,oS,oZ,oZ,oN,oS,oS,oZ,oZ,oN])] (.seq (qR [oO 10 (.mv (nI 0))] (.block 0 (.loop (.seq (qR [oM 27 10,oM 28 0,oO 29 (.len false (.t 28)),oO 30 (.bin .lss (.t 27) (.t 29)),oM 31 30,oG 32 (.mv (.t 10)) 31 true,oG 33 (.bin .lss (.t 32) (nI 20)) 31 true,oO 34 (.pick (.t 31) (.t 33) (.c (.bool false)))] (.cond (.t 34) .skip (.exit 0))) (.seq (.block 1 (qR [oM 37 0,oM 38 10,oO 39 (.iaddrS 4 (.t 37) (.t 38)),oR 40 4 39,oO 41 (.call 10 [.t 40]),oO 11 (.alloc [oS,oS,oZ,oZ,oN]),oU (.store 5 (.t 11) (.t 41))] (qR [oM 42 8,oR 43 5 11,oO 44 (.call 12 [.t 42,.t 43])] (.cond (.t 44) (.region [oM 45 0,oM 46 10,oO 47 (.iaddrS 4 (.t 45) (.t 46)),oF 48 0 47,oL 49 1 48,oR 51 5 11,⟨(some 50),.call 11 [.t 49,.c (.int .i64 3)],none,[.t 11]⟩,oO 52 (.iaddrA 3 5 (.t 9) (.t 50)),oU (.store 5 (.t 52) (.t 51))]) .skip)))) (.region [oM 35 10,oO 36 (.bin .add (.t 35) (nI 1)),oM 10 36])))))) (qR [oM 53 1,oO 54 (.call 11 [.t 53,nI 10]),oM 12 54] (qR [oO 13 (.mv (.c oN))] (qR [oO 14 (.mv (.c oN))] (qR [oM 55 12,oM 56 2,oO 57 (.call 11 [.t 56,nI 4]),oO 58 (.bin .add (.t 55) (.t 57)),oM 15 58] (.seq (qR [oO 16 (.mv (nI 0))] (.block 2 (.loop (.seq (qR [oM 59 16,oO 60 (.bin .lss (.t 59) (nI 3))] (.cond (.t 60) .skip (.exit 2))) (.seq (.block 3 (qR [oO 17 (.mv (nI 0))] (.block 4 (.loop (.seq (qR [oM 63 17,oM 64 16,oO 65 (.iaddrA 3 5 (.t 9) (.t 64)),oF 66 4 65,oL 67 1 66,oO 68 (.len false (.t 67)),oO 69 (.bin .lss (.t 63) (.t 68))] (.cond (.t 69) .skip (.exit 4))) (.seq (.block 5 (.seq (qR [oM 72 16,oO 73 (.iaddrA 3 5 (.t 9) (.t 72)),oF 74 4 73,oL 75 1 74,oM 76 17,oO 77 (.iaddrS 3 (.t 75) (.t 76)),oF 78 2 77,oL 79 1 78,oM 80 12,oO 81 (.bin .geq (.t 79) (.t 80))] (.cond (.t 81) (.region [oM 82 13,oM 83 16,oO 84 (.iaddrA 3 5 (.t 9) (.t 83)),oF 85 4 84,oL 86 1 85,oM 87 17,oO 88 (.iaddrS 3 (.t 86) (.t 87)),oR 89 3 88,oO 90 (.buildSl 1 3 true [oS,oN,oZ] [(0,3,.t 89)]),oO 91 (.append 3 true 48 false (.t 82) (.t 90)),oM 13 91]) .skip)) (qR [oM 92 16,oO 93 (.iaddrA 3 5 (.t 9) (.t 92)),oF 94 4 93,oL 95 1 94,oM 96 17,oO 97 (.iaddrS 3 (.t 95) (.t 96)),oF 98 2 97,oL 99 1 98,oM 100 15,oO 101 (.bin .geq (.t 99) (.t 100))] (.cond (.t 101) (.region [oM 102 14,oM 103 16,oO 104 (.iaddrA 3 5 (.t 9) (.t 103)),oF 105 4 104,oL 106 1 105,oM 107 17,oO 108 (.iaddrS 3 (.t 106) (.t 107)),oR 109 3 108,oO 110 (.buildSl 1 3 true [oS,oN,oZ] [(0,3,.t 109)]),oO 111 (.append 3 true 48 false (.t 102) (.t 110)),oM 14 111]) .skip)))) (.region [oM 70 17,oO 71 (.bin .add (.t 70) (nI 1)),oM 17 71]))))))) (.region [oM 61 16,oO 62 (.bin .add (.t 61) (nI 1)),oM 16 62])))))) (qR [oM 112 8,oM 113 12,oO 114 (.call 14 [.t 112,.t 113]),oM 115 13,oO 116 (.call 22 [.t 115]),oO 117 (.call 15 [.t 114,.t 116]),oM 118 117,oG 119 (.mv (.t 8)) 118 true,oG 120 (.mv (.t 15)) 118 true,oG 121 (.call 14 [.t 119,.t 120]) 118 true,oG 122 (.mv (.t 14)) 118 true,oG 123 (.call 22 [.t 122]) 118 true,oG 124 (.call 15 [.t 121,.t 123]) 118 true,oO 125 (.pick (.t 118) (.t 124) (.c (.bool false))),oM 18 125] (qR [oM 126 8,oM 127 12,oO 128 (.call 19 [.t 126,.t 127])] (qR [oM 129 18,oM 130 129,oG 131 (.mv (.t 8)) 130 true,oG 132 (.call 14 [.t 131,nI 0]) 130 true,oG 133 (.mv (.t 13)) 130 true,oG 134 (.call 22 [.t 133]) 130 true,oG 135 (.call 15 [.t 132,.t 134]) 130 true,oO 136 (.pick (.t 130) (.t 135) (.c (.bool false))),oM 137 136,oG 138 (.mv (.t 8)) 137 true,oG 139 (.mv (.t 15)) 137 true,oG 140 (.call 14 [.t 138,.t 139]) 137 true,oG 141 (.mv (.t 14)) 137 true,oG 142 (.call 22 [.t 141]) 137 true,oG 143 (.call 15 [.t 140,.t 142]) 137 true,oO 144 (.pick (.t 137) (.t 143) (.c (.bool false))),oM 6 144] .ret))))))))))))),.pure,true,true⟩
theorem k6:compF Try.prog pP Try.f6=some c6:=by kernel_rfl
def c7:AFunc:=⟨100,[.tmp 4],qR [oO 4 (.mv (.c (.bool false)))] (qR [oO 18 (.call 8 []),oM 5 18] (qR [oO 19 (.call 9 [.c (.str ⟨#[98]⟩)]),oM 6 19] (qR [oO 20 (.call 9 [.c (.str ⟨#[98]⟩)]),oM 7 20] (.seq (qR [oM 21 5,oO 22 (.un .not (.t 21)),oM 23 22,oG 24 (.mv (.t 6)) 23 false,oG 25 (.eqp false (.t 24)) 23 false,oO 26 (.pick (.t 23) (.c (.bool true)) (.t 25)),oM 27 26,oG 28 (.mv (.t 7)) 27 false,oG 29 (.eqp false (.t 28)) 27 false,oO 30 (.pick (.t 27) (.c (.bool true)) (.t 29))] (.cond (.t 30) (qR [oO 4 (.mv (.c (.bool false)))] .ret) .skip)) (.seq (qR [oO 8 (.mv (nI 0))] (.block 0 (.loop (.seq (qR [oM 31 8,oM 32 0,oO 33 (.len false (.t 32)),oO 34 (.bin .lss (.t 31) (.t 33)),oM 35 34,oG 36 (.mv (.t 8)) 35 true,oG 37 (.bin .lss (.t 36) (nI 20)) 35 true,oO 38 (.pick (.t 35) (.t 37) (.c (.bool false)))] (.cond (.t 38) .skip (.exit 0))) (.seq (.block 1 (qR [oM 41 0,oM 42 8,oO 43 (.iaddrS 4 (.t 41) (.t 42)),oR 44 4 43,oO 45 (.call 10 [.t 44]),oO 9 (.alloc [oS,oS,oZ,oZ,oN]),oU (.store 5 (.t 9) (.t 45))] (.seq (qR [oM 46 6,oR 47 5 9,oM 49 7,oR 50 5 9,⟨(some 48),.call 12 [.t 46,.t 47],none,[.t 9]⟩,oO 51 (.call 12 [.t 49,.t 50]),oO 52 (.eqb true (.t 48) (.t 51))] (.cond (.t 52) (qR [oO 4 (.mv (.c (.bool false)))] .ret) .skip)) (qR [oM 53 6,oM 54 1,oO 55 (.call 11 [.t 54,nI 13]),oO 56 (.call 19 [.t 53,.t 55])] (qR [oO 57 (.buildSl 3 1 false [oS,oS,oS] [(0,1,.c (.str ⟨#[97]⟩)),(1,1,.c (.str ⟨#[99]⟩)),(2,1,.c (.str ⟨#[100]⟩))]),oO 58 (.len false (.t 57)),oO 59 (.mv (nI 0))] (.block 2 (.loop (qR [oO 60 (.bin .lss (.t 59) (.t 58))] (.seq (.cond (.t 60) .skip (.exit 2)) (.seq (.block 3 (qR [oO 61 (.iaddrS 1 (.t 57) (.t 59)),oL 62 1 61,oM 11 62] (qR [oM 64 6,oM 65 11,oO 66 (.call 13 [.t 64,.t 65]),oM 63 66,oX 67 0 63,oX 68 1 63,oX 69 2 63,oM 12 67,oM 13 68,oM 14 69] (qR [oM 71 7,oM 72 11,oO 73 (.call 13 [.t 71,.t 72]),oM 70 73,oX 74 0 70,oX 75 1 70,oX 76 2 70,oM 15 74,oM 16 75,oM 17 76] (qR [oM 77 12,oM 78 15,oO 79 (.bin .neq (.t 77) (.t 78)),oM 80 79,oG 81 (.mv (.t 13)) 80 false,oG 82 (.mv (.t 16)) 80 false,oG 83 (.bin .neq (.t 81) (.t 82)) 80 false,oO 84 (.pick (.t 80) (.c (.bool true)) (.t 83)),oM 85 84,oG 86 (.mv (.t 14)) 85 false,oG 87 (.mv (.t 17)) 85 false,oG 88 (.eqb true (.t 86) (.t 87)) 85 false,oO 89 (.pick (.t 85) (.c (.bool true)) (.t 88))] (.cond (.t 89) (qR [oO 4 (.mv (.c (.bool false)))] .ret) .skip)))))) (.region [oO 90 (.bin .add (.t 59) (nI 1)),oM 59 90]))))))))))) (.region [oM 39 8,oO 40 (.bin .add (.t 39) (nI 1)),oM 8 40])))))) (qR [oM 91 6,oM 92 1,oO 93 (.call 11 [.t 92,nI 13]),oO 94 (.call 14 [.t 91,.t 93]),oM 95 7,oM 96 1,oO 97 (.call 11 [.t 96,nI 13]),oO 98 (.call 14 [.t 95,.t 97]),oO 99 (.call 15 [.t 94,.t 98]),oM 4 99] .ret)))))),.pure,true,true⟩
theorem k7:compF Try.prog pP Try.f7=some c7:=by kernel_rfl
def c8:AFunc:=⟨85,[.tmp 0],qR [oO 0 (.mv (.c (.bool false)))] (qR [oO 13 (.call 9 [.c (.str ⟨#[98]⟩)]),oM 1 13] (.seq (qR [oM 14 1,oO 15 (.eqp false (.t 14)),oM 16 15,oG 17 (.call 9 [.c (.str ⟨#[66]⟩)]) 16 false,oG 18 (.eqp true (.t 17)) 16 false,oO 19 (.pick (.t 16) (.c (.bool true)) (.t 18))] (.cond (.t 19) (qR [oO 0 (.mv (.c (.bool false)))] .ret) .skip)) (qR [oO 20 (.build [oS,oS,oZ,oZ,oN] [(0,1,.c (.str ⟨#[97]⟩)),(1,1,.c (.str ⟨#[98]⟩)),(2,1,nI 1),(3,1,nI 3)]),oO 2 (.alloc [oS,oS,oZ,oZ,oN]),oU (.store 5 (.t 2) (.t 20))] (qR [oR 21 5 2,oO 3 (.alloc [oS,oS,oZ,oZ,oN]),oU (.store 5 (.t 3) (.t 21))] (qR [oF 22 3 3,oU (.store 1 (.t 22) (nI 2))] (qR [oR 23 5 2,oO 4 (.alloc [oS,oS,oZ,oZ,oN]),oU (.store 5 (.t 4) (.t 23))] (qR [oF 24 3 4,oU (.store 1 (.t 24) (nI 4))] (qR [oO 25 (.build [oS,oS,oZ,oZ,oN] [(0,1,.c (.str ⟨#[97]⟩)),(1,1,.c (.str ⟨#[98]⟩)),(2,1,nI 2)]),oO 5 (.alloc [oS,oS,oZ,oZ,oN]),oU (.store 5 (.t 5) (.t 25))] (qR [oM 26 1,oR 27 5 2,oO 28 (.call 12 [.t 26,.t 27]),oM 29 28,oG 30 (.mv (.t 1)) 29 true,oG 31 (.load 5 true (.t 3)) 29 true,oG 32 (.call 12 [.t 30,.t 31]) 29 true,oG 33 (.un .not (.t 32)) 29 true,oO 34 (.pick (.t 29) (.t 33) (.c (.bool false))),oM 35 34,oG 36 (.mv (.t 1)) 35 true,oG 37 (.load 5 true (.t 4)) 35 true,oG 38 (.call 12 [.t 36,.t 37]) 35 true,oO 39 (.pick (.t 35) (.t 38) (.c (.bool false))),oM 40 39,oG 41 (.mv (.t 1)) 40 true,oG 42 (.load 5 true (.t 5)) 40 true,oG 43 (.call 12 [.t 41,.t 42]) 40 true,oO 44 (.pick (.t 40) (.t 43) (.c (.bool false))),oM 45 44,oG 46 (.mv (.t 1)) 45 true,oG 47 (.load 5 true (.t 4)) 45 true,oG 48 (.call 12 [.t 46,.t 47]) 45 true,oG 49 (.un .not (.t 48)) 45 true,oO 50 (.pick (.t 45) (.t 49) (.c (.bool false))),oM 51 50,oG 52 (.mv (.t 1)) 51 true,oG 53 (.build [oS,oS,oZ,oZ,oN] [(0,1,.c (.str ⟨#[97]⟩)),(1,1,.c (.str ⟨#[99]⟩)),(2,1,nI 9)]) 51 true,oG 54 (.call 12 [.t 52,.t 53]) 51 true,oG 55 (.un .not (.t 54)) 51 true,oO 56 (.pick (.t 51) (.t 55) (.c (.bool false))),oM 6 56] (qR [oM 58 1,oO 59 (.call 13 [.t 58,.c (.str ⟨#[97]⟩)]),oM 57 59,oX 60 0 57,oX 61 1 57,oX 62 2 57,oM 7 60,oM 8 61,oM 9 62] (qR [oM 64 1,oO 65 (.call 13 [.t 64,.c (.str ⟨#[99]⟩)]),oM 63 65,oX 66 0 63,oX 67 1 63,oX 68 2 63,oM 10 66,oM 11 67,oM 12 68] (qR [oM 69 6,oM 70 69,oG 71 (.mv (.t 7)) 70 true,oG 72 (.bin .eql (.t 71) (nI 2)) 70 true,oO 73 (.pick (.t 70) (.t 72) (.c (.bool false))),oM 74 73,oG 75 (.mv (.t 8)) 74 true,oG 76 (.bin .eql (.t 75) (nI 0)) 74 true,oO 77 (.pick (.t 74) (.t 76) (.c (.bool false))),oM 78 77,oG 79 (.mv (.t 9)) 78 true,oO 80 (.pick (.t 78) (.t 79) (.c (.bool false))),oM 81 80,oG 82 (.mv (.t 12)) 81 true,oG 83 (.un .not (.t 82)) 81 true,oO 84 (.pick (.t 81) (.t 83) (.c (.bool false))),oM 0 84] .ret)))))))))))),.pure,true,true⟩
theorem k8:compF Try.prog pP Try.f8=some c8:=by kernel_rfl
def c9:AFunc:=⟨10,[.tmp 2],qR [oO 2 (.mv (.c (.nilptr)))] (.seq (qR [oM 3 0,oO 4 (.call 23 [.t 3]),oO 5 (.un .not (.t 4))] (.cond (.t 5) (qR [oO 2 (.mv (.c (.nilptr)))] .ret) .skip)) (qR [oM 6 0,oO 7 (.mkmap),oO 8 (.build [oS,.nilmap] [(0,1,.t 6),(1,1,.t 7)]),oO 9 (.box (.t 8)),oM 2 9] .ret)),.raw,true,false⟩
theorem k9:compF Try.prog {mt:=false,mtAt:=[],mode:=.raw,clArgs:=true,clRes:=false} Try.f9=some c9:=by kernel_rfl
def c10:AFunc:=⟨21,[.cell 2 5 true],qR [oO 1 (.box (.t 0)),oO 2 (.alloc [oS,oS,oZ,oZ,oN])] (qR [oF 4 3 1,oL 5 1 4,oF 6 1 1,oL 7 1 6,oF 9 2 1,oL 10 1 9,oO 3 (.alloc [oS,oS,oZ,oZ,oN]),⟨(some 8),.call 11 [.t 7,.c (.int .i64 3)],none,[.t 4,.t 9,.t 3]⟩,⟨(some 11),.call 11 [.t 10,.c (.int .i64 4)],none,[.t 4,.t 3]⟩,⟨(some 12),.call 24 [.t 5,.c oN,.t 8,.t 11],none,[.t 3]⟩,oU (.store 5 (.t 3) (.t 12))] (qR [oO 13 (.buildSl 3 1 false [oS,oS,oS] [(0,1,.c (.str ⟨#[97]⟩)),(1,1,.c (.str ⟨#[99]⟩)),(2,1,.c (.str ⟨#[100]⟩))]),oF 14 0 1,oL 15 1 14,oO 16 (.call 11 [.t 15,nI 3]),oO 17 (.iaddrS 1 (.t 13) (.t 16)),oL 18 1 17,oF 19 0 3,oU (.store 1 (.t 19) (.t 18))] (qR [oR 20 5 3,oU (.store 5 (.t 2) (.t 20))] .ret))),.pure,true,true⟩
theorem k10:compF Try.prog pP Try.f10=some c10:=by kernel_rfl
def c11:AFunc:=⟨13,[.tmp 4],qR [oO 4 (.mv (nI 0))] (.seq (qR [oM 5 0,oO 6 (.bin .lss (.t 5) (nI 0))] (.cond (.t 6) (.region [oM 7 0,oO 8 (.bin .add (.t 7) (nI 1)),oO 9 (.un .neg (.t 8)),oM 0 9]) .skip)) (qR [oM 10 0,oM 11 1,oO 12 (.bin .rem (.t 10) (.t 11)),oM 4 12] .ret)),.pure,true,true⟩
theorem k11:compF Try.prog pP Try.f11=some c11:=by kernel_rfl
def c12:AFunc:=⟨53,[.tmp 4],qR [oO 3 (.box (.t 1)),oO 4 (.mv (.c (.bool false)))] (.seq (qR [oR 10 5 3,oO 11 (.call 25 [.t 10]),oM 9 11,oX 12 0 9,oX 13 1 9,oM 5 12,oM 6 13] (qR [oM 14 6,oO 15 (.bin .neq (.t 14) (nI 0)),oM 16 15,oG 17 (.faddr 1 (.t 3)) 16 false,oG 18 (.load 1 false (.t 17)) 16 false,oG 19 (.mv (.t 0)) 16 false,oG 20 (.nilck (.t 19)) 16 false,oG 21 (.faddr 0 (.t 20)) 16 false,oG 22 (.load 1 false (.t 21)) 16 false,oG 23 (.bin .neq (.t 18) (.t 22)) 16 false,oO 24 (.pick (.t 16) (.c (.bool true)) (.t 23))] (.cond (.t 24) (qR [oO 4 (.mv (.c (.bool false)))] .ret) .skip))) (.seq (qR [oM 26 0,oO 27 (.nilck (.t 26)),oF 28 1 27,oL 29 1 28,oF 30 0 3,oL 31 1 30,oO 32 (.mlook false [2] (.agg [oS,oS,oZ,oZ,oN]) true (.t 29) (.t 31)),oM 25 32,oX 33 0 25,oX 34 1 25,oO 7 (.alloc [oS,oS,oZ,oZ,oN]),oU (.store 5 (.t 7) (.t 33)),oM 8 34] (qR [oM 35 8,oM 36 35,oG 37 (.load 5 true (.t 3)) 36 true,oG 38 (.load 5 true (.t 7)) 36 true,oG 39 (.call 26 [.t 37,.t 38]) 36 true,oG 40 (.un .not (.t 39)) 36 true,oO 41 (.pick (.t 36) (.t 40) (.c (.bool false)))] (.cond (.t 41) (qR [oO 4 (.mv (.c (.bool false)))] .ret) .skip))) (qR [oF 42 4 3,oL 43 1 42,oO 44 (.call 22 [.t 43]),oF 45 4 3,oU (.store 1 (.t 45) (.t 44))] (qR [oM 46 0,oO 47 (.nilck (.t 46)),oF 48 1 47,oL 49 1 48,oF 50 0 3,oL 51 1 50,oR 52 5 3,oU (.mset false [2] (.t 49) (.t 51) (.t 52))] (qR [oO 4 (.mv (.c (.bool true)))] .ret))))),.gc,false,true⟩
theorem k12:compF Try.prog {mt:=false,mtAt:=[],mode:=.gc,clArgs:=false,clRes:=true} Try.f12=some c12:=by kernel_rfl
def c13:AFunc:=⟨22,[.tmp 4,.tmp 5,.tmp 6],qR [oO 4 (.mv (nI 0)),oO 5 (.mv (nI 0)),oO 6 (.mv (.c (.bool false)))] (qR [oM 9 0,oO 10 (.nilck (.t 9)),oF 11 1 10,oL 12 1 11,oM 13 1,oO 14 (.mlook false [2] (.agg [oS,oS,oZ,oZ,oN]) true (.t 12) (.t 13)),oM 8 14,oX 15 0 8,oX 16 1 8,oO 7 (.alloc [oS,oS,oZ,oZ,oN]),oU (.store 5 (.t 7) (.t 15)),oM 6 16] (qR [oF 17 2 7,oL 18 1 17,oF 19 3 7,oL 20 1 19,oM 21 6,oM 4 18,oM 5 20,oM 6 21] .ret)),.gc,false,true⟩
theorem k13:compF Try.prog {mt:=false,mtAt:=[],mode:=.gc,clArgs:=false,clRes:=true} Try.f13=some c13:=by kernel_rfl
def c15:AFunc:=⟨55,[.tmp 4],qR [oO 4 (.mv (.c (.bool false)))] (.seq (qR [oM 6 0,oO 7 (.len false (.t 6)),oM 8 1,oO 9 (.len false (.t 8)),oO 10 (.bin .neq (.t 7) (.t 9))] (.cond (.t 10) (qR [oO 4 (.mv (.c (.bool false)))] .ret) .skip)) (.seq (qR [oO 5 (.mv (nI 0))] (.block 0 (.loop (.seq (qR [oM 11 5,oM 12 0,oO 13 (.len false (.t 12)),oO 14 (.bin .lss (.t 11) (.t 13))] (.cond (.t 14) .skip (.exit 0))) (.seq (.block 1 (qR [oM 17 0,oM 18 5,oO 19 (.iaddrS 3 (.t 17) (.t 18)),oF 20 0 19,oL 21 1 20,oM 22 1,oM 23 5,oO 24 (.iaddrS 3 (.t 22) (.t 23)),oF 25 0 24,oL 26 1 25,oO 27 (.bin .neq (.t 21) (.t 26)),oM 28 27,oG 29 (.mv (.t 0)) 28 false,oG 30 (.mv (.t 5)) 28 false,oG 31 (.iaddrS 3 (.t 29) (.t 30)) 28 false,oG 32 (.faddr 2 (.t 31)) 28 false,oG 33 (.load 1 false (.t 32)) 28 false,oG 34 (.mv (.t 1)) 28 false,oG 35 (.mv (.t 5)) 28 false,oG 36 (.iaddrS 3 (.t 34) (.t 35)) 28 false,oG 37 (.faddr 2 (.t 36)) 28 false,oG 38 (.load 1 false (.t 37)) 28 false,oG 39 (.bin .neq (.t 33) (.t 38)) 28 false,oO 40 (.pick (.t 28) (.c (.bool true)) (.t 39)),oM 41 40,oG 42 (.mv (.t 0)) 41 false,oG 43 (.mv (.t 5)) 41 false,oG 44 (.iaddrS 3 (.t 42) (.t 43)) 41 false,oG 45 (.faddr 1 (.t 44)) 41 false,oG 46 (.load 1 false (.t 45)) 41 false,oG 47 (.mv (.t 1)) 41 false,oG 48 (.mv (.t 5)) 41 false,oG 49 (.iaddrS 3 (.t 47) (.t 48)) 41 false,oG 50 (.faddr 1 (.t 49)) 41 false,oG 51 (.load 1 false (.t 50)) 41 false,oG 52 (.call 28 [.t 46,.t 51]) 41 false,oG 53 (.un .not (.t 52)) 41 false,oO 54 (.pick (.t 41) (.c (.bool true)) (.t 53))] (.cond (.t 54) (qR [oO 4 (.mv (.c (.bool false)))] .ret) .skip))) (.region [oM 15 5,oO 16 (.bin .add (.t 15) (nI 1)),oM 5 16])))))) (qR [oO 4 (.mv (.c (.bool true)))] .ret))),.pure,true,true⟩
theorem k15:compF Try.prog pP Try.f15=some c15:=by kernel_rfl
def c16:AFunc:=⟨11,[.tmp 2],qR [oO 2 (.mv (.c (.nilptr)))] (qR [oM 4 0,oO 5 (.call 29 [.t 4]),oM 3 5] (.seq (qR [oM 6 3,oO 7 (.un .not (.t 6))] (.cond (.t 7) (qR [oO 2 (.mv (.c (.nilptr)))] .ret) .skip)) (qR [oM 8 0,oO 9 (.build [oS,oN] [(0,1,.t 8)]),oO 10 (.box (.t 9)),oM 2 10] .ret))),.pure,true,true⟩
theorem k16:compF Try.prog pP Try.f16=some c16:=by kernel_rfl
def c17:AFunc:=⟨104,[.tmp 4],qR [oO 3 (.box (.t 1)),oO 4 (.mv (.c (.bool false)))] (qR [oR 10 5 3,oO 11 (.call 30 [.t 10]),oM 9 11,oX 12 0 9,oX 13 1 9,oM 5 12,oM 6 13] (.seq (qR [oM 14 6,oO 15 (.bin .neq (.t 14) (nI 0)),oM 16 15,oG 17 (.faddr 1 (.t 3)) 16 false,oG 18 (.load 1 false (.t 17)) 16 false,oG 19 (.mv (.t 0)) 16 false,oG 20 (.nilck (.t 19)) 16 false,oG 21 (.faddr 0 (.t 20)) 16 false,oG 22 (.load 1 false (.t 21)) 16 false,oG 23 (.bin .neq (.t 18) (.t 22)) 16 false,oO 24 (.pick (.t 16) (.c (.bool true)) (.t 23))] (.cond (.t 24) (qR [oO 4 (.mv (.c (.bool false)))] .ret) .skip)) (qR [oR 25 5 3,oO 7 (.alloc [oS,oS,oZ,oZ,oN]),oU (.store 5 (.t 7) (.t 25))] (qR [oF 26 4 3,oL 27 1 26,oO 28 (.call 31 [.t 27]),oF 29 4 7,oU (.store 1 (.t 29) (.t 28))] (.seq (qR [oO 8 (.mv (nI 0))] (.block 0 (.loop (.seq (qR [oM 30 8,oM 31 0,oO 32 (.nilck (.t 31)),oF 33 1 32,oL 34 1 33,oO 35 (.len false (.t 34)),oO 36 (.bin .lss (.t 30) (.t 35))] (.cond (.t 36) .skip (.exit 0))) (.seq (.block 1 (.seq (qR [oM 39 0,oO 40 (.nilck (.t 39)),oF 41 1 40,oL 42 1 41,oM 43 8,oO 44 (.iaddrS 5 (.t 42) (.t 43)),oF 45 0 44,oL 46 1 45,oF 47 0 3,oL 48 1 47,oO 49 (.bin .neq (.t 46) (.t 48))] (.cond (.t 49) (.exit 1) .skip)) (.seq (qR [oM 50 0,oO 51 (.nilck (.t 50)),oF 52 1 51,oL 53 1 52,oM 54 8,oO 55 (.iaddrS 5 (.t 53) (.t 54)),oF 56 2 55,oL 57 1 56,oF 58 2 3,oL 59 1 58,oO 60 (.bin .gtr (.t 57) (.t 59)),oM 61 60,oG 62 (.mv (.t 0)) 61 false,oG 63 (.nilck (.t 62)) 61 false,oG 64 (.faddr 1 (.t 63)) 61 false,oG 65 (.load 1 false (.t 64)) 61 false,oG 66 (.mv (.t 8)) 61 false,oG 67 (.iaddrS 5 (.t 65) (.t 66)) 61 false,oG 68 (.faddr 2 (.t 67)) 61 false,oG 69 (.load 1 false (.t 68)) 61 false,oG 70 (.faddr 2 (.t 3)) 61 false,oG 71 (.load 1 false (.t 70)) 61 false,oG 72 (.bin .eql (.t 69) (.t 71)) 61 false,oG 73 (.mv (.t 72)) 61 false,oG 74 (.mv (.t 0)) 73 true,oG 75 (.nilck (.t 74)) 73 true,oG 76 (.faddr 1 (.t 75)) 73 true,oG 77 (.load 1 false (.t 76)) 73 true,oG 78 (.mv (.t 8)) 73 true,oG 79 (.iaddrS 5 (.t 77) (.t 78)) 73 true,oG 80 (.faddr 3 (.t 79)) 73 true,oG 81 (.load 1 false (.t 80)) 73 true,oG 82 (.faddr 3 (.t 3)) 73 true,oG 83 (.load 1 false (.t 82)) 73 true,oG 84 (.bin .geq (.t 81) (.t 83)) 73 true,oG 85 (.pick (.t 73) (.t 84) (.c (.bool false))) 61 false,oO 86 (.pick (.t 61) (.c (.bool true)) (.t 85))] (.cond (.t 86) (qR [oO 4 (.mv (.c (.bool false)))] .ret) .skip)) (qR [oM 87 0,oO 88 (.nilck (.t 87)),oF 89 1 88,oL 90 1 89,oM 91 8,oR 92 5 7,oO 93 (.iaddrS 5 (.t 90) (.t 91)),oU (.store 5 (.t 93) (.t 92))] (qR [oO 4 (.mv (.c (.bool true)))] .ret))))) (.region [oM 37 8,oO 38 (.bin .add (.t 37) (nI 1)),oM 8 38])))))) (qR [oM 94 0,oM 95 0,oO 96 (.nilck (.t 95)),oF 97 1 96,oL 98 1 97,oR 99 5 7,oO 100 (.buildSl 1 5 true [oS,oS,oZ,oZ,oN] [(0,5,.t 99)]),oO 101 (.append 5 true 72 false (.t 98) (.t 100)),oO 102 (.nilck (.t 94)),oF 103 1 102,oU (.store 1 (.t 103) (.t 101))] (qR [oO 4 (.mv (.c (.bool true)))] .ret))))))),.pure,true,true⟩
theorem k17:compF Try.prog pP Try.f17=some c17:=by kernel_rfl
def c18:AFunc:=⟨30,[.tmp 4],qR [oO 4 (.mv (.c oN))] (qR [oO 5 (.mv (.c oN))] (.seq (qR [oO 6 (.mv (nI 0))] (.block 0 (.loop (.seq (qR [oM 7 6,oM 8 0,oO 9 (.nilck (.t 8)),oF 10 1 9,oL 11 1 10,oO 12 (.len false (.t 11)),oO 13 (.bin .lss (.t 7) (.t 12))] (.cond (.t 13) .skip (.exit 0))) (.seq (.block 1 (.region [oM 16 5,oM 17 0,oO 18 (.nilck (.t 17)),oF 19 1 18,oL 20 1 19,oM 21 6,oO 22 (.iaddrS 5 (.t 20) (.t 21)),oF 23 4 22,oL 24 1 23,oM 25 1,oO 26 (.call 32 [.t 24,.t 25]),oO 27 (.append 3 true 48 false (.t 16) (.t 26)),oM 5 27])) (.region [oM 14 6,oO 15 (.bin .add (.t 14) (nI 1)),oM 6 15])))))) (qR [oM 28 5,oO 29 (.call 31 [.t 28]),oM 4 29] .ret))),.pure,true,true⟩
theorem k18:compF Try.prog pP Try.f18=some c18:=by kernel_rfl
def c20:AFunc:=⟨31,[],qR [oO 4 (.mv (nI 0))] (.block 0 (.loop (.seq (qR [oM 5 4,oM 6 0,oO 7 (.nilck (.t 6)),oF 8 1 7,oL 9 1 8,oO 10 (.len false (.t 9)),oO 11 (.bin .lss (.t 5) (.t 10))] (.cond (.t 11) .skip (.exit 0))) (.seq (.block 1 (.region [oM 14 0,oO 15 (.nilck (.t 14)),oF 16 1 15,oL 17 1 16,oM 18 4,oM 19 0,oO 20 (.nilck (.t 19)),oF 21 1 20,oL 22 1 21,oM 23 4,oO 24 (.iaddrS 5 (.t 22) (.t 23)),oF 25 4 24,oL 26 1 25,oM 27 1,⟨(some 28),.call 32 [.t 26,.t 27],none,[.t 16]⟩,oO 29 (.iaddrS 5 (.t 17) (.t 18)),oF 30 4 29,oU (.store 1 (.t 30) (.t 28))])) (.region [oM 12 4,oO 13 (.bin .add (.t 12) (nI 1)),oM 4 13]))))),.pure,true,true⟩
theorem k20:compF Try.prog pP Try.f20=some c20:=by kernel_rfl
def c21:AFunc:=⟨43,[.tmp 4,.tmp 5,.tmp 6],qR [oO 4 (.mv (nI 0)),oO 5 (.mv (nI 0)),oO 6 (.mv (.c (.bool false)))] (.seq (qR [oO 7 (.mv (nI 0))] (.block 0 (.loop (.seq (qR [oM 8 7,oM 9 0,oO 10 (.nilck (.t 9)),oF 11 1 10,oL 12 1 11,oO 13 (.len false (.t 12)),oO 14 (.bin .lss (.t 8) (.t 13))] (.cond (.t 14) .skip (.exit 0))) (.seq (.block 1 (qR [oM 17 0,oO 18 (.nilck (.t 17)),oF 19 1 18,oL 20 1 19,oM 21 7,oO 22 (.iaddrS 5 (.t 20) (.t 21)),oF 23 0 22,oL 24 1 23,oM 25 1,oO 26 (.bin .eql (.t 24) (.t 25))] (.cond (.t 26) (qR [oM 27 0,oO 28 (.nilck (.t 27)),oF 29 1 28,oL 30 1 29,oM 31 7,oO 32 (.iaddrS 5 (.t 30) (.t 31)),oF 33 2 32,oL 34 1 33,oM 35 0,oO 36 (.nilck (.t 35)),oF 37 1 36,oL 38 1 37,oM 39 7,oO 40 (.iaddrS 5 (.t 38) (.t 39)),oF 41 3 40,oL 42 1 41,oM 4 34,oM 5 42,oO 6 (.mv (.c (.bool true)))] .ret) .skip))) (.region [oM 15 7,oO 16 (.bin .add (.t 15) (nI 1)),oM 7 16])))))) (qR [oO 4 (.mv (nI 0)),oO 5 (.mv (nI 0)),oO 6 (.mv (.c (.bool false)))] .ret)),.pure,true,true⟩
theorem k21:compF Try.prog pP Try.f21=some c21:=by kernel_rfl
def c22:AFunc:=⟨47,[.tmp 2],qR [oO 2 (.mv (.c oN))] (qR [oM 7 0,oO 8 (.call 33 [.t 7]),oM 3 8] (.seq (qR [oM 9 3,oO 10 (.len false (.t 9)),oO 11 (.mv (nI 0))] (.block 0 (.loop (qR [oO 12 (.bin .lss (.t 11) (.t 10))] (.seq (.cond (.t 12) .skip (.exit 0)) (.seq (.block 1 (qR [oM 13 11,oM 4 13] (qR [oM 14 3,oM 15 4,oM 16 3,oM 17 4,oO 18 (.iaddrS 3 (.t 16) (.t 17)),oF 19 1 18,oL 20 1 19,oO 21 (.call 34 [.t 20]),oO 22 (.iaddrS 3 (.t 14) (.t 15)),oF 23 1 22,oU (.store 1 (.t 23) (.t 21))] (qR [oM 24 3,oM 25 4,oO 26 (.iaddrS 3 (.t 24) (.t 25)),oF 27 1 26,oL 28 1 27,oO 29 (.len false (.t 28)),oO 30 (.mv (nI 0))] (.block 2 (.loop (qR [oO 31 (.bin .lss (.t 30) (.t 29))] (.seq (.cond (.t 31) .skip (.exit 2)) (.seq (.block 3 (qR [oM 32 30,oO 33 (.iaddrS 4 (.t 28) (.t 30)),oR 34 4 33,oO 6 (.alloc [oZ,oZ,oS,oN]),oM 5 32,oU (.store 4 (.t 6) (.t 34))] (.region [oM 35 3,oM 36 4,oO 37 (.iaddrS 3 (.t 35) (.t 36)),oF 38 1 37,oL 39 1 38,oM 40 5,oR 41 4 6,⟨(some 42),.call 35 [.t 41],none,[.t 38]⟩,oO 43 (.iaddrS 4 (.t 39) (.t 40)),oU (.store 4 (.t 43) (.t 42))]))) (.region [oO 44 (.bin .add (.t 30) (nI 1)),oM 30 44])))))))))) (.region [oO 45 (.bin .add (.t 11) (nI 1)),oM 11 45]))))))) (qR [oM 46 3,oM 2 46] .ret))),.pure,true,true⟩
theorem k22:compF Try.prog pP Try.f22=some c22:=by kernel_rfl
def c23:AFunc:=⟨43,[.tmp 2],qR [oO 2 (.mv (.c (.bool false)))] (.seq (qR [oM 6 0,oO 7 (.rng (.t 6))] (.block 0 (.loop (qR [oO 8 (.nxt (.t 7)),oX 9 0 8] (.seq (.cond (.t 9) .skip (.exit 0)) (.block 1 (qR [oX 10 1 8,oX 11 2 8,oM 3 10,oM 4 11] (qR [oM 12 4,oO 13 (.bin .geq (.t 12) (.c (.int .i32 97))),oM 14 13,oG 15 (.mv (.t 4)) 14 true,oG 16 (.bin .leq (.t 15) (.c (.int .i32 122))) 14 true,oO 17 (.pick (.t 14) (.t 16) (.c (.bool false))),oM 5 17] (qR [oM 18 5,oO 19 (.un .not (.t 18)),oM 20 19,oG 21 (.mv (.t 3)) 20 true,oG 22 (.bin .eql (.t 21) (nI 0)) 20 true,oG 23 (.mv (.t 22)) 20 true,oG 24 (.mv (.t 4)) 23 false,oG 25 (.bin .neq (.t 24) (.c (.int .i32 95))) 23 false,oG 26 (.mv (.t 25)) 23 false,oG 27 (.mv (.t 4)) 26 true,oG 28 (.bin .lss (.t 27) (.c (.int .i32 48))) 26 true,oG 29 (.mv (.t 28)) 26 true,oG 30 (.mv (.t 4)) 29 false,oG 31 (.bin .gtr (.t 30) (.c (.int .i32 57))) 29 false,oG 32 (.pick (.t 29) (.c (.bool true)) (.t 31)) 26 true,oG 33 (.pick (.t 26) (.t 32) (.c (.bool false))) 23 false,oG 34 (.pick (.t 23) (.c (.bool true)) (.t 33)) 20 true,oO 35 (.pick (.t 20) (.t 34) (.c (.bool false)))] (.cond (.t 35) (qR [oO 2 (.mv (.c (.bool false)))] .ret) .skip)))))))))) (qR [oM 36 0,oO 37 (.bin .neq (.t 36) (.c oS)),oM 38 37,oG 39 (.mv (.t 0)) 38 true,oG 40 (.len true (.t 39)) 38 true,oG 41 (.bin .leq (.t 40) (nI 16)) 38 true,oO 42 (.pick (.t 38) (.t 41) (.c (.bool false))),oM 2 42] .ret)),.pure,true,true⟩
theorem k23:compF Try.prog pP Try.f23=some c23:=by kernel_rfl
def c24:AFunc:=⟨73,[.cell 8 5 true],qR [oO 8 (.alloc [oS,oS,oZ,oZ,oN])] (qR [oM 14 2,oO 15 (.call 36 [.t 14,nI 1099511627777]),oM 16 3,oO 17 (.call 36 [.t 16,nI 1099511627777]),oO 18 (.build [oS,oS,oZ,oZ,oN] [(0,1,.c (.str ⟨#[97]⟩)),(1,1,.c (.str ⟨#[98]⟩)),(2,1,.t 15),(3,1,.t 17)]),oO 9 (.alloc [oS,oS,oZ,oZ,oN]),oU (.store 5 (.t 9) (.t 18))] (qR [oO 19 (.build [oZ,oZ,oS,oN] [(0,1,nI 3),(2,1,.c (.str ⟨#[98]⟩))]),oO 10 (.alloc [oZ,oZ,oS,oN]),oU (.store 4 (.t 10) (.t 19))] (qR [oM 20 0,oO 21 (.call 37 [.t 20]),oM 11 21] (.seq (qR [oO 12 (.mv (nI 0))] (.block 0 (.loop (.seq (qR [oM 22 12,oM 23 11,oO 24 (.len false (.t 23)),oO 25 (.bin .lss (.t 22) (.t 24))] (.cond (.t 25) .skip (.exit 0))) (.seq (.block 1 (qR [oM 28 11,oM 29 12,oO 30 (.iaddrS 3 (.t 28) (.t 29)),oF 31 0 30,oL 32 1 31,oR 33 4 10,oO 34 (.buildSl 1 4 true [oZ,oZ,oS,oN] [(0,4,.t 33)]),oM 35 11,oM 36 12,oO 37 (.iaddrS 3 (.t 35) (.t 36)),oF 38 1 37,oL 39 1 38,oO 40 (.slSl 4 (.t 39) (some (nI 1)) none),oM 42 11,oM 43 12,oO 44 (.iaddrS 3 (.t 42) (.t 43)),oF 45 2 44,oL 46 1 45,oO 13 (.alloc [oS,oN,oZ]),⟨(some 41),.append 4 true 56 false (.t 34) (.t 40),none,[.t 31,.t 45,.t 13]⟩,oO 47 (.build [oS,oN,oZ] [(0,1,.t 32),(1,1,.t 41),(2,1,.t 46)]),oU (.store 3 (.t 13) (.t 47))] (.seq (qR [oM 48 12,oM 49 1,oO 50 (.len false (.t 49)),oO 51 (.bin .lss (.t 48) (.t 50))] (.cond (.t 51) (.region [oF 52 1 13,oL 53 1 52,oM 54 1,oM 55 12,oO 56 (.iaddrS 4 (.t 54) (.t 55)),oR 57 4 56,⟨(some 58),.call 38 [.t 57],none,[.t 52]⟩,oO 59 (.buildSl 1 4 true [oZ,oZ,oS,oN] [(0,4,.t 58)]),oO 60 (.append 4 true 56 false (.t 53) (.t 59)),oF 61 1 13,oU (.store 1 (.t 61) (.t 60))]) .skip)) (.region [oF 62 4 9,oL 63 1 62,oR 64 3 13,oO 65 (.buildSl 1 3 true [oS,oN,oZ] [(0,3,.t 64)]),oO 66 (.append 3 true 48 false (.t 63) (.t 65)),oF 67 4 9,oU (.store 1 (.t 67) (.t 66))])))) (.region [oM 26 12,oO 27 (.bin .add (.t 26) (nI 1)),oM 12 27])))))) (qR [oF 68 4 9,oL 69 1 68,oO 70 (.call 22 [.t 69]),oF 71 4 9,oU (.store 1 (.t 71) (.t 70))] (qR [oR 72 5 9,oU (.store 5 (.t 8) (.t 72))] .ret)))))),.pure,true,true⟩
theorem k24:compF Try.prog pP Try.f24=some c24:=by kernel_rfl
def c25:AFunc:=⟨63,[.tmp 2,.tmp 3],qR [oO 1 (.box (.t 0)),oO 2 (.mv (.c oS)),oO 3 (.mv (nI 0))] (.seq (qR [oR 9 5 1,oO 10 (.call 39 [.t 9]),oO 11 (.un .not (.t 10))] (.cond (.t 11) (qR [oO 2 (.mv (.c oS)),oO 3 (.mv (nI 1))] .ret) .skip)) (qR [oO 4 (.alloc [oN])] (qR [oF 12 0 1,oL 13 1 12,oO 14 (.call 40 [.t 4,.t 13])] (qR [oF 15 1 1,oL 16 1 15,oO 17 (.call 40 [.t 4,.t 16])] (qR [oF 18 2 1,oL 19 1 18,oO 20 (.call 41 [.t 4,nI 8,.t 19])] (qR [oF 21 3 1,oL 22 1 21,oO 23 (.call 41 [.t 4,nI 8,.t 22])] (qR [oF 24 4 1,oL 25 1 24,oO 26 (.len false (.t 25)),oO 27 (.call 41 [.t 4,nI 2,.t 26])] (.seq (qR [oF 28 4 1,oL 29 1 28,oO 30 (.len false (.t 29)),oO 31 (.mv (nI 0))] (.block 0 (.loop (qR [oO 32 (.bin .lss (.t 31) (.t 30))] (.seq (.cond (.t 32) .skip (.exit 0)) (.seq (.block 1 (qR [oO 33 (.iaddrS 3 (.t 29) (.t 31)),oR 34 3 33,oO 6 (.alloc [oS,oN,oZ]),oU (.store 3 (.t 6) (.t 34))] (qR [oF 35 0 6,oL 36 1 35,oO 37 (.call 40 [.t 4,.t 36])] (qR [oF 38 1 6,oL 39 1 38,oO 40 (.len false (.t 39)),oO 41 (.call 41 [.t 4,nI 1,.t 40])] (.seq (qR [oF 42 1 6,oL 43 1 42,oO 44 (.len false (.t 43)),oO 45 (.mv (nI 0))] (.block 2 (.loop (qR [oO 46 (.bin .lss (.t 45) (.t 44))] (.seq (.cond (.t 46) .skip (.exit 2)) (.seq (.block 3 (qR [oO 47 (.iaddrS 4 (.t 43) (.t 45)),oR 48 4 47,oO 8 (.alloc [oZ,oZ,oS,oN]),oU (.store 4 (.t 8) (.t 48))] (.region [oR 49 4 8,oO 50 (.call 42 [.t 4,.t 49])]))) (.region [oO 51 (.bin .add (.t 45) (nI 1)),oM 45 51]))))))) (.region [oF 52 2 6,oL 53 1 52,oO 54 (.call 41 [.t 4,nI 8,.t 53])])))))) (.region [oO 55 (.bin .add (.t 31) (nI 1)),oM 31 55]))))))) (qR [oL 56 1 4,oO 57 (.b2s (.t 56)),oO 58 (.call 43 [.t 57]),oO 59 (.conv .i64 (.t 58)),oO 60 (.call 41 [.t 4,nI 4,.t 59])] (qR [oL 61 1 4,oO 62 (.b2s (.t 61)),oM 2 62,oO 3 (.mv (nI 0))] .ret)))))))))),.pure,true,true⟩
theorem k25:compF Try.prog pP Try.f25=some c25:=by kernel_rfl
def c26:AFunc:=⟨18,[.tmp 4],qR [oO 2 (.box (.t 0)),oO 3 (.box (.t 1)),oO 4 (.mv (.c (.bool false)))] (qR [oF 5 2 2,oL 6 1 5,oF 7 2 3,oL 8 1 7,oF 10 3 2,oL 11 1 10,oF 12 3 3,oL 13 1 12,⟨(some 9),.call 45 [.t 6,.t 8],none,[.t 10,.t 12]⟩,oO 14 (.call 45 [.t 11,.t 13]),oO 15 (.buildSl 2 1 false [oZ,oZ] [(0,1,.t 9),(1,1,.t 14)]),oO 16 (.call 44 [.t 15]),oO 17 (.bin .gtr (.t 16) (nI 0)),oM 4 17] .ret),.pure,true,true⟩
theorem k26:compF Try.prog pP Try.f26=some c26:=by kernel_rfl
def c27:AFunc:=⟨22,[.tmp 4],qR [oO 4 (.mv (.c oN))] (.seq (qR [oM 7 0,oO 8 (.len false (.t 7)),oO 9 (.mv (nI 0))] (.block 0 (.loop (qR [oO 10 (.bin .lss (.t 9) (.t 8))] (.seq (.cond (.t 10) .skip (.exit 0)) (.seq (.block 1 (qR [oO 11 (.iaddrS 3 (.t 7) (.t 9)),oR 12 3 11,oO 6 (.alloc [oS,oN,oZ]),oU (.store 3 (.t 6) (.t 12))] (qR [oF 13 2 6,oL 14 1 13,oM 15 1,oO 16 (.bin .geq (.t 14) (.t 15))] (.cond (.t 16) (.region [oM 17 4,oR 18 3 6,oO 19 (.buildSl 1 3 true [oS,oN,oZ] [(0,3,.t 18)]),oO 20 (.append 3 true 48 false (.t 17) (.t 19)),oM 4 20]) .skip)))) (.region [oO 21 (.bin .add (.t 9) (nI 1)),oM 9 21]))))))) .ret),.pure,true,true⟩
theorem k27:compF Try.prog pP Try.f27=some c27:=by kernel_rfl
def c28:AFunc:=⟨29,[.tmp 4],qR [oO 4 (.mv (.c (.bool false)))] (.seq (qR [oM 7 0,oO 8 (.len false (.t 7)),oM 9 1,oO 10 (.len false (.t 9)),oO 11 (.bin .neq (.t 8) (.t 10))] (.cond (.t 11) (qR [oO 4 (.mv (.c (.bool false)))] .ret) .skip)) (.seq (qR [oO 5 (.mv (nI 0))] (.block 0 (.loop (.seq (qR [oM 12 5,oM 13 0,oO 14 (.len false (.t 13)),oO 15 (.bin .lss (.t 12) (.t 14))] (.cond (.t 15) .skip (.exit 0))) (.seq (.block 1 (qR [oM 18 0,oM 19 5,oO 20 (.iaddrS 4 (.t 18) (.t 19)),oR 21 4 20,oM 22 1,oM 23 5,oO 24 (.iaddrS 4 (.t 22) (.t 23)),oR 25 4 24,oO 26 (.call 46 [.t 21,.t 25]),oM 6 26] (qR [oM 27 6,oO 28 (.un .not (.t 27))] (.cond (.t 28) (qR [oO 4 (.mv (.c (.bool false)))] .ret) .skip)))) (.region [oM 16 5,oO 17 (.bin .add (.t 16) (nI 1)),oM 5 17])))))) (qR [oO 4 (.mv (.c (.bool true)))] .ret))),.pure,true,true⟩
theorem k28:compF Try.prog pP Try.f28=some c28:=by kernel_rfl
def c29:AFunc:=⟨51,[.tmp 2],qR [oO 2 (.mv (.c (.bool false)))] (.seq (qR [oM 5 0,oO 6 (.len true (.t 5)),oO 7 (.bin .lss (.t 6) (nI 1)),oM 8 7,oG 9 (.mv (.t 0)) 8 false,oG 10 (.len true (.t 9)) 8 false,oG 11 (.bin .gtr (.t 10) (nI 16)) 8 false,oO 12 (.pick (.t 8) (.c (.bool true)) (.t 11)),oM 13 12,oG 14 (.mv (.t 0)) 13 false,oG 15 (.idxStr (.t 14) (nI 0)) 13 false,oG 16 (.bin .lss (.t 15) (.c (.int .u8 97))) 13 false,oO 17 (.pick (.t 13) (.c (.bool true)) (.t 16)),oM 18 17,oG 19 (.mv (.t 0)) 18 false,oG 20 (.idxStr (.t 19) (nI 0)) 18 false,oG 21 (.bin .gtr (.t 20) (.c (.int .u8 122))) 18 false,oO 22 (.pick (.t 18) (.c (.bool true)) (.t 21))] (.cond (.t 22) (qR [oO 2 (.mv (.c (.bool false)))] .ret) .skip)) (.seq (qR [oO 3 (.mv (nI 1))] (.block 0 (.loop (.seq (qR [oM 23 3,oM 24 0,oO 25 (.len true (.t 24)),oO 26 (.bin .lss (.t 23) (.t 25))] (.cond (.t 26) .skip (.exit 0))) (.seq (.block 1 (qR [oM 29 0,oM 30 3,oO 31 (.idxStr (.t 29) (.t 30)),oM 4 31] (qR [oM 32 4,oO 33 (.bin .geq (.t 32) (.c (.int .u8 97))),oM 34 33,oG 35 (.mv (.t 4)) 34 true,oG 36 (.bin .leq (.t 35) (.c (.int .u8 122))) 34 true,oO 37 (.pick (.t 34) (.t 36) (.c (.bool false))),oM 38 37,oG 39 (.mv (.t 4)) 38 false,oG 40 (.bin .geq (.t 39) (.c (.int .u8 48))) 38 false,oG 41 (.mv (.t 40)) 38 false,oG 42 (.mv (.t 4)) 41 true,oG 43 (.bin .leq (.t 42) (.c (.int .u8 57))) 41 true,oG 44 (.pick (.t 41) (.t 43) (.c (.bool false))) 38 false,oO 45 (.pick (.t 38) (.c (.bool true)) (.t 44)),oM 46 45,oG 47 (.mv (.t 4)) 46 false,oG 48 (.bin .eql (.t 47) (.c (.int .u8 95))) 46 false,oO 49 (.pick (.t 46) (.c (.bool true)) (.t 48)),oO 50 (.un .not (.t 49))] (.cond (.t 50) (qR [oO 2 (.mv (.c (.bool false)))] .ret) .skip)))) (.region [oM 27 3,oO 28 (.bin .add (.t 27) (nI 1)),oM 3 28])))))) (qR [oO 2 (.mv (.c (.bool true)))] .ret))),.pure,true,true⟩
theorem k29:compF Try.prog pP Try.f29=some c29:=by kernel_rfl
def c30:AFunc:=⟨81,[.tmp 2,.tmp 3],qR [oO 1 (.box (.t 0)),oO 2 (.mv (.c oS)),oO 3 (.mv (nI 0))] (qR [oR 9 5 1,oO 10 (.call 47 [.t 9]),oM 4 10] (.seq (qR [oM 11 4,oO 12 (.un .not (.t 11))] (.cond (.t 12) (qR [oO 2 (.mv (.c oS)),oO 3 (.mv (nI 1))] .ret) .skip)) (qR [oF 13 0 1,oL 14 1 13,oF 16 1 1,oL 17 1 16,oF 20 2 1,oL 21 1 20,oF 24 3 1,oL 25 1 24,oF 28 4 1,oL 29 1 28,oO 30 (.len false (.t 29)),⟨(some 15),.call 48 [.t 14],none,[.t 16,.t 20,.t 24,.t 28]⟩,⟨(some 18),.call 48 [.t 17],none,[.t 20,.t 24,.t 28]⟩,oO 19 (.bin .add (.t 15) (.t 18)),⟨(some 22),.call 49 [.c (.int .i64 8),.t 21],none,[.t 24,.t 28]⟩,oO 23 (.bin .add (.t 19) (.t 22)),⟨(some 26),.call 49 [.c (.int .i64 8),.t 25],none,[.t 28]⟩,oO 27 (.bin .add (.t 23) (.t 26)),oO 31 (.call 49 [nI 2,.t 30]),oO 32 (.bin .add (.t 27) (.t 31)),oM 5 32] (.seq (qR [oO 6 (.mv (nI 0))] (.block 0 (.loop (.seq (qR [oM 33 6,oF 34 4 1,oL 35 1 34,oO 36 (.len false (.t 35)),oO 37 (.bin .lss (.t 33) (.t 36))] (.cond (.t 37) .skip (.exit 0))) (.seq (.block 1 (qR [oF 40 4 1,oL 41 1 40,oM 42 6,oO 43 (.iaddrS 3 (.t 41) (.t 42)),oR 44 3 43,oO 7 (.alloc [oS,oN,oZ]),oU (.store 3 (.t 7) (.t 44))] (qR [oM 45 5,oF 46 0 7,oL 47 1 46,oF 50 1 7,oL 51 1 50,oO 52 (.len false (.t 51)),⟨(some 48),.call 48 [.t 47],none,[.t 50]⟩,oO 49 (.bin .add (.t 45) (.t 48)),oO 53 (.call 49 [nI 1,.t 52]),oO 54 (.bin .add (.t 49) (.t 53)),oM 5 54] (.seq (qR [oO 8 (.mv (nI 0))] (.block 2 (.loop (.seq (qR [oM 55 8,oF 56 1 7,oL 57 1 56,oO 58 (.len false (.t 57)),oO 59 (.bin .lss (.t 55) (.t 58))] (.cond (.t 59) .skip (.exit 2))) (.seq (.block 3 (.region [oM 62 5,oF 63 1 7,oL 64 1 63,oM 65 8,oO 66 (.iaddrS 4 (.t 64) (.t 65)),oR 67 4 66,oO 68 (.call 50 [.t 67]),oO 69 (.bin .add (.t 62) (.t 68)),oM 5 69])) (.region [oM 60 8,oO 61 (.bin .add (.t 60) (nI 1)),oM 8 61])))))) (.region [oM 70 5,oF 71 2 7,oL 72 1 71,oO 73 (.call 49 [nI 8,.t 72]),oO 74 (.bin .add (.t 70) (.t 73)),oM 5 74]))))) (.region [oM 38 6,oO 39 (.bin .add (.t 38) (nI 1)),oM 6 39])))))) (qR [oM 75 5,oM 76 5,oO 77 (.call 51 [.t 76]),oO 78 (.conv .i64 (.t 77)),oO 79 (.call 49 [nI 4,.t 78]),oO 80 (.bin .add (.t 75) (.t 79)),oM 2 80,oO 3 (.mv (nI 0))] .ret))))),.pure,true,true⟩
theorem k30:compF Try.prog pP Try.f30=some c30:=by kernel_rfl
def c31:AFunc:=⟨84,[.tmp 2],qR [oO 2 (.mv (.c oN))] (qR [oO 3 (.mv (.c oN))] (.seq (qR [oO 4 (.mv (nI 0))] (.block 0 (.loop (.seq (qR [oM 9 4,oM 10 0,oO 11 (.len false (.t 10)),oO 12 (.bin .lss (.t 9) (.t 11))] (.cond (.t 12) .skip (.exit 0))) (.seq (.block 1 (qR [oO 5 (.mv (nI 0))] (qR [oM 15 3,oO 16 (.len false (.t 15)),oM 6 16] (.seq (.block 2 (.loop (.seq (qR [oM 17 5,oM 18 6,oO 19 (.bin .lss (.t 17) (.t 18))] (.cond (.t 19) .skip (.exit 2))) (.block 3 (qR [oM 20 5,oM 21 6,oO 22 (.bin .add (.t 20) (.t 21)),oO 23 (.bin .quo (.t 22) (nI 2)),oM 7 23] (qR [oM 24 3,oM 25 7,oO 26 (.iaddrS 3 (.t 24) (.t 25)),oR 27 3 26,oM 28 0,oM 29 4,oO 30 (.iaddrS 3 (.t 28) (.t 29)),oR 31 3 30,oO 32 (.call 52 [.t 27,.t 31]),oO 33 (.bin .lss (.t 32) (nI 0))] (.cond (.t 33) (.region [oM 34 7,oO 35 (.bin .add (.t 34) (nI 1)),oM 5 35]) (.region [oM 36 7,oM 6 36])))))))) (.seq (qR [oM 37 5,oM 38 3,oO 39 (.len false (.t 38)),oO 40 (.bin .lss (.t 37) (.t 39)),oM 41 40,oG 42 (.mv (.t 3)) 41 true,oG 43 (.mv (.t 5)) 41 true,oG 44 (.iaddrS 3 (.t 42) (.t 43)) 41 true,oG 45 (.load 3 true (.t 44)) 41 true,oG 46 (.mv (.t 0)) 41 true,oG 47 (.mv (.t 4)) 41 true,oG 48 (.iaddrS 3 (.t 46) (.t 47)) 41 true,oG 49 (.load 3 true (.t 48)) 41 true,oG 50 (.call 52 [.t 45,.t 49]) 41 true,oG 51 (.bin .eql (.t 50) (nI 0)) 41 true,oO 52 (.pick (.t 41) (.t 51) (.c (.bool false)))] (.cond (.t 52) (qR [oM 53 3,oM 54 5,oM 55 3,oM 56 5,oO 57 (.iaddrS 3 (.t 55) (.t 56)),oF 58 2 57,oL 59 1 58,oM 60 0,oM 61 4,oO 62 (.iaddrS 3 (.t 60) (.t 61)),oF 63 2 62,oL 64 1 63,oO 65 (.max [.t 59,.t 64]),oO 66 (.iaddrS 3 (.t 53) (.t 54)),oF 67 2 66,oU (.store 1 (.t 67) (.t 65))] (.exit 1)) .skip)) (qR [oM 68 3,oM 69 5,oO 70 (.slSl 3 (.t 68) (some (.t 69)) none),oO 71 (.append 3 true 48 false (.c oN) (.t 70)),oM 8 71] (.region [oM 72 3,oM 73 5,oO 74 (.slSl 3 (.t 72) none (some (.t 73))),oM 75 0,oM 76 4,oO 77 (.iaddrS 3 (.t 75) (.t 76)),oR 78 3 77,oO 79 (.buildSl 1 3 true [oS,oN,oZ] [(0,3,.t 78)]),oM 81 8,oO 80 (.append 3 true 48 false (.t 74) (.t 79)),oO 82 (.append 3 true 48 false (.t 80) (.t 81)),oM 3 82]))))))) (.region [oM 13 4,oO 14 (.bin .add (.t 13) (nI 1)),oM 4 14])))))) (qR [oM 83 3,oM 2 83] .ret))),.pure,true,true⟩
theorem k31:compF Try.prog pP Try.f31=some c31:=by kernel_rfl
def c32:AFunc:=⟨28,[.tmp 4],qR [oO 4 (.mv (.c oN))] (qR [oO 5 (.mv (.c oN))] (.seq (qR [oO 6 (.mv (nI 0))] (.block 0 (.loop (.seq (qR [oM 7 6,oM 8 0,oO 9 (.len false (.t 8)),oO 10 (.bin .lss (.t 7) (.t 9))] (.cond (.t 10) .skip (.exit 0))) (.seq (.block 1 (qR [oM 13 0,oM 14 6,oO 15 (.iaddrS 3 (.t 13) (.t 14)),oF 16 2 15,oL 17 1 16,oM 18 1,oO 19 (.bin .geq (.t 17) (.t 18))] (.cond (.t 19) (.region [oM 20 5,oM 21 0,oM 22 6,oO 23 (.iaddrS 3 (.t 21) (.t 22)),oR 24 3 23,oO 25 (.buildSl 1 3 true [oS,oN,oZ] [(0,3,.t 24)]),oO 26 (.append 3 true 48 false (.t 20) (.t 25)),oM 5 26]) .skip))) (.region [oM 11 6,oO 12 (.bin .add (.t 11) (nI 1)),oM 6 12])))))) (qR [oM 27 5,oM 4 27] .ret))),.pure,true,true⟩
theorem k32:compF Try.prog pP Try.f32=some c32:=by kernel_rfl
def c33:AFunc:=⟨9,[.tmp 2],qR [oO 2 (.mv (.c oN))] (qR [oM 3 0,oO 4 (.call 53 [.t 3]),oM 0 4] (qR [oM 5 0,oO 6 (.call 54 [.t 5,.f 55])] (qR [oM 7 0,oO 8 (.call 57 [.t 7,.f 58]),oM 2 8] .ret))),.raw,true,false⟩
theorem k33:compF Try.prog {mt:=false,mtAt:=[],mode:=.raw,clArgs:=true,clRes:=false} Try.f33=some c33:=by kernel_rfl
def c35:AFunc:=⟨29,[.cell 2 4 true],qR [oO 1 (.box (.t 0)),oO 2 (.alloc [oZ,oZ,oS,oN])] (.seq (qR [oF 5 3 1,oL 6 1 5,oO 7 (.len false (.t 6)),oO 8 (.bin .gtr (.t 7) (nI 0))] (.cond (.t 8) (qR [oF 9 3 1,oL 10 1 9,oO 11 (.call 34 [.t 10]),oF 12 3 1,oU (.store 1 (.t 12) (.t 11))] (qR [oF 13 3 1,oL 14 1 13,oO 15 (.len false (.t 14)),oO 16 (.mv (nI 0))] (.block 0 (.loop (qR [oO 17 (.bin .lss (.t 16) (.t 15))] (.seq (.cond (.t 17) .skip (.exit 0)) (.seq (.block 1 (qR [oM 18 16,oO 19 (.iaddrS 4 (.t 14) (.t 16)),oR 20 4 19,oO 4 (.alloc [oZ,oZ,oS,oN]),oM 3 18,oU (.store 4 (.t 4) (.t 20))] (.region [oF 21 3 1,oL 22 1 21,oM 23 3,oR 24 4 4,⟨(some 25),.call 35 [.t 24],none,[.t 21]⟩,oO 26 (.iaddrS 4 (.t 22) (.t 23)),oU (.store 4 (.t 26) (.t 25))]))) (.region [oO 27 (.bin .add (.t 16) (nI 1)),oM 16 27])))))))) .skip)) (qR [oR 28 4 1,oU (.store 4 (.t 2) (.t 28))] .ret)),.pure,true,true⟩
theorem k35:compF Try.prog pP Try.f35=some c35:=by kernel_rfl
def c36:AFunc:=⟨13,[.tmp 4],qR [oO 4 (.mv (nI 0))] (.seq (qR [oM 5 0,oO 6 (.bin .lss (.t 5) (nI 0))] (.cond (.t 6) (.region [oM 7 0,oO 8 (.bin .add (.t 7) (nI 1)),oO 9 (.un .neg (.t 8)),oM 0 9]) .skip)) (qR [oM 10 0,oM 11 1,oO 12 (.bin .rem (.t 10) (.t 11)),oM 4 12] .ret)),.pure,true,true⟩
theorem k36:compF Try.prog pP Try.f36=some c36:=by kernel_rfl
def c37:AFunc:=⟨37,[.tmp 2],qR [oO 2 (.mv (.c oN))] (qR [oO 3 (.mv (.c oN))] (.seq (qR [oO 4 (.mv (nI 0))] (.block 0 (.loop (.seq (qR [oM 6 4,oM 7 0,oO 8 (.len false (.t 7)),oO 9 (.bin .lss (.t 6) (.t 8)),oM 10 9,oG 11 (.mv (.t 4)) 10 true,oG 12 (.bin .lss (.t 11) (nI 40)) 10 true,oO 13 (.pick (.t 10) (.t 12) (.c (.bool false)))] (.cond (.t 13) .skip (.exit 0))) (.seq (.block 1 (qR [oM 16 0,oM 17 4,oO 18 (.iaddrS 6 (.t 16) (.t 17)),oR 19 6 18,oO 20 (.call 59 [.t 19]),oO 5 (.alloc [oS,oN]),oU (.store 2 (.t 5) (.t 20))] (.region [oM 21 3,oF 22 0 5,oL 23 1 22,oF 24 1 5,oL 25 1 24,oM 26 0,oM 27 4,oO 28 (.iaddrS 6 (.t 26) (.t 27)),oF 29 2 28,oO 30 (.iaddrA 4 1 (.t 29) (nI 3)),oL 31 1 30,⟨(some 32),.call 60 [.t 31,.c (.int .i64 9)],none,[.t 22,.t 24]⟩,oO 33 (.build [oS,oN,oZ] [(0,1,.t 23),(1,1,.t 25),(2,1,.t 32)]),oO 34 (.buildSl 1 3 true [oS,oN,oZ] [(0,3,.t 33)]),oO 35 (.append 3 true 48 false (.t 21) (.t 34)),oM 3 35]))) (.region [oM 14 4,oO 15 (.bin .add (.t 14) (nI 1)),oM 4 15])))))) (qR [oM 36 3,oM 2 36] .ret))),.pure,true,true⟩
theorem k37:compF Try.prog pP Try.f37=some c37:=by kernel_rfl
def c38:AFunc:=⟨5,[.cell 2 4 true],qR [oO 1 (.box (.t 0)),oO 2 (.alloc [oZ,oZ,oS,oN])] (qR [oR 3 4 1,oO 4 (.call 61 [.t 3,nI 4]),oU (.store 4 (.t 2) (.t 4))] .ret),.pure,true,true⟩
theorem k38:compF Try.prog pP Try.f38=some c38:=by kernel_rfl
def c39:AFunc:=⟨69,[.tmp 2],qR [oO 1 (.box (.t 0)),oO 2 (.mv (.c (.bool false)))] (.seq (qR [oF 5 0 1,oL 6 1 5,oO 7 (.call 23 [.t 6]),oO 8 (.un .not (.t 7)),oM 9 8,oG 10 (.faddr 1 (.t 1)) 9 false,oG 11 (.load 1 false (.t 10)) 9 false,oG 12 (.call 23 [.t 11]) 9 false,oG 13 (.un .not (.t 12)) 9 false,oO 14 (.pick (.t 9) (.c (.bool true)) (.t 13)),oM 15 14,oG 16 (.faddr 0 (.t 1)) 15 false,oG 17 (.load 1 false (.t 16)) 15 false,oG 18 (.faddr 1 (.t 1)) 15 false,oG 19 (.load 1 false (.t 18)) 15 false,oG 20 (.bin .eql (.t 17) (.t 19)) 15 false,oO 21 (.pick (.t 15) (.c (.bool true)) (.t 20)),oM 22 21,oG 23 (.faddr 2 (.t 1)) 22 false,oG 24 (.load 1 false (.t 23)) 22 false,oG 25 (.call 62 [.t 24]) 22 false,oG 26 (.un .not (.t 25)) 22 false,oO 27 (.pick (.t 22) (.c (.bool true)) (.t 26)),oM 28 27,oG 29 (.faddr 3 (.t 1)) 28 false,oG 30 (.load 1 false (.t 29)) 28 false,oG 31 (.call 62 [.t 30]) 28 false,oG 32 (.un .not (.t 31)) 28 false,oO 33 (.pick (.t 28) (.c (.bool true)) (.t 32)),oM 34 33,oG 35 (.faddr 4 (.t 1)) 34 false,oG 36 (.load 1 false (.t 35)) 34 false,oG 37 (.len false (.t 36)) 34 false,oG 38 (.bin .gtr (.t 37) (nI 400)) 34 false,oO 39 (.pick (.t 34) (.c (.bool true)) (.t 38))] (.cond (.t 39) (qR [oO 2 (.mv (.c (.bool false)))] .ret) .skip)) (.seq (qR [oF 40 4 1,oL 41 1 40,oO 42 (.len false (.t 41)),oO 43 (.mv (nI 0))] (.block 0 (.loop (qR [oO 44 (.bin .lss (.t 43) (.t 42))] (.seq (.cond (.t 44) .skip (.exit 0)) (.seq (.block 1 (qR [oM 45 43,oO 46 (.iaddrS 3 (.t 41) (.t 43)),oR 47 3 46,oO 4 (.alloc [oS,oN,oZ]),oM 3 45,oU (.store 3 (.t 4) (.t 47))] (qR [oR 48 3 4,oF 49 1 1,oL 50 1 49,oO 51 (.call 63 [.t 48,.t 50]),oO 52 (.un .not (.t 51)),oM 53 52,oG 54 (.mv (.t 3)) 53 false,oG 55 (.bin .gtr (.t 54) (nI 0)) 53 false,oG 56 (.mv (.t 55)) 53 false,oG 57 (.faddr 4 (.t 1)) 56 true,oG 58 (.load 1 false (.t 57)) 56 true,oG 59 (.mv (.t 3)) 56 true,oG 60 (.bin .sub (.t 59) (nI 1)) 56 true,oG 61 (.iaddrS 3 (.t 58) (.t 60)) 56 true,oG 62 (.load 3 true (.t 61)) 56 true,oG 63 (.load 3 true (.t 4)) 56 true,oG 64 (.call 56 [.t 62,.t 63]) 56 true,oG 65 (.bin .geq (.t 64) (nI 0)) 56 true,oG 66 (.pick (.t 56) (.t 65) (.c (.bool false))) 53 false,oO 67 (.pick (.t 53) (.c (.bool true)) (.t 66))] (.cond (.t 67) (qR [oO 2 (.mv (.c (.bool false)))] .ret) .skip)))) (.region [oO 68 (.bin .add (.t 43) (nI 1)),oM 43 68]))))))) (qR [oO 2 (.mv (.c (.bool true)))] .ret))),.pure,true,true⟩
theorem k39:compF Try.prog pP Try.f39=some c39:=by kernel_rfl
def c40:AFunc:=⟨15,[],qR [oM 4 0,oM 5 1,oO 6 (.len true (.t 5)),oO 7 (.call 41 [.t 4,nI 1,.t 6])] (.region [oM 8 0,oM 9 0,oO 10 (.nilck (.t 9)),oL 11 1 10,oM 12 1,oO 13 (.append 1 false 1 false (.t 11) (.t 12)),oO 14 (.nilck (.t 8)),oU (.store 1 (.t 14) (.t 13))]),.raw,false,false⟩
theorem k40:compF Try.prog {mt:=false,mtAt:=[],mode:=.raw,clArgs:=false,clRes:=false} Try.f40=some c40:=by kernel_rfl
def c41:AFunc:=⟨29,[],qR [oO 6 (.alloc [.int .u8 0,.int .u8 0,.int .u8 0,.int .u8 0,.int .u8 0,.int .u8 0,.int .u8 0,.int .u8 0])] (.seq (qR [oO 8 (.mv (nI 0))] (.block 0 (.loop (qR [oO 9 (.bin .lss (.t 8) (nI 8))] (.seq (.cond (.t 9) .skip (.exit 0)) (.seq (.block 1 (qR [oM 10 8,oM 7 10] (.region [oM 11 7,oO 12 (.bin .sub (nI 7) (.t 11)),oM 13 2,oM 14 7,oO 15 (.bin .mul (nI 8) (.t 14)),oO 16 (.bin .shr (.t 13) (.t 15)),oO 17 (.conv .u8 (.t 16)),oO 18 (.iaddrA 8 1 (.t 6) (.t 12)),oU (.store 1 (.t 18) (.t 17))]))) (.region [oO 19 (.bin .add (.t 8) (nI 1)),oM 8 19]))))))) (.region [oM 20 0,oM 21 0,oO 22 (.nilck (.t 21)),oL 23 1 22,oM 24 1,oO 25 (.bin .sub (nI 8) (.t 24)),oO 26 (.arrSl 8 1 false (.t 6) (some (.t 25)) none),oO 27 (.append 1 false 1 false (.t 23) (.t 26)),oO 28 (.nilck (.t 20)),oU (.store 1 (.t 28) (.t 27))])),.raw,false,false⟩
theorem k41:compF Try.prog {mt:=false,mtAt:=[],mode:=.raw,clArgs:=false,clRes:=false} Try.f41=some c41:=by kernel_rfl
def c42:AFunc:=⟨40,[],qR [oO 3 (.box (.t 1))] (qR [oM 6 0,oF 7 0 3,oL 8 1 7,oO 9 (.call 41 [.t 6,nI 1,.t 8])] (qR [oF 10 0 3,oL 11 1 10] (.block 0 (qR [oO 17 (.bin .eql (.t 11) (nI 1)),oM 16 17] (.cond (.t 16) (.region [oM 18 0,oF 19 1 3,oL 20 1 19,oO 21 (.call 41 [.t 18,nI 8,.t 20])]) (qR [oO 23 (.bin .eql (.t 11) (nI 4)),oM 22 23] (.cond (.t 22) (qR [oM 24 0,oF 25 3 3,oL 26 1 25,oO 27 (.len false (.t 26)),oO 28 (.call 41 [.t 24,nI 1,.t 27])] (qR [oF 29 3 3,oL 30 1 29,oO 31 (.len false (.t 30)),oO 32 (.mv (nI 0))] (.block 1 (.loop (qR [oO 33 (.bin .lss (.t 32) (.t 31))] (.seq (.cond (.t 33) .skip (.exit 1)) (.seq (.block 2 (qR [oO 34 (.iaddrS 4 (.t 30) (.t 32)),oR 35 4 34,oO 5 (.alloc [oZ,oZ,oS,oN]),oU (.store 4 (.t 5) (.t 35))] (.region [oM 36 0,oR 37 4 5,oO 38 (.call 42 [.t 36,.t 37])]))) (.region [oO 39 (.bin .add (.t 32) (nI 1)),oM 32 39])))))))) (.region [oM 12 0,oF 13 2 3,oL 14 1 13,oO 15 (.call 40 [.t 12,.t 14])])))))))),.raw,false,false⟩
theorem k42:compF Try.prog {mt:=false,mtAt:=[],mode:=.raw,clArgs:=false,clRes:=false} Try.f42=some c42:=by kernel_rfl
def c43:AFunc:=⟨20,[.tmp 2],qR [oO 2 (.mv (.c (.int .u32 0)))] (qR [oO 3 (.mv (.c (.int .u32 2166136261)))] (.seq (qR [oM 6 0,oO 7 (.s2b (.t 6)),oO 8 (.len false (.t 7)),oO 9 (.mv (nI 0))] (.block 0 (.loop (qR [oO 10 (.bin .lss (.t 9) (.t 8))] (.seq (.cond (.t 10) .skip (.exit 0)) (.seq (.block 1 (qR [oO 11 (.iaddrS 1 (.t 7) (.t 9)),oL 12 1 11,oM 5 12] (.region [oM 13 3,oM 14 5,oO 15 (.conv .u32 (.t 14)),oO 16 (.bin .xor (.t 13) (.t 15)),oO 17 (.bin .mul (.t 16) (.c (.int .u32 16777619))),oM 3 17]))) (.region [oO 18 (.bin .add (.t 9) (nI 1)),oM 9 18]))))))) (qR [oM 19 3,oM 2 19] .ret))),.pure,true,true⟩
theorem k43:compF Try.prog pP Try.f43=some c43:=by kernel_rfl
def c44:AFunc:=⟨18,[.tmp 2],qR [oO 2 (.mv (nI 0))] (qR [oO 3 (.mv (nI 0))] (.seq (qR [oM 6 0,oO 7 (.len false (.t 6)),oO 8 (.mv (nI 0))] (.block 0 (.loop (qR [oO 9 (.bin .lss (.t 8) (.t 7))] (.seq (.cond (.t 9) .skip (.exit 0)) (.seq (.block 1 (qR [oO 10 (.iaddrS 1 (.t 6) (.t 8)),oL 11 1 10,oM 5 11] (qR [oM 12 5,oM 13 3,oO 14 (.bin .neq (.t 12) (.t 13))] (.cond (.t 14) (qR [oM 15 5,oM 2 15] .ret) .skip)))) (.region [oO 16 (.bin .add (.t 8) (nI 1)),oM 8 16]))))))) (qR [oM 17 3,oM 2 17] .ret))),.pure,true,true⟩
theorem k44:compF Try.prog pP Try.f44=some c44:=by kernel_rfl
def c45:AFunc:=⟨20,[.tmp 4],qR [oO 4 (.mv (nI 0))] (qR [oM 7 0,oO 8 (.call 64 [.t 7]),oM 5 8] (qR [oM 9 1,oO 10 (.call 64 [.t 9]),oM 6 10] (.seq (qR [oM 11 5] (.cond (.t 11) (.seq (qR [oM 12 6] (.cond (.t 12) (qR [oO 4 (.mv (nI 0))] .ret) .skip)) (qR [oO 4 (.mv (nI (-1)))] .ret)) .skip)) (.seq (qR [oM 13 6] (.cond (.t 13) (qR [oO 4 (.mv (nI 1))] .ret) .skip)) (.seq (qR [oM 14 0,oM 15 1,oO 16 (.bin .lss (.t 14) (.t 15))] (.cond (.t 16) (qR [oO 4 (.mv (nI (-1)))] .ret) .skip)) (.seq (qR [oM 17 0,oM 18 1,oO 19 (.bin .gtr (.t 17) (.t 18))] (.cond (.t 19) (qR [oO 4 (.mv (nI 1))] .ret) .skip)) (qR [oO 4 (.mv (nI 0))] .ret))))))),.pure,true,true⟩
theorem k45:compF Try.prog pP Try.f45=some c45:=by kernel_rfl
def c46:AFunc:=⟨31,[.tmp 4],qR [oO 2 (.box (.t 0)),oO 3 (.box (.t 1)),oO 4 (.mv (.c (.bool false)))] (qR [oF 5 0 2,oL 6 1 5,oF 7 0 3,oL 8 1 7,oO 9 (.bin .eql (.t 6) (.t 8)),oM 10 9,oG 11 (.faddr 1 (.t 2)) 10 true,oG 12 (.load 1 false (.t 11)) 10 true,oG 13 (.faddr 1 (.t 3)) 10 true,oG 14 (.load 1 false (.t 13)) 10 true,oG 15 (.bin .eql (.t 12) (.t 14)) 10 true,oO 16 (.pick (.t 10) (.t 15) (.c (.bool false))),oM 17 16,oG 18 (.faddr 2 (.t 2)) 17 true,oG 19 (.load 1 false (.t 18)) 17 true,oG 20 (.faddr 2 (.t 3)) 17 true,oG 21 (.load 1 false (.t 20)) 17 true,oG 22 (.bin .eql (.t 19) (.t 21)) 17 true,oO 23 (.pick (.t 17) (.t 22) (.c (.bool false))),oM 24 23,oG 25 (.faddr 3 (.t 2)) 24 true,oG 26 (.load 1 false (.t 25)) 24 true,oG 27 (.faddr 3 (.t 3)) 24 true,oG 28 (.load 1 false (.t 27)) 24 true,oG 29 (.call 28 [.t 26,.t 28]) 24 true,oO 30 (.pick (.t 24) (.t 29) (.c (.bool false))),oM 4 30] .ret),.pure,true,true⟩
theorem k46:compF Try.prog pP Try.f46=some c46:=by kernel_rfl
def c47:AFunc:=⟨142,[.tmp 2],qR [oO 1 (.box (.t 0)),oO 2 (.mv (.c (.bool false)))] (qR [oF 10 0 1,oL 11 1 10,oO 12 (.call 29 [.t 11]),oM 3 12] (qR [oF 13 1 1,oL 14 1 13,oO 15 (.call 29 [.t 14]),oM 4 15] (.seq (qR [oM 16 3,oO 17 (.un .not (.t 16)),oM 18 17,oG 19 (.mv (.t 4)) 18 false,oG 20 (.un .not (.t 19)) 18 false,oO 21 (.pick (.t 18) (.c (.bool true)) (.t 20)),oM 22 21,oG 23 (.faddr 0 (.t 1)) 22 false,oG 24 (.load 1 false (.t 23)) 22 false,oG 25 (.faddr 1 (.t 1)) 22 false,oG 26 (.load 1 false (.t 25)) 22 false,oG 27 (.bin .eql (.t 24) (.t 26)) 22 false,oO 28 (.pick (.t 22) (.c (.bool true)) (.t 27)),oM 29 28,oG 30 (.faddr 2 (.t 1)) 29 false,oG 31 (.load 1 false (.t 30)) 29 false,oG 32 (.bin .lss (.t 31) (nI 0)) 29 false,oO 33 (.pick (.t 29) (.c (.bool true)) (.t 32)),oM 34 33,oG 35 (.faddr 2 (.t 1)) 34 false,oG 36 (.load 1 false (.t 35)) 34 false,oG 37 (.bin .gtr (.t 36) (nI 1099511627776)) 34 false,oO 38 (.pick (.t 34) (.c (.bool true)) (.t 37)),oM 39 38,oG 40 (.faddr 3 (.t 1)) 39 false,oG 41 (.load 1 false (.t 40)) 39 false,oG 42 (.bin .lss (.t 41) (nI 0)) 39 false,oO 43 (.pick (.t 39) (.c (.bool true)) (.t 42)),oM 44 43,oG 45 (.faddr 3 (.t 1)) 44 false,oG 46 (.load 1 false (.t 45)) 44 false,oG 47 (.bin .gtr (.t 46) (nI 1099511627776)) 44 false,oO 48 (.pick (.t 44) (.c (.bool true)) (.t 47)),oM 49 48,oG 50 (.faddr 4 (.t 1)) 49 false,oG 51 (.load 1 false (.t 50)) 49 false,oG 52 (.len false (.t 51)) 49 false,oG 53 (.bin .gtr (.t 52) (nI 400)) 49 false,oO 54 (.pick (.t 49) (.c (.bool true)) (.t 53))] (.cond (.t 54) (qR [oO 2 (.mv (.c (.bool false)))] .ret) .skip)) (.seq (qR [oO 5 (.mv (nI 0))] (.block 0 (.loop (.seq (qR [oM 55 5,oF 56 4 1,oL 57 1 56,oO 58 (.len false (.t 57)),oO 59 (.bin .lss (.t 55) (.t 58))] (.cond (.t 59) .skip (.exit 0))) (.seq (.block 1 (qR [oF 62 4 1,oL 63 1 62,oM 64 5,oO 65 (.iaddrS 3 (.t 63) (.t 64)),oR 66 3 65,oO 6 (.alloc [oS,oN,oZ]),oU (.store 3 (.t 6) (.t 66))] (qR [oF 67 0 6,oL 68 1 67,oO 69 (.call 29 [.t 68]),oM 7 69] (.seq (qR [oM 70 7,oO 71 (.un .not (.t 70)),oM 72 71,oG 73 (.faddr 1 (.t 6)) 72 false,oG 74 (.load 1 false (.t 73)) 72 false,oG 75 (.len false (.t 74)) 72 false,oG 76 (.bin .lss (.t 75) (nI 1)) 72 false,oO 77 (.pick (.t 72) (.c (.bool true)) (.t 76)),oM 78 77,oG 79 (.faddr 1 (.t 6)) 78 false,oG 80 (.load 1 false (.t 79)) 78 false,oG 81 (.len false (.t 80)) 78 false,oG 82 (.bin .gtr (.t 81) (nI 8)) 78 false,oO 83 (.pick (.t 78) (.c (.bool true)) (.t 82)),oM 84 83,oG 85 (.faddr 2 (.t 6)) 84 false,oG 86 (.load 1 false (.t 85)) 84 false,oG 87 (.bin .lss (.t 86) (nI 0)) 84 false,oO 88 (.pick (.t 84) (.c (.bool true)) (.t 87)),oM 89 88,oG 90 (.faddr 2 (.t 6)) 89 false,oG 91 (.load 1 false (.t 90)) 89 false,oG 92 (.bin .gtr (.t 91) (nI 1099511627776)) 89 false,oO 93 (.pick (.t 89) (.c (.bool true)) (.t 92)),oM 94 93,oG 95 (.faddr 1 (.t 6)) 94 false,oG 96 (.load 1 false (.t 95)) 94 false,oG 97 (.iaddrS 4 (.t 96) (nI 0)) 94 false,oG 98 (.faddr 0 (.t 97)) 94 false,oG 99 (.load 1 false (.t 98)) 94 false,oG 100 (.bin .neq (.t 99) (nI 3)) 94 false,oO 101 (.pick (.t 94) (.c (.bool true)) (.t 100)),oM 102 101,oG 103 (.faddr 1 (.t 6)) 102 false,oG 104 (.load 1 false (.t 103)) 102 false,oG 105 (.iaddrS 4 (.t 104) (nI 0)) 102 false,oG 106 (.faddr 2 (.t 105)) 102 false,oG 107 (.load 1 false (.t 106)) 102 false,oG 108 (.faddr 1 (.t 1)) 102 false,oG 109 (.load 1 false (.t 108)) 102 false,oG 110 (.bin .neq (.t 107) (.t 109)) 102 false,oO 111 (.pick (.t 102) (.c (.bool true)) (.t 110)),oM 112 111,oG 113 (.mv (.t 5)) 112 false,oG 114 (.bin .gtr (.t 113) (nI 0)) 112 false,oG 115 (.mv (.t 114)) 112 false,oG 116 (.faddr 4 (.t 1)) 115 true,oG 117 (.load 1 false (.t 116)) 115 true,oG 118 (.mv (.t 5)) 115 true,oG 119 (.bin .sub (.t 118) (nI 1)) 115 true,oG 120 (.iaddrS 3 (.t 117) (.t 119)) 115 true,oG 121 (.load 3 true (.t 120)) 115 true,oG 122 (.load 3 true (.t 6)) 115 true,oG 123 (.call 52 [.t 121,.t 122]) 115 true,oG 124 (.bin .geq (.t 123) (nI 0)) 115 true,oG 125 (.pick (.t 115) (.t 124) (.c (.bool false))) 112 false,oO 126 (.pick (.t 112) (.c (.bool true)) (.t 125))] (.cond (.t 126) (qR [oO 2 (.mv (.c (.bool false)))] .ret) .skip)) (qR [oO 8 (.mv (nI 0))] (.block 2 (.loop (.seq (qR [oM 127 8,oF 128 1 6,oL 129 1 128,oO 130 (.len false (.t 129)),oO 131 (.bin .lss (.t 127) (.t 130))] (.cond (.t 131) .skip (.exit 2))) (.seq (.block 3 (qR [oF 134 1 6,oL 135 1 134,oM 136 8,oO 137 (.iaddrS 4 (.t 135) (.t 136)),oR 138 4 137,oO 139 (.call 65 [.t 138]),oM 9 139] (qR [oM 140 9,oO 141 (.un .not (.t 140))] (.cond (.t 141) (qR [oO 2 (.mv (.c (.bool false)))] .ret) .skip)))) (.region [oM 132 8,oO 133 (.bin .add (.t 132) (nI 1)),oM 8 133])))))))))) (.region [oM 60 5,oO 61 (.bin .add (.t 60) (nI 1)),oM 5 61])))))) (qR [oO 2 (.mv (.c (.bool true)))] .ret))))),.pure,true,true⟩
theorem k47:compF Try.prog pP Try.f47=some c47:=by kernel_rfl
def c48:AFunc:=⟨8,[.tmp 2],qR [oO 2 (.mv (.c oS))] (qR [oM 3 0,oO 4 (.len true (.t 3)),oO 5 (.call 49 [nI 1,.t 4]),oM 6 0,oO 7 (.bin .add (.t 5) (.t 6)),oM 2 7] .ret),.pure,true,true⟩
theorem k48:compF Try.prog pP Try.f48=some c48:=by kernel_rfl
def c49:AFunc:=⟨21,[.tmp 4],qR [oO 4 (.mv (.c oS))] (qR [oO 5 (.mv (.c oS))] (.seq (qR [oO 6 (.mv (nI 0))] (.block 0 (.loop (.seq (qR [oM 7 6,oM 8 0,oO 9 (.bin .lss (.t 7) (.t 8))] (.cond (.t 9) .skip (.exit 0))) (.seq (.block 1 (qR [oM 12 1,oO 13 (.conv .u8 (.t 12)),oO 14 (.buildSl 1 1 false [.int .u8 0] [(0,1,.t 13)]),oO 15 (.b2s (.t 14)),oM 16 5,oO 17 (.bin .add (.t 15) (.t 16)),oM 5 17] (.region [oM 18 1,oO 19 (.bin .shr (.t 18) (.c (.int .u64 8))),oM 1 19]))) (.region [oM 10 6,oO 11 (.bin .add (.t 10) (nI 1)),oM 6 11])))))) (qR [oM 20 5,oM 4 20] .ret))),.pure,true,true⟩
theorem k49:compF Try.prog pP Try.f49=some c49:=by kernel_rfl
def c50:AFunc:=⟨47,[.tmp 2],qR [oO 1 (.box (.t 0)),oO 2 (.mv (.c oS))] (qR [oF 5 0 1,oL 6 1 5,oO 7 (.call 49 [nI 1,.t 6]),oM 3 7] (.seq (qR [oF 8 0 1,oL 9 1 8] (.block 0 (qR [oO 11 (.bin .eql (.t 9) (nI 1)),oM 10 11] (.cond (.t 10) (qR [oM 12 3,oF 13 1 1,oL 14 1 13,oO 15 (.call 49 [nI 8,.t 14]),oO 16 (.bin .add (.t 12) (.t 15)),oM 2 16] .ret) (.seq (qR [oO 18 (.bin .eql (.t 9) (nI 2)),oM 17 18] (.cond (.t 17) .skip (.region [oO 19 (.bin .eql (.t 9) (nI 3)),oM 17 19]))) (.cond (.t 17) (qR [oM 20 3,oF 21 2 1,oL 22 1 21,oO 23 (.call 48 [.t 22]),oO 24 (.bin .add (.t 20) (.t 23)),oM 2 24] .ret) .skip)))))) (qR [oM 25 3,oF 26 3 1,oL 27 1 26,oO 28 (.len false (.t 27)),oO 29 (.call 49 [nI 1,.t 28]),oO 30 (.bin .add (.t 25) (.t 29)),oM 3 30] (.seq (qR [oO 4 (.mv (nI 0))] (.block 1 (.loop (.seq (qR [oM 31 4,oF 32 3 1,oL 33 1 32,oO 34 (.len false (.t 33)),oO 35 (.bin .lss (.t 31) (.t 34))] (.cond (.t 35) .skip (.exit 1))) (.seq (.block 2 (.region [oM 38 3,oF 39 3 1,oL 40 1 39,oM 41 4,oO 42 (.iaddrS 4 (.t 40) (.t 41)),oR 43 4 42,oO 44 (.call 50 [.t 43]),oO 45 (.bin .add (.t 38) (.t 44)),oM 3 45])) (.region [oM 36 4,oO 37 (.bin .add (.t 36) (nI 1)),oM 4 37])))))) (qR [oM 46 3,oM 2 46] .ret))))),.pure,true,true⟩
theorem k50:compF Try.prog pP Try.f50=some c50:=by kernel_rfl
def c51:AFunc:=⟨19,[.tmp 2],qR [oO 2 (.mv (.c (.int .u32 0)))] (qR [oO 3 (.mv (.c (.int .u32 2166136261)))] (.seq (qR [oO 4 (.mv (nI 0))] (.block 0 (.loop (.seq (qR [oM 5 4,oM 6 0,oO 7 (.len true (.t 6)),oO 8 (.bin .lss (.t 5) (.t 7))] (.cond (.t 8) .skip (.exit 0))) (.seq (.block 1 (.region [oM 11 3,oM 12 0,oM 13 4,oO 14 (.idxStr (.t 12) (.t 13)),oO 15 (.conv .u32 (.t 14)),oO 16 (.bin .xor (.t 11) (.t 15)),oO 17 (.bin .mul (.t 16) (.c (.int .u32 16777619))),oM 3 17])) (.region [oM 9 4,oO 10 (.bin .add (.t 9) (nI 1)),oM 4 10])))))) (qR [oM 18 3,oM 2 18] .ret))),.pure,true,true⟩
theorem k51:compF Try.prog pP Try.f51=some c51:=by kernel_rfl
def c52:AFunc:=⟨22,[.tmp 4],qR [oO 2 (.box (.t 0)),oO 3 (.box (.t 1)),oO 4 (.mv (nI 0))] (.seq (qR [oF 5 0 2,oL 6 1 5,oF 7 0 3,oL 8 1 7,oO 9 (.bin .neq (.t 6) (.t 8))] (.cond (.t 9) (.seq (qR [oF 10 0 2,oL 11 1 10,oF 12 0 3,oL 13 1 12,oO 14 (.bin .lss (.t 11) (.t 13))] (.cond (.t 14) (qR [oO 4 (.mv (nI (-1)))] .ret) .skip)) (qR [oO 4 (.mv (nI 1))] .ret)) .skip)) (qR [oF 15 1 2,oL 16 1 15,oO 17 (.build [oZ,oZ,oS,oN] [(0,1,nI 4),(3,1,.t 16)]),oF 18 1 3,oL 19 1 18,oO 20 (.build [oZ,oZ,oS,oN] [(0,1,nI 4),(3,1,.t 19)]),oO 21 (.call 66 [.t 17,.t 20]),oM 4 21] .ret)),.pure,true,true⟩
theorem k52:compF Try.prog pP Try.f52=some c52:=by kernel_rfl
def c54:AFunc:=⟨9,[],.region [oM 4 0,oM 5 0,oO 6 (.len false (.t 5)),oM 7 1,oO 8 (.call 67 [.t 4,.t 6,.t 7])],.gc,false,false⟩
theorem k54:compF Try.prog pG Try.f54=some c54:=by kernel_rfl
def c55:AFunc:=⟨17,[.tmp 4],qR [oO 2 (.box (.t 0)),oO 3 (.box (.t 1)),oO 4 (.mv (nI 0))] (.seq (qR [oR 6 3 2,oR 7 3 3,oO 8 (.call 56 [.t 6,.t 7]),oM 5 8] (qR [oM 9 5,oO 10 (.bin .neq (.t 9) (nI 0))] (.cond (.t 10) (qR [oM 11 5,oM 4 11] .ret) .skip))) (qR [oF 12 2 3,oL 13 1 12,oF 14 2 2,oL 15 1 14,oO 16 (.call 45 [.t 13,.t 15]),oM 4 16] .ret)),.pure,true,true⟩
theorem k55:compF Try.prog pP Try.f55=some c55:=by kernel_rfl
def c56:AFunc:=⟨19,[.tmp 4],qR [oO 2 (.box (.t 0)),oO 3 (.box (.t 1)),oO 4 (.mv (nI 0))] (.seq (qR [oF 6 0 2,oL 7 1 6,oF 8 0 3,oL 9 1 8,oO 10 (.call 68 [.t 7,.t 9]),oM 5 10] (qR [oM 11 5,oO 12 (.bin .neq (.t 11) (nI 0))] (.cond (.t 12) (qR [oM 13 5,oM 4 13] .ret) .skip))) (qR [oF 14 1 2,oL 15 1 14,oF 16 1 3,oL 17 1 16,oO 18 (.call 69 [.t 15,.t 17,.f 70]),oM 4 18] .ret)),.pure,true,true⟩
theorem k56:compF Try.prog pP Try.f56=some c56:=by kernel_rfl
def c57:AFunc:=⟨66,[.tmp 4],qR [oO 4 (.mv (.c oN))] (.seq (qR [oM 8 0,oO 9 (.len false (.t 8)),oO 10 (.bin .lss (.t 9) (nI 2))] (.cond (.t 10) (qR [oM 11 0,oM 4 11] .ret) .skip)) (.seq (qR [oO 5 (.mv (nI 1))] (.block 0 (.loop (.seq (qR [oM 12 5,oM 13 0,oO 14 (.len false (.t 13)),oO 15 (.bin .lss (.t 12) (.t 14))] (.cond (.t 15) .skip (.exit 0))) (.seq (.block 1 (qR [oM 18 1,oM 19 0,oM 20 5,oO 21 (.iaddrS 3 (.t 19) (.t 20)),oR 22 3 21,oM 23 0,oM 24 5,oO 25 (.bin .sub (.t 24) (nI 1)),oO 26 (.iaddrS 3 (.t 23) (.t 25)),oR 27 3 26,oO 28 (.callv (.t 18) [.t 22,.t 27])] (.cond (.t 28) (qR [oM 29 0,oM 30 5,oO 31 (.slSl 3 (.t 29) (some (.t 30)) none),oM 6 31] (.seq (qR [oO 7 (.mv (nI 1))] (.block 2 (.loop (.seq (qR [oM 32 7,oM 33 6,oO 34 (.len false (.t 33)),oO 35 (.bin .lss (.t 32) (.t 34))] (.cond (.t 35) .skip (.exit 2))) (.seq (.block 3 (qR [oM 38 1,oM 39 6,oM 40 7,oO 41 (.iaddrS 3 (.t 39) (.t 40)),oR 42 3 41,oM 43 6,oM 44 7,oO 45 (.bin .sub (.t 44) (nI 1)),oO 46 (.iaddrS 3 (.t 43) (.t 45)),oR 47 3 46,oO 48 (.callv (.t 38) [.t 42,.t 47]),oO 49 (.un .not (.t 48))] (.cond (.t 49) (qR [oM 50 0,oM 51 5,oM 52 6,oM 53 7,oO 54 (.iaddrS 3 (.t 52) (.t 53)),oR 55 3 54,oO 56 (.iaddrS 3 (.t 50) (.t 51)),oU (.store 3 (.t 56) (.t 55))] (.region [oM 57 5,oO 58 (.bin .add (.t 57) (nI 1)),oM 5 58])) .skip))) (.region [oM 36 7,oO 37 (.bin .add (.t 36) (nI 1)),oM 7 37])))))) (qR [oM 59 0,oM 60 5,oO 61 (.slSl 3 (.t 59) (some (.t 60)) none),oU (.clear 3 [oS,oN,oZ] (.t 61))] (qR [oM 62 0,oM 63 5,oO 64 (.slSl 3 (.t 62) none (some (.t 63))),oM 4 64] .ret)))) .skip))) (.region [oM 16 5,oO 17 (.bin .add (.t 16) (nI 1)),oM 5 17])))))) (qR [oM 65 0,oM 4 65] .ret))),.gc,false,false⟩
theorem k57:compF Try.prog pG Try.f57=some c57:=by kernel_rfl
def c58:AFunc:=⟨9,[.tmp 4],qR [oO 2 (.box (.t 0)),oO 3 (.box (.t 1)),oO 4 (.mv (.c (.bool false)))] (qR [oR 5 3 2,oR 6 3 3,oO 7 (.call 56 [.t 5,.t 6]),oO 8 (.bin .eql (.t 7) (nI 0)),oM 4 8] .ret),.pure,true,true⟩
theorem k58:compF Try.prog pP Try.f58=some c58:=by kernel_rfl
def c59:AFunc:=⟨68,[.cell 2 2 true],qR [oO 1 (.box (.t 0)),oO 2 (.alloc [oS,oN])] (qR [oF 7 1 1,oL 8 1 7,oO 3 (.alloc [oS,oZ]),⟨(some 6),.call 71 [],none,[.t 7,.t 3]⟩,⟨(some 9),.call 72 [.t 8,.c (.int .i64 6)],none,[.t 3]⟩,oO 10 (.iaddrS 2 (.t 6) (.t 9)),oR 11 2 10,oU (.store 2 (.t 3) (.t 11))] (qR [oF 12 0 3,oL 13 1 12,oO 14 (.build [oS,oN] [(0,1,.t 13)]),oO 4 (.alloc [oS,oN]),oU (.store 2 (.t 4) (.t 14))] (.seq (qR [oO 5 (.mv (nI 0))] (.block 0 (.loop (.seq (qR [oM 15 5,oF 16 1 3,oL 17 1 16,oO 18 (.bin .lss (.t 15) (.t 17))] (.cond (.t 18) .skip (.exit 0))) (.seq (.block 1 (qR [oM 21 5,oO 22 (.bin .eql (.t 21) (nI 0)),oM 23 22,oG 24 (.mv (.t 5)) 23 false,oG 25 (.bin .eql (.t 24) (nI 1)) 23 false,oG 26 (.mv (.t 25)) 23 false,oG 27 (.faddr 0 (.t 3)) 26 true,oG 28 (.load 1 false (.t 27)) 26 true,oG 29 (.bin .eql (.t 28) (.c (.str ⟨#[108,105,110,107]⟩))) 26 true,oG 30 (.mv (.t 29)) 26 true,oG 31 (.mv (.t 5)) 30 false,oG 32 (.faddr 2 (.t 1)) 30 false,oG 33 (.iaddrA 4 1 (.t 32) (.t 31)) 30 false,oG 34 (.load 1 false (.t 33)) 30 false,oG 35 (.call 72 [.t 34,nI 2]) 30 false,oG 36 (.bin .eql (.t 35) (nI 0)) 30 false,oG 37 (.pick (.t 30) (.c (.bool true)) (.t 36)) 26 true,oG 38 (.pick (.t 26) (.t 37) (.c (.bool false))) 23 false,oO 39 (.pick (.t 23) (.c (.bool true)) (.t 38))] (.cond (.t 39) (.region [oF 40 1 4,oL 41 1 40,oO 42 (.buildSl 4 1 false [oS,oS,oS,oS] [(0,1,.c (.str ⟨#[97]⟩)),(1,1,.c (.str ⟨#[98]⟩)),(2,1,.c (.str ⟨#[99]⟩)),(3,1,.c (.str ⟨#[100]⟩))]),oM 43 5,oF 44 2 1,oO 45 (.iaddrA 4 1 (.t 44) (.t 43)),oL 46 1 45,oO 47 (.bin .quo (.t 46) (nI 2)),⟨(some 48),.call 72 [.t 47,.c (.int .i64 4)],none,[.t 40,.t 42]⟩,oO 49 (.iaddrS 1 (.t 42) (.t 48)),oL 50 1 49,oO 51 (.build [oZ,oZ,oS,oN] [(0,1,nI 3),(2,1,.t 50)]),oO 52 (.buildSl 1 4 true [oZ,oZ,oS,oN] [(0,4,.t 51)]),oO 53 (.append 4 true 56 false (.t 41) (.t 52)),oF 54 1 4,oU (.store 1 (.t 54) (.t 53))]) (.region [oF 55 1 4,oL 56 1 55,oM 57 5,oF 58 2 1,oO 59 (.iaddrA 4 1 (.t 58) (.t 57)),oL 60 1 59,oO 61 (.bin .quo (.t 60) (nI 2)),⟨(some 62),.call 72 [.t 61,.c (.int .i64 5)],none,[.t 55]⟩,oO 63 (.build [oZ,oZ,oS,oN] [(0,1,nI 1),(1,1,.t 62)]),oO 64 (.buildSl 1 4 true [oZ,oZ,oS,oN] [(0,4,.t 63)]),oO 65 (.append 4 true 56 false (.t 56) (.t 64)),oF 66 1 4,oU (.store 1 (.t 66) (.t 65))])))) (.region [oM 19 5,oO 20 (.bin .add (.t 19) (nI 1)),oM 5 20])))))) (qR [oR 67 2 4,oU (.store 2 (.t 2) (.t 67))] .ret)))),.pure,true,true⟩
theorem k59:compF Try.prog pP Try.f59=some c59:=by kernel_rfl
def c60:AFunc:=⟨13,[.tmp 4],qR [oO 4 (.mv (nI 0))] (.seq (qR [oM 5 0,oO 6 (.bin .lss (.t 5) (nI 0))] (.cond (.t 6) (.region [oM 7 0,oO 8 (.bin .add (.t 7) (nI 1)),oO 9 (.un .neg (.t 8)),oM 0 9]) .skip)) (qR [oM 10 0,oM 11 1,oO 12 (.bin .rem (.t 10) (.t 11)),oM 4 12] .ret)),.pure,true,true⟩
theorem k60:compF Try.prog pP Try.f60=some c60:=by kernel_rfl
def c61:AFunc:=⟨107,[.cell 4 4 true],qR [oO 2 (.box (.t 0)),oO 4 (.alloc [oZ,oZ,oS,oN])] (.seq (qR [oF 11 0 2,oL 12 1 11,oO 13 (.call 73 [.t 12,nI 4])] (.block 0 (qR [oO 15 (.bin .eql (.t 13) (nI 0)),oM 14 15] (.cond (.t 14) (qR [oF 16 1 2,oL 17 1 16,oO 18 (.call 73 [.t 17,nI 4294967295]),oO 19 (.bin .sub (.t 18) (nI 2147483647)),oM 5 19] (qR [oM 20 5,oO 21 (.build [oZ,oZ,oS,oN] [(0,1,nI 1),(1,1,.t 20)]),oU (.store 4 (.t 4) (.t 21))] .ret)) (qR [oO 23 (.bin .eql (.t 13) (nI 1)),oM 22 23] (.cond (.t 22) (qR [oF 24 2 2,oL 25 1 24,oF 26 2 2,oL 27 1 26,oO 28 (.len true (.t 27)),oO 29 (.min2 (.t 28) (nI 32)),oO 30 (.strSl (.t 25) none (some (.t 29))),oO 31 (.s2b (.t 30)),oM 6 31] (.seq (qR [oO 7 (.mv (nI 0))] (.block 1 (.loop (.seq (qR [oM 32 7,oM 33 6,oO 34 (.len false (.t 33)),oO 35 (.bin .lss (.t 32) (.t 34))] (.cond (.t 35) .skip (.exit 1))) (.seq (.block 2 (qR [oM 38 6,oM 39 7,oM 40 6,oM 41 7,oO 42 (.iaddrS 1 (.t 40) (.t 41)),oL 43 1 42,oO 44 (.bin .rem (.t 43) (.c (.int .u8 95))),oO 45 (.bin .add (.c (.int .u8 32)) (.t 44)),oO 46 (.iaddrS 1 (.t 38) (.t 39)),oU (.store 1 (.t 46) (.t 45))] (qR [oM 47 6,oM 48 7,oO 49 (.iaddrS 1 (.t 47) (.t 48)),oL 50 1 49,oO 51 (.bin .eql (.t 50) (.c (.int .u8 34))),oM 52 51,oG 53 (.mv (.t 6)) 52 false,oG 54 (.mv (.t 7)) 52 false,oG 55 (.iaddrS 1 (.t 53) (.t 54)) 52 false,oG 56 (.load 1 false (.t 55)) 52 false,oG 57 (.bin .eql (.t 56) (.c (.int .u8 92))) 52 false,oO 58 (.pick (.t 52) (.c (.bool true)) (.t 57))] (.cond (.t 58) (.region [oM 59 6,oM 60 7,oO 61 (.iaddrS 1 (.t 59) (.t 60)),oU (.store 1 (.t 61) (.c (.int .u8 32)))]) .skip)))) (.region [oM 36 7,oO 37 (.bin .add (.t 36) (nI 1)),oM 7 37])))))) (qR [oM 62 6,oO 63 (.b2s (.t 62)),oO 64 (.build [oZ,oZ,oS,oN] [(0,1,nI 2),(2,1,.t 63)]),oU (.store 4 (.t 4) (.t 64))] .ret))) (qR [oO 66 (.bin .eql (.t 13) (nI 2)),oM 65 66] (.cond (.t 65) (qR [oF 67 2 2,oL 68 1 67,oO 69 (.call 74 [.t 68]),oO 70 (.build [oZ,oZ,oS,oN] [(0,1,nI 3),(2,1,.t 69)]),oU (.store 4 (.t 4) (.t 70))] .ret) .skip)))))))) (qR [oO 71 (.build [oZ,oZ,oS,oN] [(0,1,nI 4)]),oO 8 (.alloc [oZ,oZ,oS,oN]),oU (.store 4 (.t 8) (.t 71))] (.seq (qR [oO 9 (.mv (nI 0))] (.block 3 (.loop (.seq (qR [oM 72 9,oF 73 3 2,oL 74 1 73,oO 75 (.len false (.t 74)),oO 76 (.bin .lss (.t 72) (.t 75)),oM 77 76,oG 78 (.mv (.t 9)) 77 true,oG 79 (.bin .lss (.t 78) (nI 16)) 77 true,oO 80 (.pick (.t 77) (.t 79) (.c (.bool false)))] (.cond (.t 80) .skip (.exit 3))) (.seq (.block 4 (qR [oF 83 3 2,oL 84 1 83,oM 85 9,oO 86 (.iaddrS 4 (.t 84) (.t 85)),oR 87 4 86,oO 10 (.alloc [oZ,oZ,oS,oN]),oU (.store 4 (.t 10) (.t 87))] (.seq (qR [oM 88 1,oO 89 (.bin .leq (.t 88) (nI 1)),oM 90 89,oG 91 (.faddr 0 (.t 10)) 90 true,oG 92 (.load 1 false (.t 91)) 90 true,oG 93 (.call 73 [.t 92,nI 4]) 90 true,oG 94 (.bin .eql (.t 93) (nI 3)) 90 true,oO 95 (.pick (.t 90) (.t 94) (.c (.bool false)))] (.cond (.t 95) (.region [oF 96 0 10,oU (.store 1 (.t 96) (nI 0))]) .skip)) (.region [oF 97 3 8,oL 98 1 97,oR 99 4 10,oM 100 1,oO 101 (.bin .sub (.t 100) (nI 1)),⟨(some 102),.call 61 [.t 99,.t 101],none,[.t 97]⟩,oO 103 (.buildSl 1 4 true [oZ,oZ,oS,oN] [(0,4,.t 102)]),oO 104 (.append 4 true 56 false (.t 98) (.t 103)),oF 105 3 8,oU (.store 1 (.t 105) (.t 104))])))) (.region [oM 81 9,oO 82 (.bin .add (.t 81) (nI 1)),oM 9 82])))))) (qR [oR 106 4 8,oU (.store 4 (.t 4) (.t 106))] .ret)))),.pure,true,true⟩
theorem k61:compF Try.prog pP Try.f61=some c61:=by kernel_rfl
def c62:AFunc:=⟨9,[.tmp 2],qR [oO 2 (.mv (.c (.bool false)))] (qR [oM 3 0,oO 4 (.bin .geq (.t 3) (nI 0)),oM 5 4,oG 6 (.mv (.t 0)) 5 true,oG 7 (.bin .leq (.t 6) (nI 1099511627776)) 5 true,oO 8 (.pick (.t 5) (.t 7) (.c (.bool false))),oM 2 8] .ret),.pure,true,true⟩
theorem k62:compF Try.prog pP Try.f62=some c62:=by kernel_rfl
def c63:AFunc:=⟨55,[.tmp 4],qR [oO 2 (.box (.t 0)),oO 4 (.mv (.c (.bool false)))] (.seq (qR [oF 7 0 2,oL 8 1 7,oO 9 (.call 23 [.t 8]),oO 10 (.un .not (.t 9)),oM 11 10,oG 12 (.faddr 1 (.t 2)) 11 false,oG 13 (.load 1 false (.t 12)) 11 false,oG 14 (.len false (.t 13)) 11 false,oG 15 (.bin .lss (.t 14) (nI 1)) 11 false,oO 16 (.pick (.t 11) (.c (.bool true)) (.t 15)),oM 17 16,oG 18 (.faddr 1 (.t 2)) 17 false,oG 19 (.load 1 false (.t 18)) 17 false,oG 20 (.len false (.t 19)) 17 false,oG 21 (.bin .gtr (.t 20) (nI 8)) 17 false,oO 22 (.pick (.t 17) (.c (.bool true)) (.t 21)),oM 23 22,oG 24 (.faddr 2 (.t 2)) 23 false,oG 25 (.load 1 false (.t 24)) 23 false,oG 26 (.call 62 [.t 25]) 23 false,oG 27 (.un .not (.t 26)) 23 false,oO 28 (.pick (.t 23) (.c (.bool true)) (.t 27))] (.cond (.t 28) (qR [oO 4 (.mv (.c (.bool false)))] .ret) .skip)) (.seq (qR [oF 29 1 2,oL 30 1 29,oO 31 (.len false (.t 30)),oO 32 (.mv (nI 0))] (.block 0 (.loop (qR [oO 33 (.bin .lss (.t 32) (.t 31))] (.seq (.cond (.t 33) .skip (.exit 0)) (.seq (.block 1 (qR [oO 34 (.iaddrS 4 (.t 30) (.t 32)),oR 35 4 34,oO 6 (.alloc [oZ,oZ,oS,oN]),oU (.store 4 (.t 6) (.t 35))] (qR [oR 36 4 6,oO 37 (.call 75 [.t 36]),oO 38 (.un .not (.t 37))] (.cond (.t 38) (qR [oO 4 (.mv (.c (.bool false)))] .ret) .skip)))) (.region [oO 39 (.bin .add (.t 32) (nI 1)),oM 32 39]))))))) (qR [oF 40 1 2,oL 41 1 40,oO 42 (.iaddrS 4 (.t 41) (nI 0)),oF 43 0 42,oL 44 1 43,oO 45 (.bin .eql (.t 44) (nI 3)),oM 46 45,oG 47 (.faddr 1 (.t 2)) 46 true,oG 48 (.load 1 false (.t 47)) 46 true,oG 49 (.iaddrS 4 (.t 48) (nI 0)) 46 true,oG 50 (.faddr 2 (.t 49)) 46 true,oG 51 (.load 1 false (.t 50)) 46 true,oG 52 (.mv (.t 1)) 46 true,oG 53 (.bin .eql (.t 51) (.t 52)) 46 true,oO 54 (.pick (.t 46) (.t 53) (.c (.bool false))),oM 4 54] .ret))),.pure,true,true⟩
theorem k63:compF Try.prog pP Try.f63=some c63:=by kernel_rfl
def c64:AFunc:=⟨6,[.tmp 2],qR [oO 2 (.mv (.c (.bool false)))] (qR [oM 3 0,oM 4 0,oO 5 (.bin .neq (.t 3) (.t 4)),oM 2 5] .ret),.pure,true,true⟩
theorem k64:compF Try.prog pP Try.f64=some c64:=by kernel_rfl
def c65:AFunc:=⟨5,[.tmp 2],qR [oO 1 (.box (.t 0)),oO 2 (.mv (.c (.bool false)))] (qR [oR 3 4 1,oO 4 (.call 76 [.t 3,nI 4]),oM 2 4] .ret),.pure,true,true⟩
theorem k65:compF Try.prog pP Try.f65=some c65:=by kernel_rfl
def c66:AFunc:=⟨92,[.tmp 4],qR [oO 2 (.box (.t 0)),oO 3 (.box (.t 1)),oO 4 (.mv (nI 0))] (.seq (qR [oF 7 0 2,oL 8 1 7,oF 9 0 3,oL 10 1 9,oO 11 (.bin .neq (.t 8) (.t 10))] (.cond (.t 11) (qR [oF 12 0 2,oL 13 1 12,oF 14 0 3,oL 15 1 14,oO 16 (.bin .lss (.t 13) (.t 15)),oO 17 (.call 77 [.t 16,.c (.bool true)]),oM 4 17] .ret) .skip)) (.seq (qR [oF 18 0 2,oL 19 1 18] (.block 0 (qR [oO 21 (.bin .eql (.t 19) (nI 1)),oM 20 21] (.cond (.t 20) (qR [oF 22 1 2,oL 23 1 22,oF 24 1 3,oL 25 1 24,oO 26 (.bin .lss (.t 23) (.t 25)),oF 27 1 2,oL 28 1 27,oF 29 1 3,oL 30 1 29,oO 31 (.bin .gtr (.t 28) (.t 30)),oO 32 (.call 77 [.t 26,.t 31]),oM 4 32] .ret) (.seq (qR [oO 34 (.bin .eql (.t 19) (nI 2)),oM 33 34] (.cond (.t 33) .skip (.region [oO 35 (.bin .eql (.t 19) (nI 3)),oM 33 35]))) (.cond (.t 33) (qR [oF 36 2 2,oL 37 1 36,oF 38 2 3,oL 39 1 38,oO 40 (.bin .lss (.t 37) (.t 39)),oF 41 2 2,oL 42 1 41,oF 43 2 3,oL 44 1 43,oO 45 (.bin .gtr (.t 42) (.t 44)),oO 46 (.call 77 [.t 40,.t 45]),oM 4 46] .ret) (qR [oO 48 (.bin .eql (.t 19) (nI 4)),oM 47 48] (.cond (.t 47) (.seq (qR [oO 5 (.mv (nI 0))] (.block 1 (.loop (.seq (qR [oM 49 5,oF 50 3 2,oL 51 1 50,oO 52 (.len false (.t 51)),oO 53 (.bin .lss (.t 49) (.t 52)),oM 54 53,oG 55 (.mv (.t 5)) 54 true,oG 56 (.faddr 3 (.t 3)) 54 true,oG 57 (.load 1 false (.t 56)) 54 true,oG 58 (.len false (.t 57)) 54 true,oG 59 (.bin .lss (.t 55) (.t 58)) 54 true,oO 60 (.pick (.t 54) (.t 59) (.c (.bool false)))] (.cond (.t 60) .skip (.exit 1))) (.seq (.block 2 (qR [oF 63 3 2,oL 64 1 63,oM 65 5,oO 66 (.iaddrS 4 (.t 64) (.t 65)),oR 67 4 66,oF 68 3 3,oL 69 1 68,oM 70 5,oO 71 (.iaddrS 4 (.t 69) (.t 70)),oR 72 4 71,oO 73 (.call 66 [.t 67,.t 72]),oM 6 73] (qR [oM 74 6,oO 75 (.bin .neq (.t 74) (nI 0))] (.cond (.t 75) (qR [oM 76 6,oM 4 76] .ret) .skip)))) (.region [oM 61 5,oO 62 (.bin .add (.t 61) (nI 1)),oM 5 62])))))) (qR [oF 77 3 2,oL 78 1 77,oO 79 (.len false (.t 78)),oF 80 3 3,oL 81 1 80,oO 82 (.len false (.t 81)),oO 83 (.bin .lss (.t 79) (.t 82)),oF 84 3 2,oL 85 1 84,oO 86 (.len false (.t 85)),oF 87 3 3,oL 88 1 87,oO 89 (.len false (.t 88)),oO 90 (.bin .gtr (.t 86) (.t 89)),oO 91 (.call 77 [.t 83,.t 90]),oM 4 91] .ret)) .skip)))))))) (qR [oO 4 (.mv (nI 0))] .ret))),.pure,true,true⟩
theorem k66:compF Try.prog pP Try.f66=some c66:=by kernel_rfl
def c67:AFunc:=⟨63,[],qR [oO 6 (.mv (nI 20))] (qR [oM 10 6,oO 7 (.mv (nI 0)),oM 8 10] (.seq (.block 0 (.loop (.seq (qR [oM 11 8,oM 12 1,oO 13 (.bin .leq (.t 11) (.t 12))] (.cond (.t 13) .skip (.exit 0))) (.block 1 (qR [oM 14 0,oM 15 7,oM 16 8,oM 17 2,oO 18 (.call 78 [.t 14,.t 15,.t 16,.t 17])] (qR [oM 19 8,oM 7 19] (.region [oM 20 8,oM 21 6,oO 22 (.bin .add (.t 20) (.t 21)),oM 8 22]))))))) (qR [oM 23 0,oM 24 7,oM 25 1,oM 26 2,oO 27 (.call 78 [.t 23,.t 24,.t 25,.t 26])] (.block 2 (.loop (.seq (qR [oM 28 6,oM 29 1,oO 30 (.bin .lss (.t 28) (.t 29))] (.cond (.t 30) .skip (.exit 2))) (.block 3 (qR [oM 31 6,oO 32 (.bin .mul (nI 2) (.t 31)),oO 7 (.mv (nI 0)),oM 8 32] (.seq (.block 4 (.loop (.seq (qR [oM 33 8,oM 34 1,oO 35 (.bin .leq (.t 33) (.t 34))] (.cond (.t 35) .skip (.exit 4))) (.block 5 (qR [oM 36 0,oM 37 7,oM 38 7,oM 39 6,oO 40 (.bin .add (.t 38) (.t 39)),oM 41 8,oM 42 2,oO 43 (.call 79 [.t 36,.t 37,.t 40,.t 41,.t 42])] (qR [oM 44 8,oM 7 44] (.region [oM 45 8,oM 46 6,oO 47 (.bin .mul (nI 2) (.t 46)),oO 48 (.bin .add (.t 45) (.t 47)),oM 8 48]))))))) (.seq (qR [oM 49 7,oM 50 6,oO 51 (.bin .add (.t 49) (.t 50)),oM 9 51] (qR [oM 52 9,oM 53 1,oO 54 (.bin .lss (.t 52) (.t 53))] (.cond (.t 54) (.region [oM 55 0,oM 56 7,oM 57 9,oM 58 1,oM 59 2,oO 60 (.call 79 [.t 55,.t 56,.t 57,.t 58,.t 59])]) .skip))) (.region [oM 61 6,oO 62 (.bin .mul (.t 61) (nI 2)),oM 6 62]))))))))))),.gc,false,false⟩
theorem k67:compF Try.prog pG Try.f67=some c67:=by kernel_rfl
def c68:AFunc:=⟨8,[.tmp 4],qR [oO 4 (.mv (nI 0))] (qR [oM 5 0,oM 6 1,oO 7 (.call 80 [.t 5,.t 6]),oM 4 7] .ret),.pure,true,true⟩
theorem k68:compF Try.prog pP Try.f68=some c68:=by kernel_rfl
def c69:AFunc:=⟨39,[.tmp 6],qR [oO 6 (.mv (nI 0))] (.seq (qR [oM 11 0,oO 12 (.len false (.t 11)),oO 13 (.mv (nI 0))] (.block 0 (.loop (qR [oO 14 (.bin .lss (.t 13) (.t 12))] (.seq (.cond (.t 14) .skip (.exit 0)) (.seq (.block 1 (qR [oM 15 13,oO 16 (.iaddrS 4 (.t 11) (.t 13)),oR 17 4 16,oO 8 (.alloc [oZ,oZ,oS,oN]),oM 7 15,oU (.store 4 (.t 8) (.t 17))] (.seq (qR [oM 18 7,oM 19 1,oO 20 (.len false (.t 19)),oO 21 (.bin .geq (.t 18) (.t 20))] (.cond (.t 21) (qR [oO 6 (.mv (nI 1))] .ret) .skip)) (qR [oM 22 1,oM 23 7,oO 24 (.iaddrS 4 (.t 22) (.t 23)),oR 25 4 24,oO 9 (.alloc [oZ,oZ,oS,oN]),oU (.store 4 (.t 9) (.t 25))] (qR [oM 26 2,oR 27 4 8,oR 28 4 9,oO 29 (.callv (.t 26) [.t 27,.t 28]),oM 10 29] (qR [oM 30 10,oO 31 (.bin .neq (.t 30) (nI 0))] (.cond (.t 31) (qR [oM 32 10,oM 6 32] .ret) .skip))))))) (.region [oO 33 (.bin .add (.t 13) (nI 1)),oM 13 33]))))))) (.seq (qR [oM 34 0,oO 35 (.len false (.t 34)),oM 36 1,oO 37 (.len false (.t 36)),oO 38 (.bin .lss (.t 35) (.t 37))] (.cond (.t 38) (qR [oO 6 (.mv (nI (-1)))] .ret) .skip)) (qR [oO 6 (.mv (nI 0))] .ret))),.pure,true,true⟩
theorem k69:compF Try.prog pP Try.f69=some c69:=by kernel_rfl
def c70:AFunc:=⟨38,[.tmp 4],qR [oO 2 (.box (.t 0)),oO 3 (.box (.t 1)),oO 4 (.mv (nI 0))] (.seq (qR [oF 6 0 2,oL 7 1 6,oF 8 0 3,oL 9 1 8,oO 10 (.call 45 [.t 7,.t 9]),oM 5 10] (qR [oM 11 5,oO 12 (.bin .neq (.t 11) (nI 0))] (.cond (.t 12) (qR [oM 13 5,oM 4 13] .ret) .skip))) (.seq (qR [oF 14 0 2,oL 15 1 14] (.block 0 (qR [oO 17 (.bin .eql (.t 15) (nI 1)),oM 16 17] (.cond (.t 16) (qR [oF 18 1 2,oL 19 1 18,oF 20 1 3,oL 21 1 20,oO 22 (.call 45 [.t 19,.t 21]),oM 4 22] .ret) (.seq (qR [oO 24 (.bin .eql (.t 15) (nI 2)),oM 23 24] (.cond (.t 23) .skip (.region [oO 25 (.bin .eql (.t 15) (nI 3)),oM 23 25]))) (.cond (.t 23) (qR [oF 26 2 2,oL 27 1 26,oF 28 2 3,oL 29 1 28,oO 30 (.call 68 [.t 27,.t 29]),oM 4 30] .ret) (qR [oO 32 (.bin .eql (.t 15) (nI 4)),oM 31 32] (.cond (.t 31) (qR [oF 33 3 2,oL 34 1 33,oF 35 3 3,oL 36 1 35,oO 37 (.call 69 [.t 34,.t 36,.f 70]),oM 4 37] .ret) .skip)))))))) (qR [oO 4 (.mv (nI 0))] .ret))),.pure,true,true⟩
theorem k70:compF Try.prog pP Try.f70=some c70:=by kernel_rfl
def c71:AFunc:=⟨8,[.tmp 0],qR [oO 0 (.mv (.c oN))] (qR [oO 1 (.build [oS,oZ] [(0,1,.c (.str ⟨#[108,105,110,107]⟩)),(1,1,nI 3)]),oO 2 (.build [oS,oZ] [(0,1,.c (.str ⟨#[112]⟩)),(1,1,nI 2)]),oO 3 (.build [oS,oZ] [(0,1,.c (.str ⟨#[113]⟩)),(1,1,nI 2)]),oO 4 (.build [oS,oZ] [(0,1,.c (.str ⟨#[114]⟩)),(1,1,nI 1)]),oO 5 (.build [oS,oZ] [(0,1,.c (.str ⟨#[115]⟩)),(1,1,nI 3)]),oO 6 (.build [oS,oZ] [(0,1,.c (.str ⟨#[116]⟩)),(1,1,nI 2)]),oO 7 (.buildSl 6 2 true [oS,oZ,oS,oZ,oS,oZ,oS,oZ,oS,oZ,oS,oZ] [(0,2,.t 1),(2,2,.t 2),(4,2,.t 3),(6,2,.t 4),(8,2,.t 5),(10,2,.t 6)]),oM 0 7] .ret),.pure,true,true⟩
theorem k71:compF Try.prog pP Try.f71=some c71:=by kernel_rfl
def c72:AFunc:=⟨13,[.tmp 4],qR [oO 4 (.mv (nI 0))] (.seq (qR [oM 5 0,oO 6 (.bin .lss (.t 5) (nI 0))] (.cond (.t 6) (.region [oM 7 0,oO 8 (.bin .add (.t 7) (nI 1)),oO 9 (.un .neg (.t 8)),oM 0 9]) .skip)) (qR [oM 10 0,oM 11 1,oO 12 (.bin .rem (.t 10) (.t 11)),oM 4 12] .ret)),.pure,true,true⟩
theorem k72:compF Try.prog pP Try.f72=some c72:=by kernel_rfl
def c73:AFunc:=⟨13,[.tmp 4],qR [oO 4 (.mv (nI 0))] (.seq (qR [oM 5 0,oO 6 (.bin .lss (.t 5) (nI 0))] (.cond (.t 6) (.region [oM 7 0,oO 8 (.bin .add (.t 7) (nI 1)),oO 9 (.un .neg (.t 8)),oM 0 9]) .skip)) (qR [oM 10 0,oM 11 1,oO 12 (.bin .rem (.t 10) (.t 11)),oM 4 12] .ret)),.pure,true,true⟩
theorem k73:compF Try.prog pP Try.f73=some c73:=by kernel_rfl
def c74:AFunc:=⟨44,[.tmp 2],qR [oO 2 (.mv (.c oS))] (qR [oM 6 0,oM 7 0,oO 8 (.len true (.t 7)),oO 9 (.min2 (.t 8) (nI 15)),oO 10 (.strSl (.t 6) none (some (.t 9))),oO 11 (.bin .add (.c (.str ⟨#[110]⟩)) (.t 10)),oO 12 (.s2b (.t 11)),oM 3 12] (.seq (qR [oO 4 (.mv (nI 1))] (.block 0 (.loop (.seq (qR [oM 13 4,oM 14 3,oO 15 (.len false (.t 14)),oO 16 (.bin .lss (.t 13) (.t 15))] (.cond (.t 16) .skip (.exit 0))) (.seq (.block 1 (qR [oM 19 3,oM 20 4,oO 21 (.iaddrS 1 (.t 19) (.t 20)),oL 22 1 21,oO 23 (.bin .rem (.t 22) (.c (.int .u8 37))),oM 5 23] (qR [oM 24 5,oO 25 (.bin .lss (.t 24) (.c (.int .u8 26)))] (.cond (.t 25) (.region [oM 26 3,oM 27 4,oM 28 5,oO 29 (.bin .add (.c (.int .u8 97)) (.t 28)),oO 30 (.iaddrS 1 (.t 26) (.t 27)),oU (.store 1 (.t 30) (.t 29))]) (qR [oM 31 5,oO 32 (.bin .lss (.t 31) (.c (.int .u8 36)))] (.cond (.t 32) (.region [oM 33 3,oM 34 4,oM 35 5,oO 36 (.bin .add (.c (.int .u8 48)) (.t 35)),oO 37 (.bin .sub (.t 36) (.c (.int .u8 26))),oO 38 (.iaddrS 1 (.t 33) (.t 34)),oU (.store 1 (.t 38) (.t 37))]) (.region [oM 39 3,oM 40 4,oO 41 (.iaddrS 1 (.t 39) (.t 40)),oU (.store 1 (.t 41) (.c (.int .u8 95)))]))))))) (.region [oM 17 4,oO 18 (.bin .add (.t 17) (nI 1)),oM 4 18])))))) (qR [oM 42 3,oO 43 (.b2s (.t 42)),oM 2 43] .ret))),.pure,true,true⟩
theorem k74:compF Try.prog pP Try.f74=some c74:=by kernel_rfl
def c75:AFunc:=⟨5,[.tmp 2],qR [oO 1 (.box (.t 0)),oO 2 (.mv (.c (.bool false)))] (qR [oR 3 4 1,oO 4 (.call 81 [.t 3,nI 4]),oM 2 4] .ret),.pure,true,true⟩
theorem k75:compF Try.prog pP Try.f75=some c75:=by kernel_rfl
def c76:AFunc:=⟨125,[.tmp 4],qR [oO 2 (.box (.t 0)),oO 4 (.mv (.c (.bool false)))] (.seq (qR [oF 9 0 2,oL 10 1 9,oO 11 (.bin .eql (.t 10) (nI 1))] (.cond (.t 11) (qR [oF 12 2 2,oL 13 1 12,oO 14 (.bin .eql (.t 13) (.c oS)),oM 15 14,oG 16 (.faddr 3 (.t 2)) 15 true,oG 17 (.load 1 false (.t 16)) 15 true,oG 18 (.len false (.t 17)) 15 true,oG 19 (.bin .eql (.t 18) (nI 0)) 15 true,oO 20 (.pick (.t 15) (.t 19) (.c (.bool false))),oM 21 20,oG 22 (.faddr 1 (.t 2)) 21 true,oG 23 (.load 1 false (.t 22)) 21 true,oG 24 (.bin .leq (.t 23) (nI 2147483647)) 21 true,oO 25 (.pick (.t 21) (.t 24) (.c (.bool false))),oM 26 25,oG 27 (.faddr 1 (.t 2)) 26 true,oG 28 (.load 1 false (.t 27)) 26 true,oG 29 (.bin .geq (.t 28) (nI (-2147483647))) 26 true,oO 30 (.pick (.t 26) (.t 29) (.c (.bool false))),oM 4 30] .ret) .skip)) (.seq (qR [oF 31 1 2,oL 32 1 31,oO 33 (.bin .neq (.t 32) (nI 0))] (.cond (.t 33) (qR [oO 4 (.mv (.c (.bool false)))] .ret) .skip)) (.seq (qR [oF 34 0 2,oL 35 1 34] (.block 0 (qR [oO 37 (.bin .eql (.t 35) (nI 2)),oM 36 37] (.cond (.t 36) (.seq (qR [oO 5 (.mv (nI 0))] (.block 1 (.loop (.seq (qR [oM 38 5,oF 39 2 2,oL 40 1 39,oO 41 (.len true (.t 40)),oO 42 (.bin .lss (.t 38) (.t 41))] (.cond (.t 42) .skip (.exit 1))) (.seq (.block 2 (qR [oF 45 2 2,oL 46 1 45,oM 47 5,oO 48 (.idxStr (.t 46) (.t 47)),oO 49 (.bin .lss (.t 48) (.c (.int .u8 32))),oM 50 49,oG 51 (.faddr 2 (.t 2)) 50 false,oG 52 (.load 1 false (.t 51)) 50 false,oG 53 (.mv (.t 5)) 50 false,oG 54 (.idxStr (.t 52) (.t 53)) 50 false,oG 55 (.bin .gtr (.t 54) (.c (.int .u8 126))) 50 false,oO 56 (.pick (.t 50) (.c (.bool true)) (.t 55)),oM 57 56,oG 58 (.faddr 2 (.t 2)) 57 false,oG 59 (.load 1 false (.t 58)) 57 false,oG 60 (.mv (.t 5)) 57 false,oG 61 (.idxStr (.t 59) (.t 60)) 57 false,oG 62 (.bin .eql (.t 61) (.c (.int .u8 34))) 57 false,oO 63 (.pick (.t 57) (.c (.bool true)) (.t 62)),oM 64 63,oG 65 (.faddr 2 (.t 2)) 64 false,oG 66 (.load 1 false (.t 65)) 64 false,oG 67 (.mv (.t 5)) 64 false,oG 68 (.idxStr (.t 66) (.t 67)) 64 false,oG 69 (.bin .eql (.t 68) (.c (.int .u8 92))) 64 false,oO 70 (.pick (.t 64) (.c (.bool true)) (.t 69))] (.cond (.t 70) (qR [oO 4 (.mv (.c (.bool false)))] .ret) .skip))) (.region [oM 43 5,oO 44 (.bin .add (.t 43) (nI 1)),oM 5 44])))))) (qR [oF 71 2 2,oL 72 1 71,oO 73 (.len true (.t 72)),oO 74 (.bin .leq (.t 73) (nI 32)),oM 75 74,oG 76 (.faddr 3 (.t 2)) 75 true,oG 77 (.load 1 false (.t 76)) 75 true,oG 78 (.len false (.t 77)) 75 true,oG 79 (.bin .eql (.t 78) (nI 0)) 75 true,oO 80 (.pick (.t 75) (.t 79) (.c (.bool false))),oM 4 80] .ret)) (qR [oO 82 (.bin .eql (.t 35) (nI 3)),oM 81 82] (.cond (.t 81) (qR [oF 83 2 2,oL 84 1 83,oO 85 (.call 29 [.t 84]),oM 6 85] (qR [oM 86 6,oM 87 86,oG 88 (.faddr 3 (.t 2)) 87 true,oG 89 (.load 1 false (.t 88)) 87 true,oG 90 (.len false (.t 89)) 87 true,oG 91 (.bin .eql (.t 90) (nI 0)) 87 true,oO 92 (.pick (.t 87) (.t 91) (.c (.bool false))),oM 4 92] .ret)) (qR [oO 94 (.bin .eql (.t 35) (nI 4)),oM 93 94] (.cond (.t 93) (.seq (qR [oF 95 2 2,oL 96 1 95,oO 97 (.bin .neq (.t 96) (.c oS)),oM 98 97,oG 99 (.faddr 3 (.t 2)) 98 false,oG 100 (.load 1 false (.t 99)) 98 false,oG 101 (.len false (.t 100)) 98 false,oG 102 (.bin .gtr (.t 101) (nI 16)) 98 false,oO 103 (.pick (.t 98) (.c (.bool true)) (.t 102)),oM 104 103,oG 105 (.mv (.t 1)) 104 false,oG 106 (.bin .lss (.t 105) (nI 1)) 104 false,oO 107 (.pick (.t 104) (.c (.bool true)) (.t 106))] (.cond (.t 107) (qR [oO 4 (.mv (.c (.bool false)))] .ret) .skip)) (.seq (qR [oO 7 (.mv (nI 0))] (.block 3 (.loop (.seq (qR [oM 108 7,oF 109 3 2,oL 110 1 109,oO 111 (.len false (.t 110)),oO 112 (.bin .lss (.t 108) (.t 111))] (.cond (.t 112) .skip (.exit 3))) (.seq (.block 4 (qR [oF 115 3 2,oL 116 1 115,oM 117 7,oO 118 (.iaddrS 4 (.t 116) (.t 117)),oR 119 4 118,oM 120 1,oO 121 (.bin .sub (.t 120) (nI 1)),oO 122 (.call 76 [.t 119,.t 121]),oM 8 122] (qR [oM 123 8,oO 124 (.un .not (.t 123))] (.cond (.t 124) (qR [oO 4 (.mv (.c (.bool false)))] .ret) .skip)))) (.region [oM 113 7,oO 114 (.bin .add (.t 113) (nI 1)),oM 7 114])))))) (qR [oO 4 (.mv (.c (.bool true)))] .ret))) .skip)))))))) (qR [oO 4 (.mv (.c (.bool false)))] .ret)))),.pure,true,true⟩
theorem k76:compF Try.prog pP Try.f76=some c76:=by kernel_rfl
def c77:AFunc:=⟨7,[.tmp 4],qR [oO 4 (.mv (nI 0))] (.seq (qR [oM 5 0] (.cond (.t 5) (qR [oO 4 (.mv (nI (-1)))] .ret) .skip)) (.seq (qR [oM 6 1] (.cond (.t 6) (qR [oO 4 (.mv (nI 1))] .ret) .skip)) (qR [oO 4 (.mv (nI 0))] .ret))),.pure,true,true⟩
theorem k77:compF Try.prog pP Try.f77=some c77:=by kernel_rfl
def c78:AFunc:=⟨53,[],qR [oM 10 1,oO 11 (.bin .add (.t 10) (nI 1)),oM 8 11] (.block 0 (.loop (.seq (qR [oM 12 8,oM 13 2,oO 14 (.bin .lss (.t 12) (.t 13))] (.cond (.t 14) .skip (.exit 0))) (.seq (.block 1 (qR [oM 17 8,oM 9 17] (.block 2 (.loop (.seq (qR [oM 18 9,oM 19 1,oO 20 (.bin .gtr (.t 18) (.t 19)),oM 21 20,oG 22 (.mv (.t 3)) 21 true,oG 23 (.mv (.t 0)) 21 true,oG 24 (.mv (.t 9)) 21 true,oG 25 (.iaddrS 3 (.t 23) (.t 24)) 21 true,oG 26 (.load 3 true (.t 25)) 21 true,oG 27 (.mv (.t 0)) 21 true,oG 28 (.mv (.t 9)) 21 true,oG 29 (.bin .sub (.t 28) (nI 1)) 21 true,oG 30 (.iaddrS 3 (.t 27) (.t 29)) 21 true,oG 31 (.load 3 true (.t 30)) 21 true,oG 32 (.callv (.t 22) [.t 26,.t 31]) 21 true,oG 33 (.bin .lss (.t 32) (nI 0)) 21 true,oO 34 (.pick (.t 21) (.t 33) (.c (.bool false)))] (.cond (.t 34) .skip (.exit 2))) (.seq (.block 3 (.region [oM 37 0,oM 38 9,oM 39 0,oM 40 9,oO 41 (.bin .sub (.t 40) (nI 1)),oM 42 0,oM 43 9,oO 44 (.bin .sub (.t 43) (nI 1)),oO 45 (.iaddrS 3 (.t 42) (.t 44)),oR 46 3 45,oM 47 0,oM 48 9,oO 49 (.iaddrS 3 (.t 47) (.t 48)),oR 50 3 49,oO 51 (.iaddrS 3 (.t 37) (.t 38)),oU (.store 3 (.t 51) (.t 46)),oO 52 (.iaddrS 3 (.t 39) (.t 41)),oU (.store 3 (.t 52) (.t 50))])) (.region [oM 35 9,oO 36 (.bin .sub (.t 35) (nI 1)),oM 9 36]))))))) (.region [oM 15 8,oO 16 (.bin .add (.t 15) (nI 1)),oM 8 16]))))),.gc,false,false⟩
theorem k78:compF Try.prog pG Try.f78=some c78:=by kernel_rfl
def c79:AFunc:=⟨220,[],.seq (qR [oM 25 2,oM 26 1,oO 27 (.bin .sub (.t 25) (.t 26)),oO 28 (.bin .eql (.t 27) (nI 1))] (.cond (.t 28) (qR [oM 29 2,oM 10 29] (qR [oM 30 3,oM 11 30] (.seq (.block 0 (.loop (.seq (qR [oM 31 10,oM 32 11,oO 33 (.bin .lss (.t 31) (.t 32))] (.cond (.t 33) .skip (.exit 0))) (.block 1 (qR [oM 34 10,oM 35 11,oO 36 (.bin .add (.t 34) (.t 35)),oO 37 (.conv .u64 (.t 36)),oO 38 (.bin .shr (.t 37) (.c (.int .u64 1))),oO 39 (.conv .i64 (.t 38)),oM 12 39] (qR [oM 40 4,oM 41 0,oM 42 12,oO 43 (.iaddrS 3 (.t 41) (.t 42)),oR 44 3 43,oM 45 0,oM 46 1,oO 47 (.iaddrS 3 (.t 45) (.t 46)),oR 48 3 47,oO 49 (.callv (.t 40) [.t 44,.t 48]),oO 50 (.bin .lss (.t 49) (nI 0))] (.cond (.t 50) (.region [oM 51 12,oO 52 (.bin .add (.t 51) (nI 1)),oM 10 52]) (.region [oM 53 12,oM 11 53])))))))) (.seq (qR [oM 54 1,oM 13 54] (.block 2 (.loop (.seq (qR [oM 55 13,oM 56 10,oO 57 (.bin .sub (.t 56) (nI 1)),oO 58 (.bin .lss (.t 55) (.t 57))] (.cond (.t 58) .skip (.exit 2))) (.seq (.block 3 (.region [oM 61 0,oM 62 13,oM 63 0,oM 64 13,oO 65 (.bin .add (.t 64) (nI 1)),oM 66 0,oM 67 13,oO 68 (.bin .add (.t 67) (nI 1)),oO 69 (.iaddrS 3 (.t 66) (.t 68)),oR 70 3 69,oM 71 0,oM 72 13,oO 73 (.iaddrS 3 (.t 71) (.t 72)),oR 74 3 73,oO 75 (.iaddrS 3 (.t 61) (.t 62)),oU (.store 3 (.t 75) (.t 70)),oO 76 (.iaddrS 3 (.t 63) (.t 65)),oU (.store 3 (.t 76) (.t 74))])) (.region [oM 59 13,oO 60 (.bin .add (.t 59) (nI 1)),oM 13 60])))))) .ret)))) .skip)) (.seq (qR [oM 77 3,oM 78 2,oO 79 (.bin .sub (.t 77) (.t 78)),oO 80 (.bin .eql (.t 79) (nI 1))] (.cond (.t 80) (qR [oM 81 1,oM 14 81] (qR [oM 82 2,oM 15 82] (.seq (.block 4 (.loop (.seq (qR [oM 83 14,oM 84 15,oO 85 (.bin .lss (.t 83) (.t 84))] (.cond (.t 85) .skip (.exit 4))) (.block 5 (qR [oM 86 14,oM 87 15,oO 88 (.bin .add (.t 86) (.t 87)),oO 89 (.conv .u64 (.t 88)),oO 90 (.bin .shr (.t 89) (.c (.int .u64 1))),oO 91 (.conv .i64 (.t 90)),oM 16 91] (qR [oM 92 4,oM 93 0,oM 94 2,oO 95 (.iaddrS 3 (.t 93) (.t 94)),oR 96 3 95,oM 97 0,oM 98 16,oO 99 (.iaddrS 3 (.t 97) (.t 98)),oR 100 3 99,oO 101 (.callv (.t 92) [.t 96,.t 100]),oO 102 (.bin .lss (.t 101) (nI 0)),oO 103 (.un .not (.t 102))] (.cond (.t 103) (.region [oM 104 16,oO 105 (.bin .add (.t 104) (nI 1)),oM 14 105]) (.region [oM 106 16,oM 15 106])))))))) (.seq (qR [oM 107 2,oM 17 107] (.block 6 (.loop (.seq (qR [oM 108 17,oM 109 14,oO 110 (.bin .gtr (.t 108) (.t 109))] (.cond (.t 110) .skip (.exit 6))) (.seq (.block 7 (.region [oM 113 0,oM 114 17,oM 115 0,oM 116 17,oO 117 (.bin .sub (.t 116) (nI 1)),oM 118 0,oM 119 17,oO 120 (.bin .sub (.t 119) (nI 1)),oO 121 (.iaddrS 3 (.t 118) (.t 120)),oR 122 3 121,oM 123 0,oM 124 17,oO 125 (.iaddrS 3 (.t 123) (.t 124)),oR 126 3 125,oO 127 (.iaddrS 3 (.t 113) (.t 114)),oU (.store 3 (.t 127) (.t 122)),oO 128 (.iaddrS 3 (.t 115) (.t 117)),oU (.store 3 (.t 128) (.t 126))])) (.region [oM 111 17,oO 112 (.bin .sub (.t 111) (nI 1)),oM 17 112])))))) .ret)))) .skip)) (qR [oM 129 1,oM 130 3,oO 131 (.bin .add (.t 129) (.t 130)),oO 132 (.conv .u64 (.t 131)),oO 133 (.bin .shr (.t 132) (.c (.int .u64 1))),oO 134 (.conv .i64 (.t 133)),oM 18 134] (qR [oM 135 18,oM 136 2,oO 137 (.bin .add (.t 135) (.t 136)),oM 19 137] (qR [oO 20 (.mv (nI 0)),oO 21 (.mv (nI 0))] (.seq (qR [oM 138 2,oM 139 18,oO 140 (.bin .gtr (.t 138) (.t 139))] (.cond (.t 140) (qR [oM 141 19,oM 142 3,oO 143 (.bin .sub (.t 141) (.t 142)),oM 20 143] (.region [oM 144 18,oM 21 144])) (qR [oM 145 1,oM 20 145] (.region [oM 146 2,oM 21 146])))) (qR [oM 147 19,oO 148 (.bin .sub (.t 147) (nI 1)),oM 22 148] (.seq (.block 8 (.loop (.seq (qR [oM 149 20,oM 150 21,oO 151 (.bin .lss (.t 149) (.t 150))] (.cond (.t 151) .skip (.exit 8))) (.block 9 (qR [oM 152 20,oM 153 21,oO 154 (.bin .add (.t 152) (.t 153)),oO 155 (.conv .u64 (.t 154)),oO 156 (.bin .shr (.t 155) (.c (.int .u64 1))),oO 157 (.conv .i64 (.t 156)),oM 23 157] (qR [oM 158 4,oM 159 0,oM 160 22,oM 161 23,oO 162 (.bin .sub (.t 160) (.t 161)),oO 163 (.iaddrS 3 (.t 159) (.t 162)),oR 164 3 163,oM 165 0,oM 166 23,oO 167 (.iaddrS 3 (.t 165) (.t 166)),oR 168 3 167,oO 169 (.callv (.t 158) [.t 164,.t 168]),oO 170 (.bin .lss (.t 169) (nI 0)),oO 171 (.un .not (.t 170))] (.cond (.t 171) (.region [oM 172 23,oO 173 (.bin .add (.t 172) (nI 1)),oM 20 173]) (.region [oM 174 23,oM 21 174])))))))) (qR [oM 175 19,oM 176 20,oO 177 (.bin .sub (.t 175) (.t 176)),oM 24 177] (.seq (qR [oM 178 20,oM 179 2,oO 180 (.bin .lss (.t 178) (.t 179)),oM 181 180,oG 182 (.mv (.t 2)) 181 true,oG 183 (.mv (.t 24)) 181 true,oG 184 (.bin .lss (.t 182) (.t 183)) 181 true,oO 185 (.pick (.t 181) (.t 184) (.c (.bool false)))] (.cond (.t 185) (.region [oM 186 0,oM 187 20,oM 188 2,oM 189 24,oM 190 4,oO 191 (.call 82 [.t 186,.t 187,.t 188,.t 189,.t 190])]) .skip)) (.seq (qR [oM 192 1,oM 193 20,oO 194 (.bin .lss (.t 192) (.t 193)),oM 195 194,oG 196 (.mv (.t 20)) 195 true,oG 197 (.mv (.t 18)) 195 true,oG 198 (.bin .lss (.t 196) (.t 197)) 195 true,oO 199 (.pick (.t 195) (.t 198) (.c (.bool false)))] (.cond (.t 199) (.region [oM 200 0,oM 201 1,oM 202 20,oM 203 18,oM 204 4,oO 205 (.call 79 [.t 200,.t 201,.t 202,.t 203,.t 204])]) .skip)) (qR [oM 206 18,oM 207 24,oO 208 (.bin .lss (.t 206) (.t 207)),oM 209 208,oG 210 (.mv (.t 24)) 209 true,oG 211 (.mv (.t 3)) 209 true,oG 212 (.bin .lss (.t 210) (.t 211)) 209 true,oO 213 (.pick (.t 209) (.t 212) (.c (.bool false)))] (.cond (.t 213) (.region [oM 214 0,oM 215 18,oM 216 24,oM 217 3,oM 218 4,oO 219 (.call 79 [.t 214,.t 215,.t 216,.t 217,.t 218])]) .skip)))))))))))),.gc,false,false⟩
theorem k79:compF Try.prog pG Try.f79=some c79:=by kernel_rfl
def c81:AFunc:=⟨67,[.tmp 4],qR [oO 2 (.box (.t 0)),oO 3 (.box (.t 1)),oO 4 (.mv (.c (.bool false)))] (qR [oR 6 4 2,oO 5 (.alloc [oZ,oZ,oS,oN]),oU (.store 4 (.t 5) (.t 6))] (qR [oF 7 0 5,oU (.store 1 (.t 7) (nI 0))] (.seq (qR [oF 8 0 2,oL 9 1 8] (.block 0 (qR [oO 11 (.bin .eql (.t 9) (nI 1)),oM 10 11] (.cond (.t 10) (qR [oF 12 1 5,oU (.store 1 (.t 12) (nI 0))] (qR [oR 13 4 5,oO 14 (.call 84 [.t 13]),oM 15 14,oG 16 (.faddr 1 (.t 2)) 15 true,oG 17 (.load 1 false (.t 16)) 15 true,oG 18 (.bin .leq (.t 17) (nI 2147483647)) 15 true,oO 19 (.pick (.t 15) (.t 18) (.c (.bool false))),oM 20 19,oG 21 (.faddr 1 (.t 2)) 20 true,oG 22 (.load 1 false (.t 21)) 20 true,oG 23 (.bin .geq (.t 22) (nI (-2147483647))) 20 true,oO 24 (.pick (.t 20) (.t 23) (.c (.bool false))),oM 4 24] .ret)) (qR [oO 26 (.bin .eql (.t 9) (nI 2)),oM 25 26] (.cond (.t 25) (qR [oF 27 2 5,oU (.store 1 (.t 27) (.c oS))] (qR [oR 28 4 5,oO 29 (.call 84 [.t 28]),oM 30 29,oG 31 (.faddr 2 (.t 2)) 30 true,oG 32 (.load 1 false (.t 31)) 30 true,oG 33 (.call 85 [.t 32]) 30 true,oO 34 (.pick (.t 30) (.t 33) (.c (.bool false))),oM 4 34] .ret)) (qR [oO 36 (.bin .eql (.t 9) (nI 3)),oM 35 36] (.cond (.t 35) (qR [oF 37 2 5,oU (.store 1 (.t 37) (.c oS))] (qR [oR 38 4 5,oO 39 (.call 84 [.t 38]),oM 40 39,oG 41 (.faddr 2 (.t 2)) 40 true,oG 42 (.load 1 false (.t 41)) 40 true,oG 43 (.call 23 [.t 42]) 40 true,oO 44 (.pick (.t 40) (.t 43) (.c (.bool false))),oM 4 44] .ret)) (qR [oO 46 (.bin .eql (.t 9) (nI 4)),oM 45 46] (.cond (.t 45) (qR [oF 47 3 5,oU (.store 1 (.t 47) (.c oN))] (qR [oR 48 4 5,oO 49 (.call 84 [.t 48]),oM 50 49,oG 51 (.load 1 false (.t 3)) 50 true,oG 52 (.bin .gtr (.t 51) (nI 0)) 50 true,oO 53 (.pick (.t 50) (.t 52) (.c (.bool false))),oM 54 53,oG 55 (.faddr 3 (.t 2)) 54 true,oG 56 (.load 1 false (.t 55)) 54 true,oG 57 (.len false (.t 56)) 54 true,oG 58 (.bin .leq (.t 57) (nI 16)) 54 true,oO 59 (.pick (.t 54) (.t 58) (.c (.bool false))),oM 60 59,oG 61 (.faddr 3 (.t 2)) 60 true,oG 62 (.load 1 false (.t 61)) 60 true,oG 63 (.mkfn 87 [.t 3]) 60 true,oG 64 (.call 86 [.t 62,.t 63]) 60 true,oG 65 (.un .not (.t 64)) 60 true,oO 66 (.pick (.t 60) (.t 65) (.c (.bool false))),oM 4 66] .ret)) .skip)))))))))) (qR [oO 4 (.mv (.c (.bool false)))] .ret)))),.pure,true,true⟩
theorem k81:compF Try.prog pP Try.f81=some c81:=by kernel_rfl
def c82:AFunc:=⟨58,[],qR [oM 12 2,oM 13 1,oO 14 (.bin .sub (.t 12) (.t 13)),oM 10 14] (qR [oM 15 3,oM 16 2,oO 17 (.bin .sub (.t 15) (.t 16)),oM 11 17] (.seq (.block 0 (.loop (.seq (qR [oM 18 10,oM 19 11,oO 20 (.bin .neq (.t 18) (.t 19))] (.cond (.t 20) .skip (.exit 0))) (.block 1 (qR [oM 21 10,oM 22 11,oO 23 (.bin .gtr (.t 21) (.t 22))] (.cond (.t 23) (qR [oM 24 0,oM 25 2,oM 26 10,oO 27 (.bin .sub (.t 25) (.t 26)),oM 28 2,oM 29 11,oM 30 4,oO 31 (.call 88 [.t 24,.t 27,.t 28,.t 29,.t 30])] (.region [oM 32 10,oM 33 11,oO 34 (.bin .sub (.t 32) (.t 33)),oM 10 34])) (qR [oM 35 0,oM 36 2,oM 37 10,oO 38 (.bin .sub (.t 36) (.t 37)),oM 39 2,oM 40 11,oO 41 (.bin .add (.t 39) (.t 40)),oM 42 10,oO 43 (.bin .sub (.t 41) (.t 42)),oM 44 10,oM 45 4,oO 46 (.call 88 [.t 35,.t 38,.t 43,.t 44,.t 45])] (.region [oM 47 11,oM 48 10,oO 49 (.bin .sub (.t 47) (.t 48)),oM 11 49])))))))) (.region [oM 50 0,oM 51 2,oM 52 10,oO 53 (.bin .sub (.t 51) (.t 52)),oM 54 2,oM 55 10,oM 56 4,oO 57 (.call 88 [.t 50,.t 53,.t 54,.t 55,.t 56])]))),.gc,false,false⟩
theorem k82:compF Try.prog pG Try.f82=some c82:=by kernel_rfl
def c84:AFunc:=⟨22,[.tmp 2],qR [oO 1 (.box (.t 0)),oO 2 (.mv (.c (.bool false)))] (qR [oF 3 0 1,oL 4 1 3,oO 5 (.bin .eql (.t 4) (nI 0)),oM 6 5,oG 7 (.faddr 1 (.t 1)) 6 true,oG 8 (.load 1 false (.t 7)) 6 true,oG 9 (.bin .eql (.t 8) (nI 0)) 6 true,oO 10 (.pick (.t 6) (.t 9) (.c (.bool false))),oM 11 10,oG 12 (.faddr 2 (.t 1)) 11 true,oG 13 (.load 1 false (.t 12)) 11 true,oG 14 (.bin .eql (.t 13) (.c oS)) 11 true,oO 15 (.pick (.t 11) (.t 14) (.c (.bool false))),oM 16 15,oG 17 (.faddr 3 (.t 1)) 16 true,oG 18 (.load 1 false (.t 17)) 16 true,oG 19 (.len false (.t 18)) 16 true,oG 20 (.bin .eql (.t 19) (nI 0)) 16 true,oO 21 (.pick (.t 16) (.t 20) (.c (.bool false))),oM 2 21] .ret),.pure,true,true⟩
theorem k84:compF Try.prog pP Try.f84=some c84:=by kernel_rfl
def c85:AFunc:=⟨27,[.tmp 2],qR [oO 2 (.mv (.c (.bool false)))] (.seq (qR [oM 5 0,oO 6 (.rng (.t 5))] (.block 0 (.loop (qR [oO 7 (.nxt (.t 6)),oX 8 0 7] (.seq (.cond (.t 8) .skip (.exit 0)) (.block 1 (qR [oX 9 2 7,oM 4 9] (qR [oM 10 4,oO 11 (.bin .lss (.t 10) (.c (.int .i32 32))),oM 12 11,oG 13 (.mv (.t 4)) 12 false,oG 14 (.bin .gtr (.t 13) (.c (.int .i32 126))) 12 false,oO 15 (.pick (.t 12) (.c (.bool true)) (.t 14)),oM 16 15,oG 17 (.mv (.t 4)) 16 false,oG 18 (.bin .eql (.t 17) (.c (.int .i32 34))) 16 false,oO 19 (.pick (.t 16) (.c (.bool true)) (.t 18)),oM 20 19,oG 21 (.mv (.t 4)) 20 false,oG 22 (.bin .eql (.t 21) (.c (.int .i32 92))) 20 false,oO 23 (.pick (.t 20) (.c (.bool true)) (.t 22))] (.cond (.t 23) (qR [oO 2 (.mv (.c (.bool false)))] .ret) .skip))))))))) (qR [oM 24 0,oO 25 (.len true (.t 24)),oO 26 (.bin .leq (.t 25) (nI 32)),oM 2 26] .ret)),.pure,true,true⟩
theorem k85:compF Try.prog pP Try.f85=some c85:=by kernel_rfl
def c86:AFunc:=⟨9,[.tmp 4],qR [oO 4 (.mv (.c (.bool false)))] (qR [oM 5 0,oM 6 1,oO 7 (.call 89 [.t 5,.t 6]),oO 8 (.bin .geq (.t 7) (nI 0)),oM 4 8] .ret),.pure,true,true⟩
theorem k86:compF Try.prog pP Try.f86=some c86:=by kernel_rfl
def c87:AFunc:=⟨9,[.tmp 3],qR [oO 2 (.box (.t 0)),oO 3 (.mv (.c (.bool false)))] (qR [oR 4 4 2,oL 5 1 1,oO 6 (.bin .sub (.t 5) (nI 1)),oO 7 (.call 81 [.t 4,.t 6]),oO 8 (.un .not (.t 7)),oM 3 8] .ret),.pure,true,true⟩
theorem k87:compF Try.prog pP Try.f87=some c87:=by kernel_rfl
def c88:AFunc:=⟨38,[],qR [oO 10 (.mv (nI 0))] (.block 0 (.loop (.seq (qR [oM 11 10,oM 12 3,oO 13 (.bin .lss (.t 11) (.t 12))] (.cond (.t 13) .skip (.exit 0))) (.seq (.block 1 (.region [oM 16 0,oM 17 1,oM 18 10,oO 19 (.bin .add (.t 17) (.t 18)),oM 20 0,oM 21 2,oM 22 10,oO 23 (.bin .add (.t 21) (.t 22)),oM 24 0,oM 25 2,oM 26 10,oO 27 (.bin .add (.t 25) (.t 26)),oO 28 (.iaddrS 3 (.t 24) (.t 27)),oR 29 3 28,oM 30 0,oM 31 1,oM 32 10,oO 33 (.bin .add (.t 31) (.t 32)),oO 34 (.iaddrS 3 (.t 30) (.t 33)),oR 35 3 34,oO 36 (.iaddrS 3 (.t 16) (.t 19)),oU (.store 3 (.t 36) (.t 29)),oO 37 (.iaddrS 3 (.t 20) (.t 23)),oU (.store 3 (.t 37) (.t 35))])) (.region [oM 14 10,oO 15 (.bin .add (.t 14) (nI 1)),oM 10 15]))))),.gc,false,false⟩
theorem k88:compF Try.prog pG Try.f88=some c88:=by kernel_rfl
def c89:AFunc:=⟨19,[.tmp 4],qR [oO 4 (.mv (nI 0))] (.seq (qR [oM 6 0,oO 7 (.len false (.t 6)),oO 8 (.mv (nI 0))] (.block 0 (.loop (qR [oO 9 (.bin .lss (.t 8) (.t 7))] (.seq (.cond (.t 9) .skip (.exit 0)) (.seq (.block 1 (qR [oM 10 8,oM 5 10] (qR [oM 11 1,oM 12 0,oM 13 5,oO 14 (.iaddrS 4 (.t 12) (.t 13)),oR 15 4 14,oO 16 (.callv (.t 11) [.t 15])] (.cond (.t 16) (qR [oM 17 5,oM 4 17] .ret) .skip)))) (.region [oO 18 (.bin .add (.t 8) (nI 1)),oM 8 18]))))))) (qR [oO 4 (.mv (nI (-1)))] .ret)),.pure,true,true⟩
theorem k89:compF Try.prog pP Try.f89=some c89:=by kernel_rfl
def x34:AFunc:=⟨8,[.tmp 2],
 .seq (.region [
  ⟨(some 2),.mv (.c (.isl [] true)),none,[]⟩]) (
 .seq (.seq (.region [
  ⟨(some 3),.mv (.t 0),none,[]⟩,
  ⟨(some 4),.eqnil false (.t 3),none,[]⟩]) (
 .cond (.t 4) (
  .seq (.region [
   ⟨(some 2),.mv (.c (.isl [] true)),none,[]⟩]) (
  .ret)) (
  .skip))) (
 .seq (.region [
  ⟨(some 5),.buildSl 0 4 true [] [],none,[]⟩,
  ⟨(some 6),.mv (.t 0),none,[]⟩,
  ⟨(some 7),.append 4 true 56 true (.t 5) (.t 6),none,[]⟩,
  ⟨(some 2),.mv (.t 7),none,[]⟩]) (
 .ret))),
 .raw,false,false⟩
theorem kx34:compF Try.prog {mt:=true,mtAt:=[],mode:=.raw,clArgs:=false,clRes:=false} Try.f34=some x34:=by kernel_rfl
def x53:AFunc:=⟨8,[.tmp 2],
 .seq (.region [
  ⟨(some 2),.mv (.c (.isl [] true)),none,[]⟩]) (
 .seq (.seq (.region [
  ⟨(some 3),.mv (.t 0),none,[]⟩,
  ⟨(some 4),.eqnil false (.t 3),none,[]⟩]) (
 .cond (.t 4) (
  .seq (.region [
   ⟨(some 2),.mv (.c (.isl [] true)),none,[]⟩]) (
  .ret)) (
  .skip))) (
 .seq (.region [
  ⟨(some 5),.buildSl 0 3 true [] [],none,[]⟩,
  ⟨(some 6),.mv (.t 0),none,[]⟩,
  ⟨(some 7),.append 3 true 48 true (.t 5) (.t 6),none,[]⟩,
  ⟨(some 2),.mv (.t 7),none,[]⟩]) (
 .ret))),
 .raw,false,false⟩
theorem kx53:compF Try.prog {mt:=true,mtAt:=[],mode:=.raw,clArgs:=false,clRes:=false} Try.f53=some x53:=by kernel_rfl
noncomputable def fns:List (Nat × AFunc):=[(3,c3),(4,c4),(5,c5),(6,c6),(7,c7),(8,c8),(9,c9),(10,c10),(11,c11),(12,c12),(13,c13),(15,c15),(16,c16),(17,c17),(18,c18),(20,c20),(21,c21),(22,c22),(23,c23),(24,c24),(25,c25),(26,c26),(27,c27),(28,c28),(29,c29),(30,c30),(31,c31),(32,c32),(33,c33),(35,c35),(36,c36),(37,c37),(38,c38),(39,c39),(40,c40),(41,c41),(42,c42),(43,c43),(44,c44),(45,c45),(46,c46),(47,c47),(48,c48),(49,c49),(50,c50),(51,c51),(52,c52),(54,c54),(55,c55),(56,c56),(57,c57),(58,c58),(59,c59),(60,c60),(61,c61),(62,c62),(63,c63),(64,c64),(65,c65),(66,c66),(67,c67),(68,c68),(69,c69),(70,c70),(71,c71),(72,c72),(73,c73),(74,c74),(75,c75),(76,c76),(77,c77),(78,c78),(79,c79),(81,c81),(82,c82),(84,c84),(85,c85),(86,c86),(87,c87),(88,c88),(89,c89)]
set_option maxRecDepth 100000 in
theorem fns_ok:∀ p∈fns,∃ fn pol,Try.prog.funcs[p.1]?=some fn∧compF Try.prog pol fn=some p.2:=by
 simp only [fns,List.forall_mem_cons]
 exact ⟨⟨_,_,Try.func3,k3⟩,⟨_,_,Try.func4,k4⟩,⟨_,_,Try.func5,k5⟩,⟨_,_,Try.func6,k6⟩,⟨_,_,Try.func7,k7⟩,⟨_,_,Try.func8,k8⟩,⟨_,_,Try.func9,k9⟩,⟨_,_,Try.func10,k10⟩,⟨_,_,Try.func11,k11⟩,⟨_,_,Try.func12,k12⟩,⟨_,_,Try.func13,k13⟩,⟨_,_,Try.func15,k15⟩,⟨_,_,Try.func16,k16⟩,⟨_,_,Try.func17,k17⟩,⟨_,_,Try.func18,k18⟩,⟨_,_,Try.func20,k20⟩,⟨_,_,Try.func21,k21⟩,⟨_,_,Try.func22,k22⟩,⟨_,_,Try.func23,k23⟩,⟨_,_,Try.func24,k24⟩,⟨_,_,Try.func25,k25⟩,⟨_,_,Try.func26,k26⟩,⟨_,_,Try.func27,k27⟩,⟨_,_,Try.func28,k28⟩,⟨_,_,Try.func29,k29⟩,⟨_,_,Try.func30,k30⟩,⟨_,_,Try.func31,k31⟩,⟨_,_,Try.func32,k32⟩,⟨_,_,Try.func33,k33⟩,⟨_,_,Try.func35,k35⟩,⟨_,_,Try.func36,k36⟩,⟨_,_,Try.func37,k37⟩,⟨_,_,Try.func38,k38⟩,⟨_,_,Try.func39,k39⟩,⟨_,_,Try.func40,k40⟩,⟨_,_,Try.func41,k41⟩,⟨_,_,Try.func42,k42⟩,⟨_,_,Try.func43,k43⟩,⟨_,_,Try.func44,k44⟩,⟨_,_,Try.func45,k45⟩,⟨_,_,Try.func46,k46⟩,⟨_,_,Try.func47,k47⟩,⟨_,_,Try.func48,k48⟩,⟨_,_,Try.func49,k49⟩,⟨_,_,Try.func50,k50⟩,⟨_,_,Try.func51,k51⟩,⟨_,_,Try.func52,k52⟩,⟨_,_,Try.func54,k54⟩,⟨_,_,Try.func55,k55⟩,⟨_,_,Try.func56,k56⟩,⟨_,_,Try.func57,k57⟩,⟨_,_,Try.func58,k58⟩,⟨_,_,Try.func59,k59⟩,⟨_,_,Try.func60,k60⟩,⟨_,_,Try.func61,k61⟩,⟨_,_,Try.func62,k62⟩,⟨_,_,Try.func63,k63⟩,⟨_,_,Try.func64,k64⟩,⟨_,_,Try.func65,k65⟩,⟨_,_,Try.func66,k66⟩,⟨_,_,Try.func67,k67⟩,⟨_,_,Try.func68,k68⟩,⟨_,_,Try.func69,k69⟩,⟨_,_,Try.func70,k70⟩,⟨_,_,Try.func71,k71⟩,⟨_,_,Try.func72,k72⟩,⟨_,_,Try.func73,k73⟩,⟨_,_,Try.func74,k74⟩,⟨_,_,Try.func75,k75⟩,⟨_,_,Try.func76,k76⟩,⟨_,_,Try.func77,k77⟩,⟨_,_,Try.func78,k78⟩,⟨_,_,Try.func79,k79⟩,⟨_,_,Try.func81,k81⟩,⟨_,_,Try.func82,k82⟩,⟨_,_,Try.func84,k84⟩,⟨_,_,Try.func85,k85⟩,⟨_,_,Try.func86,k86⟩,⟨_,_,Try.func87,k87⟩,⟨_,_,Try.func88,k88⟩,⟨_,_,Try.func89,k89⟩,fun _ h=>by cases h⟩
noncomputable def rds (rc:RCode):Option (Nat × ACode × ACode):=none
theorem rds_ok:∀ rc nt a b,rds rc=some (nt,a,b)→∃ mt,compC Try.prog mt nt rc.assign=some a∧compC Try.prog mt nt rc.body=some b∧noRf a=true∧noRf b=true:=by
 intro rc nt a b h
 unfold rds at h
 cases h
open Go.RowKit Go.Mach
set_option maxHeartbeats 1000000 in
set_option maxRecDepth 100000 in
theorem cmp_calls (a b:ByteArray) (w:World) :
  Calls Try.prog 80 #[.string a,.string b] w fun e w'=>e=.returned (.int .i64 (Lib.compareBytes a.data.toList b.data.toList))∧w'=w:=by
 go_enter Try.func80,Try.ntmps80
 go_wp2
 rw [run_callFunc_extern Try.func83 (by kernel_rfl) (by kernel_rfl) (by kernel_rfl) (e:=Extern.BytealgCompare.compare) (by kernel_rfl),Lib.run_compareString]
 simp only [Result.andThen]
 rw [Oper.upon_value]
 go_wp2
 go_ret
 exact ⟨rfl,rfl⟩
def cmpP (args:List AV) (_:Nat) (σ:Heap):Option (AV × Heap):=match args with
 | [.str a,.str b]=>some (.int .i64 (Lib.compareBytes a.data.toList b.data.toList),σ)
 | _=>none
theorem args1 {g:Gh} {x:AV} {cargs:Array Value} (hA:Args g [x] cargs):∃ c,cargs=#[c]∧VR g x c:=by
 have h0:=hA.len
 match hcl:cargs.toList,(show cargs.toList.length=1 by simpa using h0.symm) with
 | [c],_=>exact ⟨c,by rw [←Array.toArray_toList (xs:=cargs),hcl],hA.val 0 _ c rfl (by rw [←Array.getElem?_toList,hcl]; rfl)⟩
theorem args2 {g:Gh} {x y:AV} {cargs:Array Value} (hA:Args g [x,y] cargs):∃ c d,cargs=#[c,d]∧VR g x c∧VR g y d:=by
 have h0:=hA.len
 match hcl:cargs.toList,(show cargs.toList.length=2 by simpa using h0.symm) with
 | [c,d],_=>
  exact ⟨c,d,by rw [←Array.toArray_toList (xs:=cargs),hcl],hA.val 0 _ c rfl (by rw [←Array.getElem?_toList,hcl]; rfl),hA.val 1 _ d rfl (by rw [←Array.getElem?_toList,hcl]; rfl)⟩
theorem cmp_ok:PrimOK Try.prog 80 cmpP:=by
 intro args bs σ v σ' h hbs
 unfold cmpP at h
 split at h
 ·rename_i a b
  injection h with h; injection h with e1 e2; subst e1 e2
  refine ⟨⟨_,Try.func80,by kernel_rfl,by kernel_rfl⟩,fun g ow w cargs hH hA=>?_⟩
  obtain ⟨c,d,rfl,hx,hy⟩:=args2 hA
  rw [hx.strv,hy.strv]
  refine (cmp_calls a b w).mono ?_
  rintro e w' ⟨rfl,rfl⟩
  exact ⟨_,g,ow,rfl,.int _ _,hH,.refl ..⟩
 ·cases h
theorem eq_nil {P:Program} {t e:TypeId} (ht:P.underlying t=some (.slice e)) (a:Option Addr) (c:Nat) (w:World):Sem.run P (binOp .eql t (.slice a 0 c) (.slice none 0 0)) w=.ok (.bool a.isNone) w:=by
 have heq:(Op.equal t (.slice a 0 c) (.slice none 0 0)).run P w=.ok a.isNone w:=by
  have hd:∀ d,(Op.equalIn (d+1) t (.slice a 0 c) (.slice none 0 0)).run P w=.ok a.isNone w:=fun d=>by cases a <;> simp [Op.equalIn,run_und ht]
  exact hd 9999
 simp [binOp,heq]
set_option maxRecDepth 100000 in
set_option maxHeartbeats 1000000 in
theorem cloneV_nil (a:Option Addr) (c:Nat) (w:World) :
  Calls Try.prog 34 #[.slice a 0 c] w fun e w'=>∃ a',e=.returned (.slice a' 0 0)∧Same w w'∧w.heap.size≤w'.heap.size∧∀ b,b<w.heap.size→w'.heap[b]?=w.heap[b]?:=by
 go_enter Try.func34,Try.ntmps34
 have hu:Try.prog.underlying 40=some (.slice 71):=by kernel_rfl
 cases a with
 | none=>
  have hb:∀ w,Sem.run Try.prog (binOp .eql 40 (.slice none 0 c) (.slice none 0 0)) w=.ok (.bool true) w:=fun w=>eq_nil hu none c w
  go_wp2
  go_ret
  exact ⟨_,rfl,⟨rfl,rfl,rfl⟩,Nat.le_refl _,fun _ _=>rfl⟩
 | some a=>
  have hb:∀ w,Sem.run Try.prog (binOp .eql 40 (.slice (some a) 0 c) (.slice none 0 0)) w=.ok (.bool false) w:=fun w=>eq_nil hu (some a) c w
  go_wp2
  go_ret
  have hal:∀ o,(w.alloc o).heap=w.heap.push o:=fun _=>rfl
  exact ⟨_,rfl,⟨rfl,rfl,rfl⟩,by rw [hal,Array.size_push]; exact Nat.le_succ _,fun b hb=>by rw [hal,Array.getElem?_push,if_neg (Nat.ne_of_lt hb)]⟩
set_option maxRecDepth 100000 in
set_option maxHeartbeats 1000000 in
theorem cloneW_nil (a:Option Addr) (c:Nat) (w:World) :
  Calls Try.prog 53 #[.slice a 0 c] w fun e w'=>∃ a',e=.returned (.slice a' 0 0)∧Same w w'∧w.heap.size≤w'.heap.size∧∀ b,b<w.heap.size→w'.heap[b]?=w.heap[b]?:=by
 go_enter Try.func53,Try.ntmps53
 have hu:Try.prog.underlying 27=some (.slice 42):=by kernel_rfl
 cases a with
 | none=>
  have hb:∀ w,Sem.run Try.prog (binOp .eql 27 (.slice none 0 c) (.slice none 0 0)) w=.ok (.bool true) w:=fun w=>eq_nil hu none c w
  go_wp2
  go_ret
  exact ⟨_,rfl,⟨rfl,rfl,rfl⟩,Nat.le_refl _,fun _ _=>rfl⟩
 | some a=>
  have hb:∀ w,Sem.run Try.prog (binOp .eql 27 (.slice (some a) 0 c) (.slice none 0 0)) w=.ok (.bool false) w:=fun w=>eq_nil hu (some a) c w
  go_wp2
  go_ret
  have hal:∀ o,(w.alloc o).heap=w.heap.push o:=fun _=>rfl
  exact ⟨_,rfl,⟨rfl,rfl,rfl⟩,by rw [hal,Array.size_push]; exact Nat.le_succ _,fun b hb=>by rw [hal,Array.getElem?_push,if_neg (Nat.ne_of_lt hb)]⟩
open Go.RowKit Go.Mach
def TV:Tab:=⟨fun f=>if f=34 then some x34 else none,fun _=>none,fun _=>none⟩
theorem TV_ok:TabOK Try.prog TV where
 mixed:=by kernel_rfl
 fn f af h:=by
  simp only [TV] at h
  split at h
  ·rename_i e; injection h with h; subst h e; exact ⟨_,_,Try.func34,kx34⟩
  ·cases h
 pr f p h:=by cases h
 yn:=⟨rfl,by decide⟩
theorem cloneV_run (es:List AV) (c:Bool) (bs:Nat) (σ:Heap) (hne:es≠[]) (hf:(flat es).length=es.length * 4) (hl:es.length≤10000000000) :
  evalFn TV 3 34 [.isl es c] bs σ=some (.sl (σ.length+1) 0 es.length 4 true,σ++[.cells [] 0 false,.cells (flat es) 0 true]):=by
 have hnn:notNil (.isl es c)=true:=by cases es with
  | nil=>exact absurd rfl hne
  | cons x l=>rfl
 have he0:elemsA (σ++[.cells [] 0 false]) 4 true (.sl σ.length 0 0 4 true)=some []:=by
  simp [elemsA,window,chunk]
 have he1:elemsN (σ++[.cells [] 0 false]) 4 true (.isl es c)=some es:=rfl
 have hap:appendA (σ++[.cells [] 0 false]) 4 true 56 true (.sl σ.length 0 0 4 true) (.isl es c)=some (.sl (σ.length+1) 0 es.length 4 true,σ++[.cells [] 0 false,.cells (flat es) 0 true]):=by
  have h1:¬ ((4:Nat)=0∨(0+es.length) * 56 > 70368744177664∨0+es.length > 70368744177664):=by omega
  simp only [appendA,he0,he1,Option.bind_some,isSl,if_neg hne,List.length_nil,if_neg h1]
  simp [hf]
  simp [flat]
 simp [evalFn,TV,x34,exec,runOps,startA,stepAll,stepOp,ev,hnn,onNormal,finA,resA,res1,closeRes,closeArgs,dropA,baseA,guardA,chkO,setDst,fillA,hap]
def cloneVP (args:List AV) (bs:Nat) (σ:Heap):Option (AV × Heap):=match args with
 | [.isl es c]=>if es=[] then some (.isl [] true,σ) else if (flat es).length=es.length * 4∧es.length≤10000000000 then some (.sl (σ.length+1) 0 es.length 4 true,σ++[.cells [] 0 false,.cells (flat es) 0 true]) else none
 | _=>none
theorem cloneV_ok:PrimOK Try.prog 34 cloneVP:=by
 intro args bs σ v σ' h hbs
 unfold cloneVP at h
 split at h
 ·rename_i es c
  split at h
  ·rename_i he; subst he
   injection h with h; injection h with e1 e2; subst e1 e2
   refine ⟨⟨_,Try.func34,by kernel_rfl,by kernel_rfl⟩,fun g ow w cargs hH hA=>?_⟩
   obtain ⟨cc,rfl,hx⟩:=args1 hA
   obtain ⟨ad,cap,rfl⟩:∃ ad cap,cc=.slice ad 0 cap:=by
    cases hx with
    | @isl _ _ ad c0 _ _ _ vs hc hs ha hcap hn hM hV=>exact ⟨_,_,rfl⟩
   refine (cloneV_nil ad cap w).mono ?_
   rintro e w' ⟨a',rfl,hs,hsz,hheap⟩
   obtain ⟨h1,h2⟩:=hH.more (bs:=bs) hsz hheap hs.os hs.tape hs.output
   exact ⟨_,g,ow,rfl,isl_VR (es:=[]) (b:=0) (p:=0) (s:=1) (a:=a') (c:=0) (by simp) (by omega) (.inl rfl) (fun _=>rfl) (Nat.zero_le _) (by simp [flat]),h1,h2⟩
  ·rename_i hne
   split at h
   ·rename_i hc
    injection h with h; injection h with e1 e2; subst e1 e2
    exact (eval_sound TV_ok 3).fn _ _ _ _ _ _ (by decide) (cloneV_run es c bs σ hne hc.1 hc.2) hbs
   ·cases h
 ·cases h
def TW:Tab:=⟨fun f=>if f=53 then some x53 else none,fun _=>none,fun _=>none⟩
theorem TW_ok:TabOK Try.prog TW where
 mixed:=by kernel_rfl
 fn f af h:=by
  simp only [TW] at h
  split at h
  ·rename_i e; injection h with h; subst h e; exact ⟨_,_,Try.func53,kx53⟩
  ·cases h
 pr f p h:=by cases h
 yn:=⟨rfl,by decide⟩
theorem cloneW_run (es:List AV) (c:Bool) (bs:Nat) (σ:Heap) (hne:es≠[]) (hf:(flat es).length=es.length * 3) (hl:es.length≤10000000000) :
  evalFn TW 3 53 [.isl es c] bs σ=some (.sl (σ.length+1) 0 es.length 3 true,σ++[.cells [] 0 false,.cells (flat es) 0 true]):=by
 have hnn:notNil (.isl es c)=true:=by cases es with
  | nil=>exact absurd rfl hne
  | cons x l=>rfl
 have he0:elemsA (σ++[.cells [] 0 false]) 3 true (.sl σ.length 0 0 3 true)=some []:=by
  simp [elemsA,window,chunk]
 have he1:elemsN (σ++[.cells [] 0 false]) 3 true (.isl es c)=some es:=rfl
 have hap:appendA (σ++[.cells [] 0 false]) 3 true 48 true (.sl σ.length 0 0 3 true) (.isl es c)=some (.sl (σ.length+1) 0 es.length 3 true,σ++[.cells [] 0 false,.cells (flat es) 0 true]):=by
  have h1:¬ ((3:Nat)=0∨(0+es.length) * 48 > 70368744177664∨0+es.length > 70368744177664):=by omega
  simp only [appendA,he0,he1,Option.bind_some,isSl,if_neg hne,List.length_nil,if_neg h1]
  simp [hf]
  simp [flat]
 simp [evalFn,TW,x53,exec,runOps,startA,stepAll,stepOp,ev,hnn,onNormal,finA,resA,res1,closeRes,closeArgs,dropA,baseA,guardA,chkO,setDst,fillA,hap]
def cloneWP (args:List AV) (bs:Nat) (σ:Heap):Option (AV × Heap):=match args with
 | [.isl es c]=>if es=[] then some (.isl [] true,σ) else if (flat es).length=es.length * 3∧es.length≤10000000000 then some (.sl (σ.length+1) 0 es.length 3 true,σ++[.cells [] 0 false,.cells (flat es) 0 true]) else none
 | _=>none
theorem cloneW_ok:PrimOK Try.prog 53 cloneWP:=by
 intro args bs σ v σ' h hbs
 unfold cloneWP at h
 split at h
 ·rename_i es c
  split at h
  ·rename_i he; subst he
   injection h with h; injection h with e1 e2; subst e1 e2
   refine ⟨⟨_,Try.func53,by kernel_rfl,by kernel_rfl⟩,fun g ow w cargs hH hA=>?_⟩
   obtain ⟨cc,rfl,hx⟩:=args1 hA
   obtain ⟨ad,cap,rfl⟩:∃ ad cap,cc=.slice ad 0 cap:=by
    cases hx with
    | @isl _ _ ad c0 _ _ _ vs hc hs ha hcap hn hM hV=>exact ⟨_,_,rfl⟩
   refine (cloneW_nil ad cap w).mono ?_
   rintro e w' ⟨a',rfl,hs,hsz,hheap⟩
   obtain ⟨h1,h2⟩:=hH.more (bs:=bs) hsz hheap hs.os hs.tape hs.output
   exact ⟨_,g,ow,rfl,isl_VR (es:=[]) (b:=0) (p:=0) (s:=1) (a:=a') (c:=0) (by simp) (by omega) (.inl rfl) (fun _=>rfl) (Nat.zero_le _) (by simp [flat]),h1,h2⟩
  ·rename_i hne
   split at h
   ·rename_i hc
    injection h with h; injection h with e1 e2; subst e1 e2
    exact (eval_sound TW_ok 3).fn _ _ _ _ _ _ (by decide) (cloneW_run es c bs σ hne hc.1 hc.2) hbs
   ·cases h
 ·cases h
open Go.RowKit Go.Mach
open Go.RowKit Go.Mach
open Go.Mach
def prims:List (Nat × (List AV→Nat→Heap→Option (AV × Heap))):=[
 (80,cmpP),
 (34,cloneVP),
 (53,cloneWP),
 (1000000,fun _ _ _=>none)]
noncomputable def T:Tab:=⟨fun f=>(fns.find? (·.1 == f)).map (·.2),fun f=>(prims.find? (·.1 == f)).map (·.2),rds⟩
theorem prims_ok:∀ p∈prims,PrimOK Try.prog p.1 p.2:=by
 simp only [prims,List.forall_mem_cons]
 exact ⟨
  cmp_ok,
  cloneV_ok,
  cloneW_ok,
  (fun _ _ _ _ _ h=>by cases h),fun _ h=>by cases h⟩
theorem T_ok:TabOK Try.prog T where
 mixed:=by kernel_rfl
 fn f af h:=by
  obtain ⟨p,hp,rfl⟩:=zqG.1 h
  have h1:=List.find?_some hp
  have h2:=fns_ok p (List.mem_of_find?_eq_some hp)
  have:p.1=f:=by simpa using h1
  rw [←this]; exact h2
 pr f p h:=by
  obtain ⟨q,hq,rfl⟩:=zqG.1 h
  have h1:=List.find?_some hq
  have h2:=prims_ok q (List.mem_of_find?_eq_some hq)
  have:q.1=f:=by simpa using h1
  rw [←this]; exact h2
 yn:=⟨by kernel_rfl,by kernel_rfl⟩
 rd:=rds_ok
theorem callN_T (f:Nat) (args:List AV) (bs:Nat) (σ:Heap) (h:headYld args=false):callN (callT T) f args bs σ=callT T f args bs σ:=by
 unfold callN
 split
 ·rename_i e; subst e
  rw [callT_yld T bs σ T_ok.yn.1 T_ok.yn.2]
  unfold roundA
  split
  ·cases h
  ·rfl
 ·rfl
attribute [simp] callN_T
end Go.Proofs.Ytkfiepnkedcmgaa
end
section
namespace Go.Mach
inductive GV where
 | mk (kind num:Int) (text:ByteArray) (items:List GV)
 deriving Inhabited
namespace GV
abbrev kind:GV→Int | .mk k _ _ _=>k
abbrev num:GV→Int | .mk _ n _ _=>n
abbrev text:GV→ByteArray | .mk _ _ t _=>t
abbrev items:GV→List GV | .mk _ _ _ l=>l
mutual
def enc:GV→AV
 | .mk k n t l=>.agg [.int .i64 k,.int .i64 n,.str t,.isl (encs l) false]
def encs:List GV→List AV
 | []=>[]
 | v :: l=>enc v :: encs l
end
theorem encs_map:∀ l:List GV,encs l=l.map enc
 | []=>rfl
 | v :: l=>by simp only [encs,List.map_cons,encs_map l]
@[simp] theorem encs_length (l:List GV):(encs l).length=l.length:=by simp [encs_map]
@[simp] theorem encs_get (l:List GV) (i:Nat):(encs l)[i]?=l[i]?.map enc:=by simp [encs_map]
@[simp] theorem encs_getE (l:List GV) (i:Nat) (h:i<(encs l).length):(encs l)[i]=(l[i]'(by simpa using h)).enc:=by simp [encs_map]
theorem enc_eq (v:GV):v.enc=.agg [.int .i64 v.kind,.int .i64 v.num,.str v.text,.isl (encs v.items) false]:=by cases v; simp only [enc,kind,num,text,items]
@[simp] theorem enc_fold (v:GV):AV.agg [.int .i64 v.kind,.int .i64 v.num,.str v.text,.isl (encs v.items) false]=v.enc:=(enc_eq v).symm
@[simp] theorem enc_cells (v:GV):v.enc.cells=[.int .i64 v.kind,.int .i64 v.num,.str v.text,.isl (encs v.items) false]:=by rw [enc_eq]; rfl
@[simp] theorem enc_solid (v:GV):v.enc.solid=true:=by rw [enc_eq]; rfl
@[simp] theorem enc_head (v:GV) (xs:List AV):headYld (v.enc :: xs)=false:=by rw [enc_eq]; rfl
@[simp] theorem enc_clean (v:GV):v.enc.clean=true:=by rw [enc_eq]; rfl
@[simp] theorem enc_closeR (σ:Heap) (v:GV):closeR σ v.enc=some (v.enc,σ):=by rw [enc_eq]; rfl
@[simp] theorem enc_datR (v:GV):v.enc.datR=true:=by rw [enc_eq]; rfl
@[simp] theorem enc_dat1 (v:GV):v.enc.clo1=false:=by rw [enc_eq]; rfl
@[simp] theorem enc_dat (v:GV):v.enc.dat=true:=by rw [enc_eq]; rfl
@[simp] theorem enc_clo (v:GV):v.enc.clo=true:=by rw [enc_eq]; rfl
def i64ok (n:Int):Prop:=-9223372036854775808≤n∧n≤9223372036854775807
mutual
def ok:GV→Prop
 | .mk k n _ l=>i64ok k∧i64ok n∧oks l
def oks:List GV→Prop
 | []=>True
 | v :: l=>ok v∧oks l
end
theorem oks_iff:∀ l:List GV,oks l↔∀ v∈l,ok v
 | []=>by simp [oks]
 | v :: l=>by simp [oks,oks_iff l]
mutual
def size:GV→Nat
 | .mk _ _ t l=>t.size+sizes l+5
def sizes:List GV→Nat
 | []=>0
 | v :: l=>size v+sizes l
end
end GV
structure IsV (P:Program) (tV tL tI tS:TypeId):Prop where
 fs:∃ fs:Array Field,P.underlying tV=some (.struct fs)∧fs.toList.map (·.type)=[tI,tI,tS,tL]
 int:P.underlying tI=some (.int .i64)
 str:P.underlying tS=some .string
 list:P.underlying tL=some (.slice tV)
theorem field_ty {P:Program} {fs:Array Field} {ts:List TypeId} (h:fs.toList.map (·.type)=ts) {vs:List AV} (hv:∀ (i:Nat) f x,fs.toList[i]?=some f→vs[i]?=some x→TyA P f.type x) {i:Nat} {t:TypeId} {x:AV} (ht:ts[i]?=some t) (hx:vs[i]?=some x):TyA P t x:=by
 rw [←h,List.getElem?_map] at ht
 obtain ⟨f,hf,rfl⟩:=zqG.1 ht
 exact hv i f x hf hx
end Go.Mach
end
section
namespace Go.Mach
end Go.Mach
namespace Go.Proofs.Ytkfiepnkedcmgaa
open Go.Mach
def cmpI (a b:Int):Int:=if a<b then -1 else if b<a then 1 else 0
mutual
def cmpV:GV→GV→Int
 | .mk k n t l,b=>if cmpI k b.kind≠0 then cmpI k b.kind else if k=1 then cmpI n b.num else if k=2∨k=3 then Lib.compareBytes t.data.toList b.text.data.toList else if k=4 then cmpVs l b.items else 0
def cmpVs:List GV→List GV→Int
 | [],[]=>0
 | [],_ :: _=>-1
 | _ :: _,[]=>1
 | x :: xs,y :: ys=>if cmpV x y≠0 then cmpV x y else cmpVs xs ys
end
theorem cmp68 (a b:Int):pureT T c45 [.int .i64 a,.int .i64 b]=some (.int .i64 (cmpI a b)):=by
 have h76:∀ (n:Int) bs σ,callT T 64 [.int .i64 n] bs σ=some (.bool false,σ):=fun n bs σ=>call_clean rfl rfl rfl rfl (by
  apply pure_enter (by simp [c64])
  simp [c64])
 apply pure_enter (by simp [c45])
 by_cases h1:a<b
 ·simp [c45,h76,h1,cmpI]
 ·by_cases h2:b<a
  ·simp [c45,h76,h1,h2,cmpI]
  ·simp [c45,h76,h1,h2,cmpI]
theorem call68 (a b:Int) (bs:Nat) (σ:Heap):callT T 45 [.int .i64 a,.int .i64 b] bs σ=some (.int .i64 (cmpI a b),σ):=call_clean rfl rfl rfl rfl (cmp68 a b)
theorem call73 (a b:ByteArray) (bs:Nat) (σ:Heap):callT T 80 [.str a,.str b] bs σ=some (.int .i64 (Lib.compareBytes a.data.toList b.data.toList),σ):=callT_pr (p:=cmpP) _ _ _ rfl _
theorem call56 (a b:ByteArray) (bs:Nat) (σ:Heap):callT T 68 [.str a,.str b] bs σ=some (.int .i64 (Lib.compareBytes a.data.toList b.data.toList),σ):=call_clean rfl rfl rfl rfl (by
 apply pure_enter (by simp [c68])
 simp [c68,call73])
theorem cmpVs_nil (l:List GV):cmpVs [] l=if l=[] then 0 else -1:=by cases l <;> simp [cmpVs]
theorem cmpFunc (l l2:List GV) (hn:l.length≤100000000000) (h:∀ x∈l,∀ y∈l2,∀ bs σ,callT T 70 [x.enc,y.enc] bs σ=some (.int .i64 (cmpV x y),σ)) :
  pureT T c69 [.isl (GV.encs l) false,.isl (GV.encs l2) false,.func 70 []]=some (.int .i64 (cmpVs l l2)):=by
 apply pure_enter (by simp [c69])
 simp [c69]
 refine W_upto T 0 39 l.length (fun i f σ=>f 11=.isl (GV.encs l) false∧f 12=.int .i64 (l.length:Int)∧f 13=.int .i64 (i:Int)∧f 0=.isl (GV.encs l) false∧f 1=.isl (GV.encs l2) false∧f 2=.func 70 []∧i≤l2.length∧cmpVs l l2=cmpVs (l.drop i) (l2.drop i)) ?_ _ _ ?_
 ·rintro i f σ Q' hi ⟨h11,h12,h13,h0,h1,h2,hi2,hcmp⟩ hnx hx
  by_cases hlt:i<l.length
  ·by_cases hlt2:i<l2.length
   ·have e1:l[i]?=some l[i]:=zqF hlt
    have e2:l2[i]?=some l2[i]:=zqF hlt2
    have hc:=h l[i] (zqT hlt) l2[i] (zqT hlt2)
    have hd:l.drop i=l[i] :: l.drop (i+1):=(zqM hlt)
    have hd2:l2.drop i=l2[i] :: l2.drop (i+1):=(zqM hlt2)
    by_cases hz:cmpV l[i] l2[i]=0
    ·simp [h11,h12,h13,h0,h1,h2,hlt,hlt2,Nat.not_le.2 hlt2,hc,hz]
     refine hnx _ _ hlt ⟨by simp [h11],by simp [h12],?_,by simp [h0],by simp [h1],by simp [h2],hlt2,?_⟩
     ·simp; rw [wr64 (by omega) (by omega)]
     ·rw [hcmp,hd,hd2,cmpVs]; simp [hz]
    ·simp [h11,h12,h13,h0,h1,h2,hlt,hlt2,Nat.not_le.2 hlt2,hc,hz]
     refine hx _ _ _ (by simp) (contQ_ret T 0 39 ?_)
     rw [hcmp,hd,hd2,cmpVs]; simp [hz]
   ·have e1:l[i]?=some l[i]:=zqF hlt
    have hd:l.drop i=l[i] :: l.drop (i+1):=(zqM hlt)
    have hd2:l2.drop i=[]:=List.drop_eq_nil_of_le (by omega)
    simp [h11,h12,h13,h0,h1,h2,hlt,Nat.not_lt.1 hlt2]
    refine hx _ _ _ (by simp) (contQ_ret T 0 39 ?_)
    rw [hcmp,hd,hd2,cmpVs]; simp
  ·have he:i=l.length:=by omega
   subst he
   simp [h12,h13]
   refine hx _ _ _ (by simp) (contQ_exit T 0 39 ?_)
   have hd:l.drop l.length=[]:=List.drop_length
   rw [hcmp,hd,cmpVs_nil]
   by_cases hlt2:l.length<l2.length
   ·have hne:l2.drop l.length≠[]:=by simp; omega
    simp [h0,h1,hlt2,hne]
   ·have hne:l2.drop l.length=[]:=by simp; omega
    simp [h0,h1,hlt2,hne]
 ·simp
theorem sizes_mem {l:List GV} {x:GV} (h:x∈l):x.size+5≤GV.sizes l+5∧l.length≤GV.sizes l:=by
 induction l with
 | nil=>cases h
 | cons y l ih=>
  have hy:5≤y.size:=by cases y; simp [GV.size]
  rcases List.mem_cons.1 h with rfl | h
  ·refine ⟨by simp [GV.sizes],?_⟩
   have:∀ l:List GV,l.length≤GV.sizes l:=fun l=>by
    induction l with
    | nil=>simp [GV.sizes]
    | cons z l ih=>have:5≤z.size:=(by cases z; simp [GV.size]); simp [GV.sizes]; omega
   have:=this l
   simp [GV.sizes]; omega
  ·obtain ⟨h1,h2⟩:=ih h
   simp [GV.sizes]; omega
theorem len_sizes (l:List GV):l.length≤GV.sizes l:=by
 cases l with
 | nil=>simp
 | cons x l=>exact (sizes_mem (List.mem_cons_self (a:=x) (l:=l))).2
theorem cmp58:∀ (n:Nat) (a b:GV),a.size≤n→n≤100000000000→pureT T c70 [a.enc,b.enc]=some (.int .i64 (cmpV a b)):=by
 intro n
 induction n with
 | zero=>intro a b h; cases a; simp [GV.size] at h
 | succ n ih=>
  intro a b hs hn
  obtain ⟨k,num,t,l⟩:=a
  obtain ⟨k2,num2,t2,l2⟩:=b
  have hl:GV.sizes l≤n:=by simp [GV.size] at hs; omega
  have hcall:∀ x∈l,∀ y∈l2,∀ bs σ,callT T 70 [x.enc,y.enc] bs σ=some (.int .i64 (cmpV x y),σ):=fun x hx y _ bs σ=>
   call_clean rfl rfl rfl (by simp) (ih x y (by have:=(sizes_mem hx).1; omega) (by omega))
  have hf:∀ bs σ,callT T 69 [.isl (GV.encs l) false,.isl (GV.encs l2) false,.func 70 []] bs σ=some (.int .i64 (cmpVs l l2),σ):=fun bs σ=>
   call_clean rfl rfl rfl rfl (cmpFunc l l2 (by have:=len_sizes l; omega) hcall)
  apply pure_enter (by simp [c70])
  by_cases h0:cmpI k k2=0
  ·by_cases h1:k=1
   ·subst h1; simp [c70,GV.enc_eq,GV.kind,GV.num,GV.text,GV.items,call68,h0,cmpV]
   ·by_cases h2:k=2
    ·subst h2; simp [c70,GV.enc_eq,GV.kind,GV.num,GV.text,GV.items,call68,call56,h0,cmpV]
    ·by_cases h3:k=3
     ·subst h3; simp [c70,GV.enc_eq,GV.kind,GV.num,GV.text,GV.items,call68,call56,h0,cmpV]
     ·by_cases h4:k=4
      ·subst h4; simp [c70,GV.enc_eq,GV.kind,GV.num,GV.text,GV.items,call68,hf,h0,cmpV]
      ·simp [c70,GV.enc_eq,GV.kind,GV.num,GV.text,GV.items,call68,h0,h1,h2,h3,h4,cmpV]
  ·simp [c70,GV.enc_eq,GV.kind,GV.num,GV.text,GV.items,call68,h0,cmpV]
open Go.Mach
theorem refLt2_bool (n:Nat) (b:Bool):refLt2 n (.bool b)=true:=rfl
theorem refLt2_int (n:Nat) (k:IntKind) (m:Int):refLt2 n (.int k m)=true:=rfl
open Go.Mach
def plainB (c:Nat):Bool:=decide (32≤c) && decide (c≤126) && !decide (c=34) && !decide (c=92)
def textOK (t:ByteArray):Bool:=t.data.toList.all (fun c=>plainB c.toNat) && decide (t.size≤32)
def letterB (c:Nat):Bool:=decide (97≤c) && decide (c≤122)
def innerB (c:Nat):Bool:=letterB c || decide (c=95) || (decide (48≤c) && decide (c≤57))
def nameL:List UInt8→Bool
 | []=>false
 | c :: l=>letterB c.toNat && l.all (fun c=>innerB c.toNat)
def nameOK (t:ByteArray):Bool:=nameL t.data.toList && decide (t.size≤16)
def rightB (v:GV) (lst:Bool):Bool:=
 if v.kind=1 then decide (v.text=⟨#[]⟩∧v.items=[]∧v.num≤2147483647∧-2147483647≤v.num)
 else if v.kind=2 then decide (v.num=0∧v.items=[]∧textOK v.text=true)
 else if v.kind=3 then decide (v.num=0∧v.items=[]∧nameOK v.text=true)
 else if v.kind=4 then decide (v.num=0∧v.text=⟨#[]⟩∧lst=true)
 else false
def rightV:Nat→GV→Bool
 | 0,v=>rightB v false
 | d+1,v=>rightB v (decide (v.items.length≤16∧v.items.all (rightV d)=true))
def bt (s:ByteArray) (i:Nat):Nat:=((s.data.toList[i]?).getD 0).toNat
theorem bt_eq {s:ByteArray} {i:Nat} (h:i<s.size):bt s i=(s.data.toList[i]'(by simpa using h)).toNat:=by
 simp only [bt]; rw [zqF (by simpa using h)]; rfl
theorem all_bt (s:ByteArray) (p:Nat→Bool):s.data.toList.all (fun c=>p c.toNat)=true↔∀ i,i<s.size→p (bt s i)=true:=by
 rw [zqQ]
 constructor
 ·intro h i hi
  rw [bt_eq hi]; exact h _ (zqT _)
 ·intro h c hc
  obtain ⟨i,hi,rfl⟩:=zqS hc
  have hi':i<s.size:=by simpa using hi
  have:=h i hi'
  rwa [bt_eq hi'] at this
theorem ba_empty (t:ByteArray):t=ByteArray.empty↔t.size=0:=⟨fun h=>by rw [h]; rfl,fun h=>ByteArray.ext (Array.eq_empty_of_size_eq_zero h)⟩
theorem ba_nil (t:ByteArray):t=⟨#[]⟩↔t.size=0:=⟨fun h=>by rw [h]; rfl,fun h=>ByteArray.ext (Array.eq_empty_of_size_eq_zero h)⟩
theorem ba_get {s:ByteArray} {i:Nat} (h:i<s.size):s[i]'h=s.data.toList[i]'(by simpa using h):=by
 cases s; rfl
theorem dec_lo {s:ByteArray} {i:Nat} (h:i<s.size) (ha:bt s i<128):Utf8.decode s i=(bt s i,1):=by
 rw [bt_eq h] at ha ⊢
 have:=decode_ascii s i h (by rw [ba_get h]; exact ha)
 rw [this,ba_get h]
theorem dec_hi {s:ByteArray} {i:Nat} (h:i<s.size) (ha:128≤bt s i):128≤(Utf8.decode s i).1:=by
 rw [bt_eq h] at ha
 exact (decode_high s i h (by rw [ba_get h]; exact ha)).1
theorem textOK_iff (t:ByteArray):textOK t=true↔(∀ i,i<t.size→plainB (bt t i)=true)∧t.size≤32:=by
 rw [textOK,zqL,all_bt t plainB,decide_eq_true_eq]
theorem textOK_no {t:ByteArray} {i:Nat} (h:i<t.size) (hp:plainB (bt t i)=false):textOK t=false:=by
 rw [Bool.eq_false_iff,Ne,textOK_iff]; intro hh; rw [hh.1 i h] at hp; cases hp
theorem plain_ok (t:ByteArray) (ht:t.size≤100000000000):pureT T c85 [.str t]=some (.bool (textOK t)):=by
 apply pure_enter (by simp [c85])
 simp [c85]
 refine W_for T 0 27 t.size (fun i f σ=>f 0=.str t∧f 6=.ptr 0 0∧σ=[.iter t i]∧∀ j,j<i→plainB (bt t j)=true) ?_ _ _ ?_
 ·rintro i f σ hi ⟨h0,h6,rfl,hall⟩
  by_cases hlt:i<t.size
  ·by_cases hlo:bt t i<128
   ·simp [h0,h6,hlt,dec_lo hlt hlo]
    have hno:=@textOK_no t i hlt
    refine ⟨fun h=>hno (by simp [plainB]; omega),fun h=>⟨fun h=>hno (by simp [plainB]; omega),fun h=>⟨fun h=>hno (by simp [plainB]; omega),fun h=>⟨fun h=>hno (by simp [plainB]; omega),fun h j hj=>?_⟩⟩⟩⟩
    by_cases e:j=i
    ·subst e; simp [plainB]; omega
    ·exact hall j (by omega)
   ·have:=dec_hi hlt (by omega)
    simp [h0,h6,hlt]
    have hno:=@textOK_no t i hlt
    refine ⟨fun h=>by omega,fun h=>⟨fun h=>hno (by simp [plainB]; omega),fun h=>by omega⟩⟩
  ·have he:i=t.size:=by omega
   subst he
   simp [h0,h6]
   refine ⟨fun h=>?_,fun h=>?_⟩
   ·exact (textOK_iff t).2 ⟨fun i hi=>hall i hi,by omega⟩
   ·refine Bool.eq_false_iff.2 fun hh=>?_
    have:=((textOK_iff t).1 hh).2
    omega
 ·simp
def nameG (s:ByteArray) (i:Nat):Bool:=if i=0 then letterB (bt s i) else innerB (bt s i)
theorem nameG_iff (s:ByteArray) (i:Nat):nameG s i=true↔(97≤bt s i∧bt s i≤122)∨(i≠0∧(bt s i=95∨(48≤bt s i∧bt s i≤57))):=by
 unfold nameG
 split
 ·simp [letterB]; omega
 ·simp [letterB,innerB]; omega
theorem nameOK_iff (t:ByteArray):nameOK t=true↔(∀ i,i<t.size→nameG t i=true)∧t.size≠0∧t.size≤16:=by
 have hs:t.data.toList.length=t.size:=by simp
 simp only [nameOK,zqL,decide_eq_true_eq]
 match hl:t.data.toList with
 | []=>
  rw [hl] at hs; simp at hs
  simp only [nameL,Bool.false_eq_true,false_and,false_iff]; omega
 | c :: l=>
  rw [hl] at hs; simp at hs
  have hb:∀ i,bt t i=(((c :: l)[i]?).getD 0).toNat:=fun i=>by simp only [bt,hl]
  simp only [nameL,zqL,zqQ]
  constructor
  ·rintro ⟨⟨h1,h2⟩,h3⟩
   refine ⟨fun i hi=>?_,by omega,h3⟩
   unfold nameG
   cases i with
   | zero=>simp [hb,h1]
   | succ i=>
    have hi':i<l.length:=by omega
    simp [hb,zqF hi',h2 l[i] (zqT hi')]
  ·rintro ⟨h1,h2,h3⟩
   refine ⟨⟨?_,fun x hx=>?_⟩,h3⟩
   ·have:=h1 0 (by omega)
    simpa [nameG,hb] using this
   ·obtain ⟨i,hi,rfl⟩:=zqS hx
    have:=h1 (i+1) (by omega)
    simpa [nameG,hb,zqF hi] using this
theorem nameOK_no {t:ByteArray} {i:Nat} (h:i<t.size) (hp:¬ ((97≤bt t i∧bt t i≤122)∨(i≠0∧(bt t i=95∨(48≤bt t i∧bt t i≤57))))):nameOK t=false:=by
 rw [←nameG_iff] at hp
 rw [Bool.eq_false_iff,Ne,nameOK_iff]; intro hh; exact hp (hh.1 i h)
theorem name_ok (t:ByteArray) (ht:t.size≤100000000000):pureT T c23 [.str t]=some (.bool (nameOK t)):=by
 apply pure_enter (by simp [c23])
 simp [c23]
 refine W_for T 0 43 t.size (fun i f σ=>f 0=.str t∧f 7=.ptr 0 0∧σ=[.iter t i]∧∀ j,j<i→nameG t j=true) ?_ _ _ ?_
 ·rintro i f σ hi ⟨h0,h6,rfl,hall⟩
  by_cases hlt:i<t.size
  ·have hno:=@nameOK_no t i hlt
   have hyes:_→∀ j,j<i+1→nameG t j=true:=fun h j hj=>by
    by_cases e:j=i
    ·subst e; exact (nameG_iff t j).2 h
    ·exact hall j (by omega)
   by_cases hlo:bt t i<128
   ·simp [h0,h6,hlt,dec_lo hlt hlo]
    repeat' (first | apply And.intro | intro _)
    all_goals first | exact hno (by omega) | exact hyes (by omega) _ (by assumption)
   ·have:=dec_hi hlt (by omega)
    simp [h0,h6,hlt]
    repeat' (first | apply And.intro | intro _)
    all_goals first | exact hno (by omega) | omega
  ·have he:i=t.size:=by omega
   subst he
   have hb:(nameOK t=true)↔t.size≠0∧t.size≤16:=by rw [nameOK_iff]; exact ⟨fun h=>h.2,fun h=>⟨fun i hi=>hall i hi,h⟩⟩
   simp [h0,h6,ba_empty,ba_nil,-ByteArray.size_eq_zero_iff]
   refine ⟨fun h=>⟨fun h2=>hb.2 ⟨h,by omega⟩,fun h2=>?_⟩,fun h=>?_⟩
   all_goals (refine Bool.eq_false_iff.2 fun hh=>?_; have:=hb.1 hh; omega)
 ·simp
theorem empty_ok (k n:Int) (t:ByteArray) (es:List AV):pureT T c84 [.agg [.int .i64 k,.int .i64 n,.str t,.isl es false]]=some (.bool (decide (k=0) && decide (n=0) && decide (t=⟨#[]⟩) && decide (es=[]))):=by
 apply pure_enter (by simp [c84])
 simp [c84]
 repeat' (first | apply And.intro | intro _)
 all_goals simp_all
theorem call_empty (k n:Int) (t:ByteArray) (es:List AV) (c:Bool) (bs:Nat) (σ:Heap):callT T 84 [.agg [.int .i64 k,.int .i64 n,.str t,.isl es c]] bs σ=some (.bool (sym (decide (k=0) && decide (n=0) && decide (t=⟨#[]⟩) && decide (es=[]))),σ):=
 call_scal rfl rfl rfl (empty_ok k n t es) rfl rfl rfl
def idxI (p:GV→Bool) (l:List GV):Int:=match l.findIdx? p with
 | some i=>(i:Int)
 | none=>-1
theorem findIdx_drop (p:GV→Bool) (l:List GV) (i:Nat) (hi:i<l.length) (h:∀ j,(hj:j<l.length)→j<i→p l[j]=false) (hp:p l[i]=true):l.findIdx? p=some i:=by
 rw [List.findIdx?_eq_some_iff_getElem]
 exact ⟨hi,hp,fun j hj=>by rw [h j (by omega) hj]; simp⟩
theorem index_ok (p:GV→Bool) (l:List GV) (g:Nat) (caps:List AV) (hl:l.length≤100000000000) (hc:∀ x∈l,∀ bs σ,callT T g (x.enc :: caps) bs σ=some (.bool (p x),σ)) :
  pureT T c89 [.isl (GV.encs l) false,.func g caps]=some (.int .i64 (idxI p l)):=by
 apply pure_enter (by simp [c89])
 simp [c89]
 refine W_for T 0 19 l.length (fun i f σ=>f 0=.isl (GV.encs l) false∧f 1=.func g caps∧f 7=.int .i64 (l.length:Int)∧f 8=.int .i64 (i:Int)∧∀ j,(hj:j<l.length)→j<i→p l[j]=false) ?_ _ _ ?_
 ·rintro i f σ hi ⟨h0,h1,h7,h8,hall⟩
  by_cases hlt:i<l.length
  ·have e1:l[i]?=some l[i]:=zqF hlt
   have hcl:=hc l[i] (zqT hlt)
   cases hp:p l[i]
   ·simp [h0,h1,h7,h8,hlt,hcl,hp]
    refine ⟨wr64 (by omega) (by omega),fun j hj hji=>?_⟩
    by_cases e:j=i
    ·subst e; exact hp
    ·exact hall j hj (by omega)
   ·simp [h0,h1,h7,h8,hlt,hcl,hp]
    simp [idxI,findIdx_drop p l i hlt hall hp]
  ·have he:i=l.length:=by omega
   subst he
   have hn:l.findIdx? p=none:=by
    rw [List.findIdx?_eq_none_iff]
    intro x hx
    obtain ⟨j,hj,rfl⟩:=zqS hx
    exact hall j hj hj
   simp [h0,h1,h7,h8,idxI,hn]
 ·simp
theorem contains_ok (p:GV→Bool) (l:List GV) (g:Nat) (caps:List AV) (hcl:caps.all AV.cleanC=true) (hl:l.length≤100000000000) (hc:∀ x∈l,∀ bs σ,callT T g (x.enc :: caps) bs σ=some (.bool (p x),σ)) :
  pureT T c86 [.isl (GV.encs l) false,.func g caps]=some (.bool (l.any p)):=by
 have h1:∀ bs σ,callT T 89 [.isl (GV.encs l) false,.func g caps] bs σ=some (.int .i64 (idxI p l),σ):=fun bs σ=>call_clean rfl rfl rfl (by simp [hcl]) (index_ok p l g caps hl hc)
 apply pure_enter (by simp [c86])
 have h2:(0≤idxI p l)↔l.any p=true:=by
  unfold idxI
  cases h:l.findIdx? p with
  | none=>rw [List.findIdx?_eq_none_iff] at h; simp only [List.any_eq_true]; exact ⟨fun h=>by omega,fun ⟨x,hx,hp⟩=>by rw [h x hx] at hp; cases hp⟩
  | some i=>
   rw [List.findIdx?_eq_some_iff_getElem] at h
   obtain ⟨hi,hp,_⟩:=h
   exact ⟨fun _=>List.any_eq_true.2 ⟨_,zqT hi,hp⟩,fun _=>by simp⟩
 simp [c86,h1]
 refine ⟨fun h=>by simpa using h2.1 h,fun h=>?_⟩
 have:¬ l.any p=true:=fun hh=>by have:=h2.2 hh; omega
 simpa using this
theorem plain_call (t:ByteArray) (ht:t.size≤100000000000) (bs:Nat) (σ:Heap):callT T 85 [.str t] bs σ=some (.bool (sym (textOK t)),σ):=call_clean rfl rfl rfl rfl (plain_ok t ht)
theorem name_call (t:ByteArray) (ht:t.size≤100000000000) (bs:Nat) (σ:Heap):callT T 23 [.str t] bs σ=some (.bool (sym (nameOK t)),σ):=call_clean rfl rfl rfl rfl (name_ok t ht)
theorem encs_nil (l:List GV):GV.encs l=[]↔l=[]:=by cases l <;> simp [GV.encs]
theorem right_base (d:Nat) (lst:Bool) (k n:Int) (t:ByteArray) (l:List GV) (ht:t.size≤100000000000) (hk:k≠4) :
  pureT T c81 [(GV.mk k n t l).enc,.int .i64 d]=some (.bool (rightB (GV.mk k n t l) lst)):=by
 have hp:=plain_call t ht
 have hn:=name_call t ht
 apply pure_enter (by simp [c81])
 by_cases h1:k=1
 ·subst h1; simp [c81,GV.enc_eq,GV.kind,GV.num,GV.text,GV.items,call_empty,rightB,setRun,encs_nil]
  repeat' (first | apply And.intro | intro _)
  all_goals grind
 by_cases h2:k=2
 ·subst h2; simp [c81,GV.enc_eq,GV.kind,GV.num,GV.text,GV.items,call_empty,rightB,setRun,hp,encs_nil]
  repeat' (first | apply And.intro | intro _)
  all_goals grind
 by_cases h3:k=3
 ·subst h3; simp [c81,GV.enc_eq,GV.kind,GV.num,GV.text,GV.items,call_empty,rightB,setRun,hn,encs_nil]
  repeat' (first | apply And.intro | intro _)
  all_goals grind
 simp [c81,GV.enc_eq,GV.kind,GV.num,GV.text,GV.items,call_empty,rightB,setRun,h1,h2,h3,hk]
theorem right_ok:∀ (d:Nat) (v:GV),d≤100→v.size≤100000000000→pureT T c81 [v.enc,.int .i64 d]=some (.bool (rightV d v)):=by
 intro d
 induction d with
 | zero=>
  intro v hd hs
  obtain ⟨k,n,t,l⟩:=v
  simp only [GV.size] at hs
  by_cases h4:k=4
  ·subst h4
   apply pure_enter (by simp [c81])
   simp [c81,GV.enc_eq,GV.kind,GV.num,GV.text,GV.items,call_empty,rightV,rightB,setRun]
  exact right_base 0 _ k n t l (by omega) h4
 | succ d ih=>
  intro v hd hs
  obtain ⟨k,n,t,l⟩:=v
  simp only [GV.size] at hs
  by_cases h4:k=4
  ·subst h4
   have hw:IntKind.i64.wrap (d:Int)=(d:Int):=wr64 (by omega) (by omega)
   have hcl:∀ x∈l,∀ bs σ,callT T 87 [x.enc,.iptr [.int .i64 ((d:Int)+1)] 0] bs σ=some (.bool (!rightV d x),σ):=fun x hx bs σ=>by
    have hr:∀ bs σ,callT T 81 [x.enc,.int .i64 d] bs σ=some (.bool (rightV d x),σ):=fun bs σ=>call_clean rfl rfl rfl (by simp) (ih x (by omega) (by have:=(sizes_mem hx).1; omega))
    refine call_clean rfl rfl rfl (by simp) (?_:pureT T c87 [x.enc,.iptr [.int .i64 ((d:Int)+1)] 0]=_)
    apply pure_enter (by simp [c87])
    simp [c87,hr,hw]
   have hlen:=len_sizes l
   have hcont:∀ bs A C,callT T 86 [.isl (GV.encs l) false,.func 87 [.ptr 1 0]] bs [A,.cells [.int .i64 ((d:Int)+1)] 0 false,C]=some (.bool (sym (l.any fun x=>!rightV d x)),[A,.cells [.int .i64 ((d:Int)+1)] 0 false,C]):=fun bs A C=>
    call_scal rfl rfl rfl (contains_ok _ l 87 [.iptr [.int .i64 ((d:Int)+1)] 0] (by simp) (by omega) hcl) rfl (by simp) (by simp [frz]; rfl)
   apply pure_enter (by simp [c81])
   simp [c81,GV.enc_eq,GV.kind,GV.num,GV.text,GV.items,call_empty,rightV,rightB,setRun,hcont,encs_nil]
   repeat' (first | apply And.intro | intro _)
   all_goals grind
  exact right_base _ _ k n t l (by omega) h4
open Go.Mach
abbrev rightT (v:GV):Bool:=rightV 4 v
theorem valRight_ok (v:GV) (hs:v.size≤100000000000):pureT T c75 [v.enc]=some (.bool (rightT v)):=by
 have hr:∀ bs σ,callT T 81 [v.enc,.int .i64 4] bs σ=some (.bool (sym (rightT v)),σ):=fun bs σ=>call_clean rfl rfl rfl (by simp) (right_ok 4 v (by omega) hs)
 apply pure_enter (by simp [c75])
 simp [c75,hr]
theorem valRight (v:GV) (hs:v.size≤100000000000) (bs:Nat) (σ:Heap):callT T 75 [v.enc] bs σ=some (.bool (sym (rightT v)),σ):=call_clean rfl rfl rfl (by simp) (valRight_ok v hs)
theorem valCmp (a b:GV) (hs:a.size≤100000000000) (bs:Nat) (σ:Heap):callT T 70 [a.enc,b.enc] bs σ=some (.int .i64 (cmpV a b),σ):=call_clean rfl rfl rfl (by simp) (cmp58 a.size a b (Nat.le_refl _) hs)
end Go.Proofs.Ytkfiepnkedcmgaa
end
