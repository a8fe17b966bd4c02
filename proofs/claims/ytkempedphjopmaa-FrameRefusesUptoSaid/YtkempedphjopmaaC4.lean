import Derived.Test.YtkempedphjopmaaC3
import Derived.Test.YtkempedphjopmaaChecked
import Derived.KernelRfl
import Derived.WalkKit
import Derived.Lib.Bytealg
import Derived.BigFrameIn
import Derived.Lib.Builder
import Derived.Lib.AppendStr
import Derived.Lib.UnsafeStr
import Derived.Lib.Walk
import Derived.BigRegion
import Derived.Laws.IdiomCopy
import Derived.Laws.Externs
import Derived.Laws.RangeAny
set_option linter.unusedVariables false
set_option linter.unusedSimpArgs false
set_option linter.unnecessarySimpa false
section
namespace Go.Mach
open Go.RowKit Go.ChangeShapes
open Go.Proofs.Ytkempedphjopmaa (Rows.uptoBulk Rows.uptoBulkAll Rows.uptoSmall)
def drawn2 (ops:Array Oper):Bool:=ops.size == 4 && Region.ready .any ops #[false,false,false,false] == [0] && Region.ready .any ops #[true,false,false,false] == [1,2] &&
 Region.ready .any ops #[true,true,false,false] == [2] && Region.ready .any ops #[true,false,true,false] == [1] && Region.ready .any ops #[true,true,true,false] == [3]
def swap2:List AOper→List AOper
 | [a,b,c,d]=>[a,c,b,d]
 | l=>l
def comp2 (P:Program) (mt:Array Oper→Bool) (nt:Nat):Code→Option (ACode × ACode)
 | .region _ ops draw=>if draw && drawn2 ops then (ops.toList.mapM (compOper P (mt ops) ops)).map fun l=>(.region (swap2 l),.region l) else none
 | .seq a b=>match comp2 P mt nt a with
  | some p=>(compC P mt nt b).map fun y=>(.seq p.1 y,.seq p.2 y)
  | none=>(compC P mt nt a).bind fun x=>(comp2 P mt nt b).map fun q=>(.seq x q.1,.seq x q.2)
 | .cond c a b=>(cx c).bind fun z=>match comp2 P mt nt a with
  | some p=>(compC P mt nt b).map fun y=>(.cond z p.1 y,.cond z p.2 y)
  | none=>(compC P mt nt a).bind fun x=>(comp2 P mt nt b).map fun q=>(.cond z x q.1,.cond z x q.2)
 | .block id b=>if id<gno then (comp2 P mt nt b).map fun p=>(.block id p.1,.block id p.2) else none
 | _=>none
section
variable {P:Program} {mt:Array Oper→Bool} {nt:Nat} {call:CallF} {bs k:Nat} {r0:Option Nat}
theorem ops_at {m:Bool} {r:Option Nat} {n:Nat} {ds:List Deferred} (hcall:CallOK P call) {ops:Array Oper} {Q:Exit→Act→World→Prop} {ρ':Regs} {σ':Heap}:∀ (is:List Nat) (os:List AOper) (ρ:Regs) (σ:Heap) (g:Gh) (ow:Nat→Option Nat) (a:Act) (w:World),
  is.length=os.length→(∀ (j i:Nat) (ao:AOper),is[j]?=some i→os[j]?=some ao→∃ o,ops[i]?=some o∧compOper P m ops o=some ao)→runOps call bs os ρ σ=some (ρ',σ')→HR g ow σ w→bs≤σ.length→RR g ρ a.tmps→a.defers=ds →
  (∀ g' ow' a' w',RR g' ρ' a'.tmps→a'.defers=ds→HR g' ow' σ' w'→St bs g ow σ w g' ow' σ' w'→Q .normal a' w') →
  wpOpsIn (rnd r) n P ops Q is a w
 | [],os,ρ,σ,g,ow,a,w,hlen,hl,hx,h,hbs,hR,hd,hQ=>by
  cases os with
  | cons _ _=>simp at hlen
  | nil=>
   simp only [runOps] at hx; injection hx with hx; injection hx with e1 e2; subst e1 e2
   exact hQ g ow a w hR hd h (.refl ..)
 | i :: is,os,ρ,σ,g,ow,a,w,hlen,hl,hx,h,hbs,hR,hd,hQ=>by
  cases os with
  | nil=>simp at hlen
  | cons ao os'=>
  obtain ⟨o,h0,hao⟩:=hl 0 i ao rfl rfl
  unfold compOper at hao
  obtain ⟨aop,haop,hao⟩:=zqH.1 hao
  obtain ⟨gd,hgd,e⟩:=zqH.1 hao
  injection e with e; subst e
  have hlen':is.length=os'.length:=by simpa using hlen
  have hl':∀ (j i:Nat) (ao:AOper),is[j]?=some i→os'[j]?=some ao→∃ o,ops[i]?=some o∧compOper P m ops o=some ao:=fun j i ao h1 h2=>hl (j+1) i ao (by simpa using h1) (by simpa using h2)
  simp only [wpOpsIn,h0]
  simp only [runOps] at hx
  obtain ⟨b,hb,hx⟩:=zqH.1 hx
  have hw:=guard_sound hgd hR hb
  rw [hw]
  cases b with
  | true=>
   simp only [if_true]
   obtain ⟨r,hr,hx1⟩:=zqH.1 hx
   obtain ⟨u,_,hx2⟩:=zqH.1 hx1
   obtain ⟨v1,σ1⟩:=r
   refine step_sound hcall h hbs hR haop hr fun g' ow' w' cv hV hH hS=>?_
   refine ops_at (ds:=ds) hcall is os' _ _ g' ow' _ w' hlen' hl' hx2 hH (Nat.le_trans hbs hS.len) (put_RR (hR.mono hS.gle) hV) (by rw [put_defers]; exact hd) ?_
   intro g2 ow2 a2 w2 h1 h2 h3 h4
   exact hQ g2 ow2 a2 w2 h1 h2 h3 (hS.trans h4)
  | false=>
   simp only [Bool.false_eq_true,if_false]
   refine ⟨fun _ _=>trivial,?_⟩
   refine ops_at (ds:=ds) hcall is os' _ _ g ow _ w hlen' hl' hx h hbs (put_RR hR (.tup rfl fun i x v hx=>by simp at hx)) (by rw [put_defers]; exact hd) ?_
   intro g2 ow2 a2 w2 h1 h2 h3 h4
   exact hQ g2 ow2 a2 w2 h1 h2 h3 h4
theorem go_ready {ops:Array Oper} {fuel t:Nat} {listed:Array Bool} {acc rs:List Nat} (h:Region.ready .any ops listed=rs) :
  Region.linearise.go .any ops (fuel+1) t listed acc=match rs[t % rs.length]? with
   | some i=>Region.linearise.go .any ops fuel (t / rs.length) (listed.setIfInBounds i true) (i :: acc)
   | none=>acc.reverse:=by subst h; rfl
theorem lin2 {ops:Array Oper} (hd:drawn2 ops=true) (t:Nat):Region.linearise .any ops t=[0,2,1,3]∨Region.linearise .any ops t=[0,1,2,3]:=by
 simp only [drawn2,zqL,beq_iff_eq] at hd
 obtain ⟨⟨⟨⟨⟨h0,h1⟩,h2⟩,h3⟩,h4⟩,h5⟩:=hd
 unfold Region.linearise
 rw [h0,show Array.replicate 4 false=#[false,false,false,false] from rfl,go_ready h1]
 simp only [zqU,List.length_nil,Nat.zero_add,Nat.mod_one,zqE,Nat.div_one]
 rw [show (#[false,false,false,false]:Array Bool).setIfInBounds 0 true=#[true,false,false,false] from rfl,go_ready h2]
 simp only [zqU,List.length_nil,Nat.zero_add,Nat.reduceAdd]
 have h5':Region.ready .any ops #[true,true,true,false]=[3]:=h5
 rcases Nat.mod_two_eq_zero_or_one t with e | e
 ·right
  rw [e]
  simp only [zqE]
  rw [show (#[true,false,false,false]:Array Bool).setIfInBounds 1 true=#[true,true,false,false] from rfl,go_ready h3]
  simp only [zqU,List.length_nil,Nat.zero_add,Nat.mod_one,zqE,Nat.div_one]
  rw [show (#[true,true,false,false]:Array Bool).setIfInBounds 2 true=#[true,true,true,false] from rfl,go_ready h5]
  simp [Nat.mod_one,Region.linearise.go]
 ·left
  rw [e]
  simp only [zqD,zqE]
  rw [show (#[true,false,false,false]:Array Bool).setIfInBounds 2 true=#[true,false,true,false] from rfl,go_ready h4]
  simp only [zqU,List.length_nil,Nat.zero_add,Nat.mod_one,zqE,Nat.div_one]
  rw [show (#[true,false,true,false]:Array Bool).setIfInBounds 1 true=#[true,true,true,false] from rfl,go_ready h5]
  simp [Nat.mod_one,Region.linearise.go]
def CodeOK2 (P:Program) (call:CallF) (k bs nt:Nat) (r0:Option Nat) (c:Code) (x y:ACode):Prop:=∀ ρ σ r s,exec call k bs x ρ σ=some r→exec call k bs y ρ σ=some s→∀ g ow a w,HR g ow σ w→bs≤σ.length→RR g ρ a.tmps→nt≤ρ.length →
 c.wpIn (rnd r0) 0 P (fun e a' w'=>(r.2.1.length=ρ.length∧Post bs g ow σ w a.defers r e a' w')∨(s.2.1.length=ρ.length∧Post bs g ow σ w a.defers s e a' w')) a w
theorem mapM_at {α β:Type} {f:α→Option β}:∀ (l:List α) (m:List β),l.mapM f=some m→l.length=m.length∧∀ (i:Nat) x y,l[i]?=some x→m[i]?=some y→f x=some y
 | [],m,h=>by simp at h; subst h; exact ⟨rfl,fun i x y hx=>by simp at hx⟩
 | a :: l,m,h=>by
  rw [List.mapM_cons] at h
  simp only [zqK,zqH,Option.pure_def] at h
  obtain ⟨b,hb,m',hm,e⟩:=h
  injection e with e; subst e
  obtain ⟨h1,h2⟩:=mapM_at l m' hm
  refine ⟨by simp [h1],fun i x y hx hy=>?_⟩
  cases i with
  | zero=>simp at hx hy; subst hx hy; exact hb
  | succ i=>exact h2 i x y (by simpa using hx) (by simpa using hy)
theorem four {α:Type} {l:List α} (h:l.length=4):∃ a b c d,l=[a,b,c,d]:=by
 match l,h with
 | [a,b,c,d],_=>exact ⟨a,b,c,d,rfl⟩
theorem at4 {p:Nat→AOper→Prop} {i0 i1 i2 i3:Nat} {x0 x1 x2 x3:AOper} (h0:p i0 x0) (h1:p i1 x1) (h2:p i2 x2) (h3:p i3 x3):∀ (j i:Nat) (ao:AOper),[i0,i1,i2,i3][j]?=some i→[x0,x1,x2,x3][j]?=some ao→p i ao:=by
 intro j i ao hj ha
 rcases j with _ | _ | _ | _ | j
 ·injection hj with hj; injection ha with ha; subst hj ha; exact h0
 ·injection hj with hj; injection ha with ha; subst hj ha; exact h1
 ·injection hj with hj; injection ha with ha; subst hj ha; exact h2
 ·injection hj with hj; injection ha with ha; subst hj ha; exact h3
 ·simp at hj
theorem region_two (hm:P.follows .mixedOrders=true) (hcall:CallOK P call) {id:Nat} {ops:Array Oper} {l:List AOper} (hl:ops.toList.mapM (compOper P (mt ops) ops)=some l) (hd:drawn2 ops=true) :
  CodeOK2 P call k bs nt r0 (.region id ops true) (.region (swap2 l)) (.region l):=by
 intro ρ σ r s hr hs g ow a w h1 h2 h3 h5
 simp only [exec] at hr hs
 obtain ⟨⟨ρ1,σ1⟩,hr',rfl⟩:=zqG.1 hr
 obtain ⟨⟨ρ2,σ2⟩,hs',rfl⟩:=zqG.1 hs
 clear hr hs
 have hr:=hr'
 have hs:=hs'
 have hlr:=runOps_len hr
 have hls:=runOps_len hs
 obtain ⟨hlen,hat⟩:=mapM_at _ _ hl
 have hsz:ops.size=4:=by simp only [drawn2,zqL,beq_iff_eq] at hd; exact hd.1.1.1.1.1
 have hl4:l.length=4:=by rw [←hlen]; simpa using hsz
 obtain ⟨x0,x1,x2,x3,rfl⟩:=four hl4
 have hg:∀ i (hi:i<4),∃ o,ops[i]?=some o:=fun i hi=>⟨ops[i]'(by omega),Array.getElem?_eq_getElem (by omega)⟩
 obtain ⟨o0,g0⟩:=hg 0 (by omega)
 obtain ⟨o1,g1⟩:=hg 1 (by omega)
 obtain ⟨o2,g2⟩:=hg 2 (by omega)
 obtain ⟨o3,g3⟩:=hg 3 (by omega)
 have c0:=hat 0 o0 x0 (by rw [Array.getElem?_toList]; exact g0) rfl
 have c1:=hat 1 o1 x1 (by rw [Array.getElem?_toList]; exact g1) rfl
 have c2:=hat 2 o2 x2 (by rw [Array.getElem?_toList]; exact g2) rfl
 have c3:=hat 3 o3 x3 (by rw [Array.getElem?_toList]; exact g3) rfl
 clear hg hat hl hlen
 obtain ⟨hH,hS⟩:=h1.more (bs:=bs) (w':={w with drawn:=w.drawn+1}) (Nat.le_refl _) (fun b hb=>rfl) rfl rfl rfl
 refine wpIn_region_draw fun t=>?_
 simp only [Region.schedule,hm,Bool.true_or,if_true]
 rcases lin2 hd t with e | e <;> rw [e] <;> clear e
 ·refine ops_at (m:=mt ops) (ds:=a.defers) hcall [0,2,1,3] [x0,x2,x1,x3] ρ σ g ow a _ rfl (at4 ⟨o0,g0,c0⟩ ⟨o2,g2,c2⟩ ⟨o1,g1,c1⟩ ⟨o3,g3,c3⟩) hr hH h2 h3 rfl fun g' ow' a' w' k1 k2 k3 k4=>.inl ⟨hlr,rfl,g',ow',[],k1,k2,.nil,k3,hS.trans k4⟩
 ·refine ops_at (m:=mt ops) (ds:=a.defers) hcall [0,1,2,3] [x0,x1,x2,x3] ρ σ g ow a _ rfl (at4 ⟨o0,g0,c0⟩ ⟨o1,g1,c1⟩ ⟨o2,g2,c2⟩ ⟨o3,g3,c3⟩) hs hH h2 h3 rfl fun g' ow' a' w' k1 k2 k3 k4=>.inr ⟨hls,rfl,g',ow',[],k1,k2,.nil,k3,hS.trans k4⟩
theorem seq_after {y:Code} {ay:ACode} (ihy:CodeOK P call k bs nt r0 y ay) {r1 r:St3} (hx:onNormal r1 (exec call k bs ay)=some r) {g:Gh} {ow:Nat→Option Nat} {σ:Heap} {w:World} {ds:List Deferred} {n:Nat} (hb:bs≤σ.length) (hn:nt≤n)
  {Q:Exit→Act→World→Prop} (hQ:∀ e a' w',r.2.1.length=n→Post bs g ow σ w ds r e a' w'→Q e a' w') {e:Exit} {a1:Act} {w1:World} (hl:r1.2.1.length=n) (hp:Post bs g ow σ w ds r1 e a1 w1) :
  Exit.then (y.wpIn (rnd r0) 0 P Q) Q e a1 w1:=by
 obtain ⟨e1,ρ1,σ1⟩:=r1
 simp only at hl
 cases e1 with
 | normal=>
  simp only [onNormal] at hx
  obtain ⟨he,g1,ow1,Ds,k1,kd,kn,k3,k4⟩:=hp
  simp only [toExit] at he; subst he
  obtain ⟨hl2,hwp⟩:=ihy ρ1 σ1 r hx g1 ow1 a1 w1 k3 (Nat.le_trans hb k4.len) k1 (by omega)
  exact wpIn_mono hwp fun e a2 w2 hq=>hQ _ _ _ (by omega) (hq.after k4 kd kn)
 | exit id=>
  simp only [onNormal] at hx; injection hx with hx; subst hx
  have he:=hp.1; simp only [toExit] at he
  split at he <;> (subst he; exact hQ _ _ _ hl hp)
 | ret=>
  simp only [onNormal] at hx; injection hx with hx; subst hx
  have he:=hp.1; simp only [toExit] at he; subst he
  exact hQ _ _ _ hl hp
theorem CodeOK2.seqL {x y:Code} {ax ax' ay:ACode} (ihx:CodeOK2 P call k bs nt r0 x ax ax') (ihy:CodeOK P call k bs nt r0 y ay):CodeOK2 P call k bs nt r0 (.seq x y) (.seq ax ay) (.seq ax' ay):=by
 intro ρ σ r s hr hs g ow a w h1 h2 h3 h5
 simp only [exec] at hr hs
 obtain ⟨r1,hr1,hr⟩:=zqH.1 hr
 obtain ⟨s1,hs1,hs⟩:=zqH.1 hs
 refine wpIn_seq (wpIn_mono (ihx _ _ _ _ hr1 hs1 g ow a w h1 h2 h3 h5) ?_)
 rintro e a1 w1 (⟨hl,hp⟩ | ⟨hl,hp⟩)
 ·exact seq_after ihy hr h2 h5 (fun e a' w' k1 k2=>.inl ⟨k1,k2⟩) hl hp
 ·exact seq_after ihy hs h2 h5 (fun e a' w' k1 k2=>.inr ⟨k1,k2⟩) hl hp
theorem CodeOK2.seqR {x y:Code} {ax ay ay':ACode} (ihx:CodeOK P call k bs nt r0 x ax) (ihy:CodeOK2 P call k bs nt r0 y ay ay'):CodeOK2 P call k bs nt r0 (.seq x y) (.seq ax ay) (.seq ax ay'):=by
 intro ρ σ r s hr hs g ow a w h1 h2 h3 h5
 simp only [exec] at hr hs
 obtain ⟨⟨e1,ρ1,σ1⟩,hr1,hr⟩:=zqH.1 hr
 obtain ⟨s1,hs1,hs⟩:=zqH.1 hs
 rw [hr1] at hs1; injection hs1 with hs1; subst hs1
 obtain ⟨hl,hwp⟩:=ihx _ _ _ hr1 g ow a w h1 h2 h3 h5
 refine wpIn_seq (wpIn_mono hwp ?_)
 intro e a1 w1 hp
 simp only at hl
 cases e1 with
 | normal=>
  simp only [onNormal] at hr hs
  obtain ⟨he,g1,ow1,Ds,k1,kd,kn,k3,k4⟩:=hp
  simp only [toExit] at he; subst he
  refine wpIn_mono (ihy ρ1 σ1 r s hr hs g1 ow1 a1 w1 k3 (Nat.le_trans h2 k4.len) k1 (by omega)) fun e a2 w2 hq=>?_
  rcases hq with ⟨q1,q2⟩ | ⟨q1,q2⟩
  ·exact .inl ⟨by omega,q2.after k4 kd kn⟩
  ·exact .inr ⟨by omega,q2.after k4 kd kn⟩
 | exit id=>
  simp only [onNormal] at hr; injection hr with hr; subst hr
  have he:=hp.1; simp only [toExit] at he
  split at he <;> (subst he; exact .inl ⟨hl,hp⟩)
 | ret=>
  simp only [onNormal] at hr; injection hr with hr; subst hr
  have he:=hp.1; simp only [toExit] at he; subst he
  exact .inl ⟨hl,hp⟩
theorem CodeOK.two {x:Code} {ax:ACode} (h:CodeOK P call k bs nt r0 x ax) {ρ:Regs} {σ:Heap} {r:St3} (hx:exec call k bs ax ρ σ=some r) {g:Gh} {ow:Nat→Option Nat} {a:Act} {w:World} (h1:HR g ow σ w) (h2:bs≤σ.length) (h3:RR g ρ a.tmps) (h5:nt≤ρ.length) :
  x.wpIn (rnd r0) 0 P (fun e a' w'=>r.2.1.length=ρ.length∧Post bs g ow σ w a.defers r e a' w') a w:=by
 obtain ⟨hl,hwp⟩:=h _ _ _ hx g ow a w h1 h2 h3 h5
 exact wpIn_mono hwp fun e a' w' hq=>⟨hl,hq⟩
theorem CodeOK2.condL {c:Operand} {z:AX} {x y:Code} {ax ax' ay:ACode} (hz:cx c=some z) (ihx:CodeOK2 P call k bs nt r0 x ax ax') (ihy:CodeOK P call k bs nt r0 y ay):CodeOK2 P call k bs nt r0 (.cond c x y) (.cond z ax ay) (.cond z ax' ay):=by
 intro ρ σ r s hr hs g ow a w h1 h2 h3 h5
 simp only [exec] at hr hs
 have hv:=ev_VR h3 hz
 split at hr
 ·rename_i e0; rw [e0] at hv hs
  exact wpIn_cond_true hv.boolv (ihx _ _ _ _ hr hs g ow a w h1 h2 h3 h5)
 ·rename_i e0; rw [e0] at hv hs
  exact wpIn_cond_false hv.boolv (wpIn_mono (ihy.two hr h1 h2 h3 h5) fun _ _ _ h=>.inl h)
 ·cases hr
theorem CodeOK2.condR {c:Operand} {z:AX} {x y:Code} {ax ay ay':ACode} (hz:cx c=some z) (ihx:CodeOK P call k bs nt r0 x ax) (ihy:CodeOK2 P call k bs nt r0 y ay ay'):CodeOK2 P call k bs nt r0 (.cond c x y) (.cond z ax ay) (.cond z ax ay'):=by
 intro ρ σ r s hr hs g ow a w h1 h2 h3 h5
 simp only [exec] at hr hs
 have hv:=ev_VR h3 hz
 split at hr
 ·rename_i e0; rw [e0] at hv hs
  exact wpIn_cond_true hv.boolv (wpIn_mono (ihx.two hr h1 h2 h3 h5) fun _ _ _ h=>.inl h)
 ·rename_i e0; rw [e0] at hv hs
  exact wpIn_cond_false hv.boolv (ihy _ _ _ _ hr hs g ow a w h1 h2 h3 h5)
 ·cases hr
theorem block_after {id n:Nat} (hid:id<gno) {r:St3} {g:Gh} {ow:Nat→Option Nat} {σ:Heap} {w:World} {ds:List Deferred} {Q:Exit→Act→World→Prop} (hQ:∀ e a' w',(outBlock id r).2.1.length=n→Post bs g ow σ w ds (outBlock id r) e a' w'→Q e a' w')
  {e:Exit} {a1:Act} {w1:World} (hl:r.2.1.length=n) (hp:Post bs g ow σ w ds r e a1 w1):Exit.inBlock id Q e a1 w1:=by
 obtain ⟨e1,ρ1,σ1⟩:=r
 obtain ⟨he,hq⟩:=hp
 subst he
 cases e1 with
 | normal=>exact hQ _ _ _ hl ⟨rfl,hq⟩
 | ret=>exact hQ _ _ _ hl ⟨rfl,hq⟩
 | exit id'=>
  simp only [toExit]
  by_cases hlt:id'<gno
  ·rw [if_pos hlt]
   simp only [Exit.inBlock]
   simp only [outBlock] at hQ
   split
   ·rename_i e; rw [if_pos e] at hQ; exact hQ _ _ _ hl ⟨rfl,hq⟩
   ·rename_i e; rw [if_neg e] at hQ; exact hQ _ _ _ hl ⟨by simp only [toExit,if_pos hlt],hq⟩
  ·rw [if_neg hlt]
   have hne:id'≠id:=by omega
   simp only [Exit.inBlock]
   simp only [outBlock,if_neg hne] at hQ
   exact hQ _ _ _ hl ⟨by simp only [toExit,if_neg hlt],hq⟩
theorem CodeOK2.block {id:Nat} {c:Code} {x y:ACode} (hid:id<gno) (ih:CodeOK2 P call k bs nt r0 c x y):CodeOK2 P call k bs nt r0 (.block id c) (.block id x) (.block id y):=by
 intro ρ σ r s hr hs g ow a w h1 h2 h3 h5
 simp only [exec] at hr hs
 obtain ⟨r1,hr',rfl⟩:=zqG.1 hr
 obtain ⟨s1,hs',rfl⟩:=zqG.1 hs
 refine wpIn_block (wpIn_mono (ih _ _ _ _ hr' hs' g ow a w h1 h2 h3 h5) ?_)
 rintro e a1 w1 (⟨hl,hp⟩ | ⟨hl,hp⟩)
 ·exact block_after hid (fun e a' w' k1 k2=>.inl ⟨k1,k2⟩) hl hp
 ·exact block_after hid (fun e a' w' k1 k2=>.inr ⟨k1,k2⟩) hl hp
theorem exec2_sound (hm:P.follows .mixedOrders=true) (hcall:CallOK P call):∀ (c:Code) (x y:ACode),comp2 P mt nt c=some (x,y)→CodeOK2 P call k bs nt none c x y
 | .region id ops draw,x,y,hc=>by
  simp only [comp2] at hc
  split at hc
  ·rename_i h
   obtain ⟨rfl,hd⟩:draw=true∧drawn2 ops=true:=by simpa using h
   obtain ⟨l,hl,e⟩:=zqG.1 hc
   injection e with e1 e2; subst e1 e2
   exact region_two hm hcall hl hd
  ·cases hc
 | .seq a b,x,y,hc=>by
  simp only [comp2] at hc
  split at hc
  ·rename_i p hp
   obtain ⟨z,hz,e⟩:=zqG.1 hc
   injection e with e1 e2; subst e1 e2
   exact (exec2_sound hm hcall a p.1 p.2 hp).seqL (exec_sound hm hcall b z hz (.inl rfl))
  ·obtain ⟨z,hz,hc⟩:=zqH.1 hc
   obtain ⟨q,hq,e⟩:=zqG.1 hc
   injection e with e1 e2; subst e1 e2
   exact .seqR (exec_sound hm hcall a z hz (.inl rfl)) (exec2_sound hm hcall b q.1 q.2 hq)
 | .cond c a b,x,y,hc=>by
  simp only [comp2] at hc
  obtain ⟨zc,hzc,hc⟩:=zqH.1 hc
  split at hc
  ·rename_i p hp
   obtain ⟨z,hz,e⟩:=zqG.1 hc
   injection e with e1 e2; subst e1 e2
   exact .condL hzc (exec2_sound hm hcall a p.1 p.2 hp) (exec_sound hm hcall b z hz (.inl rfl))
  ·obtain ⟨z,hz,hc⟩:=zqH.1 hc
   obtain ⟨q,hq,e⟩:=zqG.1 hc
   injection e with e1 e2; subst e1 e2
   exact .condR hzc (exec_sound hm hcall a z hz (.inl rfl)) (exec2_sound hm hcall b q.1 q.2 hq)
 | .block id b,x,y,hc=>by
  simp only [comp2] at hc
  split at hc
  ·rename_i hid
   obtain ⟨p,hp,e⟩:=zqG.1 hc
   injection e with e1 e2; subst e1 e2
   exact .block hid (exec2_sound hm hcall b p.1 p.2 hp)
  ·cases hc
 | .skip,x,y,hc=>by simp [comp2] at hc
 | .label _,x,y,hc=>by simp [comp2] at hc
 | .loop _,x,y,hc=>by simp [comp2] at hc
 | .exit _,x,y,hc=>by simp [comp2] at hc
 | .goto _,x,y,hc=>by simp [comp2] at hc
 | .scope _,x,y,hc=>by simp [comp2] at hc
 | .rangeFunc _ _ _ _,x,y,hc=>by simp [comp2] at hc
 | .ret,x,y,hc=>by simp [comp2] at hc
 | .refuse _,x,y,hc=>by simp [comp2] at hc
end
section
variable {P:Program} {g:Gh} {ow:Nat→Option Nat} {w:World}
theorem calls_two {T:Tab} (hT:TabOK P T) {f:Nat} {fn:Func} {c:Code} {mt:Array Oper→Bool} {x y:ACode} {rs:List ARes} (hfn:P.funcs[f]?=some fn) (hbody:fn.body=some c) (hc2:comp2 P mt fn.ntmps c=some (x,y)) (hrs:fn.results.toList.mapM (compRes P)=some rs)
  {args:List AV} {b:Bool} (hcl:args.all AV.clean=true) (h1:pureT T ⟨fn.ntmps,rs,x,.pure,true,true⟩ args=some (.bool b)) (h2:pureT T ⟨fn.ntmps,rs,y,.pure,true,true⟩ args=some (.bool b))
  (hH:HR g ow [] w) {cargs:Array Value} (hA:Args g args cargs):Calls P f cargs w (CallPost 0 g ow [] w (.bool b) []):=by
 obtain ⟨r,hr,hfr⟩:=zqH.1 h1
 obtain ⟨s,hs,hfs⟩:=zqH.1 h2
 obtain ⟨k1,hk1⟩:=lim_some hr
 obtain ⟨k2,hk2⟩:=lim_some hs
 have hr':=(exec_M T 0 x (startA ⟨fn.ntmps,rs,x,.pure,true,true⟩ args) []).le _ _ (Nat.le_max_left k1 k2) _ hk1
 have hs':=(exec_M T 0 y (startA ⟨fn.ntmps,rs,y,.pure,true,true⟩ args) []).le _ _ (Nat.le_max_right k1 k2) _ hk2
 refine calls_end hfn hbody ?_
 have hdat:=(clean_closeT (σ:=[]) hcl).2
 have hV0:VRs (g.res 0) args cargs.toList:=⟨by simpa using hA.len,fun i x c hx hc=>dat_VR (g:=g) (g':=g.res 0) (fun _ _ _ h=>h) (hA.val i x c hx (by simpa using hc)) (zqQ.1 hdat x (zqR hx))⟩
 have hwp:=exec2_sound (P:=P) (mt:=mt) (nt:=fn.ntmps) hT.mixed (eval_sound hT (max k1 k2)) c x y hc2 _ _ _ _ hr' hs' (g.res 0) (fun _=>none)
  {tmps:=cargs++Array.replicate (fn.ntmps - cargs.size) undef,defers:=[]} w hH.bare (Nat.le_refl 0) (start_RR hV0 _) (by simp only [startA,zqJ,List.length_replicate]; omega)
 have main:∀ {z:ACode} {r:St3},finP ⟨fn.ntmps,rs,z,.pure,true,true⟩ r=some (.bool b)→∀ e a' w1,Post 0 (g.res 0) (fun _=>none) [] w [] r e a' w1→bodyPostM Fence.wide 0 P fn (CallPost 0 g ow [] w (.bool b) []) e a' w1:=by
  rintro z ⟨e,ρ,σb⟩ hfin ex a' w1 ⟨he,g',ow',Ds,hR',hd',hD',hH1,hS1⟩
  simp only at he hR' hH1 hS1
  obtain ⟨hH',hS'⟩:=HR.shut hH.bare Ds hD' hH1 hS1
  obtain ⟨w',hw'⟩:∃ w',shut Ds w1=w':=⟨_,rfl⟩
  rw [hw'] at hH' hS'
  have hgo:∀ {e'},finP ⟨fn.ntmps,rs,z,.pure,true,true⟩ (e',ρ,σb)=some (.bool b)→(∀ id,e'≠.exit id) →
    ∃ cv,(results fn a'.tmps).run P w'=.ok cv w'∧CallPost 0 g ow [] w (.bool b) [] (.returned cv) w':=by
   intro e' hf hne
   have hf':((resA ρ σb rs).bind fun vs=>(closeR σb (res1 vs)).bind fun x=>if x.1.datR=true then some x.1 else none)=some (.bool b):=by
    cases e' with
    | exit id=>exact absurd rfl (hne id)
    | normal=>exact hf
    | ret=>exact hf
   obtain ⟨vs,hvs,hf'⟩:=zqH.1 hf'
   obtain ⟨⟨u',σc⟩,hcr,hdr⟩:=zqH.1 hf'
   simp only at hdr
   split at hdr
   ·injection hdr with hdr; subst hdr
    obtain ⟨cv,hrun,hV⟩:=results_sound hH' hR' hrs hvs
    obtain ⟨gc,⟨hHc,hSc,hlc⟩,hVc⟩:=closeR_sound (bs:=0) hH' hV hcr
    have hS2:=hS'.trans hSc
    obtain ⟨hB,hSB⟩:=hH.more (bs:=0) (w':=w') hS2.size (fun b hb=>(hS2.frame b hb rfl).1) hS2.os hS2.tape hS2.output
    exact ⟨cv,hrun,cv,g,ow,rfl,scal_VR hVc rfl,hB,hSB⟩
   ·cases hdr
  cases e with
  | exit id=>simp [finP] at hfin
  | normal=>
   simp only [toExit] at he; subst he
   obtain ⟨cv,hc1,hc2⟩:=hgo hfin (fun id h=>by cases h)
   simp only [List.append_nil] at hd'
   show LeavesInM Fence.wide 0 P fn a'.tmps _ a'.defers .returning w1
   rw [hd']
   exact leaves_all Ds w1 hD'.nd (fun D hD=>(hD'.pt D hD).2.2) ⟨cv,by rw [hw']; exact hc1,by rw [hw']; exact hc2⟩
  | ret=>
   simp only [toExit] at he; subst he
   obtain ⟨cv,hc1,hc2⟩:=hgo hfin (fun id h=>by cases h)
   simp only [List.append_nil] at hd'
   show LeavesInM Fence.wide 0 P fn a'.tmps _ a'.defers .returning w1
   rw [hd']
   exact leaves_all Ds w1 hD'.nd (fun D hD=>(hD'.pt D hD).2.2) ⟨cv,by rw [hw']; exact hc1,by rw [hw']; exact hc2⟩
 refine wpIn_mono hwp fun e a' w1 hq=>?_
 rcases hq with ⟨_,hq⟩ | ⟨_,hq⟩
 ·exact main hfr e a' w1 hq
 ·exact main hfs e a' w1 hq
end
section
variable {H:Type} {enc:TypeId × Value→H} {P:Program} {w:World} {S:List TypeId}
theorem law_two {T:Tab} (hT:TabOK P T) (hS:S.all (supT P S)=true) (hl:laidOutB P=true) {f:Nat} {fn:Func} {spec:ChangeSpec} {tb:TypeId} {c:Code} {mt:Array Oper→Bool} {x y:ACode} {rs:List ARes}
  (hfn':P.funcs[f]?=some fn) (hbody:fn.body=some c) (hc2:comp2 P mt fn.ntmps c=some (x,y)) (hrs:fn.results.toList.mapM (compRes P)=some rs)
  (hps:fn.params.toList.all (fun t=>S.contains t && P.readableRec t && decide (t<P.types.size))=true) (hres:fn.resultTypes=#[tb]) (htb:P.underlying tb=some .bool) (hvars:spec.vars=[])
  (hfn:∀ ds:List (DataW H),ds.length=fn.params.toList.length→spec.fn H (ds++[])={results:=[.lit (.bool true)],args:=ds})
  (hlaw:∀ xs:List AV,xs.length=fn.params.toList.length→(∀ (i:Nat) t x,fn.params.toList[i]?=some t→xs[i]?=some x→TyA P t x)→bulkAs xs≤1048576 →
   xs.all AV.clean=true∧pureT T ⟨fn.ntmps,rs,x,.pure,true,true⟩ xs=some (.bool true)∧pureT T ⟨fn.ntmps,rs,y,.pure,true,true⟩ xs=some (.bool true))
  {W:World} (hpin:Pins (fun _=>none) W) {base:Nat} {args:Array Value} {ds gs:List (DataW H)} {before:List MemPlace}
  (hval:∀ (j:Nat) t v,fn.params[j]?=some t→args[j]?=some v→Value.okWide P W .any base t v)
  (hW:DataW.Whole enc P fn.params.toList spec.vars false W args.toList ds gs before) (hk:Rows.uptoSmall H (ds++gs)=true) :
  Calls P f args W fun e W'=>∃ v,e=.returned v∧spec.post enc P fn false true false false W args v W':=by
 have hW':=hW
 obtain ⟨p,q,hA,hV,rfl,hfz,hnd⟩:=hW
 rw [hvars] at hV
 obtain ⟨rfl,rfl⟩:=trodVars_none hV
 have hpt:∀ t∈fn.params.toList,t∈S∧P.readableRec t=true∧t<P.types.size:=fun t ht=>by
  have:=zqQ.1 hps t ht
  simpa [and_assoc] using this
 obtain ⟨xs,k0,k1,k2,k3,k4⟩:=args_read hS fn.params.toList args.toList ds p hA (fun t ht=>(hpt t ht).1) (fun j t v hj hv=>hval j t v (by simpa using hj) (by simpa using hv))
 have hb:Rows.uptoBulkAll ds≤1048576:=by have:=of_decide_eq_true hk; simpa using this
 obtain ⟨m1,m2,m3⟩:=hlaw xs k0 k2 (by omega)
 have hcalls:=calls_two hT hfn' hbody hc2 hrs m1 m2 m3 (memGh_HR W hpin) (cargs:=args) ⟨by simpa using k1.len,fun i x c hx hc=>k1.val i x c hx (by simpa using hc)⟩
 refine hcalls.mono fun e W' hp=>?_
 obtain ⟨cv,g',ow',rfl,hVR,hH,hSt⟩:=hp
 have hcv:=hVR.boolv
 subst hcv
 have hbelow:=hSt.below (fun _=>rfl)
 have hlt:∀ x∈p,x.block<W.heap.size:=fun x hx=>by simpa using hW'.lt x (by simp [hx])
 refine ⟨_,rfl,ds,[],p++[],[],p,[],hW',?_,?_,?_,hbelow.frame _,fun h=>by cases h⟩
 ·rw [hfn ds k4,hres]
  exact trodAll_mk1 (shut_bool htb true)
 ·rw [hfn ds k4]
  exact trodAll_stays hl _ _ _ _ (fun t ht=>(hpt t ht).2) hA (fun x hx=>hbelow.same (hlt x hx)) (fun x hx=>by simpa using hlt x hx)
 ·rw [hfn ds k4,hvars]; rfl
end
end Go.Mach
end
section
namespace Go.Proofs.Ytkempedphjopmaa
open Go.Mach
abbrev oO (d:Nat)(x:AOp):AOper:=⟨some d,x,none,[]⟩
abbrev oU (x:AOp):AOper:=⟨none,x,none,[]⟩
abbrev oM (d x:Nat):AOper:=⟨some d,.mv (.t x),none,[]⟩
abbrev oF (d i x:Nat):AOper:=⟨some d,.faddr i (.t x),none,[]⟩
abbrev oL (d i x:Nat):AOper:=⟨some d,.load i false (.t x),none,[]⟩
abbrev oR (d i x:Nat):AOper:=⟨some d,.load i true (.t x),none,[]⟩
abbrev oX (d i x:Nat):AOper:=⟨some d,.extract i (.t x),none,[]⟩
abbrev oG (d:Nat)(x:AOp)(a:Nat)(b:Bool):AOper:=⟨some d,x,some (a,b),[]⟩
abbrev nI (n:Int):AX:=.c (.int .i64 n)
abbrev oS:AV:=.str ⟨#[]⟩
abbrev oZ:AV:=.int .i64 0
abbrev oN:AV:=.isl [] true
abbrev qR (o:List AOper)(c:ACode):ACode:=.seq (.region o) c
abbrev pP:Pol:={mt:=false,mtAt:=[],mode:=.pure,clArgs:=true,clRes:=true}
abbrev pG:Pol:={mt:=false,mtAt:=[],mode:=.gc,clArgs:=false,clRes:=false}
def c4:AFunc:=⟨171,[.tmp 14],qR [oO 7 (.box (.t 0)),oO 14 (.mv (.c (.bool false)))] (qR [oO 35 (.call 10 []),oM 15 35] (qR [oR 37 5 7,oO 38 (.call 13 [.t 37]),oM 36 38,oX 39 0 36,oX 40 1 36,oM 16 39,oM 17 40] (qR [oR 42 5 7,oO 43 (.call 14 [.t 42]),oM 41 43,oX 44 0 41,oX 45 1 41,oM 18 44,oM 19 45] (qR [oM 46 2,oM 47 3,oM 48 4,oM 49 4,oO 50 (.call 15 [.t 46,.t 47,.t 48,.t 49]),oO 20 (.alloc [oS,oS,oZ,oZ,oN]),oU (.store 5 (.t 20) (.t 50))] (qR [oR 52 5 20,oO 53 (.call 13 [.t 52]),oM 51 53,oX 54 0 51,oX 55 1 51,oM 21 54,oM 22 55] (qR [oR 57 5 20,oO 58 (.call 14 [.t 57]),oM 56 58,oX 59 0 56,oX 60 1 56,oM 23 59,oM 24 60] (.seq (qR [oM 61 15,oO 62 (.un .not (.t 61)),oM 63 62,oG 64 (.mv (.t 16)) 63 false,oG 65 (.mv (.t 18)) 63 false,oG 66 (.bin .neq (.t 64) (.t 65)) 63 false,oO 67 (.pick (.t 63) (.c (.bool true)) (.t 66)),oM 68 67,oG 69 (.mv (.t 17)) 68 false,oG 70 (.mv (.t 19)) 68 false,oG 71 (.bin .neq (.t 69) (.t 70)) 68 false,oO 72 (.pick (.t 68) (.c (.bool true)) (.t 71)),oM 73 72,oG 74 (.mv (.t 21)) 73 false,oG 75 (.mv (.t 23)) 73 false,oG 76 (.bin .neq (.t 74) (.t 75)) 73 false,oO 77 (.pick (.t 73) (.c (.bool true)) (.t 76)),oM 78 77,oG 79 (.mv (.t 22)) 78 false,oG 80 (.mv (.t 24)) 78 false,oG 81 (.bin .neq (.t 79) (.t 80)) 78 false,oO 82 (.pick (.t 78) (.c (.bool true)) (.t 81)),oM 83 82,oG 84 (.mv (.t 24)) 83 false,oG 85 (.bin .neq (.t 84) (nI 0)) 83 false,oO 86 (.pick (.t 83) (.c (.bool true)) (.t 85)),oM 87 86,oG 88 (.mv (.t 1)) 87 false,oG 89 (.call 11 [.t 88]) 87 false,oG 90 (.mv (.t 1)) 87 false,oG 91 (.call 16 [.t 90]) 87 false,oG 92 (.bin .neq (.t 89) (.t 91)) 87 false,oO 93 (.pick (.t 87) (.c (.bool true)) (.t 92))] (.cond (.t 93) (qR [oO 14 (.mv (.c (.bool false)))] .ret) .skip)) (qR [oM 94 5,oM 95 23,oO 96 (.len true (.t 95)),oO 97 (.call 12 [.t 94,.t 96]),oM 25 97] (qR [oM 98 23,oM 99 25,oO 100 (.strSl (.t 98) none (some (.t 99))),oM 101 6,oO 102 (.bin .add (.t 100) (.t 101)),oM 103 23,oM 104 25,oM 105 6,oO 106 (.len true (.t 105)),oO 107 (.bin .add (.t 104) (.t 106)),oM 108 23,oO 109 (.len true (.t 108)),oO 110 (.min2 (.t 107) (.t 109)),oO 111 (.strSl (.t 103) (some (.t 110)) none),oO 112 (.bin .add (.t 102) (.t 111)),oM 26 112] (qR [oM 113 26,oM 114 26,oO 115 (.len true (.t 114)),oO 116 (.bin .sub (.t 115) (nI 4)),oO 117 (.max [.t 116,nI 0]),oO 118 (.strSl (.t 113) none (some (.t 117))),oM 27 118] (qR [oM 119 27,oO 120 (.call 16 [.t 119]),oM 28 120] (.seq (qR [oM 121 1,oM 122 23,oM 123 26,oM 124 23,oM 125 25,oO 126 (.strSl (.t 124) none (some (.t 125))),oM 127 23,oM 128 6,oO 129 (.bin .add (.t 127) (.t 128)),oM 130 27,oM 131 28,oO 132 (.bin .shr (.t 131) (.c (.int .u64 24))),oO 133 (.conv .u8 (.t 132)),oM 134 28,oO 135 (.bin .shr (.t 134) (.c (.int .u64 16))),oO 136 (.conv .u8 (.t 135)),oM 137 28,oO 138 (.bin .shr (.t 137) (.c (.int .u64 8))),oO 139 (.conv .u8 (.t 138)),oM 140 28,oO 141 (.conv .u8 (.t 140)),oO 142 (.buildSl 4 1 false [.int .u8 0,.int .u8 0,.int .u8 0,.int .u8 0] [(0,1,.t 133),(1,1,.t 136),(2,1,.t 139),(3,1,.t 141)]),oO 143 (.b2s (.t 142)),oO 144 (.bin .add (.t 130) (.t 143)),oO 145 (.buildSl 6 1 false [oS,oS,oS,oS,oS,oS] [(0,1,.t 121),(1,1,.t 122),(2,1,.t 123),(3,1,.t 126),(4,1,.t 129),(5,1,.t 144)]),oO 146 (.len false (.t 145)),oO 147 (.mv (nI 0))] (.block 0 (.loop (qR [oO 148 (.bin .lss (.t 147) (.t 146))] (.seq (.cond (.t 148) .skip (.exit 0)) (.seq (.block 1 (qR [oO 149 (.iaddrS 1 (.t 145) (.t 147)),oL 150 1 149,oM 30 150] (qR [oM 152 30,oO 153 (.call 17 [.t 152]),oM 151 153,oX 154 0 151,oX 155 1 151,oO 31 (.alloc [oS,oS,oZ,oZ,oN]),oU (.store 5 (.t 31) (.t 154)),oM 32 155] (qR [oM 157 30,oO 158 (.call 18 [.t 157]),oM 156 158,oX 159 0 156,oX 160 1 156,oO 33 (.alloc [oS,oS,oZ,oZ,oN]),oU (.store 5 (.t 33) (.t 159)),oM 34 160] (qR [oR 161 5 31,oR 162 5 33,oO 163 (.call 19 [.t 161,.t 162]),oO 164 (.un .not (.t 163)),oM 165 164,oG 166 (.mv (.t 32)) 165 false,oG 167 (.mv (.t 34)) 165 false,oG 168 (.bin .neq (.t 166) (.t 167)) 165 false,oO 169 (.pick (.t 165) (.c (.bool true)) (.t 168))] (.cond (.t 169) (qR [oO 14 (.mv (.c (.bool false)))] .ret) .skip)))))) (.region [oO 170 (.bin .add (.t 147) (nI 1)),oM 147 170]))))))) (qR [oO 14 (.mv (.c (.bool true)))] .ret))))))))))))),.pure,true,true⟩
theorem k4:compF Try.prog pP Try.f4=some c4:=by kernel_rfl
def c5:AFunc:=⟨45,[.tmp 8],qR [oO 8 (.mv (.c (.bool false)))] (qR [oO 15 (.call 10 []),oM 9 15] (qR [oM 16 0,oM 17 1,oM 18 2,oM 19 3,oO 20 (.call 15 [.t 16,.t 17,.t 18,.t 19]),oO 10 (.alloc [oS,oS,oZ,oZ,oN]),oU (.store 5 (.t 10) (.t 20))] (qR [oR 22 5 10,oO 23 (.call 13 [.t 22]),oM 21 23,oX 24 0 21,oX 25 1 21,oM 11 24,oM 12 25] (qR [oM 27 11,oO 28 (.call 17 [.t 27]),oM 26 28,oX 29 0 26,oX 30 1 26,oO 13 (.alloc [oS,oS,oZ,oZ,oN]),oU (.store 5 (.t 13) (.t 29)),oM 14 30] (qR [oM 31 9,oM 32 31,oG 33 (.mv (.t 12)) 32 true,oG 34 (.bin .eql (.t 33) (nI 0)) 32 true,oO 35 (.pick (.t 32) (.t 34) (.c (.bool false))),oM 36 35,oG 37 (.mv (.t 14)) 36 true,oG 38 (.bin .eql (.t 37) (nI 0)) 36 true,oO 39 (.pick (.t 36) (.t 38) (.c (.bool false))),oM 40 39,oG 41 (.load 5 true (.t 10)) 40 true,oG 42 (.load 5 true (.t 13)) 40 true,oG 43 (.call 19 [.t 41,.t 42]) 40 true,oO 44 (.pick (.t 40) (.t 43) (.c (.bool false))),oM 8 44] .ret))))),.pure,true,true⟩
theorem k5:compF Try.prog pP Try.f5=some c5:=by kernel_rfl
def c6:AFunc:=⟨118,[.tmp 10],qR [oO 10 (.mv (.c (.bool false)))] (qR [oO 23 (.call 10 []),oM 11 23] (qR [oM 25 1,oM 26 2,oO 27 (.call 15 [.t 25,.t 26,nI 3,nI 4]),oO 28 (.call 13 [.t 27]),oM 24 28,oX 29 0 24,oX 30 1 24,oM 12 29,oM 13 30] (.seq (qR [oM 31 11,oO 32 (.un .not (.t 31)),oM 33 32,oG 34 (.mv (.t 13)) 33 false,oG 35 (.bin .neq (.t 34) (nI 0)) 33 false,oO 36 (.pick (.t 33) (.c (.bool true)) (.t 35)),oM 37 36,oG 38 (.mv (.t 12)) 37 false,oG 39 (.len true (.t 38)) 37 false,oG 40 (.bin .lss (.t 39) (nI 4)) 37 false,oO 41 (.pick (.t 37) (.c (.bool true)) (.t 40))] (.cond (.t 41) (qR [oO 10 (.mv (.c (.bool false)))] .ret) .skip)) (qR [oM 42 3,oM 43 12,oO 44 (.len true (.t 43)),oO 45 (.bin .sub (.t 44) (nI 4)),oO 46 (.call 12 [.t 42,.t 45]),oM 14 46] (qR [oM 47 12,oM 48 14,oO 49 (.strSl (.t 47) none (some (.t 48))),oM 50 4,oO 51 (.bin .add (.t 49) (.t 50)),oM 52 12,oM 53 14,oM 54 4,oO 55 (.len true (.t 54)),oO 56 (.bin .add (.t 53) (.t 55)),oM 57 12,oO 58 (.len true (.t 57)),oO 59 (.bin .sub (.t 58) (nI 4)),oO 60 (.min2 (.t 56) (.t 59)),oM 61 12,oO 62 (.len true (.t 61)),oO 63 (.bin .sub (.t 62) (nI 4)),oO 64 (.strSl (.t 52) (some (.t 60)) (some (.t 63))),oO 65 (.bin .add (.t 51) (.t 64)),oM 15 65] (qR [oM 66 15,oO 67 (.call 11 [.t 66]),oM 16 67] (.seq (qR [oM 68 0,oM 69 15,oM 70 16,oO 71 (.bin .shr (.t 70) (.c (.int .u64 24))),oO 72 (.conv .u8 (.t 71)),oM 73 16,oO 74 (.bin .shr (.t 73) (.c (.int .u64 16))),oO 75 (.conv .u8 (.t 74)),oM 76 16,oO 77 (.bin .shr (.t 76) (.c (.int .u64 8))),oO 78 (.conv .u8 (.t 77)),oM 79 16,oO 80 (.conv .u8 (.t 79)),oO 81 (.buildSl 4 1 false [.int .u8 0,.int .u8 0,.int .u8 0,.int .u8 0] [(0,1,.t 72),(1,1,.t 75),(2,1,.t 78),(3,1,.t 80)]),oO 82 (.b2s (.t 81)),oO 83 (.bin .add (.t 69) (.t 82)),oO 84 (.buildSl 2 1 false [oS,oS] [(0,1,.t 68),(1,1,.t 83)]),oO 85 (.len false (.t 84)),oO 86 (.mv (nI 0))] (.block 0 (.loop (qR [oO 87 (.bin .lss (.t 86) (.t 85))] (.seq (.cond (.t 87) .skip (.exit 0)) (.seq (.block 1 (qR [oO 88 (.iaddrS 1 (.t 84) (.t 86)),oL 89 1 88,oM 18 89] (qR [oM 91 18,oO 92 (.call 17 [.t 91]),oM 90 92,oX 93 0 90,oX 94 1 90,oO 19 (.alloc [oS,oS,oZ,oZ,oN]),oU (.store 5 (.t 19) (.t 93)),oM 20 94] (.seq (qR [oM 95 20,oO 96 (.bin .neq (.t 95) (nI 0))] (.cond (.t 96) (.seq (qR [oM 97 20,oO 98 (.bin .neq (.t 97) (nI 150)),oM 99 98,oG 100 (.load 5 true (.t 19)) 99 false,oG 101 (.build [oS,oS,oZ,oZ,oN] []) 99 false,oG 102 (.call 19 [.t 100,.t 101]) 99 false,oG 103 (.un .not (.t 102)) 99 false,oO 104 (.pick (.t 99) (.c (.bool true)) (.t 103))] (.cond (.t 104) (qR [oO 10 (.mv (.c (.bool false)))] .ret) .skip)) (.exit 1)) .skip)) (qR [oR 106 5 19,oO 107 (.call 13 [.t 106]),oM 105 107,oX 108 0 105,oX 109 1 105,oM 21 108,oM 22 109] (qR [oM 110 22,oO 111 (.bin .neq (.t 110) (nI 0)),oM 112 111,oG 113 (.mv (.t 21)) 112 false,oG 114 (.mv (.t 18)) 112 false,oG 115 (.bin .neq (.t 113) (.t 114)) 112 false,oO 116 (.pick (.t 112) (.c (.bool true)) (.t 115))] (.cond (.t 116) (qR [oO 10 (.mv (.c (.bool false)))] .ret) .skip))))))) (.region [oO 117 (.bin .add (.t 86) (nI 1)),oM 86 117]))))))) (qR [oO 10 (.mv (.c (.bool true)))] .ret)))))))),.pure,true,true⟩
theorem k6:compF Try.prog pP Try.f6=some c6:=by kernel_rfl
def c7:AFunc:=⟨89,[.tmp 8],qR [oO 8 (.mv (.c (.bool false)))] (qR [oO 20 (.call 10 []),oM 9 20] (qR [oM 22 0,oM 23 1,oM 24 2,oM 25 2,oO 26 (.call 15 [.t 22,.t 23,.t 24,.t 25]),oO 27 (.call 13 [.t 26]),oM 21 27,oX 28 0 21,oX 29 1 21,oM 10 28,oM 11 29] (.seq (qR [oM 30 9,oO 31 (.un .not (.t 30)),oM 32 31,oG 33 (.mv (.t 11)) 32 false,oG 34 (.bin .neq (.t 33) (nI 0)) 32 false,oO 35 (.pick (.t 32) (.c (.bool true)) (.t 34)),oM 36 35,oG 37 (.mv (.t 10)) 36 false,oG 38 (.bin .eql (.t 37) (.c oS)) 36 false,oO 39 (.pick (.t 36) (.c (.bool true)) (.t 38))] (.cond (.t 39) (qR [oO 8 (.mv (.c (.bool false)))] .ret) .skip)) (qR [oM 40 2,oM 41 10,oO 42 (.len true (.t 41)),oO 43 (.call 12 [.t 40,.t 42]),oM 12 43] (qR [oM 44 10,oO 45 (.s2b (.t 44)),oM 13 45] (qR [oM 46 13,oM 47 12,oM 48 13,oM 49 12,oO 50 (.iaddrS 1 (.t 48) (.t 49)),oL 51 1 50,oM 52 3,oO 53 (.bin .rem (.t 52) (.c (.int .u8 255))),oO 54 (.bin .add (.c (.int .u8 1)) (.t 53)),oO 55 (.bin .xor (.t 51) (.t 54)),oO 56 (.iaddrS 1 (.t 46) (.t 47)),oU (.store 1 (.t 56) (.t 55))] (qR [oM 58 13,oO 59 (.b2s (.t 58)),oO 60 (.call 17 [.t 59]),oM 57 60,oX 61 0 57,oX 62 1 57,oO 14 (.alloc [oS,oS,oZ,oZ,oN]),oU (.store 5 (.t 14) (.t 61)),oM 15 62] (qR [oM 64 10,oM 65 12,oO 66 (.strSl (.t 64) none (some (.t 65))),oO 67 (.call 17 [.t 66]),oM 63 67,oX 68 0 63,oX 69 1 63,oO 16 (.alloc [oS,oS,oZ,oZ,oN]),oU (.store 5 (.t 16) (.t 68)),oM 17 69] (qR [oM 71 10,oM 72 3,oO 73 (.buildSl 1 1 false [.int .u8 0] [(0,1,.t 72)]),oO 74 (.b2s (.t 73)),oO 75 (.bin .add (.t 71) (.t 74)),oO 76 (.call 17 [.t 75]),oM 70 76,oX 77 0 70,oX 78 1 70,oO 18 (.alloc [oS,oS,oZ,oZ,oN]),oU (.store 5 (.t 18) (.t 77)),oM 19 78] (qR [oM 79 15,oO 80 (.bin .eql (.t 79) (nI 150)),oM 81 80,oG 82 (.mv (.t 17)) 81 true,oG 83 (.bin .eql (.t 82) (nI 150)) 81 true,oO 84 (.pick (.t 81) (.t 83) (.c (.bool false))),oM 85 84,oG 86 (.mv (.t 19)) 85 true,oG 87 (.bin .eql (.t 86) (nI 150)) 85 true,oO 88 (.pick (.t 85) (.t 87) (.c (.bool false))),oM 8 88] .ret)))))))))),.pure,true,true⟩
theorem k7:compF Try.prog pP Try.f7=some c7:=by kernel_rfl
def c8:AFunc:=⟨57,[.tmp 8],qR [oO 6 (.box (.t 2)),oO 7 (.box (.t 3)),oO 8 (.mv (.c (.bool false)))] (qR [oO 16 (.call 10 []),oM 9 16] (qR [oM 17 0,oO 18 (.iaddrA 2 1 (.t 6) (nI 0)),oL 19 1 18,oO 20 (.iaddrA 2 1 (.t 6) (nI 1)),oL 21 1 20,oO 22 (.call 15 [.t 17,.c oN,.t 19,.t 21]),oO 10 (.alloc [oS,oS,oZ,oZ,oN]),oU (.store 5 (.t 10) (.t 22))] (qR [oM 23 1,oO 24 (.iaddrA 2 1 (.t 7) (nI 0)),oL 25 1 24,oO 26 (.iaddrA 2 1 (.t 7) (nI 1)),oL 27 1 26,oO 28 (.call 15 [.t 23,.c oN,.t 25,.t 27]),oO 11 (.alloc [oS,oS,oZ,oZ,oN]),oU (.store 5 (.t 11) (.t 28))] (qR [oR 30 5 10,oO 31 (.call 13 [.t 30]),oM 29 31,oX 32 0 29,oX 33 1 29,oM 12 32,oM 13 33] (qR [oR 35 5 11,oO 36 (.call 13 [.t 35]),oM 34 36,oX 37 0 34,oX 38 1 34,oM 14 37,oM 15 38] (qR [oM 39 9,oM 40 39,oG 41 (.mv (.t 13)) 40 true,oG 42 (.bin .eql (.t 41) (nI 0)) 40 true,oO 43 (.pick (.t 40) (.t 42) (.c (.bool false))),oM 44 43,oG 45 (.mv (.t 15)) 44 true,oG 46 (.bin .eql (.t 45) (nI 0)) 44 true,oO 47 (.pick (.t 44) (.t 46) (.c (.bool false))),oM 48 47,oG 49 (.mv (.t 12)) 48 true,oG 50 (.mv (.t 14)) 48 true,oG 51 (.bin .eql (.t 49) (.t 50)) 48 true,oG 52 (.load 5 true (.t 10)) 48 true,oG 53 (.load 5 true (.t 11)) 48 true,oG 54 (.call 19 [.t 52,.t 53]) 48 true,oG 55 (.eqb false (.t 51) (.t 54)) 48 true,oO 56 (.pick (.t 48) (.t 55) (.c (.bool false))),oM 8 56] .ret)))))),.pure,true,true⟩
theorem k8:compF Try.prog pP Try.f8=some c8:=by kernel_rfl
def c9:AFunc:=⟨112,[.tmp 4],qR [oO 4 (.mv (.c (.bool false)))] (qR [oO 10 (.call 10 []),oM 5 10] (qR [oM 11 0,oO 12 (.call 15 [.t 11,.c oN,nI 1,nI 2]),oO 6 (.alloc [oS,oS,oZ,oZ,oN]),oU (.store 5 (.t 6) (.t 12))] (qR [oF 13 4 6,oL 14 1 13,oO 15 (.append 3 true 48 false (.c oN) (.t 14)),oO 16 (.build [oZ,oZ,oS,oN] [(0,1,nI 3),(2,1,.c (.str ⟨#[98]⟩))]),oO 17 (.buildSl 1 4 true [oZ,oZ,oS,oN] [(0,4,.t 16)]),oO 18 (.build [oS,oN,oZ] [(0,1,.c (.str ⟨#[122,122]⟩)),(1,1,.t 17)]),oO 19 (.buildSl 1 3 true [oS,oN,oZ] [(0,3,.t 18)]),oO 20 (.append 3 true 48 false (.t 15) (.t 19)),oF 21 4 6,oU (.store 1 (.t 21) (.t 20))] (qR [oF 22 4 6,oL 23 1 22,oO 24 (.len false (.t 23)),oO 25 (.bin .sub (.t 24) (nI 1)),oM 7 25] (.seq (qR [oM 26 1,oO 27 (.call 12 [.t 26,nI 7])] (.block 0 (qR [oO 34 (.bin .eql (.t 27) (nI 0)),oM 33 34] (.cond (.t 33) (.region [oF 35 0 6,oU (.store 1 (.t 35) (.c (.str ⟨#[98]⟩)))]) (qR [oO 37 (.bin .eql (.t 27) (nI 1)),oM 36 37] (.cond (.t 36) (.region [oF 38 4 6,oL 39 1 38,oM 40 7,oO 41 (.build [oZ,oZ,oS,oN] [(0,1,nI 3),(2,1,.c (.str ⟨#[99]⟩))]),oO 42 (.buildSl 1 4 true [oZ,oZ,oS,oN] [(0,4,.t 41)]),oO 43 (.iaddrS 3 (.t 39) (.t 40)),oF 44 1 43,oU (.store 1 (.t 44) (.t 42))]) (qR [oO 46 (.bin .eql (.t 27) (nI 2)),oM 45 46] (.cond (.t 45) (.region [oF 47 4 6,oL 48 1 47,oF 49 4 6,oL 50 1 49,oM 51 7,oO 52 (.iaddrS 3 (.t 50) (.t 51)),oR 53 3 52,oO 54 (.buildSl 1 3 true [oS,oN,oZ] [(0,3,.t 53)]),oO 55 (.append 3 true 48 false (.t 48) (.t 54)),oF 56 4 6,oU (.store 1 (.t 56) (.t 55))]) (qR [oO 58 (.bin .eql (.t 27) (nI 3)),oM 57 58] (.cond (.t 57) (.region [oF 59 3 6,oU (.store 1 (.t 59) (nI (-1)))]) (qR [oO 61 (.bin .eql (.t 27) (nI 4)),oM 60 61] (.cond (.t 60) (.region [oF 62 4 6,oL 63 1 62,oM 64 7,oO 65 (.iaddrS 3 (.t 63) (.t 64)),oF 66 2 65,oU (.store 1 (.t 66) (nI (-1)))]) (qR [oO 68 (.bin .eql (.t 27) (nI 5)),oM 67 68] (.cond (.t 67) (.seq (.cond (.c (.nilptr)) .skip .skip) (.cond (.t 70) (qR [oF 71 4 6,oL 72 1 71,oM 73 7,oO 74 (.iaddrS 3 (.t 72) (.t 73)),oF 75 1 74,oL 76 1 75,oO 77 (.build [oZ,oZ,oS,oN] []),oO 78 (.len false (.t 76)),oO 79 (.buildSl 1 4 true [oZ,oZ,oS,oN] [(0,4,.c (.agg [oZ,oZ,oS,oN]))]),oO 80 (.append 4 true 56 false (.t 76) (.t 79)),oO 81 (.iaddrS 3 (.t 72) (.t 73)),oF 82 1 81,oU (.store 1 (.t 82) (.t 80))] (.region [oO 83 (.iaddrS 4 (.t 80) (.t 78)),oU (.store 4 (.t 83) (.t 77))])) (.region [oF 84 4 6,oL 85 1 84,oM 86 7,oF 87 4 6,oL 88 1 87,oM 89 7,oO 90 (.iaddrS 3 (.t 88) (.t 89)),oF 91 1 90,oL 92 1 91,oO 93 (.build [oZ,oZ,oS,oN] []),oO 94 (.buildSl 1 4 true [oZ,oZ,oS,oN] [(0,4,.t 93)]),⟨(some 95),.append 4 true 56 false (.t 92) (.t 94),none,[.t 84]⟩,oO 96 (.iaddrS 3 (.t 85) (.t 86)),oF 97 1 96,oU (.store 1 (.t 97) (.t 95))]))) (.region [oF 28 4 6,oL 29 1 28,oM 30 7,oO 31 (.iaddrS 3 (.t 29) (.t 30)),oF 32 0 31,oU (.store 1 (.t 32) (.c (.str ⟨#[90]⟩)))]))))))))))))))) (qR [oR 99 5 6,oO 100 (.call 13 [.t 99]),oM 98 100,oX 101 0 98,oX 102 1 98,oM 8 101,oM 9 102] (qR [oM 103 5,oM 104 103,oG 105 (.mv (.t 8)) 104 true,oG 106 (.bin .eql (.t 105) (.c oS)) 104 true,oO 107 (.pick (.t 104) (.t 106) (.c (.bool false))),oM 108 107,oG 109 (.mv (.t 9)) 108 true,oG 110 (.bin .eql (.t 109) (nI 1)) 108 true,oO 111 (.pick (.t 108) (.t 110) (.c (.bool false))),oM 4 111] .ret))))))),.pure,true,true⟩
theorem k9:compF Try.prog pP Try.f9=some c9:=by kernel_rfl
def c10:AFunc:=⟨62,[.tmp 0],qR [oO 0 (.mv (.c (.bool false)))] (qR [oO 10 (.build [oS,oS,oZ,oZ,oN] [(0,1,.c (.str ⟨#[97]⟩)),(1,1,.c (.str ⟨#[98]⟩)),(2,1,nI 1),(3,1,nI 2)]),oO 1 (.alloc [oS,oS,oZ,oZ,oN]),oU (.store 5 (.t 1) (.t 10))] (qR [oR 12 5 1,oO 13 (.call 13 [.t 12]),oM 11 13,oX 14 0 11,oX 15 1 11,oM 2 14,oM 3 15] (qR [oM 17 2,oO 18 (.call 17 [.t 17]),oM 16 18,oX 19 0 16,oX 20 1 16,oO 4 (.alloc [oS,oS,oZ,oZ,oN]),oU (.store 5 (.t 4) (.t 19)),oM 5 20] (qR [oO 22 (.build [oS,oS,oZ,oZ,oN] [(0,1,.c (.str ⟨#[97]⟩)),(1,1,.c (.str ⟨#[97]⟩))]),oO 23 (.call 13 [.t 22]),oM 21 23,oX 24 0 21,oX 25 1 21,oM 6 24,oM 7 25] (qR [oO 27 (.call 17 [.c oS]),oM 26 27,oX 28 0 26,oX 29 1 26,oO 8 (.alloc [oS,oS,oZ,oZ,oN]),oU (.store 5 (.t 8) (.t 28)),oM 9 29] (qR [oO 30 (.call 11 [.c oS]),oO 31 (.bin .eql (.t 30) (.c (.int .u32 2166136261))),oM 32 31,oG 33 (.call 11 [.c (.str ⟨#[97]⟩)]) 32 true,oG 34 (.bin .eql (.t 33) (.c (.int .u32 3826002220))) 32 true,oO 35 (.pick (.t 32) (.t 34) (.c (.bool false))),oM 36 35,oG 37 (.mv (.t 3)) 36 true,oG 38 (.bin .eql (.t 37) (nI 0)) 36 true,oO 39 (.pick (.t 36) (.t 38) (.c (.bool false))),oM 40 39,oG 41 (.mv (.t 2)) 40 true,oG 42 (.len true (.t 41)) 40 true,oG 43 (.bin .eql (.t 42) (nI 26)) 40 true,oO 44 (.pick (.t 40) (.t 43) (.c (.bool false))),oM 45 44,oG 46 (.mv (.t 5)) 45 true,oG 47 (.bin .eql (.t 46) (nI 0)) 45 true,oO 48 (.pick (.t 45) (.t 47) (.c (.bool false))),oM 49 48,oG 50 (.load 5 true (.t 1)) 49 true,oG 51 (.load 5 true (.t 4)) 49 true,oG 52 (.call 19 [.t 50,.t 51]) 49 true,oO 53 (.pick (.t 49) (.t 52) (.c (.bool false))),oM 54 53,oG 55 (.mv (.t 7)) 54 true,oG 56 (.bin .eql (.t 55) (nI 1)) 54 true,oO 57 (.pick (.t 54) (.t 56) (.c (.bool false))),oM 58 57,oG 59 (.mv (.t 9)) 58 true,oG 60 (.bin .eql (.t 59) (nI 150)) 58 true,oO 61 (.pick (.t 58) (.t 60) (.c (.bool false))),oM 0 61] .ret)))))),.pure,true,true⟩
theorem k10:compF Try.prog pP Try.f10=some c10:=by kernel_rfl
def c11:AFunc:=⟨20,[.tmp 2],qR [oO 2 (.mv (.c (.int .u32 0)))] (qR [oO 3 (.mv (.c (.int .u32 2166136261)))] (.seq (qR [oM 6 0,oO 7 (.s2b (.t 6)),oO 8 (.len false (.t 7)),oO 9 (.mv (nI 0))] (.block 0 (.loop (qR [oO 10 (.bin .lss (.t 9) (.t 8))] (.seq (.cond (.t 10) .skip (.exit 0)) (.seq (.block 1 (qR [oO 11 (.iaddrS 1 (.t 7) (.t 9)),oL 12 1 11,oM 5 12] (.region [oM 13 3,oM 14 5,oO 15 (.conv .u32 (.t 14)),oO 16 (.bin .xor (.t 13) (.t 15)),oO 17 (.bin .mul (.t 16) (.c (.int .u32 16777619))),oM 3 17]))) (.region [oO 18 (.bin .add (.t 9) (nI 1)),oM 9 18]))))))) (qR [oM 19 3,oM 2 19] .ret))),.pure,true,true⟩
theorem k11:compF Try.prog pP Try.f11=some c11:=by kernel_rfl
def c12:AFunc:=⟨13,[.tmp 4],qR [oO 4 (.mv (nI 0))] (.seq (qR [oM 5 0,oO 6 (.bin .lss (.t 5) (nI 0))] (.cond (.t 6) (.region [oM 7 0,oO 8 (.bin .add (.t 7) (nI 1)),oO 9 (.un .neg (.t 8)),oM 0 9]) .skip)) (qR [oM 10 0,oM 11 1,oO 12 (.bin .rem (.t 10) (.t 11)),oM 4 12] .ret)),.pure,true,true⟩
theorem k12:compF Try.prog pP Try.f12=some c12:=by kernel_rfl
def c13:AFunc:=⟨63,[.tmp 2,.tmp 3],qR [oO 1 (.box (.t 0)),oO 2 (.mv (.c oS)),oO 3 (.mv (nI 0))] (.seq (qR [oR 9 5 1,oO 10 (.call 20 [.t 9]),oO 11 (.un .not (.t 10))] (.cond (.t 11) (qR [oO 2 (.mv (.c oS)),oO 3 (.mv (nI 1))] .ret) .skip)) (qR [oO 4 (.alloc [oN])] (qR [oF 12 0 1,oL 13 1 12,oO 14 (.call 21 [.t 4,.t 13])] (qR [oF 15 1 1,oL 16 1 15,oO 17 (.call 21 [.t 4,.t 16])] (qR [oF 18 2 1,oL 19 1 18,oO 20 (.call 22 [.t 4,nI 8,.t 19])] (qR [oF 21 3 1,oL 22 1 21,oO 23 (.call 22 [.t 4,nI 8,.t 22])] (qR [oF 24 4 1,oL 25 1 24,oO 26 (.len false (.t 25)),oO 27 (.call 22 [.t 4,nI 2,.t 26])] (.seq (qR [oF 28 4 1,oL 29 1 28,oO 30 (.len false (.t 29)),oO 31 (.mv (nI 0))] (.block 0 (.loop (qR [oO 32 (.bin .lss (.t 31) (.t 30))] (.seq (.cond (.t 32) .skip (.exit 0)) (.seq (.block 1 (qR [oO 33 (.iaddrS 3 (.t 29) (.t 31)),oR 34 3 33,oO 6 (.alloc [oS,oN,oZ]),oU (.store 3 (.t 6) (.t 34))] (qR [oF 35 0 6,oL 36 1 35,oO 37 (.call 21 [.t 4,.t 36])] (qR [oF 38 1 6,oL 39 1 38,oO 40 (.len false (.t 39)),oO 41 (.call 22 [.t 4,nI 1,.t 40])] (.seq (qR [oF 42 1 6,oL 43 1 42,oO 44 (.len false (.t 43)),oO 45 (.mv (nI 0))] (.block 2 (.loop (qR [oO 46 (.bin .lss (.t 45) (.t 44))] (.seq (.cond (.t 46) .skip (.exit 2)) (.seq (.block 3 (qR [oO 47 (.iaddrS 4 (.t 43) (.t 45)),oR 48 4 47,oO 8 (.alloc [oZ,oZ,oS,oN]),oU (.store 4 (.t 8) (.t 48))] (.region [oR 49 4 8,oO 50 (.call 23 [.t 4,.t 49])]))) (.region [oO 51 (.bin .add (.t 45) (nI 1)),oM 45 51]))))))) (.region [oF 52 2 6,oL 53 1 52,oO 54 (.call 22 [.t 4,nI 8,.t 53])])))))) (.region [oO 55 (.bin .add (.t 31) (nI 1)),oM 31 55]))))))) (qR [oL 56 1 4,oO 57 (.b2s (.t 56)),oO 58 (.call 11 [.t 57]),oO 59 (.conv .i64 (.t 58)),oO 60 (.call 22 [.t 4,nI 4,.t 59])] (qR [oL 61 1 4,oO 62 (.b2s (.t 61)),oM 2 62,oO 3 (.mv (nI 0))] .ret)))))))))),.pure,true,true⟩
theorem k13:compF Try.prog pP Try.f13=some c13:=by kernel_rfl
def c14:AFunc:=⟨81,[.tmp 2,.tmp 3],qR [oO 1 (.box (.t 0)),oO 2 (.mv (.c oS)),oO 3 (.mv (nI 0))] (qR [oR 9 5 1,oO 10 (.call 24 [.t 9]),oM 4 10] (.seq (qR [oM 11 4,oO 12 (.un .not (.t 11))] (.cond (.t 12) (qR [oO 2 (.mv (.c oS)),oO 3 (.mv (nI 1))] .ret) .skip)) (qR [oF 13 0 1,oL 14 1 13,oF 16 1 1,oL 17 1 16,oF 20 2 1,oL 21 1 20,oF 24 3 1,oL 25 1 24,oF 28 4 1,oL 29 1 28,oO 30 (.len false (.t 29)),⟨(some 15),.call 25 [.t 14],none,[.t 16,.t 20,.t 24,.t 28]⟩,⟨(some 18),.call 25 [.t 17],none,[.t 20,.t 24,.t 28]⟩,oO 19 (.bin .add (.t 15) (.t 18)),⟨(some 22),.call 26 [.c (.int .i64 8),.t 21],none,[.t 24,.t 28]⟩,oO 23 (.bin .add (.t 19) (.t 22)),⟨(some 26),.call 26 [.c (.int .i64 8),.t 25],none,[.t 28]⟩,oO 27 (.bin .add (.t 23) (.t 26)),oO 31 (.call 26 [nI 2,.t 30]),oO 32 (.bin .add (.t 27) (.t 31)),oM 5 32] (.seq (qR [oO 6 (.mv (nI 0))] (.block 0 (.loop (.seq (qR [oM 33 6,oF 34 4 1,oL 35 1 34,oO 36 (.len false (.t 35)),oO 37 (.bin .lss (.t 33) (.t 36))] (.cond (.t 37) .skip (.exit 0))) (.seq (.block 1 (qR [oF 40 4 1,oL 41 1 40,oM 42 6,oO 43 (.iaddrS 3 (.t 41) (.t 42)),oR 44 3 43,oO 7 (.alloc [oS,oN,oZ]),oU (.store 3 (.t 7) (.t 44))] (qR [oM 45 5,oF 46 0 7,oL 47 1 46,oF 50 1 7,oL 51 1 50,oO 52 (.len false (.t 51)),⟨(some 48),.call 25 [.t 47],none,[.t 50]⟩,oO 49 (.bin .add (.t 45) (.t 48)),oO 53 (.call 26 [nI 1,.t 52]),oO 54 (.bin .add (.t 49) (.t 53)),oM 5 54] (.seq (qR [oO 8 (.mv (nI 0))] (.block 2 (.loop (.seq (qR [oM 55 8,oF 56 1 7,oL 57 1 56,oO 58 (.len false (.t 57)),oO 59 (.bin .lss (.t 55) (.t 58))] (.cond (.t 59) .skip (.exit 2))) (.seq (.block 3 (.region [oM 62 5,oF 63 1 7,oL 64 1 63,oM 65 8,oO 66 (.iaddrS 4 (.t 64) (.t 65)),oR 67 4 66,oO 68 (.call 27 [.t 67]),oO 69 (.bin .add (.t 62) (.t 68)),oM 5 69])) (.region [oM 60 8,oO 61 (.bin .add (.t 60) (nI 1)),oM 8 61])))))) (.region [oM 70 5,oF 71 2 7,oL 72 1 71,oO 73 (.call 26 [nI 8,.t 72]),oO 74 (.bin .add (.t 70) (.t 73)),oM 5 74]))))) (.region [oM 38 6,oO 39 (.bin .add (.t 38) (nI 1)),oM 6 39])))))) (qR [oM 75 5,oM 76 5,oO 77 (.call 16 [.t 76]),oO 78 (.conv .i64 (.t 77)),oO 79 (.call 26 [nI 4,.t 78]),oO 80 (.bin .add (.t 75) (.t 79)),oM 2 80,oO 3 (.mv (nI 0))] .ret))))),.pure,true,true⟩
theorem k14:compF Try.prog pP Try.f14=some c14:=by kernel_rfl
def c15:AFunc:=⟨73,[.cell 8 5 true],qR [oO 8 (.alloc [oS,oS,oZ,oZ,oN])] (qR [oM 14 2,oO 15 (.call 12 [.t 14,nI 1099511627777]),oM 16 3,oO 17 (.call 12 [.t 16,nI 1099511627777]),oO 18 (.build [oS,oS,oZ,oZ,oN] [(0,1,.c (.str ⟨#[97]⟩)),(1,1,.c (.str ⟨#[98]⟩)),(2,1,.t 15),(3,1,.t 17)]),oO 9 (.alloc [oS,oS,oZ,oZ,oN]),oU (.store 5 (.t 9) (.t 18))] (qR [oO 19 (.build [oZ,oZ,oS,oN] [(0,1,nI 3),(2,1,.c (.str ⟨#[98]⟩))]),oO 10 (.alloc [oZ,oZ,oS,oN]),oU (.store 4 (.t 10) (.t 19))] (qR [oM 20 0,oO 21 (.call 28 [.t 20]),oM 11 21] (.seq (qR [oO 12 (.mv (nI 0))] (.block 0 (.loop (.seq (qR [oM 22 12,oM 23 11,oO 24 (.len false (.t 23)),oO 25 (.bin .lss (.t 22) (.t 24))] (.cond (.t 25) .skip (.exit 0))) (.seq (.block 1 (qR [oM 28 11,oM 29 12,oO 30 (.iaddrS 3 (.t 28) (.t 29)),oF 31 0 30,oL 32 1 31,oR 33 4 10,oO 34 (.buildSl 1 4 true [oZ,oZ,oS,oN] [(0,4,.t 33)]),oM 35 11,oM 36 12,oO 37 (.iaddrS 3 (.t 35) (.t 36)),oF 38 1 37,oL 39 1 38,oO 40 (.slSl 4 (.t 39) (some (nI 1)) none),oM 42 11,oM 43 12,oO 44 (.iaddrS 3 (.t 42) (.t 43)),oF 45 2 44,oL 46 1 45,oO 13 (.alloc [oS,oN,oZ]),⟨(some 41),.append 4 true 56 false (.t 34) (.t 40),none,[.t 31,.t 45,.t 13]⟩,oO 47 (.build [oS,oN,oZ] [(0,1,.t 32),(1,1,.t 41),(2,1,.t 46)]),oU (.store 3 (.t 13) (.t 47))] (.seq (qR [oM 48 12,oM 49 1,oO 50 (.len false (.t 49)),oO 51 (.bin .lss (.t 48) (.t 50))] (.cond (.t 51) (.region [oF 52 1 13,oL 53 1 52,oM 54 1,oM 55 12,oO 56 (.iaddrS 4 (.t 54) (.t 55)),oR 57 4 56,⟨(some 58),.call 29 [.t 57],none,[.t 52]⟩,oO 59 (.buildSl 1 4 true [oZ,oZ,oS,oN] [(0,4,.t 58)]),oO 60 (.append 4 true 56 false (.t 53) (.t 59)),oF 61 1 13,oU (.store 1 (.t 61) (.t 60))]) .skip)) (.region [oF 62 4 9,oL 63 1 62,oR 64 3 13,oO 65 (.buildSl 1 3 true [oS,oN,oZ] [(0,3,.t 64)]),oO 66 (.append 3 true 48 false (.t 63) (.t 65)),oF 67 4 9,oU (.store 1 (.t 67) (.t 66))])))) (.region [oM 26 12,oO 27 (.bin .add (.t 26) (nI 1)),oM 12 27])))))) (qR [oF 68 4 9,oL 69 1 68,oO 70 (.call 30 [.t 69]),oF 71 4 9,oU (.store 1 (.t 71) (.t 70))] (qR [oR 72 5 9,oU (.store 5 (.t 8) (.t 72))] .ret)))))),.pure,true,true⟩
theorem k15:compF Try.prog pP Try.f15=some c15:=by kernel_rfl
def c16:AFunc:=⟨19,[.tmp 2],qR [oO 2 (.mv (.c (.int .u32 0)))] (qR [oO 3 (.mv (.c (.int .u32 2166136261)))] (.seq (qR [oO 4 (.mv (nI 0))] (.block 0 (.loop (.seq (qR [oM 5 4,oM 6 0,oO 7 (.len true (.t 6)),oO 8 (.bin .lss (.t 5) (.t 7))] (.cond (.t 8) .skip (.exit 0))) (.seq (.block 1 (.region [oM 11 3,oM 12 0,oM 13 4,oO 14 (.idxStr (.t 12) (.t 13)),oO 15 (.conv .u32 (.t 14)),oO 16 (.bin .xor (.t 11) (.t 15)),oO 17 (.bin .mul (.t 16) (.c (.int .u32 16777619))),oM 3 17])) (.region [oM 9 4,oO 10 (.bin .add (.t 9) (nI 1)),oM 4 10])))))) (qR [oM 18 3,oM 2 18] .ret))),.pure,true,true⟩
theorem k16:compF Try.prog pP Try.f16=some c16:=by kernel_rfl
def c17:AFunc:=⟨68,[.cell 2 5 true,.tmp 3],qR [oO 2 (.alloc [oS,oS,oZ,oZ,oN]),oO 3 (.mv (nI 0))] (qR [oM 9 0,oO 10 (.build [oS,.bool false] [(0,1,.t 9)]),oO 11 (.box (.t 10)),oM 4 11] (qR [oM 12 4,oO 13 (.call 31 [.t 12]),oM 14 4,oO 15 (.call 31 [.t 14]),oM 16 4,oO 17 (.call 32 [.t 16,nI 8]),oM 18 4,oO 19 (.call 32 [.t 18,nI 8]),oO 20 (.build [oS,oS,oZ,oZ,oN] [(0,1,.t 13),(1,1,.t 15),(2,1,.t 17),(3,1,.t 19)]),oO 5 (.alloc [oS,oS,oZ,oZ,oN]),oU (.store 5 (.t 5) (.t 20))] (.seq (qR [oM 21 4,oO 22 (.call 32 [.t 21,nI 2]),oM 6 22] (.block 0 (.loop (.seq (qR [oM 23 6,oO 24 (.bin .gtr (.t 23) (nI 0)),oM 25 24,oG 26 (.mv (.t 4)) 25 true,oG 27 (.nilck (.t 26)) 25 true,oG 28 (.faddr 1 (.t 27)) 25 true,oG 29 (.load 1 false (.t 28)) 25 true,oG 30 (.un .not (.t 29)) 25 true,oO 31 (.pick (.t 25) (.t 30) (.c (.bool false)))] (.cond (.t 31) .skip (.exit 0))) (.seq (.block 1 (.region [oF 34 4 5,oL 35 1 34,oM 36 4,⟨(some 37),.call 33 [.t 36],none,[.t 34]⟩,oO 38 (.buildSl 1 3 true [oS,oN,oZ] [(0,3,.t 37)]),oO 39 (.append 3 true 48 false (.t 35) (.t 38)),oF 40 4 5,oU (.store 1 (.t 40) (.t 39))])) (.region [oM 32 6,oO 33 (.bin .sub (.t 32) (nI 1)),oM 6 33])))))) (.seq (qR [oM 41 4,oO 42 (.nilck (.t 41)),oF 43 1 42,oL 44 1 43,oM 45 44,oG 46 (.mv (.t 4)) 45 false,oG 47 (.nilck (.t 46)) 45 false,oG 48 (.faddr 0 (.t 47)) 45 false,oG 49 (.load 1 false (.t 48)) 45 false,oG 50 (.len true (.t 49)) 45 false,oG 51 (.bin .neq (.t 50) (nI 4)) 45 false,oO 52 (.pick (.t 45) (.c (.bool true)) (.t 51))] (.cond (.t 52) (qR [oO 53 (.build [oS,oS,oZ,oZ,oN] []),oU (.store 5 (.t 2) (.t 53)),oO 3 (.mv (nI 150))] .ret) .skip)) (.seq (qR [oR 55 5 5,oO 56 (.call 13 [.t 55]),oM 54 56,oX 57 0 54,oX 58 1 54,oM 7 57,oM 8 58] (qR [oM 59 8,oO 60 (.bin .neq (.t 59) (nI 0)),oM 61 60,oG 62 (.mv (.t 7)) 61 false,oG 63 (.mv (.t 0)) 61 false,oG 64 (.bin .neq (.t 62) (.t 63)) 61 false,oO 65 (.pick (.t 61) (.c (.bool true)) (.t 64))] (.cond (.t 65) (qR [oO 66 (.build [oS,oS,oZ,oZ,oN] []),oU (.store 5 (.t 2) (.t 66)),oO 3 (.mv (nI 150))] .ret) .skip))) (qR [oR 67 5 5,oU (.store 5 (.t 2) (.t 67)),oO 3 (.mv (nI 0))] .ret)))))),.pure,true,true⟩
theorem k17:compF Try.prog pP Try.f17=some c17:=by kernel_rfl
def c18:AFunc:=⟨91,[.cell 2 5 true,.tmp 3],qR [oO 2 (.alloc [oS,oS,oZ,oZ,oN]),oO 3 (.mv (nI 0))] (qR [oM 13 0,oO 14 (.build [oS,oZ,.bool false] [(0,1,.t 13)]),oO 15 (.box (.t 14)),oM 4 15] (qR [oM 16 4,oO 17 (.call 34 [.t 16]),oM 18 4,oO 19 (.call 34 [.t 18]),oM 20 4,oO 21 (.call 35 [.t 20,nI 8]),oM 22 4,oO 23 (.call 35 [.t 22,nI 8]),oO 24 (.build [oS,oS,oZ,oZ,oN] [(0,1,.t 17),(1,1,.t 19),(2,1,.t 21),(3,1,.t 23)]),oO 5 (.alloc [oS,oS,oZ,oZ,oN]),oU (.store 5 (.t 5) (.t 24))] (qR [oM 25 4,oO 26 (.call 35 [.t 25,nI 2]),oM 6 26] (.seq (qR [oO 7 (.mv (nI 0))] (.block 0 (.loop (.seq (qR [oM 27 7,oM 28 6,oO 29 (.bin .lss (.t 27) (.t 28)),oM 30 29,oG 31 (.mv (.t 4)) 30 true,oG 32 (.nilck (.t 31)) 30 true,oG 33 (.faddr 2 (.t 32)) 30 true,oG 34 (.load 1 false (.t 33)) 30 true,oG 35 (.un .not (.t 34)) 30 true,oO 36 (.pick (.t 30) (.t 35) (.c (.bool false)))] (.cond (.t 36) .skip (.exit 0))) (.seq (.block 1 (qR [oM 39 4,oO 40 (.call 34 [.t 39]),oO 41 (.build [oS,oN,oZ] [(0,1,.t 40)]),oO 8 (.alloc [oS,oN,oZ]),oU (.store 3 (.t 8) (.t 41))] (qR [oM 42 4,oO 43 (.call 35 [.t 42,nI 1]),oM 9 43] (.seq (qR [oO 10 (.mv (nI 0))] (.block 2 (.loop (.seq (qR [oM 44 10,oM 45 9,oO 46 (.bin .lss (.t 44) (.t 45)),oM 47 46,oG 48 (.mv (.t 4)) 47 true,oG 49 (.nilck (.t 48)) 47 true,oG 50 (.faddr 2 (.t 49)) 47 true,oG 51 (.load 1 false (.t 50)) 47 true,oG 52 (.un .not (.t 51)) 47 true,oO 53 (.pick (.t 47) (.t 52) (.c (.bool false)))] (.cond (.t 53) .skip (.exit 2))) (.seq (.block 3 (.region [oF 56 1 8,oL 57 1 56,oM 58 4,⟨(some 59),.call 36 [.t 58,.c (.int .i64 4)],none,[.t 56]⟩,oO 60 (.buildSl 1 4 true [oZ,oZ,oS,oN] [(0,4,.t 59)]),oO 61 (.append 4 true 56 false (.t 57) (.t 60)),oF 62 1 8,oU (.store 1 (.t 62) (.t 61))])) (.region [oM 54 10,oO 55 (.bin .add (.t 54) (nI 1)),oM 10 55])))))) (qR [oM 63 4,oO 64 (.call 35 [.t 63,nI 8]),oF 65 2 8,oU (.store 1 (.t 65) (.t 64))] (.region [oF 66 4 5,oL 67 1 66,oR 68 3 8,oO 69 (.buildSl 1 3 true [oS,oN,oZ] [(0,3,.t 68)]),oO 70 (.append 3 true 48 false (.t 67) (.t 69)),oF 71 4 5,oU (.store 1 (.t 71) (.t 70))])))))) (.region [oM 37 7,oO 38 (.bin .add (.t 37) (nI 1)),oM 7 38])))))) (.seq (qR [oM 72 4,oO 73 (.nilck (.t 72)),oF 74 2 73,oL 75 1 74] (.cond (.t 75) (qR [oO 76 (.build [oS,oS,oZ,oZ,oN] []),oU (.store 5 (.t 2) (.t 76)),oO 3 (.mv (nI 150))] .ret) .skip)) (qR [oR 78 5 5,oO 79 (.call 14 [.t 78]),oM 77 79,oX 80 0 77,oX 81 1 77,oM 11 80,oM 12 81] (.seq (qR [oM 82 12,oO 83 (.bin .neq (.t 82) (nI 0)),oM 84 83,oG 85 (.mv (.t 11)) 84 false,oG 86 (.mv (.t 0)) 84 false,oG 87 (.bin .neq (.t 85) (.t 86)) 84 false,oO 88 (.pick (.t 84) (.c (.bool true)) (.t 87))] (.cond (.t 88) (qR [oO 89 (.build [oS,oS,oZ,oZ,oN] []),oU (.store 5 (.t 2) (.t 89)),oO 3 (.mv (nI 150))] .ret) .skip)) (qR [oR 90 5 5,oU (.store 5 (.t 2) (.t 90)),oO 3 (.mv (nI 0))] .ret)))))))),.pure,true,true⟩
theorem k18:compF Try.prog pP Try.f18=some c18:=by kernel_rfl
def c19:AFunc:=⟨38,[.tmp 4],qR [oO 2 (.box (.t 0)),oO 3 (.box (.t 1)),oO 4 (.mv (.c (.bool false)))] (qR [oF 5 0 2,oL 6 1 5,oF 7 0 3,oL 8 1 7,oO 9 (.bin .eql (.t 6) (.t 8)),oM 10 9,oG 11 (.faddr 1 (.t 2)) 10 true,oG 12 (.load 1 false (.t 11)) 10 true,oG 13 (.faddr 1 (.t 3)) 10 true,oG 14 (.load 1 false (.t 13)) 10 true,oG 15 (.bin .eql (.t 12) (.t 14)) 10 true,oO 16 (.pick (.t 10) (.t 15) (.c (.bool false))),oM 17 16,oG 18 (.faddr 2 (.t 2)) 17 true,oG 19 (.load 1 false (.t 18)) 17 true,oG 20 (.faddr 2 (.t 3)) 17 true,oG 21 (.load 1 false (.t 20)) 17 true,oG 22 (.bin .eql (.t 19) (.t 21)) 17 true,oO 23 (.pick (.t 17) (.t 22) (.c (.bool false))),oM 24 23,oG 25 (.faddr 3 (.t 2)) 24 true,oG 26 (.load 1 false (.t 25)) 24 true,oG 27 (.faddr 3 (.t 3)) 24 true,oG 28 (.load 1 false (.t 27)) 24 true,oG 29 (.bin .eql (.t 26) (.t 28)) 24 true,oO 30 (.pick (.t 24) (.t 29) (.c (.bool false))),oM 31 30,oG 32 (.faddr 4 (.t 2)) 31 true,oG 33 (.load 1 false (.t 32)) 31 true,oG 34 (.faddr 4 (.t 3)) 31 true,oG 35 (.load 1 false (.t 34)) 31 true,oG 36 (.call 37 [.t 33,.t 35]) 31 true,oO 37 (.pick (.t 31) (.t 36) (.c (.bool false))),oM 4 37] .ret),.pure,true,true⟩
theorem k19:compF Try.prog pP Try.f19=some c19:=by kernel_rfl
def c20:AFunc:=⟨69,[.tmp 2],qR [oO 1 (.box (.t 0)),oO 2 (.mv (.c (.bool false)))] (.seq (qR [oF 5 0 1,oL 6 1 5,oO 7 (.call 38 [.t 6]),oO 8 (.un .not (.t 7)),oM 9 8,oG 10 (.faddr 1 (.t 1)) 9 false,oG 11 (.load 1 false (.t 10)) 9 false,oG 12 (.call 38 [.t 11]) 9 false,oG 13 (.un .not (.t 12)) 9 false,oO 14 (.pick (.t 9) (.c (.bool true)) (.t 13)),oM 15 14,oG 16 (.faddr 0 (.t 1)) 15 false,oG 17 (.load 1 false (.t 16)) 15 false,oG 18 (.faddr 1 (.t 1)) 15 false,oG 19 (.load 1 false (.t 18)) 15 false,oG 20 (.bin .eql (.t 17) (.t 19)) 15 false,oO 21 (.pick (.t 15) (.c (.bool true)) (.t 20)),oM 22 21,oG 23 (.faddr 2 (.t 1)) 22 false,oG 24 (.load 1 false (.t 23)) 22 false,oG 25 (.call 39 [.t 24]) 22 false,oG 26 (.un .not (.t 25)) 22 false,oO 27 (.pick (.t 22) (.c (.bool true)) (.t 26)),oM 28 27,oG 29 (.faddr 3 (.t 1)) 28 false,oG 30 (.load 1 false (.t 29)) 28 false,oG 31 (.call 39 [.t 30]) 28 false,oG 32 (.un .not (.t 31)) 28 false,oO 33 (.pick (.t 28) (.c (.bool true)) (.t 32)),oM 34 33,oG 35 (.faddr 4 (.t 1)) 34 false,oG 36 (.load 1 false (.t 35)) 34 false,oG 37 (.len false (.t 36)) 34 false,oG 38 (.bin .gtr (.t 37) (nI 400)) 34 false,oO 39 (.pick (.t 34) (.c (.bool true)) (.t 38))] (.cond (.t 39) (qR [oO 2 (.mv (.c (.bool false)))] .ret) .skip)) (.seq (qR [oF 40 4 1,oL 41 1 40,oO 42 (.len false (.t 41)),oO 43 (.mv (nI 0))] (.block 0 (.loop (qR [oO 44 (.bin .lss (.t 43) (.t 42))] (.seq (.cond (.t 44) .skip (.exit 0)) (.seq (.block 1 (qR [oM 45 43,oO 46 (.iaddrS 3 (.t 41) (.t 43)),oR 47 3 46,oO 4 (.alloc [oS,oN,oZ]),oM 3 45,oU (.store 3 (.t 4) (.t 47))] (qR [oR 48 3 4,oF 49 1 1,oL 50 1 49,oO 51 (.call 40 [.t 48,.t 50]),oO 52 (.un .not (.t 51)),oM 53 52,oG 54 (.mv (.t 3)) 53 false,oG 55 (.bin .gtr (.t 54) (nI 0)) 53 false,oG 56 (.mv (.t 55)) 53 false,oG 57 (.faddr 4 (.t 1)) 56 true,oG 58 (.load 1 false (.t 57)) 56 true,oG 59 (.mv (.t 3)) 56 true,oG 60 (.bin .sub (.t 59) (nI 1)) 56 true,oG 61 (.iaddrS 3 (.t 58) (.t 60)) 56 true,oG 62 (.load 3 true (.t 61)) 56 true,oG 63 (.load 3 true (.t 4)) 56 true,oG 64 (.call 41 [.t 62,.t 63]) 56 true,oG 65 (.bin .geq (.t 64) (nI 0)) 56 true,oG 66 (.pick (.t 56) (.t 65) (.c (.bool false))) 53 false,oO 67 (.pick (.t 53) (.c (.bool true)) (.t 66))] (.cond (.t 67) (qR [oO 2 (.mv (.c (.bool false)))] .ret) .skip)))) (.region [oO 68 (.bin .add (.t 43) (nI 1)),oM 43 68]))))))) (qR [oO 2 (.mv (.c (.bool true)))] .ret))),.pure,true,true⟩
theorem k20:compF Try.prog pP Try.f20=some c20:=by kernel_rfl
def c21:AFunc:=⟨15,[],qR [oM 4 0,oM 5 1,oO 6 (.len true (.t 5)),oO 7 (.call 22 [.t 4,nI 1,.t 6])] (.region [oM 8 0,oM 9 0,oO 10 (.nilck (.t 9)),oL 11 1 10,oM 12 1,oO 13 (.append 1 false 1 false (.t 11) (.t 12)),oO 14 (.nilck (.t 8)),oU (.store 1 (.t 14) (.t 13))]),.raw,false,false⟩
theorem k21:compF Try.prog {mt:=false,mtAt:=[],mode:=.raw,clArgs:=false,clRes:=false} Try.f21=some c21:=by kernel_rfl
def c22:AFunc:=⟨29,[],qR [oO 6 (.alloc [.int .u8 0,.int .u8 0,.int .u8 0,.int .u8 0,.int .u8 0,.int .u8 0,.int .u8 0,.int .u8 0])] (.seq (qR [oO 8 (.mv (nI 0))] (.block 0 (.loop (qR [oO 9 (.bin .lss (.t 8) (nI 8))] (.seq (.cond (.t 9) .skip (.exit 0)) (.seq (.block 1 (qR [oM 10 8,oM 7 10] (.region [oM 11 7,oO 12 (.bin .sub (nI 7) (.t 11)),oM 13 2,oM 14 7,oO 15 (.bin .mul (nI 8) (.t 14)),oO 16 (.bin .shr (.t 13) (.t 15)),oO 17 (.conv .u8 (.t 16)),oO 18 (.iaddrA 8 1 (.t 6) (.t 12)),oU (.store 1 (.t 18) (.t 17))]))) (.region [oO 19 (.bin .add (.t 8) (nI 1)),oM 8 19]))))))) (.region [oM 20 0,oM 21 0,oO 22 (.nilck (.t 21)),oL 23 1 22,oM 24 1,oO 25 (.bin .sub (nI 8) (.t 24)),oO 26 (.arrSl 8 1 false (.t 6) (some (.t 25)) none),oO 27 (.append 1 false 1 false (.t 23) (.t 26)),oO 28 (.nilck (.t 20)),oU (.store 1 (.t 28) (.t 27))])),.raw,false,false⟩
theorem k22:compF Try.prog {mt:=false,mtAt:=[],mode:=.raw,clArgs:=false,clRes:=false} Try.f22=some c22:=by kernel_rfl
def c23:AFunc:=⟨40,[],qR [oO 3 (.box (.t 1))] (qR [oM 6 0,oF 7 0 3,oL 8 1 7,oO 9 (.call 22 [.t 6,nI 1,.t 8])] (qR [oF 10 0 3,oL 11 1 10] (.block 0 (qR [oO 17 (.bin .eql (.t 11) (nI 1)),oM 16 17] (.cond (.t 16) (.region [oM 18 0,oF 19 1 3,oL 20 1 19,oO 21 (.call 22 [.t 18,nI 8,.t 20])]) (qR [oO 23 (.bin .eql (.t 11) (nI 4)),oM 22 23] (.cond (.t 22) (qR [oM 24 0,oF 25 3 3,oL 26 1 25,oO 27 (.len false (.t 26)),oO 28 (.call 22 [.t 24,nI 1,.t 27])] (qR [oF 29 3 3,oL 30 1 29,oO 31 (.len false (.t 30)),oO 32 (.mv (nI 0))] (.block 1 (.loop (qR [oO 33 (.bin .lss (.t 32) (.t 31))] (.seq (.cond (.t 33) .skip (.exit 1)) (.seq (.block 2 (qR [oO 34 (.iaddrS 4 (.t 30) (.t 32)),oR 35 4 34,oO 5 (.alloc [oZ,oZ,oS,oN]),oU (.store 4 (.t 5) (.t 35))] (.region [oM 36 0,oR 37 4 5,oO 38 (.call 23 [.t 36,.t 37])]))) (.region [oO 39 (.bin .add (.t 32) (nI 1)),oM 32 39])))))))) (.region [oM 12 0,oF 13 2 3,oL 14 1 13,oO 15 (.call 21 [.t 12,.t 14])])))))))),.raw,false,false⟩
theorem k23:compF Try.prog {mt:=false,mtAt:=[],mode:=.raw,clArgs:=false,clRes:=false} Try.f23=some c23:=by kernel_rfl
def c24:AFunc:=⟨142,[.tmp 2],qR [oO 1 (.box (.t 0)),oO 2 (.mv (.c (.bool false)))] (qR [oF 10 0 1,oL 11 1 10,oO 12 (.call 42 [.t 11]),oM 3 12] (qR [oF 13 1 1,oL 14 1 13,oO 15 (.call 42 [.t 14]),oM 4 15] (.seq (qR [oM 16 3,oO 17 (.un .not (.t 16)),oM 18 17,oG 19 (.mv (.t 4)) 18 false,oG 20 (.un .not (.t 19)) 18 false,oO 21 (.pick (.t 18) (.c (.bool true)) (.t 20)),oM 22 21,oG 23 (.faddr 0 (.t 1)) 22 false,oG 24 (.load 1 false (.t 23)) 22 false,oG 25 (.faddr 1 (.t 1)) 22 false,oG 26 (.load 1 false (.t 25)) 22 false,oG 27 (.bin .eql (.t 24) (.t 26)) 22 false,oO 28 (.pick (.t 22) (.c (.bool true)) (.t 27)),oM 29 28,oG 30 (.faddr 2 (.t 1)) 29 false,oG 31 (.load 1 false (.t 30)) 29 false,oG 32 (.bin .lss (.t 31) (nI 0)) 29 false,oO 33 (.pick (.t 29) (.c (.bool true)) (.t 32)),oM 34 33,oG 35 (.faddr 2 (.t 1)) 34 false,oG 36 (.load 1 false (.t 35)) 34 false,oG 37 (.bin .gtr (.t 36) (nI 1099511627776)) 34 false,oO 38 (.pick (.t 34) (.c (.bool true)) (.t 37)),oM 39 38,oG 40 (.faddr 3 (.t 1)) 39 false,oG 41 (.load 1 false (.t 40)) 39 false,oG 42 (.bin .lss (.t 41) (nI 0)) 39 false,oO 43 (.pick (.t 39) (.c (.bool true)) (.t 42)),oM 44 43,oG 45 (.faddr 3 (.t 1)) 44 false,oG 46 (.load 1 false (.t 45)) 44 false,oG 47 (.bin .gtr (.t 46) (nI 1099511627776)) 44 false,oO 48 (.pick (.t 44) (.c (.bool true)) (.t 47)),oM 49 48,oG 50 (.faddr 4 (.t 1)) 49 false,oG 51 (.load 1 false (.t 50)) 49 false,oG 52 (.len false (.t 51)) 49 false,oG 53 (.bin .gtr (.t 52) (nI 400)) 49 false,oO 54 (.pick (.t 49) (.c (.bool true)) (.t 53))] (.cond (.t 54) (qR [oO 2 (.mv (.c (.bool false)))] .ret) .skip)) (.seq (qR [oO 5 (.mv (nI 0))] (.block 0 (.loop (.seq (qR [oM 55 5,oF 56 4 1,oL 57 1 56,oO 58 (.len false (.t 57)),oO 59 (.bin .lss (.t 55) (.t 58))] (.cond (.t 59) .skip (.exit 0))) (.seq (.block 1 (qR [oF 62 4 1,oL 63 1 62,oM 64 5,oO 65 (.iaddrS 3 (.t 63) (.t 64)),oR 66 3 65,oO 6 (.alloc [oS,oN,oZ]),oU (.store 3 (.t 6) (.t 66))] (qR [oF 67 0 6,oL 68 1 67,oO 69 (.call 42 [.t 68]),oM 7 69] (.seq (qR [oM 70 7,oO 71 (.un .not (.t 70)),oM 72 71,oG 73 (.faddr 1 (.t 6)) 72 false,oG 74 (.load 1 false (.t 73)) 72 false,oG 75 (.len false (.t 74)) 72 false,oG 76 (.bin .lss (.t 75) (nI 1)) 72 false,oO 77 (.pick (.t 72) (.c (.bool true)) (.t 76)),oM 78 77,oG 79 (.faddr 1 (.t 6)) 78 false,oG 80 (.load 1 false (.t 79)) 78 false,oG 81 (.len false (.t 80)) 78 false,oG 82 (.bin .gtr (.t 81) (nI 8)) 78 false,oO 83 (.pick (.t 78) (.c (.bool true)) (.t 82)),oM 84 83,oG 85 (.faddr 2 (.t 6)) 84 false,oG 86 (.load 1 false (.t 85)) 84 false,oG 87 (.bin .lss (.t 86) (nI 0)) 84 false,oO 88 (.pick (.t 84) (.c (.bool true)) (.t 87)),oM 89 88,oG 90 (.faddr 2 (.t 6)) 89 false,oG 91 (.load 1 false (.t 90)) 89 false,oG 92 (.bin .gtr (.t 91) (nI 1099511627776)) 89 false,oO 93 (.pick (.t 89) (.c (.bool true)) (.t 92)),oM 94 93,oG 95 (.faddr 1 (.t 6)) 94 false,oG 96 (.load 1 false (.t 95)) 94 false,oG 97 (.iaddrS 4 (.t 96) (nI 0)) 94 false,oG 98 (.faddr 0 (.t 97)) 94 false,oG 99 (.load 1 false (.t 98)) 94 false,oG 100 (.bin .neq (.t 99) (nI 3)) 94 false,oO 101 (.pick (.t 94) (.c (.bool true)) (.t 100)),oM 102 101,oG 103 (.faddr 1 (.t 6)) 102 false,oG 104 (.load 1 false (.t 103)) 102 false,oG 105 (.iaddrS 4 (.t 104) (nI 0)) 102 false,oG 106 (.faddr 2 (.t 105)) 102 false,oG 107 (.load 1 false (.t 106)) 102 false,oG 108 (.faddr 1 (.t 1)) 102 false,oG 109 (.load 1 false (.t 108)) 102 false,oG 110 (.bin .neq (.t 107) (.t 109)) 102 false,oO 111 (.pick (.t 102) (.c (.bool true)) (.t 110)),oM 112 111,oG 113 (.mv (.t 5)) 112 false,oG 114 (.bin .gtr (.t 113) (nI 0)) 112 false,oG 115 (.mv (.t 114)) 112 false,oG 116 (.faddr 4 (.t 1)) 115 true,oG 117 (.load 1 false (.t 116)) 115 true,oG 118 (.mv (.t 5)) 115 true,oG 119 (.bin .sub (.t 118) (nI 1)) 115 true,oG 120 (.iaddrS 3 (.t 117) (.t 119)) 115 true,oG 121 (.load 3 true (.t 120)) 115 true,oG 122 (.load 3 true (.t 6)) 115 true,oG 123 (.call 43 [.t 121,.t 122]) 115 true,oG 124 (.bin .geq (.t 123) (nI 0)) 115 true,oG 125 (.pick (.t 115) (.t 124) (.c (.bool false))) 112 false,oO 126 (.pick (.t 112) (.c (.bool true)) (.t 125))] (.cond (.t 126) (qR [oO 2 (.mv (.c (.bool false)))] .ret) .skip)) (qR [oO 8 (.mv (nI 0))] (.block 2 (.loop (.seq (qR [oM 127 8,oF 128 1 6,oL 129 1 128,oO 130 (.len false (.t 129)),oO 131 (.bin .lss (.t 127) (.t 130))] (.cond (.t 131) .skip (.exit 2))) (.seq (.block 3 (qR [oF 134 1 6,oL 135 1 134,oM 136 8,oO 137 (.iaddrS 4 (.t 135) (.t 136)),oR 138 4 137,oO 139 (.call 44 [.t 138]),oM 9 139] (qR [oM 140 9,oO 141 (.un .not (.t 140))] (.cond (.t 141) (qR [oO 2 (.mv (.c (.bool false)))] .ret) .skip)))) (.region [oM 132 8,oO 133 (.bin .add (.t 132) (nI 1)),oM 8 133])))))))))) (.region [oM 60 5,oO 61 (.bin .add (.t 60) (nI 1)),oM 5 61])))))) (qR [oO 2 (.mv (.c (.bool true)))] .ret))))),.pure,true,true⟩
theorem k24:compF Try.prog pP Try.f24=some c24:=by kernel_rfl
def c25:AFunc:=⟨8,[.tmp 2],qR [oO 2 (.mv (.c oS))] (qR [oM 3 0,oO 4 (.len true (.t 3)),oO 5 (.call 26 [nI 1,.t 4]),oM 6 0,oO 7 (.bin .add (.t 5) (.t 6)),oM 2 7] .ret),.pure,true,true⟩
theorem k25:compF Try.prog pP Try.f25=some c25:=by kernel_rfl
def c26:AFunc:=⟨21,[.tmp 4],qR [oO 4 (.mv (.c oS))] (qR [oO 5 (.mv (.c oS))] (.seq (qR [oO 6 (.mv (nI 0))] (.block 0 (.loop (.seq (qR [oM 7 6,oM 8 0,oO 9 (.bin .lss (.t 7) (.t 8))] (.cond (.t 9) .skip (.exit 0))) (.seq (.block 1 (qR [oM 12 1,oO 13 (.conv .u8 (.t 12)),oO 14 (.buildSl 1 1 false [.int .u8 0] [(0,1,.t 13)]),oO 15 (.b2s (.t 14)),oM 16 5,oO 17 (.bin .add (.t 15) (.t 16)),oM 5 17] (.region [oM 18 1,oO 19 (.bin .shr (.t 18) (.c (.int .u64 8))),oM 1 19]))) (.region [oM 10 6,oO 11 (.bin .add (.t 10) (nI 1)),oM 6 11])))))) (qR [oM 20 5,oM 4 20] .ret))),.pure,true,true⟩
theorem k26:compF Try.prog pP Try.f26=some c26:=by kernel_rfl
def c27:AFunc:=⟨47,[.tmp 2],qR [oO 1 (.box (.t 0)),oO 2 (.mv (.c oS))] (qR [oF 5 0 1,oL 6 1 5,oO 7 (.call 26 [nI 1,.t 6]),oM 3 7] (.seq (qR [oF 8 0 1,oL 9 1 8] (.block 0 (qR [oO 11 (.bin .eql (.t 9) (nI 1)),oM 10 11] (.cond (.t 10) (qR [oM 12 3,oF 13 1 1,oL 14 1 13,oO 15 (.call 26 [nI 8,.t 14]),oO 16 (.bin .add (.t 12) (.t 15)),oM 2 16] .ret) (.seq (qR [oO 18 (.bin .eql (.t 9) (nI 2)),oM 17 18] (.cond (.t 17) .skip (.region [oO 19 (.bin .eql (.t 9) (nI 3)),oM 17 19]))) (.cond (.t 17) (qR [oM 20 3,oF 21 2 1,oL 22 1 21,oO 23 (.call 25 [.t 22]),oO 24 (.bin .add (.t 20) (.t 23)),oM 2 24] .ret) .skip)))))) (qR [oM 25 3,oF 26 3 1,oL 27 1 26,oO 28 (.len false (.t 27)),oO 29 (.call 26 [nI 1,.t 28]),oO 30 (.bin .add (.t 25) (.t 29)),oM 3 30] (.seq (qR [oO 4 (.mv (nI 0))] (.block 1 (.loop (.seq (qR [oM 31 4,oF 32 3 1,oL 33 1 32,oO 34 (.len false (.t 33)),oO 35 (.bin .lss (.t 31) (.t 34))] (.cond (.t 35) .skip (.exit 1))) (.seq (.block 2 (.region [oM 38 3,oF 39 3 1,oL 40 1 39,oM 41 4,oO 42 (.iaddrS 4 (.t 40) (.t 41)),oR 43 4 42,oO 44 (.call 27 [.t 43]),oO 45 (.bin .add (.t 38) (.t 44)),oM 3 45])) (.region [oM 36 4,oO 37 (.bin .add (.t 36) (nI 1)),oM 4 37])))))) (qR [oM 46 3,oM 2 46] .ret))))),.pure,true,true⟩
theorem k27:compF Try.prog pP Try.f27=some c27:=by kernel_rfl
def c28:AFunc:=⟨37,[.tmp 2],qR [oO 2 (.mv (.c oN))] (qR [oO 3 (.mv (.c oN))] (.seq (qR [oO 4 (.mv (nI 0))] (.block 0 (.loop (.seq (qR [oM 6 4,oM 7 0,oO 8 (.len false (.t 7)),oO 9 (.bin .lss (.t 6) (.t 8)),oM 10 9,oG 11 (.mv (.t 4)) 10 true,oG 12 (.bin .lss (.t 11) (nI 40)) 10 true,oO 13 (.pick (.t 10) (.t 12) (.c (.bool false)))] (.cond (.t 13) .skip (.exit 0))) (.seq (.block 1 (qR [oM 16 0,oM 17 4,oO 18 (.iaddrS 6 (.t 16) (.t 17)),oR 19 6 18,oO 20 (.call 45 [.t 19]),oO 5 (.alloc [oS,oN]),oU (.store 2 (.t 5) (.t 20))] (.region [oM 21 3,oF 22 0 5,oL 23 1 22,oF 24 1 5,oL 25 1 24,oM 26 0,oM 27 4,oO 28 (.iaddrS 6 (.t 26) (.t 27)),oF 29 2 28,oO 30 (.iaddrA 4 1 (.t 29) (nI 3)),oL 31 1 30,⟨(some 32),.call 46 [.t 31,.c (.int .i64 9)],none,[.t 22,.t 24]⟩,oO 33 (.build [oS,oN,oZ] [(0,1,.t 23),(1,1,.t 25),(2,1,.t 32)]),oO 34 (.buildSl 1 3 true [oS,oN,oZ] [(0,3,.t 33)]),oO 35 (.append 3 true 48 false (.t 21) (.t 34)),oM 3 35]))) (.region [oM 14 4,oO 15 (.bin .add (.t 14) (nI 1)),oM 4 15])))))) (qR [oM 36 3,oM 2 36] .ret))),.pure,true,true⟩
theorem k28:compF Try.prog pP Try.f28=some c28:=by kernel_rfl
def c29:AFunc:=⟨5,[.cell 2 4 true],qR [oO 1 (.box (.t 0)),oO 2 (.alloc [oZ,oZ,oS,oN])] (qR [oR 3 4 1,oO 4 (.call 47 [.t 3,nI 4]),oU (.store 4 (.t 2) (.t 4))] .ret),.pure,true,true⟩
theorem k29:compF Try.prog pP Try.f29=some c29:=by kernel_rfl
def c30:AFunc:=⟨47,[.tmp 2],qR [oO 2 (.mv (.c oN))] (qR [oM 7 0,oO 8 (.call 48 [.t 7]),oM 3 8] (.seq (qR [oM 9 3,oO 10 (.len false (.t 9)),oO 11 (.mv (nI 0))] (.block 0 (.loop (qR [oO 12 (.bin .lss (.t 11) (.t 10))] (.seq (.cond (.t 12) .skip (.exit 0)) (.seq (.block 1 (qR [oM 13 11,oM 4 13] (qR [oM 14 3,oM 15 4,oM 16 3,oM 17 4,oO 18 (.iaddrS 3 (.t 16) (.t 17)),oF 19 1 18,oL 20 1 19,oO 21 (.call 49 [.t 20]),oO 22 (.iaddrS 3 (.t 14) (.t 15)),oF 23 1 22,oU (.store 1 (.t 23) (.t 21))] (qR [oM 24 3,oM 25 4,oO 26 (.iaddrS 3 (.t 24) (.t 25)),oF 27 1 26,oL 28 1 27,oO 29 (.len false (.t 28)),oO 30 (.mv (nI 0))] (.block 2 (.loop (qR [oO 31 (.bin .lss (.t 30) (.t 29))] (.seq (.cond (.t 31) .skip (.exit 2)) (.seq (.block 3 (qR [oM 32 30,oO 33 (.iaddrS 4 (.t 28) (.t 30)),oR 34 4 33,oO 6 (.alloc [oZ,oZ,oS,oN]),oM 5 32,oU (.store 4 (.t 6) (.t 34))] (.region [oM 35 3,oM 36 4,oO 37 (.iaddrS 3 (.t 35) (.t 36)),oF 38 1 37,oL 39 1 38,oM 40 5,oR 41 4 6,⟨(some 42),.call 50 [.t 41],none,[.t 38]⟩,oO 43 (.iaddrS 4 (.t 39) (.t 40)),oU (.store 4 (.t 43) (.t 42))]))) (.region [oO 44 (.bin .add (.t 30) (nI 1)),oM 30 44])))))))))) (.region [oO 45 (.bin .add (.t 11) (nI 1)),oM 11 45]))))))) (qR [oM 46 3,oM 2 46] .ret))),.pure,true,true⟩
theorem k30:compF Try.prog pP Try.f30=some c30:=by kernel_rfl
def c31:AFunc:=⟨7,[.tmp 2],qR [oO 2 (.mv (.c oS))] (qR [oM 3 0,oM 4 0,oO 5 (.call 32 [.t 4,nI 1]),oO 6 (.call 51 [.t 3,.t 5]),oM 2 6] .ret),.gc,false,true⟩
theorem k31:compF Try.prog {mt:=false,mtAt:=[],mode:=.gc,clArgs:=false,clRes:=true} Try.f31=some c31:=by kernel_rfl
def c32:AFunc:=⟨22,[.tmp 4],qR [oO 4 (.mv (nI 0))] (.seq (qR [oM 7 0,oM 8 1,oO 9 (.call 51 [.t 7,.t 8]),oO 10 (.s2b (.t 9)),oO 11 (.len false (.t 10)),oO 12 (.mv (nI 0))] (.block 0 (.loop (qR [oO 13 (.bin .lss (.t 12) (.t 11))] (.seq (.cond (.t 13) .skip (.exit 0)) (.seq (.block 1 (qR [oO 14 (.iaddrS 1 (.t 10) (.t 12)),oL 15 1 14,oM 6 15] (.region [oM 16 4,oO 17 (.bin .shl (.t 16) (.c (.int .u64 8))),oM 18 6,oO 19 (.conv .i64 (.t 18)),oO 20 (.bin .or (.t 17) (.t 19)),oM 4 20]))) (.region [oO 21 (.bin .add (.t 12) (nI 1)),oM 12 21]))))))) .ret),.gc,false,true⟩
theorem k32:compF Try.prog {mt:=false,mtAt:=[],mode:=.gc,clArgs:=false,clRes:=true} Try.f32=some c32:=by kernel_rfl
def c33:AFunc:=⟨30,[.cell 2 3 true],qR [oO 2 (.alloc [oS,oN,oZ])] (qR [oM 4 0,oO 5 (.call 31 [.t 4]),oF 6 0 2,oU (.store 1 (.t 6) (.t 5))] (.seq (qR [oM 7 0,oO 8 (.call 32 [.t 7,nI 1]),oM 3 8] (.block 0 (.loop (.seq (qR [oM 9 3,oO 10 (.bin .gtr (.t 9) (nI 0)),oM 11 10,oG 12 (.mv (.t 0)) 11 true,oG 13 (.nilck (.t 12)) 11 true,oG 14 (.faddr 1 (.t 13)) 11 true,oG 15 (.load 1 false (.t 14)) 11 true,oG 16 (.un .not (.t 15)) 11 true,oO 17 (.pick (.t 11) (.t 16) (.c (.bool false)))] (.cond (.t 17) .skip (.exit 0))) (.seq (.block 1 (.region [oF 20 1 2,oL 21 1 20,oM 22 0,⟨(some 23),.call 52 [.t 22,.c (.int .i64 4)],none,[.t 20]⟩,oO 24 (.buildSl 1 4 true [oZ,oZ,oS,oN] [(0,4,.t 23)]),oO 25 (.append 4 true 56 false (.t 21) (.t 24)),oF 26 1 2,oU (.store 1 (.t 26) (.t 25))])) (.region [oM 18 3,oO 19 (.bin .sub (.t 18) (nI 1)),oM 3 19])))))) (qR [oM 27 0,oO 28 (.call 32 [.t 27,nI 8]),oF 29 2 2,oU (.store 1 (.t 29) (.t 28))] .ret))),.gc,false,true⟩
theorem k33:compF Try.prog {mt:=false,mtAt:=[],mode:=.gc,clArgs:=false,clRes:=true} Try.f33=some c33:=by kernel_rfl
def c34:AFunc:=⟨7,[.tmp 2],qR [oO 2 (.mv (.c oS))] (qR [oM 3 0,oM 4 0,oO 5 (.call 35 [.t 4,nI 1]),oO 6 (.call 53 [.t 3,.t 5]),oM 2 6] .ret),.gc,false,true⟩
theorem k34:compF Try.prog {mt:=false,mtAt:=[],mode:=.gc,clArgs:=false,clRes:=true} Try.f34=some c34:=by kernel_rfl
def c35:AFunc:=⟨25,[.tmp 4],qR [oO 4 (.mv (nI 0))] (qR [oM 8 0,oM 9 1,oO 10 (.call 53 [.t 8,.t 9]),oM 5 10] (qR [oO 6 (.mv (nI 0))] (.seq (qR [oO 7 (.mv (nI 0))] (.block 0 (.loop (.seq (qR [oM 11 7,oM 12 5,oO 13 (.len true (.t 12)),oO 14 (.bin .lss (.t 11) (.t 13))] (.cond (.t 14) .skip (.exit 0))) (.seq (.block 1 (.region [oM 17 6,oO 18 (.bin .shl (.t 17) (.c (.int .u64 8))),oM 19 5,oM 20 7,oO 21 (.idxStr (.t 19) (.t 20)),oO 22 (.conv .i64 (.t 21)),oO 23 (.bin .or (.t 18) (.t 22)),oM 6 23])) (.region [oM 15 7,oO 16 (.bin .add (.t 15) (nI 1)),oM 7 16])))))) (qR [oM 24 6,oM 4 24] .ret)))),.gc,false,true⟩
theorem k35:compF Try.prog {mt:=false,mtAt:=[],mode:=.gc,clArgs:=false,clRes:=true} Try.f35=some c35:=by kernel_rfl
def c36:AFunc:=⟨58,[.cell 4 4 true],qR [oO 4 (.alloc [oZ,oZ,oS,oN])] (qR [oM 8 0,oO 9 (.call 35 [.t 8,nI 1]),oO 10 (.build [oZ,oZ,oS,oN] [(0,1,.t 9)]),oO 5 (.alloc [oZ,oZ,oS,oN]),oU (.store 4 (.t 5) (.t 10))] (.seq (qR [oF 11 0 5,oL 12 1 11] (.block 0 (qR [oO 17 (.bin .eql (.t 12) (nI 1)),oM 16 17] (.cond (.t 16) (.region [oM 18 0,oO 19 (.call 35 [.t 18,nI 8]),oF 20 1 5,oU (.store 1 (.t 20) (.t 19))]) (.seq (qR [oO 22 (.bin .eql (.t 12) (nI 2)),oM 21 22] (.cond (.t 21) .skip (.region [oO 23 (.bin .eql (.t 12) (nI 3)),oM 21 23]))) (.cond (.t 21) (.region [oM 24 0,oO 25 (.call 34 [.t 24]),oF 26 2 5,oU (.store 1 (.t 26) (.t 25))]) (qR [oO 28 (.bin .eql (.t 12) (nI 4)),oM 27 28] (.cond (.t 27) (qR [oM 29 0,oO 30 (.call 35 [.t 29,nI 1]),oM 6 30] (.seq (qR [oM 31 1,oO 32 (.bin .eql (.t 31) (nI 0))] (.cond (.t 32) (.region [oM 33 0,oO 34 (.nilck (.t 33)),oF 35 2 34,oU (.store 1 (.t 35) (.c (.bool true)))]) .skip)) (qR [oO 7 (.mv (nI 0))] (.block 1 (.loop (.seq (qR [oM 36 7,oM 37 6,oO 38 (.bin .lss (.t 36) (.t 37)),oM 39 38,oG 40 (.mv (.t 0)) 39 true,oG 41 (.nilck (.t 40)) 39 true,oG 42 (.faddr 2 (.t 41)) 39 true,oG 43 (.load 1 false (.t 42)) 39 true,oG 44 (.un .not (.t 43)) 39 true,oO 45 (.pick (.t 39) (.t 44) (.c (.bool false)))] (.cond (.t 45) .skip (.exit 1))) (.seq (.block 2 (.region [oF 48 3 5,oL 49 1 48,oM 50 0,oM 51 1,oO 52 (.bin .sub (.t 51) (nI 1)),⟨(some 53),.call 36 [.t 50,.t 52],none,[.t 48]⟩,oO 54 (.buildSl 1 4 true [oZ,oZ,oS,oN] [(0,4,.t 53)]),oO 55 (.append 4 true 56 false (.t 49) (.t 54)),oF 56 3 5,oU (.store 1 (.t 56) (.t 55))])) (.region [oM 46 7,oO 47 (.bin .add (.t 46) (nI 1)),oM 7 47])))))))) (.region [oM 13 0,oO 14 (.nilck (.t 13)),oF 15 2 14,oU (.store 1 (.t 15) (.c (.bool true)))]))))))))) (qR [oR 57 4 5,oU (.store 4 (.t 4) (.t 57))] .ret))),.gc,false,true⟩
theorem k36:compF Try.prog {mt:=false,mtAt:=[],mode:=.gc,clArgs:=false,clRes:=true} Try.f36=some c36:=by kernel_rfl
def c37:AFunc:=⟨55,[.tmp 4],qR [oO 4 (.mv (.c (.bool false)))] (.seq (qR [oM 6 0,oO 7 (.len false (.t 6)),oM 8 1,oO 9 (.len false (.t 8)),oO 10 (.bin .neq (.t 7) (.t 9))] (.cond (.t 10) (qR [oO 4 (.mv (.c (.bool false)))] .ret) .skip)) (.seq (qR [oO 5 (.mv (nI 0))] (.block 0 (.loop (.seq (qR [oM 11 5,oM 12 0,oO 13 (.len false (.t 12)),oO 14 (.bin .lss (.t 11) (.t 13))] (.cond (.t 14) .skip (.exit 0))) (.seq (.block 1 (qR [oM 17 0,oM 18 5,oO 19 (.iaddrS 3 (.t 17) (.t 18)),oF 20 0 19,oL 21 1 20,oM 22 1,oM 23 5,oO 24 (.iaddrS 3 (.t 22) (.t 23)),oF 25 0 24,oL 26 1 25,oO 27 (.bin .neq (.t 21) (.t 26)),oM 28 27,oG 29 (.mv (.t 0)) 28 false,oG 30 (.mv (.t 5)) 28 false,oG 31 (.iaddrS 3 (.t 29) (.t 30)) 28 false,oG 32 (.faddr 2 (.t 31)) 28 false,oG 33 (.load 1 false (.t 32)) 28 false,oG 34 (.mv (.t 1)) 28 false,oG 35 (.mv (.t 5)) 28 false,oG 36 (.iaddrS 3 (.t 34) (.t 35)) 28 false,oG 37 (.faddr 2 (.t 36)) 28 false,oG 38 (.load 1 false (.t 37)) 28 false,oG 39 (.bin .neq (.t 33) (.t 38)) 28 false,oO 40 (.pick (.t 28) (.c (.bool true)) (.t 39)),oM 41 40,oG 42 (.mv (.t 0)) 41 false,oG 43 (.mv (.t 5)) 41 false,oG 44 (.iaddrS 3 (.t 42) (.t 43)) 41 false,oG 45 (.faddr 1 (.t 44)) 41 false,oG 46 (.load 1 false (.t 45)) 41 false,oG 47 (.mv (.t 1)) 41 false,oG 48 (.mv (.t 5)) 41 false,oG 49 (.iaddrS 3 (.t 47) (.t 48)) 41 false,oG 50 (.faddr 1 (.t 49)) 41 false,oG 51 (.load 1 false (.t 50)) 41 false,oG 52 (.call 54 [.t 46,.t 51]) 41 false,oG 53 (.un .not (.t 52)) 41 false,oO 54 (.pick (.t 41) (.c (.bool true)) (.t 53))] (.cond (.t 54) (qR [oO 4 (.mv (.c (.bool false)))] .ret) .skip))) (.region [oM 15 5,oO 16 (.bin .add (.t 15) (nI 1)),oM 5 16])))))) (qR [oO 4 (.mv (.c (.bool true)))] .ret))),.pure,true,true⟩
theorem k37:compF Try.prog pP Try.f37=some c37:=by kernel_rfl
def c38:AFunc:=⟨43,[.tmp 2],qR [oO 2 (.mv (.c (.bool false)))] (.seq (qR [oM 6 0,oO 7 (.rng (.t 6))] (.block 0 (.loop (qR [oO 8 (.nxt (.t 7)),oX 9 0 8] (.seq (.cond (.t 9) .skip (.exit 0)) (.block 1 (qR [oX 10 1 8,oX 11 2 8,oM 3 10,oM 4 11] (qR [oM 12 4,oO 13 (.bin .geq (.t 12) (.c (.int .i32 97))),oM 14 13,oG 15 (.mv (.t 4)) 14 true,oG 16 (.bin .leq (.t 15) (.c (.int .i32 122))) 14 true,oO 17 (.pick (.t 14) (.t 16) (.c (.bool false))),oM 5 17] (qR [oM 18 5,oO 19 (.un .not (.t 18)),oM 20 19,oG 21 (.mv (.t 3)) 20 true,oG 22 (.bin .eql (.t 21) (nI 0)) 20 true,oG 23 (.mv (.t 22)) 20 true,oG 24 (.mv (.t 4)) 23 false,oG 25 (.bin .neq (.t 24) (.c (.int .i32 95))) 23 false,oG 26 (.mv (.t 25)) 23 false,oG 27 (.mv (.t 4)) 26 true,oG 28 (.bin .lss (.t 27) (.c (.int .i32 48))) 26 true,oG 29 (.mv (.t 28)) 26 true,oG 30 (.mv (.t 4)) 29 false,oG 31 (.bin .gtr (.t 30) (.c (.int .i32 57))) 29 false,oG 32 (.pick (.t 29) (.c (.bool true)) (.t 31)) 26 true,oG 33 (.pick (.t 26) (.t 32) (.c (.bool false))) 23 false,oG 34 (.pick (.t 23) (.c (.bool true)) (.t 33)) 20 true,oO 35 (.pick (.t 20) (.t 34) (.c (.bool false)))] (.cond (.t 35) (qR [oO 2 (.mv (.c (.bool false)))] .ret) .skip)))))))))) (qR [oM 36 0,oO 37 (.bin .neq (.t 36) (.c oS)),oM 38 37,oG 39 (.mv (.t 0)) 38 true,oG 40 (.len true (.t 39)) 38 true,oG 41 (.bin .leq (.t 40) (nI 16)) 38 true,oO 42 (.pick (.t 38) (.t 41) (.c (.bool false))),oM 2 42] .ret)),.pure,true,true⟩
theorem k38:compF Try.prog pP Try.f38=some c38:=by kernel_rfl
def c39:AFunc:=⟨9,[.tmp 2],qR [oO 2 (.mv (.c (.bool false)))] (qR [oM 3 0,oO 4 (.bin .geq (.t 3) (nI 0)),oM 5 4,oG 6 (.mv (.t 0)) 5 true,oG 7 (.bin .leq (.t 6) (nI 1099511627776)) 5 true,oO 8 (.pick (.t 5) (.t 7) (.c (.bool false))),oM 2 8] .ret),.pure,true,true⟩
theorem k39:compF Try.prog pP Try.f39=some c39:=by kernel_rfl
def c40:AFunc:=⟨55,[.tmp 4],qR [oO 2 (.box (.t 0)),oO 4 (.mv (.c (.bool false)))] (.seq (qR [oF 7 0 2,oL 8 1 7,oO 9 (.call 38 [.t 8]),oO 10 (.un .not (.t 9)),oM 11 10,oG 12 (.faddr 1 (.t 2)) 11 false,oG 13 (.load 1 false (.t 12)) 11 false,oG 14 (.len false (.t 13)) 11 false,oG 15 (.bin .lss (.t 14) (nI 1)) 11 false,oO 16 (.pick (.t 11) (.c (.bool true)) (.t 15)),oM 17 16,oG 18 (.faddr 1 (.t 2)) 17 false,oG 19 (.load 1 false (.t 18)) 17 false,oG 20 (.len false (.t 19)) 17 false,oG 21 (.bin .gtr (.t 20) (nI 8)) 17 false,oO 22 (.pick (.t 17) (.c (.bool true)) (.t 21)),oM 23 22,oG 24 (.faddr 2 (.t 2)) 23 false,oG 25 (.load 1 false (.t 24)) 23 false,oG 26 (.call 39 [.t 25]) 23 false,oG 27 (.un .not (.t 26)) 23 false,oO 28 (.pick (.t 23) (.c (.bool true)) (.t 27))] (.cond (.t 28) (qR [oO 4 (.mv (.c (.bool false)))] .ret) .skip)) (.seq (qR [oF 29 1 2,oL 30 1 29,oO 31 (.len false (.t 30)),oO 32 (.mv (nI 0))] (.block 0 (.loop (qR [oO 33 (.bin .lss (.t 32) (.t 31))] (.seq (.cond (.t 33) .skip (.exit 0)) (.seq (.block 1 (qR [oO 34 (.iaddrS 4 (.t 30) (.t 32)),oR 35 4 34,oO 6 (.alloc [oZ,oZ,oS,oN]),oU (.store 4 (.t 6) (.t 35))] (qR [oR 36 4 6,oO 37 (.call 55 [.t 36]),oO 38 (.un .not (.t 37))] (.cond (.t 38) (qR [oO 4 (.mv (.c (.bool false)))] .ret) .skip)))) (.region [oO 39 (.bin .add (.t 32) (nI 1)),oM 32 39]))))))) (qR [oF 40 1 2,oL 41 1 40,oO 42 (.iaddrS 4 (.t 41) (nI 0)),oF 43 0 42,oL 44 1 43,oO 45 (.bin .eql (.t 44) (nI 3)),oM 46 45,oG 47 (.faddr 1 (.t 2)) 46 true,oG 48 (.load 1 false (.t 47)) 46 true,oG 49 (.iaddrS 4 (.t 48) (nI 0)) 46 true,oG 50 (.faddr 2 (.t 49)) 46 true,oG 51 (.load 1 false (.t 50)) 46 true,oG 52 (.mv (.t 1)) 46 true,oG 53 (.bin .eql (.t 51) (.t 52)) 46 true,oO 54 (.pick (.t 46) (.t 53) (.c (.bool false))),oM 4 54] .ret))),.pure,true,true⟩
theorem k40:compF Try.prog pP Try.f40=some c40:=by kernel_rfl
def c41:AFunc:=⟨19,[.tmp 4],qR [oO 2 (.box (.t 0)),oO 3 (.box (.t 1)),oO 4 (.mv (nI 0))] (.seq (qR [oF 6 0 2,oL 7 1 6,oF 8 0 3,oL 9 1 8,oO 10 (.call 56 [.t 7,.t 9]),oM 5 10] (qR [oM 11 5,oO 12 (.bin .neq (.t 11) (nI 0))] (.cond (.t 12) (qR [oM 13 5,oM 4 13] .ret) .skip))) (qR [oF 14 1 2,oL 15 1 14,oF 16 1 3,oL 17 1 16,oO 18 (.call 57 [.t 15,.t 17,.f 58]),oM 4 18] .ret)),.pure,true,true⟩
theorem k41:compF Try.prog pP Try.f41=some c41:=by kernel_rfl
def c42:AFunc:=⟨51,[.tmp 2],qR [oO 2 (.mv (.c (.bool false)))] (.seq (qR [oM 5 0,oO 6 (.len true (.t 5)),oO 7 (.bin .lss (.t 6) (nI 1)),oM 8 7,oG 9 (.mv (.t 0)) 8 false,oG 10 (.len true (.t 9)) 8 false,oG 11 (.bin .gtr (.t 10) (nI 16)) 8 false,oO 12 (.pick (.t 8) (.c (.bool true)) (.t 11)),oM 13 12,oG 14 (.mv (.t 0)) 13 false,oG 15 (.idxStr (.t 14) (nI 0)) 13 false,oG 16 (.bin .lss (.t 15) (.c (.int .u8 97))) 13 false,oO 17 (.pick (.t 13) (.c (.bool true)) (.t 16)),oM 18 17,oG 19 (.mv (.t 0)) 18 false,oG 20 (.idxStr (.t 19) (nI 0)) 18 false,oG 21 (.bin .gtr (.t 20) (.c (.int .u8 122))) 18 false,oO 22 (.pick (.t 18) (.c (.bool true)) (.t 21))] (.cond (.t 22) (qR [oO 2 (.mv (.c (.bool false)))] .ret) .skip)) (.seq (qR [oO 3 (.mv (nI 1))] (.block 0 (.loop (.seq (qR [oM 23 3,oM 24 0,oO 25 (.len true (.t 24)),oO 26 (.bin .lss (.t 23) (.t 25))] (.cond (.t 26) .skip (.exit 0))) (.seq (.block 1 (qR [oM 29 0,oM 30 3,oO 31 (.idxStr (.t 29) (.t 30)),oM 4 31] (qR [oM 32 4,oO 33 (.bin .geq (.t 32) (.c (.int .u8 97))),oM 34 33,oG 35 (.mv (.t 4)) 34 true,oG 36 (.bin .leq (.t 35) (.c (.int .u8 122))) 34 true,oO 37 (.pick (.t 34) (.t 36) (.c (.bool false))),oM 38 37,oG 39 (.mv (.t 4)) 38 false,oG 40 (.bin .geq (.t 39) (.c (.int .u8 48))) 38 false,oG 41 (.mv (.t 40)) 38 false,oG 42 (.mv (.t 4)) 41 true,oG 43 (.bin .leq (.t 42) (.c (.int .u8 57))) 41 true,oG 44 (.pick (.t 41) (.t 43) (.c (.bool false))) 38 false,oO 45 (.pick (.t 38) (.c (.bool true)) (.t 44)),oM 46 45,oG 47 (.mv (.t 4)) 46 false,oG 48 (.bin .eql (.t 47) (.c (.int .u8 95))) 46 false,oO 49 (.pick (.t 46) (.c (.bool true)) (.t 48)),oO 50 (.un .not (.t 49))] (.cond (.t 50) (qR [oO 2 (.mv (.c (.bool false)))] .ret) .skip)))) (.region [oM 27 3,oO 28 (.bin .add (.t 27) (nI 1)),oM 3 28])))))) (qR [oO 2 (.mv (.c (.bool true)))] .ret))),.pure,true,true⟩
theorem k42:compF Try.prog pP Try.f42=some c42:=by kernel_rfl
def c43:AFunc:=⟨22,[.tmp 4],qR [oO 2 (.box (.t 0)),oO 3 (.box (.t 1)),oO 4 (.mv (nI 0))] (.seq (qR [oF 5 0 2,oL 6 1 5,oF 7 0 3,oL 8 1 7,oO 9 (.bin .neq (.t 6) (.t 8))] (.cond (.t 9) (.seq (qR [oF 10 0 2,oL 11 1 10,oF 12 0 3,oL 13 1 12,oO 14 (.bin .lss (.t 11) (.t 13))] (.cond (.t 14) (qR [oO 4 (.mv (nI (-1)))] .ret) .skip)) (qR [oO 4 (.mv (nI 1))] .ret)) .skip)) (qR [oF 15 1 2,oL 16 1 15,oO 17 (.build [oZ,oZ,oS,oN] [(0,1,nI 4),(3,1,.t 16)]),oF 18 1 3,oL 19 1 18,oO 20 (.build [oZ,oZ,oS,oN] [(0,1,nI 4),(3,1,.t 19)]),oO 21 (.call 59 [.t 17,.t 20]),oM 4 21] .ret)),.pure,true,true⟩
theorem k43:compF Try.prog pP Try.f43=some c43:=by kernel_rfl
def c44:AFunc:=⟨5,[.tmp 2],qR [oO 1 (.box (.t 0)),oO 2 (.mv (.c (.bool false)))] (qR [oR 3 4 1,oO 4 (.call 60 [.t 3,nI 4]),oM 2 4] .ret),.pure,true,true⟩
theorem k44:compF Try.prog pP Try.f44=some c44:=by kernel_rfl
def c45:AFunc:=⟨68,[.cell 2 2 true],qR [oO 1 (.box (.t 0)),oO 2 (.alloc [oS,oN])] (qR [oF 7 1 1,oL 8 1 7,oO 3 (.alloc [oS,oZ]),⟨(some 6),.call 61 [],none,[.t 7,.t 3]⟩,⟨(some 9),.call 62 [.t 8,.c (.int .i64 6)],none,[.t 3]⟩,oO 10 (.iaddrS 2 (.t 6) (.t 9)),oR 11 2 10,oU (.store 2 (.t 3) (.t 11))] (qR [oF 12 0 3,oL 13 1 12,oO 14 (.build [oS,oN] [(0,1,.t 13)]),oO 4 (.alloc [oS,oN]),oU (.store 2 (.t 4) (.t 14))] (.seq (qR [oO 5 (.mv (nI 0))] (.block 0 (.loop (.seq (qR [oM 15 5,oF 16 1 3,oL 17 1 16,oO 18 (.bin .lss (.t 15) (.t 17))] (.cond (.t 18) .skip (.exit 0))) (.seq (.block 1 (qR [oM 21 5,oO 22 (.bin .eql (.t 21) (nI 0)),oM 23 22,oG 24 (.mv (.t 5)) 23 false,oG 25 (.bin .eql (.t 24) (nI 1)) 23 false,oG 26 (.mv (.t 25)) 23 false,oG 27 (.faddr 0 (.t 3)) 26 true,oG 28 (.load 1 false (.t 27)) 26 true,oG 29 (.bin .eql (.t 28) (.c (.str ⟨#[108,105,110,107]⟩))) 26 true,oG 30 (.mv (.t 29)) 26 true,oG 31 (.mv (.t 5)) 30 false,oG 32 (.faddr 2 (.t 1)) 30 false,oG 33 (.iaddrA 4 1 (.t 32) (.t 31)) 30 false,oG 34 (.load 1 false (.t 33)) 30 false,oG 35 (.call 62 [.t 34,nI 2]) 30 false,oG 36 (.bin .eql (.t 35) (nI 0)) 30 false,oG 37 (.pick (.t 30) (.c (.bool true)) (.t 36)) 26 true,oG 38 (.pick (.t 26) (.t 37) (.c (.bool false))) 23 false,oO 39 (.pick (.t 23) (.c (.bool true)) (.t 38))] (.cond (.t 39) (.region [oF 40 1 4,oL 41 1 40,oO 42 (.buildSl 4 1 false [oS,oS,oS,oS] [(0,1,.c (.str ⟨#[97]⟩)),(1,1,.c (.str ⟨#[98]⟩)),(2,1,.c (.str ⟨#[99]⟩)),(3,1,.c (.str ⟨#[100]⟩))]),oM 43 5,oF 44 2 1,oO 45 (.iaddrA 4 1 (.t 44) (.t 43)),oL 46 1 45,oO 47 (.bin .quo (.t 46) (nI 2)),⟨(some 48),.call 62 [.t 47,.c (.int .i64 4)],none,[.t 40,.t 42]⟩,oO 49 (.iaddrS 1 (.t 42) (.t 48)),oL 50 1 49,oO 51 (.build [oZ,oZ,oS,oN] [(0,1,nI 3),(2,1,.t 50)]),oO 52 (.buildSl 1 4 true [oZ,oZ,oS,oN] [(0,4,.t 51)]),oO 53 (.append 4 true 56 false (.t 41) (.t 52)),oF 54 1 4,oU (.store 1 (.t 54) (.t 53))]) (.region [oF 55 1 4,oL 56 1 55,oM 57 5,oF 58 2 1,oO 59 (.iaddrA 4 1 (.t 58) (.t 57)),oL 60 1 59,oO 61 (.bin .quo (.t 60) (nI 2)),⟨(some 62),.call 62 [.t 61,.c (.int .i64 5)],none,[.t 55]⟩,oO 63 (.build [oZ,oZ,oS,oN] [(0,1,nI 1),(1,1,.t 62)]),oO 64 (.buildSl 1 4 true [oZ,oZ,oS,oN] [(0,4,.t 63)]),oO 65 (.append 4 true 56 false (.t 56) (.t 64)),oF 66 1 4,oU (.store 1 (.t 66) (.t 65))])))) (.region [oM 19 5,oO 20 (.bin .add (.t 19) (nI 1)),oM 5 20])))))) (qR [oR 67 2 4,oU (.store 2 (.t 2) (.t 67))] .ret)))),.pure,true,true⟩
theorem k45:compF Try.prog pP Try.f45=some c45:=by kernel_rfl
def c46:AFunc:=⟨13,[.tmp 4],qR [oO 4 (.mv (nI 0))] (.seq (qR [oM 5 0,oO 6 (.bin .lss (.t 5) (nI 0))] (.cond (.t 6) (.region [oM 7 0,oO 8 (.bin .add (.t 7) (nI 1)),oO 9 (.un .neg (.t 8)),oM 0 9]) .skip)) (qR [oM 10 0,oM 11 1,oO 12 (.bin .rem (.t 10) (.t 11)),oM 4 12] .ret)),.pure,true,true⟩
theorem k46:compF Try.prog pP Try.f46=some c46:=by kernel_rfl
def c47:AFunc:=⟨107,[.cell 4 4 true],qR [oO 2 (.box (.t 0)),oO 4 (.alloc [oZ,oZ,oS,oN])] (.seq (qR [oF 11 0 2,oL 12 1 11,oO 13 (.call 63 [.t 12,nI 4])] (.block 0 (qR [oO 15 (.bin .eql (.t 13) (nI 0)),oM 14 15] (.cond (.t 14) (qR [oF 16 1 2,oL 17 1 16,oO 18 (.call 63 [.t 17,nI 4294967295]),oO 19 (.bin .sub (.t 18) (nI 2147483647)),oM 5 19] (qR [oM 20 5,oO 21 (.build [oZ,oZ,oS,oN] [(0,1,nI 1),(1,1,.t 20)]),oU (.store 4 (.t 4) (.t 21))] .ret)) (qR [oO 23 (.bin .eql (.t 13) (nI 1)),oM 22 23] (.cond (.t 22) (qR [oF 24 2 2,oL 25 1 24,oF 26 2 2,oL 27 1 26,oO 28 (.len true (.t 27)),oO 29 (.min2 (.t 28) (nI 32)),oO 30 (.strSl (.t 25) none (some (.t 29))),oO 31 (.s2b (.t 30)),oM 6 31] (.seq (qR [oO 7 (.mv (nI 0))] (.block 1 (.loop (.seq (qR [oM 32 7,oM 33 6,oO 34 (.len false (.t 33)),oO 35 (.bin .lss (.t 32) (.t 34))] (.cond (.t 35) .skip (.exit 1))) (.seq (.block 2 (qR [oM 38 6,oM 39 7,oM 40 6,oM 41 7,oO 42 (.iaddrS 1 (.t 40) (.t 41)),oL 43 1 42,oO 44 (.bin .rem (.t 43) (.c (.int .u8 95))),oO 45 (.bin .add (.c (.int .u8 32)) (.t 44)),oO 46 (.iaddrS 1 (.t 38) (.t 39)),oU (.store 1 (.t 46) (.t 45))] (qR [oM 47 6,oM 48 7,oO 49 (.iaddrS 1 (.t 47) (.t 48)),oL 50 1 49,oO 51 (.bin .eql (.t 50) (.c (.int .u8 34))),oM 52 51,oG 53 (.mv (.t 6)) 52 false,oG 54 (.mv (.t 7)) 52 false,oG 55 (.iaddrS 1 (.t 53) (.t 54)) 52 false,oG 56 (.load 1 false (.t 55)) 52 false,oG 57 (.bin .eql (.t 56) (.c (.int .u8 92))) 52 false,oO 58 (.pick (.t 52) (.c (.bool true)) (.t 57))] (.cond (.t 58) (.region [oM 59 6,oM 60 7,oO 61 (.iaddrS 1 (.t 59) (.t 60)),oU (.store 1 (.t 61) (.c (.int .u8 32)))]) .skip)))) (.region [oM 36 7,oO 37 (.bin .add (.t 36) (nI 1)),oM 7 37])))))) (qR [oM 62 6,oO 63 (.b2s (.t 62)),oO 64 (.build [oZ,oZ,oS,oN] [(0,1,nI 2),(2,1,.t 63)]),oU (.store 4 (.t 4) (.t 64))] .ret))) (qR [oO 66 (.bin .eql (.t 13) (nI 2)),oM 65 66] (.cond (.t 65) (qR [oF 67 2 2,oL 68 1 67,oO 69 (.call 64 [.t 68]),oO 70 (.build [oZ,oZ,oS,oN] [(0,1,nI 3),(2,1,.t 69)]),oU (.store 4 (.t 4) (.t 70))] .ret) .skip)))))))) (qR [oO 71 (.build [oZ,oZ,oS,oN] [(0,1,nI 4)]),oO 8 (.alloc [oZ,oZ,oS,oN]),oU (.store 4 (.t 8) (.t 71))] (.seq (qR [oO 9 (.mv (nI 0))] (.block 3 (.loop (.seq (qR [oM 72 9,oF 73 3 2,oL 74 1 73,oO 75 (.len false (.t 74)),oO 76 (.bin .lss (.t 72) (.t 75)),oM 77 76,oG 78 (.mv (.t 9)) 77 true,oG 79 (.bin .lss (.t 78) (nI 16)) 77 true,oO 80 (.pick (.t 77) (.t 79) (.c (.bool false)))] (.cond (.t 80) .skip (.exit 3))) (.seq (.block 4 (qR [oF 83 3 2,oL 84 1 83,oM 85 9,oO 86 (.iaddrS 4 (.t 84) (.t 85)),oR 87 4 86,oO 10 (.alloc [oZ,oZ,oS,oN]),oU (.store 4 (.t 10) (.t 87))] (.seq (qR [oM 88 1,oO 89 (.bin .leq (.t 88) (nI 1)),oM 90 89,oG 91 (.faddr 0 (.t 10)) 90 true,oG 92 (.load 1 false (.t 91)) 90 true,oG 93 (.call 63 [.t 92,nI 4]) 90 true,oG 94 (.bin .eql (.t 93) (nI 3)) 90 true,oO 95 (.pick (.t 90) (.t 94) (.c (.bool false)))] (.cond (.t 95) (.region [oF 96 0 10,oU (.store 1 (.t 96) (nI 0))]) .skip)) (.region [oF 97 3 8,oL 98 1 97,oR 99 4 10,oM 100 1,oO 101 (.bin .sub (.t 100) (nI 1)),⟨(some 102),.call 47 [.t 99,.t 101],none,[.t 97]⟩,oO 103 (.buildSl 1 4 true [oZ,oZ,oS,oN] [(0,4,.t 102)]),oO 104 (.append 4 true 56 false (.t 98) (.t 103)),oF 105 3 8,oU (.store 1 (.t 105) (.t 104))])))) (.region [oM 81 9,oO 82 (.bin .add (.t 81) (nI 1)),oM 9 82])))))) (qR [oR 106 4 8,oU (.store 4 (.t 4) (.t 106))] .ret)))),.pure,true,true⟩
theorem k47:compF Try.prog pP Try.f47=some c47:=by kernel_rfl
def c48:AFunc:=⟨9,[.tmp 2],qR [oO 2 (.mv (.c oN))] (qR [oM 3 0,oO 4 (.call 65 [.t 3]),oM 0 4] (qR [oM 5 0,oO 6 (.call 66 [.t 5,.f 67])] (qR [oM 7 0,oO 8 (.call 69 [.t 7,.f 70]),oM 2 8] .ret))),.raw,true,false⟩
theorem k48:compF Try.prog {mt:=false,mtAt:=[],mode:=.raw,clArgs:=true,clRes:=false} Try.f48=some c48:=by kernel_rfl
def c50:AFunc:=⟨29,[.cell 2 4 true],qR [oO 1 (.box (.t 0)),oO 2 (.alloc [oZ,oZ,oS,oN])] (.seq (qR [oF 5 3 1,oL 6 1 5,oO 7 (.len false (.t 6)),oO 8 (.bin .gtr (.t 7) (nI 0))] (.cond (.t 8) (qR [oF 9 3 1,oL 10 1 9,oO 11 (.call 49 [.t 10]),oF 12 3 1,oU (.store 1 (.t 12) (.t 11))] (qR [oF 13 3 1,oL 14 1 13,oO 15 (.len false (.t 14)),oO 16 (.mv (nI 0))] (.block 0 (.loop (qR [oO 17 (.bin .lss (.t 16) (.t 15))] (.seq (.cond (.t 17) .skip (.exit 0)) (.seq (.block 1 (qR [oM 18 16,oO 19 (.iaddrS 4 (.t 14) (.t 16)),oR 20 4 19,oO 4 (.alloc [oZ,oZ,oS,oN]),oM 3 18,oU (.store 4 (.t 4) (.t 20))] (.region [oF 21 3 1,oL 22 1 21,oM 23 3,oR 24 4 4,⟨(some 25),.call 50 [.t 24],none,[.t 21]⟩,oO 26 (.iaddrS 4 (.t 22) (.t 23)),oU (.store 4 (.t 26) (.t 25))]))) (.region [oO 27 (.bin .add (.t 16) (nI 1)),oM 16 27])))))))) .skip)) (qR [oR 28 4 1,oU (.store 4 (.t 2) (.t 28))] .ret)),.pure,true,true⟩
theorem k50:compF Try.prog pP Try.f50=some c50:=by kernel_rfl
def c51:AFunc:=⟨38,[.tmp 4],qR [oO 4 (.mv (.c oS))] (.seq (qR [oM 6 0,oO 7 (.nilck (.t 6)),oF 8 1 7,oL 9 1 8,oM 10 9,oG 11 (.mv (.t 1)) 10 false,oG 12 (.mv (.t 0)) 10 false,oG 13 (.nilck (.t 12)) 10 false,oG 14 (.faddr 0 (.t 13)) 10 false,oG 15 (.load 1 false (.t 14)) 10 false,oG 16 (.len true (.t 15)) 10 false,oG 17 (.bin .gtr (.t 11) (.t 16)) 10 false,oO 18 (.pick (.t 10) (.c (.bool true)) (.t 17))] (.cond (.t 18) (qR [oM 19 0,oO 20 (.nilck (.t 19)),oF 21 1 20,oU (.store 1 (.t 21) (.c (.bool true)))] (qR [oO 4 (.mv (.c oS))] .ret)) .skip)) (qR [oM 22 0,oO 23 (.nilck (.t 22)),oF 24 0 23,oL 25 1 24,oM 26 1,oO 27 (.strSl (.t 25) none (some (.t 26))),oM 5 27] (qR [oM 28 0,oM 29 0,oO 30 (.nilck (.t 29)),oF 31 0 30,oL 32 1 31,oM 33 1,oO 34 (.strSl (.t 32) (some (.t 33)) none),oO 35 (.nilck (.t 28)),oF 36 0 35,oU (.store 1 (.t 36) (.t 34))] (qR [oM 37 5,oM 4 37] .ret)))),.gc,false,true⟩
theorem k51:compF Try.prog {mt:=false,mtAt:=[],mode:=.gc,clArgs:=false,clRes:=true} Try.f51=some c51:=by kernel_rfl
def c52:AFunc:=⟨60,[.cell 4 4 true],qR [oO 4 (.alloc [oZ,oZ,oS,oN])] (qR [oM 6 0,oO 7 (.call 32 [.t 6,nI 1]),oF 8 0 4,oU (.store 1 (.t 8) (.t 7))] (.seq (qR [oF 9 0 4,oL 10 1 9] (.block 0 (qR [oO 15 (.bin .eql (.t 10) (nI 1)),oM 14 15] (.cond (.t 14) (.region [oM 16 0,oO 17 (.call 32 [.t 16,nI 8]),oF 18 1 4,oU (.store 1 (.t 18) (.t 17))]) (.seq (qR [oO 20 (.bin .eql (.t 10) (nI 2)),oM 19 20] (.cond (.t 19) .skip (.region [oO 21 (.bin .eql (.t 10) (nI 3)),oM 19 21]))) (.cond (.t 19) (.region [oM 22 0,oO 23 (.call 31 [.t 22]),oF 24 2 4,oU (.store 1 (.t 24) (.t 23))]) (qR [oO 26 (.bin .eql (.t 10) (nI 4)),oM 25 26] (.cond (.t 25) (qR [oM 27 0,oO 28 (.call 32 [.t 27,nI 1]),oM 5 28] (qR [oM 29 0,oM 30 0,oO 31 (.nilck (.t 30)),oF 32 1 31,oL 33 1 32,oM 34 33,oG 35 (.mv (.t 1)) 34 false,oG 36 (.bin .eql (.t 35) (nI 0)) 34 false,oO 37 (.pick (.t 34) (.c (.bool true)) (.t 36)),oO 38 (.nilck (.t 29)),oF 39 1 38,oU (.store 1 (.t 39) (.t 37))] (.block 1 (.loop (.seq (qR [oM 40 5,oO 41 (.bin .gtr (.t 40) (nI 0)),oM 42 41,oG 43 (.mv (.t 0)) 42 true,oG 44 (.nilck (.t 43)) 42 true,oG 45 (.faddr 1 (.t 44)) 42 true,oG 46 (.load 1 false (.t 45)) 42 true,oG 47 (.un .not (.t 46)) 42 true,oO 48 (.pick (.t 42) (.t 47) (.c (.bool false)))] (.cond (.t 48) .skip (.exit 1))) (.seq (.block 2 (.region [oF 51 3 4,oL 52 1 51,oM 53 0,oM 54 1,oO 55 (.bin .sub (.t 54) (nI 1)),⟨(some 56),.call 52 [.t 53,.t 55],none,[.t 51]⟩,oO 57 (.buildSl 1 4 true [oZ,oZ,oS,oN] [(0,4,.t 56)]),oO 58 (.append 4 true 56 false (.t 52) (.t 57)),oF 59 3 4,oU (.store 1 (.t 59) (.t 58))])) (.region [oM 49 5,oO 50 (.bin .sub (.t 49) (nI 1)),oM 5 50]))))))) (.region [oM 11 0,oO 12 (.nilck (.t 11)),oF 13 1 12,oU (.store 1 (.t 13) (.c (.bool true)))]))))))))) .ret)),.gc,false,true⟩
theorem k52:compF Try.prog {mt:=false,mtAt:=[],mode:=.gc,clArgs:=false,clRes:=true} Try.f52=some c52:=by kernel_rfl
def c53:AFunc:=⟨50,[.tmp 4],qR [oO 4 (.mv (.c oS))] (.seq (qR [oM 5 0,oO 6 (.nilck (.t 5)),oF 7 2 6,oL 8 1 7,oM 9 8,oG 10 (.mv (.t 1)) 9 false,oG 11 (.mv (.t 0)) 9 false,oG 12 (.nilck (.t 11)) 9 false,oG 13 (.faddr 0 (.t 12)) 9 false,oG 14 (.load 1 false (.t 13)) 9 false,oG 15 (.len true (.t 14)) 9 false,oG 16 (.mv (.t 0)) 9 false,oG 17 (.nilck (.t 16)) 9 false,oG 18 (.faddr 1 (.t 17)) 9 false,oG 19 (.load 1 false (.t 18)) 9 false,oG 20 (.bin .sub (.t 15) (.t 19)) 9 false,oG 21 (.bin .gtr (.t 10) (.t 20)) 9 false,oO 22 (.pick (.t 9) (.c (.bool true)) (.t 21))] (.cond (.t 22) (qR [oM 23 0,oO 24 (.nilck (.t 23)),oF 25 2 24,oU (.store 1 (.t 25) (.c (.bool true)))] (qR [oO 4 (.mv (.c oS))] .ret)) .skip)) (qR [oM 26 0,oM 27 0,oO 28 (.nilck (.t 27)),oF 29 1 28,oL 30 1 29,oM 31 1,oO 32 (.bin .add (.t 30) (.t 31)),oO 33 (.nilck (.t 26)),oF 34 1 33,oU (.store 1 (.t 34) (.t 32))] (qR [oM 35 0,oO 36 (.nilck (.t 35)),oF 37 0 36,oL 38 1 37,oM 39 0,oO 40 (.nilck (.t 39)),oF 41 1 40,oL 42 1 41,oM 43 1,oO 44 (.bin .sub (.t 42) (.t 43)),oM 45 0,oO 46 (.nilck (.t 45)),oF 47 1 46,oL 48 1 47,oO 49 (.strSl (.t 38) (some (.t 44)) (some (.t 48))),oM 4 49] .ret))),.gc,false,true⟩
theorem k53:compF Try.prog {mt:=false,mtAt:=[],mode:=.gc,clArgs:=false,clRes:=true} Try.f53=some c53:=by kernel_rfl
def c54:AFunc:=⟨29,[.tmp 4],qR [oO 4 (.mv (.c (.bool false)))] (.seq (qR [oM 7 0,oO 8 (.len false (.t 7)),oM 9 1,oO 10 (.len false (.t 9)),oO 11 (.bin .neq (.t 8) (.t 10))] (.cond (.t 11) (qR [oO 4 (.mv (.c (.bool false)))] .ret) .skip)) (.seq (qR [oO 5 (.mv (nI 0))] (.block 0 (.loop (.seq (qR [oM 12 5,oM 13 0,oO 14 (.len false (.t 13)),oO 15 (.bin .lss (.t 12) (.t 14))] (.cond (.t 15) .skip (.exit 0))) (.seq (.block 1 (qR [oM 18 0,oM 19 5,oO 20 (.iaddrS 4 (.t 18) (.t 19)),oR 21 4 20,oM 22 1,oM 23 5,oO 24 (.iaddrS 4 (.t 22) (.t 23)),oR 25 4 24,oO 26 (.call 71 [.t 21,.t 25]),oM 6 26] (qR [oM 27 6,oO 28 (.un .not (.t 27))] (.cond (.t 28) (qR [oO 4 (.mv (.c (.bool false)))] .ret) .skip)))) (.region [oM 16 5,oO 17 (.bin .add (.t 16) (nI 1)),oM 5 17])))))) (qR [oO 4 (.mv (.c (.bool true)))] .ret))),.pure,true,true⟩
theorem k54:compF Try.prog pP Try.f54=some c54:=by kernel_rfl
def c55:AFunc:=⟨5,[.tmp 2],qR [oO 1 (.box (.t 0)),oO 2 (.mv (.c (.bool false)))] (qR [oR 3 4 1,oO 4 (.call 72 [.t 3,nI 4]),oM 2 4] .ret),.pure,true,true⟩
theorem k55:compF Try.prog pP Try.f55=some c55:=by kernel_rfl
def c56:AFunc:=⟨8,[.tmp 4],qR [oO 4 (.mv (nI 0))] (qR [oM 5 0,oM 6 1,oO 7 (.call 73 [.t 5,.t 6]),oM 4 7] .ret),.pure,true,true⟩
theorem k56:compF Try.prog pP Try.f56=some c56:=by kernel_rfl
def c57:AFunc:=⟨39,[.tmp 6],qR [oO 6 (.mv (nI 0))] (.seq (qR [oM 11 0,oO 12 (.len false (.t 11)),oO 13 (.mv (nI 0))] (.block 0 (.loop (qR [oO 14 (.bin .lss (.t 13) (.t 12))] (.seq (.cond (.t 14) .skip (.exit 0)) (.seq (.block 1 (qR [oM 15 13,oO 16 (.iaddrS 4 (.t 11) (.t 13)),oR 17 4 16,oO 8 (.alloc [oZ,oZ,oS,oN]),oM 7 15,oU (.store 4 (.t 8) (.t 17))] (.seq (qR [oM 18 7,oM 19 1,oO 20 (.len false (.t 19)),oO 21 (.bin .geq (.t 18) (.t 20))] (.cond (.t 21) (qR [oO 6 (.mv (nI 1))] .ret) .skip)) (qR [oM 22 1,oM 23 7,oO 24 (.iaddrS 4 (.t 22) (.t 23)),oR 25 4 24,oO 9 (.alloc [oZ,oZ,oS,oN]),oU (.store 4 (.t 9) (.t 25))] (qR [oM 26 2,oR 27 4 8,oR 28 4 9,oO 29 (.callv (.t 26) [.t 27,.t 28]),oM 10 29] (qR [oM 30 10,oO 31 (.bin .neq (.t 30) (nI 0))] (.cond (.t 31) (qR [oM 32 10,oM 6 32] .ret) .skip))))))) (.region [oO 33 (.bin .add (.t 13) (nI 1)),oM 13 33]))))))) (.seq (qR [oM 34 0,oO 35 (.len false (.t 34)),oM 36 1,oO 37 (.len false (.t 36)),oO 38 (.bin .lss (.t 35) (.t 37))] (.cond (.t 38) (qR [oO 6 (.mv (nI (-1)))] .ret) .skip)) (qR [oO 6 (.mv (nI 0))] .ret))),.pure,true,true⟩
theorem k57:compF Try.prog pP Try.f57=some c57:=by kernel_rfl
def c58:AFunc:=⟨38,[.tmp 4],qR [oO 2 (.box (.t 0)),oO 3 (.box (.t 1)),oO 4 (.mv (nI 0))] (.seq (qR [oF 6 0 2,oL 7 1 6,oF 8 0 3,oL 9 1 8,oO 10 (.call 68 [.t 7,.t 9]),oM 5 10] (qR [oM 11 5,oO 12 (.bin .neq (.t 11) (nI 0))] (.cond (.t 12) (qR [oM 13 5,oM 4 13] .ret) .skip))) (.seq (qR [oF 14 0 2,oL 15 1 14] (.block 0 (qR [oO 17 (.bin .eql (.t 15) (nI 1)),oM 16 17] (.cond (.t 16) (qR [oF 18 1 2,oL 19 1 18,oF 20 1 3,oL 21 1 20,oO 22 (.call 68 [.t 19,.t 21]),oM 4 22] .ret) (.seq (qR [oO 24 (.bin .eql (.t 15) (nI 2)),oM 23 24] (.cond (.t 23) .skip (.region [oO 25 (.bin .eql (.t 15) (nI 3)),oM 23 25]))) (.cond (.t 23) (qR [oF 26 2 2,oL 27 1 26,oF 28 2 3,oL 29 1 28,oO 30 (.call 56 [.t 27,.t 29]),oM 4 30] .ret) (qR [oO 32 (.bin .eql (.t 15) (nI 4)),oM 31 32] (.cond (.t 31) (qR [oF 33 3 2,oL 34 1 33,oF 35 3 3,oL 36 1 35,oO 37 (.call 57 [.t 34,.t 36,.f 58]),oM 4 37] .ret) .skip)))))))) (qR [oO 4 (.mv (nI 0))] .ret))),.pure,true,true⟩
theorem k58:compF Try.prog pP Try.f58=some c58:=by kernel_rfl
def c59:AFunc:=⟨92,[.tmp 4],qR [oO 2 (.box (.t 0)),oO 3 (.box (.t 1)),oO 4 (.mv (nI 0))] (.seq (qR [oF 7 0 2,oL 8 1 7,oF 9 0 3,oL 10 1 9,oO 11 (.bin .neq (.t 8) (.t 10))] (.cond (.t 11) (qR [oF 12 0 2,oL 13 1 12,oF 14 0 3,oL 15 1 14,oO 16 (.bin .lss (.t 13) (.t 15)),oO 17 (.call 74 [.t 16,.c (.bool true)]),oM 4 17] .ret) .skip)) (.seq (qR [oF 18 0 2,oL 19 1 18] (.block 0 (qR [oO 21 (.bin .eql (.t 19) (nI 1)),oM 20 21] (.cond (.t 20) (qR [oF 22 1 2,oL 23 1 22,oF 24 1 3,oL 25 1 24,oO 26 (.bin .lss (.t 23) (.t 25)),oF 27 1 2,oL 28 1 27,oF 29 1 3,oL 30 1 29,oO 31 (.bin .gtr (.t 28) (.t 30)),oO 32 (.call 74 [.t 26,.t 31]),oM 4 32] .ret) (.seq (qR [oO 34 (.bin .eql (.t 19) (nI 2)),oM 33 34] (.cond (.t 33) .skip (.region [oO 35 (.bin .eql (.t 19) (nI 3)),oM 33 35]))) (.cond (.t 33) (qR [oF 36 2 2,oL 37 1 36,oF 38 2 3,oL 39 1 38,oO 40 (.bin .lss (.t 37) (.t 39)),oF 41 2 2,oL 42 1 41,oF 43 2 3,oL 44 1 43,oO 45 (.bin .gtr (.t 42) (.t 44)),oO 46 (.call 74 [.t 40,.t 45]),oM 4 46] .ret) (qR [oO 48 (.bin .eql (.t 19) (nI 4)),oM 47 48] (.cond (.t 47) (.seq (qR [oO 5 (.mv (nI 0))] (.block 1 (.loop (.seq (qR [oM 49 5,oF 50 3 2,oL 51 1 50,oO 52 (.len false (.t 51)),oO 53 (.bin .lss (.t 49) (.t 52)),oM 54 53,oG 55 (.mv (.t 5)) 54 true,oG 56 (.faddr 3 (.t 3)) 54 true,oG 57 (.load 1 false (.t 56)) 54 true,oG 58 (.len false (.t 57)) 54 true,oG 59 (.bin .lss (.t 55) (.t 58)) 54 true,oO 60 (.pick (.t 54) (.t 59) (.c (.bool false)))] (.cond (.t 60) .skip (.exit 1))) (.seq (.block 2 (qR [oF 63 3 2,oL 64 1 63,oM 65 5,oO 66 (.iaddrS 4 (.t 64) (.t 65)),oR 67 4 66,oF 68 3 3,oL 69 1 68,oM 70 5,oO 71 (.iaddrS 4 (.t 69) (.t 70)),oR 72 4 71,oO 73 (.call 59 [.t 67,.t 72]),oM 6 73] (qR [oM 74 6,oO 75 (.bin .neq (.t 74) (nI 0))] (.cond (.t 75) (qR [oM 76 6,oM 4 76] .ret) .skip)))) (.region [oM 61 5,oO 62 (.bin .add (.t 61) (nI 1)),oM 5 62])))))) (qR [oF 77 3 2,oL 78 1 77,oO 79 (.len false (.t 78)),oF 80 3 3,oL 81 1 80,oO 82 (.len false (.t 81)),oO 83 (.bin .lss (.t 79) (.t 82)),oF 84 3 2,oL 85 1 84,oO 86 (.len false (.t 85)),oF 87 3 3,oL 88 1 87,oO 89 (.len false (.t 88)),oO 90 (.bin .gtr (.t 86) (.t 89)),oO 91 (.call 74 [.t 83,.t 90]),oM 4 91] .ret)) .skip)))))))) (qR [oO 4 (.mv (nI 0))] .ret))),.pure,true,true⟩
theorem k59:compF Try.prog pP Try.f59=some c59:=by kernel_rfl
def c60:AFunc:=⟨125,[.tmp 4],qR [oO 2 (.box (.t 0)),oO 4 (.mv (.c (.bool false)))] (.seq (qR [oF 9 0 2,oL 10 1 9,oO 11 (.bin .eql (.t 10) (nI 1))] (.cond (.t 11) (qR [oF 12 2 2,oL 13 1 12,oO 14 (.bin .eql (.t 13) (.c oS)),oM 15 14,oG 16 (.faddr 3 (.t 2)) 15 true,oG 17 (.load 1 false (.t 16)) 15 true,oG 18 (.len false (.t 17)) 15 true,oG 19 (.bin .eql (.t 18) (nI 0)) 15 true,oO 20 (.pick (.t 15) (.t 19) (.c (.bool false))),oM 21 20,oG 22 (.faddr 1 (.t 2)) 21 true,oG 23 (.load 1 false (.t 22)) 21 true,oG 24 (.bin .leq (.t 23) (nI 2147483647)) 21 true,oO 25 (.pick (.t 21) (.t 24) (.c (.bool false))),oM 26 25,oG 27 (.faddr 1 (.t 2)) 26 true,oG 28 (.load 1 false (.t 27)) 26 true,oG 29 (.bin .geq (.t 28) (nI (-2147483647))) 26 true,oO 30 (.pick (.t 26) (.t 29) (.c (.bool false))),oM 4 30] .ret) .skip)) (.seq (qR [oF 31 1 2,oL 32 1 31,oO 33 (.bin .neq (.t 32) (nI 0))] (.cond (.t 33) (qR [oO 4 (.mv (.c (.bool false)))] .ret) .skip)) (.seq (qR [oF 34 0 2,oL 35 1 34] (.block 0 (qR [oO 37 (.bin .eql (.t 35) (nI 2)),oM 36 37] (.cond (.t 36) (.seq (qR [oO 5 (.mv (nI 0))] (.block 1 (.loop (.seq (qR [oM 38 5,oF 39 2 2,oL 40 1 39,oO 41 (.len true (.t 40)),oO 42 (.bin .lss (.t 38) (.t 41))] (.cond (.t 42) .skip (.exit 1))) (.seq (.block 2 (qR [oF 45 2 2,oL 46 1 45,oM 47 5,oO 48 (.idxStr (.t 46) (.t 47)),oO 49 (.bin .lss (.t 48) (.c (.int .u8 32))),oM 50 49,oG 51 (.faddr 2 (.t 2)) 50 false,oG 52 (.load 1 false (.t 51)) 50 false,oG 53 (.mv (.t 5)) 50 false,oG 54 (.idxStr (.t 52) (.t 53)) 50 false,oG 55 (.bin .gtr (.t 54) (.c (.int .u8 126))) 50 false,oO 56 (.pick (.t 50) (.c (.bool true)) (.t 55)),oM 57 56,oG 58 (.faddr 2 (.t 2)) 57 false,oG 59 (.load 1 false (.t 58)) 57 false,oG 60 (.mv (.t 5)) 57 false,oG 61 (.idxStr (.t 59) (.t 60)) 57 false,oG 62 (.bin .eql (.t 61) (.c (.int .u8 34))) 57 false,oO 63 (.pick (.t 57) (.c (.bool true)) (.t 62)),oM 64 63,oG 65 (.faddr 2 (.t 2)) 64 false,oG 66 (.load 1 false (.t 65)) 64 false,oG 67 (.mv (.t 5)) 64 false,oG 68 (.idxStr (.t 66) (.t 67)) 64 false,oG 69 (.bin .eql (.t 68) (.c (.int .u8 92))) 64 false,oO 70 (.pick (.t 64) (.c (.bool true)) (.t 69))] (.cond (.t 70) (qR [oO 4 (.mv (.c (.bool false)))] .ret) .skip))) (.region [oM 43 5,oO 44 (.bin .add (.t 43) (nI 1)),oM 5 44])))))) (qR [oF 71 2 2,oL 72 1 71,oO 73 (.len true (.t 72)),oO 74 (.bin .leq (.t 73) (nI 32)),oM 75 74,oG 76 (.faddr 3 (.t 2)) 75 true,oG 77 (.load 1 false (.t 76)) 75 true,oG 78 (.len false (.t 77)) 75 true,oG 79 (.bin .eql (.t 78) (nI 0)) 75 true,oO 80 (.pick (.t 75) (.t 79) (.c (.bool false))),oM 4 80] .ret)) (qR [oO 82 (.bin .eql (.t 35) (nI 3)),oM 81 82] (.cond (.t 81) (qR [oF 83 2 2,oL 84 1 83,oO 85 (.call 42 [.t 84]),oM 6 85] (qR [oM 86 6,oM 87 86,oG 88 (.faddr 3 (.t 2)) 87 true,oG 89 (.load 1 false (.t 88)) 87 true,oG 90 (.len false (.t 89)) 87 true,oG 91 (.bin .eql (.t 90) (nI 0)) 87 true,oO 92 (.pick (.t 87) (.t 91) (.c (.bool false))),oM 4 92] .ret)) (qR [oO 94 (.bin .eql (.t 35) (nI 4)),oM 93 94] (.cond (.t 93) (.seq (qR [oF 95 2 2,oL 96 1 95,oO 97 (.bin .neq (.t 96) (.c oS)),oM 98 97,oG 99 (.faddr 3 (.t 2)) 98 false,oG 100 (.load 1 false (.t 99)) 98 false,oG 101 (.len false (.t 100)) 98 false,oG 102 (.bin .gtr (.t 101) (nI 16)) 98 false,oO 103 (.pick (.t 98) (.c (.bool true)) (.t 102)),oM 104 103,oG 105 (.mv (.t 1)) 104 false,oG 106 (.bin .lss (.t 105) (nI 1)) 104 false,oO 107 (.pick (.t 104) (.c (.bool true)) (.t 106))] (.cond (.t 107) (qR [oO 4 (.mv (.c (.bool false)))] .ret) .skip)) (.seq (qR [oO 7 (.mv (nI 0))] (.block 3 (.loop (.seq (qR [oM 108 7,oF 109 3 2,oL 110 1 109,oO 111 (.len false (.t 110)),oO 112 (.bin .lss (.t 108) (.t 111))] (.cond (.t 112) .skip (.exit 3))) (.seq (.block 4 (qR [oF 115 3 2,oL 116 1 115,oM 117 7,oO 118 (.iaddrS 4 (.t 116) (.t 117)),oR 119 4 118,oM 120 1,oO 121 (.bin .sub (.t 120) (nI 1)),oO 122 (.call 60 [.t 119,.t 121]),oM 8 122] (qR [oM 123 8,oO 124 (.un .not (.t 123))] (.cond (.t 124) (qR [oO 4 (.mv (.c (.bool false)))] .ret) .skip)))) (.region [oM 113 7,oO 114 (.bin .add (.t 113) (nI 1)),oM 7 114])))))) (qR [oO 4 (.mv (.c (.bool true)))] .ret))) .skip)))))))) (qR [oO 4 (.mv (.c (.bool false)))] .ret)))),.pure,true,true⟩
theorem k60:compF Try.prog pP Try.f60=some c60:=by kernel_rfl
def c61:AFunc:=⟨8,[.tmp 0],qR [oO 0 (.mv (.c oN))] (qR [oO 1 (.build [oS,oZ] [(0,1,.c (.str ⟨#[108,105,110,107]⟩)),(1,1,nI 3)]),oO 2 (.build [oS,oZ] [(0,1,.c (.str ⟨#[112]⟩)),(1,1,nI 2)]),oO 3 (.build [oS,oZ] [(0,1,.c (.str ⟨#[113]⟩)),(1,1,nI 2)]),oO 4 (.build [oS,oZ] [(0,1,.c (.str ⟨#[114]⟩)),(1,1,nI 1)]),oO 5 (.build [oS,oZ] [(0,1,.c (.str ⟨#[115]⟩)),(1,1,nI 3)]),oO 6 (.build [oS,oZ] [(0,1,.c (.str ⟨#[116]⟩)),(1,1,nI 2)]),oO 7 (.buildSl 6 2 true [oS,oZ,oS,oZ,oS,oZ,oS,oZ,oS,oZ,oS,oZ] [(0,2,.t 1),(2,2,.t 2),(4,2,.t 3),(6,2,.t 4),(8,2,.t 5),(10,2,.t 6)]),oM 0 7] .ret),.pure,true,true⟩
theorem k61:compF Try.prog pP Try.f61=some c61:=by kernel_rfl
def c62:AFunc:=⟨13,[.tmp 4],qR [oO 4 (.mv (nI 0))] (.seq (qR [oM 5 0,oO 6 (.bin .lss (.t 5) (nI 0))] (.cond (.t 6) (.region [oM 7 0,oO 8 (.bin .add (.t 7) (nI 1)),oO 9 (.un .neg (.t 8)),oM 0 9]) .skip)) (qR [oM 10 0,oM 11 1,oO 12 (.bin .rem (.t 10) (.t 11)),oM 4 12] .ret)),.pure,true,true⟩
theorem k62:compF Try.prog pP Try.f62=some c62:=by kernel_rfl
def c63:AFunc:=⟨13,[.tmp 4],qR [oO 4 (.mv (nI 0))] (.seq (qR [oM 5 0,oO 6 (.bin .lss (.t 5) (nI 0))] (.cond (.t 6) (.region [oM 7 0,oO 8 (.bin .add (.t 7) (nI 1)),oO 9 (.un .neg (.t 8)),oM 0 9]) .skip)) (qR [oM 10 0,oM 11 1,oO 12 (.bin .rem (.t 10) (.t 11)),oM 4 12] .ret)),.pure,true,true⟩
theorem k63:compF Try.prog pP Try.f63=some c63:=by kernel_rfl
def c64:AFunc:=⟨44,[.tmp 2],qR [oO 2 (.mv (.c oS))] (qR [oM 6 0,oM 7 0,oO 8 (.len true (.t 7)),oO 9 (.min2 (.t 8) (nI 15)),oO 10 (.strSl (.t 6) none (some (.t 9))),oO 11 (.bin .add (.c (.str ⟨#[110]⟩)) (.t 10)),oO 12 (.s2b (.t 11)),oM 3 12] (.seq (qR [oO 4 (.mv (nI 1))] (.block 0 (.loop (.seq (qR [oM 13 4,oM 14 3,oO 15 (.len false (.t 14)),oO 16 (.bin .lss (.t 13) (.t 15))] (.cond (.t 16) .skip (.exit 0))) (.seq (.block 1 (qR [oM 19 3,oM 20 4,oO 21 (.iaddrS 1 (.t 19) (.t 20)),oL 22 1 21,oO 23 (.bin .rem (.t 22) (.c (.int .u8 37))),oM 5 23] (qR [oM 24 5,oO 25 (.bin .lss (.t 24) (.c (.int .u8 26)))] (.cond (.t 25) (.region [oM 26 3,oM 27 4,oM 28 5,oO 29 (.bin .add (.c (.int .u8 97)) (.t 28)),oO 30 (.iaddrS 1 (.t 26) (.t 27)),oU (.store 1 (.t 30) (.t 29))]) (qR [oM 31 5,oO 32 (.bin .lss (.t 31) (.c (.int .u8 36)))] (.cond (.t 32) (.region [oM 33 3,oM 34 4,oM 35 5,oO 36 (.bin .add (.c (.int .u8 48)) (.t 35)),oO 37 (.bin .sub (.t 36) (.c (.int .u8 26))),oO 38 (.iaddrS 1 (.t 33) (.t 34)),oU (.store 1 (.t 38) (.t 37))]) (.region [oM 39 3,oM 40 4,oO 41 (.iaddrS 1 (.t 39) (.t 40)),oU (.store 1 (.t 41) (.c (.int .u8 95)))]))))))) (.region [oM 17 4,oO 18 (.bin .add (.t 17) (nI 1)),oM 4 18])))))) (qR [oM 42 3,oO 43 (.b2s (.t 42)),oM 2 43] .ret))),.pure,true,true⟩
theorem k64:compF Try.prog pP Try.f64=some c64:=by kernel_rfl
def c66:AFunc:=⟨9,[],.region [oM 4 0,oM 5 0,oO 6 (.len false (.t 5)),oM 7 1,oO 8 (.call 75 [.t 4,.t 6,.t 7])],.gc,false,false⟩
theorem k66:compF Try.prog pG Try.f66=some c66:=by kernel_rfl
def c67:AFunc:=⟨17,[.tmp 4],qR [oO 2 (.box (.t 0)),oO 3 (.box (.t 1)),oO 4 (.mv (nI 0))] (.seq (qR [oR 6 3 2,oR 7 3 3,oO 8 (.call 41 [.t 6,.t 7]),oM 5 8] (qR [oM 9 5,oO 10 (.bin .neq (.t 9) (nI 0))] (.cond (.t 10) (qR [oM 11 5,oM 4 11] .ret) .skip))) (qR [oF 12 2 3,oL 13 1 12,oF 14 2 2,oL 15 1 14,oO 16 (.call 68 [.t 13,.t 15]),oM 4 16] .ret)),.pure,true,true⟩
theorem k67:compF Try.prog pP Try.f67=some c67:=by kernel_rfl
def c68:AFunc:=⟨20,[.tmp 4],qR [oO 4 (.mv (nI 0))] (qR [oM 7 0,oO 8 (.call 76 [.t 7]),oM 5 8] (qR [oM 9 1,oO 10 (.call 76 [.t 9]),oM 6 10] (.seq (qR [oM 11 5] (.cond (.t 11) (.seq (qR [oM 12 6] (.cond (.t 12) (qR [oO 4 (.mv (nI 0))] .ret) .skip)) (qR [oO 4 (.mv (nI (-1)))] .ret)) .skip)) (.seq (qR [oM 13 6] (.cond (.t 13) (qR [oO 4 (.mv (nI 1))] .ret) .skip)) (.seq (qR [oM 14 0,oM 15 1,oO 16 (.bin .lss (.t 14) (.t 15))] (.cond (.t 16) (qR [oO 4 (.mv (nI (-1)))] .ret) .skip)) (.seq (qR [oM 17 0,oM 18 1,oO 19 (.bin .gtr (.t 17) (.t 18))] (.cond (.t 19) (qR [oO 4 (.mv (nI 1))] .ret) .skip)) (qR [oO 4 (.mv (nI 0))] .ret))))))),.pure,true,true⟩
theorem k68:compF Try.prog pP Try.f68=some c68:=by kernel_rfl
def c69:AFunc:=⟨66,[.tmp 4],qR [oO 4 (.mv (.c oN))] (.seq (qR [oM 8 0,oO 9 (.len false (.t 8)),oO 10 (.bin .lss (.t 9) (nI 2))] (.cond (.t 10) (qR [oM 11 0,oM 4 11] .ret) .skip)) (.seq (qR [oO 5 (.mv (nI 1))] (.block 0 (.loop (.seq (qR [oM 12 5,oM 13 0,oO 14 (.len false (.t 13)),oO 15 (.bin .lss (.t 12) (.t 14))] (.cond (.t 15) .skip (.exit 0))) (.seq (.block 1 (qR [oM 18 1,oM 19 0,oM 20 5,oO 21 (.iaddrS 3 (.t 19) (.t 20)),oR 22 3 21,oM 23 0,oM 24 5,oO 25 (.bin .sub (.t 24) (nI 1)),oO 26 (.iaddrS 3 (.t 23) (.t 25)),oR 27 3 26,oO 28 (.callv (.t 18) [.t 22,.t 27])] (.cond (.t 28) (qR [oM 29 0,oM 30 5,oO 31 (.slSl 3 (.t 29) (some (.t 30)) none),oM 6 31] (.seq (qR [oO 7 (.mv (nI 1))] (.block 2 (.loop (.seq (qR [oM 32 7,oM 33 6,oO 34 (.len false (.t 33)),oO 35 (.bin .lss (.t 32) (.t 34))] (.cond (.t 35) .skip (.exit 2))) (.seq (.block 3 (qR [oM 38 1,oM 39 6,oM 40 7,oO 41 (.iaddrS 3 (.t 39) (.t 40)),oR 42 3 41,oM 43 6,oM 44 7,oO 45 (.bin .sub (.t 44) (nI 1)),oO 46 (.iaddrS 3 (.t 43) (.t 45)),oR 47 3 46,oO 48 (.callv (.t 38) [.t 42,.t 47]),oO 49 (.un .not (.t 48))] (.cond (.t 49) (qR [oM 50 0,oM 51 5,oM 52 6,oM 53 7,oO 54 (.iaddrS 3 (.t 52) (.t 53)),oR 55 3 54,oO 56 (.iaddrS 3 (.t 50) (.t 51)),oU (.store 3 (.t 56) (.t 55))] (.region [oM 57 5,oO 58 (.bin .add (.t 57) (nI 1)),oM 5 58])) .skip))) (.region [oM 36 7,oO 37 (.bin .add (.t 36) (nI 1)),oM 7 37])))))) (qR [oM 59 0,oM 60 5,oO 61 (.slSl 3 (.t 59) (some (.t 60)) none),oU (.clear 3 [oS,oN,oZ] (.t 61))] (qR [oM 62 0,oM 63 5,oO 64 (.slSl 3 (.t 62) none (some (.t 63))),oM 4 64] .ret)))) .skip))) (.region [oM 16 5,oO 17 (.bin .add (.t 16) (nI 1)),oM 5 17])))))) (qR [oM 65 0,oM 4 65] .ret))),.gc,false,false⟩
theorem k69:compF Try.prog pG Try.f69=some c69:=by kernel_rfl
def c70:AFunc:=⟨9,[.tmp 4],qR [oO 2 (.box (.t 0)),oO 3 (.box (.t 1)),oO 4 (.mv (.c (.bool false)))] (qR [oR 5 3 2,oR 6 3 3,oO 7 (.call 41 [.t 5,.t 6]),oO 8 (.bin .eql (.t 7) (nI 0)),oM 4 8] .ret),.pure,true,true⟩
theorem k70:compF Try.prog pP Try.f70=some c70:=by kernel_rfl
def c71:AFunc:=⟨31,[.tmp 4],qR [oO 2 (.box (.t 0)),oO 3 (.box (.t 1)),oO 4 (.mv (.c (.bool false)))] (qR [oF 5 0 2,oL 6 1 5,oF 7 0 3,oL 8 1 7,oO 9 (.bin .eql (.t 6) (.t 8)),oM 10 9,oG 11 (.faddr 1 (.t 2)) 10 true,oG 12 (.load 1 false (.t 11)) 10 true,oG 13 (.faddr 1 (.t 3)) 10 true,oG 14 (.load 1 false (.t 13)) 10 true,oG 15 (.bin .eql (.t 12) (.t 14)) 10 true,oO 16 (.pick (.t 10) (.t 15) (.c (.bool false))),oM 17 16,oG 18 (.faddr 2 (.t 2)) 17 true,oG 19 (.load 1 false (.t 18)) 17 true,oG 20 (.faddr 2 (.t 3)) 17 true,oG 21 (.load 1 false (.t 20)) 17 true,oG 22 (.bin .eql (.t 19) (.t 21)) 17 true,oO 23 (.pick (.t 17) (.t 22) (.c (.bool false))),oM 24 23,oG 25 (.faddr 3 (.t 2)) 24 true,oG 26 (.load 1 false (.t 25)) 24 true,oG 27 (.faddr 3 (.t 3)) 24 true,oG 28 (.load 1 false (.t 27)) 24 true,oG 29 (.call 54 [.t 26,.t 28]) 24 true,oO 30 (.pick (.t 24) (.t 29) (.c (.bool false))),oM 4 30] .ret),.pure,true,true⟩
theorem k71:compF Try.prog pP Try.f71=some c71:=by kernel_rfl
def c72:AFunc:=⟨67,[.tmp 4],qR [oO 2 (.box (.t 0)),oO 3 (.box (.t 1)),oO 4 (.mv (.c (.bool false)))] (qR [oR 6 4 2,oO 5 (.alloc [oZ,oZ,oS,oN]),oU (.store 4 (.t 5) (.t 6))] (qR [oF 7 0 5,oU (.store 1 (.t 7) (nI 0))] (.seq (qR [oF 8 0 2,oL 9 1 8] (.block 0 (qR [oO 11 (.bin .eql (.t 9) (nI 1)),oM 10 11] (.cond (.t 10) (qR [oF 12 1 5,oU (.store 1 (.t 12) (nI 0))] (qR [oR 13 4 5,oO 14 (.call 77 [.t 13]),oM 15 14,oG 16 (.faddr 1 (.t 2)) 15 true,oG 17 (.load 1 false (.t 16)) 15 true,oG 18 (.bin .leq (.t 17) (nI 2147483647)) 15 true,oO 19 (.pick (.t 15) (.t 18) (.c (.bool false))),oM 20 19,oG 21 (.faddr 1 (.t 2)) 20 true,oG 22 (.load 1 false (.t 21)) 20 true,oG 23 (.bin .geq (.t 22) (nI (-2147483647))) 20 true,oO 24 (.pick (.t 20) (.t 23) (.c (.bool false))),oM 4 24] .ret)) (qR [oO 26 (.bin .eql (.t 9) (nI 2)),oM 25 26] (.cond (.t 25) (qR [oF 27 2 5,oU (.store 1 (.t 27) (.c oS))] (qR [oR 28 4 5,oO 29 (.call 77 [.t 28]),oM 30 29,oG 31 (.faddr 2 (.t 2)) 30 true,oG 32 (.load 1 false (.t 31)) 30 true,oG 33 (.call 78 [.t 32]) 30 true,oO 34 (.pick (.t 30) (.t 33) (.c (.bool false))),oM 4 34] .ret)) (qR [oO 36 (.bin .eql (.t 9) (nI 3)),oM 35 36] (.cond (.t 35) (qR [oF 37 2 5,oU (.store 1 (.t 37) (.c oS))] (qR [oR 38 4 5,oO 39 (.call 77 [.t 38]),oM 40 39,oG 41 (.faddr 2 (.t 2)) 40 true,oG 42 (.load 1 false (.t 41)) 40 true,oG 43 (.call 38 [.t 42]) 40 true,oO 44 (.pick (.t 40) (.t 43) (.c (.bool false))),oM 4 44] .ret)) (qR [oO 46 (.bin .eql (.t 9) (nI 4)),oM 45 46] (.cond (.t 45) (qR [oF 47 3 5,oU (.store 1 (.t 47) (.c oN))] (qR [oR 48 4 5,oO 49 (.call 77 [.t 48]),oM 50 49,oG 51 (.load 1 false (.t 3)) 50 true,oG 52 (.bin .gtr (.t 51) (nI 0)) 50 true,oO 53 (.pick (.t 50) (.t 52) (.c (.bool false))),oM 54 53,oG 55 (.faddr 3 (.t 2)) 54 true,oG 56 (.load 1 false (.t 55)) 54 true,oG 57 (.len false (.t 56)) 54 true,oG 58 (.bin .leq (.t 57) (nI 16)) 54 true,oO 59 (.pick (.t 54) (.t 58) (.c (.bool false))),oM 60 59,oG 61 (.faddr 3 (.t 2)) 60 true,oG 62 (.load 1 false (.t 61)) 60 true,oG 63 (.mkfn 80 [.t 3]) 60 true,oG 64 (.call 79 [.t 62,.t 63]) 60 true,oG 65 (.un .not (.t 64)) 60 true,oO 66 (.pick (.t 60) (.t 65) (.c (.bool false))),oM 4 66] .ret)) .skip)))))))))) (qR [oO 4 (.mv (.c (.bool false)))] .ret)))),.pure,true,true⟩
theorem k72:compF Try.prog pP Try.f72=some c72:=by kernel_rfl
def c74:AFunc:=⟨7,[.tmp 4],qR [oO 4 (.mv (nI 0))] (.seq (qR [oM 5 0] (.cond (.t 5) (qR [oO 4 (.mv (nI (-1)))] .ret) .skip)) (.seq (qR [oM 6 1] (.cond (.t 6) (qR [oO 4 (.mv (nI 1))] .ret) .skip)) (qR [oO 4 (.mv (nI 0))] .ret))),.pure,true,true⟩
theorem k74:compF Try.prog pP Try.f74=some c74:=by kernel_rfl
def c75:AFunc:=⟨63,[],qR [oO 6 (.mv (nI 20))] (qR [oM 10 6,oO 7 (.mv (nI 0)),oM 8 10] (.seq (.block 0 (.loop (.seq (qR [oM 11 8,oM 12 1,oO 13 (.bin .leq (.t 11) (.t 12))] (.cond (.t 13) .skip (.exit 0))) (.block 1 (qR [oM 14 0,oM 15 7,oM 16 8,oM 17 2,oO 18 (.call 82 [.t 14,.t 15,.t 16,.t 17])] (qR [oM 19 8,oM 7 19] (.region [oM 20 8,oM 21 6,oO 22 (.bin .add (.t 20) (.t 21)),oM 8 22]))))))) (qR [oM 23 0,oM 24 7,oM 25 1,oM 26 2,oO 27 (.call 82 [.t 23,.t 24,.t 25,.t 26])] (.block 2 (.loop (.seq (qR [oM 28 6,oM 29 1,oO 30 (.bin .lss (.t 28) (.t 29))] (.cond (.t 30) .skip (.exit 2))) (.block 3 (qR [oM 31 6,oO 32 (.bin .mul (nI 2) (.t 31)),oO 7 (.mv (nI 0)),oM 8 32] (.seq (.block 4 (.loop (.seq (qR [oM 33 8,oM 34 1,oO 35 (.bin .leq (.t 33) (.t 34))] (.cond (.t 35) .skip (.exit 4))) (.block 5 (qR [oM 36 0,oM 37 7,oM 38 7,oM 39 6,oO 40 (.bin .add (.t 38) (.t 39)),oM 41 8,oM 42 2,oO 43 (.call 83 [.t 36,.t 37,.t 40,.t 41,.t 42])] (qR [oM 44 8,oM 7 44] (.region [oM 45 8,oM 46 6,oO 47 (.bin .mul (nI 2) (.t 46)),oO 48 (.bin .add (.t 45) (.t 47)),oM 8 48]))))))) (.seq (qR [oM 49 7,oM 50 6,oO 51 (.bin .add (.t 49) (.t 50)),oM 9 51] (qR [oM 52 9,oM 53 1,oO 54 (.bin .lss (.t 52) (.t 53))] (.cond (.t 54) (.region [oM 55 0,oM 56 7,oM 57 9,oM 58 1,oM 59 2,oO 60 (.call 83 [.t 55,.t 56,.t 57,.t 58,.t 59])]) .skip))) (.region [oM 61 6,oO 62 (.bin .mul (.t 61) (nI 2)),oM 6 62]))))))))))),.gc,false,false⟩
theorem k75:compF Try.prog pG Try.f75=some c75:=by kernel_rfl
def c76:AFunc:=⟨6,[.tmp 2],qR [oO 2 (.mv (.c (.bool false)))] (qR [oM 3 0,oM 4 0,oO 5 (.bin .neq (.t 3) (.t 4)),oM 2 5] .ret),.pure,true,true⟩
theorem k76:compF Try.prog pP Try.f76=some c76:=by kernel_rfl
def c77:AFunc:=⟨22,[.tmp 2],qR [oO 1 (.box (.t 0)),oO 2 (.mv (.c (.bool false)))] (qR [oF 3 0 1,oL 4 1 3,oO 5 (.bin .eql (.t 4) (nI 0)),oM 6 5,oG 7 (.faddr 1 (.t 1)) 6 true,oG 8 (.load 1 false (.t 7)) 6 true,oG 9 (.bin .eql (.t 8) (nI 0)) 6 true,oO 10 (.pick (.t 6) (.t 9) (.c (.bool false))),oM 11 10,oG 12 (.faddr 2 (.t 1)) 11 true,oG 13 (.load 1 false (.t 12)) 11 true,oG 14 (.bin .eql (.t 13) (.c oS)) 11 true,oO 15 (.pick (.t 11) (.t 14) (.c (.bool false))),oM 16 15,oG 17 (.faddr 3 (.t 1)) 16 true,oG 18 (.load 1 false (.t 17)) 16 true,oG 19 (.len false (.t 18)) 16 true,oG 20 (.bin .eql (.t 19) (nI 0)) 16 true,oO 21 (.pick (.t 16) (.t 20) (.c (.bool false))),oM 2 21] .ret),.pure,true,true⟩
theorem k77:compF Try.prog pP Try.f77=some c77:=by kernel_rfl
def c78:AFunc:=⟨27,[.tmp 2],qR [oO 2 (.mv (.c (.bool false)))] (.seq (qR [oM 5 0,oO 6 (.rng (.t 5))] (.block 0 (.loop (qR [oO 7 (.nxt (.t 6)),oX 8 0 7] (.seq (.cond (.t 8) .skip (.exit 0)) (.block 1 (qR [oX 9 2 7,oM 4 9] (qR [oM 10 4,oO 11 (.bin .lss (.t 10) (.c (.int .i32 32))),oM 12 11,oG 13 (.mv (.t 4)) 12 false,oG 14 (.bin .gtr (.t 13) (.c (.int .i32 126))) 12 false,oO 15 (.pick (.t 12) (.c (.bool true)) (.t 14)),oM 16 15,oG 17 (.mv (.t 4)) 16 false,oG 18 (.bin .eql (.t 17) (.c (.int .i32 34))) 16 false,oO 19 (.pick (.t 16) (.c (.bool true)) (.t 18)),oM 20 19,oG 21 (.mv (.t 4)) 20 false,oG 22 (.bin .eql (.t 21) (.c (.int .i32 92))) 20 false,oO 23 (.pick (.t 20) (.c (.bool true)) (.t 22))] (.cond (.t 23) (qR [oO 2 (.mv (.c (.bool false)))] .ret) .skip))))))))) (qR [oM 24 0,oO 25 (.len true (.t 24)),oO 26 (.bin .leq (.t 25) (nI 32)),oM 2 26] .ret)),.pure,true,true⟩
theorem k78:compF Try.prog pP Try.f78=some c78:=by kernel_rfl
def c79:AFunc:=⟨9,[.tmp 4],qR [oO 4 (.mv (.c (.bool false)))] (qR [oM 5 0,oM 6 1,oO 7 (.call 84 [.t 5,.t 6]),oO 8 (.bin .geq (.t 7) (nI 0)),oM 4 8] .ret),.pure,true,true⟩
theorem k79:compF Try.prog pP Try.f79=some c79:=by kernel_rfl
def c80:AFunc:=⟨9,[.tmp 3],qR [oO 2 (.box (.t 0)),oO 3 (.mv (.c (.bool false)))] (qR [oR 4 4 2,oL 5 1 1,oO 6 (.bin .sub (.t 5) (nI 1)),oO 7 (.call 72 [.t 4,.t 6]),oO 8 (.un .not (.t 7)),oM 3 8] .ret),.pure,true,true⟩
theorem k80:compF Try.prog pP Try.f80=some c80:=by kernel_rfl
def c82:AFunc:=⟨53,[],qR [oM 10 1,oO 11 (.bin .add (.t 10) (nI 1)),oM 8 11] (.block 0 (.loop (.seq (qR [oM 12 8,oM 13 2,oO 14 (.bin .lss (.t 12) (.t 13))] (.cond (.t 14) .skip (.exit 0))) (.seq (.block 1 (qR [oM 17 8,oM 9 17] (.block 2 (.loop (.seq (qR [oM 18 9,oM 19 1,oO 20 (.bin .gtr (.t 18) (.t 19)),oM 21 20,oG 22 (.mv (.t 3)) 21 true,oG 23 (.mv (.t 0)) 21 true,oG 24 (.mv (.t 9)) 21 true,oG 25 (.iaddrS 3 (.t 23) (.t 24)) 21 true,oG 26 (.load 3 true (.t 25)) 21 true,oG 27 (.mv (.t 0)) 21 true,oG 28 (.mv (.t 9)) 21 true,oG 29 (.bin .sub (.t 28) (nI 1)) 21 true,oG 30 (.iaddrS 3 (.t 27) (.t 29)) 21 true,oG 31 (.load 3 true (.t 30)) 21 true,oG 32 (.callv (.t 22) [.t 26,.t 31]) 21 true,oG 33 (.bin .lss (.t 32) (nI 0)) 21 true,oO 34 (.pick (.t 21) (.t 33) (.c (.bool false)))] (.cond (.t 34) .skip (.exit 2))) (.seq (.block 3 (.region [oM 37 0,oM 38 9,oM 39 0,oM 40 9,oO 41 (.bin .sub (.t 40) (nI 1)),oM 42 0,oM 43 9,oO 44 (.bin .sub (.t 43) (nI 1)),oO 45 (.iaddrS 3 (.t 42) (.t 44)),oR 46 3 45,oM 47 0,oM 48 9,oO 49 (.iaddrS 3 (.t 47) (.t 48)),oR 50 3 49,oO 51 (.iaddrS 3 (.t 37) (.t 38)),oU (.store 3 (.t 51) (.t 46)),oO 52 (.iaddrS 3 (.t 39) (.t 41)),oU (.store 3 (.t 52) (.t 50))])) (.region [oM 35 9,oO 36 (.bin .sub (.t 35) (nI 1)),oM 9 36]))))))) (.region [oM 15 8,oO 16 (.bin .add (.t 15) (nI 1)),oM 8 16]))))),.gc,false,false⟩
theorem k82:compF Try.prog pG Try.f82=some c82:=by kernel_rfl
def c83:AFunc:=⟨220,[],.seq (qR [oM 25 2,oM 26 1,oO 27 (.bin .sub (.t 25) (.t 26)),oO 28 (.bin .eql (.t 27) (nI 1))] (.cond (.t 28) (qR [oM 29 2,oM 10 29] (qR [oM 30 3,oM 11 30] (.seq (.block 0 (.loop (.seq (qR [oM 31 10,oM 32 11,oO 33 (.bin .lss (.t 31) (.t 32))] (.cond (.t 33) .skip (.exit 0))) (.block 1 (qR [oM 34 10,oM 35 11,oO 36 (.bin .add (.t 34) (.t 35)),oO 37 (.conv .u64 (.t 36)),oO 38 (.bin .shr (.t 37) (.c (.int .u64 1))),oO 39 (.conv .i64 (.t 38)),oM 12 39] (qR [oM 40 4,oM 41 0,oM 42 12,oO 43 (.iaddrS 3 (.t 41) (.t 42)),oR 44 3 43,oM 45 0,oM 46 1,oO 47 (.iaddrS 3 (.t 45) (.t 46)),oR 48 3 47,oO 49 (.callv (.t 40) [.t 44,.t 48]),oO 50 (.bin .lss (.t 49) (nI 0))] (.cond (.t 50) (.region [oM 51 12,oO 52 (.bin .add (.t 51) (nI 1)),oM 10 52]) (.region [oM 53 12,oM 11 53])))))))) (.seq (qR [oM 54 1,oM 13 54] (.block 2 (.loop (.seq (qR [oM 55 13,oM 56 10,oO 57 (.bin .sub (.t 56) (nI 1)),oO 58 (.bin .lss (.t 55) (.t 57))] (.cond (.t 58) .skip (.exit 2))) (.seq (.block 3 (.region [oM 61 0,oM 62 13,oM 63 0,oM 64 13,oO 65 (.bin .add (.t 64) (nI 1)),oM 66 0,oM 67 13,oO 68 (.bin .add (.t 67) (nI 1)),oO 69 (.iaddrS 3 (.t 66) (.t 68)),oR 70 3 69,oM 71 0,oM 72 13,oO 73 (.iaddrS 3 (.t 71) (.t 72)),oR 74 3 73,oO 75 (.iaddrS 3 (.t 61) (.t 62)),oU (.store 3 (.t 75) (.t 70)),oO 76 (.iaddrS 3 (.t 63) (.t 65)),oU (.store 3 (.t 76) (.t 74))])) (.region [oM 59 13,oO 60 (.bin .add (.t 59) (nI 1)),oM 13 60])))))) .ret)))) .skip)) (.seq (qR [oM 77 3,oM 78 2,oO 79 (.bin .sub (.t 77) (.t 78)),oO 80 (.bin .eql (.t 79) (nI 1))] (.cond (.t 80) (qR [oM 81 1,oM 14 81] (qR [oM 82 2,oM 15 82] (.seq (.block 4 (.loop (.seq (qR [oM 83 14,oM 84 15,oO 85 (.bin .lss (.t 83) (.t 84))] (.cond (.t 85) .skip (.exit 4))) (.block 5 (qR [oM 86 14,oM 87 15,oO 88 (.bin .add (.t 86) (.t 87)),oO 89 (.conv .u64 (.t 88)),oO 90 (.bin .shr (.t 89) (.c (.int .u64 1))),oO 91 (.conv .i64 (.t 90)),oM 16 91] (qR [oM 92 4,oM 93 0,oM 94 2,oO 95 (.iaddrS 3 (.t 93) (.t 94)),oR 96 3 95,oM 97 0,oM 98 16,oO 99 (.iaddrS 3 (.t 97) (.t 98)),oR 100 3 99,oO 101 (.callv (.t 92) [.t 96,.t 100]),oO 102 (.bin .lss (.t 101) (nI 0)),oO 103 (.un .not (.t 102))] (.cond (.t 103) (.region [oM 104 16,oO 105 (.bin .add (.t 104) (nI 1)),oM 14 105]) (.region [oM 106 16,oM 15 106])))))))) (.seq (qR [oM 107 2,oM 17 107] (.block 6 (.loop (.seq (qR [oM 108 17,oM 109 14,oO 110 (.bin .gtr (.t 108) (.t 109))] (.cond (.t 110) .skip (.exit 6))) (.seq (.block 7 (.region [oM 113 0,oM 114 17,oM 115 0,oM 116 17,oO 117 (.bin .sub (.t 116) (nI 1)),oM 118 0,oM 119 17,oO 120 (.bin .sub (.t 119) (nI 1)),oO 121 (.iaddrS 3 (.t 118) (.t 120)),oR 122 3 121,oM 123 0,oM 124 17,oO 125 (.iaddrS 3 (.t 123) (.t 124)),oR 126 3 125,oO 127 (.iaddrS 3 (.t 113) (.t 114)),oU (.store 3 (.t 127) (.t 122)),oO 128 (.iaddrS 3 (.t 115) (.t 117)),oU (.store 3 (.t 128) (.t 126))])) (.region [oM 111 17,oO 112 (.bin .sub (.t 111) (nI 1)),oM 17 112])))))) .ret)))) .skip)) (qR [oM 129 1,oM 130 3,oO 131 (.bin .add (.t 129) (.t 130)),oO 132 (.conv .u64 (.t 131)),oO 133 (.bin .shr (.t 132) (.c (.int .u64 1))),oO 134 (.conv .i64 (.t 133)),oM 18 134] (qR [oM 135 18,oM 136 2,oO 137 (.bin .add (.t 135) (.t 136)),oM 19 137] (qR [oO 20 (.mv (nI 0)),oO 21 (.mv (nI 0))] (.seq (qR [oM 138 2,oM 139 18,oO 140 (.bin .gtr (.t 138) (.t 139))] (.cond (.t 140) (qR [oM 141 19,oM 142 3,oO 143 (.bin .sub (.t 141) (.t 142)),oM 20 143] (.region [oM 144 18,oM 21 144])) (qR [oM 145 1,oM 20 145] (.region [oM 146 2,oM 21 146])))) (qR [oM 147 19,oO 148 (.bin .sub (.t 147) (nI 1)),oM 22 148] (.seq (.block 8 (.loop (.seq (qR [oM 149 20,oM 150 21,oO 151 (.bin .lss (.t 149) (.t 150))] (.cond (.t 151) .skip (.exit 8))) (.block 9 (qR [oM 152 20,oM 153 21,oO 154 (.bin .add (.t 152) (.t 153)),oO 155 (.conv .u64 (.t 154)),oO 156 (.bin .shr (.t 155) (.c (.int .u64 1))),oO 157 (.conv .i64 (.t 156)),oM 23 157] (qR [oM 158 4,oM 159 0,oM 160 22,oM 161 23,oO 162 (.bin .sub (.t 160) (.t 161)),oO 163 (.iaddrS 3 (.t 159) (.t 162)),oR 164 3 163,oM 165 0,oM 166 23,oO 167 (.iaddrS 3 (.t 165) (.t 166)),oR 168 3 167,oO 169 (.callv (.t 158) [.t 164,.t 168]),oO 170 (.bin .lss (.t 169) (nI 0)),oO 171 (.un .not (.t 170))] (.cond (.t 171) (.region [oM 172 23,oO 173 (.bin .add (.t 172) (nI 1)),oM 20 173]) (.region [oM 174 23,oM 21 174])))))))) (qR [oM 175 19,oM 176 20,oO 177 (.bin .sub (.t 175) (.t 176)),oM 24 177] (.seq (qR [oM 178 20,oM 179 2,oO 180 (.bin .lss (.t 178) (.t 179)),oM 181 180,oG 182 (.mv (.t 2)) 181 true,oG 183 (.mv (.t 24)) 181 true,oG 184 (.bin .lss (.t 182) (.t 183)) 181 true,oO 185 (.pick (.t 181) (.t 184) (.c (.bool false)))] (.cond (.t 185) (.region [oM 186 0,oM 187 20,oM 188 2,oM 189 24,oM 190 4,oO 191 (.call 85 [.t 186,.t 187,.t 188,.t 189,.t 190])]) .skip)) (.seq (qR [oM 192 1,oM 193 20,oO 194 (.bin .lss (.t 192) (.t 193)),oM 195 194,oG 196 (.mv (.t 20)) 195 true,oG 197 (.mv (.t 18)) 195 true,oG 198 (.bin .lss (.t 196) (.t 197)) 195 true,oO 199 (.pick (.t 195) (.t 198) (.c (.bool false)))] (.cond (.t 199) (.region [oM 200 0,oM 201 1,oM 202 20,oM 203 18,oM 204 4,oO 205 (.call 83 [.t 200,.t 201,.t 202,.t 203,.t 204])]) .skip)) (qR [oM 206 18,oM 207 24,oO 208 (.bin .lss (.t 206) (.t 207)),oM 209 208,oG 210 (.mv (.t 24)) 209 true,oG 211 (.mv (.t 3)) 209 true,oG 212 (.bin .lss (.t 210) (.t 211)) 209 true,oO 213 (.pick (.t 209) (.t 212) (.c (.bool false)))] (.cond (.t 213) (.region [oM 214 0,oM 215 18,oM 216 24,oM 217 3,oM 218 4,oO 219 (.call 83 [.t 214,.t 215,.t 216,.t 217,.t 218])]) .skip)))))))))))),.gc,false,false⟩
theorem k83:compF Try.prog pG Try.f83=some c83:=by kernel_rfl
def c84:AFunc:=⟨19,[.tmp 4],qR [oO 4 (.mv (nI 0))] (.seq (qR [oM 6 0,oO 7 (.len false (.t 6)),oO 8 (.mv (nI 0))] (.block 0 (.loop (qR [oO 9 (.bin .lss (.t 8) (.t 7))] (.seq (.cond (.t 9) .skip (.exit 0)) (.seq (.block 1 (qR [oM 10 8,oM 5 10] (qR [oM 11 1,oM 12 0,oM 13 5,oO 14 (.iaddrS 4 (.t 12) (.t 13)),oR 15 4 14,oO 16 (.callv (.t 11) [.t 15])] (.cond (.t 16) (qR [oM 17 5,oM 4 17] .ret) .skip)))) (.region [oO 18 (.bin .add (.t 8) (nI 1)),oM 8 18]))))))) (qR [oO 4 (.mv (nI (-1)))] .ret)),.pure,true,true⟩
theorem k84:compF Try.prog pP Try.f84=some c84:=by kernel_rfl
def c85:AFunc:=⟨58,[],qR [oM 12 2,oM 13 1,oO 14 (.bin .sub (.t 12) (.t 13)),oM 10 14] (qR [oM 15 3,oM 16 2,oO 17 (.bin .sub (.t 15) (.t 16)),oM 11 17] (.seq (.block 0 (.loop (.seq (qR [oM 18 10,oM 19 11,oO 20 (.bin .neq (.t 18) (.t 19))] (.cond (.t 20) .skip (.exit 0))) (.block 1 (qR [oM 21 10,oM 22 11,oO 23 (.bin .gtr (.t 21) (.t 22))] (.cond (.t 23) (qR [oM 24 0,oM 25 2,oM 26 10,oO 27 (.bin .sub (.t 25) (.t 26)),oM 28 2,oM 29 11,oM 30 4,oO 31 (.call 86 [.t 24,.t 27,.t 28,.t 29,.t 30])] (.region [oM 32 10,oM 33 11,oO 34 (.bin .sub (.t 32) (.t 33)),oM 10 34])) (qR [oM 35 0,oM 36 2,oM 37 10,oO 38 (.bin .sub (.t 36) (.t 37)),oM 39 2,oM 40 11,oO 41 (.bin .add (.t 39) (.t 40)),oM 42 10,oO 43 (.bin .sub (.t 41) (.t 42)),oM 44 10,oM 45 4,oO 46 (.call 86 [.t 35,.t 38,.t 43,.t 44,.t 45])] (.region [oM 47 11,oM 48 10,oO 49 (.bin .sub (.t 47) (.t 48)),oM 11 49])))))))) (.region [oM 50 0,oM 51 2,oM 52 10,oO 53 (.bin .sub (.t 51) (.t 52)),oM 54 2,oM 55 10,oM 56 4,oO 57 (.call 86 [.t 50,.t 53,.t 54,.t 55,.t 56])]))),.gc,false,false⟩
theorem k85:compF Try.prog pG Try.f85=some c85:=by kernel_rfl
def c86:AFunc:=⟨38,[],qR [oO 10 (.mv (nI 0))] (.block 0 (.loop (.seq (qR [oM 11 10,oM 12 3,oO 13 (.bin .lss (.t 11) (.t 12))] (.cond (.t 13) .skip (.exit 0))) (.seq (.block 1 (.region [oM 16 0,oM 17 1,oM 18 10,oO 19 (.bin .add (.t 17) (.t 18)),oM 20 0,oM 21 2,oM 22 10,oO 23 (.bin .add (.t 21) (.t 22)),oM 24 0,oM 25 2,oM 26 10,oO 27 (.bin .add (.t 25) (.t 26)),oO 28 (.iaddrS 3 (.t 24) (.t 27)),oR 29 3 28,oM 30 0,oM 31 1,oM 32 10,oO 33 (.bin .add (.t 31) (.t 32)),oO 34 (.iaddrS 3 (.t 30) (.t 33)),oR 35 3 34,oO 36 (.iaddrS 3 (.t 16) (.t 19)),oU (.store 3 (.t 36) (.t 29)),oO 37 (.iaddrS 3 (.t 20) (.t 23)),oU (.store 3 (.t 37) (.t 35))])) (.region [oM 14 10,oO 15 (.bin .add (.t 14) (nI 1)),oM 10 15]))))),.gc,false,false⟩
theorem k86:compF Try.prog pG Try.f86=some c86:=by kernel_rfl
def x49:AFunc:=⟨8,[.tmp 2],
 .seq (.region [
  ⟨(some 2),.mv (.c (.isl [] true)),none,[]⟩]) (
 .seq (.seq (.region [
  ⟨(some 3),.mv (.t 0),none,[]⟩,
  ⟨(some 4),.eqnil false (.t 3),none,[]⟩]) (
 .cond (.t 4) (
  .seq (.region [
   ⟨(some 2),.mv (.c (.isl [] true)),none,[]⟩]) (
  .ret)) (
  .skip))) (
 .seq (.region [
  ⟨(some 5),.buildSl 0 4 true [] [],none,[]⟩,
  ⟨(some 6),.mv (.t 0),none,[]⟩,
  ⟨(some 7),.append 4 true 56 true (.t 5) (.t 6),none,[]⟩,
  ⟨(some 2),.mv (.t 7),none,[]⟩]) (
 .ret))),
 .raw,false,false⟩
theorem kx49:compF Try.prog {mt:=true,mtAt:=[],mode:=.raw,clArgs:=false,clRes:=false} Try.f49=some x49:=by kernel_rfl
def x65:AFunc:=⟨8,[.tmp 2],
 .seq (.region [
  ⟨(some 2),.mv (.c (.isl [] true)),none,[]⟩]) (
 .seq (.seq (.region [
  ⟨(some 3),.mv (.t 0),none,[]⟩,
  ⟨(some 4),.eqnil false (.t 3),none,[]⟩]) (
 .cond (.t 4) (
  .seq (.region [
   ⟨(some 2),.mv (.c (.isl [] true)),none,[]⟩]) (
  .ret)) (
  .skip))) (
 .seq (.region [
  ⟨(some 5),.buildSl 0 3 true [] [],none,[]⟩,
  ⟨(some 6),.mv (.t 0),none,[]⟩,
  ⟨(some 7),.append 3 true 48 true (.t 5) (.t 6),none,[]⟩,
  ⟨(some 2),.mv (.t 7),none,[]⟩]) (
 .ret))),
 .raw,false,false⟩
theorem kx65:compF Try.prog {mt:=true,mtAt:=[],mode:=.raw,clArgs:=false,clRes:=false} Try.f65=some x65:=by kernel_rfl
noncomputable def fns:List (Nat × AFunc):=[(4,c4),(5,c5),(6,c6),(7,c7),(8,c8),(9,c9),(10,c10),(11,c11),(12,c12),(13,c13),(14,c14),(15,c15),(16,c16),(17,c17),(18,c18),(19,c19),(20,c20),(21,c21),(22,c22),(23,c23),(24,c24),(25,c25),(26,c26),(27,c27),(28,c28),(29,c29),(30,c30),(31,c31),(32,c32),(33,c33),(34,c34),(35,c35),(36,c36),(37,c37),(38,c38),(39,c39),(40,c40),(41,c41),(42,c42),(43,c43),(44,c44),(45,c45),(46,c46),(47,c47),(48,c48),(50,c50),(51,c51),(52,c52),(53,c53),(54,c54),(55,c55),(56,c56),(57,c57),(58,c58),(59,c59),(60,c60),(61,c61),(62,c62),(63,c63),(64,c64),(66,c66),(67,c67),(68,c68),(69,c69),(70,c70),(71,c71),(72,c72),(74,c74),(75,c75),(76,c76),(77,c77),(78,c78),(79,c79),(80,c80),(82,c82),(83,c83),(84,c84),(85,c85),(86,c86)]
set_option maxRecDepth 100000 in
theorem fns_ok:∀ p∈fns,∃ fn pol,Try.prog.funcs[p.1]?=some fn∧compF Try.prog pol fn=some p.2:=by
 simp only [fns,List.forall_mem_cons]
 exact ⟨⟨_,_,Try.func4,k4⟩,⟨_,_,Try.func5,k5⟩,⟨_,_,Try.func6,k6⟩,⟨_,_,Try.func7,k7⟩,⟨_,_,Try.func8,k8⟩,⟨_,_,Try.func9,k9⟩,⟨_,_,Try.func10,k10⟩,⟨_,_,Try.func11,k11⟩,⟨_,_,Try.func12,k12⟩,⟨_,_,Try.func13,k13⟩,⟨_,_,Try.func14,k14⟩,⟨_,_,Try.func15,k15⟩,⟨_,_,Try.func16,k16⟩,⟨_,_,Try.func17,k17⟩,⟨_,_,Try.func18,k18⟩,⟨_,_,Try.func19,k19⟩,⟨_,_,Try.func20,k20⟩,⟨_,_,Try.func21,k21⟩,⟨_,_,Try.func22,k22⟩,⟨_,_,Try.func23,k23⟩,⟨_,_,Try.func24,k24⟩,⟨_,_,Try.func25,k25⟩,⟨_,_,Try.func26,k26⟩,⟨_,_,Try.func27,k27⟩,⟨_,_,Try.func28,k28⟩,⟨_,_,Try.func29,k29⟩,⟨_,_,Try.func30,k30⟩,⟨_,_,Try.func31,k31⟩,⟨_,_,Try.func32,k32⟩,⟨_,_,Try.func33,k33⟩,⟨_,_,Try.func34,k34⟩,⟨_,_,Try.func35,k35⟩,⟨_,_,Try.func36,k36⟩,⟨_,_,Try.func37,k37⟩,⟨_,_,Try.func38,k38⟩,⟨_,_,Try.func39,k39⟩,⟨_,_,Try.func40,k40⟩,⟨_,_,Try.func41,k41⟩,⟨_,_,Try.func42,k42⟩,⟨_,_,Try.func43,k43⟩,⟨_,_,Try.func44,k44⟩,⟨_,_,Try.func45,k45⟩,⟨_,_,Try.func46,k46⟩,⟨_,_,Try.func47,k47⟩,⟨_,_,Try.func48,k48⟩,⟨_,_,Try.func50,k50⟩,⟨_,_,Try.func51,k51⟩,⟨_,_,Try.func52,k52⟩,⟨_,_,Try.func53,k53⟩,⟨_,_,Try.func54,k54⟩,⟨_,_,Try.func55,k55⟩,⟨_,_,Try.func56,k56⟩,⟨_,_,Try.func57,k57⟩,⟨_,_,Try.func58,k58⟩,⟨_,_,Try.func59,k59⟩,⟨_,_,Try.func60,k60⟩,⟨_,_,Try.func61,k61⟩,⟨_,_,Try.func62,k62⟩,⟨_,_,Try.func63,k63⟩,⟨_,_,Try.func64,k64⟩,⟨_,_,Try.func66,k66⟩,⟨_,_,Try.func67,k67⟩,⟨_,_,Try.func68,k68⟩,⟨_,_,Try.func69,k69⟩,⟨_,_,Try.func70,k70⟩,⟨_,_,Try.func71,k71⟩,⟨_,_,Try.func72,k72⟩,⟨_,_,Try.func74,k74⟩,⟨_,_,Try.func75,k75⟩,⟨_,_,Try.func76,k76⟩,⟨_,_,Try.func77,k77⟩,⟨_,_,Try.func78,k78⟩,⟨_,_,Try.func79,k79⟩,⟨_,_,Try.func80,k80⟩,⟨_,_,Try.func82,k82⟩,⟨_,_,Try.func83,k83⟩,⟨_,_,Try.func84,k84⟩,⟨_,_,Try.func85,k85⟩,⟨_,_,Try.func86,k86⟩,fun _ h=>by cases h⟩
noncomputable def rds (rc:RCode):Option (Nat × ACode × ACode):=none
theorem rds_ok:∀ rc nt a b,rds rc=some (nt,a,b)→∃ mt,compC Try.prog mt nt rc.assign=some a∧compC Try.prog mt nt rc.body=some b∧noRf a=true∧noRf b=true:=by
 intro rc nt a b h
 unfold rds at h
 cases h
open Go.RowKit Go.Mach
set_option maxHeartbeats 1000000 in
set_option maxRecDepth 100000 in
theorem cmp_calls (a b:ByteArray) (w:World) :
  Calls Try.prog 73 #[.string a,.string b] w fun e w'=>e=.returned (.int .i64 (Lib.compareBytes a.data.toList b.data.toList))∧w'=w:=by
 go_enter Try.func73,Try.ntmps73
 go_wp2
 rw [run_callFunc_extern Try.func81 (by kernel_rfl) (by kernel_rfl) (by kernel_rfl) (e:=Extern.BytealgCompare.compare) (by kernel_rfl),Lib.run_compareString]
 simp only [Result.andThen]
 rw [Oper.upon_value]
 go_wp2
 go_ret
 exact ⟨rfl,rfl⟩
def cmpP (args:List AV) (_:Nat) (σ:Heap):Option (AV × Heap):=match args with
 | [.str a,.str b]=>some (.int .i64 (Lib.compareBytes a.data.toList b.data.toList),σ)
 | _=>none
theorem args1 {g:Gh} {x:AV} {cargs:Array Value} (hA:Args g [x] cargs):∃ c,cargs=#[c]∧VR g x c:=by
 have h0:=hA.len
 match hcl:cargs.toList,(show cargs.toList.length=1 by simpa using h0.symm) with
 | [c],_=>exact ⟨c,by rw [←Array.toArray_toList (xs:=cargs),hcl],hA.val 0 _ c rfl (by rw [←Array.getElem?_toList,hcl]; rfl)⟩
theorem args2 {g:Gh} {x y:AV} {cargs:Array Value} (hA:Args g [x,y] cargs):∃ c d,cargs=#[c,d]∧VR g x c∧VR g y d:=by
 have h0:=hA.len
 match hcl:cargs.toList,(show cargs.toList.length=2 by simpa using h0.symm) with
 | [c,d],_=>
  exact ⟨c,d,by rw [←Array.toArray_toList (xs:=cargs),hcl],hA.val 0 _ c rfl (by rw [←Array.getElem?_toList,hcl]; rfl),hA.val 1 _ d rfl (by rw [←Array.getElem?_toList,hcl]; rfl)⟩
theorem cmp_ok:PrimOK Try.prog 73 cmpP:=by
 intro args bs σ v σ' h hbs
 unfold cmpP at h
 split at h
 ·rename_i a b
  injection h with h; injection h with e1 e2; subst e1 e2
  refine ⟨⟨_,Try.func73,by kernel_rfl,by kernel_rfl⟩,fun g ow w cargs hH hA=>?_⟩
  obtain ⟨c,d,rfl,hx,hy⟩:=args2 hA
  rw [hx.strv,hy.strv]
  refine (cmp_calls a b w).mono ?_
  rintro e w' ⟨rfl,rfl⟩
  exact ⟨_,g,ow,rfl,.int _ _,hH,.refl ..⟩
 ·cases h
theorem eq_nil {P:Program} {t e:TypeId} (ht:P.underlying t=some (.slice e)) (a:Option Addr) (c:Nat) (w:World):Sem.run P (binOp .eql t (.slice a 0 c) (.slice none 0 0)) w=.ok (.bool a.isNone) w:=by
 have heq:(Op.equal t (.slice a 0 c) (.slice none 0 0)).run P w=.ok a.isNone w:=by
  have hd:∀ d,(Op.equalIn (d+1) t (.slice a 0 c) (.slice none 0 0)).run P w=.ok a.isNone w:=fun d=>by cases a <;> simp [Op.equalIn,run_und ht]
  exact hd 9999
 simp [binOp,heq]
set_option maxRecDepth 100000 in
set_option maxHeartbeats 1000000 in
theorem cloneV_nil (a:Option Addr) (c:Nat) (w:World) :
  Calls Try.prog 49 #[.slice a 0 c] w fun e w'=>∃ a',e=.returned (.slice a' 0 0)∧Same w w'∧w.heap.size≤w'.heap.size∧∀ b,b<w.heap.size→w'.heap[b]?=w.heap[b]?:=by
 go_enter Try.func49,Try.ntmps49
 have hu:Try.prog.underlying 33=some (.slice 50):=by kernel_rfl
 cases a with
 | none=>
  have hb:∀ w,Sem.run Try.prog (binOp .eql 33 (.slice none 0 c) (.slice none 0 0)) w=.ok (.bool true) w:=fun w=>eq_nil hu none c w
  go_wp2
  go_ret
  exact ⟨_,rfl,⟨rfl,rfl,rfl⟩,Nat.le_refl _,fun _ _=>rfl⟩
 | some a=>
  have hb:∀ w,Sem.run Try.prog (binOp .eql 33 (.slice (some a) 0 c) (.slice none 0 0)) w=.ok (.bool false) w:=fun w=>eq_nil hu (some a) c w
  go_wp2
  go_ret
  have hal:∀ o,(w.alloc o).heap=w.heap.push o:=fun _=>rfl
  exact ⟨_,rfl,⟨rfl,rfl,rfl⟩,by rw [hal,Array.size_push]; exact Nat.le_succ _,fun b hb=>by rw [hal,Array.getElem?_push,if_neg (Nat.ne_of_lt hb)]⟩
set_option maxRecDepth 100000 in
set_option maxHeartbeats 1000000 in
theorem cloneW_nil (a:Option Addr) (c:Nat) (w:World) :
  Calls Try.prog 65 #[.slice a 0 c] w fun e w'=>∃ a',e=.returned (.slice a' 0 0)∧Same w w'∧w.heap.size≤w'.heap.size∧∀ b,b<w.heap.size→w'.heap[b]?=w.heap[b]?:=by
 go_enter Try.func65,Try.ntmps65
 have hu:Try.prog.underlying 29=some (.slice 52):=by kernel_rfl
 cases a with
 | none=>
  have hb:∀ w,Sem.run Try.prog (binOp .eql 29 (.slice none 0 c) (.slice none 0 0)) w=.ok (.bool true) w:=fun w=>eq_nil hu none c w
  go_wp2
  go_ret
  exact ⟨_,rfl,⟨rfl,rfl,rfl⟩,Nat.le_refl _,fun _ _=>rfl⟩
 | some a=>
  have hb:∀ w,Sem.run Try.prog (binOp .eql 29 (.slice (some a) 0 c) (.slice none 0 0)) w=.ok (.bool false) w:=fun w=>eq_nil hu (some a) c w
  go_wp2
  go_ret
  have hal:∀ o,(w.alloc o).heap=w.heap.push o:=fun _=>rfl
  exact ⟨_,rfl,⟨rfl,rfl,rfl⟩,by rw [hal,Array.size_push]; exact Nat.le_succ _,fun b hb=>by rw [hal,Array.getElem?_push,if_neg (Nat.ne_of_lt hb)]⟩
open Go.RowKit Go.Mach
def TV:Tab:=⟨fun f=>if f=49 then some x49 else none,fun _=>none,fun _=>none⟩
theorem TV_ok:TabOK Try.prog TV where
 mixed:=by kernel_rfl
 fn f af h:=by
  simp only [TV] at h
  split at h
  ·rename_i e; injection h with h; subst h e; exact ⟨_,_,Try.func49,kx49⟩
  ·cases h
 pr f p h:=by cases h
 yn:=⟨rfl,by decide⟩
theorem cloneV_run (es:List AV) (c:Bool) (bs:Nat) (σ:Heap) (hne:es≠[]) (hf:(flat es).length=es.length * 4) (hl:es.length≤10000000000) :
  evalFn TV 3 49 [.isl es c] bs σ=some (.sl (σ.length+1) 0 es.length 4 true,σ++[.cells [] 0 false,.cells (flat es) 0 true]):=by
 have hnn:notNil (.isl es c)=true:=by cases es with
  | nil=>exact absurd rfl hne
  | cons x l=>rfl
 have he0:elemsA (σ++[.cells [] 0 false]) 4 true (.sl σ.length 0 0 4 true)=some []:=by
  simp [elemsA,window,chunk]
 have he1:elemsN (σ++[.cells [] 0 false]) 4 true (.isl es c)=some es:=rfl
 have hap:appendA (σ++[.cells [] 0 false]) 4 true 56 true (.sl σ.length 0 0 4 true) (.isl es c)=some (.sl (σ.length+1) 0 es.length 4 true,σ++[.cells [] 0 false,.cells (flat es) 0 true]):=by
  have h1:¬ ((4:Nat)=0∨(0+es.length) * 56 > 70368744177664∨0+es.length > 70368744177664):=by omega
  simp only [appendA,he0,he1,Option.bind_some,isSl,if_neg hne,List.length_nil,if_neg h1]
  simp [hf]
  simp [flat]
 simp [evalFn,TV,x49,exec,runOps,startA,stepAll,stepOp,ev,hnn,onNormal,finA,resA,res1,closeRes,closeArgs,dropA,baseA,guardA,chkO,setDst,fillA,hap]
def cloneVP (args:List AV) (bs:Nat) (σ:Heap):Option (AV × Heap):=match args with
 | [.isl es c]=>if es=[] then some (.isl [] true,σ) else if (flat es).length=es.length * 4∧es.length≤10000000000 then some (.sl (σ.length+1) 0 es.length 4 true,σ++[.cells [] 0 false,.cells (flat es) 0 true]) else none
 | _=>none
theorem cloneV_ok:PrimOK Try.prog 49 cloneVP:=by
 intro args bs σ v σ' h hbs
 unfold cloneVP at h
 split at h
 ·rename_i es c
  split at h
  ·rename_i he; subst he
   injection h with h; injection h with e1 e2; subst e1 e2
   refine ⟨⟨_,Try.func49,by kernel_rfl,by kernel_rfl⟩,fun g ow w cargs hH hA=>?_⟩
   obtain ⟨cc,rfl,hx⟩:=args1 hA
   obtain ⟨ad,cap,rfl⟩:∃ ad cap,cc=.slice ad 0 cap:=by
    cases hx with
    | @isl _ _ ad c0 _ _ _ vs hc hs ha hcap hn hM hV=>exact ⟨_,_,rfl⟩
   refine (cloneV_nil ad cap w).mono ?_
   rintro e w' ⟨a',rfl,hs,hsz,hheap⟩
   obtain ⟨h1,h2⟩:=hH.more (bs:=bs) hsz hheap hs.os hs.tape hs.output
   exact ⟨_,g,ow,rfl,isl_VR (es:=[]) (b:=0) (p:=0) (s:=1) (a:=a') (c:=0) (by simp) (by omega) (.inl rfl) (fun _=>rfl) (Nat.zero_le _) (by simp [flat]),h1,h2⟩
  ·rename_i hne
   split at h
   ·rename_i hc
    injection h with h; injection h with e1 e2; subst e1 e2
    exact (eval_sound TV_ok 3).fn _ _ _ _ _ _ (by decide) (cloneV_run es c bs σ hne hc.1 hc.2) hbs
   ·cases h
 ·cases h
def TW:Tab:=⟨fun f=>if f=65 then some x65 else none,fun _=>none,fun _=>none⟩
theorem TW_ok:TabOK Try.prog TW where
 mixed:=by kernel_rfl
 fn f af h:=by
  simp only [TW] at h
  split at h
  ·rename_i e; injection h with h; subst h e; exact ⟨_,_,Try.func65,kx65⟩
  ·cases h
 pr f p h:=by cases h
 yn:=⟨rfl,by decide⟩
theorem cloneW_run (es:List AV) (c:Bool) (bs:Nat) (σ:Heap) (hne:es≠[]) (hf:(flat es).length=es.length * 3) (hl:es.length≤10000000000) :
  evalFn TW 3 65 [.isl es c] bs σ=some (.sl (σ.length+1) 0 es.length 3 true,σ++[.cells [] 0 false,.cells (flat es) 0 true]):=by
 have hnn:notNil (.isl es c)=true:=by cases es with
  | nil=>exact absurd rfl hne
  | cons x l=>rfl
 have he0:elemsA (σ++[.cells [] 0 false]) 3 true (.sl σ.length 0 0 3 true)=some []:=by
  simp [elemsA,window,chunk]
 have he1:elemsN (σ++[.cells [] 0 false]) 3 true (.isl es c)=some es:=rfl
 have hap:appendA (σ++[.cells [] 0 false]) 3 true 48 true (.sl σ.length 0 0 3 true) (.isl es c)=some (.sl (σ.length+1) 0 es.length 3 true,σ++[.cells [] 0 false,.cells (flat es) 0 true]):=by
  have h1:¬ ((3:Nat)=0∨(0+es.length) * 48 > 70368744177664∨0+es.length > 70368744177664):=by omega
  simp only [appendA,he0,he1,Option.bind_some,isSl,if_neg hne,List.length_nil,if_neg h1]
  simp [hf]
  simp [flat]
 simp [evalFn,TW,x65,exec,runOps,startA,stepAll,stepOp,ev,hnn,onNormal,finA,resA,res1,closeRes,closeArgs,dropA,baseA,guardA,chkO,setDst,fillA,hap]
def cloneWP (args:List AV) (bs:Nat) (σ:Heap):Option (AV × Heap):=match args with
 | [.isl es c]=>if es=[] then some (.isl [] true,σ) else if (flat es).length=es.length * 3∧es.length≤10000000000 then some (.sl (σ.length+1) 0 es.length 3 true,σ++[.cells [] 0 false,.cells (flat es) 0 true]) else none
 | _=>none
theorem cloneW_ok:PrimOK Try.prog 65 cloneWP:=by
 intro args bs σ v σ' h hbs
 unfold cloneWP at h
 split at h
 ·rename_i es c
  split at h
  ·rename_i he; subst he
   injection h with h; injection h with e1 e2; subst e1 e2
   refine ⟨⟨_,Try.func65,by kernel_rfl,by kernel_rfl⟩,fun g ow w cargs hH hA=>?_⟩
   obtain ⟨cc,rfl,hx⟩:=args1 hA
   obtain ⟨ad,cap,rfl⟩:∃ ad cap,cc=.slice ad 0 cap:=by
    cases hx with
    | @isl _ _ ad c0 _ _ _ vs hc hs ha hcap hn hM hV=>exact ⟨_,_,rfl⟩
   refine (cloneW_nil ad cap w).mono ?_
   rintro e w' ⟨a',rfl,hs,hsz,hheap⟩
   obtain ⟨h1,h2⟩:=hH.more (bs:=bs) hsz hheap hs.os hs.tape hs.output
   exact ⟨_,g,ow,rfl,isl_VR (es:=[]) (b:=0) (p:=0) (s:=1) (a:=a') (c:=0) (by simp) (by omega) (.inl rfl) (fun _=>rfl) (Nat.zero_le _) (by simp [flat]),h1,h2⟩
  ·rename_i hne
   split at h
   ·rename_i hc
    injection h with h; injection h with e1 e2; subst e1 e2
    exact (eval_sound TW_ok 3).fn _ _ _ _ _ _ (by decide) (cloneW_run es c bs σ hne hc.1 hc.2) hbs
   ·cases h
 ·cases h
open Go.RowKit Go.Mach
open Go.RowKit Go.Mach
open Go.Mach
def prims:List (Nat × (List AV→Nat→Heap→Option (AV × Heap))):=[
 (73,cmpP),
 (49,cloneVP),
 (65,cloneWP),
 (1000000,fun _ _ _=>none)]
noncomputable def T:Tab:=⟨fun f=>(fns.find? (·.1 == f)).map (·.2),fun f=>(prims.find? (·.1 == f)).map (·.2),rds⟩
theorem prims_ok:∀ p∈prims,PrimOK Try.prog p.1 p.2:=by
 simp only [prims,List.forall_mem_cons]
 exact ⟨
  cmp_ok,
  cloneV_ok,
  cloneW_ok,
  (fun _ _ _ _ _ h=>by cases h),fun _ h=>by cases h⟩
theorem T_ok:TabOK Try.prog T where
 mixed:=by kernel_rfl
 fn f af h:=by
  obtain ⟨p,hp,rfl⟩:=zqG.1 h
  have h1:=List.find?_some hp
  have h2:=fns_ok p (List.mem_of_find?_eq_some hp)
  have:p.1=f:=by simpa using h1
  rw [←this]; exact h2
 pr f p h:=by
  obtain ⟨q,hq,rfl⟩:=zqG.1 h
  have h1:=List.find?_some hq
  have h2:=prims_ok q (List.mem_of_find?_eq_some hq)
  have:q.1=f:=by simpa using h1
  rw [←this]; exact h2
 yn:=⟨by kernel_rfl,by kernel_rfl⟩
 rd:=rds_ok
theorem callN_T (f:Nat) (args:List AV) (bs:Nat) (σ:Heap) (h:headYld args=false):callN (callT T) f args bs σ=callT T f args bs σ:=by
 unfold callN
 split
 ·rename_i e; subst e
  rw [callT_yld T bs σ T_ok.yn.1 T_ok.yn.2]
  unfold roundA
  split
  ·cases h
  ·rfl
 ·rfl
attribute [simp] callN_T
end Go.Proofs.Ytkempedphjopmaa
end
section
namespace Go.Mach
inductive GV where
 | mk (kind num:Int) (text:ByteArray) (items:List GV)
 deriving Inhabited
namespace GV
abbrev kind:GV→Int | .mk k _ _ _=>k
abbrev num:GV→Int | .mk _ n _ _=>n
abbrev text:GV→ByteArray | .mk _ _ t _=>t
abbrev items:GV→List GV | .mk _ _ _ l=>l
mutual
def enc:GV→AV
 | .mk k n t l=>.agg [.int .i64 k,.int .i64 n,.str t,.isl (encs l) false]
def encs:List GV→List AV
 | []=>[]
 | v :: l=>enc v :: encs l
end
theorem encs_map:∀ l:List GV,encs l=l.map enc
 | []=>rfl
 | v :: l=>by simp only [encs,List.map_cons,encs_map l]
@[simp] theorem encs_length (l:List GV):(encs l).length=l.length:=by simp [encs_map]
@[simp] theorem encs_get (l:List GV) (i:Nat):(encs l)[i]?=l[i]?.map enc:=by simp [encs_map]
@[simp] theorem encs_getE (l:List GV) (i:Nat) (h:i<(encs l).length):(encs l)[i]=(l[i]'(by simpa using h)).enc:=by simp [encs_map]
theorem enc_eq (v:GV):v.enc=.agg [.int .i64 v.kind,.int .i64 v.num,.str v.text,.isl (encs v.items) false]:=by cases v; simp only [enc,kind,num,text,items]
@[simp] theorem enc_fold (v:GV):AV.agg [.int .i64 v.kind,.int .i64 v.num,.str v.text,.isl (encs v.items) false]=v.enc:=(enc_eq v).symm
@[simp] theorem enc_cells (v:GV):v.enc.cells=[.int .i64 v.kind,.int .i64 v.num,.str v.text,.isl (encs v.items) false]:=by rw [enc_eq]; rfl
@[simp] theorem enc_solid (v:GV):v.enc.solid=true:=by rw [enc_eq]; rfl
@[simp] theorem enc_head (v:GV) (xs:List AV):headYld (v.enc :: xs)=false:=by rw [enc_eq]; rfl
@[simp] theorem enc_clean (v:GV):v.enc.clean=true:=by rw [enc_eq]; rfl
@[simp] theorem enc_closeR (σ:Heap) (v:GV):closeR σ v.enc=some (v.enc,σ):=by rw [enc_eq]; rfl
@[simp] theorem enc_datR (v:GV):v.enc.datR=true:=by rw [enc_eq]; rfl
@[simp] theorem enc_dat1 (v:GV):v.enc.clo1=false:=by rw [enc_eq]; rfl
@[simp] theorem enc_dat (v:GV):v.enc.dat=true:=by rw [enc_eq]; rfl
@[simp] theorem enc_clo (v:GV):v.enc.clo=true:=by rw [enc_eq]; rfl
def i64ok (n:Int):Prop:=-9223372036854775808≤n∧n≤9223372036854775807
mutual
def ok:GV→Prop
 | .mk k n _ l=>i64ok k∧i64ok n∧oks l
def oks:List GV→Prop
 | []=>True
 | v :: l=>ok v∧oks l
end
theorem oks_iff:∀ l:List GV,oks l↔∀ v∈l,ok v
 | []=>by simp [oks]
 | v :: l=>by simp [oks,oks_iff l]
mutual
def size:GV→Nat
 | .mk _ _ t l=>t.size+sizes l+5
def sizes:List GV→Nat
 | []=>0
 | v :: l=>size v+sizes l
end
end GV
structure IsV (P:Program) (tV tL tI tS:TypeId):Prop where
 fs:∃ fs:Array Field,P.underlying tV=some (.struct fs)∧fs.toList.map (·.type)=[tI,tI,tS,tL]
 int:P.underlying tI=some (.int .i64)
 str:P.underlying tS=some .string
 list:P.underlying tL=some (.slice tV)
theorem field_ty {P:Program} {fs:Array Field} {ts:List TypeId} (h:fs.toList.map (·.type)=ts) {vs:List AV} (hv:∀ (i:Nat) f x,fs.toList[i]?=some f→vs[i]?=some x→TyA P f.type x) {i:Nat} {t:TypeId} {x:AV} (ht:ts[i]?=some t) (hx:vs[i]?=some x):TyA P t x:=by
 rw [←h,List.getElem?_map] at ht
 obtain ⟨f,hf,rfl⟩:=zqG.1 ht
 exact hv i f x hf hx
end Go.Mach
end
section
namespace Go.Mach
end Go.Mach
namespace Go.Proofs.Ytkempedphjopmaa
open Go.Mach
def cmpI (a b:Int):Int:=if a<b then -1 else if b<a then 1 else 0
mutual
def cmpV:GV→GV→Int
 | .mk k n t l,b=>if cmpI k b.kind≠0 then cmpI k b.kind else if k=1 then cmpI n b.num else if k=2∨k=3 then Lib.compareBytes t.data.toList b.text.data.toList else if k=4 then cmpVs l b.items else 0
def cmpVs:List GV→List GV→Int
 | [],[]=>0
 | [],_ :: _=>-1
 | _ :: _,[]=>1
 | x :: xs,y :: ys=>if cmpV x y≠0 then cmpV x y else cmpVs xs ys
end
theorem cmp68 (a b:Int):pureT T c68 [.int .i64 a,.int .i64 b]=some (.int .i64 (cmpI a b)):=by
 have h76:∀ (n:Int) bs σ,callT T 76 [.int .i64 n] bs σ=some (.bool false,σ):=fun n bs σ=>call_clean rfl rfl rfl rfl (by
  apply pure_enter (by simp [c76])
  simp [c76])
 apply pure_enter (by simp [c68])
 by_cases h1:a<b
 ·simp [c68,h76,h1,cmpI]
 ·by_cases h2:b<a
  ·simp [c68,h76,h1,h2,cmpI]
  ·simp [c68,h76,h1,h2,cmpI]
theorem call68 (a b:Int) (bs:Nat) (σ:Heap):callT T 68 [.int .i64 a,.int .i64 b] bs σ=some (.int .i64 (cmpI a b),σ):=call_clean rfl rfl rfl rfl (cmp68 a b)
theorem call73 (a b:ByteArray) (bs:Nat) (σ:Heap):callT T 73 [.str a,.str b] bs σ=some (.int .i64 (Lib.compareBytes a.data.toList b.data.toList),σ):=callT_pr (p:=cmpP) _ _ _ rfl _
theorem call56 (a b:ByteArray) (bs:Nat) (σ:Heap):callT T 56 [.str a,.str b] bs σ=some (.int .i64 (Lib.compareBytes a.data.toList b.data.toList),σ):=call_clean rfl rfl rfl rfl (by
 apply pure_enter (by simp [c56])
 simp [c56,call73])
theorem cmpVs_nil (l:List GV):cmpVs [] l=if l=[] then 0 else -1:=by cases l <;> simp [cmpVs]
theorem cmpFunc (l l2:List GV) (hn:l.length≤100000000000) (h:∀ x∈l,∀ y∈l2,∀ bs σ,callT T 58 [x.enc,y.enc] bs σ=some (.int .i64 (cmpV x y),σ)) :
  pureT T c57 [.isl (GV.encs l) false,.isl (GV.encs l2) false,.func 58 []]=some (.int .i64 (cmpVs l l2)):=by
 apply pure_enter (by simp [c57])
 simp [c57]
 refine W_upto T 0 39 l.length (fun i f σ=>f 11=.isl (GV.encs l) false∧f 12=.int .i64 (l.length:Int)∧f 13=.int .i64 (i:Int)∧f 0=.isl (GV.encs l) false∧f 1=.isl (GV.encs l2) false∧f 2=.func 58 []∧i≤l2.length∧cmpVs l l2=cmpVs (l.drop i) (l2.drop i)) ?_ _ _ ?_
 ·rintro i f σ Q' hi ⟨h11,h12,h13,h0,h1,h2,hi2,hcmp⟩ hnx hx
  by_cases hlt:i<l.length
  ·by_cases hlt2:i<l2.length
   ·have e1:l[i]?=some l[i]:=zqF hlt
    have e2:l2[i]?=some l2[i]:=zqF hlt2
    have hc:=h l[i] (zqT hlt) l2[i] (zqT hlt2)
    have hd:l.drop i=l[i] :: l.drop (i+1):=(zqM hlt)
    have hd2:l2.drop i=l2[i] :: l2.drop (i+1):=(zqM hlt2)
    by_cases hz:cmpV l[i] l2[i]=0
    ·simp [h11,h12,h13,h0,h1,h2,hlt,hlt2,Nat.not_le.2 hlt2,hc,hz]
     refine hnx _ _ hlt ⟨by simp [h11],by simp [h12],?_,by simp [h0],by simp [h1],by simp [h2],hlt2,?_⟩
     ·simp; rw [wr64 (by omega) (by omega)]
     ·rw [hcmp,hd,hd2,cmpVs]; simp [hz]
    ·simp [h11,h12,h13,h0,h1,h2,hlt,hlt2,Nat.not_le.2 hlt2,hc,hz]
     refine hx _ _ _ (by simp) (contQ_ret T 0 39 ?_)
     rw [hcmp,hd,hd2,cmpVs]; simp [hz]
   ·have e1:l[i]?=some l[i]:=zqF hlt
    have hd:l.drop i=l[i] :: l.drop (i+1):=(zqM hlt)
    have hd2:l2.drop i=[]:=List.drop_eq_nil_of_le (by omega)
    simp [h11,h12,h13,h0,h1,h2,hlt,Nat.not_lt.1 hlt2]
    refine hx _ _ _ (by simp) (contQ_ret T 0 39 ?_)
    rw [hcmp,hd,hd2,cmpVs]; simp
  ·have he:i=l.length:=by omega
   subst he
   simp [h12,h13]
   refine hx _ _ _ (by simp) (contQ_exit T 0 39 ?_)
   have hd:l.drop l.length=[]:=List.drop_length
   rw [hcmp,hd,cmpVs_nil]
   by_cases hlt2:l.length<l2.length
   ·have hne:l2.drop l.length≠[]:=by simp; omega
    simp [h0,h1,hlt2,hne]
   ·have hne:l2.drop l.length=[]:=by simp; omega
    simp [h0,h1,hlt2,hne]
 ·simp
theorem sizes_mem {l:List GV} {x:GV} (h:x∈l):x.size+5≤GV.sizes l+5∧l.length≤GV.sizes l:=by
 induction l with
 | nil=>cases h
 | cons y l ih=>
  have hy:5≤y.size:=by cases y; simp [GV.size]
  rcases List.mem_cons.1 h with rfl | h
  ·refine ⟨by simp [GV.sizes],?_⟩
   have:∀ l:List GV,l.length≤GV.sizes l:=fun l=>by
    induction l with
    | nil=>simp [GV.sizes]
    | cons z l ih=>have:5≤z.size:=(by cases z; simp [GV.size]); simp [GV.sizes]; omega
   have:=this l
   simp [GV.sizes]; omega
  ·obtain ⟨h1,h2⟩:=ih h
   simp [GV.sizes]; omega
theorem len_sizes (l:List GV):l.length≤GV.sizes l:=by
 cases l with
 | nil=>simp
 | cons x l=>exact (sizes_mem (List.mem_cons_self (a:=x) (l:=l))).2
theorem cmp58:∀ (n:Nat) (a b:GV),a.size≤n→n≤100000000000→pureT T c58 [a.enc,b.enc]=some (.int .i64 (cmpV a b)):=by
 intro n
 induction n with
 | zero=>intro a b h; cases a; simp [GV.size] at h
 | succ n ih=>
  intro a b hs hn
  obtain ⟨k,num,t,l⟩:=a
  obtain ⟨k2,num2,t2,l2⟩:=b
  have hl:GV.sizes l≤n:=by simp [GV.size] at hs; omega
  have hcall:∀ x∈l,∀ y∈l2,∀ bs σ,callT T 58 [x.enc,y.enc] bs σ=some (.int .i64 (cmpV x y),σ):=fun x hx y _ bs σ=>
   call_clean rfl rfl rfl (by simp) (ih x y (by have:=(sizes_mem hx).1; omega) (by omega))
  have hf:∀ bs σ,callT T 57 [.isl (GV.encs l) false,.isl (GV.encs l2) false,.func 58 []] bs σ=some (.int .i64 (cmpVs l l2),σ):=fun bs σ=>
   call_clean rfl rfl rfl rfl (cmpFunc l l2 (by have:=len_sizes l; omega) hcall)
  apply pure_enter (by simp [c58])
  by_cases h0:cmpI k k2=0
  ·by_cases h1:k=1
   ·subst h1; simp [c58,GV.enc_eq,GV.kind,GV.num,GV.text,GV.items,call68,h0,cmpV]
   ·by_cases h2:k=2
    ·subst h2; simp [c58,GV.enc_eq,GV.kind,GV.num,GV.text,GV.items,call68,call56,h0,cmpV]
    ·by_cases h3:k=3
     ·subst h3; simp [c58,GV.enc_eq,GV.kind,GV.num,GV.text,GV.items,call68,call56,h0,cmpV]
     ·by_cases h4:k=4
      ·subst h4; simp [c58,GV.enc_eq,GV.kind,GV.num,GV.text,GV.items,call68,hf,h0,cmpV]
      ·simp [c58,GV.enc_eq,GV.kind,GV.num,GV.text,GV.items,call68,h0,h1,h2,h3,h4,cmpV]
  ·simp [c58,GV.enc_eq,GV.kind,GV.num,GV.text,GV.items,call68,h0,cmpV]
open Go.Mach
open Go.Mach
def plainB (c:Nat):Bool:=decide (32≤c) && decide (c≤126) && !decide (c=34) && !decide (c=92)
def textOK (t:ByteArray):Bool:=t.data.toList.all (fun c=>plainB c.toNat) && decide (t.size≤32)
def letterB (c:Nat):Bool:=decide (97≤c) && decide (c≤122)
def innerB (c:Nat):Bool:=letterB c || decide (c=95) || (decide (48≤c) && decide (c≤57))
def nameL:List UInt8→Bool
 | []=>false
 | c :: l=>letterB c.toNat && l.all (fun c=>innerB c.toNat)
def nameOK (t:ByteArray):Bool:=nameL t.data.toList && decide (t.size≤16)
def rightB (v:GV) (lst:Bool):Bool:=
 if v.kind=1 then decide (v.text=⟨#[]⟩∧v.items=[]∧v.num≤2147483647∧-2147483647≤v.num)
 else if v.kind=2 then decide (v.num=0∧v.items=[]∧textOK v.text=true)
 else if v.kind=3 then decide (v.num=0∧v.items=[]∧nameOK v.text=true)
 else if v.kind=4 then decide (v.num=0∧v.text=⟨#[]⟩∧lst=true)
 else false
def rightV:Nat→GV→Bool
 | 0,v=>rightB v false
 | d+1,v=>rightB v (decide (v.items.length≤16∧v.items.all (rightV d)=true))
def bt (s:ByteArray) (i:Nat):Nat:=((s.data.toList[i]?).getD 0).toNat
theorem bt_eq {s:ByteArray} {i:Nat} (h:i<s.size):bt s i=(s.data.toList[i]'(by simpa using h)).toNat:=by
 simp only [bt]; rw [zqF (by simpa using h)]; rfl
theorem all_bt (s:ByteArray) (p:Nat→Bool):s.data.toList.all (fun c=>p c.toNat)=true↔∀ i,i<s.size→p (bt s i)=true:=by
 rw [zqQ]
 constructor
 ·intro h i hi
  rw [bt_eq hi]; exact h _ (zqT _)
 ·intro h c hc
  obtain ⟨i,hi,rfl⟩:=zqS hc
  have hi':i<s.size:=by simpa using hi
  have:=h i hi'
  rwa [bt_eq hi'] at this
theorem ba_empty (t:ByteArray):t=ByteArray.empty↔t.size=0:=⟨fun h=>by rw [h]; rfl,fun h=>ByteArray.ext (Array.eq_empty_of_size_eq_zero h)⟩
theorem ba_nil (t:ByteArray):t=⟨#[]⟩↔t.size=0:=⟨fun h=>by rw [h]; rfl,fun h=>ByteArray.ext (Array.eq_empty_of_size_eq_zero h)⟩
theorem ba_get {s:ByteArray} {i:Nat} (h:i<s.size):s[i]'h=s.data.toList[i]'(by simpa using h):=by
 cases s; rfl
theorem dec_lo {s:ByteArray} {i:Nat} (h:i<s.size) (ha:bt s i<128):Utf8.decode s i=(bt s i,1):=by
 rw [bt_eq h] at ha ⊢
 have:=decode_ascii s i h (by rw [ba_get h]; exact ha)
 rw [this,ba_get h]
theorem dec_hi {s:ByteArray} {i:Nat} (h:i<s.size) (ha:128≤bt s i):128≤(Utf8.decode s i).1:=by
 rw [bt_eq h] at ha
 exact (decode_high s i h (by rw [ba_get h]; exact ha)).1
theorem textOK_iff (t:ByteArray):textOK t=true↔(∀ i,i<t.size→plainB (bt t i)=true)∧t.size≤32:=by
 rw [textOK,zqL,all_bt t plainB,decide_eq_true_eq]
theorem textOK_no {t:ByteArray} {i:Nat} (h:i<t.size) (hp:plainB (bt t i)=false):textOK t=false:=by
 rw [Bool.eq_false_iff,Ne,textOK_iff]; intro hh; rw [hh.1 i h] at hp; cases hp
theorem plain_ok (t:ByteArray) (ht:t.size≤100000000000):pureT T c78 [.str t]=some (.bool (textOK t)):=by
 apply pure_enter (by simp [c78])
 simp [c78]
 refine W_for T 0 27 t.size (fun i f σ=>f 0=.str t∧f 6=.ptr 0 0∧σ=[.iter t i]∧∀ j,j<i→plainB (bt t j)=true) ?_ _ _ ?_
 ·rintro i f σ hi ⟨h0,h6,rfl,hall⟩
  by_cases hlt:i<t.size
  ·by_cases hlo:bt t i<128
   ·simp [h0,h6,hlt,dec_lo hlt hlo]
    have hno:=@textOK_no t i hlt
    refine ⟨fun h=>hno (by simp [plainB]; omega),fun h=>⟨fun h=>hno (by simp [plainB]; omega),fun h=>⟨fun h=>hno (by simp [plainB]; omega),fun h=>⟨fun h=>hno (by simp [plainB]; omega),fun h j hj=>?_⟩⟩⟩⟩
    by_cases e:j=i
    ·subst e; simp [plainB]; omega
    ·exact hall j (by omega)
   ·have:=dec_hi hlt (by omega)
    simp [h0,h6,hlt]
    have hno:=@textOK_no t i hlt
    refine ⟨fun h=>by omega,fun h=>⟨fun h=>hno (by simp [plainB]; omega),fun h=>by omega⟩⟩
  ·have he:i=t.size:=by omega
   subst he
   simp [h0,h6]
   refine ⟨fun h=>?_,fun h=>?_⟩
   ·exact (textOK_iff t).2 ⟨fun i hi=>hall i hi,by omega⟩
   ·refine Bool.eq_false_iff.2 fun hh=>?_
    have:=((textOK_iff t).1 hh).2
    omega
 ·simp
def nameG (s:ByteArray) (i:Nat):Bool:=if i=0 then letterB (bt s i) else innerB (bt s i)
theorem nameG_iff (s:ByteArray) (i:Nat):nameG s i=true↔(97≤bt s i∧bt s i≤122)∨(i≠0∧(bt s i=95∨(48≤bt s i∧bt s i≤57))):=by
 unfold nameG
 split
 ·simp [letterB]; omega
 ·simp [letterB,innerB]; omega
theorem nameOK_iff (t:ByteArray):nameOK t=true↔(∀ i,i<t.size→nameG t i=true)∧t.size≠0∧t.size≤16:=by
 have hs:t.data.toList.length=t.size:=by simp
 simp only [nameOK,zqL,decide_eq_true_eq]
 match hl:t.data.toList with
 | []=>
  rw [hl] at hs; simp at hs
  simp only [nameL,Bool.false_eq_true,false_and,false_iff]; omega
 | c :: l=>
  rw [hl] at hs; simp at hs
  have hb:∀ i,bt t i=(((c :: l)[i]?).getD 0).toNat:=fun i=>by simp only [bt,hl]
  simp only [nameL,zqL,zqQ]
  constructor
  ·rintro ⟨⟨h1,h2⟩,h3⟩
   refine ⟨fun i hi=>?_,by omega,h3⟩
   unfold nameG
   cases i with
   | zero=>simp [hb,h1]
   | succ i=>
    have hi':i<l.length:=by omega
    simp [hb,zqF hi',h2 l[i] (zqT hi')]
  ·rintro ⟨h1,h2,h3⟩
   refine ⟨⟨?_,fun x hx=>?_⟩,h3⟩
   ·have:=h1 0 (by omega)
    simpa [nameG,hb] using this
   ·obtain ⟨i,hi,rfl⟩:=zqS hx
    have:=h1 (i+1) (by omega)
    simpa [nameG,hb,zqF hi] using this
theorem nameOK_no {t:ByteArray} {i:Nat} (h:i<t.size) (hp:¬ ((97≤bt t i∧bt t i≤122)∨(i≠0∧(bt t i=95∨(48≤bt t i∧bt t i≤57))))):nameOK t=false:=by
 rw [←nameG_iff] at hp
 rw [Bool.eq_false_iff,Ne,nameOK_iff]; intro hh; exact hp (hh.1 i h)
theorem name_ok (t:ByteArray) (ht:t.size≤100000000000):pureT T c38 [.str t]=some (.bool (nameOK t)):=by
 apply pure_enter (by simp [c38])
 simp [c38]
 refine W_for T 0 43 t.size (fun i f σ=>f 0=.str t∧f 7=.ptr 0 0∧σ=[.iter t i]∧∀ j,j<i→nameG t j=true) ?_ _ _ ?_
 ·rintro i f σ hi ⟨h0,h6,rfl,hall⟩
  by_cases hlt:i<t.size
  ·have hno:=@nameOK_no t i hlt
   have hyes:_→∀ j,j<i+1→nameG t j=true:=fun h j hj=>by
    by_cases e:j=i
    ·subst e; exact (nameG_iff t j).2 h
    ·exact hall j (by omega)
   by_cases hlo:bt t i<128
   ·simp [h0,h6,hlt,dec_lo hlt hlo]
    repeat' (first | apply And.intro | intro _)
    all_goals first | exact hno (by omega) | exact hyes (by omega) _ (by assumption)
   ·have:=dec_hi hlt (by omega)
    simp [h0,h6,hlt]
    repeat' (first | apply And.intro | intro _)
    all_goals first | exact hno (by omega) | omega
  ·have he:i=t.size:=by omega
   subst he
   have hb:(nameOK t=true)↔t.size≠0∧t.size≤16:=by rw [nameOK_iff]; exact ⟨fun h=>h.2,fun h=>⟨fun i hi=>hall i hi,h⟩⟩
   simp [h0,h6,ba_empty,ba_nil,-ByteArray.size_eq_zero_iff]
   refine ⟨fun h=>⟨fun h2=>hb.2 ⟨h,by omega⟩,fun h2=>?_⟩,fun h=>?_⟩
   all_goals (refine Bool.eq_false_iff.2 fun hh=>?_; have:=hb.1 hh; omega)
 ·simp
theorem empty_ok (k n:Int) (t:ByteArray) (es:List AV):pureT T c77 [.agg [.int .i64 k,.int .i64 n,.str t,.isl es false]]=some (.bool (decide (k=0) && decide (n=0) && decide (t=⟨#[]⟩) && decide (es=[]))):=by
 apply pure_enter (by simp [c77])
 simp [c77]
 repeat' (first | apply And.intro | intro _)
 all_goals simp_all
theorem call_empty (k n:Int) (t:ByteArray) (es:List AV) (c:Bool) (bs:Nat) (σ:Heap):callT T 77 [.agg [.int .i64 k,.int .i64 n,.str t,.isl es c]] bs σ=some (.bool (sym (decide (k=0) && decide (n=0) && decide (t=⟨#[]⟩) && decide (es=[]))),σ):=
 call_scal rfl rfl rfl (empty_ok k n t es) rfl rfl rfl
def idxI (p:GV→Bool) (l:List GV):Int:=match l.findIdx? p with
 | some i=>(i:Int)
 | none=>-1
theorem findIdx_drop (p:GV→Bool) (l:List GV) (i:Nat) (hi:i<l.length) (h:∀ j,(hj:j<l.length)→j<i→p l[j]=false) (hp:p l[i]=true):l.findIdx? p=some i:=by
 rw [List.findIdx?_eq_some_iff_getElem]
 exact ⟨hi,hp,fun j hj=>by rw [h j (by omega) hj]; simp⟩
theorem index_ok (p:GV→Bool) (l:List GV) (g:Nat) (caps:List AV) (hl:l.length≤100000000000) (hc:∀ x∈l,∀ bs σ,callT T g (x.enc :: caps) bs σ=some (.bool (p x),σ)) :
  pureT T c84 [.isl (GV.encs l) false,.func g caps]=some (.int .i64 (idxI p l)):=by
 apply pure_enter (by simp [c84])
 simp [c84]
 refine W_for T 0 19 l.length (fun i f σ=>f 0=.isl (GV.encs l) false∧f 1=.func g caps∧f 7=.int .i64 (l.length:Int)∧f 8=.int .i64 (i:Int)∧∀ j,(hj:j<l.length)→j<i→p l[j]=false) ?_ _ _ ?_
 ·rintro i f σ hi ⟨h0,h1,h7,h8,hall⟩
  by_cases hlt:i<l.length
  ·have e1:l[i]?=some l[i]:=zqF hlt
   have hcl:=hc l[i] (zqT hlt)
   cases hp:p l[i]
   ·simp [h0,h1,h7,h8,hlt,hcl,hp]
    refine ⟨wr64 (by omega) (by omega),fun j hj hji=>?_⟩
    by_cases e:j=i
    ·subst e; exact hp
    ·exact hall j hj (by omega)
   ·simp [h0,h1,h7,h8,hlt,hcl,hp]
    simp [idxI,findIdx_drop p l i hlt hall hp]
  ·have he:i=l.length:=by omega
   subst he
   have hn:l.findIdx? p=none:=by
    rw [List.findIdx?_eq_none_iff]
    intro x hx
    obtain ⟨j,hj,rfl⟩:=zqS hx
    exact hall j hj hj
   simp [h0,h1,h7,h8,idxI,hn]
 ·simp
theorem contains_ok (p:GV→Bool) (l:List GV) (g:Nat) (caps:List AV) (hcl:caps.all AV.cleanC=true) (hl:l.length≤100000000000) (hc:∀ x∈l,∀ bs σ,callT T g (x.enc :: caps) bs σ=some (.bool (p x),σ)) :
  pureT T c79 [.isl (GV.encs l) false,.func g caps]=some (.bool (l.any p)):=by
 have h1:∀ bs σ,callT T 84 [.isl (GV.encs l) false,.func g caps] bs σ=some (.int .i64 (idxI p l),σ):=fun bs σ=>call_clean rfl rfl rfl (by simp [hcl]) (index_ok p l g caps hl hc)
 apply pure_enter (by simp [c79])
 have h2:(0≤idxI p l)↔l.any p=true:=by
  unfold idxI
  cases h:l.findIdx? p with
  | none=>rw [List.findIdx?_eq_none_iff] at h; simp only [List.any_eq_true]; exact ⟨fun h=>by omega,fun ⟨x,hx,hp⟩=>by rw [h x hx] at hp; cases hp⟩
  | some i=>
   rw [List.findIdx?_eq_some_iff_getElem] at h
   obtain ⟨hi,hp,_⟩:=h
   exact ⟨fun _=>List.any_eq_true.2 ⟨_,zqT hi,hp⟩,fun _=>by simp⟩
 simp [c79,h1]
 refine ⟨fun h=>by simpa using h2.1 h,fun h=>?_⟩
 have:¬ l.any p=true:=fun hh=>by have:=h2.2 hh; omega
 simpa using this
theorem plain_call (t:ByteArray) (ht:t.size≤100000000000) (bs:Nat) (σ:Heap):callT T 78 [.str t] bs σ=some (.bool (sym (textOK t)),σ):=call_clean rfl rfl rfl rfl (plain_ok t ht)
theorem name_call (t:ByteArray) (ht:t.size≤100000000000) (bs:Nat) (σ:Heap):callT T 38 [.str t] bs σ=some (.bool (sym (nameOK t)),σ):=call_clean rfl rfl rfl rfl (name_ok t ht)
theorem encs_nil (l:List GV):GV.encs l=[]↔l=[]:=by cases l <;> simp [GV.encs]
theorem right_base (d:Nat) (lst:Bool) (k n:Int) (t:ByteArray) (l:List GV) (ht:t.size≤100000000000) (hk:k≠4) :
  pureT T c72 [(GV.mk k n t l).enc,.int .i64 d]=some (.bool (rightB (GV.mk k n t l) lst)):=by
 have hp:=plain_call t ht
 have hn:=name_call t ht
 apply pure_enter (by simp [c72])
 by_cases h1:k=1
 ·subst h1; simp [c72,GV.enc_eq,GV.kind,GV.num,GV.text,GV.items,call_empty,rightB,setRun,encs_nil]
  repeat' (first | apply And.intro | intro _)
  all_goals grind
 by_cases h2:k=2
 ·subst h2; simp [c72,GV.enc_eq,GV.kind,GV.num,GV.text,GV.items,call_empty,rightB,setRun,hp,encs_nil]
  repeat' (first | apply And.intro | intro _)
  all_goals grind
 by_cases h3:k=3
 ·subst h3; simp [c72,GV.enc_eq,GV.kind,GV.num,GV.text,GV.items,call_empty,rightB,setRun,hn,encs_nil]
  repeat' (first | apply And.intro | intro _)
  all_goals grind
 simp [c72,GV.enc_eq,GV.kind,GV.num,GV.text,GV.items,call_empty,rightB,setRun,h1,h2,h3,hk]
theorem right_ok:∀ (d:Nat) (v:GV),d≤100→v.size≤100000000000→pureT T c72 [v.enc,.int .i64 d]=some (.bool (rightV d v)):=by
 intro d
 induction d with
 | zero=>
  intro v hd hs
  obtain ⟨k,n,t,l⟩:=v
  simp only [GV.size] at hs
  by_cases h4:k=4
  ·subst h4
   apply pure_enter (by simp [c72])
   simp [c72,GV.enc_eq,GV.kind,GV.num,GV.text,GV.items,call_empty,rightV,rightB,setRun]
  exact right_base 0 _ k n t l (by omega) h4
 | succ d ih=>
  intro v hd hs
  obtain ⟨k,n,t,l⟩:=v
  simp only [GV.size] at hs
  by_cases h4:k=4
  ·subst h4
   have hw:IntKind.i64.wrap (d:Int)=(d:Int):=wr64 (by omega) (by omega)
   have hcl:∀ x∈l,∀ bs σ,callT T 80 [x.enc,.iptr [.int .i64 ((d:Int)+1)] 0] bs σ=some (.bool (!rightV d x),σ):=fun x hx bs σ=>by
    have hr:∀ bs σ,callT T 72 [x.enc,.int .i64 d] bs σ=some (.bool (rightV d x),σ):=fun bs σ=>call_clean rfl rfl rfl (by simp) (ih x (by omega) (by have:=(sizes_mem hx).1; omega))
    refine call_clean rfl rfl rfl (by simp) (?_:pureT T c80 [x.enc,.iptr [.int .i64 ((d:Int)+1)] 0]=_)
    apply pure_enter (by simp [c80])
    simp [c80,hr,hw]
   have hlen:=len_sizes l
   have hcont:∀ bs A C,callT T 79 [.isl (GV.encs l) false,.func 80 [.ptr 1 0]] bs [A,.cells [.int .i64 ((d:Int)+1)] 0 false,C]=some (.bool (sym (l.any fun x=>!rightV d x)),[A,.cells [.int .i64 ((d:Int)+1)] 0 false,C]):=fun bs A C=>
    call_scal rfl rfl rfl (contains_ok _ l 80 [.iptr [.int .i64 ((d:Int)+1)] 0] (by simp) (by omega) hcl) rfl (by simp) (by simp [frz]; rfl)
   apply pure_enter (by simp [c72])
   simp [c72,GV.enc_eq,GV.kind,GV.num,GV.text,GV.items,call_empty,rightV,rightB,setRun,hcont,encs_nil]
   repeat' (first | apply And.intro | intro _)
   all_goals grind
  exact right_base _ _ k n t l (by omega) h4
open Go.Mach
abbrev rightT (v:GV):Bool:=rightV 4 v
theorem valRight_ok (v:GV) (hs:v.size≤100000000000):pureT T c55 [v.enc]=some (.bool (rightT v)):=by
 have hr:∀ bs σ,callT T 72 [v.enc,.int .i64 4] bs σ=some (.bool (sym (rightT v)),σ):=fun bs σ=>call_clean rfl rfl rfl (by simp) (right_ok 4 v (by omega) hs)
 apply pure_enter (by simp [c55])
 simp [c55,hr]
theorem valRight (v:GV) (hs:v.size≤100000000000) (bs:Nat) (σ:Heap):callT T 55 [v.enc] bs σ=some (.bool (sym (rightT v)),σ):=call_clean rfl rfl rfl (by simp) (valRight_ok v hs)
theorem valCmp (a b:GV) (hs:a.size≤100000000000) (bs:Nat) (σ:Heap):callT T 58 [a.enc,b.enc] bs σ=some (.int .i64 (cmpV a b),σ):=call_clean rfl rfl rfl (by simp) (cmp58 a.size a b (Nat.le_refl _) hs)
end Go.Proofs.Ytkempedphjopmaa
end
section
namespace Go.Mach
def bv (l:List UInt8):List AV:=l.map fun b=>.int .u8 (b.toNat:Int)
theorem u8s_bv (s:ByteArray):u8s s=bv s.data.toList:=rfl
@[simp] theorem bv_length (l:List UInt8):(bv l).length=l.length:=by simp [bv]
theorem bv_set (l:List UInt8) (i:Nat) (b:UInt8):(bv l).set i (.int .u8 (b.toNat:Int))=bv (l.set i b):=by simp [bv,List.map_set]
theorem bv_win {l:List UInt8} {i:Nat} (h:i<l.length):window (bv l) i 1=some [.int .u8 (l[i].toNat:Int)]:=by
 unfold window
 rw [if_pos (by simp; omega)]
 congr 1
 apply List.ext_getElem?
 intro j
 rw [List.getElem?_take,List.getElem?_drop]
 cases j with
 | zero=>simp [bv,h]
 | succ j=>simp
theorem bv_all (l:List UInt8):window (bv l) 0 l.length=some (bv l):=by
 unfold window
 rw [if_pos (by simp)]
 rw [List.drop_zero,List.take_of_length_le (by simp)]
theorem chunk_one:∀ l:List AV,chunk 1 false l.length l=some l
 | []=>rfl
 | x :: l=>by simp [chunk_one l]
theorem bytesA_bv (l:List UInt8):bytesA (bv l)=some ⟨l.toArray⟩:=by
 have:(bv l).mapM ofU8=some l:=by
  induction l with
  | nil=>rfl
  | cons b l ih=>
   show (AV.int .u8 (b.toNat:Int) :: bv l).mapM ofU8=some (b :: l)
   rw [List.mapM_cons,ih]
   simp [ofU8]
 unfold bytesA; rw [this]; rfl
theorem elems_bv {σ:Heap} {id:Nat} {l:List UInt8} {fz:Nat} {ext:Bool} {n:Nat} (h:σ[id]?=some (.cells (bv l) fz ext)) (hn:n=l.length):elemsA σ 1 false (.sl id 0 n 1 false)=some (bv l):=by
 subst hn
 simp only [elemsA,h,Nat.mul_one,bv_all,Option.bind_some]
 have:=chunk_one (bv l)
 rwa [bv_length] at this
theorem b2s_bv {σ:Heap} {id:Nat} {l:List UInt8} {fz:Nat} {ext:Bool} {n:Nat} (h:σ[id]?=some (.cells (bv l) fz ext)) (hn:n=l.length):b2sV σ (.sl id 0 n 1 false)=some (.str ⟨l.toArray⟩):=by
 simp [b2sV,isSl,elems_bv h hn,bytesA_bv]
theorem setRun_one (cs:List AV) (i:Nat) (v:AV):setRun cs i [v]=cs.set i v:=rfl
def mp {α:Type} (g:α→α) (l:List α) (i:Nat):List α:=(l.take i).map g++l.drop i
section
variable {α:Type} {g:α→α} {l:List α} {i:Nat}
@[simp] theorem mp_len:(mp g l i).length=l.length:=by simp [mp]; omega
theorem mp_zero:mp g l 0=l:=by simp [mp]
theorem mp_all:mp g l l.length=l.map g:=by simp [mp]
theorem mp_get (h:i<l.length):(mp g l i)[i]'(by simpa using h)=l[i]:=by
 simp only [mp]
 rw [List.getElem_append_right (by simp; omega)]
 simp [Nat.min_eq_left (Nat.le_of_lt h)]
theorem mp_set (h:i<l.length):(mp g l i).set i (g l[i])=mp g l (i+1):=by
 simp only [mp]
 rw [List.set_append_right _ _ (by simp; omega)]
 have:i - ((l.take i).map g).length=0:=by simp; omega
 rw [this,zqM h,List.set_cons_zero,List.take_add_one,zqF h,List.map_append]
 simp
end
end Go.Mach
namespace Go.Proofs.Ytkempedphjopmaa
open Go.Mach
def pickN (c:Int) (n:Nat):Nat:=((if c<0 then -(c+1) else c).toNat) % n
theorem pickN_lt {c:Int} {n:Nat} (h:0<n):pickN c n<n:=Nat.mod_lt _ h
theorem pick_eq (c:Int) (n:Nat) (h:0<n) (h1:-9223372036854775808≤c) (h2:c≤9223372036854775807) :
  ((if c<0 then IntKind.i64.wrap (0 - IntKind.i64.wrap (c+1)) else c).tmod n)=(pickN c n:Int):=by
 by_cases hc:c<0
 ·rw [if_pos hc,wr64 (n:=c+1) (by omega) (by omega),wr64 (by omega) (by omega)]
  simp only [pickN,if_pos hc]
  have:(0 - (c+1):Int)=(((-(c+1)).toNat:Nat):Int):=by omega
  rw [this]; rfl
 ·rw [if_neg hc]
  simp only [pickN,if_neg hc]
  have:c=((c.toNat:Nat):Int):=by omega
  rw [this,Int.toNat_natCast]; rfl
theorem pick1_ok (c n:Int) (h:n≠0):pureT T c63 [.int .i64 c,.int .i64 n]=some (.int .i64 ((if c<0 then IntKind.i64.wrap (0 - IntKind.i64.wrap (c+1)) else c).tmod n)):=by
 apply pure_enter (by simp [c63])
 by_cases hc:c<0
 ·simp [c63,hc,h]
 ·simp [c63,hc,h]
theorem pick1 (c:Int) (n:Nat) (h:0<n) (h1:GV.i64ok c) (bs:Nat) (σ:Heap) :
  callT T 63 [.int .i64 c,.int .i64 (n:Int)] bs σ=some (.int .i64 (pickN c n:Int),σ):=by
 refine call_clean rfl rfl rfl rfl ?_
 rw [pick1_ok c n (by omega),pick_eq c n h h1.1 h1.2]
theorem pick4 (c:Int) (h1:GV.i64ok c) (bs:Nat) (σ:Heap):callT T 63 [.int .i64 c,.int .i64 4] bs σ=some (.int .i64 (pickN c 4:Int),σ):=pick1 c 4 (by omega) h1 bs σ
theorem pickM (c:Int) (h1:GV.i64ok c) (bs:Nat) (σ:Heap):callT T 63 [.int .i64 c,.int .i64 4294967295] bs σ=some (.int .i64 (pickN c 4294967295:Int),σ):=pick1 c 4294967295 (by omega) h1 bs σ
def nameC (b:UInt8):UInt8:=if b.toNat % 37<26 then UInt8.ofNat (97+b.toNat % 37) else if b.toNat % 37<36 then UInt8.ofNat (22+b.toNat % 37) else 95
def nameFit (s:ByteArray):ByteArray:=⟨(110 :: (s.data.toList.take 15).map nameC).toArray⟩
theorem tm (n m:Nat):((n:Int)).tmod (m:Int)=((n % m:Nat):Int):=rfl
theorem u8of {n:Nat} (h:n<256):((UInt8.ofNat n).toNat:Int)=(n:Int):=by rw [UInt8.toNat_ofNat',Nat.mod_eq_of_lt h]
theorem lawName_ok (s:ByteArray) (hs:s.size≤100000000000):pureT T c64 [.str s]=some (.str (nameFit s)):=by
 apply pure_enter (by simp [c64])
 obtain ⟨m,hm,hmin⟩:∃ m:Nat,m=min s.size 15∧(if (15:Int)<(s.size:Int) then (15:Int) else (s.size:Int))=(m:Int):=⟨_,rfl,by split <;> omega⟩
 generalize hl:s.data.toList.take m=l
 have hll:l.length=m:=by rw [←hl]; simp; omega
 have hcat:u8s (⟨#[110]⟩++s.extract 0 m)=bv (110 :: l):=by
  rw [u8s_bv]; congr 1; rw [←hl]; simp [ByteArray.data_append,ByteArray.data_extract]
 have hsz:(⟨#[110]⟩++s.extract 0 m:ByteArray).size=m+1:=by
  have:=congrArg List.length hcat
  rw [u8s_len] at this; rw [this]; simp [hll]
 have hle:m≤s.size:=by omega
 have hadd:(1:Int)+(m:Int)≤9223372036854775807:=by omega
 have hone:(⟨#[110]⟩:ByteArray).size=1:=rfl
 have hfit:nameFit s=⟨(110 :: l.map nameC).toArray⟩:=by
  simp only [nameFit]
  rw [←hl,hm]
  congr 3
  rcases Nat.lt_or_ge s.size 15 with h | h
  ·rw [List.take_of_length_le (by simp; omega),List.take_of_length_le (by simp; omega)]
  ·rw [Nat.min_eq_right h]
 simp [c64,hmin,hcat,hle,hadd,hsz,hone]
 subst hll
 refine W_for T 0 44 l.length (fun i f σ=>f 3=.sl 0 0 (l.length+1) 1 false∧f 4=.int .i64 ((i:Int)+1)∧σ=[.cells (bv (110 :: mp nameC l i)) 0 true]) ?_ _ _ ?_
 ·rintro i f σ hi ⟨h3,h4,rfl⟩
  by_cases hlt:i<l.length
  ·have hw:IntKind.i64.wrap ((i:Int)+1+1)=(i:Int)+1+1:=wr64 (by omega) (by omega)
   have hc2:(0:Int)≤(i:Int)+1:=by omega
   have hc3:((i:Int)+1).toNat=i+1:=by omega
   have hc4:i+1≤l.length:=hlt
   have hwin:=bv_win (l:=110 :: mp nameC l i) (i:=i+1) (by simp; omega)
   simp [mp_get hlt] at hwin
   have htm:((l[i].toNat:Int)).tmod 37=((l[i].toNat % 37:Nat):Int):=rfl
   have hfin:∀ v:Int,v=((nameC l[i]).toNat:Int)→(bv (110 :: mp nameC l i)).set (i+1) (.int .u8 v)=bv (110 :: mp nameC l (i+1)):=by
    rintro _ rfl; rw [bv_set,List.set_cons_succ,mp_set hlt]
   generalize hk:l[i].toNat % 37=k at *
   have hk37:k<37:=by omega
   have hn:nameC l[i]=(if k<26 then UInt8.ofNat (97+k) else if k<36 then UInt8.ofNat (22+k) else 95):=by simp only [nameC,hk]
   simp [h3,h4,hc2,hc3,hc4,hw,hlt,hwin,htm,setRun_one]
   refine ⟨fun h=>hfin _ ?_,fun h=>⟨fun h2=>hfin _ ?_,fun h2=>hfin _ ?_⟩⟩
   ·rw [hn,if_pos (by omega),u8of (by omega),wru8 (by omega) (by omega)]; omega
   ·rw [hn,if_neg (by omega),if_pos (by omega),u8of (by omega),wru8 (n:=48+(k:Int)) (by omega) (by omega),wru8 (by omega) (by omega)]; omega
   ·rw [hn,if_neg (by omega),if_neg (by omega)]; rfl
  ·have he:i=l.length:=by omega
   subst he
   have hel:=b2s_bv (σ:=[.cells (bv (110 :: mp nameC l l.length)) 0 true]) (id:=0) (l:=110 :: mp nameC l l.length) rfl (n:=l.length+1) (by simp)
   rw [mp_all] at hel
   simp [h3,h4,mp_all,hel,hfit]
 ·simp [mp_zero]
theorem lawName (s:ByteArray) (hs:s.size≤100000000000) (bs:Nat) (σ:Heap):callT T 64 [.str s] bs σ=some (.str (nameFit s),σ):=call_clean rfl rfl rfl (by simp) (lawName_ok s hs)
def textC (b:UInt8):UInt8:=if 32+b.toNat % 95=34∨32+b.toNat % 95=92 then 32 else UInt8.ofNat (32+b.toNat % 95)
def textFit (s:ByteArray):ByteArray:=⟨((s.data.toList.take 32).map textC).toArray⟩
def fitV:Nat→GV→GV
 | d,v=>
  if pickN v.kind 4=0 then .mk 1 ((pickN v.num 4294967295:Int) - 2147483647) ⟨#[]⟩ []
  else if pickN v.kind 4=1 then .mk 2 0 (textFit v.text) []
  else if pickN v.kind 4=2 then .mk 3 0 (nameFit v.text) []
  else match d with
   | 0=>.mk 4 0 ⟨#[]⟩ []
   | d+1=>.mk 4 0 ⟨#[]⟩ ((v.items.take 16).map fun x=>fitV d (if d=0∧pickN x.kind 4=3 then .mk 0 x.num x.text x.items else x))
theorem fit_text (d:Int) (v:GV) (hv:v.ok) (hs:v.text.size≤100000000000) (hk:pickN v.kind 4=1):pureT T c47 [v.enc,.int .i64 d]=some (GV.mk 2 0 (textFit v.text) []).enc:=by
 apply pure_enter (by simp [c47])
 obtain ⟨k,n,s,items⟩:=v
 simp only [GV.ok] at hv
 replace hk:pickN k 4=1:=hk
 replace hs:s.size≤100000000000:=hs
 have hp:=pick4 k hv.1
 rw [hk] at hp
 obtain ⟨m,hm,hmin⟩:∃ m:Nat,m=min s.size 32∧(if (32:Int)<(s.size:Int) then (32:Int) else (s.size:Int))=(m:Int):=⟨_,rfl,by split <;> omega⟩
 generalize hl:s.data.toList.take m=l
 have hll:l.length=m:=by rw [←hl]; simp; omega
 have hcat:u8s (s.extract 0 m)=bv l:=by
  rw [u8s_bv]; congr 1; rw [←hl]; simp [ByteArray.data_append,ByteArray.data_extract]
 have hle:m≤s.size:=by omega
 have hsz:(s.extract 0 m:ByteArray).size=m:=by rw [ByteArray.size_extract]; omega
 have hfit:textFit s=⟨(l.map textC).toArray⟩:=by
  simp only [textFit]
  rw [←hl,hm]
  congr 3
  rcases Nat.lt_or_ge s.size 32 with h | h
  ·rw [List.take_of_length_le (by simp; omega),List.take_of_length_le (by simp; omega)]
  ·rw [Nat.min_eq_right h]
 simp [c47,GV.enc_eq,GV.kind,GV.num,GV.text,GV.items,hp,hmin,hle,hcat,hsz]
 subst hll
 refine W_for T 0 107 l.length (fun i f σ=>f 4=.ptr 1 0∧f 6=.sl 2 0 l.length 1 false∧f 7=.int .i64 (i:Int)∧∃ A,σ=[A,.cells [.int .i64 0,.int .i64 0,.str ⟨#[]⟩,.isl [] true] 0 false,.cells (bv (mp textC l i)) 0 true]) ?_ _ _ ?_
 ·rintro i f σ hi ⟨h4,h6,h7,A,rfl⟩
  by_cases hlt:i<l.length
  ·have hw:IntKind.i64.wrap ((i:Int)+1)=(i:Int)+1:=wr64 (by omega) (by omega)
   have hc4:i+1≤l.length:=hlt
   have hwin:=bv_win (l:=mp textC l i) (i:=i) (by simp; omega)
   simp [mp_get hlt] at hwin
   have htm:((l[i].toNat:Int)).tmod 95=((l[i].toNat % 95:Nat):Int):=rfl
   generalize hk:l[i].toNat % 95=k at *
   have hk37:k<95:=by omega
   obtain ⟨b,hb,hbn⟩:∃ b:UInt8,b=UInt8.ofNat (32+k)∧b.toNat=32+k:=⟨_,rfl,by rw [UInt8.toNat_ofNat',Nat.mod_eq_of_lt (by omega)]⟩
   have hn:textC l[i]=(if b.toNat=34∨b.toNat=92 then 32 else b):=by simp only [textC,hk,hbn]; rw [hb]
   have hv:IntKind.u8.wrap (32+(k:Int))=(b.toNat:Int):=by rw [wru8 (by omega) (by omega)]; omega
   have hst:(bv (mp textC l i)).set i (.int .u8 (b.toNat:Int))=bv ((mp textC l i).set i b):=bv_set ..
   have hwin2:=bv_win (l:=(mp textC l i).set i b) (i:=i) (by simp; omega)
   rw [List.getElem_set_self] at hwin2
   have hst2:(bv ((mp textC l i).set i b)).set i (.int .u8 32)=bv ((mp textC l i).set i 32):=by
    have:=bv_set ((mp textC l i).set i b) i 32
    rw [List.set_set] at this; exact this
   have e1:b.toNat=34∨b.toNat=92→(mp textC l i).set i 32=mp textC l (i+1):=fun h=>by rw [←mp_set hlt,hn,if_pos h]
   have e2:¬ (b.toNat=34∨b.toNat=92)→(mp textC l i).set i b=mp textC l (i+1):=fun h=>by rw [←mp_set hlt,hn,if_neg h]
   simp [h4,h6,h7,hc4,hw,hlt,hwin,htm,hv,setRun_one,hst,hwin2,hst2]
   refine ⟨fun h=>by rw [e1 (by omega)],fun h=>⟨fun h=>by rw [e1 (by omega)],fun h=>by rw [e2 (by omega)]⟩⟩
  ·have he:i=l.length:=by omega
   subst he
   have hel:=b2s_bv (σ:=[A,.cells [.int .i64 0,.int .i64 0,.str ⟨#[]⟩,.isl [] true] 0 false,.cells (bv (mp textC l l.length)) 0 true]) (id:=2) (l:=mp textC l l.length) rfl (n:=l.length) (by simp)
   rw [mp_all] at hel
   simp [h4,h6,h7,mp_all,hel,hfit,setRun,GV.encs]
 ·simp [mp_zero]
end Go.Proofs.Ytkempedphjopmaa
end
section
namespace Go.Proofs.Ytkempedphjopmaa
open Go.Mach
theorem enc_mk (k n:Int) (t:ByteArray) (l:List GV):AV.agg [.int .i64 k,.int .i64 n,.str t,.isl (GV.encs l) false]=(GV.mk k n t l).enc:=by simp only [GV.enc]
@[simp] theorem gv_eta (v:GV):GV.mk v.kind v.num v.text v.items=v:=by cases v; rfl
@[simp] theorem encs_nil':GV.encs []=[]:=rfl
@[simp] theorem encs_one (v:GV):GV.encs [v]=[v.enc]:=rfl
@[simp] theorem encs_snoc (l:List GV) (v:GV):GV.encs l++[v.enc]=GV.encs (l++[v]):=by simp [GV.encs_map]
@[simp] theorem encs_okEl (l:List GV):(GV.encs l).all (okEl 4 true)=true:=by
 rw [zqQ]
 intro x hx
 rw [GV.encs_map] at hx
 obtain ⟨v,_,rfl⟩:=List.mem_map.1 hx
 rw [GV.enc_eq]; rfl
def LstAt (rest:Heap) (off:Nat) (es:List AV) (sz:Nat) (lst:AV):Prop:=
 (es=[]∧lst=.isl [] true)∨(∃ k,lst=.own (k+off) es∧k<rest.length∧rest[k]?=some (.tok es.length sz))
theorem fit_list (d:Nat) (hd:d≤100) (k n:Int) (t:ByteArray) (items:List GV) (hv:(GV.mk k n t items).ok) (hl:items.length≤100000000000) (hk:pickN k 4=3) (g:GV→GV)
  (hg:∀ x∈items,∀ bs σ,callT T 47 [(if d≤1∧pickN x.kind 4=3 then GV.mk 0 x.num x.text x.items else x).enc,.int .i64 ((d:Int) - 1)] bs σ=some ((g x).enc,σ)) :
  pureT T c47 [(GV.mk k n t items).enc,.int .i64 d]=some (GV.mk 4 0 ⟨#[]⟩ ((items.take 16).map g)).enc:=by
 apply pure_enter (by simp [c47])
 simp only [GV.ok] at hv
 have hp:=pick4 k hv.1
 rw [hk] at hp
 simp [c47,hp,setRun]
 refine W_for T 0 107 (min items.length 16) (fun i f σ=>f 1=.int .i64 (d:Int)∧f 2=.ptr 0 0∧f 4=.ptr 1 0∧f 8=.ptr 2 0∧f 9=.int .i64 (i:Int)∧∃ lst rest,
  σ=[.cells [.int .i64 k,.int .i64 n,.str t,.isl (GV.encs items) false] 0 false,.cells [.int .i64 0,.int .i64 0,.str ⟨#[]⟩,.isl [] true] 0 false,.cells [.int .i64 4,.int .i64 0,.str ⟨#[]⟩,lst] 0 false]++rest ∧
  LstAt rest 3 (GV.encs ((items.take i).map g)) 4 lst) ?_ _ _ ?_
 ·rintro i f σ hi ⟨h1,h2,h4,h8,h9,lst,rest,rfl,hlst⟩
  by_cases hlt:i<min items.length 16
  ·have hw:IntKind.i64.wrap ((i:Int)+1)=(i:Int)+1:=wr64 (by omega) (by omega)
   have hwd:IntKind.i64.wrap ((d:Int) - 1)=(d:Int) - 1:=wr64 (by omega) (by omega)
   have hc1:i<items.length:=by omega
   have hc2:(i:Int)<16:=by omega
   have hok:GV.ok items[i]:=(GV.oks_iff items).1 hv.2.2 _ (zqT hc1)
   have hpk:=pick4 items[i].kind (by revert hok; cases items[i]; simp only [GV.ok]; exact fun h=>h.1)
   have hcl:=hg items[i] (zqT hc1)
   have htk:(items.take (i+1)).map g=(items.take i).map g++[g items[i]]:=by rw [List.take_add_one,zqF hc1,List.map_append]; rfl
   have hlen:((items.take i).map g).length=i:=by simp; omega
   generalize (items.take i).map g=done at *
   rw [htk]
   have hdl:done.length≤10000000000:=by omega
   have hown:∀ kk X,kk<rest.length→LstAt (rest.set kk (.tok (done.length+1) 4)++X) 3 (GV.encs (done++[g items[i]])) 4 (.own (kk+3) (GV.encs (done++[g items[i]]))):=fun kk X hk=>.inr ⟨kk,rfl,by simp; omega,by rw [zqA (by simpa using hk)]; simp [hk]⟩
   by_cases hc3:d≤1
   ·have hc4:(d:Int)≤1:=by omega
    by_cases hc6:pickN items[i].kind 4=3
    ·simp only [hc3,hc6,and_self,if_true] at hcl
     rcases hlst with ⟨he,rfl⟩ | ⟨kk,rfl,hkl,hkk⟩
     ·have hd0:done=[]:=(encs_nil _).1 he
      simp [h1,h2,h4,h8,h9,hc1,hc2,hw,hwd,hpk,setRun,enc_mk,hc4,hcl,gv_eta,hc6]
      refine ⟨by omega,_,_,⟨rfl,rfl⟩,.inr ⟨rest.length+2,?_,by simp,by simp [hd0]⟩⟩
      simp [hd0]
     ·simp [h1,h2,h4,h8,h9,hc1,hc2,hw,hwd,hpk,setRun,enc_mk,hc4,hcl,gv_eta,hc6,zqA hkl,hkk,List.set_append_left _ _ hkl,hdl]
      exact ⟨by omega,_,_,⟨rfl,rfl⟩,hown kk _ hkl⟩
    ·have hc5:¬ (d≤1∧pickN items[i].kind 4=3):=by omega
     have hc7:¬ ((pickN items[i].kind 4:Int)=3):=by omega
     simp only [if_neg hc5] at hcl
     rcases hlst with ⟨he,rfl⟩ | ⟨kk,rfl,hkl,hkk⟩
     ·have hd0:done=[]:=(encs_nil _).1 he
      simp [h1,h2,h4,h8,h9,hc1,hc2,hw,hwd,hpk,setRun,enc_mk,hc4,hcl,gv_eta,hc7]
      refine ⟨by omega,_,_,⟨rfl,rfl⟩,.inr ⟨rest.length+2,?_,by simp,by simp [hd0]⟩⟩
      simp [hd0]
     ·simp [h1,h2,h4,h8,h9,hc1,hc2,hw,hwd,hpk,setRun,enc_mk,hc4,hcl,gv_eta,hc7,zqA hkl,hkk,List.set_append_left _ _ hkl,hdl]
      exact ⟨by omega,_,_,⟨rfl,rfl⟩,hown kk _ hkl⟩
   ·have hc4:¬ (d:Int)≤1:=by omega
    have hc5:¬ (d≤1∧pickN items[i].kind 4=3):=by omega
    simp only [if_neg hc5] at hcl
    rcases hlst with ⟨he,rfl⟩ | ⟨kk,rfl,hkl,hkk⟩
    ·have hd0:done=[]:=(encs_nil _).1 he
     simp [h1,h2,h4,h8,h9,hc1,hc2,hw,hwd,hpk,setRun,enc_mk,hc4,hcl,gv_eta]
     refine ⟨by omega,_,_,⟨rfl,rfl⟩,.inr ⟨rest.length+2,?_,by simp,by simp [hd0]⟩⟩
     simp [hd0]
    ·simp [h1,h2,h4,h8,h9,hc1,hc2,hw,hwd,hpk,setRun,enc_mk,hc4,hcl,gv_eta,zqA hkl,hkk,List.set_append_left _ _ hkl,hdl]
     exact ⟨by omega,_,_,⟨rfl,rfl⟩,hown kk _ hkl⟩
  ·have he:i=min items.length 16:=by omega
   have htake:items.take i=items.take 16:=by
    rw [he]
    rcases Nat.lt_or_ge items.length 16 with h | h
    ·rw [List.take_of_length_le (by omega),List.take_of_length_le (by omega)]
    ·rw [Nat.min_eq_right h]
   rw [htake] at hlst
   have hb:¬ i<items.length∨(i<items.length∧¬ (i:Int)<16):=by omega
   rcases hb with hb | ⟨hb,hb2⟩
   ·rcases hlst with ⟨he2,rfl⟩ | ⟨kk,rfl,hkl,hkk⟩
    ·simp [h1,h2,h4,h8,h9,setRun,hb,GV.enc,←List.map_take,he2]
    ·simp [h1,h2,h4,h8,h9,setRun,hb,GV.enc,←List.map_take]
   ·rcases hlst with ⟨he2,rfl⟩ | ⟨kk,rfl,hkl,hkk⟩
    ·simp [h1,h2,h4,h8,h9,setRun,hb,hb2,GV.enc,←List.map_take,he2]
    ·simp [h1,h2,h4,h8,h9,setRun,hb,hb2,GV.enc,←List.map_take]
 ·exact ⟨by simp,by simp,by simp,by simp,by simp,_,[],by simp,.inl ⟨by simp,rfl⟩⟩
theorem text_le (v:GV):v.text.size≤v.size:=by obtain ⟨k,n,t,l⟩:=v; show t.size≤_; simp only [GV.size]; omega
theorem fit_other (d:Int) (v:GV) (hv:v.ok) (hs:v.size≤100000000000) (hk:pickN v.kind 4≠3) (dd:Nat):pureT T c47 [v.enc,.int .i64 d]=some (fitV dd v).enc:=by
 have hlt:=pickN_lt (c:=v.kind) (n:=4) (by omega)
 have hts:v.text.size≤100000000000:=Nat.le_trans (text_le v) hs
 have hkk:GV.i64ok v.kind∧GV.i64ok v.num:=by revert hv; cases v; simp only [GV.ok]; exact fun h=>⟨h.1,h.2.1⟩
 have hp:=pick4 v.kind hkk.1
 have hpm:=pickM v.num hkk.2
 have hn:=lawName v.text hts
 have hm:=pickN_lt (c:=v.num) (n:=4294967295) (by omega)
 have hw:IntKind.i64.wrap ((pickN v.num 4294967295:Int) - 2147483647)=(pickN v.num 4294967295:Int) - 2147483647:=wr64 (by omega) (by omega)
 have hcase:pickN v.kind 4=0∨pickN v.kind 4=1∨pickN v.kind 4=2:=by omega
 rcases hcase with h | h | h
 ·rw [h] at hp
  apply pure_enter (by simp [c47])
  cases dd <;> simp [c47,hp,hpm,hw,setRun,fitV,h,GV.enc]
 ·have:=fit_text d v hv hts h
  rw [this]
  cases dd <;> simp [fitV,h]
 ·rw [h] at hp
  apply pure_enter (by simp [c47])
  cases dd <;> simp [c47,hp,hn,setRun,fitV,h,GV.enc]
theorem fit_ok:∀ (d:Nat) (v:GV),d≤100→v.ok→v.size≤100000000000→(d=0→pickN v.kind 4≠3)→pureT T c47 [v.enc,.int .i64 d]=some (fitV d v).enc:=by
 intro d
 induction d with
 | zero=>intro v hd hv hs h0; exact fit_other _ v hv hs (h0 rfl) 0
 | succ d ih=>
  intro v hd hv hs _
  by_cases hk:pickN v.kind 4=3
  ·obtain ⟨k,n,t,items⟩:=v
   have hk':pickN k 4=3:=hk
   have hv':=hv
   simp only [GV.ok] at hv'
   have hs':=hs
   simp only [GV.size] at hs'
   have hl:=len_sizes items
   rw [fit_list (d+1) hd k n t items hv (by omega) hk' (fun x=>fitV d (if d=0∧pickN x.kind 4=3 then .mk 0 x.num x.text x.items else x)) (fun x hx bs σ=>?_)]
   ·simp only [fitV]
    rw [if_neg (by show ¬ pickN k 4=0; omega),if_neg (by show ¬ pickN k 4=1; omega),if_neg (by show ¬ pickN k 4=2; omega)]
   ·have hxo:x.ok:=(GV.oks_iff items).1 hv'.2.2 x hx
    have hxs:=(sizes_mem hx).1
    have e:(((d+1:Nat):Int) - 1)=(d:Int):=by omega
    rw [e]
    have hcond:(d+1≤1∧pickN x.kind 4=3)↔(d=0∧pickN x.kind 4=3):=by omega
    simp only [hcond]
    refine call_clean rfl rfl rfl (by simp) (ih _ (by omega) ?_ ?_ ?_)
    ·split
     ·revert hxo; cases x; simp only [GV.ok]; exact fun h=>⟨by simp [GV.i64ok],h.2.1,h.2.2⟩
     ·exact hxo
    ·split
     ·have:(GV.mk 0 x.num x.text x.items).size=x.size:=by cases x; simp only [GV.size]
      omega
     ·omega
    ·intro h0
     split
     ·show pickN 0 4≠3; decide
     ·rename_i hc; intro h3; exact hc ⟨h0,h3⟩
  ·exact fit_other _ v hv hs hk (d+1)
def fit (v:GV):GV:=fitV 4 v
theorem Fit_ok (v:GV) (hv:v.ok) (hs:v.size≤100000000000):pureT T c29 [v.enc]=some (fit v).enc:=by
 have hr:∀ bs σ,callT T 47 [v.enc,.int .i64 4] bs σ=some ((fit v).enc,σ):=fun bs σ=>call_clean rfl rfl rfl (by simp) (fit_ok 4 v (by omega) hv hs (by omega))
 apply pure_enter (by simp [c29])
 simp [c29,hr,setRun,enc_mk]
theorem callFit (v:GV) (hv:v.ok) (hs:v.size≤100000000000) (bs:Nat) (σ:Heap):callT T 29 [v.enc] bs σ=some ((fit v).enc,σ):=call_clean rfl rfl rfl (by simp) (Fit_ok v hv hs)
mutual
def sameV:GV→GV→Bool
 | .mk k n t l,b=>decide (k=b.kind) && decide (n=b.num) && decide (t=b.text) && sameVs l b.items
def sameVs:List GV→List GV→Bool
 | [],[]=>true
 | x :: xs,y :: ys=>sameV x y && sameVs xs ys
 | _,_=>false
end
mutual
theorem sameV_iff:∀ a b:GV,sameV a b=true↔a=b
 | .mk k n t l,.mk k2 n2 t2 l2=>by
  have:=sameVs_iff l l2
  simp [sameV,this,and_assoc]
theorem sameVs_iff:∀ a b:List GV,sameVs a b=true↔a=b
 | [],[]=>by simp [sameVs]
 | [],_ :: _=>by simp [sameVs]
 | _ :: _,[]=>by simp [sameVs]
 | x :: xs,y :: ys=>by
  have h1:=sameV_iff x y
  have h2:=sameVs_iff xs ys
  simp [sameVs,h1,h2]
end
instance:DecidableEq GV:=fun a b=>decidable_of_iff _ (sameV_iff a b)
open Go.Mach
theorem ba_list (t:ByteArray) (l:List UInt8) (h:t=⟨l.toArray⟩):t.data.toList=l∧t.size=l.length:=by
 subst h; exact ⟨rfl,by show l.toArray.size=_; rw [List.size_toArray]⟩
theorem nameC_inner (b:UInt8):innerB (nameC b).toNat=true:=by
 have hb:=b.toNat_lt
 generalize hk:b.toNat % 37=k
 have hk37:k<37:=by omega
 simp only [nameC,hk]
 split
 ·rw [UInt8.toNat_ofNat',Nat.mod_eq_of_lt (by omega)]; simp [innerB,letterB]; omega
 ·split
  ·rw [UInt8.toNat_ofNat',Nat.mod_eq_of_lt (by omega)]; simp [innerB,letterB]; omega
  ·decide
theorem nameFit_list (s:ByteArray):(nameFit s).data.toList=110 :: (s.data.toList.take 15).map nameC∧(nameFit s).size=(110 :: (s.data.toList.take 15).map nameC:List UInt8).length:=ba_list _ _ rfl
theorem nameFit_ok (s:ByteArray):nameOK (nameFit s)=true:=by
 obtain ⟨h1,h2⟩:=nameFit_list s
 simp only [nameOK,h1,h2,nameL,zqL,decide_eq_true_eq,zqQ,zqU,List.length_map,List.length_take]
 refine ⟨⟨by decide,fun c hc=>?_⟩,by omega⟩
 obtain ⟨b,_,rfl⟩:=List.mem_map.1 hc
 exact nameC_inner b
theorem nameFit_size (s:ByteArray):1≤(nameFit s).size∧(nameFit s).size≤16:=by
 rw [(nameFit_list s).2]
 simp only [zqU,List.length_map,List.length_take]
 omega
theorem textC_plain (b:UInt8):plainB (textC b).toNat=true:=by
 generalize hk:b.toNat % 95=k
 have hk37:k<95:=by omega
 simp only [textC,hk]
 split
 ·decide
 ·rw [UInt8.toNat_ofNat',Nat.mod_eq_of_lt (by omega)]; simp [plainB]; omega
theorem textFit_ok (s:ByteArray):textOK (textFit s)=true:=by
 obtain ⟨h1,h2⟩:=ba_list (textFit s) _ rfl
 simp only [textOK,h1,h2,zqL,decide_eq_true_eq,zqQ,List.length_map,List.length_take]
 refine ⟨fun c hc=>?_,by omega⟩
 obtain ⟨b,_,rfl⟩:=List.mem_map.1 hc
 exact textC_plain b
theorem rb1 (m:Nat) (h:m<4294967295) (lst:Bool):rightB (.mk 1 ((m:Int) - 2147483647) ⟨#[]⟩ []) lst=true:=by
 simp [rightB,GV.kind,GV.num,GV.text,GV.items]; omega
theorem rb2 (t:ByteArray) (h:textOK t=true) (lst:Bool):rightB (.mk 2 0 t []) lst=true:=by
 simp [rightB,GV.kind,GV.num,GV.text,GV.items,h]
theorem rb3 (t:ByteArray) (h:nameOK t=true) (lst:Bool):rightB (.mk 3 0 t []) lst=true:=by
 simp [rightB,GV.kind,GV.num,GV.text,GV.items,h]
theorem rb4 (l:List GV) (lst:Bool) (h:lst=true):rightB (.mk 4 0 ⟨#[]⟩ l) lst=true:=by
 simp [rightB,GV.kind,GV.num,GV.text,GV.items,h]
theorem rb_right (d:Nat) (v:GV) (h:∀ lst,rightB v lst=true):rightV d v=true:=by cases d <;> exact h _
theorem fitV_right:∀ (d:Nat) (v:GV),(d=0→pickN v.kind 4≠3)→rightV d (fitV d v)=true:=by
 intro d
 induction d with
 | zero=>
  intro v h0
  have hlt:=pickN_lt (c:=v.kind) (n:=4) (by omega)
  have hm:=pickN_lt (c:=v.num) (n:=4294967295) (by omega)
  have h3:=h0 rfl
  unfold fitV
  by_cases h0:pickN v.kind 4=0
  ·rw [if_pos h0]; exact rb_right _ _ (rb1 _ hm)
  ·rw [if_neg h0]
   by_cases h1:pickN v.kind 4=1
   ·rw [if_pos h1]; exact rb_right _ _ (rb2 _ (textFit_ok _))
   ·have h2:pickN v.kind 4=2:=by omega
    rw [if_neg h1,if_pos h2]; exact rb_right _ _ (rb3 _ (nameFit_ok _))
 | succ d ih=>
  intro v _
  have hm:=pickN_lt (c:=v.num) (n:=4294967295) (by omega)
  unfold fitV
  by_cases h0:pickN v.kind 4=0
  ·rw [if_pos h0]; exact rb_right _ _ (rb1 _ hm)
  ·rw [if_neg h0]
   by_cases h1:pickN v.kind 4=1
   ·rw [if_pos h1]; exact rb_right _ _ (rb2 _ (textFit_ok _))
   ·rw [if_neg h1]
    by_cases h2:pickN v.kind 4=2
    ·rw [if_pos h2]; exact rb_right _ _ (rb3 _ (nameFit_ok _))
    ·rw [if_neg h2]
     refine rb4 _ _ (decide_eq_true ⟨by simp; omega,?_⟩)
     show ((v.items.take 16).map _).all (rightV d)=true
     rw [zqQ]
     intro x hx
     obtain ⟨y,_,rfl⟩:=List.mem_map.1 hx
     refine ih _ fun h0=>?_
     split
     ·show pickN 0 4≠3; decide
     ·rename_i hc; intro h3; exact hc ⟨h0,h3⟩
theorem fit_right (v:GV):rightT (fit v)=true:=fitV_right 4 v (by omega)
end Go.Proofs.Ytkempedphjopmaa
end
