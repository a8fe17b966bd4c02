import GoSem.Machine.Start
import Derived.Calls
import Derived.Laws.AppendOwn
import Derived.Below
import Derived.Laws.World
import Derived.Laws.Sem
import Derived.Laws.Cells
import Derived.Laws.Append
import GoSem.Dispatch
import Derived.Lib.ConvBytes
import Derived.Laws.BytesArg
set_option linter.unusedVariables false
set_option linter.unusedSimpArgs false
set_option linter.unnecessarySimpa false
section
namespace Go
theorem zqA:type_of% @List.getElem?_append_left:=@List.getElem?_append_left
theorem zqB:type_of% @List.getElem?_append_right:=@List.getElem?_append_right
theorem zqC:type_of% @List.getElem?_set_ne:=@List.getElem?_set_ne
theorem zqD:type_of% @List.getElem?_cons_succ:=@List.getElem?_cons_succ
theorem zqE:type_of% @List.getElem?_cons_zero:=@List.getElem?_cons_zero
theorem zqF:type_of% @List.getElem?_eq_getElem:=@List.getElem?_eq_getElem
theorem zqG:type_of% @Option.map_eq_some_iff:=@Option.map_eq_some_iff
theorem zqH:type_of% @Option.bind_eq_some_iff:=@Option.bind_eq_some_iff
theorem zqI:type_of% @List.getElem?_eq_some_iff:=@List.getElem?_eq_some_iff
theorem zqJ:type_of% @List.length_append:=@List.length_append
theorem zqK:type_of% @Option.bind_eq_bind:=@Option.bind_eq_bind
theorem zqL:type_of% @Bool.and_eq_true:=@Bool.and_eq_true
theorem zqM:type_of% @List.drop_eq_getElem_cons:=@List.drop_eq_getElem_cons
theorem zqN:type_of% @Array.getElem?_eq_some_iff:=@Array.getElem?_eq_some_iff
theorem zqO:type_of% @List.take_succ_eq_append_getElem:=@List.take_succ_eq_append_getElem
theorem zqP:type_of% @List.append_assoc:=@List.append_assoc
theorem zqQ:type_of% @List.all_eq_true:=@List.all_eq_true
theorem zqR:type_of% @List.mem_of_getElem?:=@List.mem_of_getElem?
theorem zqS:type_of% @List.getElem_of_mem:=@List.getElem_of_mem
theorem zqT:type_of% @List.getElem_mem:=@List.getElem_mem
theorem zqU:type_of% @List.length_cons:=@List.length_cons
end Go
namespace Go.Mach
def pinned:List (Nat × Array Value):=
 []
end Go.Mach
end
section
namespace Go.Mach
open Go.RowKit
inductive AV where
 | undef
 | int (k:IntKind) (n:Int)
 | bool (b:Bool)
 | str (s:ByteArray)
 | nilptr
 | nilfunc
 | ptr (id off:Nat)
 | iptr (cs:List AV) (off:Nat)
 | isl (es:List AV) (cap0:Bool)
 | own (id:Nat) (es:List AV)
 | sl (id off len sz:Nat) (ag:Bool)
 | func (f:Nat) (caps:List AV)
 | meth (f:Nat) (first:List AV)
 | agg (cs:List AV)
 | tup (vs:List AV)
 | nilmap
 | map (id:Nat)
 | yld (id:Nat)
 deriving Inhabited
def AV.cells:AV→List AV
 | .agg cs=>cs
 | v=>[v]
def AV.cellv:AV→Bool
 | .undef | .agg _ | .tup _=>false
 | _=>true
def AV.clo1:AV→Bool
 | .int _ _ | .bool _ | .str _ | .nilptr | .nilfunc | .isl _ _ | .nilmap=>true
 | _=>false
def AV.clo:AV→Bool
 | .agg cs=>cs.all AV.clo1
 | v=>v.clo1
def flat (es:List AV):List AV:=es.flatMap AV.cells
structure RCode where
 params:Array Tmp
 assign:Code
 body:Code
inductive AObj where
 | cells (cs:List AV) (fz:Nat) (ext:Bool)
 | tok (n s:Nat)
 | iter (s:ByteArray) (pos:Nat)
 | dead
 | bld (t e:Nat) (l:List UInt8)
 | mp (es:List (AV × AV))
 | lp (rc:RCode) (tm:List AV) (st:LoopState) (pd:Option Code)
 deriving Inhabited
structure Gh where
 φ:Nat→Option (Nat × Nat)
 ψ:Nat→Nat→Option (Nat × Nat × Nat)
 M:Nat→Nat→Option Value
structure Gh.le (g g':Gh):Prop where
 φ:∀ id x,g.φ id=some x→g'.φ id=some x
 ψ:∀ id n x,g.ψ id n=some x→g'.ψ id n=some x
 M:∀ b i v,g.M b i=some v→g'.M b i=some v
theorem Gh.le.refl (g:Gh):g.le g:=⟨fun _ _ h=>h,fun _ _ _ h=>h,fun _ _ _ h=>h⟩
theorem Gh.le.trans {a b c:Gh} (h:a.le b) (k:b.le c):a.le c:=
 ⟨fun _ _ x=>k.φ _ _ (h.φ _ _ x),fun _ _ _ x=>k.ψ _ _ _ (h.ψ _ _ _ x),fun _ _ _ x=>k.M _ _ _ (h.M _ _ _ x)⟩
inductive VR (g:Gh):AV→Value→Prop where
 | undef (v:Value):VR g .undef v
 | int (k:IntKind) (n:Int):VR g (.int k n) (.int k n)
 | bool (b:Bool):VR g (.bool b) (.bool b)
 | str (s:ByteArray):VR g (.str s) (.string s)
 | nilptr:VR g .nilptr (.pointer none)
 | nilfunc:VR g .nilfunc .nilFunc
 | ptr {id off b c:Nat} (h:g.φ id=some (b,c)):VR g (.ptr id off) (.pointer (some ⟨b,off,none⟩))
 | iptr {cs:List AV} {off b p:Nat} (vs:Nat→Value) (hc:∀ x∈cs,x.clo1=true)
   (hM:∀ (i:Nat) x,cs[i]?=some x→g.M b (p+i)=some (vs i)) (hV:∀ (i:Nat) x,cs[i]?=some x→VR g x (vs i)) :
   VR g (.iptr cs off) (.pointer (some ⟨b,p+off,none⟩))
 | isl {es:List AV} {cap0:Bool} {a:Option Addr} {c b p s:Nat} (vs:Nat→Value)
   (hc:∀ e∈es,e.clo=true∧e.cells.length=s) (hs:0<s) (ha:es=[]∨a=some ⟨b,p,none⟩)
   (hcap:cap0=true→c=es.length) (hn:es.length≤c)
   (hM:∀ (i:Nat) x,(flat es)[i]?=some x→g.M b (p+i)=some (vs i)) (hV:∀ (i:Nat) x,(flat es)[i]?=some x→VR g x (vs i)) :
   VR g (.isl es cap0) (.slice a es.length c)
 | own {id:Nat} {es:List AV} {c b p s:Nat} (vs:Nat→Value)
   (hc:∀ e∈es,e.clo=true∧e.cells.length=s) (hs:0<s) (h:g.ψ id es.length=some (b,p,c)) (hn:es.length≤c)
   (hM:∀ (i:Nat) x,(flat es)[i]?=some x→g.M b (p+i)=some (vs i)) (hV:∀ (i:Nat) x,(flat es)[i]?=some x→VR g x (vs i)) :
   VR g (.own id es) (.slice (some ⟨b,p,none⟩) es.length c)
 | sl {id off len sz:Nat} {ag:Bool} {b c cc:Nat} (h:g.φ id=some (b,c)) (hc:off+cc * sz=c) (hs:0<sz) (hl:len≤cc) :
   VR g (.sl id off len sz ag) (.slice (some ⟨b,off,none⟩) len cc)
 | func {f:Nat} {caps:List AV} {vs:Array Value} (hl:caps.length=vs.size)
   (hV:∀ (i:Nat) x v,caps[i]?=some x→vs[i]?=some v→VR g x v):VR g (.func f caps) (.func (.func f) #[] vs)
 | meth {f:Nat} {first:List AV} {vs:Array Value} (hl:first.length=vs.size)
   (hV:∀ (i:Nat) x v,first[i]?=some x→vs[i]?=some v→VR g x v):VR g (.meth f first) (.func (.func f) vs #[])
 | agg {cs:List AV} {vs:Array Value} (hl:cs.length=vs.size) (hc:∀ x∈cs,x.cellv=true)
   (hV:∀ (i:Nat) x v,cs[i]?=some x→vs[i]?=some v→VR g x v):VR g (.agg cs) (.agg vs)
 | tup {cs:List AV} {vs:Array Value} (hl:cs.length=vs.size)
   (hV:∀ (i:Nat) x v,cs[i]?=some x→vs[i]?=some v→VR g x v):VR g (.tup cs) (.tuple vs)
 | nilmap:VR g .nilmap (.map none)
 | map {id b c:Nat} (h:g.φ id=some (b,c)):VR g (.map id) (.map (some b))
 | yld {id b c:Nat} (h:g.φ id=some (b,c)):VR g (.yld id) (.func (.yield b) #[] #[])
theorem VR.mono {g g':Gh} (hg:g.le g') {x:AV} {v:Value} (h:VR g x v):VR g' x v:=by
 induction h with
 | undef v=>exact .undef v
 | int k n=>exact .int k n
 | bool b=>exact .bool b
 | str s=>exact .str s
 | nilptr=>exact .nilptr
 | nilfunc=>exact .nilfunc
 | ptr h=>exact .ptr (hg.φ _ _ h)
 | iptr vs hc hM _ ih=>exact .iptr vs hc (fun i x hx=>hg.M _ _ _ (hM i x hx)) ih
 | isl vs hc hs ha hcap hn hM _ ih=>exact .isl vs hc hs ha hcap hn (fun i x hx=>hg.M _ _ _ (hM i x hx)) ih
 | own vs hc hs h hn hM _ ih=>exact .own vs hc hs (hg.ψ _ _ _ h) hn (fun i x hx=>hg.M _ _ _ (hM i x hx)) ih
 | sl h hc hs hl=>exact .sl (hg.φ _ _ h) hc hs hl
 | func hl _ ih=>exact .func hl ih
 | meth hl _ ih=>exact .meth hl ih
 | agg hl hc _ ih=>exact .agg hl hc ih
 | tup hl _ ih=>exact .tup hl ih
 | nilmap=>exact .nilmap
 | map h=>exact .map (hg.φ _ _ h)
 | yld h=>exact .yld (hg.φ _ _ h)
theorem flat_clo1 {es:List AV} {s:Nat} (hc:∀ e∈es,e.clo=true∧e.cells.length=s) {x:AV} (hx:x∈flat es):x.clo1=true:=by
 obtain ⟨e,he,hxe⟩:=List.mem_flatMap.1 hx
 have h:=(hc e he).1
 cases e <;> simp_all [AV.cells,AV.clo,AV.clo1]
theorem VR.closed {g g':Gh} (hg:∀ b i v,g.M b i=some v→g'.M b i=some v) {x:AV} {v:Value} (h:VR g x v) (hx:x.clo1=true):VR g' x v:=by
 induction h with
 | undef v=>exact .undef v
 | int k n=>exact .int k n
 | bool b=>exact .bool b
 | str s=>exact .str s
 | nilptr=>exact .nilptr
 | nilfunc=>exact .nilfunc
 | isl vs hc hs ha hcap hn hM _ ih=>
  exact .isl vs hc hs ha hcap hn (fun i x hx=>hg _ _ _ (hM i x hx)) fun i x hx=>ih i x hx (flat_clo1 hc (zqR hx))
 | nilmap=>exact .nilmap
 | _=>simp [AV.clo1] at hx
theorem VR.closedC {g g':Gh} (hg:∀ b i v,g.M b i=some v→g'.M b i=some v) {x:AV} {v:Value} (h:VR g x v) (hx:x.clo=true):VR g' x v:=by
 cases h with
 | agg hl hc hV=>exact .agg hl hc fun i x v hxi hv=>(hV i x v hxi hv).closed hg (zqQ.1 hx x (zqR hxi))
 | undef v=>exact .undef v
 | int k n=>exact .int k n
 | bool b=>exact .bool b
 | str s=>exact .str s
 | nilptr=>exact .nilptr
 | nilfunc=>exact .nilfunc
 | nilmap=>exact .nilmap
 | isl vs hc hs ha hcap hn hM hV=>exact (VR.isl vs hc hs ha hcap hn hM hV).closed hg rfl
 | _=>cases hx
def BldAt (g:Gh) (ow:Nat→Option Nat) (id b t e:Nat) (l:List UInt8) (w:World):Prop:=
 ∃ p v,w.heap[b]?=some (.cells #[p,v] t (0,0))∧(p=.pointer none∨p=.pointer (some ⟨b,0,none⟩))∧ow b=some id∧(∀ i,g.M b i=none) ∧
  ((v=.slice none 0 0∧l=[])∨∃ gb cap cur,v=.slice (some ⟨gb,0,none⟩) l.length cap∧w.heap[gb]?=some (.cells cur e (0,0))∧l.length≤cap∧cur.size=cap ∧
   cur.toList.take l.length=l.map (fun b=>Value.int .u8 (b.toNat:Int))∧ow gb=some id∧gb≠b∧∀ i,g.M gb i=none)
theorem BldAt.keep {g g':Gh} {ow ow':Nat→Option Nat} {id b t e:Nat} {l:List UInt8} {w w':World} (h:BldAt g ow id b t e l w)
  (hk:∀ b',ow b'=some id→b'<w.heap.size→w'.heap[b']?=w.heap[b']?∧ow' b'=some id∧∀ i,g.M b' i=none→g'.M b' i=none):BldAt g' ow' id b t e l w':=by
 obtain ⟨p,v,h1,h2,h3,h4,h5⟩:=h
 obtain ⟨k1,k2,k3⟩:=hk b h3 (zqN.1 h1).1
 refine ⟨p,v,k1.trans h1,h2,k2,fun i=>k3 i (h4 i),?_⟩
 rcases h5 with h5 | ⟨gb,cap,cur,m1,m2,m3,m5,m6,m7,m8,m9⟩
 ·exact .inl h5
 ·obtain ⟨n1,n2,n3⟩:=hk gb m7 (zqN.1 m2).1
  exact .inr ⟨gb,cap,cur,m1,n1.trans m2,m3,m5,m6,n2,m8,fun i=>n3 i (m9 i)⟩
def Gh.res (g:Gh) (n:Nat):Gh:=⟨fun id=>if id<n then g.φ id else none,fun id m=>if id<n then g.ψ id m else none,g.M⟩
theorem Gh.res_le (g:Gh) (n:Nat):(g.res n).le g:=by
 refine ⟨fun id x h=>?_,fun id m x h=>?_,fun _ _ _ h=>h⟩
 ·simp only [Gh.res] at h; split at h
  ·exact h
  ·cases h
 ·simp only [Gh.res] at h; split at h
  ·exact h
  ·cases h
theorem Gh.res_mono {g g':Gh} (h:g.le g') (n:Nat):(g.res n).le (g'.res n):=by
 refine ⟨fun id x hx=>?_,fun id m x hx=>?_,h.M⟩
 ·simp only [Gh.res] at hx ⊢; split at hx
  ·rename_i hl; rw [if_pos hl]; exact h.φ _ _ hx
  ·cases hx
 ·simp only [Gh.res] at hx ⊢; split at hx
  ·rename_i hl; rw [if_pos hl]; exact h.ψ _ _ _ hx
  ·cases hx
def Stm (esC:Array MapEntry) (clock:Nat):Prop:=clock=esC.size∧∀ (i:Nat) e,esC[i]?=some e→e.born=i
def MapAt (g:Gh) (ow:Nat→Option Nat) (id b:Nat) (es:List (AV × AV)) (w:World):Prop:=
 ∃ esC clock,w.heap[b]?=some (.map esC clock)∧esC.size=es.length∧(∀ (i:Nat) k v,es[i]?=some (k,v)→∃ e:MapEntry,esC[i]?=some e∧k.clo=true∧v.clo=true∧VR g k e.key∧VR g v e.val)∧ow b=some id∧(∀ i,g.M b i=none)∧Stm esC clock
def LpAt (g:Gh) (ow:Nat→Option Nat) (id b:Nat) (rc:RCode) (tm:List AV) (st:LoopState) (pd:Option Code) (w:World):Prop:=
 ∃ rec:Loop,w.heap[b]?=some (.loop rec)∧(rec.params=rc.params∧rec.assign=rc.assign∧rec.body=rc.body∧rec.state=st∧rec.pending=pd) ∧
  tm.length=rec.tmps.size∧(∀ t,VR (g.res id) (tm.getD t .undef) (rec.tmps.getD t undef))∧ow b=some id∧∀ i,g.M b i=none
def AObj.sp:AObj→Bool
 | .bld _ _ _ | .mp _ | .lp _ _ _ _=>true
 | _=>false
def SpAt (g:Gh) (ow:Nat→Option Nat) (id b:Nat):AObj→World→Prop
 | .bld t e l,w=>BldAt g ow id b t e l w
 | .mp es,w=>MapAt g ow id b es w
 | .lp rc tm st pd,w=>LpAt g ow id b rc tm st pd w
 | _,_=>True
theorem SpAt.keep {g g':Gh} {ow ow':Nat→Option Nat} {id b:Nat} {o:AObj} {w w':World} (h:SpAt g ow id b o w) (hM:(g.res id).le (g'.res id))
  (hk:∀ b',ow b'=some id→b'<w.heap.size→w'.heap[b']?=w.heap[b']?∧ow' b'=some id∧∀ i,g.M b' i=none→g'.M b' i=none):SpAt g' ow' id b o w':=by
 cases o with
 | bld t e l=>exact BldAt.keep h hk
 | mp es=>
  obtain ⟨esC,clock,h1,h2,h3,h4,h5,h6⟩:=h
  obtain ⟨k1,k2,k3⟩:=hk b h4 (zqN.1 h1).1
  refine ⟨esC,clock,k1.trans h1,h2,fun i k v hi=>?_,k2,fun i=>k3 i (h5 i),h6⟩
  obtain ⟨e,he,hc1,hc2,v1,v2⟩:=h3 i k v hi
  have hM2:∀ b i v,g.M b i=some v→g'.M b i=some v:=hM.M
  exact ⟨e,he,hc1,hc2,v1.closedC hM2 hc1,v2.closedC hM2 hc2⟩
 | lp rc tm st pd=>
  obtain ⟨rec,h1,h2,h3,h4,h5,h6⟩:=h
  obtain ⟨k1,k2,k3⟩:=hk b h5 (zqN.1 h1).1
  exact ⟨rec,k1.trans h1,h2,h3,fun t=>(h4 t).mono hM,k2,fun i=>k3 i (h6 i)⟩
 | _=>trivial
def Pins (ow:Nat→Option Nat) (w:World):Prop:=∀ p∈pinned,(∃ t fr,w.heap[p.1]?=some (.cells p.2 t fr))∧ow p.1=none
theorem Pins.of {ow ow':Nat→Option Nat} {w w':World} (h:Pins ow w) (hf:∀ b,b<w.heap.size→ow b=none→w'.heap[b]?=w.heap[b]?∧ow' b=none):Pins ow' w':=fun p hp=>by
 obtain ⟨⟨t,fr,h1⟩,h2⟩:=h p hp
 obtain ⟨h3,h4⟩:=hf p.1 (zqN.1 h1).1 h2
 exact ⟨⟨t,fr,h3.trans h1⟩,h4⟩
structure HR (g:Gh) (ow:Nat→Option Nat) (σ:List AObj) (w:World):Prop where
 mem:∀ b i v,g.M b i=some v→w.cell? ⟨b,i,none⟩=some v
 dom:∀ id x,g.φ id=some x→id<σ.length∧x.1<w.heap.size
 domψ:∀ id n x,g.ψ id n=some x→id<σ.length
 cel:∀ id cs fz ext,σ[id]?=some (.cells cs fz ext)→∀ b c,g.φ id=some (b,c) →
  ∃ cv tag fr,w.heap[b]?=some (.cells cv tag fr)∧cs.length≤c∧c≤cv.size∧(ext=false→c=cs.length) ∧
   (∀ (i:Nat) x,cs[i]?=some x→x.cellv=true∧∃ v,cv[i]?=some v∧VR g x v) ∧
   ow b=some id ∧
   (∀ i,fz≤i→g.M b i=none∧(i<cv.size→¬ (fr.1≤i∧i<fr.2)))
 tk:∀ id n s,σ[id]?=some (.tok n s)→∀ b p c,g.ψ id n=some (b,p,c) →
  ∃ cv tag fr,w.heap[b]?=some (.cells cv tag fr)∧p+c * s≤cv.size∧n≤c∧ow b=some id ∧
   (∀ i,p+n * s≤i→g.M b i=none∧(i<cv.size→¬ (fr.1≤i∧i<fr.2)))
 tle:∀ id n s,σ[id]?=some (.tok n s)→∀ m x,g.ψ id m=some x→m≤n
 it:∀ id s pos,σ[id]?=some (.iter s pos)→∀ b c,g.φ id=some (b,c)→w.heap[b]?=some (.stringIter s pos)∧ow b=some id
 bd:∀ id o,o.sp=true→σ[id]?=some o→∀ b c,g.φ id=some (b,c)→SpAt g ow id b o w
 pin:Pins ow w
structure St (bs:Nat) (g:Gh) (ow:Nat→Option Nat) (σ:List AObj) (w:World) (g':Gh) (ow':Nat→Option Nat) (σ':List AObj) (w':World):Prop where
 gle:g.le g'
 os:w'.os=w.os
 tape:w'.tape=w.tape
 output:w'.output=w.output
 size:w.heap.size≤w'.heap.size
 frame:∀ b,b<w.heap.size→ow b=none→w'.heap[b]?=w.heap[b]?∧ow' b=none
 len:σ.length≤σ'.length
 nonew:∀ id,id<σ.length→g.φ id=none→g'.φ id=none
 frM:∀ b,b<w.heap.size→ow b=none→∀ i,g'.M b i=g.M b i
 disc:∀ id,id<bs→id<σ.length→∀ cs' fz' ext',σ'[id]?=some (.cells cs' fz' ext')→∃ cs fz ext,σ[id]?=some (.cells cs fz ext) ∧
  ∀ (i:Nat) x,cs'[i]?=some x→x.clo1=true∨(cs[i]?=some x∧∀ b c,g.φ id=some (b,c)→w'.cell? ⟨b,i,none⟩=w.cell? ⟨b,i,none⟩)
theorem St.refl (bs:Nat) (g:Gh) (ow:Nat→Option Nat) (σ:List AObj) (w:World):St bs g ow σ w g ow σ w:=
 ⟨.refl g,rfl,rfl,rfl,Nat.le_refl _,fun _ _ h=>⟨rfl,h⟩,Nat.le_refl _,fun _ _ h=>h,fun _ _ _ _=>rfl,
  fun _ _ _ cs fz ext h=>⟨cs,fz,ext,h,fun _ _ hx=>.inr ⟨hx,fun _ _ _=>rfl⟩⟩⟩
theorem St.trans {bs:Nat} {g ow σ w g1 ow1 σ1 w1 g2 ow2 σ2 w2} (h:St bs g ow σ w g1 ow1 σ1 w1) (k:St bs g1 ow1 σ1 w1 g2 ow2 σ2 w2) :
  St bs g ow σ w g2 ow2 σ2 w2 where
 gle:=h.gle.trans k.gle
 os:=k.os.trans h.os
 tape:=k.tape.trans h.tape
 output:=k.output.trans h.output
 size:=Nat.le_trans h.size k.size
 frame b hb ho:=by
  obtain ⟨e1,o1⟩:=h.frame b hb ho
  obtain ⟨e2,o2⟩:=k.frame b (Nat.lt_of_lt_of_le hb h.size) o1
  exact ⟨e2.trans e1,o2⟩
 len:=Nat.le_trans h.len k.len
 nonew id hi hn:=k.nonew id (Nat.lt_of_lt_of_le hi h.len) (h.nonew id hi hn)
 frM b hb ho i:=(k.frM b (Nat.lt_of_lt_of_le hb h.size) (h.frame b hb ho).2 i).trans (h.frM b hb ho i)
 disc id hi hl cs2 fz2 ext2 hc:=by
  obtain ⟨cs1,fz1,ext1,h1,hx2⟩:=k.disc id hi (Nat.lt_of_lt_of_le hl h.len) cs2 fz2 ext2 hc
  obtain ⟨cs,fz,ext,h0,hx1⟩:=h.disc id hi hl cs1 fz1 ext1 h1
  refine ⟨cs,fz,ext,h0,fun i x hx=>?_⟩
  rcases hx2 i x hx with hcl | ⟨hx',hcell2⟩
  ·exact .inl hcl
  ·rcases hx1 i x hx' with hcl | ⟨hx'',hcell1⟩
   ·exact .inl hcl
   ·exact .inr ⟨hx'',fun b c hφ=>(hcell2 b c (h.gle.φ _ _ hφ)).trans (hcell1 b c hφ)⟩
theorem St.below {bs:Nat} {g ow σ w g1 ow1 σ1 w1} (h:St bs g ow σ w g1 ow1 σ1 w1) (ho:∀ b,ow b=none):Below w.heap.size w w1:=
 ⟨h.os,h.tape,h.output,h.size,fun b hb=>(h.frame b hb (ho b)).1⟩
theorem St.base {bs bs':Nat} (hb:bs'≤bs) {g ow σ w g1 ow1 σ1 w1} (h:St bs g ow σ w g1 ow1 σ1 w1):St bs' g ow σ w g1 ow1 σ1 w1:=
 ⟨h.gle,h.os,h.tape,h.output,h.size,h.frame,h.len,h.nonew,h.frM,fun id hi=>h.disc id (Nat.lt_of_lt_of_le hi hb)⟩
theorem HR.gc {g ow σ w g' ow' σ' w'} (h:HR g ow σ w) (s:St σ.length g ow σ w g' ow' σ' w') (h':HR g' ow' σ' w') :
  HR (g'.res σ.length) ow' (σ'.take σ.length) w'∧St σ.length g ow σ w (g'.res σ.length) ow' (σ'.take σ.length) w':=by
 have hgle:g.le (g'.res σ.length):=by
  refine ⟨fun id x hx=>?_,fun id m x hx=>?_,s.gle.M⟩
  ·simp only [Gh.res]; rw [if_pos (h.dom id x hx).1]; exact s.gle.φ _ _ hx
  ·simp only [Gh.res]; rw [if_pos (h.domψ id m x hx)]; exact s.gle.ψ _ _ _ hx
 have hget:∀ id,(σ'.take σ.length)[id]?=if id<σ.length then σ'[id]? else none:=fun id=>by
  rw [List.getElem?_take]
 have hφ:∀ id x,(g'.res σ.length).φ id=some x→id<σ.length∧g'.φ id=some x:=fun id x hx=>by
  simp only [Gh.res] at hx; split at hx
  ·exact ⟨by assumption,hx⟩
  ·cases hx
 have hψ:∀ id m x,(g'.res σ.length).ψ id m=some x→id<σ.length∧g'.ψ id m=some x:=fun id m x hx=>by
  simp only [Gh.res] at hx; split at hx
  ·exact ⟨by assumption,hx⟩
  ·cases hx
 have hlen:(σ'.take σ.length).length=σ.length:=by rw [List.length_take]; exact Nat.min_eq_left s.len
 refine ⟨⟨h'.mem,fun id x hx=>⟨by rw [hlen]; exact (hφ id x hx).1,(h'.dom id x (hφ id x hx).2).2⟩,fun id m x hx=>by rw [hlen]; exact (hψ id m x hx).1,?_,?_,?_,?_,?_,h'.pin⟩,?_⟩
 ·intro id cs' fz' ext' hσ b c hp
  obtain ⟨hid,hp'⟩:=hφ id _ hp
  rw [hget,if_pos hid] at hσ
  obtain ⟨cv,tag,fr,h1,h2,h3,h4,h5,h6,h7⟩:=h'.cel id cs' fz' ext' hσ b c hp'
  refine ⟨cv,tag,fr,h1,h2,h3,h4,fun i x hx=>?_,h6,h7⟩
  obtain ⟨hcv,v,hv,hVR⟩:=h5 i x hx
  refine ⟨hcv,v,hv,?_⟩
  have hold:g.φ id=some (b,c):=by
   cases hg:g.φ id with
   | none=>have:=s.nonew id hid hg; rw [this] at hp'; cases hp'
   | some y=>have:=s.gle.φ _ _ hg; rw [this] at hp'; exact hp'
  obtain ⟨cs,fz,ext,ho,hx2⟩:=s.disc id hid hid cs' fz' ext' hσ
  rcases hx2 i x hx with hcl | ⟨hxo,hcell⟩
  ·exact VR.closed (g:=g') (g':=g'.res σ.length) (fun _ _ _ h=>h) hVR hcl
  ·obtain ⟨cv0,tag0,fr0,k1,k2,k3,k4,k5,k6,k7⟩:=h.cel id cs fz ext ho b c hold
   obtain ⟨_,v0,hv0,hVR0⟩:=k5 i x hxo
   have e1:w.cell? ⟨b,i,none⟩=some v0:=by simp only [World.cell?,k1]; simpa using hv0
   have e2:w'.cell? ⟨b,i,none⟩=some v:=by simp only [World.cell?,h1]; simpa using hv
   have:=hcell b c hold
   rw [e1,e2] at this; injection this with this; subst this
   exact hVR0.mono hgle
 ·intro id n s' hσ b p c hp
  obtain ⟨hid,hp'⟩:=hψ id n _ hp
  rw [hget,if_pos hid] at hσ
  exact h'.tk id n s' hσ b p c hp'
 ·intro id n s' hσ m x hp
  obtain ⟨hid,hp'⟩:=hψ id m _ hp
  rw [hget,if_pos hid] at hσ
  exact h'.tle id n s' hσ m x hp'
 ·intro id t pos hσ b c hp
  obtain ⟨hid,hp'⟩:=hφ id _ hp
  rw [hget,if_pos hid] at hσ
  exact h'.it id t pos hσ b c hp'
 ·intro id o hsp hσ b c hp
  obtain ⟨hid,hp'⟩:=hφ id _ hp
  rw [hget,if_pos hid] at hσ
  have hres:(g'.res id).le ((g'.res σ.length).res id):=by
   refine ⟨fun j x hx=>?_,fun j m x hx=>?_,fun _ _ _ h=>h⟩
   ·simp only [Gh.res] at hx ⊢; split at hx
    ·rename_i hj; rw [if_pos hj,if_pos (by omega)]; exact hx
    ·cases hx
   ·simp only [Gh.res] at hx ⊢; split at hx
    ·rename_i hj; rw [if_pos hj,if_pos (by omega)]; exact hx
    ·cases hx
  exact (h'.bd id o hsp hσ b c hp').keep hres fun b' ho _=>⟨rfl,ho,fun i hi=>hi⟩
 ·refine ⟨hgle,s.os,s.tape,s.output,s.size,s.frame,by omega,fun id hi hn=>?_,s.frM,fun id hi hl cs' fz' ext' hσ=>?_⟩
  ·simp only [Gh.res]; rw [if_pos hi]; exact s.nonew id hi hn
  ·rw [hget,if_pos hl] at hσ
   exact s.disc id hi hl cs' fz' ext' hσ
end Go.Mach
end
section
namespace Go.Mach
inductive AX where
 | t (n:Nat)
 | c (v:AV)
 | f (n:Nat)
 deriving Inhabited
inductive AOp where
 | mv (x:AX)
 | pick (c a b:AX)
 | alloc (zs:List AV)
 | allocB (t e:Nat)
 | box (x:AX)
 | build (zs:List AV) (parts:List (Nat × Nat × AX))
 | buildSl (n sz:Nat) (ag:Bool) (zs:List AV) (parts:List (Nat × Nat × AX))
 | load (sz:Nat) (ag:Bool) (x:AX)
 | store (sz:Nat) (a x:AX)
 | nilck (x:AX)
 | bin (op:BinOp) (x y:AX)
 | eqb (neg:Bool) (x y:AX)
 | eqag (neg:Bool) (ks:List Nat) (x y:AX)
 | mkmap
 | mlook (ag:Bool) (ks:List Nat) (zv:AV) (ok:Bool) (x k:AX)
 | mset (ag:Bool) (ks:List Nat) (m k v:AX)
 | eqnil (neg:Bool) (x:AX)
 | eqp (neg:Bool) (x:AX)
 | un (op:UnOp) (x:AX)
 | conv (k:IntKind) (x:AX)
 | cvs (x:AX)
 | s2b (x:AX)
 | b2s (x:AX)
 | mkfn (f:Nat) (caps:List AX)
 | mkmeth (f:Nat) (first:List AX)
 | mksl (sz:Nat) (ag:Bool) (bytes:Nat) (zs:List AV) (l c:AX)
 | strSl (x:AX) (lo hi:Option AX)
 | slSl (sz:Nat) (x:AX) (lo hi:Option AX)
 | slCl (sz:Nat) (x:AX) (lo hi mx:AX)
 | arrSl (n sz:Nat) (ag:Bool) (x:AX) (lo hi:Option AX)
 | faddr (off:Nat) (x:AX)
 | field (off sz:Nat) (ag:Bool) (x:AX)
 | iaddrS (sz:Nat) (x i:AX)
 | iaddrA (n sz:Nat) (x i:AX)
 | idxStr (x i:AX)
 | idxArr (n sz:Nat) (ag:Bool) (x i:AX)
 | rng (x:AX)
 | nxt (x:AX)
 | extract (i:Nat) (x:AX)
 | len (st:Bool) (x:AX)
 | append (sz:Nat) (ag:Bool) (bytes:Nat) (mt:Bool) (s x:AX)
 | min2 (x y:AX)
 | max (xs:List AX)
 | clear (sz:Nat) (zs:List AV) (x:AX)
 | call (f:Nat) (args:List AX)
 | callv (f:AX) (args:List AX)
 deriving Inhabited
structure AOper where
 dst:Option Nat
 op:AOp
 guard:Option (Nat × Bool)
 chk:List AX:=[]
 deriving Inhabited
inductive ACode where
 | skip
 | region (ops:List AOper)
 | seq (a b:ACode)
 | cond (c:AX) (thn els:ACode)
 | block (id:Nat) (body:ACode)
 | loop (body:ACode)
 | exit (id:Nat)
 | ret
 | lab (l:Nat)
 | scope (body:ACode) (l:Nat) (rest:ACode)
 | rfn (x:AX) (rc:RCode)
 deriving Inhabited
inductive ARes where
 | tmp (t:Nat)
 | cell (a sz:Nat) (ag:Bool)
 deriving Inhabited
inductive Mode where
 | raw
 | gc
 | pure
 deriving Inhabited,DecidableEq
structure AFunc where
 ntmps:Nat
 res:List ARes
 body:ACode
 mode:Mode
 clArgs:Bool
 clRes:Bool
 deriving Inhabited
abbrev Regs:=List AV
abbrev Heap:=List AObj
def ev (ρ:Regs):AX→AV
 | .t n=>ρ.getD n .undef
 | .c v=>v
 | .f n=>.func n []
def AV.solid:AV→Bool
 | .undef | .tup _=>false
 | _=>true
def mk (ag:Bool) (win:List AV):Option AV:=
 match ag,win with
 | true,w=>some (.agg w)
 | false,[v]=>some v
 | false,_=>none
def setRun (l:List AV) (o:Nat):List AV→List AV
 | []=>l
 | x :: xs=>setRun (l.set o x) (o+1) xs
def window (cs:List AV) (off n:Nat):Option (List AV):=
 if off+n≤cs.length then some ((cs.drop off).take n) else none
def fillA (ρ:Regs) (zs:List AV):List (Nat × Nat × AX)→Option (List AV)
 | []=>some zs
 | (off,sz,x) :: rest=>
  if (ev ρ x).solid=true∧(ev ρ x).cells.length=sz∧off+sz≤zs.length then fillA ρ (setRun zs off (ev ρ x).cells) rest else none
def chunk (sz:Nat) (ag:Bool):Nat→List AV→Option (List AV)
 | 0,_=>some []
 | n+1,win=>(mk ag (win.take sz)).bind fun e=>(chunk sz ag n (win.drop sz)).map (e :: ·)
def loadA (σ:Heap) (sz:Nat) (ag:Bool):AV→Option AV
 | .ptr id off=>match σ[id]? with
  | some (.cells cs _ _)=>(window cs off sz).bind (mk ag)
  | _=>none
 | .iptr cs off=>(window cs off sz).bind (mk ag)
 | _=>none
def storeA (bs:Nat) (σ:Heap) (sz:Nat) (v:AV):AV→Option Heap
 | .ptr id off=>match σ[id]? with
  | some (.cells cs fz ext)=>
   if fz≤off∧off+sz≤cs.length∧v.solid=true∧v.cells.length=sz∧(bs≤id∨v.cells.all AV.clo1=true) then
    some (σ.set id (.cells (setRun cs off v.cells) fz ext)) else none
  | _=>none
 | _=>none
def clearA (bs:Nat) (σ:Heap) (sz:Nat) (zs:List AV):AV→Option Heap
 | .isl es _=>if es.length=0 then some σ else none
 | .sl id off n sz' _=>if n=0 then some σ else if sz'=sz then storeA bs σ (n * sz) (.agg ((List.replicate n zs).flatten)) (.ptr id off) else none
 | _=>none
def binA (op:BinOp):AV→AV→Option AV
 | .int k a,.int k' b=>match op with
  | .shl=>if 0≤b then some (.int k (k.wrap (a * 2 ^ (min b.toNat k.bits)))) else none
  | .shr=>if 0≤b then some (.int k (a.fdiv (2 ^ (min b.toNat k.bits)))) else none
  | op=>if k=k' then (match op with
   | .add=>some (.int k (k.wrap (a+b)))
   | .sub=>some (.int k (k.wrap (a - b)))
   | .mul=>some (.int k (k.wrap (a * b)))
   | .quo=>if b=0 then none else some (.int k (k.wrap (a.tdiv b)))
   | .rem=>if b=0 then none else some (.int k (a.tmod b))
   | .and=>some (.int k (k.wrap (BitVec.ofInt k.bits a &&& BitVec.ofInt k.bits b).toNat))
   | .or=>some (.int k (k.wrap (BitVec.ofInt k.bits a ||| BitVec.ofInt k.bits b).toNat))
   | .xor=>some (.int k (k.wrap (BitVec.ofInt k.bits a ^^^ BitVec.ofInt k.bits b).toNat))
   | .eql=>some (.bool (a == b))
   | .neq=>some (.bool (a != b))
   | .lss=>some (.bool (decide (a<b)))
   | .leq=>some (.bool (decide (a≤b)))
   | .gtr=>some (.bool (decide (a > b)))
   | .geq=>some (.bool (decide (a ≥ b)))
   | _=>none) else none
 | .str a,.str b=>match op with
  | .add=>if ((a.size+b.size:Nat):Int)≤IntKind.i64.max then some (.str (a++b)) else none
  | .eql=>some (.bool (a.toList == b.toList))
  | .neq=>some (.bool (!(a.toList == b.toList)))
  | .lss=>some (.bool (Op.bytesLess a.toList b.toList))
  | .leq=>some (.bool (Op.bytesLess a.toList b.toList || a.toList == b.toList))
  | .gtr=>some (.bool (!(Op.bytesLess a.toList b.toList || a.toList == b.toList)))
  | .geq=>some (.bool (!(Op.bytesLess a.toList b.toList)))
  | _=>none
 | _,_=>none
def unA (op:UnOp):AV→Option AV
 | .bool b=>match op with | .not=>some (.bool (!b)) | _=>none
 | .int k n=>match op with | .neg=>some (.int k (k.wrap (0 - n))) | _=>none
 | _=>none
def u8s (s:ByteArray):List AV:=s.data.toList.map fun b=>.int .u8 (b.toNat:Int)
def ofU8:AV→Option UInt8
 | .int .u8 n=>some (UInt8.ofNat n.toNat)
 | _=>none
def bytesA (l:List AV):Option ByteArray:=(l.mapM ofU8).map fun b=>⟨b.toArray⟩
def elemsA (σ:Heap) (sz:Nat) (ag:Bool):AV→Option (List AV)
 | .isl es _=>some es
 | .own _ es=>some es
 | .sl id off len _ _=>match σ[id]? with
  | some (.cells cs _ _)=>(window cs off (len * sz)).bind (chunk sz ag len)
  | _=>none
 | .str s=>some (u8s s)
 | _=>none
def AV.nrm:AV→AV
 | .isl es _=>.isl es false
 | v=>v
def elemsN (σ:Heap) (sz:Nat) (ag:Bool):AV→Option (List AV)
 | .sl id off len _ _=>match σ[id]? with
  | some (.cells cs _ _)=>(window cs off (len * sz)).bind fun win=>chunk sz ag len (win.map AV.nrm)
  | _=>none
 | x=>elemsA σ sz ag x
def frz (σ:Heap) (id n:Nat):Heap:=match σ[id]? with
 | some (.cells cs fz ext)=>σ.set id (.cells cs (max fz n) ext)
 | _=>σ
def close0 (σ:Heap):AV→Option (AV × Heap)
 | .isl es _=>some (.isl es false,σ)
 | .own _ es=>some (.isl es false,σ)
 | .sl id off len sz ag=>
  if len=0 then some (.isl [] false,σ) else match σ[id]? with
  | some (.cells cs _ _)=>(window cs off (len * sz)).bind fun win=>
   if win.all AV.clo1=true then (chunk sz ag len (win.map AV.nrm)).map fun es=>(.isl es false,frz σ id (off+len * sz)) else none
  | _=>none
 | v=>some (v,σ)
def closeLW (c:Heap→AV→Option (AV × Heap)) (σ:Heap):List AV→Option (List AV × Heap)
 | []=>some ([],σ)
 | v :: vs=>(c σ v).bind fun (x,σ1)=>(closeLW c σ1 vs).map fun (xs,σ2)=>(x :: xs,σ2)
def closeUp (c:Heap→AV→Option (AV × Heap)) (σ:Heap):AV→Option (AV × Heap)
 | .sl id off len sz ag=>match σ[id]? with
  | some (.cells cs _ _)=>(window cs off (len * sz)).bind fun win=>(closeLW c (frz σ id (off+len * sz)) win).bind fun r=>
   if r.1.all AV.clo1=true then (chunk sz ag len r.1).map fun es=>(.isl es false,r.2) else none
  | _=>none
 | v=>close0 σ v
def close1 (σ:Heap) (v:AV):Option (AV × Heap):=match close0 σ v with
 | some r=>some r
 | none=>closeUp (closeUp (closeUp (closeUp close0))) σ v
theorem close1_of0 {σ:Heap} {v:AV} {r:AV × Heap} (h:close0 σ v=some r):close1 σ v=some r:=by unfold close1; rw [h]
def closeL (σ:Heap):List AV→Option (List AV × Heap)
 | []=>some ([],σ)
 | v :: vs=>(close1 σ v).bind fun (x,σ1)=>(closeL σ1 vs).map fun (xs,σ2)=>(x :: xs,σ2)
def closeP (σ:Heap):AV→Option (AV × Heap)
 | .ptr id off=>match σ[id]? with
  | some (.cells cs _ _)=>(closeL (frz σ id cs.length) cs).bind fun (xs,σ1)=>if xs.all AV.clo1=true then some (.iptr xs off,σ1) else none
  | _=>none
 | v=>close1 σ v
def closePL (σ:Heap):List AV→Option (List AV × Heap)
 | []=>some ([],σ)
 | v :: vs=>(closeP σ v).bind fun (x,σ1)=>(closePL σ1 vs).map fun (xs,σ2)=>(x :: xs,σ2)
def closeA (σ:Heap):AV→Option (AV × Heap)
 | .agg cs=>(closeL σ cs).map fun (xs,σ1)=>(.agg xs,σ1)
 | .func f cs=>(closePL σ cs).map fun (xs,σ1)=>(.func f xs,σ1)
 | .meth f cs=>(closePL σ cs).map fun (xs,σ1)=>(.meth f xs,σ1)
 | v=>close1 σ v
def closeT (σ:Heap):List AV→Option (List AV × Heap)
 | []=>some ([],σ)
 | v :: vs=>(closeA σ v).bind fun (x,σ1)=>(closeT σ1 vs).map fun (xs,σ2)=>(x :: xs,σ2)
def closeR (σ:Heap):AV→Option (AV × Heap)
 | .tup vs=>(closeT σ vs).map fun (xs,σ1)=>(.tup xs,σ1)
 | v=>closeA σ v
def asNat (len:Nat):Option AX→Nat→Regs→Option Nat
 | none,d,_=>some d
 | some x,_,ρ=>match ev ρ x with
  | .int _ n=>if 0≤n∧n≤len then some n.toNat else none
  | _=>none
def lenIs (sz:Nat) (e:AV):Bool:=decide (e.cells.length=sz)
def slSlA (sz l h:Nat):AV→Option AV
 | .isl es _=>if l≤h∧h≤es.length∧(l=0∨es.all (lenIs sz)=true) then some (.isl ((es.take h).drop l) false) else none
 | .own id es=>if l≤h∧h≤es.length∧(l=0∨es.all (lenIs sz)=true) then (if l=0∧h=es.length then some (.own id es) else some (.isl ((es.take h).drop l) false)) else none
 | .sl id off len sz' ag=>if l≤h∧h≤len∧sz=sz' then (if l=h then some (.isl [] false) else some (.sl id (off+l * sz) (h - l) sz' ag)) else none
 | _=>none
def lenA:AV→Option Nat
 | .isl es _=>some es.length
 | .own _ es=>some es.length
 | .sl _ _ len _ _=>some len
 | .str s=>some s.size
 | _=>none
def okEl (sz:Nat) (ag:Bool) (e:AV):Bool:=e.clo && decide (e.cells.length=sz) && (match e with | .agg _=>ag | _=>!ag)
def notNil:AV→Bool
 | .isl (_ :: _) _ | .own _ _ | .sl _ _ _ _ _=>true
 | _=>false
def eqpV (neg:Bool):AV→Option AV
 | .nilptr=>some (.bool (!neg))
 | .ptr _ _ | .iptr _ _=>some (.bool neg)
 | _=>none
def isSl:AV→Bool
 | .isl _ _ | .own _ _ | .sl _ _ _ _ _=>true
 | _=>false
def appendA (σ:Heap) (sz:Nat) (ag:Bool) (bytes:Nat) (mt:Bool) (s x:AV):Option (AV × Heap):=
 (elemsN σ sz ag x).bind fun xs=>(elemsA σ sz ag s).bind fun es=>
 if isSl s=false then none else
 if xs=[] then some (s,σ) else
 if sz=0∨(es.length+xs.length) * bytes > 70368744177664∨es.length+xs.length > 70368744177664 then none else
 match s with
 | .isl _ true=>
  if mt then (if (flat xs).length=xs.length * sz∧(flat es).length=es.length * sz then some (.sl σ.length 0 (es.length+xs.length) sz ag,σ++[.cells (flat es++flat xs) 0 true]) else none) else
  if xs.all (okEl sz ag)=true∧es.all (okEl sz ag)=true then some (.own σ.length (es++xs),σ++[.tok (es.length+xs.length) sz]) else none
 | .own id _=>
  if xs.all (okEl sz ag)=true∧es.all (okEl sz ag)=true then
   match σ[id]? with
   | some (.tok n sz')=>if n=es.length∧sz'=sz then some (.own id (es++xs),σ.set id (.tok (es.length+xs.length) sz)) else none
   | _=>none
  else none
 | .sl id off len sz' ag'=>
  match σ[id]? with
  | some (.cells cs fz ext)=>
   if sz'=sz∧ag'=ag∧off+len * sz=cs.length∧ext=false then
    (if mt then (if (flat xs).length=xs.length * sz∧(flat es).length=es.length * sz then some (.sl σ.length 0 (es.length+xs.length) sz ag,σ++[.cells (flat es++flat xs) 0 true]) else none) else
    if xs.all (okEl sz ag)=true∧es.all (okEl sz ag)=true then some (.own σ.length (es++xs),σ++[.tok (es.length+xs.length) sz]) else none)
   else if mt=true∧sz'=sz∧ag'=ag∧off=0∧len * sz=cs.length∧(flat xs).length=xs.length * sz∧(flat es).length=es.length * sz∧fz=0∧len=es.length then
    some (.sl σ.length 0 (es.length+xs.length) sz ag,σ.set id .dead++[.cells (cs++flat xs) 0 true])
   else none
  | _=>none
 | _=>none
def closeX (σ:Heap):AV→Heap
 | .sl id _ _ _ _=>match σ[id]? with
  | some (.cells cs _ _)=>if cs.all AV.clo1=true then σ else match closeL σ cs with
   | some (ys,σ1)=>match σ1[id]? with
    | some (.cells cs1 fz ext)=>if ys.all AV.clo1=true∧cs1.length=ys.length then σ1.set id (.cells ys fz ext) else σ
    | _=>σ
   | none=>σ
  | _=>σ
 | _=>σ
def AV.tidy:AV→Bool
 | .isl _ true=>false
 | v=>v.clo1
def closeS (σ:Heap):AV→Heap
 | .sl id _ _ _ _=>match σ[id]? with
  | some (.cells cs fz ext)=>if cs.all AV.tidy=false∧cs.all AV.clo1=true then σ.set id (.cells (cs.map AV.nrm) fz ext) else σ
  | _=>σ
 | _=>σ
def appendC (σ:Heap) (sz:Nat) (ag:Bool) (bytes:Nat) (mt:Bool) (s x:AV):Option (AV × Heap):=
 if mt=true then appendA σ sz ag bytes true s x else appendA (closeS (closeX σ x) s) sz ag bytes false s x
def maxF (a:Int):List AV→Option Int
 | []=>some a
 | .int _ b :: l=>maxF (if b > a then b else a) l
 | _=>none
def maxA:List AV→Option AV
 | .int k a :: l=>(maxF a l).map (.int k)
 | _=>none
def eqcs:List Nat→List AV→List AV→Option Bool
 | [],[],[]=>some true
 | 0 :: ks,.int k a :: cs,.int k' b :: ds=>if k=k' then (eqcs ks cs ds).map fun r=>(a == b) && r else none
 | 1 :: ks,.bool a :: cs,.bool b :: ds=>(eqcs ks cs ds).map fun r=>(a == b) && r
 | 2 :: ks,.str a :: cs,.str b :: ds=>(eqcs ks cs ds).map fun r=>(a.toList == b.toList) && r
 | _,_,_=>none
def eqagV (neg:Bool) (ks:List Nat):AV→AV→Option AV
 | .agg cs,.agg ds=>(eqcs ks cs ds).map fun r=>.bool (neg != r)
 | _,_=>none
def keyC (ag:Bool):AV→Option (List AV)
 | .agg cs=>if ag=true then some cs else none
 | v=>if ag=true then none else some [v]
def mapOf (σ:Heap):AV→Option (List (AV × AV))
 | .nilmap=>some []
 | .map id=>match σ[id]? with
  | some (.mp es)=>some es
  | _=>none
 | _=>none
def mfind (ag:Bool) (ks:List Nat) (c:List AV):Nat→List (AV × AV)→Option (Option (Nat × AV))
 | _,[]=>some none
 | i,(k,v) :: es=>(keyC ag k).bind fun c'=>(eqcs ks c c').bind fun b=>match b with
  | true=>some (some (i,v))
  | false=>mfind ag ks c (i+1) es
def lookV (zv:AV) (ok:Bool):Option (Nat × AV)→AV
 | some (_,v)=>if ok=true then .tup [v,.bool true] else v
 | none=>if ok=true then .tup [zv,.bool false] else zv
def mlookA (σ:Heap) (ag:Bool) (ks:List Nat) (zv:AV) (ok:Bool) (x k:AV):Option AV:=
 (keyC ag k).bind fun c=>if (eqcs ks c c).isSome=true then (mapOf σ x).bind fun es=>(mfind ag ks c 0 es).map (lookV zv ok) else none
def msetA (σ:Heap) (ag:Bool) (ks:List Nat) (m k v:AV):Option Heap:=match m with
 | .map id=>(keyC ag k).bind fun c=>if (eqcs ks c c).isSome=true∧k.clo=true then (closeA σ v).bind fun r=>if r.1.clo=true then (match r.2[id]? with
   | some (.mp es)=>(mfind ag ks c 0 es).map fun q=>r.2.set id (.mp (match q with | some (i,_)=>es.set i (k,r.1) | none=>es++[(k,r.1)]))
   | _=>none) else none else none
 | _=>none
def stepOp (bs:Nat) (ρ:Regs) (σ:Heap):AOp→Option (AV × Heap)
 | .mv x=>some (ev ρ x,σ)
 | .pick c a b=>match ev ρ c with
  | .bool true=>some (ev ρ a,σ)
  | .bool false=>some (ev ρ b,σ)
  | _=>none
 | .alloc zs=>some (.ptr σ.length 0,σ++[.cells zs 0 false])
 | .allocB t e=>some (.ptr σ.length 0,σ++[.bld t e []])
 | .box x=>if (ev ρ x).solid=true then some (.ptr σ.length 0,σ++[.cells (ev ρ x).cells 0 false]) else none
 | .build zs parts=>(fillA ρ zs parts).map fun cs=>(.agg cs,σ)
 | .buildSl n sz ag zs parts=>(fillA ρ zs parts).map fun cs=>(.sl σ.length 0 n sz ag,σ++[.cells cs 0 false])
 | .load sz ag x=>(loadA σ sz ag (ev ρ x)).map fun v=>(v,σ)
 | .store sz a x=>(storeA bs σ sz (ev ρ x) (ev ρ a)).map fun σ'=>(.undef,σ')
 | .clear sz zs x=>(clearA bs σ sz zs (ev ρ x)).map fun σ'=>(.undef,σ')
 | .nilck x=>match ev ρ x with
  | .ptr id off=>some (.ptr id off,σ)
  | .iptr cs off=>some (.iptr cs off,σ)
  | .func f caps=>some (.func f caps,σ)
  | .meth f first=>some (.meth f first,σ)
  | _=>none
 | .bin op x y=>(binA op (ev ρ x) (ev ρ y)).map fun v=>(v,σ)
 | .eqb neg x y=>match ev ρ x,ev ρ y with
  | .bool a,.bool b=>some (.bool (neg != (a == b)),σ)
  | _,_=>none
 | .mkmap=>some (.map σ.length,σ++[.mp []])
 | .mlook ag ks zv ok x k=>(mlookA σ ag ks zv ok (ev ρ x) (ev ρ k)).map fun v=>(v,σ)
 | .mset ag ks m k v=>(msetA σ ag ks (ev ρ m) (ev ρ k) (ev ρ v)).map fun σ'=>(.undef,σ')
 | .eqag neg ks x y=>(eqagV neg ks (ev ρ x) (ev ρ y)).map fun v=>(v,σ)
 | .eqnil neg x=>if notNil (ev ρ x)=true then some (.bool neg,σ) else none
 | .eqp neg x=>(eqpV neg (ev ρ x)).map fun v=>(v,σ)
 | .un op x=>(unA op (ev ρ x)).map fun v=>(v,σ)
 | .conv k x=>match ev ρ x with
  | .int _ n=>some (.int k (k.wrap n),σ)
  | _=>none
 | .cvs x=>match ev ρ x with
  | .str s=>some (.str s,σ)
  | _=>none
 | .s2b x=>match ev ρ x with
  | .str s=>some (.sl σ.length 0 s.size 1 false,σ++[.cells (u8s s) 0 true])
  | _=>none
 | .b2s x=>if isSl (ev ρ x)=false then none else (elemsA σ 1 false (ev ρ x)).bind fun es=>(bytesA es).map fun s=>(.str s,σ)
 | .mkfn f caps=>some (.func f (caps.map (ev ρ)),σ)
 | .mkmeth f first=>some (.meth f (first.map (ev ρ)),σ)
 | .mksl sz ag bytes zs l c=>match ev ρ l,ev ρ c with
  | .int .i64 n,.int .i64 m=>if n=m∧0≤n∧n * bytes≤70368744177664∧n≤70368744177664 then
    some (.sl σ.length 0 n.toNat sz ag,σ++[.cells ((List.replicate n.toNat zs).flatten) 0 false]) else none
  | _,_=>none
 | .strSl x lo hi=>match ev ρ x with
  | .str s=>(asNat s.size hi s.size ρ).bind fun h=>(asNat h lo 0 ρ).map fun l=>(.str (s.extract l h),σ)
  | _=>none
 | .slSl sz x lo hi=>if isSl (ev ρ x)=false then none else (lenA (ev ρ x)).bind fun n=>(asNat n hi n ρ).bind fun h=>(asNat h lo 0 ρ).bind fun l=>(slSlA sz l h (ev ρ x)).map fun v=>(v,σ)
 | .slCl sz x lo hi mx=>(lenA (ev ρ x)).bind fun n=>(asNat n (some mx) n ρ).bind fun m=>(asNat m (some hi) n ρ).bind fun h=>(asNat h (some lo) 0 ρ).bind fun l=>
   if l=0∧h=m then (match ev ρ x with
    | .isl es _=>some (.isl (es.take h) true,σ)
    | _=>none) else none
 | .arrSl n sz ag x lo hi=>match ev ρ x with
  | .ptr id off=>match σ[id]? with
   | some (.cells cs _ false)=>(asNat n hi n ρ).bind fun h=>(asNat h lo 0 ρ).bind fun l=>
     if off+n * sz=cs.length∧0<sz∧l<n then some (.sl id (off+l * sz) (h - l) sz ag,σ) else none
   | _=>none
  | _=>none
 | .faddr off x=>match ev ρ x with
  | .ptr id o=>some (.ptr id (o+off),σ)
  | .iptr cs o=>some (.iptr cs (o+off),σ)
  | _=>none
 | .field off sz ag x=>match ev ρ x with
  | .agg cs=>((window cs off sz).bind (mk ag)).map fun v=>(v,σ)
  | _=>none
 | .iaddrS sz x i=>match ev ρ i with
  | .int _ n=>if 0≤n then (match ev ρ x with
   | .isl es _=>es[n.toNat]?.bind fun e=>if e.cells.length=sz then some (.iptr e.cells 0,σ) else none
   | .own _ es=>es[n.toNat]?.bind fun e=>if e.cells.length=sz then some (.iptr e.cells 0,σ) else none
   | .sl id off len sz' _=>if n<len∧sz=sz' then some (.ptr id (off+n.toNat * sz),σ) else none
   | _=>none) else none
  | _=>none
 | .iaddrA n sz x i=>match ev ρ x,ev ρ i with
  | .ptr id off,.int _ m=>if 0≤m∧m<n then some (.ptr id (off+m.toNat * sz),σ) else none
  | .iptr cs off,.int _ m=>if 0≤m∧m<n then some (.iptr cs (off+m.toNat * sz),σ) else none
  | _,_=>none
 | .idxStr x i=>match ev ρ x,ev ρ i with
  | .str s,.int _ n=>if 0≤n then (s.data.toList[n.toNat]?).map fun b=>(.int .u8 (b.toNat:Int),σ) else none
  | _,_=>none
 | .idxArr n sz ag x i=>match ev ρ x,ev ρ i with
  | .agg cs,.int _ m=>if 0≤m∧m<n then ((window cs (m.toNat * sz) sz).bind (mk ag)).map fun v=>(v,σ) else none
  | _,_=>none
 | .rng x=>match ev ρ x with
  | .str s=>some (.ptr σ.length 0,σ++[.iter s 0])
  | _=>none
 | .nxt x=>match ev ρ x with
  | .ptr id 0=>match σ[id]? with
   | some (.iter s pos)=>if pos<s.size then
     some (.tup [.bool true,.int .i64 (pos:Int),.int .i32 (Utf8.decode s pos).1],σ.set id (.iter s (pos+(Utf8.decode s pos).2)))
    else some (.tup [.bool false],σ)
   | _=>none
  | _=>none
 | .extract i x=>match ev ρ x with
  | .tup vs=>vs[i]?.map fun v=>(v,σ)
  | _=>none
 | .len st x=>if isSl (ev ρ x)=st then none else (lenA (ev ρ x)).map fun (n:Nat)=>(.int .i64 (n:Int),σ)
 | .append sz ag bytes mt s x=>appendC σ sz ag bytes mt (ev ρ s) (ev ρ x)
 | .max xs=>(maxA (xs.map (ev ρ))).map fun v=>(v,σ)
 | .min2 x y=>match ev ρ x,ev ρ y with
  | .int k a,.int _ b=>some (.int k (if b<a then b else a),σ)
  | _,_=>none
 | _=>none
end Go.Mach
end
section
namespace Go.Mach
def cV1:Value→Option AV
 | .int k n=>some (.int k n)
 | .bool b=>some (.bool b)
 | .string s=>some (.str s)
 | .pointer none=>some .nilptr
 | .slice none 0 0=>some (.isl [] true)
 | .nilFunc=>some .nilfunc
 | .map none=>some .nilmap
 | _=>none
def cV:Value→Option AV
 | .agg cs=>(cs.toList.mapM cV1).map .agg
 | v=>cV1 v
def cx:Operand→Option AX
 | .tmp t=>some (.t t)
 | .const v=>(cV v).map .c
 | .func f=>some (.f f)
 | .global _=>none
def cxo:Option Operand→Option (Option AX)
 | none=>some none
 | some x=>(cx x).map some
def sizeT (P:Program) (t:TypeId):Option Nat:=(P.info? t).map (·.size)
def aggT (P:Program) (t:TypeId):Option Bool:=match P.underlying t with
 | some (.struct _) | some (.array _ _)=>some true
 | some _=>some false
 | none=>none
def zeroT (P:Program) (t:TypeId):Option (List AV):=((P.info? t).bind (·.zero)).bind fun z=>(z.cells.toList.mapM cV1)
def isU8 (P:Program) (t:TypeId):Bool:=match P.underlying t with | some (.int .u8)=>true | _=>false
def allParts (size:Nat→Option (Nat × Nat)):List (Nat × Operand)→Option (List (Nat × Nat × AX))
 | []=>some []
 | (i,x) :: rest=>do
  let (off,sz) ← size i
  let y ← cx x
  let r ← allParts size rest
  some ((off,sz,y) :: r)
def elemT (P:Program) (t:TypeId):Option TypeId:=match P.underlying t with | some (.slice e)=>some e | _=>none
def scalK (P:Program) (t:TypeId):Option Nat:=match P.underlying t with
 | some (.int _)=>some 0
 | some .bool=>some 1
 | some .string=>some 2
 | _=>none
def scalF (P:Program):Nat→List Field→Option (List Nat)
 | _,[]=>some []
 | i, f :: fs => if f.offset = i ∧ f.name ≠ "_" ∧ sizeT P f.type = some 1 ∧ aggT P f.type = some false then (scalK P f.type).bind fun k => (scalF P (i + 1) fs).map (k :: ·) else none
def scalT (P:Program) (t:TypeId):Option (List Nat):=match P.underlying t with
 | some (.struct fs)=>if P.stoodInHeld t=false∧P.eqGuardType P.depth t=false then scalF P 0 fs.toList else none
 | _=>none
def compBin (P:Program) (op:BinOp) (t:TypeId) (x y:Operand):Option AOp:=
 match P.underlying t with
 | some (.int _) | some .string=>do some (.bin op (← cx x) (← cx y))
 | some .bool=>match op with
  | .eql=>do some (.eqb false (← cx x) (← cx y))
  | .neq=>do some (.eqb true (← cx x) (← cx y))
  | _=>none
 | some (.slice _)=>match op,y with
  | .eql,.const (.slice none 0 0)=>do some (.eqnil false (← cx x))
  | .neq,.const (.slice none 0 0)=>do some (.eqnil true (← cx x))
  | _,_=>none
 | some (.pointer _)=>match op,y with
  | .eql,.const (.pointer none)=>do some (.eqp false (← cx x))
  | .neq,.const (.pointer none)=>do some (.eqp true (← cx x))
  | _,_=>none
 | some (.struct _)=>match op with
  | .eql=>do some (.eqag false (← scalT P t) (← cx x) (← cx y))
  | .neq=>do some (.eqag true (← scalT P t) (← cx x) (← cx y))
  | _=>none
 | _=>none
def compConv (P:Program) (src dst:TypeId) (x:Operand):Option AOp:=
 match P.underlying src,P.underlying dst with
 | some (.int _),some (.int k)=>do some (.conv k (← cx x))
 | some .string,some .string=>do some (.cvs (← cx x))
 | some .string,some (.slice e)=>if isU8 P e then do some (.s2b (← cx x)) else none
 | some (.slice e),some .string=>if isU8 P e then do some (.b2s (← cx x)) else none
 | _,_=>none
def compCall (P:Program) (mt:Bool) (c:Call):Option AOp:=
 match c.callee with
 | .value (.func f)=>do some (.call f (← c.args.toList.mapM cx))
 | .value x=>do some (.callv (← cx x) (← c.args.toList.mapM cx))
 | .builtin .len=>match c.argTypes.toList,c.args.toList with
  | [t],[x]=>match P.underlying t with
   | some .string=>do some (.len true (← cx x))
   | some (.slice _)=>do some (.len false (← cx x))
   | _=>none
  | _,_=>none
 | .builtin .append=>match c.argTypes.toList,c.args.toList with
  | [t,u],[s,x]=>match P.underlying t,P.underlying u with
   | some (.slice e),some (.slice _)=>do
    let sz ← sizeT P e
    let zs ← zeroT P e
    if zs.length=sz then some (.append sz (← aggT P e) (← (P.info? e).map (·.bytes)) mt (← cx s) (← cx x)) else none
   | some (.slice e),some .string=>do
    let sz ← sizeT P e
    let zs ← zeroT P e
    if zs.length=sz then some (.append sz (← aggT P e) (← (P.info? e).map (·.bytes)) mt (← cx s) (← cx x)) else none
   | _,_=>none
  | _,_=>none
 | .builtin .min=>match c.args.toList with
  | [x,y]=>do some (.min2 (← cx x) (← cx y))
  | _=>none
 | .builtin .max=>do some (.max (← c.args.toList.mapM cx))
 | .builtin .clear=>match c.argTypes.toList,c.args.toList with
  | [t],[x]=>match P.underlying t with
   | some (.slice e)=>do
    let sz ← sizeT P e
    let zs ← zeroT P e
    if zs.length=sz∧0<sz then some (.clear sz zs (← cx x)) else none
   | _=>none
  | _,_=>none
 | _=>none
def bldIn (P:Program) (e:TypeId):Option TypeId:=match P.underlying e with
 | some (.struct fs)=>match fs.toList with
  | [f0,f1]=>match P.underlying f0.type,P.underlying f1.type with
   | some (.pointer e'),some (.slice b)=>if e'=e && isU8 P b then some b else none
   | _,_=>none
  | _=>none
 | _=>none
def bldOf (P:Program) (e:TypeId):Option TypeId:=match P.underlying e with
 | some (.struct fs)=>match fs.toList with
  | [f]=>bldIn P f.type
  | _=>bldIn P e
 | _=>none
def isBld0:List AV→Bool
 | [.nilptr,.isl [] true]=>true
 | _=>false
def keyT (P:Program) (t:TypeId):Option (Bool × List Nat):=match P.underlying t with
 | some (.int _)=>some (false,[0])
 | some .string=>some (false,[2])
 | some (.struct _)=>(scalT P t).map fun ks=>(true,ks)
 | _=>none
def zeroV (P:Program) (t:TypeId):Option AV:=((P.info? t).bind (·.zero)).bind cV
def compOp (P:Program) (mt:Bool) (o:Oper):Option AOp:=
 match o.op with
 | .move x | .assign x=>do some (.mv (← cx x))
 | .pick c a b=>do some (.pick (← cx c) (← cx a) (← cx b))
 | .alloc e=>match bldOf P e with
  | some b=>(zeroT P e).bind fun zs=>if isBld0 zs=true then some (.allocB e b) else none
  | none=>do some (.alloc (← zeroT P e))
 | .box _ x=>do some (.box (← cx x))
 | .build t parts=>match P.underlying t with
  | some (.struct fs)=>do
   let sizes ← fs.toList.mapM fun f=>(sizeT P f.type).map fun s=>(f.offset,s)
   some (.build (← zeroT P t) (← allParts (fun i=>sizes[i]?) parts.toList))
  | some (.array _ e)=>do
   let s ← sizeT P e
   some (.build (← zeroT P t) (← allParts (fun i=>some (i * s,s)) parts.toList))
  | _=>none
 | .buildSlice t n parts=>match P.underlying t with
  | some (.slice e)=>do
   let s ← sizeT P e
   let zs ← zeroT P e
   if n * s≤16777216∧zs.length=s∧0<s then
    some (.buildSl n s (← aggT P e) ((List.replicate n zs).flatten) (← allParts (fun i=>some (i * s,s)) parts.toList)) else none
  | _=>none
 | .load t x=>do some (.load (← sizeT P t) (← aggT P t) (← cx x))
 | .store t a x=>do some (.store (← sizeT P t) (← cx a) (← cx x))
 | .nilCheck x=>do some (.nilck (← cx x))
 | .binOp op t x y _=>compBin P op t x y
 | .unOp op _ x=>do some (.un op (← cx x))
 | .convert src dst x=>compConv P src dst x
 | .makeFunc (.func f) first caps=>if first.size=0 then do some (.mkfn f (← caps.toList.mapM cx)) else if caps.size=0 then do some (.mkmeth f (← first.toList.mapM cx)) else none
 | .makeSlice t l c=>match P.underlying t with
  | some (.slice e)=>do
   let s ← sizeT P e
   let zs ← zeroT P e
   if zs.length=s∧0<s then some (.mksl s (← aggT P e) (← (P.info? e).map (·.bytes)) zs (← cx l) (← cx c)) else none
  | _=>none
 | .slice t x lo hi mx=>match P.underlying t with
  | some .string=>match mx with
   | none=>do some (.strSl (← cx x) (← cxo lo) (← cxo hi))
   | some _=>none
  | some (.slice e)=>match mx with
   | none=>do some (.slSl (← sizeT P e) (← cx x) (← cxo lo) (← cxo hi))
   | some m=>match lo,hi with
    | some l,some h=>do some (.slCl (← sizeT P e) (← cx x) (← cx l) (← cx h) (← cx m))
    | _,_=>none
  | some (.array n e)=>match mx with
   | none=>do some (.arrSl n (← sizeT P e) (← aggT P e) (← cx x) (← cxo lo) (← cxo hi))
   | some _=>none
  | _=>none
 | .fieldAddr s x f=>match P.underlying s with
  | some (.struct fs)=>match fs[f]? with
   | some fd=>match sizeT P fd.type with
    | some (_+1)=>do some (.faddr fd.offset (← cx x))
    | _=>none
   | none=>none
  | _=>none
 | .field t x f=>match P.underlying t with
  | some (.struct fs)=>match fs[f]? with
   | some fd=>do some (.field fd.offset (← sizeT P fd.type) (← aggT P fd.type) (← cx x))
   | none=>none
  | _=>none
 | .indexAddr t x i=>match P.underlying t with
  | some (.slice e)=>do some (.iaddrS (← sizeT P e) (← cx x) (← cx i))
  | some (.array n e)=>do some (.iaddrA n (← sizeT P e) (← cx x) (← cx i))
  | _=>none
 | .makeMap _ none=>some .mkmap
 | .lookup t x i ok=>match P.underlying t with
  | some (.map kt et)=>do
   let k ← keyT P kt
   let zv ← zeroV P et
   some (.mlook k.1 k.2 zv ok (← cx x) (← cx i))
  | _=>none
 | .mapUpdate t m k x=>match P.underlying t with
  | some (.map kt _)=>do
   let kk ← keyT P kt
   some (.mset kk.1 kk.2 (← cx m) (← cx k) (← cx x))
  | _=>none
 | .index t x i=>match P.underlying t with
  | some .string=>do some (.idxStr (← cx x) (← cx i))
  | some (.array n e)=>do some (.idxArr n (← sizeT P e) (← aggT P e) (← cx x) (← cx i))
  | _=>none
 | .range t x=>match P.underlying t with
  | some .string=>do some (.rng (← cx x))
  | _=>none
 | .next x true=>do some (.nxt (← cx x))
 | .extract x i=>do some (.extract i (← cx x))
 | .call c=>compCall P mt c
 | _=>none
end Go.Mach
end
section
namespace Go.Mach
open Go.RowKit
structure RR (g:Gh) (ρ:Regs) (tmps:Array Value):Prop where
 len:ρ.length=tmps.size
 val:∀ t,VR g (ρ.getD t .undef) (tmps.getD t undef)
theorem RR.mono {g g':Gh} (hg:g.le g') {ρ tmps} (h:RR g ρ tmps):RR g' ρ tmps:=⟨h.len,fun t=>(h.val t).mono hg⟩
theorem RR.set {g:Gh} {ρ tmps} (h:RR g ρ tmps) (d:Nat) {x v} (hx:VR g x v):RR g (ρ.set d x) (tmps.setIfInBounds d v):=by
 refine ⟨by simp [h.len],fun t=>?_⟩
 have hl:=h.len
 have ht:=h.val t
 simp only [List.getD_eq_getElem?_getD,Array.getD_eq_getD_getElem?] at ht ⊢
 by_cases hd:d=t
 ·subst hd
  by_cases hlt:d<ρ.length
  ·simp [hlt,show d<tmps.size by omega,hx]
  ·simp [show ¬ d<tmps.size by omega,hlt] at ht ⊢
   exact .undef _
 ·simpa [hd,Array.getElem?_setIfInBounds] using ht
theorem VR.nilsl {g:Gh}:VR g (.isl [] true) (.slice none 0 0):=
 VR.isl (es:=[]) (a:=none) (c:=0) (b:=0) (p:=0) (s:=1) (fun _=>Go.undef) (by simp) (by omega) (.inl rfl) (fun _=>rfl) (Nat.le_refl _) (by simp [flat]) (by simp [flat])
theorem cV1_VR {g:Gh} {v:Value} {x:AV} (h:cV1 v=some x):VR g x v∧x.cellv=true:=by
 unfold cV1 at h
 split at h
 ·injection h with h; subst h; exact ⟨.int _ _,rfl⟩
 ·injection h with h; subst h; exact ⟨.bool _,rfl⟩
 ·injection h with h; subst h; exact ⟨.str _,rfl⟩
 ·injection h with h; subst h; exact ⟨.nilptr,rfl⟩
 ·injection h with h; subst h; exact ⟨.nilsl,rfl⟩
 ·injection h with h; subst h; exact ⟨.nilfunc,rfl⟩
 ·injection h with h; subst h; exact ⟨.nilmap,rfl⟩
 ·cases h
theorem mapM_cV1 {g:Gh}:∀ {l:List Value} {xs:List AV},l.mapM cV1=some xs→xs.length=l.length∧∀ (i:Nat) x v,xs[i]?=some x→l[i]?=some v→VR g x v∧x.cellv=true
 | [],xs,h=>by simp at h; subst h; exact ⟨rfl,fun i x v hx _=>by simp at hx⟩
 | v :: l,xs,h=>by
  rw [List.mapM_cons] at h
  simp only [zqK,zqH,Option.pure_def] at h
  obtain ⟨x,hx,ys,hys,e⟩:=h
  injection e with e; subst e
  obtain ⟨hl,hv⟩:=mapM_cV1 (g:=g) hys
  refine ⟨by simp [hl],fun i y u hy hu=>?_⟩
  cases i with
  | zero=>simp at hy hu; subst hy hu; exact cV1_VR hx
  | succ i=>simp at hy hu; exact hv i y u hy hu
theorem cV_VR {g:Gh} {v:Value} {x:AV} (h:cV v=some x):VR g x v:=by
 unfold cV at h
 split at h
 ·rename_i cs
  obtain ⟨xs,hxs,rfl⟩:=zqG.1 h
  obtain ⟨hl,hv⟩:=mapM_cV1 (g:=g) hxs
  refine .agg (by simpa using hl) (fun x hx=>?_) fun i x v hx hv'=>(hv i x v hx (by simpa using hv')).1
  obtain ⟨i,hi,rfl⟩:=zqS hx
  have h1:i<cs.toList.length:=by omega
  exact (hv i _ _ (zqF hi) (zqF h1)).2
 ·exact (cV1_VR h).1
theorem ev_VR {g:Gh} {ρ:Regs} {a:Act} (hR:RR g ρ a.tmps) {o:Operand} {x:AX} (h:cx o=some x):VR g (ev ρ x) (a.eval o):=by
 cases o with
 | tmp t=>simp only [cx] at h; injection h with h; subst h; exact hR.val t
 | const v=>simp only [cx] at h; obtain ⟨y,hy,rfl⟩:=zqG.1 h; exact cV_VR hy
 | func f=>simp only [cx] at h; injection h with h; subst h; exact .func rfl (fun i x v hx _=>by simp at hx)
 | global n=>simp [cx] at h
theorem VR.cell1 {g:Gh} {x:AV} {v:Value} (h:VR g x v) (hc:x.cellv=true):v.oneCell'=true∧v.cells=#[v]:=by
 cases h <;> first | (exact ⟨rfl,rfl⟩) | (simp [AV.cellv] at hc)
theorem AV.cells_of_cellv {x:AV} (h:x.cellv=true):x.cells=[x]:=by cases x <;> first | rfl | simp [AV.cellv] at h
theorem VR.cells {g:Gh} {x:AV} {v:Value} (h:VR g x v) (hs:x.solid=true) :
  x.cells.length=v.cells.size∧∀ (i:Nat) y,x.cells[i]?=some y→y.cellv=true∧∃ u,v.cells[i]?=some u∧u.oneCell'=true∧VR g y u:=by
 by_cases hcv:x.cellv=true
 ·obtain ⟨h1,h2⟩:=h.cell1 hcv
  rw [AV.cells_of_cellv hcv,h2]
  refine ⟨rfl,fun i y hy=>?_⟩
  cases i with
  | zero=>simp at hy; subst hy; exact ⟨hcv,v,rfl,h1,h⟩
  | succ i=>simp at hy
 ·cases h with
  | @agg cs vs hl hc hV=>
   refine ⟨hl,fun i y hy=>?_⟩
   have hm:=hc y (zqR hy)
   simp only [AV.cells] at hy
   have hlt:i<vs.size:=by have:=(zqI.1 hy).1; rw [hl] at this; exact this
   have hg:=Array.getElem?_eq_getElem hlt
   have:=hV i y _ hy hg
   exact ⟨hm,_,hg,(this.cell1 hm).1,this⟩
  | undef=>simp [AV.solid] at hs
  | tup=>simp [AV.solid] at hs
  | _=>simp [AV.cellv] at hcv
end Go.Mach
end
section
namespace Go.Mach
open Go.RowKit
structure Same (w w':World):Prop where
 os:w'.os=w.os
 tape:w'.tape=w.tape
 output:w'.output=w.output
theorem Same.refl (w:World):Same w w:=⟨rfl,rfl,rfl⟩
theorem cell_heap {w:World} {b:Nat} {cv:Array Value} {tag:TypeId} {fr:Nat × Nat} (h:w.heap[b]?=some (.cells cv tag fr)) (i:Nat):w.cell? ⟨b,i,none⟩=cv[i]?:=by
 simp only [World.cell?,h]; simp
theorem cell_congr {w w':World} {b:Nat} (h:w'.heap[b]?=w.heap[b]?) (i:Nat):w'.cell? ⟨b,i,none⟩=w.cell? ⟨b,i,none⟩:=by
 simp only [World.cell?,h]
theorem HR.lt {g ow σ w} (h:HR g ow σ w) {b i v} (hm:g.M b i=some v):b<w.heap.size:=World.block_lt_of_cell? w _ (h.mem _ _ _ hm)
theorem HR.congr {g ow σ w w'} (h:HR g ow σ w) (hh:w'.heap=w.heap):HR g ow σ w':=by
 have hc:∀ b i,w'.cell? ⟨b,i,none⟩=w.cell? ⟨b,i,none⟩:=fun b i=>cell_congr (by rw [hh]) i
 exact ⟨fun b i v hm=>(hc b i).trans (h.mem b i v hm),fun id x hx=>by rw [hh]; exact h.dom id x hx,h.domψ,
  fun id cs fz ext hσ b c hp=>by rw [hh]; exact h.cel id cs fz ext hσ b c hp,
  fun id n s hσ b p c hp=>by rw [hh]; exact h.tk id n s hσ b p c hp,
  h.tle,fun id s pos hσ b c hp=>by rw [hh]; exact h.it id s pos hσ b c hp,
  fun id o hsp hσ b c hp=>(h.bd id o hsp hσ b c hp).keep (.refl _) fun b' ho _=>⟨by rw [hh],ho,fun i hi=>hi⟩,h.pin.of fun b _ ho=>⟨by rw [hh],ho⟩⟩
theorem St.congr {bs g ow σ w w'} (hs:Same w w') (hh:w'.heap=w.heap):St bs g ow σ w g ow σ w':=
 ⟨.refl g,hs.os,hs.tape,hs.output,by rw [hh]; exact Nat.le_refl _,fun _ _ h=>⟨by rw [hh],h⟩,Nat.le_refl _,fun _ _ h=>h,fun _ _ _ _=>rfl,
  fun _ _ _ cs fz ext h=>⟨cs,fz,ext,h,fun _ _ hx=>.inr ⟨hx,fun _ _ _=>cell_congr (by rw [hh]) _⟩⟩⟩
def Gh.put (g:Gh) (id b c:Nat):Gh:=⟨fun i=>if i=id then some (b,c) else g.φ i,g.ψ,g.M⟩
def upd (f:Nat→Option Nat) (b id:Nat):Nat→Option Nat:=fun i=>if i=b then some id else f i
theorem Gh.put_le {g : Gh} {id : Nat} (hid : g.φ id = none) (b c : Nat) : g.le (g.put id b c) :=
  ⟨fun i x hx => by simp only [Gh.put]; split
                    · rename_i e; subst e; rw [hid] at hx; cases hx
                    · exact hx, fun _ _ _ h => h, fun _ _ _ h => h⟩
theorem HR.newAt {g ow σ w w'} (h:HR g ow σ w) {o:Obj} (hw:w'.heap=w.heap.push o) {id:Nat} (hid:g.φ id=none) {σ':List AObj} (hψ:∀ n s,σ'[id]?≠some (.tok n s)) (hlen:σ.length≤σ'.length) (hlt:id<σ'.length)
  (hσ':∀ j,j<σ.length→j≠id→σ'[j]?=σ[j]?) (hσn:∀ j,σ.length≤j→j≠id→g.φ j=none∧∀ n,g.ψ j n=none) (c:Nat)
  (hc:∀ cs fz ext,σ'[id]?=some (.cells cs fz ext)→∃ cv tag fr,o=.cells cv tag fr∧cs.length≤c∧c≤cv.size∧(ext=false→c=cs.length) ∧
   (∀ (i:Nat) x,cs[i]?=some x→x.cellv=true∧∃ v,cv[i]?=some v∧VR g x v)∧(∀ i,i<cv.size→¬ (fr.1≤i∧i<fr.2)))
  (hi:∀ s pos,σ'[id]?=some (.iter s pos)→o=.stringIter s pos) (hbd:∀ o',o'.sp=true→σ'[id]?=some o'→(∃ t e,o'=.bld t e []∧o=.cells #[.pointer none,.slice none 0 0] t (0,0))∨(o'=.mp []∧o=.map #[] 0) ∨
   ∃ rc tm st pd rec,o'=.lp rc tm st pd∧o=.loop rec∧(rec.params=rc.params∧rec.assign=rc.assign∧rec.body=rc.body∧rec.state=st∧rec.pending=pd)∧tm.length=rec.tmps.size∧∀ t,VR (g.res id) (tm.getD t .undef) (rec.tmps.getD t undef)) :
  HR (g.put id w.heap.size c) (upd ow w.heap.size id) σ' w':=by
 have hle:=Gh.put_le hid w.heap.size c
 have hold:∀ b,b<w.heap.size→w'.heap[b]?=w.heap[b]?:=fun b hb=>by rw [hw,Array.getElem?_push]; simp [Nat.ne_of_lt hb]
 have hnew:w'.heap[w.heap.size]?=some o:=by rw [hw]; simp
 have hφ:∀ j x,(g.put id w.heap.size c).φ j=some x→(j=id∧x=(w.heap.size,c))∨(j≠id∧g.φ j=some x):=fun j x hx=>by
  simp only [Gh.put] at hx; split at hx
  ·injection hx with hx; exact .inl ⟨by assumption,hx.symm⟩
  ·exact .inr ⟨by assumption,hx⟩
 have how:∀ b,b<w.heap.size→upd ow w.heap.size id b=ow b:=fun b hb=>by simp [upd,Nat.ne_of_lt hb]
 have hsz:w'.heap.size=w.heap.size+1:=by rw [hw]; simp
 have holdσ:∀ j,j≠id→(∃ x,g.φ j=some x)∨(∃ n x,g.ψ j n=some x)→σ'[j]?=σ[j]?:=fun j hj hx=>by
  rcases Nat.lt_or_ge j σ.length with hl | hl
  ·exact hσ' j hl hj
  ·obtain ⟨h1,h2⟩:=hσn j hl hj
   rcases hx with ⟨x,hx⟩ | ⟨n,x,hx⟩
   ·rw [h1] at hx; cases hx
   ·rw [h2] at hx; cases hx
 refine ⟨fun b i v hm=>(cell_congr (hold b (h.lt hm)) i).trans (h.mem b i v hm),fun j x hx=>?_,fun j n x hx=>Nat.lt_of_lt_of_le (h.domψ j n x hx) hlen,?_,?_,?_,?_,?_,h.pin.of fun b hb ho=>⟨hold b hb,(how b hb).trans ho⟩⟩
 ·rcases hφ j x hx with ⟨rfl,rfl⟩ | ⟨_,hx⟩
  ·exact ⟨hlt,by simp [hsz]⟩
  ·have:=h.dom j x hx; exact ⟨by omega,by omega⟩
 ·intro j cs fz ext hσ b c' hp
  rcases hφ j _ hp with ⟨rfl,he⟩ | ⟨hj,hp'⟩
  ·injection he with e1 e2; subst e1 e2
   obtain ⟨cv,tag,fr,ho,k1,k2,k3,k4,k5⟩:=hc cs fz ext hσ
   refine ⟨cv,tag,fr,by rw [hnew,ho],k1,k2,k3,fun i x hx=>?_,by simp [upd],fun i _=>⟨?_,k5 i⟩⟩
   ·obtain ⟨a,v,b',c''⟩:=k4 i x hx; exact ⟨a,v,b',c''.mono hle⟩
   ·cases hm:(g.put j w.heap.size c').M w.heap.size i with
    | none=>rfl
    | some v=>exact absurd (h.lt hm) (Nat.lt_irrefl _)
  ·rw [holdσ j hj (.inl ⟨_,hp'⟩)] at hσ
   have hb:=(h.dom j _ hp').2
   obtain ⟨cv,tag,fr,k0,k1,k2,k3,k4,k5,k6⟩:=h.cel j cs fz ext hσ b c' hp'
   refine ⟨cv,tag,fr,(hold b hb).trans k0,k1,k2,k3,fun i x hx=>?_,(how b hb).trans k5,k6⟩
   obtain ⟨a,v,b',c''⟩:=k4 i x hx; exact ⟨a,v,b',c''.mono hle⟩
 ·intro j n s hσ b p c' hp
  have hp':g.ψ j n=some (b,p,c'):=hp
  have hj:j≠id:=fun e=>by subst e; exact hψ _ _ hσ
  rw [holdσ j hj (.inr ⟨_,_,hp'⟩)] at hσ
  obtain ⟨cv,tag,fr,k0,k1,k2,k3,k4⟩:=h.tk j n s hσ b p c' hp'
  have hb:b<w.heap.size:=(zqN.1 k0).1
  exact ⟨cv,tag,fr,(hold b hb).trans k0,k1,k2,(how b hb).trans k3,k4⟩
 ·intro j n s hσ m x hp
  have hp':g.ψ j m=some x:=hp
  have hj:j≠id:=fun e=>by subst e; exact hψ _ _ hσ
  rw [holdσ j hj (.inr ⟨_,_,hp'⟩)] at hσ
  exact h.tle j n s hσ m x hp'
 ·intro j s pos hσ b c' hp
  rcases hφ j _ hp with ⟨rfl,he⟩ | ⟨hj,hp'⟩
  ·injection he with e1 e2; subst e1
   exact ⟨by rw [hnew,hi s pos hσ],by simp [upd]⟩
  ·rw [holdσ j hj (.inl ⟨_,hp'⟩)] at hσ
   have hb:=(h.dom j _ hp').2
   obtain ⟨k0,k1⟩:=h.it j s pos hσ b c' hp'
   exact ⟨(hold b hb).trans k0,(how b hb).trans k1⟩
 ·intro j o' hsp hσ b c' hp
  rcases hφ j _ hp with ⟨rfl,he⟩ | ⟨hj,hp'⟩
  ·injection he with e1 e2; subst e1
   have hno:∀ i,(g.put j w.heap.size c).M w.heap.size i=none:=fun i=>by
    cases hm:(g.put j w.heap.size c).M w.heap.size i with
    | none=>rfl
    | some v=>exact absurd (h.lt hm) (Nat.lt_irrefl _)
   rcases hbd o' hsp hσ with ⟨t,e,rfl,ho⟩ | ⟨rfl,ho⟩ | ⟨rc,tm,st,pd,rec,rfl,ho,h2,h3,h4⟩
   ·exact ⟨.pointer none,.slice none 0 0,by rw [hnew,ho],.inl rfl,by simp [upd],hno,.inl ⟨rfl,rfl⟩⟩
   ·exact ⟨#[],0,by rw [hnew,ho],rfl,fun i k v hi=>by simp at hi,by simp [upd],hno,rfl,fun i e he=>by simp at he⟩
   ·exact ⟨rec,by rw [hnew,ho],h2,h3,fun t=>(h4 t).mono (Gh.res_mono hle j),by simp [upd],hno⟩
  ·rw [holdσ j hj (.inl ⟨_,hp'⟩)] at hσ
   exact (h.bd j o' hsp hσ b c' hp').keep (Gh.res_mono hle j) fun b' ho hb'=>⟨hold b' hb',(how b' hb').trans ho,fun i hi=>hi⟩
theorem St.newAt {bs g ow σ w w'} (h:HR g ow σ w) {o:Obj} (hw:w'.heap=w.heap.push o) (hs:Same w w') {id:Nat} (hid:σ.length≤id) {σ':List AObj} (hlen:σ.length≤σ'.length)
  (hσ':∀ j,j<σ.length→j≠id→σ'[j]?=σ[j]?) (c:Nat):St bs g ow σ w (g.put id w.heap.size c) (upd ow w.heap.size id) σ' w':=by
 have hn:g.φ id=none:=by
  cases hg:g.φ id with
  | none=>rfl
  | some x=>exact absurd (h.dom id x hg).1 (by omega)
 have hold:∀ b,b<w.heap.size→w'.heap[b]?=w.heap[b]?:=fun b hb=>by rw [hw,Array.getElem?_push]; simp [Nat.ne_of_lt hb]
 refine ⟨Gh.put_le hn _ _,hs.os,hs.tape,hs.output,by rw [hw]; simp,fun b hb ho=>⟨hold b hb,by simp [upd,Nat.ne_of_lt hb,ho]⟩,hlen,fun j hj hj'=>?_,fun _ _ _ _=>rfl,fun j _ hj cs fz ext hσ=>?_⟩
 ·simp only [Gh.put]; rw [if_neg (by omega)]; exact hj'
 ·rw [hσ' j hj (by omega)] at hσ
  exact ⟨cs,fz,ext,hσ,fun i x hx=>.inr ⟨hx,fun b c hp=>cell_congr (hold b (h.dom j _ hp).2) i⟩⟩
theorem HR.none_len {g ow σ w} (h:HR g ow σ w) {id:Nat} (hid:σ.length≤id):g.φ id=none∧∀ n,g.ψ id n=none:=by
 refine ⟨?_,fun n=>?_⟩
 ·cases hg:g.φ id with
  | none=>rfl
  | some x=>exact absurd (h.dom id x hg).1 (by omega)
 ·cases hg:g.ψ id n with
  | none=>rfl
  | some x=>exact absurd (h.domψ id n x hg) (by omega)
theorem HR.new {bs g ow σ w w'} (h:HR g ow σ w) {cs:List AV} {cv:Array Value} {tag:TypeId} {fr:Nat × Nat} (hw:w'.heap=w.heap.push (.cells cv tag fr)) (hs:Same w w') (ext:Bool) (c:Nat)
  (h1:cs.length≤c) (h2:c≤cv.size) (h3:ext=false→c=cs.length) (h4:∀ (i:Nat) x,cs[i]?=some x→x.cellv=true∧∃ v,cv[i]?=some v∧VR g x v) (h5:∀ i,i<cv.size→¬ (fr.1≤i∧i<fr.2)) :
  ∃ g' ow',g'.φ σ.length=some (w.heap.size,c)∧HR g' ow' (σ++[.cells cs 0 ext]) w'∧St bs g ow σ w g' ow' (σ++[.cells cs 0 ext]) w':=by
 have hn:=h.none_len (Nat.le_refl σ.length)
 refine ⟨g.put σ.length w.heap.size c,upd ow w.heap.size σ.length,by simp [Gh.put],?_,?_⟩
 ·refine h.newAt hw hn.1 (by simp) (by simp) (by simp) (fun j hj _=>zqA hj) (fun j hj _=>h.none_len hj) c (fun cs' fz' ext' hσ=>?_) (fun s pos hσ=>by simp at hσ) (fun o' hsp hσ=>by simp at hσ; subst hσ; cases hsp)
  simp at hσ; obtain ⟨rfl,rfl,rfl⟩:=hσ
  exact ⟨cv,tag,fr,rfl,h1,h2,h3,h4,h5⟩
 ·exact St.newAt h hw hs (Nat.le_refl _) (by simp) (fun j hj _=>zqA hj) c
end Go.Mach
end
section
namespace Go.Mach
open Go.RowKit
theorem heap_set {w w':World} {b:Nat} {o:Obj} (hw:w'.heap=w.heap.setIfInBounds b o) (j:Nat) (hj:j≠b):w'.heap[j]?=w.heap[j]?:=by
 rw [hw,Array.getElem?_setIfInBounds]; simp [Ne.symm hj]
theorem heap_set_at {w w':World} {b:Nat} {o:Obj} (hw:w'.heap=w.heap.setIfInBounds b o) (hb:b<w.heap.size):w'.heap[b]?=some o:=by
 rw [hw,Array.getElem?_setIfInBounds]; simp [hb]
theorem list_set_at {α:Type} {l:List α} {i:Nat} {x:α} (h:i<l.length):(l.set i x)[i]?=some x:=by simp [h]
theorem list_set_ne {α:Type} {l:List α} {i j:Nat} {x:α} (h:j≠i):(l.set i x)[j]?=l[j]?:=by simp [Ne.symm h]
theorem HR.write {bs g ow σ w w'} (h:HR g ow σ w) {id cs fz ext b c} (hσ:σ[id]?=some (.cells cs fz ext)) (hp:g.φ id=some (b,c))
  {cv cv':Array Value} {tag:TypeId} {fr:Nat × Nat} (hb:w.heap[b]?=some (.cells cv tag fr)) (hw:w'.heap=w.heap.setIfInBounds b (.cells cv' tag fr)) (hs:Same w w')
  {cs':List AV} (hl:cs'.length=cs.length) (hsz:cv'.size=cv.size) (hrel:∀ (i:Nat) x,cs'[i]?=some x→x.cellv=true∧∃ v,cv'[i]?=some v∧VR g x v)
  (hkeep:∀ i,i<fz∨cs.length≤i→cv'[i]?=cv[i]?) (hdisc:bs≤id∨∀ (i:Nat) x,cs'[i]?=some x→x.clo1=true∨(cs[i]?=some x∧cv'[i]?=cv[i]?)) :
  HR g ow (σ.set id (.cells cs' fz ext)) w'∧St bs g ow σ w g ow (σ.set id (.cells cs' fz ext)) w':=by
 obtain ⟨cv0,tag0,fr0,k0,k1,k2,k3,k4,k5,k6⟩:=h.cel id cs fz ext hσ b c hp
 rw [hb] at k0; injection k0 with k0; injection k0 with e1 e2 e3; subst e1 e2 e3
 have hbl:=(h.dom id _ hp).2
 have hid:=(h.dom id _ hp).1
 have hat:=heap_set_at hw hbl
 have hne:=heap_set hw
 have hsize:w'.heap.size=w.heap.size:=by rw [hw]; simp
 have hcell:∀ b' i,(b'≠b∨i<fz∨cs.length≤i)→w'.cell? ⟨b',i,none⟩=w.cell? ⟨b',i,none⟩:=fun b' i hh=>by
  by_cases e:b'=b
  ·subst e
   rw [cell_heap hat,cell_heap hb]
   exact hkeep i (by rcases hh with hh | hh | hh; exact absurd rfl hh; exact .inl hh; exact .inr hh)
  ·exact cell_congr (hne b' e) i
 have hσne:∀ j,j≠id→(σ.set id (.cells cs' fz ext))[j]?=σ[j]?:=fun j hj=>list_set_ne hj
 refine ⟨⟨fun b' i v hm=>?_,fun j x hx=>?_,fun j n x hx=>by simpa using h.domψ j n x hx,?_,?_,?_,?_,?_,h.pin.of fun b2 _ ho=>⟨hne b2 (fun e=>by subst e; rw [k5] at ho; cases ho),ho⟩⟩,?_⟩
 ·rw [hcell b' i ?_]; exact h.mem b' i v hm
  by_cases e:b'=b
  ·subst e
   refine .inr ?_
   rcases Nat.lt_or_ge i fz with hlt | hge
   ·exact .inl hlt
   ·rcases Nat.lt_or_ge i cs.length with hlt | hge'
    ·have:=(k6 i hge).1; rw [this] at hm; cases hm
    ·exact .inr hge'
  ·exact .inl e
 ·have:=h.dom j x hx; simp only [List.length_set,hsize]; exact this
 ·intro j cs2 fz2 ext2 hσ2 b2 c2 hp2
  by_cases e:j=id
  ·subst e
   rw [list_set_at hid] at hσ2; injection hσ2 with hσ2; injection hσ2 with e1 e2 e3; subst e1 e2 e3
   rw [hp] at hp2; injection hp2 with hp2; injection hp2 with e1 e2; subst e1 e2
   exact ⟨cv',tag,fr,hat,by omega,by omega,fun hh=>by rw [hl]; exact k3 hh,hrel,k5,fun i hi=>by rw [hsz]; exact k6 i hi⟩
  ·rw [hσne j e] at hσ2
   obtain ⟨cv2,tag2,fr2,m0,m1,m2,m3,m4,m5,m6⟩:=h.cel j cs2 fz2 ext2 hσ2 b2 c2 hp2
   have hb2:b2≠b:=fun eb=>by subst eb; rw [k5] at m5; injection m5 with m5; exact e m5.symm
   exact ⟨cv2,tag2,fr2,(hne b2 hb2).trans m0,m1,m2,m3,m4,m5,m6⟩
 ·intro j n s hσ2 b2 p c2 hp2
  have e:j≠id:=fun e=>by subst e; rw [list_set_at hid] at hσ2; injection hσ2 with hσ2; cases hσ2
  rw [hσne j e] at hσ2
  obtain ⟨cv2,tag2,fr2,m0,m1,m2,m3,m4⟩:=h.tk j n s hσ2 b2 p c2 hp2
  have hb2:b2≠b:=fun eb=>by subst eb; rw [k5] at m3; injection m3 with m3; exact e m3.symm
  exact ⟨cv2,tag2,fr2,(hne b2 hb2).trans m0,m1,m2,m3,m4⟩
 ·intro j n s hσ2 m x hp2
  have e:j≠id:=fun e=>by subst e; rw [list_set_at hid] at hσ2; injection hσ2 with hσ2; cases hσ2
  rw [hσne j e] at hσ2
  exact h.tle j n s hσ2 m x hp2
 ·intro j s pos hσ2 b2 c2 hp2
  have e:j≠id:=fun e=>by subst e; rw [list_set_at hid] at hσ2; injection hσ2 with hσ2; cases hσ2
  rw [hσne j e] at hσ2
  obtain ⟨m0,m1⟩:=h.it j s pos hσ2 b2 c2 hp2
  have hb2:b2≠b:=fun eb=>by subst eb; rw [k5] at m1; injection m1 with m1; exact e m1.symm
  exact ⟨(hne b2 hb2).trans m0,m1⟩
 ·intro j o2 hsp hσ2 b2 c2 hp2
  have e:j≠id:=fun e=>by subst e; rw [list_set_at hid] at hσ2; injection hσ2 with hσ2; subst hσ2; cases hsp
  rw [hσne j e] at hσ2
  exact (h.bd j o2 hsp hσ2 b2 c2 hp2).keep (.refl _) fun b' ho _=>⟨hne b' (fun eb=>by subst eb; rw [k5] at ho; injection ho with ho; exact e ho.symm),ho,fun i hi=>hi⟩
 ·refine ⟨.refl g,hs.os,hs.tape,hs.output,by omega,fun b' hb' ho=>⟨hne b' (fun e=>by subst e; rw [k5] at ho; cases ho),ho⟩,by simp,fun _ _ hh=>hh,fun _ _ _ _=>rfl,fun j hj hjl cs2 fz2 ext2 hσ2=>?_⟩
  by_cases e:j=id
  ·subst e
   rw [list_set_at hid] at hσ2; injection hσ2 with hσ2; injection hσ2 with e1 e2 e3; subst e1 e2 e3
   refine ⟨cs,fz,ext,hσ,fun i x hx=>?_⟩
   rcases hdisc with hd | hd
   ·omega
   ·rcases hd i x hx with hd | ⟨hd1,hd2⟩
    ·exact .inl hd
    ·refine .inr ⟨hd1,fun b2 c2 hp2=>?_⟩
     rw [hp] at hp2; injection hp2 with hp2; injection hp2 with e1 e2; subst e1 e2
     rw [cell_heap hat,cell_heap hb]; exact hd2
  ·rw [hσne j e] at hσ2
   refine ⟨cs2,fz2,ext2,hσ2,fun i x hx=>.inr ⟨hx,fun b2 c2 hp2=>?_⟩⟩
   obtain ⟨cv2,tag2,fr2,m0,m1,m2,m3,m4,m5,m6⟩:=h.cel j cs2 fz2 ext2 hσ2 b2 c2 hp2
   have hb2:b2≠b:=fun eb=>by subst eb; rw [k5] at m5; injection m5 with m5; exact e m5.symm
   exact cell_congr (hne b2 hb2) i
theorem HR.iterSet {bs g ow σ w w'} (h:HR g ow σ w) {id:Nat} {s:ByteArray} {pos pos' b c:Nat} (hσ:σ[id]?=some (.iter s pos)) (hp:g.φ id=some (b,c))
  (hw:w'.heap=w.heap.setIfInBounds b (.stringIter s pos')) (hs:Same w w') :
  HR g ow (σ.set id (.iter s pos')) w'∧St bs g ow σ w g ow (σ.set id (.iter s pos')) w':=by
 obtain ⟨k0,k5⟩:=h.it id s pos hσ b c hp
 have hbl:=(h.dom id _ hp).2
 have hid:=(h.dom id _ hp).1
 have hat:=heap_set_at hw hbl
 have hne:=heap_set hw
 have hsize:w'.heap.size=w.heap.size:=by rw [hw]; simp
 have hM:∀ i,g.M b i=none:=fun i=>by
  cases hm:g.M b i with
  | none=>rfl
  | some v=>have:=h.mem b i v hm; simp only [World.cell?,k0] at this; cases this
 have hσne:∀ j,j≠id→(σ.set id (.iter s pos'))[j]?=σ[j]?:=fun j hj=>list_set_ne hj
 refine ⟨⟨fun b' i v hm=>?_,fun j x hx=>?_,fun j n x hx=>by simpa using h.domψ j n x hx,?_,?_,?_,?_,?_,h.pin.of fun b2 _ ho=>⟨hne b2 (fun e=>by subst e; rw [k5] at ho; cases ho),ho⟩⟩,?_⟩
 ·have e:b'≠b:=fun e=>by subst e; rw [hM] at hm; cases hm
  rw [cell_congr (hne b' e) i]; exact h.mem b' i v hm
 ·have:=h.dom j x hx; simp only [List.length_set,hsize]; exact this
 ·intro j cs2 fz2 ext2 hσ2 b2 c2 hp2
  have e:j≠id:=fun e=>by subst e; rw [list_set_at hid] at hσ2; injection hσ2 with hσ2; cases hσ2
  rw [hσne j e] at hσ2
  obtain ⟨cv2,tag2,fr2,m0,m1,m2,m3,m4,m5,m6⟩:=h.cel j cs2 fz2 ext2 hσ2 b2 c2 hp2
  have hb2:b2≠b:=fun eb=>by subst eb; rw [k5] at m5; injection m5 with m5; exact e m5.symm
  exact ⟨cv2,tag2,fr2,(hne b2 hb2).trans m0,m1,m2,m3,m4,m5,m6⟩
 ·intro j n s hσ2 b2 p c2 hp2
  have e:j≠id:=fun e=>by subst e; rw [list_set_at hid] at hσ2; injection hσ2 with hσ2; cases hσ2
  rw [hσne j e] at hσ2
  obtain ⟨cv2,tag2,fr2,m0,m1,m2,m3,m4⟩:=h.tk j n s hσ2 b2 p c2 hp2
  have hb2:b2≠b:=fun eb=>by subst eb; rw [k5] at m3; injection m3 with m3; exact e m3.symm
  exact ⟨cv2,tag2,fr2,(hne b2 hb2).trans m0,m1,m2,m3,m4⟩
 ·intro j n s hσ2 m x hp2
  have e:j≠id:=fun e=>by subst e; rw [list_set_at hid] at hσ2; injection hσ2 with hσ2; cases hσ2
  rw [hσne j e] at hσ2
  exact h.tle j n s hσ2 m x hp2
 ·intro j s2 pos2 hσ2 b2 c2 hp2
  by_cases e:j=id
  ·subst e
   rw [list_set_at hid] at hσ2; injection hσ2 with hσ2; injection hσ2 with e1 e2; subst e1 e2
   rw [hp] at hp2; injection hp2 with hp2; injection hp2 with e1 e2; subst e1 e2
   exact ⟨hat,k5⟩
  ·rw [hσne j e] at hσ2
   obtain ⟨m0,m1⟩:=h.it j s2 pos2 hσ2 b2 c2 hp2
   have hb2:b2≠b:=fun eb=>by subst eb; rw [k5] at m1; injection m1 with m1; exact e m1.symm
   exact ⟨(hne b2 hb2).trans m0,m1⟩
 ·intro j o2 hsp hσ2 b2 c2 hp2
  have e:j≠id:=fun e=>by subst e; rw [list_set_at hid] at hσ2; injection hσ2 with hσ2; subst hσ2; cases hsp
  rw [hσne j e] at hσ2
  exact (h.bd j o2 hsp hσ2 b2 c2 hp2).keep (.refl _) fun b' ho _=>⟨hne b' (fun eb=>by subst eb; rw [k5] at ho; injection ho with ho; exact e ho.symm),ho,fun i hi=>hi⟩
 ·refine ⟨.refl g,hs.os,hs.tape,hs.output,by omega,fun b' hb' ho=>⟨hne b' (fun e=>by subst e; rw [k5] at ho; cases ho),ho⟩,by simp,fun _ _ hh=>hh,fun _ _ _ _=>rfl,fun j hj hjl cs2 fz2 ext2 hσ2=>?_⟩
  have e:j≠id:=fun e=>by subst e; rw [list_set_at hid] at hσ2; injection hσ2 with hσ2; cases hσ2
  rw [hσne j e] at hσ2
  refine ⟨cs2,fz2,ext2,hσ2,fun i x hx=>.inr ⟨hx,fun b2 c2 hp2=>?_⟩⟩
  obtain ⟨cv2,tag2,fr2,m0,m1,m2,m3,m4,m5,m6⟩:=h.cel j cs2 fz2 ext2 hσ2 b2 c2 hp2
  have hb2:b2≠b:=fun eb=>by subst eb; rw [k5] at m5; injection m5 with m5; exact e m5.symm
  exact cell_congr (hne b2 hb2) i
def Gh.fz (g:Gh) (b lo hi:Nat) (cv:Array Value):Gh:=⟨g.φ,g.ψ,fun b' i=>if b'=b∧lo≤i∧i<hi then cv[i]? else g.M b' i⟩
theorem HR.freeze {bs g ow σ w} (h:HR g ow σ w) {id cs fz ext b c} (hσ:σ[id]?=some (.cells cs fz ext)) (hp:g.φ id=some (b,c))
  {cv:Array Value} {tag:TypeId} {fr:Nat × Nat} (hb:w.heap[b]?=some (.cells cv tag fr)) {lo hi:Nat} :
  HR (g.fz b lo hi cv) ow (σ.set id (.cells cs (max fz hi) ext)) w∧St bs g ow σ w (g.fz b lo hi cv) ow (σ.set id (.cells cs (max fz hi) ext)) w:=by
 obtain ⟨cv0,tag0,fr0,k0,k1,k2,k3,k4,k5,k6⟩:=h.cel id cs fz ext hσ b c hp
 rw [hb] at k0; injection k0 with k0; injection k0 with e1 e2 e3; subst e1 e2 e3
 have hid:=(h.dom id _ hp).1
 have hle:g.le (g.fz b lo hi cv):=⟨fun _ _ hx=>hx,fun _ _ _ hx=>hx,fun b' i v hm=>by
  simp only [Gh.fz]; split
  ·rename_i e; obtain ⟨rfl,_⟩:=e
   have:=h.mem _ _ _ hm; rwa [cell_heap hb] at this
  ·exact hm⟩
 have hσne:∀ j,j≠id→(σ.set id (.cells cs (max fz hi) ext))[j]?=σ[j]?:=fun j hj=>list_set_ne hj
 have hMne:∀ b' i,b'≠b→(g.fz b lo hi cv).M b' i=g.M b' i:=fun b' i hne=>by simp [Gh.fz,hne]
 refine ⟨⟨fun b' i v hm=>?_,fun j x hx=>by simpa using h.dom j x hx,fun j n x hx=>by simpa using h.domψ j n x hx,?_,?_,?_,?_,?_,h.pin⟩,?_⟩
 ·simp only [Gh.fz] at hm; split at hm
  ·rename_i e; obtain ⟨rfl,_⟩:=e
   rw [cell_heap hb]; exact hm
  ·exact h.mem b' i v hm
 ·intro j cs2 fz2 ext2 hσ2 b2 c2 hp2
  by_cases e:j=id
  ·subst e
   rw [list_set_at hid] at hσ2; injection hσ2 with hσ2; injection hσ2 with e1 e2 e3; subst e1 e2 e3
   have hp2':g.φ j=some (b2,c2):=hp2
   rw [hp] at hp2'; injection hp2' with hp2'; injection hp2' with e1 e2; subst e1 e2
   refine ⟨cv,tag,fr,hb,k1,k2,k3,fun i x hx=>?_,k5,fun i hi1=>?_⟩
   ·obtain ⟨a,v,b',c''⟩:=k4 i x hx; exact ⟨a,v,b',c''.mono hle⟩
   ·have:=k6 i (by omega)
    refine ⟨?_,this.2⟩
    simp only [Gh.fz]; rw [if_neg (by omega)]; exact this.1
  ·rw [hσne j e] at hσ2
   obtain ⟨cv2,tag2,fr2,m0,m1,m2,m3,m4,m5,m6⟩:=h.cel j cs2 fz2 ext2 hσ2 b2 c2 hp2
   have hb2:b2≠b:=fun eb=>by subst eb; rw [k5] at m5; injection m5 with m5; exact e m5.symm
   refine ⟨cv2,tag2,fr2,m0,m1,m2,m3,fun i x hx=>?_,m5,fun i hi1=>?_⟩
   ·obtain ⟨a,v,b',c''⟩:=m4 i x hx; exact ⟨a,v,b',c''.mono hle⟩
   ·rw [hMne b2 i hb2]; exact m6 i hi1
 ·intro j n s hσ2 b2 p c2 hp2
  have e:j≠id:=fun e=>by subst e; rw [list_set_at hid] at hσ2; injection hσ2 with hσ2; cases hσ2
  rw [hσne j e] at hσ2
  obtain ⟨cv2,tag2,fr2,m0,m1,m2,m3,m4⟩:=h.tk j n s hσ2 b2 p c2 hp2
  have hb2:b2≠b:=fun eb=>by subst eb; rw [k5] at m3; injection m3 with m3; exact e m3.symm
  exact ⟨cv2,tag2,fr2,m0,m1,m2,m3,fun i hi1=>by rw [hMne b2 i hb2]; exact m4 i hi1⟩
 ·intro j n s hσ2 m x hp2
  have e:j≠id:=fun e=>by subst e; rw [list_set_at hid] at hσ2; injection hσ2 with hσ2; cases hσ2
  rw [hσne j e] at hσ2
  exact h.tle j n s hσ2 m x hp2
 ·intro j s2 pos2 hσ2 b2 c2 hp2
  have e:j≠id:=fun e=>by subst e; rw [list_set_at hid] at hσ2; injection hσ2 with hσ2; cases hσ2
  rw [hσne j e] at hσ2
  exact h.it j s2 pos2 hσ2 b2 c2 hp2
 ·intro j o2 hsp hσ2 b2 c2 hp2
  have e:j≠id:=fun e=>by subst e; rw [list_set_at hid] at hσ2; injection hσ2 with hσ2; subst hσ2; cases hsp
  rw [hσne j e] at hσ2
  exact (h.bd j o2 hsp hσ2 b2 c2 hp2).keep (Gh.res_mono hle _) fun b' ho _=>⟨rfl,ho,fun i hi=>by rw [hMne b' i (fun eb=>by subst eb; rw [k5] at ho; injection ho with ho; exact e ho.symm)]; exact hi⟩
 ·refine ⟨hle,rfl,rfl,rfl,Nat.le_refl _,fun b' hb' ho=>⟨rfl,ho⟩,by simp,fun _ _ hh=>hh,fun b' _ ho i=>hMne b' i (fun e=>by subst e; rw [k5] at ho; cases ho),fun j hj hjl cs2 fz2 ext2 hσ2=>?_⟩
  by_cases e:j=id
  ·subst e
   rw [list_set_at hid] at hσ2; injection hσ2 with hσ2; injection hσ2 with e1 e2 e3; subst e1 e2 e3
   exact ⟨cs,fz,ext,hσ,fun i x hx=>.inr ⟨hx,fun _ _ _=>rfl⟩⟩
  ·rw [hσne j e] at hσ2
   exact ⟨cs2,fz2,ext2,hσ2,fun i x hx=>.inr ⟨hx,fun _ _ _=>rfl⟩⟩
end Go.Mach
end
section
namespace Go.Mach
open Go.RowKit
def Gh.tk (g:Gh) (id n b p c lo hi:Nat) (cv:Array Value):Gh:=
 ⟨g.φ,fun j m=>if j=id∧m=n then some (b,p,c) else g.ψ j m,fun b' i=>if b'=b∧lo≤i∧i<hi then cv[i]? else g.M b' i⟩
theorem own_VR {g:Gh} {id:Nat} {es:List AV} {b p c s:Nat} (hc:∀ e∈es,e.clo=true∧e.cells.length=s) (hs:0<s) (h:g.ψ id es.length=some (b,p,c)) (hn:es.length≤c)
  (hv:∀ (i:Nat) x,(flat es)[i]?=some x→∃ v,g.M b (p+i)=some v∧VR g x v):VR g (.own id es) (.slice (some ⟨b,p,none⟩) es.length c):=by
 refine .own (fun i=>(g.M b (p+i)).getD Go.undef) hc hs h hn (fun i x hx=>?_) (fun i x hx=>?_)
 ·obtain ⟨v,hm,_⟩:=hv i x hx; simp [hm]
 ·obtain ⟨v,hm,hV⟩:=hv i x hx; simpa [hm] using hV
theorem isl_VR {g:Gh} {es:List AV} {cap0:Bool} {a:Option Addr} {b p c s:Nat} (hc:∀ e∈es,e.clo=true∧e.cells.length=s) (hs:0<s) (ha:es=[]∨a=some ⟨b,p,none⟩)
  (hcap:cap0=true→c=es.length) (hn:es.length≤c)
  (hv:∀ (i:Nat) x,(flat es)[i]?=some x→∃ v,g.M b (p+i)=some v∧VR g x v):VR g (.isl es cap0) (.slice a es.length c):=by
 refine .isl (fun i=>(g.M b (p+i)).getD Go.undef) hc hs ha hcap hn (fun i x hx=>?_) (fun i x hx=>?_)
 ·obtain ⟨v,hm,_⟩:=hv i x hx; simp [hm]
 ·obtain ⟨v,hm,hV⟩:=hv i x hx; simpa [hm] using hV
theorem flat_length {es:List AV} {s:Nat} (hc:∀ e∈es,e.cells.length=s):(flat es).length=es.length * s:=by
 induction es with
 | nil=>simp [flat]
 | cons e es ih=>
  have h1:=hc e (by simp)
  have h2:=ih fun e he=>hc e (by simp [he])
  simp only [flat,List.flatMap_cons,zqJ,zqU] at h2 ⊢
  rw [h2,h1,Nat.add_mul,Nat.one_mul,Nat.add_comm]
theorem flat_append (xs ys:List AV):flat (xs++ys)=flat xs++flat ys:=by simp [flat]
theorem HR.tokNew {bs g ow σ w w'} (h:HR g ow σ w) {cv:Array Value} {tag:TypeId} (hw:w'.heap=w.heap.push (.cells cv tag (0,0))) (hs:Same w w')
  {id n s c:Nat} {σ':List AObj} (hσ':(id=σ.length∧σ'=σ++[.tok n s])∨(∃ n0,σ[id]?=some (.tok n0 s)∧n0<n∧σ'=σ.set id (.tok n s)))
  (hcap:c * s≤cv.size) (hn:n≤c) :
  g.le (g.tk id n w.heap.size 0 c 0 (n * s) cv)∧HR (g.tk id n w.heap.size 0 c 0 (n * s) cv) (upd ow w.heap.size id) σ' w' ∧
   St bs g ow σ w (g.tk id n w.heap.size 0 c 0 (n * s) cv) (upd ow w.heap.size id) σ' w':=by
 have hψn:∀ m,n≤m→g.ψ id m=none:=fun m hm=>by
  cases hg:g.ψ id m with
  | none=>rfl
  | some x=>
   rcases hσ' with ⟨e,_⟩ | ⟨n0,h0,hlt,_⟩
   ·exact absurd (h.domψ id m x hg) (by omega)
   ·have:=h.tle id n0 s h0 m x hg; omega
 have hMn:∀ i,g.M w.heap.size i=none:=fun i=>by
  cases hm:g.M w.heap.size i with
  | none=>rfl
  | some v=>exact absurd (h.lt hm) (Nat.lt_irrefl _)
 have hold:∀ b,b<w.heap.size→w'.heap[b]?=w.heap[b]?:=fun b hb=>by rw [hw,Array.getElem?_push]; simp [Nat.ne_of_lt hb]
 have hnew:w'.heap[w.heap.size]?=some (.cells cv tag (0,0)):=by rw [hw]; simp
 have how:∀ b,b<w.heap.size→upd ow w.heap.size id b=ow b:=fun b hb=>by simp [upd,Nat.ne_of_lt hb]
 have hsz:w'.heap.size=w.heap.size+1:=by rw [hw]; simp
 have hMo:∀ b i,b<w.heap.size→(g.tk id n w.heap.size 0 c 0 (n * s) cv).M b i=g.M b i:=fun b i hb=>by simp [Gh.tk,Nat.ne_of_lt hb]
 have hle:g.le (g.tk id n w.heap.size 0 c 0 (n * s) cv):=⟨fun _ _ hx=>hx,fun j m x hx=>by
  simp only [Gh.tk]; split
  ·rename_i e; obtain ⟨rfl,rfl⟩:=e; rw [hψn _ (Nat.le_refl _)] at hx; cases hx
  ·exact hx,fun b i v hm=>by
  by_cases e:b=w.heap.size
  ·subst e; rw [hMn] at hm; cases hm
  ·simp [Gh.tk,e,hm]⟩
 have hlen:σ.length≤σ'.length:=by rcases hσ' with ⟨_,rfl⟩ | ⟨_,_,_,rfl⟩ <;> simp
 have hidl:id<σ'.length:=by
  rcases hσ' with ⟨rfl,rfl⟩ | ⟨_,h0,_,rfl⟩
  ·simp
  ·simpa using (zqI.1 h0).1
 have hat:σ'[id]?=some (.tok n s):=by
  rcases hσ' with ⟨rfl,rfl⟩ | ⟨_,h0,_,rfl⟩
  ·simp
  ·exact list_set_at (zqI.1 h0).1
 have hne:∀ j,j≠id→j<σ.length→σ'[j]?=σ[j]?:=fun j hj hl=>by
  rcases hσ' with ⟨rfl,rfl⟩ | ⟨_,h0,_,rfl⟩
  ·exact zqA hl
  ·exact list_set_ne hj
 have hψ:∀ j m x,(g.tk id n w.heap.size 0 c 0 (n * s) cv).ψ j m=some x→(j=id∧m=n∧x=(w.heap.size,0,c))∨(¬ (j=id∧m=n)∧g.ψ j m=some x):=fun j m x hx=>by
  simp only [Gh.tk] at hx; split at hx
  ·rename_i e; injection hx with hx; exact .inl ⟨e.1,e.2,hx.symm⟩
  ·exact .inr ⟨by assumption,hx⟩
 refine ⟨hle,⟨fun b i v hm=>?_,fun j x hx=>?_,fun j m x hx=>?_,?_,?_,?_,?_,?_,h.pin.of fun b hb ho=>⟨hold b hb,(how b hb).trans ho⟩⟩,?_⟩
 ·by_cases e:b=w.heap.size
  ·subst e
   rw [cell_heap hnew]
   simp only [Gh.tk] at hm; split at hm
   ·exact hm
   ·rw [hMn] at hm; cases hm
  ·have hm':g.M b i=some v:=by simpa [Gh.tk,e] using hm
   rw [cell_congr (hold b (h.lt hm')) i]; exact h.mem b i v hm'
 ·have:=h.dom j x hx; exact ⟨by omega,by omega⟩
 ·rcases hψ j m x hx with ⟨rfl,_,_⟩ | ⟨_,hx⟩
  ·exact hidl
  ·exact Nat.lt_of_lt_of_le (h.domψ j m x hx) hlen
 ·intro j cs fz ext hσ b c' hp
  have hj:j≠id:=fun e=>by subst e; rw [hat] at hσ; injection hσ with hσ; cases hσ
  have hd:=h.dom j _ hp
  rw [hne j hj hd.1] at hσ
  obtain ⟨cv2,tag2,fr2,m0,m1,m2,m3,m4,m5,m6⟩:=h.cel j cs fz ext hσ b c' hp
  refine ⟨cv2,tag2,fr2,(hold b hd.2).trans m0,m1,m2,m3,fun i x hx=>?_,(how b hd.2).trans m5,fun i hi1=>?_⟩
  ·obtain ⟨a,v,b',c''⟩:=m4 i x hx; exact ⟨a,v,b',c''.mono hle⟩
  ·rw [hMo b i hd.2]; exact m6 i hi1
 ·intro j m s' hσ b p c' hp
  by_cases e:j=id
  ·subst e
   rw [hat] at hσ; injection hσ with hσ; injection hσ with e1 e2; subst e1 e2
   rcases hψ _ _ _ hp with ⟨_,_,hx⟩ | ⟨hx,_⟩
   ·injection hx with e1 hx; injection hx with e2 e3; subst e1 e2 e3
    exact ⟨cv,tag,(0,0),hnew,by omega,hn,by simp [upd],fun i hi=>⟨by simp only [Gh.tk]; rw [if_neg (by omega)]; exact hMn i,fun _=>by simp⟩⟩
   ·exact absurd ⟨rfl,rfl⟩ hx
  ·rcases hψ _ _ _ hp with ⟨e',_,_⟩ | ⟨_,hp'⟩
   ·exact absurd e' e
   ·rw [hne j e (h.domψ j _ _ hp')] at hσ
    obtain ⟨cv2,tag2,fr2,m0,m1,m2,m3,m4⟩:=h.tk j m s' hσ b p c' hp'
    have hb:b<w.heap.size:=(zqN.1 m0).1
    exact ⟨cv2,tag2,fr2,(hold b hb).trans m0,m1,m2,(how b hb).trans m3,fun i hi=>by rw [hMo b i hb]; exact m4 i hi⟩
 ·intro j m s' hσ m' x hp
  by_cases e:j=id
  ·subst e
   rw [hat] at hσ; injection hσ with hσ; injection hσ with e1 e2; subst e1 e2
   rcases hψ _ _ _ hp with ⟨_,hx,_⟩ | ⟨_,hx⟩
   ·omega
   ·rcases Nat.lt_or_ge m' n with hl | hl
    ·omega
    ·rw [hψn m' hl] at hx; cases hx
  ·rcases hψ _ _ _ hp with ⟨e',_,_⟩ | ⟨_,hp'⟩
   ·exact absurd e' e
   ·rw [hne j e (h.domψ j _ _ hp')] at hσ
    exact h.tle j m s' hσ m' x hp'
 ·intro j s2 pos hσ b c' hp
  have hj:j≠id:=fun e=>by subst e; rw [hat] at hσ; injection hσ with hσ; cases hσ
  have hd:=h.dom j _ hp
  rw [hne j hj hd.1] at hσ
  obtain ⟨m0,m1⟩:=h.it j s2 pos hσ b c' hp
  exact ⟨(hold b hd.2).trans m0,(how b hd.2).trans m1⟩
 ·intro j o2 hsp hσ b c' hp
  have hj:j≠id:=fun e=>by subst e; rw [hat] at hσ; injection hσ with hσ; subst hσ; cases hsp
  have hd:=h.dom j _ hp
  rw [hne j hj hd.1] at hσ
  exact (h.bd j o2 hsp hσ b c' hp).keep (Gh.res_mono hle _) fun b' ho hb'=>⟨hold b' hb',(how b' hb').trans ho,fun i hi=>by rw [hMo b' i hb']; exact hi⟩
 ·refine ⟨hle,hs.os,hs.tape,hs.output,by omega,fun b hb ho=>⟨hold b hb,(how b hb).trans ho⟩,hlen,fun _ _ hh=>hh,fun b hb _ i=>(by simp [Gh.tk,Nat.ne_of_lt hb]),fun j hj hjl cs fz ext hσ=>?_⟩
  have e:j≠id:=fun e=>by subst e; rw [hat] at hσ; injection hσ with hσ; cases hσ
  rw [hne j e hjl] at hσ
  exact ⟨cs,fz,ext,hσ,fun i x hx=>.inr ⟨hx,fun b c hp=>cell_congr (hold b (h.dom j _ hp).2) i⟩⟩
theorem HR.tokIn {bs g ow σ w w'} (h:HR g ow σ w) {id n0 n s b p c:Nat} (hσ:σ[id]?=some (.tok n0 s)) (hp:g.ψ id n0=some (b,p,c)) (hlt:n0<n) (hn:n≤c)
  {cv cv':Array Value} {tag:TypeId} {fr:Nat × Nat} (hb:w.heap[b]?=some (.cells cv tag fr)) (hw:w'.heap=w.heap.setIfInBounds b (.cells cv' tag fr)) (hs:Same w w')
  (hsz:cv'.size=cv.size) (hkeep:∀ i,i<p+n0 * s→cv'[i]?=cv[i]?) :
  g.le (g.tk id n b p c (p+n0 * s) (p+n * s) cv')∧HR (g.tk id n b p c (p+n0 * s) (p+n * s) cv') ow (σ.set id (.tok n s)) w' ∧
   St bs g ow σ w (g.tk id n b p c (p+n0 * s) (p+n * s) cv') ow (σ.set id (.tok n s)) w':=by
 obtain ⟨cv0,tag0,fr0,k0,k1,k2,k5,k6⟩:=h.tk id n0 s hσ b p c hp
 rw [hb] at k0; injection k0 with k0; injection k0 with e1 e2 e3; subst e1 e2 e3
 have hid:=(zqI.1 hσ).1
 have hbl:b<w.heap.size:=(zqN.1 hb).1
 have hat:=heap_set_at hw hbl
 have hne:=heap_set hw
 have hsize:w'.heap.size=w.heap.size:=by rw [hw]; simp
 have hψn:∀ m,n≤m→g.ψ id m=none:=fun m hm=>by
  cases hg:g.ψ id m with
  | none=>rfl
  | some x=>have:=h.tle id n0 s hσ m x hg; omega
 have hle:g.le (g.tk id n b p c (p+n0 * s) (p+n * s) cv'):=⟨fun _ _ hx=>hx,fun j m x hx=>by
  simp only [Gh.tk]; split
  ·rename_i e; obtain ⟨rfl,rfl⟩:=e; rw [hψn _ (Nat.le_refl _)] at hx; cases hx
  ·exact hx,fun b' i v hm=>by
  simp only [Gh.tk]; split
  ·rename_i e; obtain ⟨rfl,e1,e2⟩:=e; rw [(k6 i e1).1] at hm; cases hm
  ·exact hm⟩
 have hσne:∀ j,j≠id→(σ.set id (.tok n s))[j]?=σ[j]?:=fun j hj=>list_set_ne hj
 have hMne:∀ b' i,b'≠b→(g.tk id n b p c (p+n0 * s) (p+n * s) cv').M b' i=g.M b' i:=fun b' i hh=>by simp [Gh.tk,hh]
 have hψ:∀ j m x,(g.tk id n b p c (p+n0 * s) (p+n * s) cv').ψ j m=some x→(j=id∧m=n∧x=(b,p,c))∨(¬ (j=id∧m=n)∧g.ψ j m=some x):=fun j m x hx=>by
  simp only [Gh.tk] at hx; split at hx
  ·rename_i e; injection hx with hx; exact .inl ⟨e.1,e.2,hx.symm⟩
  ·exact .inr ⟨by assumption,hx⟩
 refine ⟨hle,⟨fun b' i v hm=>?_,fun j x hx=>by simp only [List.length_set,hsize]; exact h.dom j x hx,fun j m x hx=>?_,?_,?_,?_,?_,?_,h.pin.of fun b2 _ ho=>⟨hne b2 (fun e=>by subst e; rw [k5] at ho; cases ho),ho⟩⟩,?_⟩
 ·by_cases e:b'=b
  ·subst e
   rw [cell_heap hat]
   simp only [Gh.tk] at hm; split at hm
   ·exact hm
   ·have hlow:i<p+n0 * s:=by
     rcases Nat.lt_or_ge i (p+n0 * s) with hl | hl
     ·exact hl
     ·rw [(k6 i hl).1] at hm; cases hm
    rw [hkeep i hlow,←cell_heap hb]; exact h.mem _ _ _ hm
  ·rw [hMne b' i e] at hm; rw [cell_congr (hne b' e) i]; exact h.mem _ _ _ hm
 ·rw [List.length_set]
  rcases hψ j m x hx with ⟨rfl,_,_⟩ | ⟨_,hx⟩
  ·exact hid
  ·exact h.domψ j m x hx
 ·intro j cs fz ext hσ2 b2 c' hp2
  have hj:j≠id:=fun e=>by subst e; rw [list_set_at hid] at hσ2; injection hσ2 with hσ2; cases hσ2
  rw [hσne j hj] at hσ2
  obtain ⟨cv2,tag2,fr2,m0,m1,m2,m3,m4,m5,m6⟩:=h.cel j cs fz ext hσ2 b2 c' hp2
  have hb2:b2≠b:=fun eb=>by subst eb; rw [k5] at m5; injection m5 with m5; exact hj m5.symm
  refine ⟨cv2,tag2,fr2,(hne b2 hb2).trans m0,m1,m2,m3,fun i x hx=>?_,m5,fun i hi1=>?_⟩
  ·obtain ⟨a,v,b',c''⟩:=m4 i x hx; exact ⟨a,v,b',c''.mono hle⟩
  ·rw [hMne b2 i hb2]; exact m6 i hi1
 ·intro j m s' hσ2 b2 p2 c' hp2
  by_cases e:j=id
  ·subst e
   rw [list_set_at hid] at hσ2; injection hσ2 with hσ2; injection hσ2 with e1 e2; subst e1 e2
   rcases hψ _ _ _ hp2 with ⟨_,_,hx⟩ | ⟨hx,_⟩
   ·injection hx with e1 hx; injection hx with e2 e3; subst e1 e2 e3
    refine ⟨cv',tag,fr,hat,by omega,hn,k5,fun i hi=>⟨?_,fun hi2=>?_⟩⟩
    ·simp only [Gh.tk]; rw [if_neg (by omega)]; exact (k6 i (Nat.le_trans (Nat.add_le_add_left (Nat.mul_le_mul_right _ (Nat.le_of_lt hlt)) _) hi)).1
    ·exact (k6 i (Nat.le_trans (Nat.add_le_add_left (Nat.mul_le_mul_right _ (Nat.le_of_lt hlt)) _) hi)).2 (by omega)
   ·exact absurd ⟨rfl,rfl⟩ hx
  ·rcases hψ _ _ _ hp2 with ⟨e',_,_⟩ | ⟨_,hp'⟩
   ·exact absurd e' e
   ·rw [hσne j e] at hσ2
    obtain ⟨cv2,tag2,fr2,m0,m1,m2,m3,m4⟩:=h.tk j m s' hσ2 b2 p2 c' hp'
    have hb2:b2≠b:=fun eb=>by subst eb; rw [k5] at m3; injection m3 with m3; exact e m3.symm
    exact ⟨cv2,tag2,fr2,(hne b2 hb2).trans m0,m1,m2,m3,fun i hi=>by rw [hMne b2 i hb2]; exact m4 i hi⟩
 ·intro j m s' hσ2 m' x hp2
  by_cases e:j=id
  ·subst e
   rw [list_set_at hid] at hσ2; injection hσ2 with hσ2; injection hσ2 with e1 e2; subst e1 e2
   rcases hψ _ _ _ hp2 with ⟨_,hx,_⟩ | ⟨_,hx⟩
   ·omega
   ·have:=h.tle j n0 s hσ m' x hx; omega
  ·rcases hψ _ _ _ hp2 with ⟨e',_,_⟩ | ⟨_,hp'⟩
   ·exact absurd e' e
   ·rw [hσne j e] at hσ2
    exact h.tle j m s' hσ2 m' x hp'
 ·intro j s2 pos hσ2 b2 c' hp2
  have hj:j≠id:=fun e=>by subst e; rw [list_set_at hid] at hσ2; injection hσ2 with hσ2; cases hσ2
  rw [hσne j hj] at hσ2
  obtain ⟨m0,m1⟩:=h.it j s2 pos hσ2 b2 c' hp2
  have hb2:b2≠b:=fun eb=>by subst eb; rw [k5] at m1; injection m1 with m1; exact hj m1.symm
  exact ⟨(hne b2 hb2).trans m0,m1⟩
 ·intro j o2 hsp hσ2 b2 c' hp2
  have hj:j≠id:=fun e=>by subst e; rw [list_set_at hid] at hσ2; injection hσ2 with hσ2; subst hσ2; cases hsp
  rw [hσne j hj] at hσ2
  exact (h.bd j o2 hsp hσ2 b2 c' hp2).keep (Gh.res_mono hle _) fun b' ho _=>by
   have hb':b'≠b:=fun eb=>by subst eb; rw [k5] at ho; injection ho with ho; exact hj ho.symm
   exact ⟨hne b' hb',ho,fun i hi=>by rw [hMne b' i hb']; exact hi⟩
 ·refine ⟨hle,hs.os,hs.tape,hs.output,by omega,fun b' hb' ho=>⟨hne b' (fun e=>by subst e; rw [k5] at ho; cases ho),ho⟩,by simp,fun _ _ hh=>hh,fun b' _ ho i=>(by have e:b'≠b:=(fun e=>by subst e; rw [k5] at ho; cases ho); simp [Gh.tk,e]),fun j hj hjl cs fz ext hσ2=>?_⟩
  have e:j≠id:=fun e=>by subst e; rw [list_set_at hid] at hσ2; injection hσ2 with hσ2; cases hσ2
  rw [hσne j e] at hσ2
  refine ⟨cs,fz,ext,hσ2,fun i x hx=>.inr ⟨hx,fun b2 c2 hp2=>?_⟩⟩
  obtain ⟨cv2,tag2,fr2,m0,m1,m2,m3,m4,m5,m6⟩:=h.cel j cs fz ext hσ2 b2 c2 hp2
  have hb2:b2≠b:=fun eb=>by subst eb; rw [k5] at m5; injection m5 with m5; exact e m5.symm
  exact cell_congr (hne b2 hb2) i
theorem HR.kill {bs g ow σ w} (h:HR g ow σ w) (id:Nat):HR g ow (σ.set id .dead) w∧St bs g ow σ w g ow (σ.set id .dead) w:=by
 have hne:∀ (j:Nat) o,(σ.set id .dead)[j]?=some o→o≠.dead→j≠id∧σ[j]?=some o:=fun j o ho hd=>by
  by_cases e:j=id
  ·subst e
   have hl:j<(σ.set j .dead).length:=(zqI.1 ho).1
   rw [List.length_set] at hl
   rw [list_set_at hl] at ho; injection ho with ho; exact absurd ho.symm hd
  ·exact ⟨e,by rw [list_set_ne e] at ho; exact ho⟩
 refine ⟨⟨h.mem,fun j x hx=>by simpa using h.dom j x hx,fun j n x hx=>by simpa using h.domψ j n x hx,fun j cs fz ext hσ=>h.cel j cs fz ext (hne j _ hσ (by simp)).2,fun j n s hσ=>h.tk j n s (hne j _ hσ (by simp)).2,
  fun j n s hσ=>h.tle j n s (hne j _ hσ (by simp)).2,fun j s pos hσ=>h.it j s pos (hne j _ hσ (by simp)).2,fun j o2 hsp hσ=>h.bd j o2 hsp (hne j _ hσ (by rintro rfl; cases hsp)).2,h.pin⟩,?_⟩
 exact ⟨.refl g,rfl,rfl,rfl,Nat.le_refl _,fun _ _ ho=>⟨rfl,ho⟩,by simp,fun _ _ hh=>hh,fun _ _ _ _=>rfl,fun j _ _ cs fz ext hσ=>⟨cs,fz,ext,(hne j _ hσ (by simp)).2,fun _ _ hx=>.inr ⟨hx,fun _ _ _=>rfl⟩⟩⟩
theorem HR.regrow {bs g ow σ w w'} (h:HR g ow σ w) {id cs fz ext b c} (hσ:σ[id]?=some (.cells cs fz ext)) (hp:g.φ id=some (b,c)) (hfz:fz≤cs.length)
  {cv cv':Array Value} {tag:TypeId} {fr:Nat × Nat} (hb:w.heap[b]?=some (.cells cv tag fr)) (hw:w'.heap=w.heap.setIfInBounds b (.cells cv' tag fr)) (hs:Same w w')
  {cs':List AV} (hl:cs.length≤cs'.length) (hl2:cs'.length≤c) (hsz:cv'.size=cv.size) (hrel:∀ (i:Nat) x,cs'[i]?=some x→x.cellv=true∧∃ v,cv'[i]?=some v∧VR g x v)
  (hkeep:∀ i,i<cs.length→cv'[i]?=cv[i]?) :
  HR (g.put σ.length b c) (upd ow b σ.length) (σ.set id .dead++[.cells cs' fz true]) w'∧St bs g ow σ w (g.put σ.length b c) (upd ow b σ.length) (σ.set id .dead++[.cells cs' fz true]) w':=by
 obtain ⟨cv0,tag0,fr0,k0,k1,k2,k3,k4,k5,k6⟩:=h.cel id cs fz ext hσ b c hp
 rw [hb] at k0; injection k0 with k0; injection k0 with e1 e2 e3; subst e1 e2 e3
 have hbl:=(h.dom id _ hp).2
 have hid:=(h.dom id _ hp).1
 have hat:=heap_set_at hw hbl
 have hne:=heap_set hw
 have hsize:w'.heap.size=w.heap.size:=by rw [hw]; simp
 have hn:g.φ σ.length=none:=by
  cases hg:g.φ σ.length with
  | none=>rfl
  | some x=>exact absurd (h.dom σ.length x hg).1 (by omega)
 have hle:g.le (g.put σ.length b c):=Gh.put_le hn _ _
 have hφ:∀ j x,(g.put σ.length b c).φ j=some x→(j=σ.length∧x=(b,c))∨(j≠σ.length∧g.φ j=some x):=fun j x hx=>by
  simp only [Gh.put] at hx; split at hx
  ·injection hx with hx; exact .inl ⟨by assumption,hx.symm⟩
  ·exact .inr ⟨by assumption,hx⟩
 have hlen:(σ.set id .dead).length=σ.length:=List.length_set
 have hnew:(σ.set id AObj.dead++[.cells cs' fz true])[σ.length]?=some (.cells cs' fz true):=by
  rw [zqB (by omega),hlen]; simp
 have hold:∀ (j:Nat) o,j≠σ.length→(σ.set id AObj.dead++[.cells cs' fz true])[j]?=some o→o≠.dead→j≠id∧σ[j]?=some o:=fun j o hj ho hd=>by
  have hjl:j<σ.length:=by
   have:=(zqI.1 ho).1
   simp at this; omega
  rw [zqA (by omega)] at ho
  by_cases e:j=id
  ·subst e; rw [list_set_at hid] at ho; injection ho with ho; exact absurd ho.symm hd
  ·exact ⟨e,by rw [list_set_ne e] at ho; exact ho⟩
 have how:∀ b2 j,ow b2=some j→j≠id→upd ow b σ.length b2=some j∧b2≠b:=fun b2 j ho hj=>by
  have:b2≠b:=fun e=>by subst e; rw [k5] at ho; injection ho with ho; exact hj ho.symm
  exact ⟨by simp [upd,this,ho],this⟩
 refine ⟨⟨fun b' i v hm=>?_,fun j x hx=>?_,fun j n x hx=>by have:=h.domψ j n x hx; simp; omega,?_,?_,?_,?_,?_,h.pin.of fun b2 _ ho=>(by have e:b2≠b:=fun e=>(by subst e; rw [k5] at ho; cases ho); exact ⟨hne b2 e,by simp [upd,e,ho]⟩)⟩,?_⟩
 ·replace hm:g.M b' i=some v:=hm
  by_cases e:b'=b
  ·subst e
   have:i<fz:=by
    rcases Nat.lt_or_ge i fz with hlt | hge
    ·exact hlt
    ·rw [(k6 i hge).1] at hm; cases hm
   rw [cell_heap hat,hkeep i (by omega),←cell_heap hb]; exact h.mem _ _ _ hm
  ·rw [cell_congr (hne b' e) i]; exact h.mem b' i v hm
 ·rcases hφ j x hx with ⟨rfl,rfl⟩ | ⟨_,hx⟩
  ·exact ⟨by simp,by simp only [hsize]; exact hbl⟩
  ·have:=h.dom j x hx; simp only [zqJ,hlen,hsize]; exact ⟨by omega,this.2⟩
 ·intro j cs2 fz2 ext2 hσ2 b2 c2 hp2
  rcases hφ j _ hp2 with ⟨rfl,he⟩ | ⟨hj,hp'⟩
  ·injection he with e1 e2; subst e1 e2
   rw [hnew] at hσ2; injection hσ2 with hσ2; injection hσ2 with e1 e2 e3; subst e1 e2 e3
   refine ⟨cv',tag,fr,hat,hl2,by omega,fun hh=>(by cases hh),fun i x hx=>?_,by simp [upd],fun i hi=>by rw [hsz]; exact k6 i hi⟩
   obtain ⟨a,v,b',c''⟩:=hrel i x hx; exact ⟨a,v,b',c''.mono hle⟩
  ·obtain ⟨hji,hσ3⟩:=hold j _ hj hσ2 (by simp)
   obtain ⟨cv2,tag2,fr2,m0,m1,m2,m3,m4,m5,m6⟩:=h.cel j cs2 fz2 ext2 hσ3 b2 c2 hp'
   obtain ⟨ho,hb2⟩:=how b2 j m5 hji
   refine ⟨cv2,tag2,fr2,(hne b2 hb2).trans m0,m1,m2,m3,fun i x hx=>?_,ho,m6⟩
   obtain ⟨a,v,b',c''⟩:=m4 i x hx; exact ⟨a,v,b',c''.mono hle⟩
 ·intro j n s hσ2 b2 p c2 hp2
  have hp':g.ψ j n=some (b2,p,c2):=hp2
  have hj:j≠σ.length:=by have:=h.domψ j n _ hp'; omega
  obtain ⟨hji,hσ3⟩:=hold j _ hj hσ2 (by simp)
  obtain ⟨cv2,tag2,fr2,m0,m1,m2,m3,m4⟩:=h.tk j n s hσ3 b2 p c2 hp'
  obtain ⟨ho,hb2⟩:=how b2 j m3 hji
  exact ⟨cv2,tag2,fr2,(hne b2 hb2).trans m0,m1,m2,ho,m4⟩
 ·intro j n s hσ2 m x hp2
  have hp':g.ψ j m=some x:=hp2
  have hj:j≠σ.length:=by have:=h.domψ j m _ hp'; omega
  exact h.tle j n s (hold j _ hj hσ2 (by simp)).2 m x hp'
 ·intro j s pos hσ2 b2 c2 hp2
  rcases hφ j _ hp2 with ⟨rfl,he⟩ | ⟨hj,hp'⟩
  ·rw [hnew] at hσ2; injection hσ2 with hσ2; cases hσ2
  ·obtain ⟨hji,hσ3⟩:=hold j _ hj hσ2 (by simp)
   obtain ⟨m0,m1⟩:=h.it j s pos hσ3 b2 c2 hp'
   obtain ⟨ho,hb2⟩:=how b2 j m1 hji
   exact ⟨(hne b2 hb2).trans m0,ho⟩
 ·intro j o2 hsp hσ2 b2 c2 hp2
  rcases hφ j _ hp2 with ⟨rfl,he⟩ | ⟨hj,hp'⟩
  ·rw [hnew] at hσ2; injection hσ2 with hσ2; subst hσ2; cases hsp
  ·obtain ⟨hji,hσ3⟩:=hold j _ hj hσ2 (by rintro rfl; cases hsp)
   exact (h.bd j o2 hsp hσ3 b2 c2 hp').keep (Gh.res_mono hle _) fun b' ho _=>by
    obtain ⟨ho',hb2⟩:=how b' j ho hji
    exact ⟨hne b' hb2,ho',fun i hi=>hi⟩
 ·refine ⟨hle,hs.os,hs.tape,hs.output,by omega,fun b' hb' ho=>?_,by simp,fun j hj hj'=>?_,fun _ _ _ _=>rfl,fun j _ hj cs2 fz2 ext2 hσ2=>?_⟩
  ·have e:b'≠b:=fun e=>by subst e; rw [k5] at ho; cases ho
   exact ⟨hne b' e,by simp [upd,e,ho]⟩
  ·simp only [Gh.put]; rw [if_neg (by omega)]; exact hj'
  ·obtain ⟨hji,hσ3⟩:=hold j _ (by omega) hσ2 (by simp)
   refine ⟨cs2,fz2,ext2,hσ3,fun i x hx=>.inr ⟨hx,fun b2 c2 hp2=>?_⟩⟩
   obtain ⟨cv2,tag2,fr2,m0,m1,m2,m3,m4,m5,m6⟩:=h.cel j cs2 fz2 ext2 hσ3 b2 c2 hp2
   exact cell_congr (hne b2 (how b2 j m5 hji).2) i
end Go.Mach
end
section
namespace Go.Mach
open Go.RowKit
section
variable {P:Program}
theorem run_sizeT {t:TypeId} {s:Nat} (h:sizeT P t=some s) (w:World):(sizeOf t).run P w=.ok s w:=by
 obtain ⟨i,hi,rfl⟩:=zqG.1 h
 simp [sizeOf,typeInfo,hi]
theorem run_und {t:TypeId} {d:TypeDesc} (h:P.underlying t=some d) (w:World):(underlying t).run P w=.ok d w:=by simp [underlying,h]
theorem run_aggT {t:TypeId} {b:Bool} (h:aggT P t=some b) (w:World):(isAgg t).run P w=.ok b w:=by
 unfold aggT at h
 split at h
 ·rename_i f he; injection h with h; subst h; simp [isAgg,run_und he]
 ·rename_i n f he; injection h with h; subst h; simp [isAgg,run_und he]
 ·rename_i d h1 h2 he
  injection h with h; subst h
  simp only [isAgg,Sem.run_bind,run_und he,Result.andThen_ok]
  rfl
 ·cases h
theorem run_zeroT {t:TypeId} {zs:List AV} (h:zeroT P t=some zs):∃ z,(∀ w,(zeroValue t).run P w=.ok z w)∧zs.length=z.cells.size ∧
  ∀ (g:Gh) (i:Nat) x,zs[i]?=some x→x.cellv=true∧∃ v,z.cells[i]?=some v∧VR g x v:=by
 obtain ⟨z,hz,hm⟩:=zqH.1 h
 obtain ⟨i,hi,hz'⟩:=zqH.1 hz
 refine ⟨z,fun w=>by simp [zeroValue,typeInfo,hi,hz'],?_,fun g i x hx=>?_⟩
 ·have:=(mapM_cV1 (g:=⟨fun _=>none,fun _ _=>none,fun _ _=>none⟩) hm).1; simpa using this
 ·obtain ⟨hl,hv⟩:=mapM_cV1 (g:=g) hm
  have hlt:i<z.cells.size:=by have:=(zqI.1 hx).1; rw [hl] at this; simpa using this
  have:=hv i x z.cells[i] hx (by simp [hlt])
  exact ⟨this.2,_,by simp [hlt],this.1⟩
def Rd (g:Gh) (w:World) (b p:Nat) (cs:List AV):Prop:=∀ (i:Nat) x,cs[i]?=some x→x.cellv=true∧∃ v,w.cell? ⟨b,p+i,none⟩=some v∧VR g x v
theorem clo1_cellv {x:AV} (h:x.clo1=true):x.cellv=true:=by cases x <;> first | rfl | simp [AV.clo1] at h
theorem Rd.cel {g ow σ w} (h:HR g ow σ w) {id cs fz ext b c} (hσ:σ[id]?=some (.cells cs fz ext)) (hp:g.φ id=some (b,c)):Rd g w b 0 cs:=fun i x hx=>by
 obtain ⟨cv,tag,fr,k0,k1,k2,k3,k4,k5,k6⟩:=h.cel id cs fz ext hσ b c hp
 obtain ⟨a,v,hv,hV⟩:=k4 i x hx
 exact ⟨a,v,by rw [Nat.zero_add,cell_heap k0]; exact hv,hV⟩
theorem Rd.win {g w b p cs} (h:Rd g w b p cs) {off n:Nat} {win:List AV} (hw:window cs off n=some win):Rd g w b (p+off) win∧win.length=n:=by
 unfold window at hw; split at hw
 ·rename_i hle
  injection hw with hw; subst hw
  refine ⟨fun i x hx=>?_,by rw [List.length_take,List.length_drop]; omega⟩
  rw [List.getElem?_take] at hx
  split at hx
  ·rw [List.getElem?_drop] at hx
   rw [Nat.add_assoc]; exact h _ _ hx
  ·cases hx
 ·cases hw
theorem addr_add (b o j:Nat):(⟨b,o,none⟩:Addr).add j=⟨b,o+j,none⟩:=by unfold Addr.add; split <;> simp_all
theorem Rd.vals {g w b p cs} (h:Rd g w b p cs):∃ us:List Value,us.length=cs.length∧(∀ j u,us[j]?=some u→w.cell? ((⟨b,p,none⟩:Addr).add j)=some u) ∧
  (∀ (j:Nat) x,cs[j]?=some x→x.cellv=true∧∃ u,us[j]?=some u∧VR g x u):=by
 refine ⟨(List.range cs.length).map fun j=>(w.cell? ⟨b,p+j,none⟩).getD Go.undef,by simp,fun j u hu=>?_,fun j x hx=>?_⟩
 ·rw [List.getElem?_map] at hu
  obtain ⟨k,hk,rfl⟩:=zqG.1 hu
  have hk':=zqI.1 hk
  obtain ⟨hl,e⟩:=hk'
  simp at hl e; subst e
  obtain ⟨_,v,hv,_⟩:=h j _ (zqF hl)
  rw [addr_add,hv]; rfl
 ·obtain ⟨a,v,hv,hV⟩:=h j x hx
  have hl:=(zqI.1 hx).1
  exact ⟨a,v,by simp [hl,hv],hV⟩
theorem mk_VR {g:Gh} {ag:Bool} {win:List AV} {v:AV} (hm:mk ag win=some v) {us:List Value} (hl:us.length=win.length)
  (hV:∀ (j:Nat) x,win[j]?=some x→x.cellv=true∧∃ u,us[j]?=some u∧VR g x u):(ag=true∧VR g v (.agg us.toArray))∨(ag=false∧∃ u,us=[u]∧win=[v]∧v.cellv=true∧VR g v u):=by
 unfold mk at hm
 split at hm
 ·injection hm with hm; subst hm
  refine .inl ⟨rfl,.agg (by simp [hl]) (fun x hx=>?_) fun i x u hx hu=>?_⟩
  ·obtain ⟨i,hi,rfl⟩:=zqS hx; exact (hV i _ (zqF hi)).1
  ·obtain ⟨_,u',hu',hV'⟩:=hV i x hx
   have:us[i]?=some u:=by simpa using hu
   rw [hu'] at this; injection this with this; subst this; exact hV'
 ·rename_i x
  injection hm with hm; subst hm
  obtain ⟨a,u,hu,hV'⟩:=hV 0 x rfl
  refine .inr ⟨rfl,u,?_,rfl,a,hV'⟩
  match us,hl,hu with
  | [y],_,hu=>simp at hu; rw [hu]
 ·cases hm
theorem run_loadVar {g w b p} {win:List AV} (h:Rd g w b p win) {t:TypeId} {ag:Bool} (hs:sizeT P t=some win.length) (ha:aggT P t=some ag) {v:AV} (hm:mk ag win=some v) :
  ∃ u,(loadVar t ⟨b,p,none⟩).run P w=.ok u w∧VR g v u:=by
 obtain ⟨us,hl,hc,hV⟩:=h.vals
 rcases mk_VR hm hl hV with ⟨rfl,hV'⟩ | ⟨rfl,u,rfl,hw,_,hV'⟩
 ·refine ⟨_,?_,hV'⟩
  simp [loadVar,run_aggT ha,run_sizeT hs,←hl,run_loadCells_list (P:=P) w _ us hc]
 ·refine ⟨u,?_,hV'⟩
  have:=hc 0 u rfl
  rw [addr_add] at this; simp at this
  simp [loadVar,run_aggT ha,this]
theorem loadA_sound {g ow σ w} (h:HR g ow σ w) {t:TypeId} {sz:Nat} {ag:Bool} (hs:sizeT P t=some sz) (ha:aggT P t=some ag) {x v:AV} {cx:Value} (hx:VR g x cx) (hl:loadA σ sz ag x=some v) :
  ∃ u,(Instr.loadAt t cx).run P w=.ok u w∧VR g v u:=by
 cases hx <;> simp only [loadA] at hl <;> try (cases hl; done)
 ·rename_i id off b c hp
  split at hl
  ·rename_i cs fz ext hσ
   obtain ⟨win,hw,hm⟩:=zqH.1 hl
   obtain ⟨hr,hlen⟩:=(Rd.cel h hσ hp).win hw
   rw [Nat.zero_add] at hr
   subst hlen
   obtain ⟨u,hu,hV⟩:=run_loadVar hr hs ha hm
   exact ⟨u,by simp [Instr.loadAt,Instr.sureAddr,hu],hV⟩
  ·cases hl
 ·rename_i cs off b p vs hc hM hV
  obtain ⟨win,hw,hm⟩:=zqH.1 hl
  have hrd:Rd g w b p cs:=fun i x hx=>⟨clo1_cellv (hc x (zqR hx)),vs i,h.mem _ _ _ (hM i x hx),hV i x hx⟩
  obtain ⟨hr,hlen⟩:=hrd.win hw
  subst hlen
  obtain ⟨u,hu,hV⟩:=run_loadVar hr hs ha hm
  exact ⟨u,by simp [Instr.loadAt,Instr.sureAddr,hu],hV⟩
def setRunA (cv:Array Value) (o:Nat):List Value→Array Value
 | []=>cv
 | v :: vs=>setRunA (cv.setIfInBounds o v) (o+1) vs
theorem setRunA_size (vs:List Value):∀ (cv:Array Value) (o:Nat),(setRunA cv o vs).size=cv.size:=by
 induction vs with
 | nil=>intro cv o; rfl
 | cons v vs ih=>intro cv o; simp [setRunA,ih]
theorem setRunA_get (vs:List Value):∀ (cv:Array Value) (o i:Nat),o+vs.length≤cv.size→(setRunA cv o vs)[i]?=if o≤i∧i<o+vs.length then vs[i - o]? else cv[i]?:=by
 induction vs with
 | nil=>intro cv o i h; simp [setRunA]; intro h1 h2; omega
 | cons v vs ih=>
  intro cv o i h
  simp only [zqU] at h
  rw [setRunA,ih _ _ _ (by simp; omega)]
  by_cases h1:o+1≤i∧i<o+1+vs.length
  ·rw [if_pos h1,if_pos (by simp only [zqU]; omega)]
   obtain ⟨k,rfl⟩:∃ k,i=o+1+k:=⟨i - (o+1),by omega⟩
   rw [show o+1+k - (o+1)=k by omega,show o+1+k - o=k+1 by omega]; rfl
  ·rw [if_neg h1]
   by_cases h2:i=o
   ·subst h2; rw [if_pos (by simp only [zqU]; omega)]; simp [show i<cv.size by omega]
   ·rw [if_neg (by simp only [zqU]; omega),Array.getElem?_setIfInBounds]; simp [Ne.symm h2]
theorem setRun_length (xs:List AV):∀ (l:List AV) (o:Nat),(setRun l o xs).length=l.length:=by
 induction xs with
 | nil=>intro l o; rfl
 | cons v vs ih=>intro l o; simp [setRun,ih]
theorem setRun_get (xs:List AV):∀ (l:List AV) (o i:Nat),o+xs.length≤l.length→(setRun l o xs)[i]?=if o≤i∧i<o+xs.length then xs[i - o]? else l[i]?:=by
 induction xs with
 | nil=>intro cv o i h; simp [setRun]; intro h1 h2; omega
 | cons v vs ih=>
  intro cv o i h
  simp only [zqU] at h
  rw [setRun,ih _ _ _ (by simp; omega)]
  by_cases h1:o+1≤i∧i<o+1+vs.length
  ·rw [if_pos h1,if_pos (by simp only [zqU]; omega)]
   obtain ⟨k,rfl⟩:∃ k,i=o+1+k:=⟨i - (o+1),by omega⟩
   rw [show o+1+k - (o+1)=k by omega,show o+1+k - o=k+1 by omega]; rfl
  ·rw [if_neg h1]
   by_cases h2:i=o
   ·subst h2; rw [if_pos (by simp only [zqU]; omega)]; simp [show i<cv.length by omega]
   ·rw [if_neg (by simp only [zqU]; omega),List.getElem?_set]; simp [Ne.symm h2]
theorem run_storeCells (b off:Nat) (tag:TypeId) (fr:Nat × Nat) (vs:List Value):∀ (i:Nat) (cv:Array Value) (w:World),w.heap[b]?=some (.cells cv tag fr) →
  (∀ v∈vs,v.oneCell'=true)→off+i+vs.length≤cv.size→(∀ j,off+i≤j→j<off+i+vs.length→¬ (fr.1≤j∧j<fr.2)) →
  ∃ w',(storeCells ⟨b,off,none⟩ vs i).run P w=.ok () w'∧w'.heap=w.heap.setIfInBounds b (.cells (setRunA cv (off+i) vs) tag fr)∧Same w w':=by
 induction vs with
 | nil=>
  intro i cv w hb _ _ _
  refine ⟨w,rfl,?_,.refl w⟩
  apply Array.ext_getElem?
  intro j
  rw [Array.getElem?_setIfInBounds]
  split
  ·rename_i e; subst e; simp [setRunA,(zqN.1 hb).1,(zqN.1 hb).2]
  ·rfl
 | cons v vs ih=>
  intro i cv w hb h1 h2 h3
  simp only [zqU] at h2 h3
  have hbl:=(zqN.1 hb).1
  have hcell:w.cell? ⟨b,off+i,none⟩=some cv[off+i]:=by rw [cell_heap hb]; simp
  have hfz:w.frozen? ⟨b,off+i,none⟩=false:=by
   have:=h3 (off+i) (by omega) (by omega)
   simp only [World.frozen?,hb]
   simp; intro h; omega
  have hset:(w.setCell ⟨b,off+i,none⟩ v).heap=w.heap.setIfInBounds b (.cells (cv.setIfInBounds (off+i) v) tag fr):=by
   apply Array.ext_getElem?
   intro j
   simp only [World.setCell,Array.getElem?_modify,Array.getElem?_setIfInBounds]
   split
   ·rename_i e; subst e
    have hx:=(zqN.1 hb).2
    simp only [if_pos hbl,Array.getElem?_eq_getElem hbl,Option.map_some,hx]; simp
   ·rfl
  have hb':(w.setCell ⟨b,off+i,none⟩ v).heap[b]?=some (.cells (cv.setIfInBounds (off+i) v) tag fr):=by rw [hset,Array.getElem?_setIfInBounds]; simp [hbl]
  obtain ⟨w',hr,hh,hs⟩:=ih (i+1) (cv.setIfInBounds (off+i) v) (w.setCell ⟨b,off+i,none⟩ v) hb' (fun u hu=>h1 u (by simp [hu])) (by simp; omega) (fun j hj1 hj2=>h3 j (by omega) (by omega))
  refine ⟨w',?_,?_,⟨hs.os,hs.tape,hs.output⟩⟩
  ·simp only [storeCells,Sem.run_bind,addr_add,run_store P w _ v .plain (h1 v (by simp)),hcell,hfz]
   simpa using hr
  ·rw [hh,hset,setRunA,show off+(i+1)=off+i+1 by omega]
   apply Array.ext_getElem?
   intro j
   simp only [Array.getElem?_setIfInBounds]
   split
   ·rename_i e; subst e; simp [hbl]
   ·rfl
end
end Go.Mach
end
section
namespace Go.Mach
open Go.RowKit
def OpOut (bs:Nat) (g:Gh) (ow:Nat→Option Nat) (σ:Heap) (w:World) (r:Result Next) (v:AV) (σ':Heap):Prop:=
 ∃ g' ow' w' cv,(r=.ok (.value cv) w'∨(r=.ok .skip w'∧cv=Go.undef))∧VR g' v cv∧HR g' ow' σ' w'∧St bs g ow σ w g' ow' σ' w'
theorem OpOut.pure {bs g ow σ w r v cv} (h:HR g ow σ w) (hr:r=.ok (.value cv) w) (hv:VR g v cv):OpOut bs g ow σ w r v σ:=
 ⟨g,ow,w,cv,.inl hr,hv,h,.refl ..⟩
section
variable {P:Program} {bs:Nat} {g:Gh} {ow:Nat→Option Nat} {σ:Heap} {w:World} {ρ:Regs} {a:Act}
theorem getL {α:Type} {l:List α} {i:Nat} {x:α} (h:l[i]?=some x):i<l.length:=(zqI.1 h).1
def NewRes (g:Gh) (w:World) (r:Result Next) (mkAV:Nat→AV) (obj:AObj):Prop:=
 ∃ w' o c cv,r=.ok (.value cv) w'∧w'.heap=w.heap.push o∧Same w w' ∧
  (∀ cs fz ext,obj=.cells cs fz ext→∃ cvs tag fr,o=.cells cvs tag fr∧cs.length≤c∧c≤cvs.size∧(ext=false→c=cs.length) ∧
   (∀ (i:Nat) x,cs[i]?=some x→x.cellv=true∧∃ v,cvs[i]?=some v∧VR g x v)∧(∀ i,i<cvs.size→¬ (fr.1≤i∧i<fr.2))) ∧
  (∀ s pos,obj=.iter s pos→o=.stringIter s pos)∧(∀ n s,obj≠.tok n s) ∧
  (∀ g' id,g'.φ id=some (w.heap.size,c)→VR g' (mkAV id) cv)∧(obj.sp=true→(∃ t e,obj=.bld t e []∧o=.cells #[.pointer none,.slice none 0 0] t (0,0))∨(obj=.mp []∧o=.map #[] 0))
theorem OpOut.ofNew (h:HR g ow σ w) {r:Result Next} {mkAV:Nat→AV} {obj:AObj} (hn:NewRes g w r mkAV obj):OpOut bs g ow σ w r (mkAV σ.length) (σ++[obj]):=by
 obtain ⟨w',o,c,cv,hr,hw,hs,hc,hi,ht,hv,hbd⟩:=hn
 have hno:=h.none_len (Nat.le_refl σ.length)
 refine ⟨g.put σ.length w.heap.size c,upd ow w.heap.size σ.length,w',cv,.inl hr,hv _ _ (by simp [Gh.put]),?_,?_⟩
 ·refine h.newAt hw hno.1 (fun n s e=>?_) (by simp) (by simp) (fun j hj _=>zqA hj) (fun j hj _=>h.none_len hj) c (fun cs fz ext e=>?_) (fun s pos e=>?_) (fun o' hsp he=>?_)
  ·simp at e; exact ht n s e
  ·simp at e; exact hc cs fz ext e
  ·simp at e; exact hi s pos e
  ·simp at he; subst he; exact (hbd hsp).imp id .inl
 ·exact St.newAt h hw hs (Nat.le_refl _) (by simp) (fun j hj _=>zqA hj) c
theorem out_new {cs:List AV} {cv:Array Value} {t:TypeId} (hl:cs.length=cv.size) (hV:∀ (i:Nat) x,cs[i]?=some x→x.cellv=true∧∃ v,cv[i]?=some v∧VR g x v)
  {r:Result Next} {mkv:Addr→Value} {mkAV:Nat→AV} (hr:r=.ok (.value (mkv ⟨w.heap.size,0,none⟩)) (w.alloc (.cells cv t)))
  (hv:∀ g' id,g'.φ id=some (w.heap.size,cs.length)→VR g' (mkAV id) (mkv ⟨w.heap.size,0,none⟩)):NewRes g w r mkAV (.cells cs 0 false):=
 ⟨_,_,cs.length,_,hr,rfl,⟨rfl,rfl,rfl⟩,fun cs' fz ext e=>by
  injection e with e1 e2 e3; subst e1 e2 e3
  exact ⟨cv,t,(0,0),rfl,Nat.le_refl _,by omega,fun _=>rfl,hV,fun i _=>by omega⟩,fun s pos e=>(by cases e),fun n s e=>(by cases e),hv,fun hsp=>(by cases hsp)⟩
theorem s_alloc {e:TypeId} {zs:List AV} (hz:zeroT P e=some zs) :
  NewRes g w (Sem.run P (do pure (Next.value (← Instr.alloc e true (.tuple #[])))) w) (fun id=>.ptr id 0) (.cells zs 0 false):=by
 obtain ⟨z,hr,hl,hv⟩:=run_zeroT hz
 refine out_new (t:=e) (mkv:=fun x=>.pointer (some x)) hl (hv g) ?_ fun g' id hp=>.ptr hp
 simp [Instr.alloc,hr,newVar,newRow]
theorem cV1_nilptr {v:Value} (h:cV1 v=some .nilptr):v=.pointer none:=by
 unfold cV1 at h
 split at h <;> first | rfl | (cases h; done) | (injection h with h; cases h)
theorem cV1_nil {v:Value} (h:cV1 v=some (.isl [] true)):v=.slice none 0 0:=by
 unfold cV1 at h
 split at h <;> first | rfl | (cases h; done) | (injection h with h; cases h)
theorem zero_bld {e:TypeId} {zs:List AV} (hz:zeroT P e=some zs) (hb:isBld0 zs=true):∃ z,(∀ w,(zeroValue e).run P w=.ok z w)∧z.cells=#[.pointer none,.slice none 0 0]:=by
 obtain ⟨z,hz,hm⟩:=zqH.1 hz
 obtain ⟨i,hi,hz'⟩:=zqH.1 hz
 refine ⟨z,fun w=>by simp [zeroValue,typeInfo,hi,hz'],?_⟩
 unfold isBld0 at hb
 split at hb
 ·match hl:z.cells.toList,hm with
  | [a,b],hm=>
   simp only [List.mapM_cons,List.mapM_nil,Option.pure_def,zqK,zqH] at hm
   obtain ⟨x,hx,y,⟨x2,hx2,u,hu,e2⟩,e1⟩:=hm
   injection hu with hu; subst hu
   injection e2 with e2; subst e2
   injection e1 with e1; injection e1 with e1 e3; injection e3 with e3 e4; subst e1 e3
   rw [cV1_nilptr hx,cV1_nil hx2] at hl
   exact Array.toList_inj.1 hl
  | [],hm=>simp at hm
  | [a],hm=>
   simp only [List.mapM_cons,List.mapM_nil,Option.pure_def,zqK,zqH] at hm
   obtain ⟨x,hx,y,hy,e1⟩:=hm
   injection hy with hy; subst hy
   injection e1 with e1; injection e1 with e1 e2; cases e2
  | a :: b :: c :: l,hm=>
   simp only [List.mapM_cons,Option.pure_def,zqK,zqH] at hm
   obtain ⟨x,hx,y,⟨x2,hx2,y2,⟨x3,hx3,y3,hy3,e3⟩,e2⟩,e1⟩:=hm
   injection e3 with e3; subst e3
   injection e2 with e2; subst e2
   injection e1 with e1; injection e1 with e1 e2; injection e2 with e2 e3; cases e3
 ·cases hb
theorem s_allocB {e b:TypeId} {zs:List AV} (hz:zeroT P e=some zs) (hb:isBld0 zs=true) :
  NewRes g w (Sem.run P (do pure (Next.value (← Instr.alloc e true (.tuple #[])))) w) (fun id=>.ptr id 0) (.bld e b []):=by
 obtain ⟨z,hr,hzc⟩:=zero_bld hz hb
 refine ⟨w.alloc (.cells #[.pointer none,.slice none 0 0] e),_,2,.pointer (some ⟨w.heap.size,0,none⟩),?_,rfl,⟨rfl,rfl,rfl⟩,fun cs fz ext h=>(by cases h),fun s pos h=>(by cases h),fun n s h=>(by cases h),fun g' id hp=>.ptr hp,fun _=>.inl ⟨e,b,rfl,rfl⟩⟩
 ·simp [Instr.alloc,hr,newVar,newRow,hzc]
theorem s_box {e:TypeId} {x:AV} {cv:Value} (hx:VR g x cv) (hs:x.solid=true) :
  NewRes g w (Sem.run P (do pure (Next.value (← Instr.box e cv))) w) (fun id=>.ptr id 0) (.cells x.cells 0 false):=by
 obtain ⟨hl,hv⟩:=hx.cells hs
 refine out_new (t:=e) (mkv:=fun x=>.pointer (some x)) hl (fun i y hy=>?_) ?_ fun g' id hp=>.ptr hp
 ·obtain ⟨a,u,hu,_,hV⟩:=hv i y hy; exact ⟨a,u,hu,hV⟩
 ·simp [Instr.box,newVar,newRow]
theorem fill_sound (hR:RR g ρ a.tmps) {size:Nat→Option (Nat × Nat)} {place:Nat→Option (Nat × Nat)} (hpl:∀ i,place i=size i) :
  ∀ (parts:List (Nat × Operand)) (ps:List (Nat × Nat × AX)) (zs cs:List AV) (cv:Array Value),allParts size parts=some ps→fillA ρ zs ps=some cs→zs.length=cv.size →
   (∀ (i:Nat) x,zs[i]?=some x→x.cellv=true∧∃ v,cv[i]?=some v∧VR g x v) →
   ∃ cv',Instr.fill place cv (parts.map fun (i,x)=>(i,a.eval x))=some cv'∧cs.length=cv'.size∧∀ (i:Nat) x,cs[i]?=some x→x.cellv=true∧∃ v,cv'[i]?=some v∧VR g x v
 | [],ps,zs,cs,cv,hp,hf,hl,hV=>by
  simp only [allParts] at hp; injection hp with hp; subst hp
  simp only [fillA] at hf; injection hf with hf; subst hf
  exact ⟨cv,rfl,hl,hV⟩
 | (i,x) :: rest,ps,zs,cs,cv,hp,hf,hl,hV=>by
  simp only [allParts,zqK,zqH] at hp
  obtain ⟨⟨off,sz⟩,hsz,y,hy,r,hr,e⟩:=hp
  simp only at e hr hy
  injection e with e; subst e
  simp only [fillA] at hf
  split at hf
  ·rename_i hc
   obtain ⟨hso,hlen,hle⟩:=hc
   have hv:=ev_VR hR hy
   obtain ⟨h1,h2⟩:=hv.cells hso
   have hfold:∀ (l:List Value) (cv:Array Value) (o:Nat),((l.toArray.zipIdx.foldl (fun cs (c,j)=>cs.setIfInBounds (o+j) c) cv))=setRunA cv o l:=by
    intro l
    suffices hg:∀ (l:List Value) (cv:Array Value) (o k:Nat),(l.zipIdx k).foldl (fun cs (c,j)=>cs.setIfInBounds (o+j) c) cv=setRunA cv (o+k) l by
     intro cv o
     rw [←Array.foldl_toList]
     have:=hg l cv o 0
     simpa using this
    intro l
    induction l with
    | nil=>intro cv o k; rfl
    | cons c l ih=>intro cv o k; simp only [List.zipIdx_cons,List.foldl_cons,setRunA]; rw [ih,Nat.add_assoc]
   have hcv:=hfold (a.eval x).cells.toList cv off
   rw [Array.toArray_toList] at hcv
   obtain ⟨cv',hfill,hl',hV'⟩:=fill_sound hR hpl rest r (setRun zs off (ev ρ y).cells) cs (setRunA cv off (a.eval x).cells.toList) hr hf (by rw [setRun_length,setRunA_size]; exact hl) (fun j z hz=>by
    rw [setRun_get _ _ _ _ (by omega)] at hz
    rw [setRunA_get _ _ _ _ (by simp; omega)]
    have hsz':(a.eval x).cells.toList.length=(ev ρ y).cells.length:=by simp [h1]
    rw [hsz']
    split at hz
    ·rename_i hc; rw [if_pos hc]
     obtain ⟨b1,u,hu,_,hV⟩:=h2 _ _ hz
     exact ⟨b1,u,by simpa using hu,hV⟩
    ·rename_i hc; rw [if_neg hc]; exact hV j z hz)
   refine ⟨cv',?_,hl',hV'⟩
   simp only [List.map_cons,Instr.fill,hpl,hsz]
   rw [if_neg (by simp; omega),hcv]
   exact hfill
  ·cases hf
end
end Go.Mach
end
section
namespace Go.Mach
open Go.RowKit
section
variable {P:Program} {bs:Nat} {g:Gh} {ow:Nat→Option Nat} {σ σ':Heap} {w:World} {ρ:Regs} {a:Act} {v:AV}
theorem agg_VR {cs:List AV} {cv:Array Value} (hl:cs.length=cv.size) (hV:∀ (i:Nat) x,cs[i]?=some x→x.cellv=true∧∃ v,cv[i]?=some v∧VR g x v):VR g (.agg cs) (.agg cv):=by
 refine .agg hl (fun x hx=>?_) fun i x v hx hv=>?_
 ·obtain ⟨i,hi,rfl⟩:=zqS hx; exact (hV i _ (zqF hi)).1
 ·obtain ⟨_,u,hu,hV'⟩:=hV i x hx; rw [hu] at hv; injection hv with hv; subst hv; exact hV'
theorem s_buildS (h:HR g ow σ w) (hR:RR g ρ a.tmps) {t:TypeId} {fs:Array Field} (ht:P.underlying t=some (.struct fs)) {sizes:List (Nat × Nat)}
  (hsz:(fs.toList.mapM fun f=>(sizeT P f.type).map fun s=>(f.offset,s))=some sizes) {zs:List AV} (hz:zeroT P t=some zs) {parts:Array (Nat × Operand)} {ps:List (Nat × Nat × AX)}
  (hp:allParts (fun i=>sizes[i]?) parts.toList=some ps) {cs:List AV} (hf:fillA ρ zs ps=some cs) :
  OpOut bs g ow σ w (Sem.run P (do pure (Next.value (← Instr.build t (parts.map fun (i,x)=>(i,a.eval x))))) w) (.agg cs) σ:=by
 obtain ⟨z,hr,hl,hv⟩:=run_zeroT hz
 have hm:∀ (l:List Field) (sizes:List (Nat × Nat)),(l.mapM fun f=>(sizeT P f.type).map fun s=>(f.offset,s))=some sizes→∀ w,Sem.run P (l.mapM fun f=>do pure (f.offset,←sizeOf f.type)) w=.ok sizes w:=by
  intro l
  induction l with
  | nil=>intro s hs w; simp at hs; subst hs; simp
  | cons f l ih=>
   intro s hs w
   rw [List.mapM_cons] at hs
   simp only [zqK,zqH,Option.pure_def] at hs
   obtain ⟨x,hx,ys,hys,e⟩:=hs
   injection e with e; subst e
   obtain ⟨s,hs,rfl⟩:=zqG.1 hx
   simp only [List.mapM_cons,Sem.run_bind,run_sizeT hs,Result.andThen_ok,Sem.run_pure,ih ys hys]
 have hma:∀ w,Sem.run P (fs.mapM fun f=>do pure (f.offset,←sizeOf f.type)) w=.ok sizes.toArray w:=by
  intro w
  have:=hm fs.toList sizes hsz w
  rw [←Array.toList_mapM] at this
  rw [Sem.run_map] at this
  cases hx:Sem.run P (fs.mapM fun f=>do pure (f.offset,←sizeOf f.type)) w with
  | ok x w'=>rw [hx] at this; simp at this; obtain ⟨rfl,rfl⟩:=this; simp
  | halt x w'=>rw [hx] at this; simp at this
 obtain ⟨cv',hfill,hl',hV'⟩:=fill_sound hR (place:=fun i=>sizes.toArray[i]?) (by intro i; simp) parts.toList ps zs cs z.cells hp hf hl (fun i x hx=>hv g i x hx)
 refine OpOut.pure h (cv:=.agg cv') ?_ (agg_VR hl' hV')
 simp only [Instr.build,Sem.run_bind,hr,Result.andThen_ok,run_und ht,hma]
 simp only [List.getElem?_toArray] at hfill
 simp [hfill]
theorem s_buildA (h:HR g ow σ w) (hR:RR g ρ a.tmps) {t e:TypeId} {n s:Nat} (ht:P.underlying t=some (.array n e)) (hsz:sizeT P e=some s) {zs:List AV} (hz:zeroT P t=some zs) {parts:Array (Nat × Operand)} {ps:List (Nat × Nat × AX)}
  (hp:allParts (fun i=>some (i * s,s)) parts.toList=some ps) {cs:List AV} (hf:fillA ρ zs ps=some cs) :
  OpOut bs g ow σ w (Sem.run P (do pure (Next.value (← Instr.build t (parts.map fun (i,x)=>(i,a.eval x))))) w) (.agg cs) σ:=by
 obtain ⟨z,hr,hl,hv⟩:=run_zeroT hz
 obtain ⟨cv',hfill,hl',hV'⟩:=fill_sound hR (place:=fun i=>some (i * s,s)) (by intro i; rfl) parts.toList ps zs cs z.cells hp hf hl (fun i x hx=>hv g i x hx)
 refine OpOut.pure h (cv:=.agg cv') ?_ (agg_VR hl' hV')
 simp only [Instr.build,Sem.run_bind,hr,Result.andThen_ok,run_und ht,run_sizeT hsz]
 simp [hfill]
theorem rep_get {zs:List AV} {s n:Nat} (hs:zs.length=s) (h0:0<s) {z:Array Value} (hl:zs.length=z.size) (hV:∀ (i:Nat) x,zs[i]?=some x→x.cellv=true∧∃ v,z[i]?=some v∧VR g x v) :
  ((List.replicate n zs).flatten).length=n * s∧∀ (i:Nat) x,((List.replicate n zs).flatten)[i]?=some x→i<n * s∧x.cellv=true∧∃ v,z[i % s]?=some v∧VR g x v:=by
 have hlen:∀ n,((List.replicate n zs).flatten).length=n * s:=fun n=>by simp [hs]
 refine ⟨hlen n,?_⟩
 induction n with
 | zero=>intro i x hx; simp at hx
 | succ n ih=>
  intro i x hx
  have hi:i<(n+1) * s:=by rw [←hlen]; exact getL hx
  rw [List.replicate_succ,List.flatten_cons] at hx
  rcases Nat.lt_or_ge i zs.length with hlt | hge
  ·rw [zqA hlt] at hx
   rw [Nat.mod_eq_of_lt (by omega)]
   exact ⟨hi,hV i x hx⟩
  ·rw [zqB hge] at hx
   obtain ⟨_,h1,h2⟩:=ih _ _ hx
   refine ⟨hi,h1,?_⟩
   rw [hs,←Nat.mod_eq_sub_mod (by omega)] at h2; exact h2
theorem fillA_length (ρ:Regs):∀ (ps:List (Nat × Nat × AX)) (zs cs:List AV),fillA ρ zs ps=some cs→cs.length=zs.length
 | [],zs,cs,h=>by simp only [fillA] at h; injection h with h; subst h; rfl
 | (o,s,x) :: ps,zs,cs,h=>by
  simp only [fillA] at h
  split at h
  ·rw [fillA_length ρ ps _ _ h,setRun_length]
  ·cases h
theorem s_buildSl (hR:RR g ρ a.tmps) {t e:TypeId} {n s:Nat} {ag:Bool} (ht:P.underlying t=some (.slice e)) (hsz:sizeT P e=some s) {zs:List AV} (hz:zeroT P e=some zs) (hb:n * s≤16777216)
  (hzl:zs.length=s) (h0:0<s) {parts:Array (Nat × Operand)} {ps:List (Nat × Nat × AX)} (hp:allParts (fun i=>some (i * s,s)) parts.toList=some ps) {cs:List AV} (hf:fillA ρ ((List.replicate n zs).flatten) ps=some cs) :
  NewRes g w (Sem.run P (do pure (Next.value (← Instr.buildSlice t n (parts.map fun (i,x)=>(i,a.eval x))))) w) (fun id=>.sl id 0 n s ag) (.cells cs 0 false):=by
 obtain ⟨z,hr,hl,hv⟩:=run_zeroT hz
 obtain ⟨hrl,hrv⟩:=rep_get (g:=g) (n:=n) hzl h0 hl (fun i x hx=>hv g i x hx)
 have hget:∀ i,i<n * s→((Array.range (n * s)).map fun i=>z.cells[i % z.cells.size]!)[i]?=z.cells[i % s]?:=fun i hi=>by
  have hzs:z.cells.size=s:=by omega
  have:i % s<z.cells.size:=by rw [hzs]; exact Nat.mod_lt _ h0
  simp [hi,hzs,getElem!_pos z.cells (i % s) this,Array.getElem?_eq_getElem this]
 obtain ⟨cv',hfill,hl',hV'⟩:=fill_sound hR (place:=fun i=>some (i * s,s)) (by intro i; rfl) parts.toList ps _ cs ((Array.range (n * s)).map fun i=>z.cells[i % z.cells.size]!) hp hf (by rw [hrl]; simp) (fun i x hx=>by
  obtain ⟨h1,h2,h3⟩:=hrv i x hx; exact ⟨h2,by rw [hget i h1]; exact h3⟩)
 have hcl:cs.length=n * s:=by rw [fillA_length _ _ _ _ hf,hrl]
 refine out_new (t:=e) (mkv:=fun x=>.slice (some x) n n) hl' hV' ?_ fun g' id hp=>.sl hp (by omega) h0 (Nat.le_refl _)
 have hb':¬ (n * s > 2 ^ 24):=by omega
 simp only [Instr.buildSlice,Sem.run_bind,run_und ht,Result.andThen_ok,run_sizeT hsz,if_neg hb']
 by_cases h0':n * s=0
 ·have hn0:n=0:=by rcases Nat.mul_eq_zero.1 h0' with h | h <;> omega
  subst hn0
  have e0:∀ f:Nat→Value,(Array.range 0).map f=#[]:=fun f=>by apply Array.ext'; simp [Array.range]
  simp only [Nat.zero_mul,e0] at hfill ⊢
  simp [hfill,newRow]
 ·simp only [if_neg h0',Sem.run_bind,hr,Result.andThen_ok,Sem.run_pure]
  simp [hfill,newRow]
end
end Go.Mach
end
section
namespace Go.Mach
open Go.RowKit
section
variable {P:Program} {bs:Nat} {g:Gh} {ow:Nat→Option Nat} {σ σ':Heap} {w:World} {v:AV}
theorem s_cells (h:HR g ow σ w) {sz id off b c:Nat} {y:AV} {cv:Value} (hp:g.φ id=some (b,c)) (hy:VR g y cv) (hs:storeA bs σ sz y (.ptr id off)=some σ') :
  cv.cells.size=sz∧∃ w',(storeCells ⟨b,off,none⟩ cv.cells.toList).run P w=.ok () w'∧HR g ow σ' w'∧St bs g ow σ w g ow σ' w':=by
 simp only [storeA] at hs
 split at hs
 ·rename_i cs fz ext hσ
  split at hs
  ·rename_i hc
   obtain ⟨h1,h2,h3,h4,h5⟩:=hc
   injection hs with hs; subst hs
   obtain ⟨cw,tag,fr,k0,k1,k2,k3,k4,k5,k6⟩:=h.cel id cs fz ext hσ b c hp
   obtain ⟨hl,hv⟩:=hy.cells h3
   have hvl:cv.cells.toList.length=sz:=by rw [Array.length_toList,←hl,h4]
   obtain ⟨w',hr,hh,hsm⟩:=run_storeCells (P:=P) b off tag fr cv.cells.toList 0 cw w k0 (fun u hu=>by
     obtain ⟨i,hi,rfl⟩:=zqS hu
     have hi':i<y.cells.length:=by rw [hl]; simpa using hi
     obtain ⟨_,u',hu',ho,_⟩:=hv i _ (zqF hi')
     have:cv.cells[i]?=some (cv.cells.toList[i]):=by simp at hi ⊢
     rw [this] at hu'; injection hu' with hu'; rw [hu']; exact ho) (by omega) (fun j hj1 hj2=>(k6 j (by omega)).2 (by omega))
   rw [Nat.add_zero] at hh
   have hget:∀ i,(setRunA cw off cv.cells.toList)[i]?=if off≤i∧i<off+sz then cv.cells[i - off]? else cw[i]?:=fun i=>by
    rw [setRunA_get _ _ _ _ (by omega),hvl]; simp
   have hgetA:∀ i,(setRun cs off y.cells)[i]?=if off≤i∧i<off+sz then y.cells[i - off]? else cs[i]?:=fun i=>by
    rw [setRun_get _ _ _ _ (by omega),h4]
   obtain ⟨hH,hS⟩:=h.write (bs:=bs) hσ hp k0 hh hsm (cs':=setRun cs off y.cells) (setRun_length ..) (setRunA_size ..) (fun i z hz=>by
     rw [hgetA] at hz; rw [hget]
     split at hz
     ·rename_i hc; rw [if_pos hc]
      obtain ⟨a1,u,hu,_,hV⟩:=hv _ z hz; exact ⟨a1,u,hu,hV⟩
     ·rename_i hc; rw [if_neg hc]; exact k4 i z hz) (fun i hi=>by rw [hget,if_neg (by omega)]) (by
     rcases h5 with h5 | h5
     ·exact .inl h5
     ·refine .inr fun i z hz=>?_
      rw [hgetA] at hz; rw [hget]
      split at hz
      ·exact .inl (zqQ.1 h5 z (zqR hz))
      ·rename_i hc; rw [if_neg hc]; exact .inr ⟨hz,rfl⟩)
   exact ⟨by rw [←hl]; exact h4,w',hr,hH,hS⟩
  ·cases hs
 ·cases hs
theorem s_store (h:HR g ow σ w) {t:TypeId} {sz:Nat} (hsz:sizeT P t=some sz) {x y:AV} {ca cv:Value} (hx:VR g x ca) (hy:VR g y cv) (hs:storeA bs σ sz y x=some σ') :
  OpOut bs g ow σ w (Sem.run P (do Instr.storeAt t ca cv; pure Next.skip) w) .undef σ':=by
 cases hx with
 | ptr hp=>
  obtain ⟨hsize,w',hr,hH,hS⟩:=s_cells (P:=P) h hp hy hs
  refine ⟨g,ow,w',Go.undef,.inr ⟨?_,rfl⟩,.undef _,hH,hS⟩
  have hne:¬ (cv.cells.size≠sz):=by simpa using hsize
  simp [Instr.storeAt,Instr.sureAddr,storeVar,run_sizeT hsz,hne,hr]
 | _=>simp [storeA] at hs
theorem s_clear (h:HR g ow σ w) {t e ty:TypeId} {sz:Nat} {zs:List AV} (ht:P.underlying t=some (.slice e)) (hzl:zs.length=sz) (h0:0<sz) (hz:zeroT P e=some zs)
  {x:AV} {cv:Value} (hx:VR g x cv) (hs:clearA bs σ sz zs x=some σ') :
  OpOut bs g ow σ w (Sem.run P (do pure (Next.value (← Builtin.clear_ #[t] ty #[cv]))) w) .undef σ':=by
 cases hx with
 | isl vs hc hs0 ha hcap hn hM hV=>
  simp only [clearA] at hs
  split at hs
  ·rename_i es _ a c b p s hes
   injection hs with hs; subst hs
   have:es=[]:=List.length_eq_zero_iff.1 hes
   subst this
   refine OpOut.pure h (cv:=.tuple #[]) ?_ (.undef _)
   cases a <;> simp [Builtin.clear_,run_und ht]
  ·cases hs
 | sl hp hc hs0 hl=>
  rename_i id off n sz' ag b c cc
  simp only [clearA] at hs
  split at hs
  ·injection hs with hs; subst hs
   refine OpOut.pure h (cv:=.tuple #[]) ?_ (.undef _)
   rename_i hn; subst hn
   simp [Builtin.clear_,run_und ht]
  ·rename_i hn
   split at hs
   ·obtain ⟨z,hr,hlz,hvz⟩:=run_zeroT hz
    obtain ⟨hrl,hrv⟩:=rep_get (g:=g) (n:=n) hzl h0 hlz (fun i x hx=>hvz g i x hx)
    have hzs:z.cells.size=sz:=by omega
    have hget:∀ j,j<n * sz→(Builtin.zeroCells z.cells n)[j]?=z.cells[j % sz]?:=fun j hj=>by
     have:j % sz<z.cells.size:=by rw [hzs]; exact Nat.mod_lt _ h0
     simp [Builtin.zeroCells,hj,hzs,getElem!_pos z.cells (j % sz) this,Array.getElem?_eq_getElem this]
    have hsz:(Builtin.zeroCells z.cells n).size=n * sz:=by simp [Builtin.zeroCells,hzs]
    have hy:VR g (.agg ((List.replicate n zs).flatten)) (.agg (Builtin.zeroCells z.cells n)):=
     .agg (by rw [hrl,hsz]) (fun x hx=>by obtain ⟨i,hi,rfl⟩:=zqS hx; exact (hrv i _ (zqF hi)).2.1) fun i x v hx hv=>by
      obtain ⟨h1,h2,u,hu,hV⟩:=hrv i x hx
      rw [hget i h1,hu] at hv; injection hv with hv; subst hv; exact hV
    obtain ⟨_,w',hr',hH,hS⟩:=s_cells (P:=P) h hp hy hs
    refine ⟨g,ow,w',.tuple #[],.inl ?_,.undef _,hH,hS⟩
    have hr2:(storeCells ⟨b,off,none⟩ (Builtin.zeroCells z.cells n).toList).run P w=.ok () w':=hr'
    obtain ⟨m,rfl⟩:=Nat.exists_eq_succ_of_ne_zero hn
    simp [Builtin.clear_,run_und ht,hr]
    rw [hr2]; rfl
   ·cases hs
 | _=>simp [clearA] at hs
theorem s_bin (h : HR g ow σ w) {op : BinOp} {t : TypeId} {ox oy : Operand} {x y : AV} {cx cy : Value} (hx : VR g x cx) (hy : VR g y cy) (hs : binA op x y = some v) :
    OpOut bs g ow σ w (Sem.run P (do pure (Next.value (← (do eqGuard op t ox oy cx cy; binOp op t cx cy)))) w) v σ := by
  have hguard : ∀ w, (eqGuard op t ox oy cx cy).run P w = .ok () w := by
    intro w
    cases hx <;> first | (simp [binA] at hs; done) | skip
    · cases hy <;> first | (simp [binA] at hs; done) | (simp only [eqGuard]; split <;> rfl)
    · cases hy <;> first | (simp [binA] at hs; done) | (simp only [eqGuard]; split <;> rfl)
  cases hx <;> first | (simp [binA] at hs; done) | skip
  · rename_i k n
    cases hy <;> first | (simp [binA] at hs; done) | skip
    rename_i k' m
    have hex : ∃ cv, (binOp op t (.int k n) (.int k' m)).run P w = .ok cv w ∧ VR g v cv := by
      cases op <;> simp only [binA] at hs
      case shl => split at hs
                  · injection hs with hs; subst hs; rename_i hb; exact ⟨_, by simp [binOp, Op.shift, show ¬ m < 0 by omega], .int ..⟩
                  · cases hs
      case shr => split at hs
                  · injection hs with hs; subst hs; rename_i hb; exact ⟨_, by simp [binOp, Op.shift, show ¬ m < 0 by omega], .int ..⟩
                  · cases hs
      all_goals (split at hs)
      all_goals (try (cases hs; done))
      all_goals (rename_i hk; subst hk)
      case quo => split at hs
                  · cases hs
                  · rename_i hm; injection hs with hs; subst hs; exact ⟨_, by simp [binOp, Op.intDiv, hm], .int ..⟩
      case rem => split at hs
                  · cases hs
                  · rename_i hm; injection hs with hs; subst hs; exact ⟨_, by simp [binOp, Op.intDiv, hm], .int ..⟩
      case add | sub | mul => injection hs with hs; subst hs; exact ⟨_, by simp [binOp, Op.intArith], .int ..⟩
      case and | or | xor => injection hs with hs; subst hs; exact ⟨_, by simp [binOp, Op.intBits], .int ..⟩
      case eql | neq | lss | leq | gtr | geq => injection hs with hs; subst hs; exact ⟨_, by simp [binOp, Op.intCmp], .bool ..⟩
    obtain ⟨cv, hr, hV⟩ := hex
    exact OpOut.pure h (by simp only [Sem.run_bind, hguard, Result.andThen_ok, hr, Sem.run_pure]) hV
  · rename_i s
    cases hy <;> first | (simp [binA] at hs; done) | skip
    rename_i s'
    have hex : ∃ cv, (binOp op t (.string s) (.string s')).run P w = .ok cv w ∧ VR g v cv := by
      cases op <;> simp only [binA] at hs <;> try (cases hs; done)
      case add => split at hs
                  · rename_i hb; injection hs with hs; subst hs
                    refine ⟨_, ?_, .str _⟩
                    have : ¬ (((s.size + s'.size : Nat) : Int) > IntKind.i64.max) := by omega
                    simp only [binOp, Op.stringOp, if_neg this]; rfl
                  · cases hs
      all_goals (injection hs with hs; subst hs; exact ⟨_, by simp only [binOp, Op.stringOp]; rfl, .bool ..⟩)
    obtain ⟨cv, hr, hV⟩ := hex
    exact OpOut.pure h (by simp only [Sem.run_bind, hguard, Result.andThen_ok, hr, Sem.run_pure]) hV
theorem s_eqb (h:HR g ow σ w) {neg:Bool} {op:BinOp} (hop:op=if neg then .neq else .eql) {t:TypeId} (ht:P.underlying t=some .bool) {ox oy:Operand} {x y:Bool} :
  OpOut bs g ow σ w (Sem.run P (do pure (Next.value (← (do eqGuard op t ox oy (.bool x) (.bool y); binOp op t (.bool x) (.bool y))))) w) (.bool (neg != (x == y))) σ:=by
 have hguard:∀ w,(eqGuard op t ox oy (.bool x) (.bool y)).run P w=.ok () w:=by
  intro w; simp only [eqGuard]; split <;> rfl
 have heq:∀ w,(Op.equal t (.bool x) (.bool y)).run P w=.ok (x == y) w:=by
  intro w
  have hd:∀ d,(Op.equalIn (d+1) t (.bool x) (.bool y)).run P w=.ok (x == y) w:=fun d=>by simp [Op.equalIn,run_und ht]
  exact hd 9999
 refine OpOut.pure h (cv:=.bool (neg != (x == y))) ?_ (.bool _)
 cases neg <;> simp at hop <;> subst hop <;> simp [hguard,binOp,heq]
theorem s_eqnil (h:HR g ow σ w) {neg:Bool} {op:BinOp} (hop:op=if neg then .neq else .eql) {t e:TypeId} (ht:P.underlying t=some (.slice e)) {ox oy:Operand} {x:AV} {cx:Value} (hx:VR g x cx)
  (hs:notNil x=true) :
  OpOut bs g ow σ w (Sem.run P (do pure (Next.value (← (do eqGuard op t ox oy cx (.slice none 0 0); binOp op t cx (.slice none 0 0))))) w) (.bool neg) σ:=by
 obtain ⟨ad,n,c,rfl⟩:∃ ad n c,cx=.slice (some ad) n c:=by
  cases hx <;> first | (simp [notNil] at hs; done) | skip
  ·rename_i es cap0 a c b p s vs hc h0 ha hcap hn hM hV
   rcases ha with rfl | rfl
   ·simp [notNil] at hs
   ·exact ⟨_,_,_,rfl⟩
  ·exact ⟨_,_,_,rfl⟩
  ·exact ⟨_,_,_,rfl⟩
 have hguard:∀ w,(eqGuard op t ox oy (.slice (some ad) n c) (.slice none 0 0)).run P w=.ok () w:=by
  intro w; simp only [eqGuard]; split <;> rfl
 have heq:∀ w,(Op.equal t (.slice (some ad) n c) (.slice none 0 0)).run P w=.ok false w:=by
  intro w
  have hd:∀ d,(Op.equalIn (d+1) t (.slice (some ad) n c) (.slice none 0 0)).run P w=.ok false w:=fun d=>by simp [Op.equalIn,run_und ht]
  exact hd 9999
 refine OpOut.pure h (cv:=.bool neg) ?_ (.bool _)
 cases neg <;> simp at hop <;> subst hop <;> simp [hguard,binOp,heq]
theorem s_eqp (h:HR g ow σ w) {neg:Bool} {op:BinOp} (hop:op=if neg then .neq else .eql) {t e:TypeId} (ht:P.underlying t=some (.pointer e)) {ox oy:Operand} {x v:AV} {cx:Value} (hx:VR g x cx)
  (hs:eqpV neg x=some v) :
  OpOut bs g ow σ w (Sem.run P (do pure (Next.value (← (do eqGuard op t ox oy cx (.pointer none); binOp op t cx (.pointer none))))) w) v σ:=by
 obtain ⟨p,rfl,hv⟩:∃ p,cx=.pointer p∧v=.bool (neg != p.isNone):=by
  cases hx <;> simp only [eqpV] at hs <;> first | (cases hs; done) | skip
  ·injection hs with hs; exact ⟨none,rfl,by rw [←hs]; cases neg <;> rfl⟩
  ·injection hs with hs; exact ⟨_,rfl,by rw [←hs]; cases neg <;> rfl⟩
  ·injection hs with hs; exact ⟨_,rfl,by rw [←hs]; cases neg <;> rfl⟩
 subst hv
 have hguard:∀ w,(eqGuard op t ox oy (.pointer p) (.pointer none)).run P w=.ok () w:=by
  intro w; simp only [eqGuard]; split <;> rfl
 have heq:∀ w,(Op.equal t (.pointer p) (.pointer none)).run P w=.ok p.isNone w:=by
  intro w
  have hd:∀ d,(Op.equalIn (d+1) t (.pointer p) (.pointer none)).run P w=.ok p.isNone w:=fun d=>by cases p <;> simp [Op.equalIn,run_und ht]
  exact hd 9999
 refine OpOut.pure h (cv:=.bool (neg != p.isNone)) ?_ (.bool _)
 cases neg <;> simp at hop <;> subst hop <;> simp [hguard,binOp,heq]
theorem s_un (h:HR g ow σ w) {op:UnOp} {x:AV} {cx:Value} (hx:VR g x cx) (hs:unA op x=some v):OpOut bs g ow σ w (Sem.run P (do pure (Next.value (← Op.unary op cx))) w) v σ:=by
 cases hx <;> simp only [unA] at hs <;> try (cases hs; done)
 ·split at hs
  ·injection hs with hs; subst hs; exact OpOut.pure h (by simp [Op.unary,Op.intArith]) (.int ..)
  ·cases hs
 ·split at hs
  ·injection hs with hs; subst hs; exact OpOut.pure h (by simp [Op.unary]) (.bool ..)
  ·cases hs
end
end Go.Mach
end
section
namespace Go.Mach
open Go.RowKit
section
variable {P:Program} {bs:Nat} {g:Gh} {ow:Nat→Option Nat} {σ σ':Heap} {w:World} {ρ:Regs} {a:Act} {v:AV}
theorem s_conv (h:HR g ow σ w) {src dst:TypeId} {k k0:IntKind} (hs:P.underlying src=some (.int k0)) (hd:P.underlying dst=some (.int k)) {k1:IntKind} {n:Int} :
  OpOut bs g ow σ w (Sem.run P (do pure (Next.value (← convert src dst (.int k1 n)))) w) (.int k (k.wrap n)) σ:=
 OpOut.pure h (by simp [convert,run_und hs,run_und hd,Conv.intToInt]) (.int ..)
theorem s_convS (h:HR g ow σ w) {src dst:TypeId} (hs:P.underlying src=some .string) (hd:P.underlying dst=some .string) {x:AV} {cx:Value} (hx:VR g x cx) (hst:∃ s,x=.str s) :
  OpOut bs g ow σ w (Sem.run P (do pure (Next.value (← convert src dst cx))) w) x σ:=by
 obtain ⟨s,rfl⟩:=hst
 cases hx
 exact OpOut.pure h (by simp [convert,run_und hs,run_und hd]) (.str _)
theorem isU8_und {t:TypeId} (h:isU8 P t=true):P.underlying t=some (.int .u8):=by
 unfold isU8 at h; split at h
 ·assumption
 ·cases h
theorem u8s_get {s:ByteArray} {i:Nat} {x:AV} (h:(u8s s)[i]?=some x):∃ b:UInt8,s.data[i]?=some b∧x=.int .u8 (b.toNat:Int):=by
 simp only [u8s,List.getElem?_map] at h
 obtain ⟨b,hb,rfl⟩:=zqG.1 h
 exact ⟨b,by simpa using hb,rfl⟩
theorem u8s_length (s:ByteArray):(u8s s).length=s.size:=by simp [u8s]
theorem s_s2b {src dst e:TypeId} (hs:P.underlying src=some .string) (hd:P.underlying dst=some (.slice e)) (he:P.underlying e=some (.int .u8)) {s:ByteArray} :
  NewRes g w (Sem.run P (do pure (Next.value (← convert src dst (.string s)))) w) (fun id=>.sl id 0 s.size 1 false) (.cells (u8s s) 0 true):=by
 have hsz:s.data.size=s.size:=rfl
 obtain ⟨cap,hcap,w1,hw1,hr1⟩:∃ cap,s.size≤cap∧∃ w1:World,(w1.heap=w.heap∧Same w w1)∧(choose (.appendCap s.size 0 e)).run P w=.ok cap w1:=by
  refine ⟨_,?_,{w with drawn:=w.drawn+1},⟨rfl,⟨rfl,rfl,rfl⟩⟩,by simp only [run_choose,Question.forced]; rfl⟩
  simp [Question.cut]
 let cv:Array Value:=s.data.map (fun b=>Value.int .u8 (b.toNat:Int))++Array.replicate (cap - s.size) (.int .u8 0)
 have hcv:cv.size=cap:=by simp [cv,hsz]; omega
 let w2:World:={w1 with heap:=w1.heap.push (.cells cv e (cap,cap+1))}
 have hrun:(convert src dst (.string s)).run P w=.ok (.slice (some ⟨w.heap.size,0,none⟩) s.size cap) w2:=by
  have hhs:w1.heap.size=w.heap.size:=by rw [hw1.1]
  simp only [convert,Sem.run_bind,run_und hs,run_und hd,run_und he,Result.andThen_ok,Conv.stringToBytes,hr1,newRow,run_newObj,Sem.run_pure,markStringish,run_shape,run_freeze]
  have hshape:(World.shape? {w1 with heap:=w1.heap.push (.cells cv e (0,0))} w1.heap.size)=some (e,cap):=by
   simp [World.shape?,hcv]
  simp only [cv] at hshape ⊢
  rw [hshape]
  simp only [run_freeze,Result.andThen_ok,hhs]
  congr 1
  simp only [World.freeze,w2]
  rw [if_neg (by omega)]
  congr 1
  apply Array.ext_getElem?
  intro j
  rw [Array.getElem?_modify]
  simp only [Array.getElem?_push,hhs]
  split
  ·rename_i e; subst e; simp [cv]
  ·rename_i e; simp [Ne.symm e]
 refine ⟨w2,.cells cv e (cap,cap+1),cap,_,by simp [hrun],by simp [w2,hw1.1],⟨hw1.2.os,hw1.2.tape,hw1.2.output⟩,fun cs fz ext e0=>?_,fun s pos e=>(by cases e),fun n s e=>(by cases e),fun g' id hp=>.sl hp (by omega) (by omega) hcap,fun hsp=>(by cases hsp)⟩
 injection e0 with e1 e2 e3; subst e1 e2 e3
 refine ⟨cv,e,(cap,cap+1),rfl,by rw [u8s_length]; exact hcap,by omega,fun hh=>(by cases hh),fun i x hx=>?_,fun i hi=>by rw [hcv] at hi; simp; omega⟩
 obtain ⟨b,hb,rfl⟩:=u8s_get hx
 refine ⟨rfl,_,?_,.int ..⟩
 have hi:i<s.data.size:=(zqN.1 hb).1
 simp only [cv]
 rw [Array.getElem?_append_left (by simpa using hi)]; simp [hb]
def elShape (sz:Nat) (ag:Bool) (e:AV):Prop:=e.cells.length=sz∧(if ag then ∃ cs,e=.agg cs else e.cellv=true)
theorem mk_false {l:List AV} {e:AV} (h:mk false l=some e):l=[e]:=by
 match l,h with
 | [y],h=>simp only [mk] at h; injection h with h; rw [h]
theorem chunk_flat {sz:Nat} {ag:Bool}:∀ {n:Nat} {win es:List AV},(∀ x∈win,x.cellv=true)→chunk sz ag n win=some es→win.length=n * sz→flat es=win∧es.length=n∧∀ e∈es,elShape sz ag e
 | 0,win,es,_,h,hl=>by
  simp only [chunk] at h; injection h with h; subst h
  exact ⟨by simp at hl; simp [flat,hl],rfl,fun e he=>by simp at he⟩
 | n+1,win,es,hc,h,hl=>by
  simp only [chunk] at h
  obtain ⟨e,he,h⟩:=zqH.1 h
  obtain ⟨es',hes,rfl⟩:=zqG.1 h
  have hle:sz≤win.length:=by rw [hl,Nat.add_mul]; omega
  obtain ⟨i1,i2,i3⟩:=chunk_flat (fun x hx=>hc x (List.mem_of_mem_drop hx)) hes (by rw [List.length_drop,hl,Nat.add_mul]; omega)
  have htl:(win.take sz).length=sz:=by rw [List.length_take]; omega
  have hcells:e.cells=win.take sz∧elShape sz ag e:=by
   cases ag with
   | true=>simp only [mk] at he; injection he with he; subst he; exact ⟨rfl,htl,by simp⟩
   | false=>
    have hu:=mk_false he
    have hx:e.cellv=true:=hc e (List.mem_of_mem_take (by rw [hu]; simp))
    rw [hu] at htl
    exact ⟨by rw [hu,AV.cells_of_cellv hx],by rw [AV.cells_of_cellv hx]; exact htl,by simpa using hx⟩
  refine ⟨?_,by simp [i2],fun y hy=>?_⟩
  ·simp only [flat,List.flatMap_cons] at i1 ⊢
   rw [i1,hcells.1,List.take_append_drop]
  ·rcases List.mem_cons.1 hy with rfl | hy
   ·exact hcells.2
   ·exact i3 y hy
structure SlRd (g:Gh) (w:World) (a:Option Addr) (cs:List AV) (us:List Value):Prop where
 len:us.length=cs.length
 at_:0<us.length→∃ b p,a=some ⟨b,p,none⟩∧∀ (j:Nat) u,us[j]?=some u→w.cell? ⟨b,p+j,none⟩=some u
 val:∀ (j:Nat) x,cs[j]?=some x→x.cellv=true∧∃ u,us[j]?=some u∧VR g x u
theorem Rd.sl {g w b p cs} (h:Rd g w b p cs) {a:Option Addr} (ha:0<cs.length→a=some ⟨b,p,none⟩):∃ us,SlRd g w a cs us:=by
 obtain ⟨us,h1,h2,h3⟩:=h.vals
 exact ⟨us,h1,fun h0=>⟨b,p,ha (by omega),fun j u hu=>by have:=h2 j u hu; rwa [addr_add] at this⟩,h3⟩
theorem Rd.ofM {g ow σ w} (h:HR g ow σ w) {b p:Nat} {cs:List AV} {vs:Nat→Value} (hc:∀ x∈cs,x.clo1=true) (hM:∀ (i:Nat) x,cs[i]?=some x→g.M b (p+i)=some (vs i)) (hV:∀ (i:Nat) x,cs[i]?=some x→VR g x (vs i)):Rd g w b p cs:=
 fun i x hx=>⟨clo1_cellv (hc x (zqR hx)),vs i,h.mem _ _ _ (hM i x hx),hV i x hx⟩
theorem elems_sound (h:HR g ow σ w) {x:AV} {cv:Value} (hx:VR g x cv) {sz:Nat} {ag:Bool} {es:List AV} (he:elemsA σ sz ag x=some es) (hns:∀ s,x≠.str s) :
  ∃ ad n c us,cv=.slice ad n c∧n=es.length∧SlRd g w ad (flat es) us∧n≤c:=by
 cases hx <;> simp only [elemsA] at he <;> try (cases he; done)
 ·exact absurd rfl (hns _)
 ·rename_i cap0 a c b p s es' hc h0 ha hcap hn hM hV
  injection he with he; subst he
  obtain ⟨us,hus⟩:=(Rd.ofM h (fun x hx=>flat_clo1 hc hx) hM hV).sl (a:=a) (fun hl=>by
   rcases ha with rfl | ha
   ·simp [flat] at hl
   ·exact ha)
  exact ⟨_,_,_,us,rfl,rfl,hus,hn⟩
 ·rename_i id c b p s es' hc h0 hp hn hM hV
  injection he with he; subst he
  obtain ⟨us,hus⟩:=(Rd.ofM h (fun x hx=>flat_clo1 hc hx) hM hV).sl (a:=some ⟨b,p,none⟩) (fun _=>rfl)
  exact ⟨_,_,_,us,rfl,rfl,hus,hn⟩
 ·rename_i id off len sz' ag' b c cc hp hcc h0 hl
  split at he
  ·rename_i cs fz ext hσ
   obtain ⟨win,hw,hch⟩:=zqH.1 he
   obtain ⟨hr,hlen⟩:=(Rd.cel h hσ hp).win hw
   rw [Nat.zero_add] at hr
   obtain ⟨i1,i2,_⟩:=chunk_flat (fun x hx=>by obtain ⟨i,hi,rfl⟩:=zqS hx; exact (hr i _ (zqF hi)).1) hch hlen
   rw [←i1] at hr
   obtain ⟨us,hus⟩:=hr.sl (a:=some ⟨b,off,none⟩) (fun _=>rfl)
   exact ⟨_,_,_,us,rfl,i2.symm,hus,hl⟩
  ·cases he
theorem nrm_cellv (x:AV):x.nrm.cellv=x.cellv:=by cases x <;> rfl
theorem nrm_clo1 (x:AV):x.nrm.clo1=x.clo1:=by cases x <;> rfl
theorem VR.nrm {g:Gh} {x:AV} {v:Value} (h:VR g x v):VR g x.nrm v:=by
 cases h with
 | isl vs hc hs ha hcap hn hM hV=>exact .isl vs hc hs ha (fun h=>by cases h) hn hM hV
 | undef v=>exact .undef v
 | int k n=>exact .int k n
 | bool b=>exact .bool b
 | str s=>exact .str s
 | nilptr=>exact .nilptr
 | nilfunc=>exact .nilfunc
 | ptr h=>exact .ptr h
 | iptr vs hc hM hV=>exact .iptr vs hc hM hV
 | own vs hc hs h hn hM hV=>exact .own vs hc hs h hn hM hV
 | sl h hc hs hl=>exact .sl h hc hs hl
 | func hl hV=>exact .func hl hV
 | meth hl hV=>exact .meth hl hV
 | nilmap=>exact .nilmap
 | map hp=>exact .map hp
 | yld hp=>exact .yld hp
 | agg hl hc hV=>exact .agg hl hc hV
 | tup hl hV=>exact .tup hl hV
theorem Rd.nrm {g w b p cs} (h:Rd g w b p cs):Rd g w b p (cs.map AV.nrm):=fun i x hx=>by
 rw [List.getElem?_map] at hx
 obtain ⟨y,hy,rfl⟩:=zqG.1 hx
 obtain ⟨h1,v,h2,h3⟩:=h i y hy
 exact ⟨by rw [nrm_cellv]; exact h1,v,h2,h3.nrm⟩
theorem elemsN_sound (h:HR g ow σ w) {x:AV} {cv:Value} (hx:VR g x cv) {sz:Nat} {ag:Bool} {es:List AV} (he:elemsN σ sz ag x=some es) (hns:∀ s,x≠.str s) :
  ∃ ad n c us,cv=.slice ad n c∧n=es.length∧SlRd g w ad (flat es) us∧n≤c:=by
 cases x with
 | sl id off len sz' ag'=>
  cases hx with
  | @sl _ _ _ _ _ b c cc hp hcc h0 hl=>
  simp only [elemsN] at he
  split at he
  ·rename_i cs fz ext hσ
   obtain ⟨win,hw,hch⟩:=zqH.1 he
   obtain ⟨hr,hlen⟩:=(Rd.cel h hσ hp).win hw
   rw [Nat.zero_add] at hr
   have hr:=hr.nrm
   obtain ⟨i1,i2,_⟩:=chunk_flat (fun x hx=>by obtain ⟨i,hi,rfl⟩:=zqS hx; exact (hr i _ (zqF hi)).1) hch (by rw [List.length_map]; exact hlen)
   rw [←i1] at hr
   obtain ⟨us,hus⟩:=hr.sl (a:=some ⟨b,off,none⟩) (fun _=>rfl)
   exact ⟨_,_,_,us,rfl,i2.symm,hus,hl⟩
  ·cases he
 | _=>exact elems_sound (sz:=sz) (ag:=ag) h hx he hns
theorem ofU8_int {x:AV} {b:UInt8} (h:ofU8 x=some b):∃ n,x=.int .u8 n∧b=UInt8.ofNat n.toNat:=by
 unfold ofU8 at h; split at h
 ·injection h with h; exact ⟨_,rfl,h.symm⟩
 ·cases h
theorem bytesA_ints:∀ {es:List AV} {bs:List UInt8},es.mapM ofU8=some bs→∃ xs:List Int,es=xs.map (AV.int .u8)∧bs=xs.map fun n=>UInt8.ofNat n.toNat
 | [],bs,h=>by simp at h; exact ⟨[],rfl,by simp [h]⟩
 | e :: es,bs,h=>by
  rw [List.mapM_cons] at h
  simp only [zqK,zqH,Option.pure_def] at h
  obtain ⟨b,hb,bs',hbs,e⟩:=h
  injection e with e; subst e
  obtain ⟨n,rfl,rfl⟩:=ofU8_int hb
  obtain ⟨xs,rfl,rfl⟩:=bytesA_ints hbs
  exact ⟨n :: xs,rfl,rfl⟩
theorem s_b2s (h:HR g ow σ w) {src dst e:TypeId} (hs:P.underlying src=some (.slice e)) (he:P.underlying e=some (.int .u8)) (hd:P.underlying dst=some .string) {x:AV} {cx:Value} (hx:VR g x cx)
  (hns:∀ s,x≠.str s) {es:List AV} {s:ByteArray} (h1:elemsA σ 1 false x=some es) (h2:bytesA es=some s):OpOut bs g ow σ w (Sem.run P (do pure (Next.value (← convert src dst cx))) w) (.str s) σ:=by
 obtain ⟨b,hb,rfl⟩:=zqG.1 h2
 obtain ⟨xs,rfl,rfl⟩:=bytesA_ints hb
 obtain ⟨ad,n,c,us,rfl,rfl,hus,hn⟩:=elems_sound h hx h1 hns
 refine OpOut.pure h (cv:=.string (strOfNums xs)) ?_ (.str _)
 have hflat:flat (xs.map (AV.int .u8))=xs.map (AV.int .u8):=by
  simp only [flat,List.flatMap_map]; rw [←List.flatMap_singleton' (xs.map _),List.flatMap_map]; rfl
 rw [hflat] at hus
 cases ad with
 | none=>
  have hl:us.length=0:=by
   rcases Nat.eq_zero_or_pos us.length with h | h
   ·exact h
   ·obtain ⟨b,p,hbp,_⟩:=hus.at_ h; cases hbp
  have:xs=[]:=by have:=hus.len; simp [hl] at this; exact List.eq_nil_of_length_eq_zero this.symm
  subst this
  simp only [Sem.run_bind,run_convert_bytes_nil w src e hs he _ _ dst hd,Result.andThen_ok,Sem.run_pure]
  rfl
 | some ad=>
  by_cases h0:0<us.length
  ·obtain ⟨b,p,hbp,hc⟩:=hus.at_ h0
   injection hbp with hbp; subst hbp
   have hl:=hus.len; simp at hl
   have hrun:=run_convert_bytes_arg (P:=P) w src e hs he b p xs.length c xs rfl (fun i hi=>by
    obtain ⟨_,u,hu,hV⟩:=hus.val i (.int .u8 xs[i]) (by simp [hi])
    rw [hc i u hu]
    cases hV
    simp [List.getD_eq_getElem?_getD,hi]) dst hd
   simp only [List.length_map,Sem.run_bind,hrun,Result.andThen_ok,Sem.run_pure]
  ·have:xs=[]:=by have:=hus.len; simp at this; exact List.eq_nil_of_length_eq_zero (by omega)
   subst this
   obtain ⟨b,p,sp⟩:=ad
   have:=run_loadCells_list (P:=P) w ⟨b,p,sp⟩ [] (by simp)
   simp [convert,run_und hs,run_und he,run_und hd,Conv.bytesToString] at this ⊢
   simp [this]; rfl
end
end Go.Mach
end
section
namespace Go.Mach
open Go.RowKit
section
variable {P:Program} {bs:Nat} {g:Gh} {ow:Nat→Option Nat} {σ σ':Heap} {w:World} {ρ:Regs} {a:Act} {v:AV}
theorem asNat_sound (hR:RR g ρ a.tmps) {o:Option Operand} {x:Option AX} (hx:cxo o=some x) {len d n:Nat} (h:asNat len x d ρ=some n) :
  (o=none∧n=d)∨(∃ y k,o=some y∧a.eval y=.int k (n:Int)∧n≤len):=by
 cases o with
 | none=>simp only [cxo] at hx; injection hx with hx; subst hx; simp only [asNat] at h; injection h with h; exact .inl ⟨rfl,h.symm⟩
 | some y=>
  obtain ⟨x',hx',rfl⟩:=zqG.1 hx
  have hv:=ev_VR hR hx'
  simp only [asNat] at h
  split at h
  ·rename_i k m he
   split at h
   ·rename_i hc
    injection h with h; subst h
    rw [he] at hv
    refine .inr ⟨y,k,rfl,?_,by omega⟩
    cases hv':a.eval y <;> rw [hv'] at hv <;> cases hv
    rw [Int.toNat_of_nonneg hc.1]
   ·cases h
  ·cases h
theorem asNat_le (hR:RR g ρ a.tmps) {o:Option Operand} {x:Option AX} (hx:cxo o=some x) {len d n:Nat} (h:asNat len x d ρ=some n) (hd:d≤len):n≤len:=by
 rcases asNat_sound hR hx h with ⟨_,rfl⟩ | ⟨_,_,_,_,h⟩
 ·exact hd
 ·exact h
theorem run_sliceBound {k:IntKind} {n len:Nat} (h:n≤len) (code:BoundsCode) (w:World):(Instr.sliceBound (.int k (n:Int)) len code).run P w=.ok n w:=by
 have:(0:Int)≤n∧(n:Int)≤len:=by omega
 simp [Instr.sliceBound,asIntOf,this,h]
theorem run_bounds (hR:RR g ρ a.tmps) {lo hi:Option Operand} {xl xh:Option AX} (hl:cxo lo=some xl) (hh:cxo hi=some xh) {n h l:Nat} (e1:asNat n xh n ρ=some h) (e2:asNat h xl 0 ρ=some l) {cap:Nat} (hc:n≤cap) (b:Bool) (w:World) :
  (Instr.sliceBounds b n cap (lo.map a.eval) (hi.map a.eval) none).run P w=.ok (l,h,cap) w:=by
 have h1:h≤n:=asNat_le hR hh e1 (Nat.le_refl _)
 have h2:l≤h:=asNat_le hR hl e2 (Nat.zero_le _)
 rcases asNat_sound hR hh e1 with ⟨rfl,rfl⟩ | ⟨y,k,rfl,hy,_⟩ <;> rcases asNat_sound hR hl e2 with ⟨rfl,rfl⟩ | ⟨z,k',rfl,hz,_⟩
 ·simp [Instr.sliceBounds]
 ·simp [Instr.sliceBounds,hz,run_sliceBound h2]
 ·simp [Instr.sliceBounds,hy,run_sliceBound (Nat.le_trans h1 hc)]
 ·simp [Instr.sliceBounds,hy,hz,run_sliceBound (Nat.le_trans h1 hc),run_sliceBound h2]
theorem s_strSl (h:HR g ow σ w) (hR:RR g ρ a.tmps) {t:TypeId} (ht:P.underlying t=some .string) {s:ByteArray} {lo hi:Option Operand} {xl xh:Option AX} (hl:cxo lo=some xl) (hh:cxo hi=some xh) {hn ln:Nat}
  (e1:asNat s.size xh s.size ρ=some hn) (e2:asNat hn xl 0 ρ=some ln):OpOut bs g ow σ w (Sem.run P (do pure (Next.value (← Instr.sliceAt t (.string s) (lo.map a.eval) (hi.map a.eval) none))) w) (.str (s.extract ln hn)) σ:=by
 refine OpOut.pure h (cv:=.string (s.extract ln hn)) ?_ (.str _)
 simp only [Instr.sliceAt,Sem.run_bind,run_und ht,Result.andThen_ok,Instr.slice,run_bounds hR hl hh e1 e2 (Nat.le_refl _)]
 simp [run_und ht,run_bounds hR hl hh e1 e2 (Nat.le_refl _)]
theorem s_len (h:HR g ow σ w) {st:Bool} {x:AV} {cv:Value} (hx:VR g x cv) {n:Nat} (hst:¬ (isSl x=st)) (hn:lenA x=some n) {t ty:TypeId} (ht:(st=true∧P.underlying t=some .string)∨(st=false∧∃ e,P.underlying t=some (.slice e))) :
  OpOut bs g ow σ w (Sem.run P (do pure (Next.value (← Builtin.len_ #[t] ty #[cv]))) w) (.int .i64 (n:Int)) σ:=by
 refine OpOut.pure h (cv:=.int .i64 (n:Int)) ?_ (.int ..)
 cases hx <;> simp only [lenA] at hn <;> try (cases hn; done)
 ·injection hn with hn; subst hn
  rcases ht with ⟨rfl,ht⟩ | ⟨rfl,_⟩
  ·simp [Builtin.len_,run_und ht,goInt]
  ·exact absurd rfl hst
 all_goals
  injection hn with hn; subst hn
  rcases ht with ⟨rfl,_⟩ | ⟨rfl,e,ht⟩
  ·exact absurd rfl hst
  ·simp [Builtin.len_,run_und ht,goInt]
theorem flat_take_drop {es:List AV} {s:Nat} (hc:∀ e∈es,e.cells.length=s) (h0:0<s) {l hh:Nat} {i:Nat} {x:AV} (hx:(flat ((es.take hh).drop l))[i]?=some x):(flat es)[l * s+i]?=some x:=by
 have h1:∀ (es:List AV) (l:Nat),(∀ e∈es,e.cells.length=s)→(flat (es.drop l))=(flat es).drop (l * s):=by
  intro es
  induction es with
  | nil=>intro l _; simp [flat]
  | cons e es ih=>
   intro l hc
   cases l with
   | zero=>simp
   | succ l=>
    simp only [List.drop_succ_cons]
    rw [ih l fun e he=>hc e (by simp [he])]
    simp only [flat,List.flatMap_cons]
    rw [List.drop_append,hc e (by simp)]
    have:e.cells.drop ((l+1) * s)=[]:=List.drop_eq_nil_of_le (by rw [hc e (by simp),Nat.add_mul]; omega)
    rw [this,List.nil_append,show (l+1) * s - s=l * s by rw [Nat.add_mul]; omega]
 have h2:∀ (es:List AV) (k:Nat),∃ ys,flat es=flat (es.take k)++ys:=fun es k=>⟨flat (es.drop k),by rw [←flat_append,List.take_append_drop]⟩
 rw [List.drop_take] at hx
 obtain ⟨ys,hys⟩:=h2 (es.drop l) (hh - l)
 have h3:(flat (es.drop l))[i]?=some x:=by rw [hys,zqA (getL hx)]; exact hx
 rw [h1 es l hc,List.getElem?_drop] at h3
 exact h3
theorem isl_cut {es:List AV} {s b p c ln hn:Nat} (h1:ln≤hn) (h2:hn≤es.length) (hlc:es.length≤c) (hc:∀ e∈es,e.clo=true∧e.cells.length=s) (h0:0<s) {ad:Option Addr} (ha:es=[]∨ad=some ⟨b,p,none⟩)
  {vs:Nat→Value} (hM:∀ (i:Nat) x,(flat es)[i]?=some x→g.M b (p+i)=some (vs i)) (hV:∀ (i:Nat) x,(flat es)[i]?=some x→VR g x (vs i)) :
  VR g (.isl ((es.take hn).drop ln) false) (.slice (if c=ln then ad else ad.map (·.add (ln * s))) (hn - ln) (c - ln)):=by
 have hlen:((es.take hn).drop ln).length=hn - ln:=by rw [List.length_drop,List.length_take]; omega
 have hsub:∀ e∈(es.take hn).drop ln,e∈es:=fun e he=>List.mem_of_mem_take (List.mem_of_mem_drop he)
 rw [←hlen]
 refine isl_VR (b:=b) (p:=p+ln * s) (s:=s) (fun e he=>hc e (hsub e he)) h0 ?_ (fun hh=>by cases hh) (by omega) fun i x hx=>?_
 ·by_cases hz:hn=ln
  ·exact .inl (List.eq_nil_of_length_eq_zero (by omega))
  ·refine .inr ?_
   rw [if_neg (by omega)]
   rcases ha with rfl | rfl
   ·simp at h2; omega
   ·simp [addr_add]
 ·have hx':=flat_take_drop (fun e he=>(hc e he).2) h0 hx
  rw [Nat.add_assoc]
  exact ⟨_,hM _ _ hx',hV _ _ hx'⟩
theorem isl_nil_VR {ad:Option Addr} {c:Nat}:VR g (.isl [] false) (.slice ad 0 c):=
 isl_VR (es:=[]) (b:=0) (p:=0) (s:=1) (by simp) (by omega) (.inl rfl) (fun hh=>by cases hh) (Nat.zero_le _) (by simp [flat])
theorem all_lenIs {es:List AV} {sz:Nat} (h:es.all (lenIs sz)=true) {e:AV} (he:e∈es):e.cells.length=sz:=by
 have:=zqQ.1 h e he; simpa [lenIs] using this
theorem slSl_sound {x:AV} {cv:Value} (hx:VR g x cv) {sz n ln hn:Nat} (hl:lenA x=some n) (h1:ln≤hn) (he:slSlA sz ln hn x=some v) :
  ∃ ad c,cv=.slice ad n c∧n≤c∧VR g v (.slice (if c=ln then ad else ad.map (·.add (ln * sz))) (hn - ln) (c - ln)):=by
 cases hx <;> simp only [slSlA] at he <;> try (cases he; done)
 ·rename_i es cap0 ad c b p s vs hc h0 ha hcap hlc hM hV
  simp only [lenA] at hl; injection hl with hl; subst hl
  split at he
  ·rename_i hcond
   obtain ⟨_,h2,h3⟩:=hcond
   injection he with he; subst he
   refine ⟨_,_,rfl,hlc,?_⟩
   have:=isl_cut (g:=g) (c:=c) h1 h2 hlc hc h0 ha hM hV
   rcases h3 with rfl | h3
   ·simpa using this
   ·cases es with
    | nil=>simp at h2; subst h2; simp at h1; subst h1; simpa using this
    | cons e es=>
     have e1:=(hc e (by simp)).2
     have e2:=all_lenIs h3 (e:=e) (by simp)
     rw [e1] at e2; subst e2; exact this
  ·cases he
 ·rename_i id es c b p s vs hc h0 hp hlc hM hV
  simp only [lenA] at hl; injection hl with hl; subst hl
  split at he
  ·rename_i hcond
   obtain ⟨_,h2,h3⟩:=hcond
   have:=isl_cut (g:=g) (c:=c) h1 h2 hlc hc h0 (ad:=some ⟨b,p,none⟩) (.inr rfl) hM hV
   split at he
   ·rename_i hc2
    obtain ⟨rfl,rfl⟩:=hc2
    injection he with he; subst he
    refine ⟨_,_,rfl,hlc,?_⟩
    have e0:(if c=0 then some (⟨b,p,none⟩:Addr) else (some (⟨b,p,none⟩:Addr)).map (·.add (0 * sz)))=some ⟨b,p,none⟩:=by
     split
     ·rfl
     ·simp [addr_add]
    rw [e0]
    exact .own vs hc h0 hp hlc hM hV
   ·injection he with he; subst he
    refine ⟨_,_,rfl,hlc,?_⟩
    rcases h3 with rfl | h3
    ·simpa using this
    ·cases es with
     | nil=>simp at h2; subst h2; simp at h1; subst h1; simpa using this
     | cons e es=>
      have e1:=(hc e (by simp)).2
      have e2:=all_lenIs h3 (e:=e) (by simp)
      rw [e1] at e2; subst e2; exact this
  ·cases he
 ·rename_i id off len sz' ag b c cc hp hcc h0 hlc
  simp only [lenA] at hl; injection hl with hl; subst hl
  split at he
  ·rename_i hcond
   obtain ⟨_,h2,rfl⟩:=hcond
   refine ⟨_,_,rfl,hlc,?_⟩
   split at he
   ·rename_i e; subst e
    injection he with he; subst he
    rw [Nat.sub_self]; exact isl_nil_VR
   ·rename_i e
    injection he with he; subst he
    rw [if_neg (by omega)]
    simp only [Option.map_some,addr_add]
    exact .sl hp (by rw [Nat.add_assoc,←Nat.add_mul,Nat.add_sub_cancel' (by omega)]; exact hcc) h0 (by omega)
  ·cases he
theorem s_slSl (h:HR g ow σ w) (hR:RR g ρ a.tmps) {t e:TypeId} {sz:Nat} (ht:P.underlying t=some (.slice e)) (hsz:sizeT P e=some sz) {x:AV} {cv:Value} (hx:VR g x cv) {n:Nat} (hl:lenA x=some n) (hns:∀ s,x≠.str s)
  {lo hi:Option Operand} {xl xh:Option AX} (hlo:cxo lo=some xl) (hhi:cxo hi=some xh) {hn ln:Nat} (e1:asNat n xh n ρ=some hn) (e2:asNat hn xl 0 ρ=some ln) (he:slSlA sz ln hn x=some v) :
  OpOut bs g ow σ w (Sem.run P (do pure (Next.value (← Instr.sliceAt t cv (lo.map a.eval) (hi.map a.eval) none))) w) v σ:=by
 obtain ⟨ad,c,rfl,hnc,hV⟩:=slSl_sound hx hl (asNat_le hR hlo e2 (Nat.zero_le _)) he
 refine OpOut.pure h ?_ hV
 simp only [Instr.sliceAt,Sem.run_bind,run_und ht,Result.andThen_ok,Instr.slice,run_bounds hR hlo hhi e1 e2 hnc,run_sizeT hsz,Sem.run_pure]
theorem s_slCl (h:HR g ow σ w) (hR:RR g ρ a.tmps) {t e:TypeId} {sz:Nat} (ht:P.underlying t=some (.slice e)) (hsz:sizeT P e=some sz) {es:List AV} {cap0:Bool} {cv:Value} (hx:VR g (.isl es cap0) cv)
  {lo hi mx:Operand} {xl xh xm:AX} (hlo:cx lo=some xl) (hhi:cx hi=some xh) (hmx:cx mx=some xm) {m hn:Nat} (e0:asNat es.length (some xm) es.length ρ=some m) (e1:asNat m (some xh) es.length ρ=some hn) (e2:asNat hn (some xl) 0 ρ=some 0) (hm:hn=m) :
  OpOut bs g ow σ w (Sem.run P (do pure (Next.value (← Instr.sliceAt t cv (some (a.eval lo)) (some (a.eval hi)) (some (a.eval mx))))) w) (.isl (es.take hn) true) σ:=by
 subst hm
 cases hx with
 | @isl _ _ ad c b p s vs hc h0 ha hcap hlc hM hV=>
  have q0:=asNat_sound hR (o:=some mx) (by simp [cxo,hmx]) e0
  have q1:=asNat_sound hR (o:=some hi) (by simp [cxo,hhi]) e1
  have q2:=asNat_sound hR (o:=some lo) (by simp [cxo,hlo]) e2
  rcases q0 with ⟨q0,_⟩ | ⟨y0,k0,q0,v0,l0⟩
  ·cases q0
  rcases q1 with ⟨q1,_⟩ | ⟨y1,k1,q1,v1,l1⟩
  ·cases q1
  rcases q2 with ⟨q2,_⟩ | ⟨y2,k2,q2,v2,l2⟩
  ·cases q2
  injection q0 with q0; subst q0; injection q1 with q1; subst q1; injection q2 with q2; subst q2
  have hcut:=isl_cut (g:=g) (c:=c) (ln:=0) (hn:=hn) (Nat.zero_le _) l0 hlc hc h0 ha hM hV
  refine OpOut.pure h (cv:=.slice ad hn hn) ?_ ?_
  ·have hb0:=run_sliceBound (P:=P) (k:=k0) (n:=hn) (len:=c) (by omega) .slice3Acap w
   have hb1:=run_sliceBound (P:=P) (k:=k1) (n:=hn) (len:=hn) (Nat.le_refl _) .slice3B w
   have hb2:=run_sliceBound (P:=P) (k:=k2) (n:=0) (len:=hn) (Nat.zero_le _) .slice3C w
   simp [Instr.sliceAt,run_und ht,Instr.slice,Instr.sliceBounds,v0,v1,v2,hb0,hb1,run_sizeT hsz]
   simp at hb2
   simp [hb2]
   intro h0; cases ad <;> simp [Addr.add]
  ·have hl:(es.take hn).length=hn:=by rw [List.length_take]; omega
   have h0':VR g (.isl (es.take hn) true) (.slice ad (es.take hn).length hn):=by
    refine isl_VR (b:=b) (p:=p) (s:=s) (fun e he=>hc e (List.mem_of_mem_take he)) h0 (by rcases ha with rfl | rfl; exact .inl (by simp); exact .inr rfl) (fun _=>hl.symm) (by omega) fun i x hx=>?_
    have hx':(flat es)[i]?=some x:=by
     rw [←List.take_append_drop hn es,flat_append,zqA (getL hx)]; exact hx
    exact ⟨_,hM _ _ hx',hV _ _ hx'⟩
   rw [hl] at h0'; exact h0'
end
end Go.Mach
end
section
namespace Go.Mach
open Go.RowKit
section
variable {P:Program} {bs:Nat} {g:Gh} {ow:Nat→Option Nat} {σ σ':Heap} {w:World} {ρ:Regs} {a:Act} {v:AV}
theorem s_arrSl (h:HR g ow σ w) (hR:RR g ρ a.tmps) {t e:TypeId} {n sz:Nat} {ag:Bool} (ht:P.underlying t=some (.array n e)) (hsz:sizeT P e=some sz) {id off:Nat} {cv:Value} (hx:VR g (.ptr id off) cv) {cs:List AV} {fz:Nat} (hσ:σ[id]?=some (.cells cs fz false))
  {lo hi:Option Operand} {xl xh:Option AX} (hlo:cxo lo=some xl) (hhi:cxo hi=some xh) {hn ln:Nat} (e1:asNat n xh n ρ=some hn) (e2:asNat hn xl 0 ρ=some ln) (hc:off+n * sz=cs.length) (h0:0<sz) (hln:ln<n) :
  OpOut bs g ow σ w (Sem.run P (do pure (Next.value (← Instr.sliceAt t cv (lo.map a.eval) (hi.map a.eval) none))) w) (.sl id (off+ln * sz) (hn - ln) sz ag) σ:=by
 cases hx with
 | @ptr _ _ b c hp=>
  obtain ⟨cw,tag,fr,k0,k1,k2,k3,k4,k5,k6⟩:=h.cel id cs fz false hσ b c hp
  have h1:hn≤n:=asNat_le hR hhi e1 (Nat.le_refl _)
  have h2:ln≤hn:=asNat_le hR hlo e2 (Nat.zero_le _)
  refine OpOut.pure h (cv:=.slice (some ⟨b,off+ln * sz,none⟩) (hn - ln) (n - ln)) ?_ (.sl hp ?_ h0 (by omega))
  ·simp only [Instr.sliceAt,Sem.run_bind,run_und ht,Result.andThen_ok,Instr.sureAddr,Sem.run_pure,run_bounds hR hlo hhi e1 e2 (Nat.le_refl _),run_sizeT hsz]
   rw [if_neg (by omega)]; simp [addr_add]
  ·rw [k3 rfl,←hc,Nat.add_assoc,←Nat.add_mul,Nat.add_sub_cancel' (by omega)]
theorem run_fieldPlace {t:TypeId} {s:Nat} (hs:sizeT P t=some (s+1)) {f:Field} (hf:f.type=t) (ad:Addr) (w:World):(fieldPlace ad f).run P w=.ok (ad.add f.offset) w:=by
 subst hf; simp [fieldPlace,run_sizeT hs]
theorem s_faddr (h:HR g ow σ w) {t:TypeId} {fs:Array Field} {fi:Nat} {fd:Field} (ht:P.underlying t=some (.struct fs)) (hf:fs[fi]?=some fd) {s:Nat} (hs:sizeT P fd.type=some (s+1)) {x:AV} {cv:Value} (hx:VR g x cv)
  (hv:(match x with | .ptr id o=>some (.ptr id (o+fd.offset)) | .iptr cs o=>some (.iptr cs (o+fd.offset)) | _=>(none:Option AV))=some v) :
  OpOut bs g ow σ w (Sem.run P (do pure (Next.value (← Instr.fieldAt t cv fi))) w) v σ:=by
 cases hx <;> simp only at hv <;> try (cases hv; done)
 ·rename_i id off b c hp
  injection hv with hv; subst hv
  exact OpOut.pure h (by simp [Instr.fieldAt,run_und ht,hf,Instr.sureAddr,run_fieldPlace hs rfl,addr_add]) (.ptr hp)
 ·rename_i cs off b p vs hc hM hV
  injection hv with hv; subst hv
  refine OpOut.pure h (cv:=.pointer (some ⟨b,p+(off+fd.offset),none⟩)) ?_ (.iptr vs hc hM hV)
  simp [Instr.fieldAt,run_und ht,hf,Instr.sureAddr,run_fieldPlace hs rfl,addr_add,Nat.add_assoc]
theorem run_part {cs:List AV} {vs:Array Value} (hl:cs.length=vs.size) (hc:∀ x∈cs,x.cellv=true) (hV:∀ (i:Nat) x v,cs[i]?=some x→vs[i]?=some v→VR g x v) {t:TypeId} {sz:Nat} {ag:Bool} (hs:sizeT P t=some sz) (ha:aggT P t=some ag) {off:Nat} {win:List AV}
  (hw:window cs off sz=some win) (hm:mk ag win=some v) (w:World):∃ u,(part t vs off).run P w=.ok u w∧VR g v u:=by
 unfold window at hw; split at hw
 ·rename_i hle
  injection hw with hw; subst hw
  have hget:∀ (j:Nat) x,((cs.drop off).take sz)[j]?=some x→j<sz∧cs[off+j]?=some x:=fun j x hx=>by
   rw [List.getElem?_take] at hx; split at hx
   ·rw [List.getElem?_drop] at hx; exact ⟨by assumption,hx⟩
   ·cases hx
  have hex:∀ j,j<sz→(vs.extract off (off+sz))[j]?=vs[off+j]?:=fun j hj=>by
   rw [Array.getElem?_extract]; rw [if_pos (by omega)]
  cases ag with
  | true=>
   simp only [mk] at hm; injection hm with hm; subst hm
   refine ⟨.agg (vs.extract off (off+sz)),by simp [part,run_aggT ha,run_sizeT hs],.agg (by simp; omega) (fun x hx=>?_) fun j x u hx hu=>?_⟩
   ·exact hc x (List.mem_of_mem_drop (List.mem_of_mem_take hx))
   ·obtain ⟨hj,hx'⟩:=hget j x hx
    rw [hex j hj] at hu; exact hV _ _ _ hx' hu
  | false=>
   have hu:=mk_false hm
   have hx:=hget 0 v (by rw [hu]; rfl)
   have hlt:off<vs.size:=by rw [←hl]; have:=getL hx.2; omega
   have hg:vs[off]?=some vs[off]:=Array.getElem?_eq_getElem hlt
   refine ⟨vs[off],?_,hV off v _ (by simpa using hx.2) hg⟩
   simp only [part,Sem.run_bind,run_aggT ha,Result.andThen_ok,hg]; rfl
 ·cases hw
theorem s_field (h:HR g ow σ w) {t:TypeId} {fs:Array Field} {fi:Nat} {fd:Field} (ht:P.underlying t=some (.struct fs)) (hf:fs[fi]?=some fd) {sz:Nat} {ag:Bool} (hs:sizeT P fd.type=some sz) (ha:aggT P fd.type=some ag) {cs:List AV} {cv:Value} (hx:VR g (.agg cs) cv)
  {win:List AV} (hw:window cs fd.offset sz=some win) (hm:mk ag win=some v):OpOut bs g ow σ w (Sem.run P (do pure (Next.value (← Instr.field t cv fi))) w) v σ:=by
 cases hx with
 | agg hl hc hV=>
  obtain ⟨u,hr,hu⟩:=run_part hl hc hV hs ha hw hm w
  exact OpOut.pure h (by simp [Instr.field,run_und ht,hf,asAgg,hr]) hu
theorem s_idxArr (h:HR g ow σ w) {t e:TypeId} {n sz:Nat} {ag:Bool} (ht:P.underlying t=some (.array n e)) (hs:sizeT P e=some sz) (ha:aggT P e=some ag) {cs:List AV} {cv:Value} (hx:VR g (.agg cs) cv) {k:IntKind} {m:Int} (h0:0≤m) (h1:m<n)
  {win:List AV} (hw:window cs (m.toNat * sz) sz=some win) (hm:mk ag win=some v):OpOut bs g ow σ w (Sem.run P (do pure (Next.value (← Instr.index t cv (.int k m)))) w) v σ:=by
 cases hx with
 | agg hl hc hV=>
  obtain ⟨u,hr,hu⟩:=run_part hl hc hV hs ha hw hm w
  exact OpOut.pure h (by simp [Instr.index,asIntOf,run_und ht,h0,h1,run_sizeT hs,hr]) hu
theorem s_idxStr (h:HR g ow σ w) {t:TypeId} (ht:P.underlying t=some .string) {s:ByteArray} {k:IntKind} {m:Int} (h0:0≤m) {b:UInt8} (hb:s.data.toList[m.toNat]?=some b) :
  OpOut bs g ow σ w (Sem.run P (do pure (Next.value (← Instr.index t (.string s) (.int k m)))) w) (.int .u8 (b.toNat:Int)) σ:=by
 have hb':s[m.toNat]?=some b:=by
  rw [Array.getElem?_toList] at hb; exact hb
 exact OpOut.pure h (by simp [Instr.index,asIntOf,run_und ht,h0,hb']) (.int ..)
theorem s_iaddrS (h:HR g ow σ w) {t e:TypeId} {sz:Nat} (ht:P.underlying t=some (.slice e)) (hs:sizeT P e=some sz) {x:AV} {cv:Value} (hx:VR g x cv) {k:IntKind} {m:Int} (h0:0≤m)
  (hv:(match x with
   | .isl es _=>es[m.toNat]?.bind fun e=>if e.cells.length=sz then some (.iptr e.cells 0) else none
   | .own _ es=>es[m.toNat]?.bind fun e=>if e.cells.length=sz then some (.iptr e.cells 0) else none
   | .sl id off len sz' _=>if m<len∧sz=sz' then some (.ptr id (off+m.toNat * sz)) else none
   | _=>(none:Option AV))=some v):OpOut bs g ow σ w (Sem.run P (do pure (Next.value (← Instr.indexAt t cv (.int k m)))) w) v σ:=by
 have hflat:∀ (es:List AV) (s:Nat) (i:Nat) (e:AV),(∀ e∈es,e.cells.length=s)→es[i]?=some e→∀ (j:Nat) x,e.cells[j]?=some x→(flat es)[i * s+j]?=some x:=by
  intro es s
  induction es with
  | nil=>intro i e _ he; simp at he
  | cons e0 es ih=>
   intro i e hc he j x hx
   simp only [flat,List.flatMap_cons]
   have hl0:=hc e0 (by simp)
   cases i with
   | zero=>simp at he; subst he; rw [Nat.zero_mul,Nat.zero_add,zqA (getL hx)]; exact hx
   | succ i=>
    simp at he
    rw [zqB (by rw [hl0,Nat.add_mul]; omega),hl0]
    have:=ih i e (fun e he=>hc e (by simp [he])) he j x hx
    rw [show (i+1) * s+j - s=i * s+j by rw [Nat.add_mul]; omega]; exact this
 have hmain:∀ (es:List AV) (b p c s:Nat) (vs:Nat→Value) (ad:Option Addr) (e:AV),(∀ e∈es,e.clo=true∧e.cells.length=s)→0<s→(es=[]∨ad=some ⟨b,p,none⟩)→(∀ (i:Nat) x,(flat es)[i]?=some x→g.M b (p+i)=some (vs i))→(∀ (i:Nat) x,(flat es)[i]?=some x→VR g x (vs i)) →
   es[m.toNat]?=some e→e.cells.length=sz→OpOut bs g ow σ w (Sem.run P (do pure (Next.value (← Instr.indexAt t (.slice ad es.length c) (.int k m)))) w) (.iptr e.cells 0) σ:=by
  intro es b p c s vs ad e hc hs0 ha hM hV he hsz
  have hlt:=getL he
  have hem:=zqR he
  have hss:s=sz:=by rw [←hsz]; exact (hc e hem).2.symm
  subst hss
  rcases ha with rfl | rfl
  ·simp at hlt
  have hcl:∀ x∈e.cells,x.clo1=true:=fun x hx=>by
   have:=(hc e hem).1
   cases e <;> simp_all [AV.cells,AV.clo,AV.clo1]
  refine OpOut.pure h (cv:=.pointer (some ⟨b,p+m.toNat * s+0,none⟩)) ?_ (.iptr (fun j=>vs (m.toNat * s+j)) hcl (fun j x hx=>?_) (fun j x hx=>?_))
  ·have hm:m<(es.length:Int):=by omega
   simp [Instr.indexAt,asIntOf,run_und ht,h0,hm,run_sizeT hs,addr_add]
  ·rw [Nat.add_assoc]; exact hM _ _ (hflat es s _ e (fun e he=>(hc e he).2) he j x hx)
  ·exact hV _ _ (hflat es s _ e (fun e he=>(hc e he).2) he j x hx)
 cases hx <;> simp only at hv <;> try (cases hv; done)
 ·rename_i es cap0 ad c b p s vs hc hs0 ha hcap hn hM hV
  obtain ⟨e,he,hv⟩:=zqH.1 hv
  split at hv
  ·rename_i hsz; injection hv with hv; subst hv
   exact hmain es b p c s vs ad e hc hs0 ha hM hV he hsz
  ·cases hv
 ·rename_i id es c b p s vs hc hs0 hp hn hM hV
  obtain ⟨e,he,hv⟩:=zqH.1 hv
  split at hv
  ·rename_i hsz; injection hv with hv; subst hv
   exact hmain es b p c s vs _ e hc hs0 (.inr rfl) hM hV he hsz
  ·cases hv
 ·rename_i id off len sz' ag b c cc hp hcc hs0 hl
  split at hv
  ·rename_i hcond; obtain ⟨hm,rfl⟩:=hcond
   injection hv with hv; subst hv
   refine OpOut.pure h (cv:=.pointer (some ⟨b,off+m.toNat * sz,none⟩)) ?_ (.ptr hp)
   simp [Instr.indexAt,asIntOf,run_und ht,h0,hm,run_sizeT hs,addr_add]
  ·cases hv
theorem s_iaddrA (h:HR g ow σ w) {t e:TypeId} {n sz:Nat} (ht:P.underlying t=some (.array n e)) (hs:sizeT P e=some sz) {id off:Nat} {cv:Value} (hx:VR g (.ptr id off) cv) {k:IntKind} {m:Int} (h0:0≤m) (h1:m<n) :
  OpOut bs g ow σ w (Sem.run P (do pure (Next.value (← Instr.indexAt t cv (.int k m)))) w) (.ptr id (off+m.toNat * sz)) σ:=by
 cases hx with
 | @ptr _ _ b c hp=>
  refine OpOut.pure h (cv:=.pointer (some ⟨b,off+m.toNat * sz,none⟩)) ?_ (.ptr hp)
  simp [Instr.indexAt,asIntOf,run_und ht,Instr.sureAddr,h0,h1,run_sizeT hs,addr_add]
theorem s_iaddrAi (h:HR g ow σ w) {t e:TypeId} {n sz:Nat} (ht:P.underlying t=some (.array n e)) (hs:sizeT P e=some sz) {cs:List AV} {off:Nat} {cv:Value} (hx:VR g (.iptr cs off) cv) {k:IntKind} {m:Int} (h0:0≤m) (h1:m<n) :
  OpOut bs g ow σ w (Sem.run P (do pure (Next.value (← Instr.indexAt t cv (.int k m)))) w) (.iptr cs (off+m.toNat * sz)) σ:=by
 cases hx with
 | @iptr _ _ b p vs hc hM hV=>
  refine OpOut.pure h (cv:=.pointer (some ⟨b,p+(off+m.toNat * sz),none⟩)) ?_ (.iptr vs hc hM hV)
  simp [Instr.indexAt,asIntOf,run_und ht,Instr.sureAddr,h0,h1,run_sizeT hs,addr_add,Nat.add_assoc]
theorem s_rng {t:TypeId} (ht:P.underlying t=some .string) {s:ByteArray}:NewRes g w (Sem.run P (do pure (Next.value (← Instr.range t (.string s)))) w) (fun id=>.ptr id 0) (.iter s 0):=
 ⟨w.alloc (.stringIter s 0),_,0,.pointer (some ⟨w.heap.size,0,none⟩),by simp [Instr.range,run_und ht],rfl,⟨rfl,rfl,rfl⟩,fun cs fz ext e=>(by cases e),fun s' pos e=>(by injection e with e1 e2; subst e1 e2; rfl),fun n s e=>(by cases e),fun g' id hp=>.ptr hp,fun hsp=>(by cases hsp)⟩
theorem s_nxt (h:HR g ow σ w) {id:Nat} {cv:Value} (hx:VR g (.ptr id 0) cv) {s:ByteArray} {pos:Nat} (hσ:σ[id]?=some (.iter s pos)) {ty:TypeId} :
  OpOut bs g ow σ w (Sem.run P (do pure (Next.value (← Instr.next cv true ty))) w) (if pos<s.size then .tup [.bool true,.int .i64 (pos:Int),.int .i32 (Utf8.decode s pos).1] else .tup [.bool false])
   (if pos<s.size then σ.set id (.iter s (pos+(Utf8.decode s pos).2)) else σ):=by
 cases hx with
 | @ptr _ _ b c hp=>
  obtain ⟨k0,k1⟩:=h.it id s pos hσ b c hp
  have hgo:∀ (r:Obj),(Sem.run P (getObj b) w)=.ok (.stringIter s pos) w:=fun _=>by
   simp only [getObj,Sem.run,k0]
  have hgo:=hgo (.stringIter s pos)
  by_cases hlt:pos<s.size
  ·rw [if_pos hlt,if_pos hlt]
   let w':World:={w with heap:=w.heap.setIfInBounds b (.stringIter s (pos+(Utf8.decode s pos).2))}
   have hset:(setObj b (.stringIter s (pos+(Utf8.decode s pos).2))).run P w=.ok () w':=by simp only [setObj,Sem.run,k0]; rfl
   obtain ⟨hH,hS⟩:=h.iterSet (bs:=bs) (w':=w') hσ hp rfl ⟨rfl,rfl,rfl⟩
   refine ⟨g,ow,w',.tuple #[.bool true,goInt pos,.int .i32 (Utf8.decode s pos).1],.inl ?_,?_,hH,hS⟩
   ·simp only [Instr.next,Sem.run_bind,hgo,Result.andThen_ok,if_pos hlt,hset,Sem.run_pure]
   ·refine .tup rfl fun i x v hx hv=>?_
    match i,hx,hv with
    | 0,hx,hv=>simp at hx hv; subst hx hv; exact .bool _
    | 1,hx,hv=>simp at hx hv; subst hx hv; exact .int ..
    | 2,hx,hv=>simp at hx hv; subst hx hv; exact .int ..
    | n+3,hx,hv=>simp at hx
  ·rw [if_neg hlt,if_neg hlt]
   refine OpOut.pure h (cv:=.tuple #[.bool false]) ?_ (.tup rfl fun i x v hx hv=>?_)
   ·simp only [Instr.next,Sem.run_bind,hgo,Result.andThen_ok,if_neg hlt,Sem.run_pure]
   ·match i,hx,hv with
    | 0,hx,hv=>simp at hx hv; subst hx hv; exact .bool _
    | n+1,hx,hv=>simp at hx
theorem s_extract (h:HR g ow σ w) {vs:List AV} {cv:Value} (hx:VR g (.tup vs) cv) {i:Nat} (hi:vs[i]?=some v):OpOut bs g ow σ w (Sem.run P (do pure (Next.value (← Instr.extract cv i))) w) v σ:=by
 cases hx with
 | @tup _ us hl hV=>
  have hlt:i<us.size:=by rw [←hl]; exact getL hi
  have hg:=Array.getElem?_eq_getElem hlt
  exact OpOut.pure h (by simp only [Instr.extract,hg,Sem.run_bind]; rfl) (hV i v _ hi hg)
theorem VR.intv0 {k:IntKind} {n:Int} {c:Value} (h:VR g (.int k n) c):c=.int k n:=by cases h; rfl
theorem run_max2 (k k':IntKind) (a b:Int) (w:World):(Builtin.max2 (.int k a) (.int k' b)).run P w=.ok (.int k (if b > a then b else a)) w:=rfl
theorem run_maxL (hR:RR g ρ a.tmps) {k:IntKind} (w:World):∀ (l:List Operand) (xs:List AX) (n m:Int),l.mapM cx=some xs→maxF n (xs.map (ev ρ))=some m→(List.foldlM Builtin.max2 (.int k n) (l.map a.eval)).run P w=.ok (.int k m) w
 | [],xs,n,m,hm,h=>by
  simp only [List.mapM_nil,Option.pure_def,Option.some.injEq] at hm; subst hm
  simp only [List.map_nil,maxF,Option.some.injEq] at h; subst h; rfl
 | x :: l,xs,n,m,hm,h=>by
  simp only [List.mapM_cons,zqK,zqH,Option.pure_def,Option.some.injEq] at hm
  obtain ⟨ax,hx,ys,hy,rfl⟩:=hm
  have hv:=ev_VR hR hx
  simp only [List.map_cons] at h
  generalize ev ρ ax=q at hv h
  cases q with
  | int k' b=>
   simp only [maxF] at h
   rw [List.map_cons,hv.intv0,List.foldlM_cons,Sem.run_bind,run_max2,Result.andThen_ok]
   exact run_maxL hR w l ys _ m hy h
  | _=>simp [maxF] at h
theorem s_max (h:HR g ow σ w) (hR:RR g ρ a.tmps) {t:Array TypeId} {ty:TypeId} {l:List Operand} {xs:List AX} (hm:l.mapM cx=some xs) {v:AV} (hv:maxA (xs.map (ev ρ))=some v) :
  OpOut bs g ow σ w (Sem.run P (do pure (Next.value (← Builtin.max_ t ty (l.map a.eval).toArray))) w) v σ:=by
 cases l with
 | nil=>
  simp only [List.mapM_nil,Option.pure_def,Option.some.injEq] at hm; subst hm
  simp [maxA] at hv
 | cons x l=>
  simp only [List.mapM_cons,zqK,zqH,Option.pure_def,Option.some.injEq] at hm
  obtain ⟨ax,hx,ys,hy,rfl⟩:=hm
  have hvx:=ev_VR hR hx
  simp only [List.map_cons] at hv
  generalize ev ρ ax=q at hvx hv
  cases q with
  | int k n=>
   simp only [maxA] at hv
   obtain ⟨m,hm,rfl⟩:=zqG.1 hv
   have hr:=run_maxL (P:=P) (k:=k) hR w l ys n m hy hm
   refine OpOut.pure h (cv:=.int k m) ?_ (.int ..)
   simp only [Builtin.max_,List.map_cons,Sem.run_bind,hvx.intv0,hr,Result.andThen_ok,Sem.run_pure]
  | _=>simp [maxA] at hv
theorem s_min2 (h:HR g ow σ w) {t:Array TypeId} {ty:TypeId} {k k':IntKind} {x y:Int}:OpOut bs g ow σ w (Sem.run P (do pure (Next.value (← Builtin.min_ t ty #[.int k x,.int k' y]))) w) (.int k (if y<x then y else x)) σ:=
 OpOut.pure h (by simp [Builtin.min_,Builtin.min2]) (.int ..)
theorem s_mkfn (h:HR g ow σ w) (hR:RR g ρ a.tmps) {f:Nat} {caps:List Operand} {xs:List AX} (hc:caps.mapM cx=some xs) :
  OpOut bs g ow σ w (Sem.run P (do pure (Next.value (← Instr.makeFunc (.func f) #[] (caps.map a.eval).toArray))) w) (.func f (xs.map (ev ρ))) σ:=by
 have hm:∀ (caps:List Operand) (xs:List AX),caps.mapM cx=some xs→xs.length=caps.length∧∀ (i:Nat) x o,xs[i]?=some x→caps[i]?=some o→VR g (ev ρ x) (a.eval o):=by
  intro caps
  induction caps with
  | nil=>intro xs h; simp at h; subst h; exact ⟨rfl,fun i x o hx=>by simp at hx⟩
  | cons c caps ih=>
   intro xs h
   rw [List.mapM_cons] at h
   simp only [zqK,zqH,Option.pure_def] at h
   obtain ⟨x,hx,ys,hys,e⟩:=h
   injection e with e; subst e
   obtain ⟨h1,h2⟩:=ih ys hys
   refine ⟨by simp [h1],fun i y o hy ho=>?_⟩
   cases i with
   | zero=>simp at hy ho; subst hy ho; exact ev_VR hR hx
   | succ i=>simp at hy ho; exact h2 i y o hy ho
 obtain ⟨h1,h2⟩:=hm caps xs hc
 refine OpOut.pure h (cv:=.func (.func f) #[] (caps.map a.eval).toArray) (by simp [Instr.makeFunc]) (.func (by simp [h1]) fun i x v hx hv=>?_)
 simp only [List.getElem?_map] at hx
 obtain ⟨y,hy,rfl⟩:=zqG.1 hx
 simp only [List.getElem?_toArray,List.getElem?_map] at hv
 obtain ⟨o,ho,rfl⟩:=zqG.1 hv
 exact h2 i y o hy ho
theorem s_mkmeth (h:HR g ow σ w) (hR:RR g ρ a.tmps) {f:Nat} {caps:List Operand} {xs:List AX} (hc:caps.mapM cx=some xs) :
  OpOut bs g ow σ w (Sem.run P (do pure (Next.value (← Instr.makeFunc (.func f) (caps.map a.eval).toArray #[]))) w) (.meth f (xs.map (ev ρ))) σ:=by
 have hm:∀ (caps:List Operand) (xs:List AX),caps.mapM cx=some xs→xs.length=caps.length∧∀ (i:Nat) x o,xs[i]?=some x→caps[i]?=some o→VR g (ev ρ x) (a.eval o):=by
  intro caps
  induction caps with
  | nil=>intro xs h; simp at h; subst h; exact ⟨rfl,fun i x o hx=>by simp at hx⟩
  | cons c caps ih=>
   intro xs h
   rw [List.mapM_cons] at h
   simp only [zqK,zqH,Option.pure_def] at h
   obtain ⟨x,hx,ys,hys,e⟩:=h
   injection e with e; subst e
   obtain ⟨h1,h2⟩:=ih ys hys
   refine ⟨by simp [h1],fun i y o hy ho=>?_⟩
   cases i with
   | zero=>simp at hy ho; subst hy ho; exact ev_VR hR hx
   | succ i=>simp at hy ho; exact h2 i y o hy ho
 obtain ⟨h1,h2⟩:=hm caps xs hc
 refine OpOut.pure h (cv:=.func (.func f) (caps.map a.eval).toArray #[]) (by simp [Instr.makeFunc]) (.meth (by simp [h1]) fun i x v hx hv=>?_)
 simp only [List.getElem?_map] at hx
 obtain ⟨y,hy,rfl⟩:=zqG.1 hx
 simp only [List.getElem?_toArray,List.getElem?_map] at hv
 obtain ⟨o,ho,rfl⟩:=zqG.1 hv
 exact h2 i y o hy ho
theorem s_mksl {t e:TypeId} {sz bytes:Nat} {ag:Bool} (ht:P.underlying t=some (.slice e)) (hs:sizeT P e=some sz) {zs:List AV} (hz:zeroT P e=some zs) (hb:(P.info? e).map (·.bytes)=some bytes) (hzl:zs.length=sz) (h0:0<sz) {n:Int} (hn:0≤n) (hnb:n * bytes≤70368744177664) (hn2:n≤70368744177664) :
  NewRes g w (Sem.run P (do pure (Next.value (← Instr.makeSlice t (.int .i64 n) (.int .i64 n)))) w) (fun id=>.sl id 0 n.toNat sz ag) (.cells ((List.replicate n.toNat zs).flatten) 0 false):=by
 obtain ⟨m,rfl⟩:=Int.eq_ofNat_of_zero_le hn
 obtain ⟨z,hr,hl,hv⟩:=run_zeroT hz
 obtain ⟨i,hi,rfl⟩:=zqG.1 hb
 obtain ⟨hrl,hrv⟩:=rep_get (g:=g) (n:=m) hzl h0 hl (fun i x hx=>hv g i x hx)
 have hwrap:IntKind.i64.wrap (m:Int)=m:=by
  simp only [IntKind.wrap,IntKind.signed,IntKind.bits]
  have:(m:Int) % (2 ^ 64:Int)=m:=Int.emod_eq_of_lt (by omega) (by omega)
  simp [this]; omega
 have hget:∀ j,j<m * sz→((Array.range (m * sz)).map fun i=>z.cells[i % z.cells.size]!)[j]?=z.cells[j % sz]?:=fun j hj=>by
  have hzs:z.cells.size=sz:=by omega
  have:j % sz<z.cells.size:=by rw [hzs]; exact Nat.mod_lt _ h0
  simp [hj,hzs,getElem!_pos z.cells (j % sz) this,Array.getElem?_eq_getElem this]
 refine out_new (t:=e) (cv:=(Array.range (m * sz)).map fun i=>z.cells[i % z.cells.size]!) (mkv:=fun x=>.slice (some x) m m) (by simp [hrl]) (fun i x hx=>by
  obtain ⟨h1,h2,h3⟩:=hrv i x hx; exact ⟨h2,by rw [hget i h1]; exact h3⟩) ?_ fun g' id hp=>.sl hp (by simp [hrl]) h0 (Nat.le_refl _)
 by_cases hm0:m * sz=0
 ·have:m=0:=by rcases Nat.mul_eq_zero.1 hm0 with h | h <;> omega
  subst this
  have hwrap':IntKind.i64.wrap 0=0:=by simpa using hwrap
  have e0:∀ f:Nat→Value,(Array.range 0).map f=#[]:=fun f=>by apply Array.ext'; simp [Array.range]
  simp [Instr.makeSlice,run_und ht,asInt,asIntOf,typeInfo,hi,hwrap',run_sizeT hs,newRow,e0]
 ·simp [Instr.makeSlice,run_und ht,asInt,asIntOf,typeInfo,hi,hwrap,run_sizeT hs,newRow,hm0,hr]
  intro hh
  exfalso
  have h1:(i.bytes:Int) * m=m * i.bytes:=Int.mul_comm ..
  omega
end
end Go.Mach
end
section
namespace Go.Mach
open Go.RowKit
section
variable {P:Program} {bs:Nat} {g:Gh} {ow:Nat→Option Nat} {σ σ':Heap} {w:World} {ρ:Regs} {a:Act} {v:AV}
structure Src (P:Program) (w:World) (x:Value) (sz k:Nat) (news:List Value):Prop where
 len:∀ w',(Builtin.lenOf x).run P w'=.ok k w'
 cells:∀ w',w'.heap=w.heap→(Builtin.firstCells sz k x).run P w'=.ok news.toArray w'
 nlen:news.length=k * sz
theorem SlRd.src {ad:Option Addr} {n c sz:Nat} {cs:List AV} {us:List Value} (h:SlRd g w ad cs us) (hl:cs.length=n * sz):Src P w (.slice ad n c) sz n us:=by
 refine ⟨fun w'=>by simp [Builtin.lenOf],fun w' hw=>?_,by rw [h.len,hl]⟩
 have hul:us.length=n * sz:=by rw [h.len,hl]
 cases ad with
 | none=>
  have:us=[]:=by
   rcases Nat.eq_zero_or_pos us.length with h0 | h0
   ·exact List.eq_nil_of_length_eq_zero h0
   ·obtain ⟨b,p,hbp,_⟩:=h.at_ h0; cases hbp
  subst this; simp [Builtin.firstCells]
 | some ad=>
  refine run_firstCells_some w' sz n ad n c us hul fun j u hu=>?_
  obtain ⟨b,p,hbp,hc⟩:=h.at_ (by have:=getL hu; omega)
  injection hbp with hbp; subst hbp
  rw [addr_add,cell_congr (w:=w) (by rw [hw])]; exact hc j u hu
theorem str_src {s:ByteArray} {sz:Nat} (hsz:sz=1):Src P w (.string s) sz s.size (s.data.toList.map fun b=>Value.int .u8 (b.toNat:Int)):=by
 subst hsz
 refine ⟨fun w'=>by simp [Builtin.lenOf],fun w' _=>?_,by simp⟩
 simp only [Builtin.firstCells,Sem.run_pure]
 congr 1
 have hx:(s.extract 0 s.size).data=s.data:=by
  rw [ByteArray.data_extract]
  exact Array.extract_size
 rw [hx]
 apply Array.ext'
 simp
def roomOk (need bytes:Nat):Prop:=need * bytes≤70368744177664∧need≤70368744177664
theorem run_app_grow {t u ty e:TypeId} {i:TypeInfo} {z:Value} (ht:P.underlying t=some (.slice e)) (hu:P.underlying u=some .string∨∃ e',P.underlying u=some (.slice e')) (hi:P.info? e=some i) (hz:∀ w,(zeroValue e).run P w=.ok z w)
  {ad:Option Addr} {n c k:Nat} {x:Value} {olds news:List Value} (ho:Src P w (.slice ad n c) i.size n olds) (hn:Src P w x i.size k news) (hg:c<n+k) (hr:roomOk (n+k) i.bytes) :
  ∃ cap w1,n+k≤cap∧(Builtin.append_ #[t,u] ty #[.slice ad n c,x]).run P w=.ok (.slice (some ⟨w.heap.size,0,none⟩) (n+k) cap) w1 ∧
   w1.heap=w.heap.push (.cells (olds.toArray++news.toArray++Builtin.zeroCells z.cells (cap - (n+k))) e (0,0))∧Same w w1:=by
 have h1:¬ (n+k≤c):=by omega
 have h2:¬ (9223372036854775807<((n:Int)+(k:Int))):=by have:=hr.2; omega
 have h3:¬ (281474976710656<Builtin.nextslicecap (n+k) c * i.bytes):=by
  have:=growslice_fits (need:=n+k) (old:=c) (bytes:=i.bytes) hg (by have:=hr.1; omega); omega
 have hc1:=ho.cells w.drew rfl
 have hc2:=hn.cells w.drew rfl
 have hl:=hn.len
 refine ⟨grownCap w (n+k) c e,w.drew.alloc (.cells (olds.toArray++news.toArray++Builtin.zeroCells z.cells (grownCap w (n+k) c e - (n+k))) e),by simp [grownCap,Question.cut],?_,rfl,⟨rfl,rfl,rfl⟩⟩
 rcases hu with hu | ⟨e',hu⟩
 ·simp [Builtin.append_,run_und ht,run_und hu,sizeOf,typeInfo,hi,hz,hl,h1,h2,h3,Question.forced,hc1,hc2,newRow,grownCap]
  congr 2
  apply Array.ext'
  simp [zqP]
 ·simp [Builtin.append_,run_und ht,run_und hu,sizeOf,typeInfo,hi,hz,hl,h1,h2,h3,Question.forced,hc1,hc2,newRow,grownCap]
  congr 2
  apply Array.ext'
  simp [zqP]
theorem run_app_fits {t u ty e:TypeId} {i:TypeInfo} (ht:P.underlying t=some (.slice e)) (hu:P.underlying u=some .string∨∃ e',P.underlying u=some (.slice e')) (hi:P.info? e=some i)
  {ad:Option Addr} {n c k:Nat} {x:Value} {news:List Value} (hn:Src P w x i.size k news) (hg:n+k≤c) :
  (Builtin.append_ #[t,u] ty #[.slice ad n c,x]).run P w=(match ad with
   | none=>.ok (.slice none (n+k) c) w
   | some ad=>((storeCells (ad.add (n * i.size)) news).run P w).andThen fun _ w'=>.ok (.slice (some ad) (n+k) c) w'):=by
 have hc2:=hn.cells w rfl
 have hl:=hn.len
 rcases hu with hu | ⟨e',hu⟩ <;> cases ad <;>
  simp [Builtin.append_,run_und ht,run_und hu,sizeOf,typeInfo,hi,hl,hg,hc2]
end
end Go.Mach
end
section
namespace Go.Mach
open Go.RowKit
section
variable {P:Program} {bs:Nat} {g:Gh} {ow:Nat→Option Nat} {σ σ':Heap} {w:World} {ρ:Regs} {a:Act} {v:AV}
theorem okEl_all {es:List AV} {sz:Nat} {ag:Bool} (h:es.all (okEl sz ag)=true):∀ e∈es,e.clo=true∧e.cells.length=sz:=fun e he=>by
 have:=zqQ.1 h e he
 simp only [okEl,zqL,decide_eq_true_eq] at this
 exact this.1
theorem flat_u8s (s:ByteArray):flat (u8s s)=u8s s:=by
 simp only [flat,u8s,List.flatMap_map]; rw [←List.flatMap_singleton' (List.map _ _),List.flatMap_map]; rfl
theorem x_src (h:HR g ow σ w) {x:AV} {cx:Value} (hx:VR g x cx) {sz:Nat} {ag:Bool} {xs:List AV} (he:elemsN σ sz ag x=some xs) (hne:xs≠[]) (hl:(flat xs).length=xs.length * sz) :
  ∃ news,Src P w cx sz xs.length news∧∀ (j:Nat) y,(flat xs)[j]?=some y→y.cellv=true∧∃ u,news[j]?=some u∧VR g y u:=by
 by_cases hst:∃ s,x=.str s
 ·obtain ⟨s,rfl⟩:=hst
  simp only [elemsN,elemsA] at he; injection he with he; subst he
  cases hx
  rw [flat_u8s,u8s_length] at hl
  have hp:0<s.size:=by
   rcases Nat.eq_zero_or_pos s.size with h0 | h0
   ·exact absurd (List.eq_nil_of_length_eq_zero (by rw [u8s_length]; exact h0)) hne
   ·exact h0
  have hsz:sz=1:=by
   have:s.size * 1=s.size * sz:=by rw [Nat.mul_one]; exact hl
   exact (Nat.eq_of_mul_eq_mul_left hp this).symm
  rw [u8s_length]
  refine ⟨_,str_src hsz,fun j y hy=>?_⟩
  rw [flat_u8s] at hy
  obtain ⟨b,hb,rfl⟩:=u8s_get hy
  exact ⟨rfl,_,by simp [hb],.int ..⟩
 ·obtain ⟨ad,n,c,us,rfl,rfl,hus,_⟩:=elemsN_sound h hx he (fun s e=>hst ⟨s,e⟩)
  exact ⟨us,hus.src hl,hus.val⟩
theorem x_nil (h:HR g ow σ w) {x:AV} {cx:Value} (hx:VR g x cx) {sz:Nat} {ag:Bool} (he:elemsN σ sz ag x=some []):Src P w cx sz 0 []:=by
 by_cases hst:∃ s,x=.str s
 ·obtain ⟨s,rfl⟩:=hst
  simp only [elemsN,elemsA] at he; injection he with he
  cases hx
  have hs:s.size=0:=by rw [←u8s_length,he]; rfl
  refine ⟨fun w'=>by simp [Builtin.lenOf,hs],fun w' _=>?_,by simp⟩
  simp only [Builtin.firstCells,Sem.run_pure]
  congr 1
  apply Array.ext'
  simp [ByteArray.data_extract]
 ·obtain ⟨ad,n,c,us,rfl,hn,hus,_⟩:=elemsN_sound h hx he (fun s e=>hst ⟨s,e⟩)
  have h1:=hus.src (P:=P) (c:=c) (n:=0) (sz:=sz) (by simp [flat])
  have h2:us=[]:=List.eq_nil_of_length_eq_zero (by rw [hus.len]; simp [flat])
  subst h2
  simp at hn; subst hn; exact h1
theorem app_vals {es xs:List AV} {olds news:List Value} {r:Array Value} (ho:olds.length=(flat es).length) (h1:∀ (j:Nat) y,(flat es)[j]?=some y→y.cellv=true∧∃ u,olds[j]?=some u∧VR g y u)
  (h2:∀ (j:Nat) y,(flat xs)[j]?=some y→y.cellv=true∧∃ u,news[j]?=some u∧VR g y u) :
  ∀ (j:Nat) y,(flat es++flat xs)[j]?=some y→y.cellv=true∧∃ u,(olds.toArray++news.toArray++r)[j]?=some u∧VR g y u:=by
 intro j y hy
 have hap:∀ u,(olds++news)[j]?=some u→(olds.toArray++news.toArray++r)[j]?=some u:=fun u hu=>by
  rw [Array.getElem?_append_left (by simpa using getL hu)]; simpa using hu
 rcases Nat.lt_or_ge j (flat es).length with hl | hl
 ·rw [zqA hl] at hy
  obtain ⟨a1,u,hu,hV⟩:=h1 j y hy
  exact ⟨a1,u,hap u (by rw [zqA (by omega)]; exact hu),hV⟩
 ·rw [zqB hl] at hy
  obtain ⟨a1,u,hu,hV⟩:=h2 _ y hy
  exact ⟨a1,u,hap u (by rw [zqB (by omega),ho]; exact hu),hV⟩
theorem zeroCells_size (z:Array Value) (n:Nat):(Builtin.zeroCells z n).size=n * z.size:=by simp [Builtin.zeroCells]
theorem app_out (h:HR g ow σ w) {es xs:List AV} {sz need cap:Nat} {ag:Bool} (hneed:need=es.length+xs.length) (hcap:need≤cap) (h0:0<sz) {cv:Array Value} {tag:TypeId} {w1:World}
  (hw:w1.heap=w.heap.push (.cells cv tag (0,0))) (hs:Same w w1) (hcv:cv.size=cap * sz)
  (hvals:∀ (j:Nat) y,(flat es++flat xs)[j]?=some y→y.cellv=true∧∃ u,cv[j]?=some u∧VR g y u) {r:Result Next} (hr:r=.ok (.value (.slice (some ⟨w.heap.size,0,none⟩) need cap)) w1) :
  (xs.all (okEl sz ag)=true→es.all (okEl sz ag)=true→(∀ id σ',(id=σ.length∧σ'=σ++[.tok need sz])∨(∃ n0,σ[id]?=some (.tok n0 sz)∧n0<need∧σ'=σ.set id (.tok need sz))→OpOut bs g ow σ w r (.own id (es++xs)) σ')) ∧
  ((flat es).length=es.length * sz→(flat xs).length=xs.length * sz→OpOut bs g ow σ w r (.sl σ.length 0 need sz ag) (σ++[.cells (flat es++flat xs) 0 true])):=by
 refine ⟨fun hx he id σ' hσ'=>?_,fun hle hlx=>?_⟩
 ·have hc:∀ e∈es++xs,e.clo=true∧e.cells.length=sz:=fun e hm=>by
   rcases List.mem_append.1 hm with hm | hm
   ·exact okEl_all he e hm
   ·exact okEl_all hx e hm
  obtain ⟨hle,hH,hS⟩:=h.tokNew (bs:=bs) (n:=need) (s:=sz) (c:=cap) hw hs hσ' (by omega) hcap
  refine ⟨_,_,w1,_,.inl hr,?_,hH,hS⟩
  have hneed':need=(es++xs).length:=by simp [hneed]
  have hfl:(flat (es++xs)).length=need * sz:=by rw [flat_length (s:=sz) (fun e he=>(hc e he).2),←hneed']
  have hsize:need * sz≤cv.size:=by rw [hcv]; exact Nat.mul_le_mul_right _ hcap
  have:=own_VR (g:=g.tk id need w.heap.size 0 cap 0 (need * sz) cv) (id:=id) (es:=es++xs) (b:=w.heap.size) (p:=0) (c:=cap) hc h0 (by rw [←hneed']; simp [Gh.tk]) (by omega) (fun i x hx=>by
   rw [flat_append] at hx
   obtain ⟨_,u,hu,hV⟩:=hvals i x hx
   have hi:i<need * sz:=by rw [←hfl,flat_append]; exact getL hx
   refine ⟨u,?_,hV.mono hle⟩
   simp only [Gh.tk]; rw [Nat.zero_add,if_pos (by simp; omega)]; exact hu)
  rw [←hneed'] at this; exact this
 ·have hfl:(flat es++flat xs).length=need * sz:=by rw [zqJ,hle,hlx,hneed,Nat.add_mul]
  obtain ⟨g',ow',hp,hH,hS⟩:=h.new (bs:=bs) (w':=w1) (cs:=flat es++flat xs) (cv:=cv) (tag:=tag) (fr:=(0,0)) hw hs true (cap * sz) (by rw [hfl]; exact Nat.mul_le_mul_right _ hcap) (by omega) (fun hh=>by cases hh) hvals (fun i _=>by simp)
  exact ⟨g',ow',w1,_,.inl hr,.sl hp (by simp) h0 hcap,hH,hS⟩
theorem s_append (h:HR g ow σ w) {t u ty e:TypeId} {i:TypeInfo} (ht:P.underlying t=some (.slice e)) (hu:P.underlying u=some .string∨∃ e',P.underlying u=some (.slice e')) (hi:P.info? e=some i)
  {sz:Nat} {ag mt:Bool} (hsz:i.size=sz) {zs:List AV} (hz:zeroT P e=some zs) (hzl:zs.length=sz) {s x:AV} {cs cx:Value} (hs:VR g s cs) (hx:VR g x cx)
  (hap:appendA σ sz ag i.bytes mt s x=some (v,σ')):OpOut bs g ow σ w (Sem.run P (do pure (Next.value (← Builtin.append_ #[t,u] ty #[cs,cx]))) w) v σ':=by
 obtain ⟨z,hzr,hzs,_⟩:=run_zeroT hz
 subst hsz
 unfold appendA at hap
 obtain ⟨xs,hxs,hap1⟩:=zqH.1 hap
 clear hap
 obtain ⟨es,hes,hap⟩:=zqH.1 hap1
 clear hap1
 by_cases hsl:isSl s=false
 ·rw [if_pos hsl] at hap; cases hap
 rw [if_neg hsl] at hap
 have hns:∀ str,s≠.str str:=fun str e=>by subst e; simp [isSl] at hsl
 obtain ⟨ad,n,c,olds,rfl,rfl,hold,hnc⟩:=elems_sound h hs hes hns
 by_cases hx0:xs=[]
 ·rw [if_pos hx0] at hap; subst hx0
  injection hap with hap; injection hap with e1 e2; subst e1 e2
  have hsrc:=x_nil (P:=P) h hx hxs
  have hrun:=run_app_fits (P:=P) (ty:=ty) ht hu hi (ad:=ad) (n:=es.length) (c:=c) hsrc (by omega)
  refine OpOut.pure h ?_ hs
  cases ad <;> simp [hrun,storeCells]
 rw [if_neg hx0] at hap
 by_cases hroom:i.size=0∨(es.length+xs.length) * i.bytes > 70368744177664∨es.length+xs.length > 70368744177664
 ·rw [if_pos hroom] at hap; cases hap
 rw [if_neg hroom] at hap
 have hxp:0<xs.length:=by cases xs with | nil=>exact absurd rfl hx0 | cons=>simp
 have hsz0:0<i.size:=by omega
 have hrm:roomOk (es.length+xs.length) i.bytes:=⟨by omega,by omega⟩
 have hgrow:(flat es).length=es.length * i.size→(flat xs).length=xs.length * i.size→c<es.length+xs.length →
   (xs.all (okEl i.size ag)=true→es.all (okEl i.size ag)=true→(∀ id σ',(id=σ.length∧σ'=σ++[.tok (es.length+xs.length) i.size])∨(∃ n0,σ[id]?=some (.tok n0 i.size)∧n0<es.length+xs.length∧σ'=σ.set id (.tok (es.length+xs.length) i.size)) →
    OpOut bs g ow σ w (Sem.run P (do pure (Next.value (← Builtin.append_ #[t,u] ty #[.slice ad es.length c,cx]))) w) (.own id (es++xs)) σ')) ∧
   OpOut bs g ow σ w (Sem.run P (do pure (Next.value (← Builtin.append_ #[t,u] ty #[.slice ad es.length c,cx]))) w) (.sl σ.length 0 (es.length+xs.length) i.size ag) (σ++[.cells (flat es++flat xs) 0 true]):=by
  intro hle hlx hg
  obtain ⟨news,hnew,hnv⟩:=x_src (P:=P) h hx hxs hx0 hlx
  obtain ⟨cap,w1,hcap,hr,hw,hsm⟩:=run_app_grow (ty:=ty) ht hu hi hzr (hold.src (c:=c) hle) hnew hg hrm
  have hcv:(olds.toArray++news.toArray++Builtin.zeroCells z.cells (cap - (es.length+xs.length))).size=cap * i.size:=by
   have hz2:z.cells.size=i.size:=by omega
   simp [hold.len,hle,hnew.nlen,zeroCells_size,hz2]
   rw [←Nat.add_mul,←Nat.add_mul,Nat.add_sub_cancel' hcap]
  have:=app_out (bs:=bs) (ag:=ag) h rfl hcap hsz0 hw hsm hcv (app_vals hold.len hold.val hnv) (r:=Sem.run P (do pure (Next.value (← Builtin.append_ #[t,u] ty #[.slice ad es.length c,cx]))) w) (by simp only [Sem.run_bind,hr,Result.andThen_ok,Sem.run_pure])
  exact ⟨this.1,this.2 hle hlx⟩
 have hfl:∀ {l:List AV},l.all (okEl i.size ag)=true→(flat l).length=l.length * i.size:=fun hl=>flat_length fun e he=>(okEl_all hl e he).2
 cases s with
 | isl es' cap0=>
  cases cap0 with
  | false=>cases hap
  | true=>
  simp only [elemsA] at hes; injection hes with hes; subst hes
  simp only at hap
  have hcc:c=es'.length:=by
   cases hs with
   | isl _ _ _ _ hcap=>exact hcap rfl
  split at hap
  ·split at hap
   ·rename_i hc; injection hap with hap; injection hap with e1 e2; subst e1 e2
    exact (hgrow hc.2 hc.1 (by omega)).2
   ·cases hap
  ·split at hap
   ·rename_i hc; injection hap with hap; injection hap with e1 e2; subst e1 e2
    exact (hgrow (hfl hc.2) (hfl hc.1) (by omega)).1 hc.1 hc.2 _ _ (.inl ⟨rfl,rfl⟩)
   ·cases hap
 | own id es'=>
  simp only at hap
  simp only [elemsA] at hes; injection hes with hes; subst hes
  split at hap
  ·rename_i hc
   split at hap
   ·rename_i n0 sz' hσ
    split at hap
    ·rename_i hc2
     obtain ⟨rfl,rfl⟩:=hc2
     injection hap with hap; injection hap with e1 e2; subst e1 e2
     rcases Nat.lt_or_ge c (es'.length+xs.length) with hg | hg
     ·exact (hgrow (hfl hc.2) (hfl hc.1) hg).1 hc.1 hc.2 _ _ (.inr ⟨_,hσ,by omega,rfl⟩)
     ·
      cases hs with
      | @own _ _ _ b p s' vs hcl hs0 hψ hn hM hV=>
       obtain ⟨cv,tag,fr,k0,k1,k2,k5,k6⟩:=h.tk id es'.length i.size hσ b p c hψ
       obtain ⟨news,hnew,hnv⟩:=x_src (P:=P) h hx hxs hx0 (hfl hc.1)
       have hrun:=run_app_fits (P:=P) (ty:=ty) ht hu hi (ad:=some ⟨b,p,none⟩) (n:=es'.length) (c:=c) hnew hg
       have hroomC:(es'.length+xs.length) * i.size≤c * i.size:=Nat.mul_le_mul_right _ hg
       rw [Nat.add_mul] at hroomC
       have hnl:=hnew.nlen
       have hone:∀ u∈news,u.oneCell'=true:=fun u hu=>by
        obtain ⟨j,hj,rfl⟩:=zqS hu
        have hj':j<(flat xs).length:=by rw [hfl hc.1,←hnl]; exact hj
        obtain ⟨a1,u',hu',hV'⟩:=hnv j _ (zqF hj')
        rw [zqF hj] at hu'; injection hu' with hu'; rw [hu']
        exact (hV'.cell1 a1).1
       obtain ⟨w',hsr,hh,hsm⟩:=run_storeCells (P:=P) b (p+es'.length * i.size) tag fr news 0 cv w k0 hone (by omega) (fun j hj1 hj2=>(k6 j (by omega)).2 (by omega))
       rw [Nat.add_zero] at hh
       have hget:∀ j,(setRunA cv (p+es'.length * i.size) news)[j]?=if p+es'.length * i.size≤j∧j<p+es'.length * i.size+news.length then news[j - (p+es'.length * i.size)]? else cv[j]?:=fun j=>setRunA_get _ _ _ _ (by omega)
       obtain ⟨hle,hH,hS⟩:=h.tokIn (bs:=bs) (n:=es'.length+xs.length) hσ hψ (by omega) hg k0 hh hsm (setRunA_size ..) (fun j hj=>by rw [hget,if_neg (by omega)])
       refine ⟨_,_,w',.slice (some ⟨b,p,none⟩) (es'.length+xs.length) c,.inl ?_,?_,hH,hS⟩
       ·simp only [Sem.run_bind,hrun,addr_add,hsr,Result.andThen_ok,Sem.run_pure]
       ·have hca:∀ e∈es'++xs,e.clo=true∧e.cells.length=i.size:=fun e hm=>by
         rcases List.mem_append.1 hm with hm | hm
         ·exact okEl_all hc.2 e hm
         ·exact okEl_all hc.1 e hm
        have hl':es'.length+xs.length=(es'++xs).length:=by simp
        have:=own_VR (g:=g.tk id (es'.length+xs.length) b p c (p+es'.length * i.size) (p+(es'.length+xs.length) * i.size) (setRunA cv (p+es'.length * i.size) news)) (id:=id) (es:=es'++xs) (b:=b) (p:=p) (c:=c) hca hsz0 (by rw [←hl']; simp [Gh.tk]) (by omega) (fun j y hy=>by
         rw [flat_append] at hy
         rcases Nat.lt_or_ge j (flat es').length with hj | hj
         ·rw [zqA hj] at hy
          exact ⟨_,hle.M _ _ _ (hM j y hy),(hV j y hy).mono hle⟩
         ·rw [zqB hj] at hy
          obtain ⟨_,u',hu',hV'⟩:=hnv _ y hy
          refine ⟨u',?_,hV'.mono hle⟩
          have hfe:=hfl hc.2
          have hju:=getL hu'
          simp only [Gh.tk]
          rw [if_pos (by refine ⟨trivial,by omega,?_⟩; rw [Nat.add_mul]; omega),hget,if_pos (by omega)]
          rw [show p+j - (p+es'.length * i.size)=j - (flat es').length by omega]; exact hu')
        rw [←hl'] at this; exact this
    ·cases hap
   ·cases hap
  ·cases hap
 | sl id off len sz' ag'=>
  simp only at hap
  split at hap
  ·rename_i cs0 fz ext hσ
   split at hap
   ·rename_i hc
    obtain ⟨rfl,rfl,hlen,rfl⟩:=hc
    have hcc:c=es.length∧(flat es).length=es.length * i.size:=by
     cases hs with
     | @sl _ _ _ _ _ b cφ _ hp hc2 hs0 hl=>
      obtain ⟨cv,tag,fr,k0,k1,k2,k3,k4,k5,k6⟩:=h.cel id cs0 fz false hσ b cφ hp
      have:=k3 rfl
      simp only [elemsA,hσ] at hes
      obtain ⟨win,hw,hch⟩:=zqH.1 hes
      obtain ⟨hr,hwl⟩:=(Rd.cel h hσ hp).win hw
      obtain ⟨i1,i2,i3⟩:=chunk_flat (fun x hx=>by obtain ⟨q,hq,rfl⟩:=zqS hx; exact (hr q _ (zqF hq)).1) hch hwl
      have e1:c * i.size=es.length * i.size:=by omega
      exact ⟨Nat.eq_of_mul_eq_mul_right hs0 e1,by rw [i1,hwl]⟩
    split at hap
    ·split at hap
     ·rename_i hc; injection hap with hap; injection hap with e1 e2; subst e1 e2
      exact (hgrow hc.2 hc.1 (by omega)).2
     ·cases hap
    ·split at hap
     ·rename_i hc; injection hap with hap; injection hap with e1 e2; subst e1 e2
      exact (hgrow (hfl hc.2) (hfl hc.1) (by omega)).1 hc.1 hc.2 _ _ (.inl ⟨rfl,rfl⟩)
     ·cases hap
   ·split at hap
    ·rename_i hc
     obtain ⟨_,rfl,rfl,rfl,hlen,hfx,hfe,rfl,hle0⟩:=hc
     injection hap with hap; injection hap with e1 e2; subst e1 e2
     cases hs with
     | @sl _ _ _ _ _ b cφ _ hp hc2 hs0 hl=>
      obtain ⟨cv,tag,fr,k0,k1,k2,k3,k4,k5,k6⟩:=h.cel id cs0 0 ext hσ b cφ hp
      have hfcs:flat es=cs0:=by
       simp only [elemsA,hσ] at hes
       obtain ⟨win,hw,hch⟩:=zqH.1 hes
       obtain ⟨hr,hwl⟩:=(Rd.cel h hσ hp).win hw
       obtain ⟨i1,i2,i3⟩:=chunk_flat (fun x hx=>by obtain ⟨q,hq,rfl⟩:=zqS hx; exact (hr q _ (zqF hq)).1) hch hwl
       rw [i1]
       unfold window at hw
       rw [hlen,Nat.zero_add,if_pos (Nat.le_refl _),List.drop_zero,List.take_of_length_le (Nat.le_refl _)] at hw
       injection hw with hw; exact hw.symm
      rcases Nat.lt_or_ge c (es.length+xs.length) with hg | hg
      ·obtain ⟨g',ow',w',cv',hr,hV,hH,hS⟩:=(hgrow hfe hfx hg).2
       obtain ⟨hH2,hS2⟩:=hH.kill (bs:=bs) id
       have hid:id<σ.length:=(h.dom id _ hp).1
       rw [List.set_append_left _ _ hid,hfcs] at hH2 hS2
       rw [hfcs] at hS
       exact ⟨g',ow',w',cv',hr,hV,hH2,hS.trans hS2⟩
      ·obtain ⟨news,hnew,hnv⟩:=x_src (P:=P) h hx hxs hx0 hfx
       have hrun:=run_app_fits (P:=P) (ty:=ty) ht hu hi (ad:=some ⟨b,0,none⟩) (n:=es.length) (c:=c) hnew hg
       have hroomC:(es.length+xs.length) * i.size≤c * i.size:=Nat.mul_le_mul_right _ hg
       rw [Nat.add_mul] at hroomC
       have hnl:=hnew.nlen
       have hcl:cs0.length=es.length * i.size:=by rw [←hfcs,hfe]
       have hone:∀ u∈news,u.oneCell'=true:=fun u hu=>by
        obtain ⟨j,hj,rfl⟩:=zqS hu
        have hj':j<(flat xs).length:=by rw [hfx,←hnl]; exact hj
        obtain ⟨a1,u',hu',hV'⟩:=hnv j _ (zqF hj')
        rw [zqF hj] at hu'; injection hu' with hu'; rw [hu']
        exact (hV'.cell1 a1).1
       obtain ⟨w',hsr,hh,hsm⟩:=run_storeCells (P:=P) b (0+es.length * i.size) tag fr news 0 cv w k0 hone (by omega) (fun j hj1 hj2=>(k6 j (by omega)).2 (by omega))
       rw [Nat.add_zero] at hh
       have hget:∀ j,(setRunA cv (0+es.length * i.size) news)[j]?=if 0+es.length * i.size≤j∧j<0+es.length * i.size+news.length then news[j - (0+es.length * i.size)]? else cv[j]?:=fun j=>setRunA_get _ _ _ _ (by omega)
       obtain ⟨hH,hS⟩:=h.regrow (bs:=bs) hσ hp (Nat.zero_le _) k0 hh hsm (cs':=cs0++flat xs) (by simp) (by rw [zqJ,hcl,hfx]; omega) (setRunA_size ..) (fun j x hx=>by
        rcases Nat.lt_or_ge j cs0.length with hj | hj
        ·rw [zqA hj] at hx
         obtain ⟨a1,u,hu,hV⟩:=k4 j x hx
         exact ⟨a1,u,by rw [hget,if_neg (by omega)]; exact hu,hV⟩
        ·rw [zqB hj] at hx
         obtain ⟨a1,u,hu,hV⟩:=hnv _ x hx
         have hju:=getL hu
         refine ⟨a1,u,?_,hV⟩
         rw [hget,if_pos (by omega)]
         rw [show j - (0+es.length * i.size)=j - cs0.length by omega]; exact hu) (fun j hj=>by rw [hget,if_neg (by omega)])
       refine ⟨_,_,w',.slice (some ⟨b,0,none⟩) (es.length+xs.length) c,.inl ?_,?_,hH,hS⟩
       ·simp only [Sem.run_bind,hrun,addr_add,hsr,Result.andThen_ok,Sem.run_pure]
       ·exact .sl (by simp [Gh.put]) hc2 hs0 hg
    ·cases hap
  ·cases hap
 | _=>simp [isSl] at hsl
end
end Go.Mach
end
