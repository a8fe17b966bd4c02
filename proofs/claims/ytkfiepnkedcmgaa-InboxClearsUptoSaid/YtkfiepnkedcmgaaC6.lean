import Derived.Test.YtkfiepnkedcmgaaC5
import Derived.Test.YtkfiepnkedcmgaaC4
set_option linter.unusedVariables false
set_option linter.unusedSimpArgs false
set_option linter.unnecessarySimpa false
section
namespace Go.Proofs.Ytkfiepnkedcmgaa
open Go.RowKit Go.Mach
def pO (ps:List (GW × Nat)):List AV:=ps.flatMap fun p=>clsO p.1 p.2
theorem pO_len (ps:List (GW × Nat)):(pO ps).length=ps.length * 3:=by
 induction ps with
 | nil=>rfl
 | cons p ps ih=>rw [pO,List.flatMap_cons,zqJ,←pO,ih]; simp [clsO]; omega
theorem win_at (A:List AV) (x y:AV) (B:List AV) {k:Nat} (hk:k=A.length+1):window (A++x :: y :: B) k 1=some [y]:=by
 have e:A++x :: y :: B=(A++[x])++y :: B:=by simp
 have hl:k=(A++[x]).length:=by simp; omega
 unfold window
 rw [if_pos (by rw [e,zqJ,←hl]; simp),e,hl,List.drop_left]; rfl
theorem set_at (A:List AV) (x y v:AV) (B:List AV) {k:Nat} (hk:k=A.length+1):(A++x :: y :: B).set k v=A++x :: v :: B:=by
 have e:∀ y,A++x :: y :: B=(A++[x])++y :: B:=fun y=>by simp
 rw [e,e,List.set_append_right _ _ (by simp; omega)]
 congr 1
 rw [show k - (A++[x]).length=0 by simp; omega]; rfl
theorem pO_snoc (ps:List (GW × Nat)) (x:GW) (a:Nat) (R:List AV):pO (ps++[(x,a)])++R=pO ps++.str x.name :: .sl a 0 x.args.length 4 true :: .int .i64 x.stamp :: R:=by
 simp [pO,clsO]
theorem new_store (τ:Heap) (v:GV):storeA 0 (τ++[.cells [.int .i64 0,.int .i64 0,.str ⟨#[]⟩,.isl [] true] 0 false]) 4 v.enc (.ptr τ.length 0)=some (τ++[.cells v.enc.cells 0 false]):=by
 simp [storeA,setRun,AV.clo1]
theorem new_load (τ:Heap) (v:GV):loadA (τ++[.cells v.enc.cells 0 false]) 4 true (.ptr τ.length 0)=some v.enc:=by
 simp [loadA,window]
def MgJ (x:GW) (ps:List (GW × Nat)) (a n i m:Nat) (cs2:List AV) (k:Nat) (f:FR) (τ:Heap):Prop:=
 f 3=.sl 1 0 m 3 true∧f 4=.int .i64 (i:Int)∧f 10=.int .i64 (m:Int)∧f 11=.int .i64 (i:Int)∧f 28=.sl a 0 n 4 true∧f 29=.int .i64 (n:Int)∧f 30=.int .i64 (k:Int) ∧
 τ[1]?=some (.cells cs2 0 true)∧τ[a]?=some (.cells (flat (GV.encs x.args)) 0 true)∧∀ p∈ps,p.2≠1∧Holds τ p.2 (flat (GV.encs p.1.args))
def MgH (K:List GW) (id:Nat) (Zs:List AV) (i:Nat) (τ:Heap):Prop:=
 ∃ (ps:List (GW × Nat)) (K2:List GW),ps.map (·.1)++K2=K∧ps.length=i∧τ[id]?=some (.cells (pO ps++(fW K2++Zs)) 0 true)∧∀ p∈ps,p.2≠id∧Holds τ p.2 (flat (GV.encs p.1.args))
def MgS (K:List GW) (id m:Nat) (Zs:List AV) (i:Nat) (f:FR) (τ:Heap):Prop:=
 f 3=.sl id 0 m 3 true∧f 10=.int .i64 (m:Int)∧f 11=.int .i64 (i:Int)∧MgH K id Zs i τ
set_option maxHeartbeats 4000000 in
theorem merge_full (l:List GW) (hne:l≠[]) (hl:l.length≤1000000000) (hsz:∀ x∈l,x.args≠[]∧GV.sizes x.args≤1000000000) :
  ∃ K:List GW,UpW K∧(∀ x∈K,x∈l)∧K.length≤l.length∧Cov l K∧pureT T c22 [.isl (l.map GW.enc) false]=some (.isl (K.map GW.enc) false):=by
 obtain ⟨r,h1,K,m,id,Zs,o1,hm,q1,q2,q3,q4,hid,hm0,rfl⟩:=merged_ok l hne (by omega) (fun x hx=>by have:=(hsz x hx).2; unfold szW; omega) 0 []
 refine ⟨K,q1,q2,q3,q4,?_⟩
 have hid':id=1:=by simpa using hid
 subst hid'
 apply pure_enter (by simp [c22])
 have hK0:K≠[]:=fun e=>by subst e; simp at hm; omega
 simp [c22,h1]
 refine W_for T 0 47 m (MgS K 1 m Zs) ?_ _ _ ?_
 ·rintro i f τ hi ⟨f3,f10,f11,ps,K2,hK,hps,hat,hho⟩
  by_cases hlt:i<m
  ·obtain ⟨x,K3,rfl⟩:∃ x K3,K2=x :: K3:=by
    cases K2 with
    | nil=>simp at hK; rw [←hK] at hm; simp at hm; omega
    | cons x K3=>exact ⟨x,K3,rfl⟩
   have hx:=hsz x (q2 x (by rw [←hK]; simp))
   have h1τ:=id_lt hat
   have hpl:=pO_len ps
   obtain ⟨n,hn⟩:∃ n,n=x.args.length:=⟨_,rfl⟩
   have hn0:0<n:=by rw [hn]; exact List.length_pos_iff.2 hx.1
   have hn1:n≤1000000000:=by have:=len_sizes x.args; omega
   obtain ⟨cs,hcs⟩:∃ cs,cs=pO ps++(fW (x :: K3)++Zs):=⟨_,rfl⟩
   rw [←hcs] at hat
   have hcl:(i * 3+1)+1≤cs.length:=by rw [hcs]; simp [fW_cons]; omega
   have hcw:window cs (i * 3+1) 1=some [.isl (GV.encs x.args) false]:=by
    rw [hcs,fW_cons]; exact win_at _ _ _ _ (by omega)
   obtain ⟨a,ha⟩:∃ a,a=τ.length+1:=⟨_,rfl⟩
   obtain ⟨τ2,hτ2⟩:∃ τ2,τ2=τ++[.cells [] 0 false,.cells (flat (GV.encs x.args)) 0 true]:=⟨_,rfl⟩
   have hclone:=vClone x.args false hx.1 (by omega) 0 τ
   rw [←ha,←hn,←hτ2] at hclone
   have hat2:τ2[1]?=some (.cells cs 0 true):=by rw [hτ2,zqA h1τ]; exact hat
   obtain ⟨cs2,hcs2⟩:∃ cs2,cs2=pO (ps++[(x,a)])++(fW K3++Zs):=⟨_,rfl⟩
   have hset:setRun cs (i * 3+1) [AV.sl a 0 n 4 true]=cs2:=by
    rw [hcs,hcs2,fW_cons,pO_snoc,hn]; exact set_at _ _ _ _ _ (by omega)
   have hcw2:window cs2 (i * 3+1) 1=some [.sl a 0 n 4 true]:=by
    rw [hcs2,pO_snoc,hn]; exact win_at _ _ _ _ (by omega)
   obtain ⟨τ3,hτ3⟩:∃ τ3,τ3=τ2.set 1 (.cells cs2 0 true):=⟨_,rfl⟩
   have hat3:τ3[1]?=some (.cells cs2 0 true):=by rw [hτ3]; exact get_set hat2
   have ha1:a≠1:=by omega
   have hata:τ3[a]?=some (.cells (flat (GV.encs x.args)) 0 true):=by
    rw [hτ3,zqC (by omega),hτ2,ha,zqB (by omega),show τ.length+1 - τ.length=1 by omega]; rfl
   have hho3:∀ p∈ps,p.2≠1∧Holds τ3 p.2 (flat (GV.encs p.1.args)):=fun p hp=>by
    obtain ⟨e1,fz,e,e2⟩:=hho p hp
    refine ⟨e1,fz,e,?_⟩
    rw [hτ3,zqC (by omega),hτ2,zqA (id_lt e2)]; exact e2
   simp [f3,f10,f11,hlt,hat,hcw,hclone,hat2,hcl,hset,←hτ3,hat3,hcw2]
   refine W_for T 0 47 n (MgJ x ps a n i m cs2) ?_ _ _ ?_
   ·clear f3 f10 f11 hat hat2 hat3 hata hho3 hho hτ3 hτ2 hclone
    rintro k f τ' hk ⟨f3,f4,f10,f11,f28,f29,f30,e1,e2,e3⟩
    have w2:IntKind.i64.wrap ((i:Int)+1)=(i:Int)+1:=wr64 (by omega) (by omega)
    by_cases hkn:k<n
    ·have hkn':k<x.args.length:=by omega
     have w1:IntKind.i64.wrap ((k:Int)+1)=(k:Int)+1:=wr64 (by omega) (by omega)
     have i1:=id_lt e1
     have ia:=id_lt e2
     have s1:=V_load e2 hkn'
     have e1':∀ o,(τ'++[o])[1]?=some (.cells cs2 0 true):=fun o=>by rw [zqA i1]; exact e1
     have e2':∀ o,(τ'++[o])[a]?=some (.cells (flat (GV.encs x.args)) 0 true):=fun o=>by rw [zqA ia]; exact e2
     have s2:=fun o=>V_store (bs:=0) (e2' o) hkn'
     have s3:∀ o,loadA (τ'++[o]) 1 false (.ptr 1 (i * 3+1))=some (.sl a 0 n 4 true):=fun o=>by simp only [loadA,e1',hcw2]; rfl
     have s4:=new_store τ' x.args[k]
     have s5:=new_load τ' x.args[k]
     have hc:=callFresh x.args[k] (by have:=(sizes_mem (zqT hkn')).1; omega)
     simp [-loadA_ptr,-storeA_ptr,-GV.enc_cells,f3,f4,f10,f11,f28,f29,f30,hlt,hkn,w1,s1,s2,s3,s4,s5,hc]
     refine ⟨by simp [f3],by simp [f4],by simp [f10],by simp [f11],by simp [f28],by simp [f29],by simp,e1' _,e2' _,fun p hp=>?_⟩
     obtain ⟨u1,fz,e,u2⟩:=e3 p hp
     exact ⟨u1,fz,e,by rw [zqA (id_lt u2)]; exact u2⟩
    ·simp [f3,f4,f10,f11,f28,f29,f30,hkn,w2]
     refine ⟨by simp [f3],by simp [f10],by simp,ps++[(x,a)],K3,by rw [←hK]; simp,by simp; omega,by rw [←hcs2]; exact e1,fun p hp=>?_⟩
     rcases List.mem_append.1 hp with hp | hp
     ·exact e3 p hp
     ·simp at hp; subst hp; exact ⟨ha1,_,_,e2⟩
   ·simp [MgJ,f3,f10,f11,hat3,hata]
    exact fun u v h=>hho3 (u,v) h
  ·have hK2:K2=[]:=by
    have:(ps.map (·.1)++K2).length=m:=by rw [hK,hm]
    simp at this
    exact List.length_eq_zero_iff.1 (by omega)
   subst hK2
   rw [List.append_nil] at hK
   obtain ⟨σ',hcl⟩:=close_rows (m:=m) ps Zs (by omega) (fun e=>by subst e; simp at hK; first | exact hK0 hK | exact hK0 hK.symm) hat fun p hp=>⟨(hsz p.1 (q2 p.1 (by rw [←hK]; exact List.mem_map_of_mem hp))).1,(hho p hp).2⟩
   rw [hK] at hcl
   simp [f3,f10,f11,hlt,hcl]
 ·refine ⟨by simp,by simp,by simp,[],K,rfl,rfl,by simp [pO],fun p hp=>by cases hp⟩
theorem merge_some (l:List GW) (hne:l≠[]) (hl:l.length≤1000000000) (hsz:∀ x∈l,x.args≠[]∧GV.sizes x.args≤1000000000) :
  ∃ K:List GW,UpW K∧(∀ x∈K,x∈l)∧K.length≤l.length∧pureT T c22 [.isl (l.map GW.enc) false]=some (.isl (K.map GW.enc) false):=by
 obtain ⟨K,h1,h2,h3,_,h4⟩:=merge_full l hne hl hsz
 exact ⟨K,h1,h2,h3,h4⟩
open Go.RowKit Go.Mach
theorem ins_none (bs:Nat) (σ:Heap):callT T 78 [.isl [] true,.int .i64 0,.int .i64 0,.func 55 []] bs σ=some (.tup [],σ):=by
 refine heap_enter (af:=c78) (args':=[.isl [] true,.int .i64 0,.int .i64 0,.func 55 []]) (σ1:=σ) rfl rfl (by simp [c78]) (by simp [c78]) rfl ?_
 simp [c78,baseA]
 refine W_for T _ 53 0 (fun i f τ=>f 2=.int .i64 0∧f 8=.int .i64 1∧τ=σ) ?_ _ _ ?_
 ·rintro i f τ hi ⟨f2,f8,rfl⟩
  simp [f2,f8,dropA_gc,refLt,List.take_of_length_le]
 ·simp [IntKind.wrap_i64]
theorem stable_none (bs:Nat) (σ:Heap):callT T 67 [.isl [] true,.int .i64 0,.func 55 []] bs σ=some (.tup [],σ):=by
 have h:=fun bs=>ins_none bs σ
 refine heap_enter (af:=c67) (args':=[.isl [] true,.int .i64 0,.func 55 []]) (σ1:=σ) rfl rfl (by simp [c67]) (by simp [c67]) rfl ?_
 simp [c67,baseA]
 refine W_for T _ 63 0 (fun i f τ=>f 0=.isl [] true∧f 1=.int .i64 0∧f 2=.func 55 []∧f 6=.int .i64 20∧f 7=.int .i64 0∧f 8=.int .i64 20∧τ=σ) ?_ _ _ ?_
 ·rintro i f τ hi ⟨f0,f1,f2,f6,f7,f8,rfl⟩
  simp [f0,f1,f2,f6,f7,f8,h]
  refine W_for T _ 63 0 (fun i f τ'=>f 1=.int .i64 0∧f 6=.int .i64 20∧τ'=τ) ?_ _ _ ?_
  ·clear f0 f1 f2 f6 f7 f8 h
   rintro i f τ' hi ⟨f1,f6,rfl⟩
   simp [f1,f6,dropA_gc,refLt,List.take_of_length_le]
  ·simp [f1,f6]
 ·simp
theorem merge_none:pureT T c22 [.isl [] false]=some (.isl [] false):=by
 have h1:=fun bs σ=>callCloneW0 false bs σ
 have h2:∀ bs σ,callT T 54 [.isl [] true,.func 55 []] bs σ=some (.tup [],σ):=fun bs σ=>by
  have h:=fun bs=>stable_none bs σ
  refine heap_enter (af:=c54) (args':=[.isl [] true,.func 55 []]) (σ1:=σ) rfl rfl (by simp [c54]) (by simp [c54]) rfl ?_
  simp [c54,baseA,h,dropA_gc,refLt,List.take_of_length_le]
 have h3:∀ bs σ,callT T 57 [.isl [] true,.func 58 []] bs σ=some (.isl [] true,σ):=fun bs σ=>by
  refine heap_enter (af:=c57) (args':=[.isl [] true,.func 58 []]) (σ1:=σ) rfl rfl (by simp [c57]) (by simp [c57]) rfl ?_
  simp [c57,baseA,dropA_gc,refLt,refLt2_isl0,List.take_of_length_le]
 have h4:∀ bs σ,callT T 33 [.isl [] false] bs σ=some (.isl [] true,σ):=fun bs σ=>by
  refine heap_enter (af:=c33) (args':=[.isl [] false]) (σ1:=σ) rfl rfl (by simp [c33]) (by simp [c33]) (by simp [closeArgs,c33]) ?_
  simp [c33,baseA,h1,h2,h3]
 apply pure_enter (by simp [c22])
 simp [c22,h4]
 refine W_for T 0 47 0 (fun i f τ=>f 3=.isl [] true∧f 10=.int .i64 0∧f 11=.int .i64 0∧τ=[]) ?_ _ _ ?_
 ·rintro i f τ hi ⟨f3,f10,f11,rfl⟩
  simp [f3,f10,f11]
 ·simp
open Go.Mach
def fstep (h:BitVec 32) (c:UInt8):BitVec 32:=(h ^^^ BitVec.ofNat 32 c.toNat) * 16777619#32
def sumL (l:List UInt8):BitVec 32:=l.foldl fstep 2166136261#32
theorem fstep_nat (h:BitVec 32) (c:UInt8):(fstep h c).toNat=((h.toNat ^^^ c.toNat) * 16777619) % 4294967296:=by
 have hc:=c.toNat_lt
 have e1:(BitVec.ofNat 32 c.toNat).toNat=c.toNat:=by rw [BitVec.toNat_ofNat]; omega
 have e2:(16777619#32).toNat=16777619:=by decide
 have e3:(fstep h c).toNat=((h.toNat ^^^ c.toNat) * 16777619) % 2 ^ 32:=by rw [fstep,BitVec.toNat_mul,BitVec.toNat_xor,e1,e2]
 rw [e3]
def byteI (v:Int):UInt8:=UInt8.ofNat (v % 256).toNat
theorem byteI_nat (v:Int):((byteI v).toNat:Int)=v % 256:=by
 unfold byteI
 rw [UInt8.toNat_ofNat']
 omega
def nbB:Nat→Int→List UInt8
 | 0,_=>[]
 | n+1,v=>nbB n (v / 256)++[byteI v]
@[simp] theorem nbB_len:∀ (n:Nat) (v:Int),(nbB n v).length=n
 | 0,_=>rfl
 | n+1,v=>by simp [nbB,nbB_len n]
def bl (s:ByteArray):List UInt8:=s.data.toList
def ba (l:List UInt8):ByteArray:=⟨l.toArray⟩
@[simp] theorem bl_ba (l:List UInt8):bl (ba l)=l:=by simp [bl,ba]
@[simp] theorem ba_bl (s:ByteArray):ba (bl s)=s:=by simp [bl,ba]
theorem bl_len (s:ByteArray):(bl s).length=s.size:=by simp [bl]
@[simp] theorem baF_size (l:List UInt8):(ba l).size=l.length:=by rw [←bl_len,bl_ba]
theorem bl_inj {a b:ByteArray}:bl a=bl b↔a=b:=⟨fun h=>by rw [←ba_bl a,h,ba_bl],fun h=>by rw [h]⟩
def textB (s:ByteArray):List UInt8:=nbB 1 s.size++bl s
mutual
def valB:GV→List UInt8
 | .mk k n t l=>nbB 1 k++(if k=1 then nbB 8 n else if k=4 then nbB 1 l.length++valsB l else textB t)
def valsB:List GV→List UInt8
 | []=>[]
 | v :: l=>valB v++valsB l
end
def rowB (x:GW):List UInt8:=textB x.name++(nbB 1 x.args.length++(valsB x.args++nbB 8 x.stamp))
def rowsB:List GW→List UInt8
 | []=>[]
 | x :: l=>rowB x++rowsB l
structure GF where
 frm:ByteArray
 to:ByteArray
 start:Int
 seq:Int
 rows:List GW
 deriving Inhabited
def bodyB (b:GF):List UInt8:=textB b.frm++(textB b.to++(nbB 8 b.start++(nbB 8 b.seq++(nbB 2 b.rows.length++rowsB b.rows))))
def layB (b:GF):List UInt8:=bodyB b++nbB 4 (sumL (bodyB b)).toNat
def nearB (n:Int):Bool:=decide (0≤n) && decide (n≤1099511627776)
theorem nearB_iff (n:Int):nearB n=true↔0≤n∧n≤1099511627776:=by simp [nearB]
def headB (to:ByteArray) (l:List GV):Bool:=match l with
 | []=>false
 | v :: _=>decide (v.kind=3) && decide (v.text=to)
def rowOK (to:ByteArray) (x:GW):Bool:=nameOK x.name && decide (1≤x.args.length) && decide (x.args.length≤8) && nearB x.stamp && x.args.all (rightV 4) && headB to x.args
def rowsOK (to:ByteArray) (l:List GW) (i:Nat):Prop:=∀ k,k<i→∀ x,l[k]?=some x→rowOK to x=true∧(k=0∨∀ y,l[k - 1]?=some y→cmpW y x<0)
structure FOk (b:GF):Prop where
 frm:nameOK b.frm=true
 to:nameOK b.to=true
 ne:b.frm≠b.to
 start:nearB b.start=true
 seq:nearB b.seq=true
 len:b.rows.length≤400
 rows:rowsOK b.to b.rows b.rows.length
abbrev TS:=List UInt8 × Bool
def takeN (n:Nat) (st:TS):List UInt8 × TS:=if st.2=true∨st.1.length<n then ([],(st.1,true)) else (st.1.take n,(st.1.drop n,false))
def nbS (v:Int) (c:UInt8):Int:=IntKind.i64.wrap (v * 256+(c.toNat:Int))
def nbP (l:List UInt8):Int:=l.foldl nbS 0
def nbT (n:Nat) (st:TS):Int × TS:=(nbP (takeN n st).1,(takeN n st).2)
def textT (st:TS):List UInt8 × TS:=takeN (nbT 1 st).1.toNat (nbT 1 st).2
theorem valsB_flat:∀ l:List GV,valsB l=l.flatMap valB
 | []=>rfl
 | v :: l=>by rw [valsB,valsB_flat l]; rfl
theorem rowsB_flat:∀ l:List GW,rowsB l=l.flatMap rowB
 | []=>rfl
 | v :: l=>by rw [rowsB,rowsB_flat l]; rfl
theorem nameOK_size {t:ByteArray} (h:nameOK t=true):t.size≤16:=((nameOK_iff t).1 h).2.2
end Go.Proofs.Ytkfiepnkedcmgaa
end
section
namespace Go.Mach
theorem LO.appB {N:Nat} {σ:Heap} {es xs:List AV} {x y:AV} (h:LO N 1 false σ es x) (hX:closeX σ y=σ) (hy:elemsN σ 1 false y=some xs) (hne:xs≠[]) (hok:xs.all (okEl 1 false)=true) (hl:es.length+xs.length≤1000000000) (hN:N≤σ.length) :
  ∃ x' σ',appendC σ 1 false 1 false x y=some (x',σ')∧LO N 1 false σ' (es++xs) x'∧σ.length≤σ'.length∧∀ (i:Nat) (o:AObj),σ[i]?=some o→(∀ n,o≠.tok n 1)→σ'[i]?=some o:=by
 have hS:=h.closeS σ
 have e0:appendC σ 1 false 1 false x y=appendA σ 1 false 1 false x y:=by
  simp only [appendC,Bool.false_eq_true,if_false,hX,hS]
 rw [e0]
 rcases h with ⟨rfl,rfl⟩ | ⟨k,rfl,hkN,hk,hes⟩
 ·have he:elemsA σ 1 false (.isl [] true)=some []:=rfl
  have hc:¬ (1=0∨(0+xs.length) * 1 > 70368744177664∨0+xs.length > 70368744177664):=by simp at hl; omega
  refine ⟨.own σ.length ([]++xs),σ++[.tok (0+xs.length) 1],?_,.inr ⟨σ.length,rfl,hN,by simp,by simpa using hok⟩,by simp,fun i o hi _=>by rw [zqA (zqI.1 hi).1]; exact hi⟩
  simp only [appendA,hy,he,Option.bind_some,isSl,if_neg hne,List.length_nil,if_neg hc]
  simp [hok]
 ·have he:elemsA σ 1 false (.own k es)=some es:=rfl
  have hc:¬ (1=0∨(es.length+xs.length) * 1 > 70368744177664∨es.length+xs.length > 70368744177664):=by omega
  have hkl:=(zqI.1 hk).1
  refine ⟨.own k (es++xs),σ.set k (.tok (es.length+xs.length) 1),?_,.inr ⟨k,rfl,hkN,?_,by simp [List.all_append,hes,hok]⟩,by simp,fun i o hi ho=>?_⟩
  ·simp only [appendA,hy,he,Option.bind_some,isSl,if_neg hne,if_neg hc]
   simp [hok,hes,hk]
  ·rw [zqJ,List.getElem?_set_self hkl]
  ·have:k≠i:=by rintro rfl; rw [hk] at hi; injection hi with hi; exact ho _ hi.symm
   rw [zqC this]; exact hi
structure LyS (b:Nat) (l:List UInt8) (σ:Heap):Prop where
 ex:∃ x,σ[b]?=some (.cells [x] 0 false)∧LO (b+1) 1 false σ (bv l) x
structure LyK (b:Nat) (σ σ':Heap):Prop where
 len:σ.length≤σ'.length
 keep:∀ (i:Nat) (o:AObj),σ[i]?=some o→i≠b→(∀ n,o≠.tok n 1)→σ'[i]?=some o
theorem LyK.refl (b:Nat) (σ:Heap):LyK b σ σ:=⟨Nat.le_refl _,fun _ _ h _ _=>h⟩
theorem LyK.trans {b:Nat} {σ σ1 σ2:Heap} (h:LyK b σ σ1) (k:LyK b σ1 σ2):LyK b σ σ2:=⟨Nat.le_trans h.len k.len,fun i o hi hb ho=>k.keep i o (h.keep i o hi hb ho) hb ho⟩
theorem LyK.app (b:Nat) (σ l:Heap):LyK b σ (σ++l):=⟨by simp,fun i o hi _ _=>by rw [zqA (zqI.1 hi).1]; exact hi⟩
theorem LyK.cells {b:Nat} {σ σ':Heap} (h:LyK b σ σ') {i:Nat} {cs:List AV} {fz:Nat} {ext:Bool} (hi:σ[i]?=some (.cells cs fz ext)) (hb:i≠b):σ'[i]?=some (.cells cs fz ext):=h.keep i _ hi hb fun n e=>by cases e
theorem LyS.app {b:Nat} {l:List UInt8} {σ:Heap} (h:LyS b l σ) (J:Heap):LyS b l (σ++J):=by
 obtain ⟨x,h1,h2⟩:=h
 exact ⟨x,by rw [zqA (zqI.1 h1).1]; exact h1,h2.keep fun i o _ hi=>by rw [zqA (zqI.1 hi).1]; exact hi⟩
theorem LyS.lt {b:Nat} {l:List UInt8} {σ:Heap} (h:LyS b l σ):b<σ.length:=by obtain ⟨x,h1,_⟩:=h; exact (zqI.1 h1).1
theorem bv_okEl (l:List UInt8):(bv l).all (okEl 1 false)=true:=by
 rw [zqQ]; intro x hx
 obtain ⟨c,_,rfl⟩:=List.mem_map.1 hx
 rfl
theorem bv_append (a b:List UInt8):bv (a++b)=bv a++bv b:=by simp [bv]
theorem bv_nil (l:List UInt8):bv l=[]↔l=[]:=by simp [bv]
theorem LyS.append {b:Nat} {l xs:List UInt8} {σ:Heap} {x y:AV} (hb:σ[b]?=some (.cells [x] 0 false)) (h:LO (b+1) 1 false σ (bv l) x) (hX:closeX σ y=σ) (hy:elemsN σ 1 false y=some (bv xs)) (hne:xs≠[]) (hl:l.length+xs.length≤1000000000) :
  ∃ x' σ',appendC σ 1 false 1 false x y=some (x',σ')∧storeA 0 σ' 1 x' (.ptr b 0)=some (σ'.set b (.cells [x'] 0 false))∧LyS b (l++xs) (σ'.set b (.cells [x'] 0 false))∧LyK b σ (σ'.set b (.cells [x'] 0 false)):=by
 have hlt:=(zqI.1 hb).1
 obtain ⟨x',σ',h1,h2,h3,h4⟩:=h.appB hX hy (by rw [Ne,bv_nil]; exact hne) (bv_okEl _) (by simpa using hl) (by omega)
 have hb':=h4 b _ hb (fun n e=>by cases e)
 refine ⟨x',σ',h1,?_,⟨x',by rw [List.getElem?_set_self (by omega)],?_⟩,by simpa using h3,fun i o hi hne ho=>?_⟩
 ·simp only [storeA,hb']
  rw [if_pos ⟨Nat.zero_le _,by simp,h2.solid,by rw [h2.cells]; rfl,.inl (Nat.zero_le _)⟩,h2.cells]; rfl
 ·rw [bv_append]
  exact h2.keep fun i o hi ho=>by rw [zqC (by omega)]; exact ho
 ·rw [zqC (Ne.symm hne)]; exact h4 i o hi ho
end Go.Mach
namespace Go.Proofs.Ytkfiepnkedcmgaa
open Go.Mach
theorem nbB_cons:∀ (n:Nat) (v:Int),nbB (n+1) v=byteI (v / 256 ^ n) :: nbB n v
 | 0,v=>by simp [nbB]
 | n+1,v=>by
  have ih:=nbB_cons n (v / 256)
  rw [nbB,ih,List.cons_append]
  have:v / 256 / 256 ^ n=v / 256 ^ (n+1):=by
   rw [Int.ediv_ediv_of_nonneg (by omega),Int.pow_succ',]
  rw [this]; rfl
theorem nbB_drop:∀ (k n:Nat) (v:Int),(nbB (k+n) v).drop k=nbB n v
 | 0,n,v=>by simp
 | k+1,n,v=>by
  rw [show k+1+n=(k+n)+1 by omega,nbB_cons,List.drop_succ_cons,nbB_drop k n v]
def arrB (v:Int) (i:Nat):List AV:=bv (List.replicate (8 - i) 0++nbB i v)
theorem arrB_set (v:Int) (i:Nat) (h:i<8):(arrB v i).set (7 - i) (.int .u8 ((byteI (v / 256 ^ i)).toNat:Int))=arrB v (i+1):=by
 unfold arrB
 rw [bv_set,nbB_cons,show 8 - i=(8 - (i+1))+1 by omega,List.replicate_succ']
 congr 1
 rw [zqP,List.set_append_right _ _ (by simp)]
 congr 1
 simp
theorem shr_eq (v:Int) (i:Nat) (hi:i<8):v.fdiv (2 ^ (min (8 * i) 64))=v / 256 ^ i:=by
 rw [Nat.min_eq_left (by omega),Int.fdiv_eq_ediv_of_nonneg _ (Int.le_of_lt (Int.pow_pos (by omega))),Int.pow_mul]; rfl
theorem wru8_byte (v:Int):IntKind.u8.wrap v=((byteI v).toNat:Int):=by rw [byteI_nat,IntKind.wrap_u8]
theorem num_ok {b:Nat} {l:List UInt8} {σ:Heap} (h:LyS b l σ) (n:Nat) (h1:1≤n) (h8:n≤8) (v:Int) (hl:l.length≤900000000) :
  ∃ σ',callT T 41 [.ptr b 0,.int .i64 n,.int .i64 v] 0 σ=some (.tup [],σ')∧LyS b (l++nbB n v) σ'∧LyK b σ σ':=by
 obtain ⟨x,hb,hL⟩:=h.ex
 have hlt0:=h.lt
 have key:∃ r,callT T 41 [.ptr b 0,.int .i64 n,.int .i64 v] 0 σ=some r∧∃ σ',r=(.tup [],σ')∧LyS b (l++nbB n v) σ'∧LyK b σ σ':=by
  refine heap_enterE (af:=c41) (args':=[.ptr b 0,.int .i64 n,.int .i64 v]) (σ1:=σ) rfl rfl (by simp [c41]) (by simp [c41]) rfl ?_
  simp [c41,baseA]
  refine W_for T 0 29 8 (fun i f τ=>f 0=.ptr b 0∧f 1=.int .i64 (n:Int)∧f 2=.int .i64 v∧f 6=.ptr σ.length 0∧f 8=.int .i64 (i:Int)∧τ=σ++[.cells (arrB v i) 0 false]) ?_ _ _ ?_
  ·rintro i f τ hi ⟨f0,f1,f2,f6,f8,rfl⟩
   by_cases hlt:i<8
   ·have w1:IntKind.i64.wrap ((i:Int)+1)=(i:Int)+1:=wr64 (by omega) (by omega)
    have w7:IntKind.i64.wrap (7 - (i:Int))=((7 - i:Nat):Int):=by rw [wr64 (by omega) (by omega)]; omega
    have w8:IntKind.i64.wrap (8 * (i:Int))=((8 * i:Nat):Int):=by rw [wr64 (by omega) (by omega)]; omega
    have hs:=shr_eq v i hlt
    have h0:(0:Int)≤8 * (i:Int):=by omega
    have hn:(8 * (i:Int)).toNat=8 * i:=by omega
    have ha:=arrB_set v i hlt
    have hlt':(i:Int)<8:=by omega
    have h7:((7 - i:Nat):Int)<8:=by omega
    have hal:(arrB v i).length=8:=by simp [arrB]; omega
    have hc:7 - i+1≤8:=by omega
    simp [f0,f1,f2,f6,f8,hlt,hlt',w1,w7,w8,h0,hn,hs,h7,hal,hc,wru8_byte,ha,setRun]
   ·have he:i=8:=by omega
    subst he
    have w:IntKind.i64.wrap (8 - (n:Int))=((8 - n:Nat):Int):=by rw [wr64 (by omega) (by omega)]; omega
    obtain ⟨τ,hτ⟩:∃ τ,τ=σ++[.cells (arrB v 8) 0 false]:=⟨_,rfl⟩
    have hbτ:τ[b]?=some (.cells [x] 0 false):=by rw [hτ,zqA hlt0]; exact hb
    have haτ:τ[σ.length]?=some (.cells (bv (nbB 8 v)) 0 false):=by rw [hτ]; simp [arrB]
    have hLτ:LO (b+1) 1 false τ (bv l) x:=by rw [hτ]; exact hL.keep fun i o _ hi=>by rw [zqA (zqI.1 hi).1]; exact hi
    have hcl:(bv (nbB 8 v)).all AV.clo1=true:=by
     rw [zqQ]; intro y hy
     obtain ⟨c,_,rfl⟩:=List.mem_map.1 hy
     rfl
    have hX:closeX τ (.sl σ.length (8 - n) n 1 false)=τ:=by simp only [closeX,haτ,hcl,if_true]
    have hE:elemsN τ 1 false (.sl σ.length (8 - n) n 1 false)=some (bv (nbB n v)):=by
     have hd:(nbB 8 v).drop (8 - n)=nbB n v:=by
      have:=nbB_drop (8 - n) n v
      rwa [show 8 - n+n=8 by omega] at this
     have hw:window (bv (nbB 8 v)) (8 - n) (n * 1)=some (bv (nbB n v)):=by
      unfold window
      rw [if_pos (by simp; omega)]
      congr 1
      rw [bv,←List.map_drop,hd,List.take_of_length_le (by simp),bv]
     have hnrm:(bv (nbB n v)).map AV.nrm=bv (nbB n v):=by simp [bv]
     simp only [elemsN,haτ,hw,Option.bind_some,hnrm]
     have:=chunk_one (bv (nbB n v))
     rwa [bv_length,nbB_len] at this
    obtain ⟨x',σ',e1,e2,e3,e4⟩:=LyS.append hbτ hLτ hX hE (by intro h; have:=congrArg List.length h; simp at this; omega) (by simp; omega)
    have hK:LyK b σ τ:=by rw [hτ]; exact LyK.app ..
    have hn8:(8 - n:Nat)<8:=by omega
    have hA:arrSlV 8 1 false (some (.int .i64 ((8 - n:Nat):Int))) none τ (.ptr σ.length 0)=some (.sl σ.length (8 - n) n 1 false,τ):=by
     have hb1:bndV 8 0 (some (.int .i64 ((8 - n:Nat):Int)))=some (8 - n):=by
      simp only [bndV]; rw [if_pos ⟨by omega,by omega⟩]; simp
     simp only [arrSlV,haτ,bndV_none,Option.bind_some,hb1,Option.map_some]
     rw [if_pos (by simp; omega)]
     simp; omega
    rw [←hτ]
    simp [f0,f1,f2,f6,f8,hbτ,haτ,w,hA,e1,e2,e3]
    exact hK.trans e4
  ·simp [arrB,bv,nbB]
 obtain ⟨r,h2,σ',rfl,h3⟩:=key
 exact ⟨σ',h2,h3⟩
open Go.Mach
theorem text_ok {b:Nat} {l:List UInt8} {σ:Heap} (h:LyS b l σ) (s:ByteArray) (hl:l.length+s.size≤800000000) :
  ∃ σ',callT T 40 [.ptr b 0,.str s] 0 σ=some (.tup [],σ')∧LyS b (l++textB s) σ'∧LyK b σ σ':=by
 obtain ⟨σ1,n1,n2,n3⟩:=num_ok h 1 (by omega) (by omega) (s.size:Int) (by omega)
 obtain ⟨x,hb,hL⟩:=n2.ex
 have key:∃ r,callT T 40 [.ptr b 0,.str s] 0 σ=some r∧∃ σ',r=(.tup [],σ')∧LyS b (l++textB s) σ'∧LyK b σ σ':=by
  refine heap_enterE (af:=c40) (args':=[.ptr b 0,.str s]) (σ1:=σ) rfl rfl (by simp [c40]) (by simp [c40]) rfl ?_
  have n1':callT T 41 [.ptr b 0,.int .i64 1,.int .i64 (s.size:Int)] 0 σ=some (.tup [],σ1):=n1
  have hE:elemsN σ1 1 false (.str s)=some (bv (bl s)):=rfl
  by_cases hs:bl s=[]
  ·have e1:appendC σ1 1 false 1 false x (.str s)=some (x,σ1):=by
    have hc:appendC σ1 1 false 1 false x (.str s)=appendA σ1 1 false 1 false x (.str s):=by
     simp only [appendC_str,hL.closeS]
    rw [hc]
    rcases hL with ⟨_,rfl⟩ | ⟨k,rfl,_⟩ <;> simp [appendA,hE,hs,bv,elemsA,isSl]
   have e2:storeA 0 σ1 1 x (.ptr b 0)=some (σ1.set b (.cells [x] 0 false)):=by
    simp only [storeA,hb]
    rw [if_pos ⟨Nat.zero_le _,by simp,hL.solid,by rw [hL.cells]; rfl,.inl (Nat.zero_le _)⟩,hL.cells]; rfl
   have e3:σ1.set b (.cells [x] 0 false)=σ1:=list_set_same hb
   rw [e3] at e2
   have e4:textB s=nbB 1 (s.size:Int):=by rw [textB,hs,List.append_nil]
   simp [c40,baseA,n1',hb,e1,e2,e4]
   exact ⟨n2,n3⟩
  ·obtain ⟨x',σ',e1,e2,e3,e4⟩:=LyS.append hb hL rfl hE hs (by simp [bl_len]; omega)
   rw [zqP] at e3
   simp [c40,baseA,n1',hb,e1,e2]
   exact ⟨e3,n3.trans e4⟩
 obtain ⟨r,h2,σ',rfl,h3⟩:=key
 exact ⟨σ',h2,h3⟩
mutual
theorem valB_len:∀ v:GV,(valB v).length≤2 * v.size
 | .mk k n t l=>by
  have:=valsB_len l
  simp only [valB,GV.size]
  split
  ·simp; omega
  ·split
   ·simp; omega
   ·simp [textB,bl_len]; omega
theorem valsB_len:∀ l:List GV,(valsB l).length≤2 * GV.sizes l
 | []=>by simp [valsB,GV.sizes]
 | v :: l=>by
  have h1:=valB_len v
  have h2:=valsB_len l
  simp only [valsB,GV.sizes,zqJ]; omega
end
theorem valsB_snoc {l:List GV} {i:Nat} (h:i<l.length):valsB (l.take (i+1))=valsB (l.take i)++valB l[i]:=by
 rw [valsB_flat,valsB_flat,List.take_add_one,zqF h,List.flatMap_append]; simp
theorem sizes_take {l:List GV} {i:Nat} (h:i<l.length):GV.sizes (l.take i)+l[i].size≤GV.sizes l:=by
 induction l generalizing i with
 | nil=>simp at h
 | cons x l ih=>
  cases i with
  | zero=>simp [GV.sizes]
  | succ i=>
   have:=ih (i:=i) (by simpa using h)
   simp [GV.sizes]; omega
theorem value_ok:∀ (n:Nat) (v:GV),v.size≤n→∀ {b:Nat} {l:List UInt8} {σ:Heap},LyS b l σ→l.length+2 * v.size≤800000000 →
  ∃ σ',callT T 42 [.ptr b 0,v.enc] 0 σ=some (.tup [],σ')∧LyS b (l++valB v) σ'∧LyK b σ σ':=by
 intro n
 induction n with
 | zero=>intro v h; cases v; simp [GV.size] at h
 | succ n ih=>
  intro v hs b l σ h hl
  obtain ⟨k,num,t,es⟩:=v
  have hsz:t.size+GV.sizes es+5≤n+1:=hs
  have hsz':(GV.mk k num t es).size=t.size+GV.sizes es+5:=rfl
  have hll:=len_sizes es
  have hlt:=h.lt
  obtain ⟨τ,hτ⟩:∃ τ,τ=σ++[.cells [.int .i64 k,.int .i64 num,.str t,.isl (GV.encs es) false] 0 false]:=⟨_,rfl⟩
  have hτL:LyS b l τ:=by rw [hτ]; exact h.app _
  have hτK:LyK b σ τ:=by rw [hτ]; exact LyK.app ..
  have hτ0:τ[σ.length]?=some (.cells [.int .i64 k,.int .i64 num,.str t,.isl (GV.encs es) false] 0 false):=by rw [hτ]; simp
  have hne:σ.length≠b:=by omega
  obtain ⟨σ1,n1,n2,n3⟩:=num_ok hτL 1 (by omega) (by omega) k (by omega)
  have n1':callT T 41 [.ptr b 0,.int .i64 1,.int .i64 k] 0 τ=some (.tup [],σ1):=n1
  have h10:=n3.cells hτ0 hne
  have key:∃ r,callT T 42 [.ptr b 0,(GV.mk k num t es).enc] 0 σ=some r∧∃ σ',r=(.tup [],σ')∧LyS b (l++valB (.mk k num t es)) σ'∧LyK b σ σ':=by
   refine heap_enterE (af:=c42) (args':=[.ptr b 0,(GV.mk k num t es).enc]) (σ1:=σ) rfl rfl (by simp [c42]) (by simp [c42]) rfl ?_
   by_cases h1:k=1
   ·subst h1
    obtain ⟨σ2,m1,m2,m3⟩:=num_ok n2 8 (by omega) (by omega) num (by simp; omega)
    have m1':callT T 41 [.ptr b 0,.int .i64 8,.int .i64 num] 0 σ1=some (.tup [],σ2):=m1
    rw [zqP] at m2
    simp [c42,baseA,GV.kind,GV.num,GV.text,GV.items,←hτ,hτ0,n1',h10,m1',valB]
    exact ⟨m2,(hτK.trans n3).trans m3⟩
   ·by_cases h4:k=4
    ·subst h4
     obtain ⟨σ2,m1,m2,m3⟩:=num_ok n2 1 (by omega) (by omega) (es.length:Int) (by simp; omega)
     have m1':callT T 41 [.ptr b 0,.int .i64 1,.int .i64 (es.length:Int)] 0 σ1=some (.tup [],σ2):=m1
     have h20:=m3.cells h10 hne
     rw [zqP] at m2
     simp [c42,baseA,GV.kind,GV.num,GV.text,GV.items,←hτ,hτ0,n1',h10,m1',h20,valB]
     refine W_for T 0 40 es.length (fun i f τ'=>f 0=.ptr b 0∧f 30=.isl (GV.encs es) false∧f 31=.int .i64 (es.length:Int)∧f 32=.int .i64 (i:Int)∧LyS b (l++(nbB 1 4++nbB 1 es.length)++valsB (es.take i)) τ'∧LyK b σ τ') ?_ _ _ ?_
     ·rintro i f τ' hi ⟨f0,f30,f31,f32,hS,hK⟩
      by_cases hlt:i<es.length
      ·have w1:IntKind.i64.wrap ((i:Int)+1)=(i:Int)+1:=wr64 (by omega) (by omega)
       obtain ⟨τ2,hτ2⟩:∃ τ2,τ2=τ'++[.cells es[i].enc.cells 0 false]:=⟨_,rfl⟩
       have hS2:LyS b (l++(nbB 1 4++nbB 1 es.length)++valsB (es.take i)) τ2:=by rw [hτ2]; exact hS.app _
       have hm:=sizes_mem (zqT hlt)
       have htl:=valsB_len (es.take i)
       have hti:=sizes_take hlt
       obtain ⟨σ3,q1,q2,q3⟩:=ih es[i] (by omega) hS2 (by simp; omega)
       rw [zqP,←valsB_snoc hlt] at q2
       simp [f0,f30,f31,f32,hlt,w1,setRun]
       rw [GV.enc_cells] at hτ2
       rw [←hτ2]
       simp only [zqP] at q2
       simp [q1,f0,f30,f31,f32,hlt,w1]
       exact ⟨q2,(hK.trans (by rw [hτ2]; exact LyK.app ..)).trans q3⟩
      ·have he:i=es.length:=by omega
       subst he
       simp [f0,f30,f31,f32]
       rw [List.take_of_length_le (Nat.le_refl _)] at hS
       simp at hS
       exact ⟨hS,hK⟩
     ·simp
      exact ⟨by simpa [valsB] using m2,(hτK.trans n3).trans m3⟩
    ·obtain ⟨σ2,m1,m2,m3⟩:=text_ok n2 t (by simp; omega)
     rw [zqP] at m2
     simp [c42,baseA,GV.kind,GV.num,GV.text,GV.items,←hτ,hτ0,n1',h10,m1,valB,h1,h4]
     exact ⟨m2,(hτK.trans n3).trans m3⟩
  obtain ⟨r,h2,σ',rfl,h3⟩:=key
  exact ⟨σ',h2,h3⟩
open Go.Mach
namespace GF
def enc (b:GF):AV:=.agg [.str b.frm,.str b.to,.int .i64 b.start,.int .i64 b.seq,.isl (b.rows.map GW.enc) false]
theorem enc_eq (b:GF):b.enc=.agg [.str b.frm,.str b.to,.int .i64 b.start,.int .i64 b.seq,.isl (b.rows.map GW.enc) false]:=rfl
theorem enc_mk (a b:ByteArray) (s q:Int) (l:List GW):AV.agg [.str a,.str b,.int .i64 s,.int .i64 q,.isl (l.map GW.enc) false]=enc ⟨a,b,s,q,l⟩:=rfl
@[simp] theorem enc_cells (b:GF):b.enc.cells=[.str b.frm,.str b.to,.int .i64 b.start,.int .i64 b.seq,.isl (b.rows.map GW.enc) false]:=rfl
@[simp] theorem enc_solid (b:GF):b.enc.solid=true:=rfl
@[simp] theorem enc_head (b:GF) (xs:List AV):headYld (b.enc :: xs)=false:=by cases b; exact headYld_agg _ _
@[simp] theorem enc_clean (b:GF):b.enc.clean=true:=rfl
@[simp] theorem enc_datR (b:GF):b.enc.datR=true:=rfl
@[simp] theorem enc_dat (b:GF):b.enc.dat=true:=rfl
@[simp] theorem enc_clo (b:GF):b.enc.clo=true:=rfl
@[simp] theorem enc_clo1 (b:GF):b.enc.clo1=false:=rfl
@[simp] theorem enc_closeR (σ:Heap) (b:GF):closeR σ b.enc=some (b.enc,σ):=rfl
end GF
structure SzW (x:GW):Prop where
 name:x.name.size≤10000000
 args:GV.sizes x.args≤100000000
def sizesW:List GW→Nat
 | []=>0
 | x :: l=>GV.sizes x.args+sizesW l
structure SzF (b:GF):Prop where
 tot:sizesW b.rows≤100000000
 frm:b.frm.size≤10000000
 to:b.to.size≤10000000
 len:b.rows.length≤10000000
 rows:∀ x∈b.rows,SzW x
theorem near_ok (n:Int):pureT T c62 [.int .i64 n]=some (.bool (nearB n)):=by
 apply pure_enter (by simp [c62])
 by_cases h:0≤n
 ·by_cases h2:n≤1099511627776
  ·simp [c62,h,h2,nearB]
  ·simp [c62,h,h2,nearB]
 ·simp [c62,h,nearB]
theorem callNear (n:Int) (bs:Nat) (σ:Heap):callT T 62 [.int .i64 n] bs σ=some (.bool (sym (nearB n)),σ):=call_clean rfl rfl rfl rfl (near_ok n)
theorem rightRow_ok (x:GW) (to:ByteArray) (hs:SzW x):pureT T c63 [x.enc,.str to]=some (.bool (rowOK to x)):=by
 obtain ⟨nm,args,st⟩:=x
 have hs1:nm.size≤10000000:=hs.name
 have hs2:GV.sizes args≤100000000:=hs.args
 have hn:=name_call nm (by omega)
 have hnr:=callNear st
 have hll:=len_sizes args
 apply pure_enter (by simp [c63])
 cases h1:nameOK nm with
 | false=>simp [c63,GW.enc_eq,hn,h1,rowOK]
 | true=>
  by_cases h2:args=[]
  ·subst h2
   simp [c63,GW.enc_eq,hn,h1,rowOK,GV.encs]
  ·obtain ⟨v0,tl,hv0⟩:=List.exists_cons_of_ne_nil h2
   have h2':1≤args.length:=List.length_pos_iff.2 h2
   have h2i:¬ (args.length:Int)<1:=by omega
   by_cases h3:args.length≤8
   ·have h3i:¬ 8<(args.length:Int):=by omega
    cases h4:nearB st with
    | false=>simp [c63,GW.enc_eq,hn,h1,h2i,h3i,hnr,h4,rowOK]
    | true=>
     simp [c63,GW.enc_eq,hn,h1,h2i,h3i,hnr,h4,rowOK,h2',h3]
     refine W_for T 0 55 args.length (fun i f τ=>f 1=.str to∧f 2=.ptr 0 0∧f 30=.isl (GV.encs args) false∧f 31=.int .i64 (args.length:Int)∧f 32=.int .i64 (i:Int)∧(∃ J:Heap,τ=[.cells [.str nm,.isl (GV.encs args) false,.int .i64 st] 0 false]++J)∧∀ v∈args.take i,rightV 4 v=true) ?_ _ _ ?_
     ·rintro i f τ hi ⟨f1,f2,f30,f31,f32,⟨J,rfl⟩,hall⟩
      by_cases hlt:i<args.length
      ·have w1:IntKind.i64.wrap ((i:Int)+1)=(i:Int)+1:=wr64 (by omega) (by omega)
       have hm:=sizes_mem (zqT hlt)
       have hr:=valRight args[i] (by omega)
       simp [f1,f2,f30,f31,f32,hlt,w1,setRun,hr,rightT]
       refine ⟨fun h v hv=>?_,fun h h2=>by rw [h2 _ (zqT hlt)] at h; cases h⟩
       rw [List.take_add_one,zqF hlt] at hv
       rcases List.mem_append.1 hv with hv | hv
       ·exact hall v hv
       ·simp at hv; rw [hv]; exact h
      ·have he:i=args.length:=by omega
       subst he
       rw [List.take_of_length_le (Nat.le_refl _)] at hall
       have hal:args.all (rightV 4)=true:=zqQ.2 hall
       have hg:args[0]?=some v0:=by rw [hv0]; rfl
       have hh:headB to args=(decide (v0.kind=3) && decide (v0.text=to)):=by rw [hv0]; rfl
       by_cases hk:v0.kind=3
       ·simp [f1,f2,f30,f31,f32,hg,hk,hal,hh]
        done
       ·simp [f1,f2,f30,f31,f32,hg,hk,hal,hh]
     ·simp
   ·have h3i:8<(args.length:Int):=by omega
    simp [c63,GW.enc_eq,hn,h1,h2i,h3i,rowOK,h3]
theorem callRow (x:GW) (to:ByteArray) (hs:SzW x) (bs:Nat) (σ:Heap):callT T 63 [x.enc,.str to] bs σ=some (.bool (sym (rowOK to x)),σ):=call_clean rfl rfl rfl (by simp) (rightRow_ok x to hs)
open Classical in
noncomputable def fokB (b:GF):Bool:=decide (FOk b)
theorem fokB_t {b:GF}:fokB b=true↔FOk b:=by simp [fokB]
theorem fokB_f {b:GF} (h:¬ FOk b):fokB b=false:=by simp [fokB,h]
theorem SzW.sz {x:GW} (h:SzW x):szW x:=by have:=h.args; unfold szW; omega
theorem rowsOK_succ {to:ByteArray} {l:List GW} {i:Nat} (h:rowsOK to l i) (hi:i<l.length) (h1:rowOK to l[i]=true) (h2:i=0∨∀ y,l[i - 1]?=some y→cmpW y l[i]<0):rowsOK to l (i+1):=by
 intro k hk x hx
 by_cases e:k=i
 ·subst e
  rw [zqF hi] at hx; injection hx with hx; subst hx
  exact ⟨h1,h2⟩
 ·exact h k (by omega) x hx
theorem frameRight_ok (b:GF) (hs:SzF b):pureT T c39 [b.enc]=some (.bool (fokB b)):=by
 obtain ⟨fr,to,st,sq,rows⟩:=b
 have s1:fr.size≤10000000:=hs.frm
 have s2:to.size≤10000000:=hs.to
 have s3:rows.length≤10000000:=hs.len
 have s4:∀ x∈rows,SzW x:=hs.rows
 have n1:=name_call fr (by omega)
 have n2:=name_call to (by omega)
 have n3:=callNear st
 have n4:=callNear sq
 apply pure_enter (by simp [c39])
 cases h1:nameOK fr with
 | false=>
  have hf:=fokB_f (b:=⟨fr,to,st,sq,rows⟩) fun h=>by have:=h.frm; simp [h1] at this
  simp [c39,GF.enc_eq,n1,h1,hf]
 | true=>
  cases h2:nameOK to with
  | false=>
   have hf:=fokB_f (b:=⟨fr,to,st,sq,rows⟩) fun h=>by have:=h.to; simp [h2] at this
   simp [c39,GF.enc_eq,n1,h1,n2,h2,hf]
  | true=>
   by_cases h3:fr=to
   ·have hf:=fokB_f (b:=⟨fr,to,st,sq,rows⟩) fun h=>h.ne h3
    subst h3
    simp [c39,GF.enc_eq,n1,h1,n2,h2,hf]
   ·have h3':(fr.toList == to.toList)=false:=by
     rw [beq_eq_false_iff_ne,ByteArray.toList_eq,ByteArray.toList_eq]
     intro h; exact h3 (bl_inj.1 h)
    cases h4:nearB st with
    | false=>
     have hf:=fokB_f (b:=⟨fr,to,st,sq,rows⟩) fun h=>by have:=h.start; simp [h4] at this
     simp [c39,GF.enc_eq,n1,h1,n2,h2,h3,n3,h4,hf]
    | true=>
     cases h5:nearB sq with
     | false=>
      have hf:=fokB_f (b:=⟨fr,to,st,sq,rows⟩) fun h=>by have:=h.seq; simp [h5] at this
      simp [c39,GF.enc_eq,n1,h1,n2,h2,h3,n3,h4,n4,h5,hf]
     | true=>
      by_cases h6:rows.length≤400
      ·have h6i:¬ 400<(rows.length:Int):=by omega
       simp [c39,GF.enc_eq,n1,h1,n2,h2,h3,n3,h4,n4,h5,h6i]
       refine W_for T 0 69 rows.length (fun i f τ=>f 1=.ptr 0 0∧f 41=.isl (rows.map GW.enc) false∧f 42=.int .i64 (rows.length:Int)∧f 43=.int .i64 (i:Int)∧(∃ J:Heap,τ=[.cells [.str fr,.str to,.int .i64 st,.int .i64 sq,.isl (rows.map GW.enc) false] 0 false]++J)∧rowsOK to rows i) ?_ _ _ ?_
       ·rintro i f τ hi ⟨f1,f41,f42,f43,⟨J,rfl⟩,hall⟩
        by_cases hlt:i<rows.length
        ·have w1:IntKind.i64.wrap ((i:Int)+1)=(i:Int)+1:=wr64 (by omega) (by omega)
         have hr:=callRow rows[i] to (s4 _ (zqT hlt))
         rw [GW.enc_eq] at hr
         by_cases hi0:i=0
         ·subst hi0
          have hg:rows[0]?=some rows[0]:=zqF hlt
          simp [f1,f41,f42,f43,hlt,setRun,GW.enc_eq,hr,hg]
          refine ⟨fun h=>⟨by decide,rowsOK_succ hall hlt h (.inl rfl)⟩,fun h=>fokB_f fun hf=>?_⟩
          have:=(hf.rows 0 hlt _ hg).1
          rw [h] at this; cases this
         ·have hlt1:i - 1<rows.length:=by omega
          have hg:rows[i]?=some rows[i]:=zqF hlt
          have hg1:rows[i - 1]?=some rows[i - 1]:=zqF hlt1
          have w0:IntKind.i64.wrap ((i:Int) - 1)=((i - 1:Nat):Int):=by rw [wr64 (by omega) (by omega)]; omega
          have hp:(0:Int)<(i:Int):=by omega
          have hc:=callCmpW rows[i - 1] rows[i] (s4 _ (zqT hlt1)).sz
          rw [GW.enc_eq,GW.enc_eq] at hc
          simp [f1,f41,f42,f43,hlt,setRun,GW.enc_eq,hr,hg,hg1,w0,w1,hp,hlt1,hc]
          refine ⟨fun h=>⟨fun _=>⟨fun h2=>fokB_f fun hf=>?_,fun h2=>rowsOK_succ hall hlt h (.inr fun y hy=>?_)⟩,fun e=>absurd e hi0⟩,fun h=>fokB_f fun hf=>?_⟩
          ·rcases (hf.rows i hlt _ hg).2 with e | e
           ·exact hi0 e
           ·have:=e _ hg1; omega
          ·rw [hg1] at hy; injection hy with hy; rw [←hy]; exact h2
          ·have:=(hf.rows i hlt _ hg).1
           rw [h] at this; cases this
        ·have he:i=rows.length:=by omega
         subst he
         have hf:fokB ⟨fr,to,st,sq,rows⟩=true:=fokB_t.2 ⟨h1,h2,h3,h4,h5,h6,hall⟩
         simp [f1,f41,f42,f43,hf]
       ·simp
        exact fun k hk=>by omega
      ·have h6i:400<(rows.length:Int):=by omega
       have hf:=fokB_f (b:=⟨fr,to,st,sq,rows⟩) fun h=>h6 h.len
       simp [c39,GF.enc_eq,n1,h1,n2,h2,h3,n3,h4,n4,h5,h6i,hf]
theorem callFRight (b:GF) (hs:SzF b) (bs:Nat) (σ:Heap):callT T 39 [b.enc] bs σ=some (.bool (sym (fokB b)),σ):=call_clean rfl rfl rfl (by simp) (frameRight_ok b hs)
open Go.Mach
open Go.Mach
theorem step32 (h:BitVec 32) (c:UInt8):IntKind.u32.wrap (IntKind.u32.wrap (xorI .u32 (h.toNat:Int) (IntKind.u32.wrap (c.toNat:Int))) * 16777619)=((fstep h c).toNat:Int):=by
 have hc:=c.toNat_lt
 have hh:=h.isLt
 have hx:h.toNat ^^^ c.toNat<4294967296:=Nat.xor_lt_two_pow (n:=32) hh (by omega)
 rw [wru32 (n:=(c.toNat:Int)) (by omega) (by omega),xorI_nat .u32 (by simpa using hh) (by simp; omega),wru32 (n:=((h.toNat ^^^ c.toNat:Nat):Int)) (by omega) (by omega)]
 have:(((h.toNat ^^^ c.toNat:Nat):Int) * 16777619)=(((h.toNat ^^^ c.toNat) * 16777619:Nat):Int):=by omega
 rw [this,wru32_mod,fstep_nat]
theorem sumL_snoc {l:List UInt8} {i:Nat} (h:i<l.length):sumL (l.take (i+1))=fstep (sumL (l.take i)) l[i]:=by
 rw [List.take_add_one,zqF h,sumL,sumL,List.foldl_append]; rfl
theorem sum_ok (l:List UInt8) (hs:l.length≤1000000000):pureT T c43 [.str (ba l)]=some (.int .u32 ((sumL l).toNat:Int)):=by
 apply pure_enter (by simp [c43])
 have hu:u8s (ba l)=bv l:=by rw [u8s_bv]; show bv (bl (ba l))=_; rw [bl_ba]
 simp [c43,hu]
 refine W_for T 0 20 l.length (fun i f τ=>f 9=.int .i64 (i:Int)∧f 8=.int .i64 (l.length:Int)∧f 7=.sl 0 0 l.length 1 false∧f 3=.int .u32 ((sumL (l.take i)).toNat:Int)∧τ=[.cells (bv l) 0 true]) ?_ _ _ ?_
 ·rintro i f τ hi ⟨f9,f8,f7,f3,rfl⟩
  by_cases hlt:i<l.length
  ·have w1:IntKind.i64.wrap ((i:Int)+1)=(i:Int)+1:=wr64 (by omega) (by omega)
   have hw:=bv_win hlt
   have hst:=step32 (sumL (l.take i)) l[i]
   simp [f9,f8,f7,f3,hlt,w1,hw,hst,sumL_snoc hlt]
  ·have he:i=l.length:=by omega
   subst he
   simp [f9,f8,f7,f3]
 ·simp [sumL]
theorem callSum (l:List UInt8) (hs:l.length≤1000000000) (bs:Nat) (σ:Heap):callT T 43 [.str (ba l)] bs σ=some (.int .u32 ((sumL l).toNat:Int),σ):=call_clean rfl rfl rfl rfl (sum_ok l hs)
open Go.Mach
theorem rowsB_snoc {l:List GW} {i:Nat} (h:i<l.length):rowsB (l.take (i+1))=rowsB (l.take i)++rowB l[i]:=by
 rw [rowsB_flat,rowsB_flat,List.take_add_one,zqF h,List.flatMap_append]; simp
theorem rowB_len (x:GW) (h:x.name.size≤16):(rowB x).length≤2 * GV.sizes x.args+26:=by
 have:=valsB_len x.args
 simp [rowB,textB,bl_len]; omega
theorem rowsB_len:∀ (l:List GW),(∀ x∈l,x.name.size≤16)→(rowsB l).length≤2 * sizesW l+26 * l.length
 | [],_=>by simp [rowsB]
 | x :: l,h=>by
  have h1:=rowB_len x (h x (by simp))
  have h2:=rowsB_len l fun y hy=>h y (by simp [hy])
  simp only [rowsB,zqJ,sizesW,zqU]; omega
theorem FOk.name {b:GF} (h:FOk b) {x:GW} (hx:x∈b.rows):rowOK b.to x=true∧x.name.size≤16∧x.args.length≤8∧(∀ v∈x.args,rightV 4 v=true)∧nearB x.stamp=true:=by
 obtain ⟨k,hk,rfl⟩:=zqS hx
 have h1:=(h.rows k hk _ (zqF hk)).1
 have h2:=h1
 simp only [rowOK,zqL,decide_eq_true_eq] at h2
 obtain ⟨⟨⟨⟨⟨a1,a2⟩,a3⟩,a4⟩,a5⟩,a6⟩:=h2
 exact ⟨h1,nameOK_size a1,a3,zqQ.1 a5,a4⟩
def preB (b:GF):List UInt8:=textB b.frm++(textB b.to++(nbB 8 b.start++(nbB 8 b.seq++nbB 2 b.rows.length)))
theorem bodyB_eq (b:GF):bodyB b=preB b++rowsB b.rows:=by simp [bodyB,preB]
theorem preB_len {b:GF} (h:FOk b):(preB b).length≤52:=by
 have h1:=nameOK_size h.frm
 have h2:=nameOK_size h.to
 simp [preB,textB,bl_len]; omega
theorem bodyB_len {b:GF} (h:FOk b) (hs:SzF b):(bodyB b).length≤200010452:=by
 have h1:=preB_len h
 have h2:=rowsB_len b.rows fun x hx=>(h.name hx).2.1
 have h3:=hs.tot
 have h4:=h.len
 rw [bodyB_eq,zqJ]; omega
theorem lay_yes (b:GF) (hs:SzF b) (h:FOk b):pureT T c25 [b.enc]=some (.tup [.str (ba (layB b)),.int .i64 0]):=by
 have hr:=callFRight b hs
 have hbl:=bodyB_len h hs
 have hpl:=preB_len h
 rw [GF.enc_eq,fokB_t.2 h] at hr
 have z1:=nameOK_size h.frm
 have z2:=nameOK_size h.to
 have hl4:=h.len
 obtain ⟨σ0,hσ0⟩:∃ σ0:Heap,σ0=[.cells [.str b.frm,.str b.to,.int .i64 b.start,.int .i64 b.seq,.isl (b.rows.map GW.enc) false] 0 false,.cells [.isl [] true] 0 false]:=⟨_,rfl⟩
 have S0:LyS 1 [] σ0:=⟨.isl [] true,by rw [hσ0]; rfl,LO.nil ..⟩
 have g0:σ0[0]?=some (.cells [.str b.frm,.str b.to,.int .i64 b.start,.int .i64 b.seq,.isl (b.rows.map GW.enc) false] 0 false):=by rw [hσ0]; rfl
 obtain ⟨σ1,c1,S1,K1⟩:=text_ok S0 b.frm (by simp; omega)
 have g1:=K1.cells g0 (by omega)
 obtain ⟨σ2,c2,S2,K2⟩:=text_ok S1 b.to (by simp [textB,bl_len]; omega)
 have g2:=K2.cells g1 (by omega)
 obtain ⟨σ3,c3,S3,K3⟩:=num_ok S2 8 (by omega) (by omega) b.start (by simp [textB,bl_len]; omega)
 have g3:=K3.cells g2 (by omega)
 obtain ⟨σ4,c4,S4,K4⟩:=num_ok S3 8 (by omega) (by omega) b.seq (by simp [textB,bl_len]; omega)
 have g4:=K4.cells g3 (by omega)
 obtain ⟨σ5,c5,S5,K5⟩:=num_ok S4 2 (by omega) (by omega) (b.rows.length:Int) (by simp [textB,bl_len]; omega)
 have g5:=K5.cells g4 (by omega)
 have e5:[]++textB b.frm++textB b.to++nbB 8 b.start++nbB 8 b.seq++nbB 2 (b.rows.length:Int)=preB b:=by simp [preB]
 rw [e5] at S5
 simp only [Int.cast_ofNat_Int] at c3 c4 c5
 apply pure_enter (by simp [c25])
 simp [c25,GF.enc_eq,hr,←hσ0,c1,g0,g1,c2,g2,c3,g3,c4,g4,c5,g5]
 refine W_for T 0 63 b.rows.length (fun i f τ=>f 4=.ptr 1 0∧f 29=.isl (b.rows.map GW.enc) false∧f 30=.int .i64 (b.rows.length:Int)∧f 31=.int .i64 (i:Int)∧LyS 1 (preB b++rowsB (b.rows.take i)) τ) ?_ _ _ ?_
 ·rintro i f τ hi ⟨f4,f29,f30,f31,hS⟩
  by_cases hlt:i<b.rows.length
  ·have w1:IntKind.i64.wrap ((i:Int)+1)=(i:Int)+1:=wr64 (by omega) (by omega)
   have hx:=h.name (zqT hlt)
   have hz:=hs.rows _ (zqT hlt)
   have hsn:=rowsB_snoc hlt
   have hbl1:(rowsB (b.rows.take i)).length+(rowB b.rows[i]).length≤(rowsB b.rows).length:=by
    have e:rowsB b.rows=rowsB (b.rows.take (i+1))++rowsB (b.rows.drop (i+1)):=by
     rw [rowsB_flat,rowsB_flat,rowsB_flat,←List.flatMap_append,List.take_append_drop]
    rw [e,hsn]; simp
   rw [bodyB_eq,zqJ] at hbl
   obtain ⟨nm,args,st,hr⟩:∃ nm args st,b.rows[i]=⟨nm,args,st⟩:=⟨_,_,_,rfl⟩
   rw [hr] at hx hz hsn hbl1
   obtain ⟨-,y1,y2,y3,-⟩:=hx
   have y4:GV.sizes args≤100000000:=hz.args
   have hg:b.rows[i]?=some ⟨nm,args,st⟩:=by rw [zqF hlt,hr]
   have hrl:(rowB ⟨nm,args,st⟩).length=1+nm.size+(1+((valsB args).length+8)):=by simp [rowB,textB,bl_len]; omega
   rw [hrl] at hbl1
   have y1':nm.size≤16:=y1
   have y2':args.length≤8:=y2
   obtain ⟨a,ha⟩:∃ a,a=τ.length:=⟨_,rfl⟩
   have ha1:a≠1:=by have:=hS.lt; omega
   obtain ⟨τ1,hτ1⟩:∃ τ1,τ1=τ++[.cells [.str nm,.isl (GV.encs args) false,.int .i64 st] 0 false]:=⟨_,rfl⟩
   have T1:LyS 1 (preB b++rowsB (b.rows.take i)) τ1:=by rw [hτ1]; exact hS.app _
   have q1:τ1[a]?=some (.cells [.str nm,.isl (GV.encs args) false,.int .i64 st] 0 false):=by rw [hτ1,ha]; simp
   obtain ⟨τ2,d2,T2,L2⟩:=text_ok T1 nm (by simp; omega)
   have q2:=L2.cells q1 ha1
   obtain ⟨τ3,d3,T3,L3⟩:=num_ok T2 1 (by omega) (by omega) (args.length:Int) (by simp [textB,bl_len]; omega)
   have q3:=L3.cells q2 ha1
   simp only [Int.cast_ofNat_Int] at d3
   simp [f4,f29,f30,f31,hlt,hr,setRun,GW.cls,←ha,←hτ1,q1,d2,q2,d3,q3]
   obtain ⟨P,hP⟩:∃ P,P=preB b++rowsB (b.rows.take i)++textB nm++nbB 1 (args.length:Int):=⟨_,rfl⟩
   rw [←hP] at T3
   have hPl:P.length+(valsB args).length≤200010452:=by rw [hP]; simp [textB,bl_len]; omega
   refine W_for T 0 63 args.length (fun k f' τ'=>f' 4=.ptr 1 0∧f' 6=.ptr a 0∧f' 29=.isl (b.rows.map GW.enc) false∧f' 30=.int .i64 (b.rows.length:Int)∧f' 31=.int .i64 (i:Int)∧f' 43=.isl (GV.encs args) false∧f' 44=.int .i64 (args.length:Int)∧f' 45=.int .i64 (k:Int) ∧
    LyS 1 (P++valsB (args.take k)) τ'∧τ'[a]?=some (.cells [.str nm,.isl (GV.encs args) false,.int .i64 st] 0 false)) ?_ _ _ ?_
   ·clear f4 f29 f30 f31 f
    rintro k f' τ' hk ⟨f4,f6,f29,f30,f31,f43,f44,f45,hS',q⟩
    by_cases hkt:k<args.length
    ·have w2:IntKind.i64.wrap ((k:Int)+1)=(k:Int)+1:=wr64 (by omega) (by omega)
     obtain ⟨τ4,hτ4⟩:∃ τ4,τ4=τ'++[.cells args[k].enc.cells 0 false]:=⟨_,rfl⟩
     have T4:LyS 1 (P++valsB (args.take k)) τ4:=by rw [hτ4]; exact hS'.app _
     have hm:=sizes_mem (zqT hkt)
     have htl:=valsB_snoc hkt
     have htl2:(valsB (args.take k)).length≤(valsB args).length:=by
      have e:valsB args=valsB (args.take k)++valsB (args.drop k):=by
       rw [valsB_flat,valsB_flat,valsB_flat,←List.flatMap_append,List.take_append_drop]
      rw [e]; simp
     obtain ⟨τ5,d5,T5,L5⟩:=value_ok _ args[k] (Nat.le_refl _) T4 (by simp; omega)
     have q4:τ4[a]?=some (.cells [.str nm,.isl (GV.encs args) false,.int .i64 st] 0 false):=by
      rw [hτ4,zqA (zqI.1 q).1]; exact q
     have q5:=L5.cells q4 ha1
     rw [zqP,←htl] at T5
     have q4':τ4[τ'.length]?=some (.cells args[k].enc.cells 0 false):=by rw [hτ4]; simp
     rw [GV.enc_cells] at hτ4 q4'
     simp [f4,f6,f29,f30,f31,f43,f44,f45,hkt,w2,setRun,←hτ4,q4',d5,q5]
     exact T5
    ·have he:k=args.length:=by omega
     subst he
     rw [List.take_of_length_le (Nat.le_refl _)] at hS'
     obtain ⟨τ6,d6,T6,L6⟩:=num_ok hS' 8 (by omega) (by omega) st (by simp; omega)
     simp only [Int.cast_ofNat_Int] at d6
     have hfin:P++valsB args++nbB 8 st=preB b++rowsB (b.rows.take (i+1)):=by rw [hsn,hP]; simp [rowB]
     rw [hfin] at T6
     simp [f4,f6,f29,f30,f31,f43,f44,f45,q,d6,w1,hlt]
     exact T6
   ·simp
    exact ⟨f4,f29,f30,f31,by simpa [valsB] using T3,q3⟩
  ·have he:i=b.rows.length:=by omega
   subst he
   rw [List.take_of_length_le (Nat.le_refl _),←bodyB_eq] at hS
   obtain ⟨x,hx,hL⟩:=hS.ex
   obtain ⟨σ6,c6,S6,K6⟩:=num_ok hS 4 (by omega) (by omega) ((sumL (bodyB b)).toNat:Int) (by omega)
   obtain ⟨x2,hx2,hL2⟩:=S6.ex
   have hlay:bodyB b++nbB 4 ((sumL (bodyB b)).toNat:Int)=layB b:=rfl
   rw [hlay] at hL2
   have hsum:=callSum (bodyB b) (by omega)
   have b1:b2sV τ x=some (.str (ba (bodyB b))):=by
    rcases hL with ⟨e,rfl⟩ | ⟨k,rfl,_⟩
    ·rw [bv_nil] at e; rw [e]; rfl
    ·simp [b2sV,isSl,elemsA,bytesA_bv,ba]
   have b2:b2sV σ6 x2=some (.str (ba (layB b))):=by
    rcases hL2 with ⟨e,rfl⟩ | ⟨k,rfl,_⟩
    ·rw [bv_nil] at e; rw [e]; rfl
    ·simp [b2sV,isSl,elemsA,bytesA_bv,ba]
   have hlt32:(sumL (bodyB b)).toNat<4294967296:=(sumL (bodyB b)).isLt
   have hw:IntKind.i64.wrap ((sumL (bodyB b)).toNat:Int)=((sumL (bodyB b)).toNat:Int):=wr64 (by omega) (by omega)
   simp only [Int.cast_ofNat_Int] at c6
   simp [f4,f29,f30,f31,hx,b1,hsum,hw,c6,hx2,b2]
 ·simp
  simpa [rowsB] using S5
open Go.Mach
open Go.Mach
def tk (st:TS):AObj:=.cells [.str (ba st.1),.bool st.2] 0 false
open Go.Mach
structure Tk (σ:Heap) (t:Nat) (st:TS) (cs:List AV) (τ:Heap):Prop where
 lt:t<σ.length
 len:σ.length+1≤τ.length
 at':τ[t]?=some (tk st)
 obj:τ[σ.length]?=some (.cells cs 0 false)
 keep:∀ i,i<σ.length→i≠t→τ[i]?=σ[i]?
theorem Tk.set {σ τ:Heap} {t:Nat} {st:TS} {cs:List AV} (h:Tk σ t st cs τ) (st':TS):Tk σ t st' cs (τ.set t (tk st')):=by
 have h1:=h.lt
 have h2:=h.len
 exact ⟨h1,by simpa using h2,List.getElem?_set_self (by omega),by rw [zqC (by omega)]; exact h.obj,fun i hi hne=>by rw [zqC (Ne.symm hne)]; exact h.keep i hi hne⟩
theorem Tk.put {σ τ:Heap} {t:Nat} {st:TS} {cs:List AV} (h:Tk σ t st cs τ) (cs':List AV):Tk σ t st cs' (τ.set σ.length (.cells cs' 0 false)):=by
 have h1:=h.lt
 have h2:=h.len
 exact ⟨h1,by simpa using h2,by rw [zqC (by omega)]; exact h.at',List.getElem?_set_self (by omega),fun i hi hne=>by rw [zqC (by omega)]; exact h.keep i hi hne⟩
theorem Tk.drop {σ τ:Heap} {t:Nat} {st:TS} {cs:List AV} (h:Tk σ t st cs τ):τ.take σ.length=σ.set t (tk st):=by
 have h1:=h.lt
 have h2:=h.len
 apply List.ext_getElem?
 intro i
 rw [List.getElem?_take]
 by_cases hi:i<σ.length
 ·rw [if_pos hi]
  by_cases e:i=t
  ·subst e; rw [h.at',List.getElem?_set_self h1]
  ·rw [h.keep i hi e,zqC (Ne.symm e)]
 ·rw [if_neg hi,List.getElem?_eq_none (by simp; omega)]
theorem Tk.same {σ τ τ':Heap} {t:Nat} {st:TS} {cs:List AV} (h:Tk σ t st cs τ) (hl:τ.length≤τ'.length) (hk:∀ i,i<σ.length+1→τ'[i]?=τ[i]?):Tk σ t st cs τ':=by
 have h1:=h.lt
 have h2:=h.len
 exact ⟨h1,by omega,by rw [hk t (by omega)]; exact h.at',by rw [hk _ (by omega)]; exact h.obj,fun i hi hne=>by rw [hk i (by omega)]; exact h.keep i hi hne⟩
open Go.Mach
open Go.Mach
theorem sizes_sum:∀ l:List GV,GV.sizes l=(l.map GV.size).sum
 | []=>rfl
 | v :: l=>by simp only [GV.sizes,List.map_cons,List.sum_cons,sizes_sum l]
theorem sizesW_sum:∀ l:List GW,sizesW l=(l.map fun x=>GV.sizes x.args).sum
 | []=>rfl
 | v :: l=>by simp only [sizesW,List.map_cons,List.sum_cons,sizesW_sum l]
theorem mem_le_sum {l:List Nat} {x:Nat} (h:x∈l):x≤l.sum:=by
 induction l with
 | nil=>cases h
 | cons y l ih=>
  rcases List.mem_cons.1 h with rfl | h
  ·simp
  ·have:=ih h; simp only [List.sum_cons]; omega
open Go.Mach
def rk (S:List UInt8) (st:TS):AObj:=.cells [.str (ba S),.int .i64 ((S.length - st.1.length:Nat):Int),.bool st.2] 0 false
def Sfx (S:List UInt8) (st:TS):Prop:=∃ p,p++st.1=S
theorem Sfx.take {S:List UInt8} {st:TS} (h:Sfx S st) (n:Nat):Sfx S (takeN n st).2:=by
 unfold takeN
 split
 ·exact h
 ·obtain ⟨p,hp⟩:=h
  exact ⟨p++st.1.take n,by simp [hp]⟩
theorem Sfx.num {S:List UInt8} {st:TS} (h:Sfx S st) (n:Nat):Sfx S (nbT n st).2:=h.take n
theorem Sfx.text {S:List UInt8} {st:TS} (h:Sfx S st):Sfx S (textT st).2:=(h.num 1).take _
structure Tr (S:List UInt8) (σ:Heap) (t:Nat) (st:TS) (cs:List AV) (τ:Heap):Prop where
 lt:t<σ.length
 len:σ.length+2≤τ.length
 sfx:Sfx S st
 at':τ[t]?=some (rk S st)
 obj0:τ[σ.length]?=some (.cells [.int .i64 0,.int .i64 0,.str ⟨#[]⟩,.isl [] true] 0 false)
 obj:τ[σ.length+1]?=some (.cells cs 0 false)
 keep:∀ i,i<σ.length→i≠t→τ[i]?=σ[i]?
theorem Tr.set {S:List UInt8} {σ τ:Heap} {t:Nat} {st:TS} {cs:List AV} (h:Tr S σ t st cs τ) (st':TS) (hx:Sfx S st'):Tr S σ t st' cs (τ.set t (rk S st')):=by
 have h1:=h.lt
 have h2:=h.len
 exact ⟨h1,by simpa using h2,hx,List.getElem?_set_self (by omega),by rw [zqC (by omega)]; exact h.obj0,by rw [zqC (by omega)]; exact h.obj,fun i hi hne=>by rw [zqC (Ne.symm hne)]; exact h.keep i hi hne⟩
theorem Tr.put {S:List UInt8} {σ τ:Heap} {t:Nat} {st:TS} {cs:List AV} (h:Tr S σ t st cs τ) (cs':List AV):Tr S σ t st cs' (τ.set (σ.length+1) (.cells cs' 0 false)):=by
 have h1:=h.lt
 have h2:=h.len
 exact ⟨h1,by simpa using h2,h.sfx,by rw [zqC (by omega)]; exact h.at',by rw [zqC (by omega)]; exact h.obj0,List.getElem?_set_self (by omega),fun i hi hne=>by rw [zqC (by omega)]; exact h.keep i hi hne⟩
theorem Tr.same {S:List UInt8} {σ τ τ':Heap} {t:Nat} {st:TS} {cs:List AV} (h:Tr S σ t st cs τ) (hl:τ.length≤τ'.length) (hk:∀ i,i<σ.length+2→τ'[i]?=τ[i]?):Tr S σ t st cs τ':=by
 have h1:=h.lt
 have h2:=h.len
 exact ⟨h1,by omega,h.sfx,by rw [hk t (by omega)]; exact h.at',by rw [hk _ (by omega)]; exact h.obj0,by rw [hk _ (by omega)]; exact h.obj,fun i hi hne=>by rw [hk i (by omega)]; exact h.keep i hi hne⟩
theorem Tr.drop {S:List UInt8} {σ τ τ':Heap} {t:Nat} {st:TS} {cs:List AV} (h:Tr S σ t st cs τ) (hk:∀ i,i<σ.length→τ'[i]?=τ[i]?) (hl:τ.length≤τ'.length):τ'.take σ.length=σ.set t (rk S st):=by
 have h1:=h.lt
 have h2:=h.len
 apply List.ext_getElem?
 intro i
 rw [List.getElem?_take]
 by_cases hi:i<σ.length
 ·rw [if_pos hi,hk i hi]
  by_cases e:i=t
  ·subst e; rw [h.at',List.getElem?_set_self h1]
  ·rw [h.keep i hi e,zqC (Ne.symm e)]
 ·rw [if_neg hi,List.getElem?_eq_none (by simp; omega)]
open Go.Mach
end Go.Proofs.Ytkfiepnkedcmgaa
end
section
namespace Go.Mach
theorem closeX_row {N j:Nat} {σ:Heap} {nm:ByteArray} {st:Int} {es:List AV} {la:AV} (hL:LX N 4 σ es la) (hj:σ[j]?=some (.cells [.str nm,la,.int .i64 st] 0 false)) :
  ∃ σ1 z fj,closeX σ (.sl j 0 1 3 true)=σ1∧σ1[j]?=some (.cells [.str nm,z,.int .i64 st] fj false)∧z.clo1=true∧z.nrm=.isl es false∧σ1.length=σ.length∧∀ i,i<N→i≠j→σ1[i]?=σ[i]?:=by
 have hjl:=(zqI.1 hj).1
 rcases hL with ⟨rfl,rfl⟩ | ⟨k,cs,fz,rfl,hN,hk,hl,hc,rfl⟩ | ⟨k,rfl,hN,hk,hes⟩
 ·refine ⟨σ,.isl [] true,0,?_,hj,rfl,rfl,rfl,fun _ _ _=>rfl⟩
  simp [closeX,hj,AV.clo1]
 ·have hkj:j≠k:=by rintro rfl; rw [hj] at hk; injection hk with hk; injection hk with hk; subst hk; simp at hl
  have hc1:=close1_of0 (close0_one hk hl hc)
  have hcl:closeL σ [.str nm,.sl k 0 1 4 true,.int .i64 st]=some ([.str nm,.isl [.agg (cs.map AV.nrm)] false,.int .i64 st],frz σ k 4):=by
   simp [closeL,hc1]
  have hg:(frz σ k 4)[j]?=some (.cells [.str nm,.sl k 0 1 4 true,.int .i64 st] 0 false):=by rw [frz_get hkj]; exact hj
  have he:closeX σ (.sl j 0 1 3 true)=(frz σ k 4).set j (.cells [.str nm,.isl [.agg (cs.map AV.nrm)] false,.int .i64 st] 0 false):=by
   simp only [closeX,hj]
   rw [if_neg (by simp [AV.clo1])]
   simp only [hcl,hg]
   rw [if_pos ⟨by simp [AV.clo1],rfl⟩]
  refine ⟨_,.isl [.agg (cs.map AV.nrm)] false,0,he,List.getElem?_set_self (by rw [frz_len]; exact hjl),rfl,rfl,by simp [frz_len],fun i hi hne=>?_⟩
  rw [zqC (Ne.symm hne),frz_get (by omega)]
 ·have hkj:j≠k:=by rintro rfl; rw [hj] at hk; cases hk
  have hcl:closeL σ [.str nm,.own k es,.int .i64 st]=some ([.str nm,.isl es false,.int .i64 st],σ):=by
   have:close1 σ (.own k es)=some (.isl es false,σ):=close1_of0 rfl
   simp [closeL,this]
  have he:closeX σ (.sl j 0 1 3 true)=σ.set j (.cells [.str nm,.isl es false,.int .i64 st] 0 false):=by
   simp only [closeX,hj]
   rw [if_neg (by simp [AV.clo1])]
   simp only [hcl,hj]
   rw [if_pos ⟨by simp [AV.clo1],rfl⟩]
  refine ⟨_,.isl es false,0,he,List.getElem?_set_self hjl,rfl,rfl,by simp,fun i hi hne=>?_⟩
  rw [zqC (Ne.symm hne)]
end Go.Mach
namespace Go.Proofs.Ytkfiepnkedcmgaa
open Go.Mach
structure Tb (S:List UInt8) (st:TS) (cs:List AV) (τ:Heap):Prop where
 len:3≤τ.length
 sfx:Sfx S st
 z:τ[0]?=some (.cells [.str ⟨#[]⟩,.str ⟨#[]⟩,.int .i64 0,.int .i64 0,.isl [] true] 0 false)
 rd:τ[1]?=some (rk S st)
 obj:τ[2]?=some (.cells cs 0 false)
end Go.Proofs.Ytkfiepnkedcmgaa
end
section
namespace Go.Mach
theorem LX.closeR {N sz:Nat} {σ:Heap} {es:List AV} {x:AV} (h:LX N sz σ es x):∃ σ',Go.Mach.closeR σ x=some (.isl es false,σ'):=by
 obtain ⟨σ',h1,-⟩:=h.close
 have h2:=close1_of0 h1
 rcases h with ⟨rfl,rfl⟩ | ⟨k,cs,fz,rfl,_⟩ | ⟨k,rfl,_⟩ <;> exact ⟨σ',h2⟩
end Go.Mach
namespace Go.Proofs.Ytkfiepnkedcmgaa
open Go.Mach
theorem pick15_ok (c n:Int) (h:n≠0):pureT T c36 [.int .i64 c,.int .i64 n]=some (.int .i64 ((if c<0 then IntKind.i64.wrap (0 - IntKind.i64.wrap (c+1)) else c).tmod n)):=by
 apply pure_enter (by simp [c36])
 by_cases hc:c<0
 ·simp [c36,hc,h]
 ·simp [c36,hc,h]
theorem pick15 (c:Int) (n:Nat) (h:0<n) (h1:GV.i64ok c) (bs:Nat) (σ:Heap) :
  callT T 36 [.int .i64 c,.int .i64 (n:Int)] bs σ=some (.int .i64 (pickN c n:Int),σ):=by
 refine call_clean rfl rfl rfl rfl ?_
 rw [pick15_ok c n (by omega),pick_eq c n h h1.1 h1.2]
theorem pick10_ok (c n:Int) (h:n≠0):pureT T c60 [.int .i64 c,.int .i64 n]=some (.int .i64 ((if c<0 then IntKind.i64.wrap (0 - IntKind.i64.wrap (c+1)) else c).tmod n)):=by
 apply pure_enter (by simp [c60])
 by_cases hc:c<0
 ·simp [c60,hc,h]
 ·simp [c60,hc,h]
theorem pick10 (c:Int) (n:Nat) (h:0<n) (h1:GV.i64ok c) (bs:Nat) (σ:Heap) :
  callT T 60 [.int .i64 c,.int .i64 (n:Int)] bs σ=some (.int .i64 (pickN c n:Int),σ):=by
 refine call_clean rfl rfl rfl rfl ?_
 rw [pick10_ok c n (by omega),pick_eq c n h h1.1 h1.2]
theorem pick10_9 (c:Int) (h1:GV.i64ok c) (bs:Nat) (σ:Heap):callT T 60 [.int .i64 c,.int .i64 9] bs σ=some (.int .i64 (pickN c 9:Int),σ):=pick10 c 9 (by omega) h1 bs σ
def rowX (x:GRaw):GW:=⟨(factR x).name,(factR x).args,(pickN x.n3 9:Int)⟩
def rowsX (l:List GRaw):List GW:=(l.take 40).map rowX
theorem rows10_ok (facts:List GRaw) (hx:FactsOk facts):pureT T c37 [.isl (facts.map GRaw.enc) false]=some (.isl ((rowsX facts).map GW.enc) false):=by
 obtain ⟨hok,hlen⟩:=hx
 have hrl:(rowsX facts).length=min 40 facts.length:=by simp [rowsX]
 apply pure_enter (by simp [c37])
 simp [c37]
 refine W_for T 0 37 (min 40 facts.length) (fun i f τ=>f 0=.isl (facts.map GRaw.enc) false∧f 4=.int .i64 (i:Int)∧∃ l,f 3=l∧LX 0 3 τ (((rowsX facts).take i).map GW.enc) l) ?_ _ _ ?_
 ·rintro i f τ hi ⟨f0,f4,l,f3,Li⟩
  by_cases hlt:i<min 40 facts.length
  ·have hl1:i<facts.length:=by omega
   have hl2:(i:Int)<40:=by omega
   have w1:IntKind.i64.wrap ((i:Int)+1)=(i:Int)+1:=wr64 (by omega) (by omega)
   have hk:=hok _ (zqT hl1)
   have hc:=callFact6 facts[i] hk
   rw [GRaw.enc_eq] at hc
   have hp:=pick10_9 facts[i].n3 hk.2.2.2.2.2
   have hrx:(rowsX facts)[i]?=some (rowX facts[i]):=by simp [rowsX,hl1,show i<40 by omega]
   simp [f0,f3,f4,hl1,hl2,w1,hc,GU.enc_eq,setRun,hp,chkO_l,objOf,GRaw.enc_eq,-appendA_ag]
   refine stW_app2 (N:=0) Li rfl rfl (by omega) (by omega) (by omega) (by simp; omega) fun x' σ' hL' hlen' hk'=>?_
   have e:((rowsX facts).take i).map GW.enc++[AV.agg (List.map AV.nrm [.str (factR facts[i]).name,.isl (GV.encs (factR facts[i]).args) false,.int .i64 (pickN facts[i].n3 9:Int)])]=((rowsX facts).take (i+1)).map GW.enc:=by
    rw [List.take_add_one,hrx]; simp [GW.enc,GW.cls,rowX]
   rw [e] at hL'
   simp [f0,f4,w1,hlt]
   rw [List.map_take] at hL'
   exact hL'
  ·have he:i=min 40 facts.length:=by omega
   have hrt:(rowsX facts).take i=rowsX facts:=List.take_of_length_le (by omega)
   rw [hrt] at Li
   obtain ⟨τ6,hcl⟩:=Li.closeR
   by_cases h1:i<facts.length
   ·have h2:¬ (i:Int)<40:=by omega
    simp [f0,f3,f4,h1,h2,hcl]
   ·simp [f0,f3,f4,h1,hcl]
 ·exact ⟨by simp,by simp,.isl [] true,by simp,.inl ⟨by simp,rfl⟩⟩
end Go.Proofs.Ytkfiepnkedcmgaa
end
section
namespace Go.Mach
theorem LX.isl {N sz bytes:Nat} {b:Bool} {σ:Heap} {es:List AV} {x:AV} (h:LX N sz σ es x) (ys:List AV) (hok:ys.all (okEl sz true)=true) (hl:es.length+ys.length≤1000000000) (h0:0<sz) (hb:bytes≤1000) (hN:N≤σ.length) :
  ∃ x' σ',appendC σ sz true bytes false x (.isl ys b)=some (x',σ')∧LX N sz σ' (es++ys) x'∧σ.length≤σ'.length∧∀ (i:Nat) (o:AObj),σ[i]?=some o→(i<N∨((∀ n,o≠.tok n sz)∧∀ cs fz,o=.cells cs fz false→cs.length≠sz))→σ'[i]?=some o:=by
 rw [appendC_isl]
 have he2:elemsN σ sz true (.isl ys b)=some ys:=rfl
 rcases h with ⟨rfl,rfl⟩ | ⟨k,cs,fz,rfl,hkN,hk,hcl,hcc,rfl⟩ | ⟨k,rfl,hkN,hk,hes⟩
 ·rw [closeS_isl]
  by_cases hy:ys=[]
  ·subst hy
   refine ⟨.isl [] true,σ,by simp [appendA,elemsN,elemsA,isSl],.inl ⟨rfl,rfl⟩,Nat.le_refl _,fun i o h _=>h⟩
  ·have he1:elemsA σ sz true (.isl [] true)=some []:=rfl
   have hmul:(0+ys.length) * bytes≤1000000000 * 1000:=Nat.mul_le_mul (by simpa using hl) hb
   have hn:¬ (sz=0∨(0+ys.length) * bytes > 70368744177664∨0+ys.length > 70368744177664):=by simp at hl; omega
   refine ⟨.own σ.length ys,σ++[.tok ys.length sz],?_,.inr (.inr ⟨σ.length,by simp,hN,by simp,by simpa using hok⟩),by simp,fun i o h _=>by rw [zqA (zqI.1 h).1]; exact h⟩
   simp only [appendA,he1,he2,Option.bind_some,isSl,if_neg hy,List.length_nil,if_neg hn]
   simp [hok]
 ·obtain ⟨c1,c2⟩:=LX.closeS_len (σ:=σ) k sz
  have hkl:=(zqI.1 hk).1
  have tidyN:∀ l:List AV,l.all AV.tidy=true→l.map AV.nrm=l:=fun l hl=>by
   rw [zqQ] at hl
   rw [List.map_congr_left (g:=fun y=>y) (fun x hx=>?_),List.map_id']
   have:=hl x hx
   cases x with
   | isl es b=>cases b with
    | true=>cases this
    | false=>rfl
   | _=>rfl
  have k1:∃ fz',(closeS σ (.sl k 0 1 sz true))[k]?=some (.cells (cs.map AV.nrm) fz' false):=by
   simp only [closeS,hk]
   split
   ·exact ⟨fz,by simp [hkl]⟩
   ·rename_i hn
    have:cs.all AV.tidy=true:=by
     cases h:cs.all AV.tidy with
     | true=>rfl
     | false=>exact absurd ⟨h,hcc⟩ hn
    rw [tidyN cs this]; exact ⟨fz,hk⟩
  obtain ⟨fz',k1⟩:=k1
  have hkeep:∀ (i:Nat) (o:AObj),σ[i]?=some o→(i<N∨((∀ n,o≠.tok n sz)∧∀ cs fz,o=.cells cs fz false→cs.length≠sz))→(closeS σ (.sl k 0 1 sz true))[i]?=some o:=fun i o hi h12=>by
   have hne:i≠k:=by
    rintro rfl
    rw [hk] at hi; injection hi with hi
    rcases h12 with h | ⟨_,h2⟩
    ·omega
    ·exact h2 cs fz hi.symm hcl
   rw [c2 i hne]; exact hi
  have hnn:((cs.map AV.nrm).map AV.nrm)=cs.map AV.nrm:=by
   rw [List.map_map]; apply List.map_congr_left; intro x _
   cases x <;> rfl
  have hcl':(cs.map AV.nrm).length=sz:=by simpa using hcl
  have hcc':=nrm_all hcc
  generalize closeS σ (.sl k 0 1 sz true)=τ at *
  by_cases hy:ys=[]
  ·subst hy
   refine ⟨.sl k 0 1 sz true,τ,?_,.inr (.inl ⟨k,cs.map AV.nrm,fz',rfl,hkN,k1,hcl',hcc',by rw [hnn]; simp⟩),by omega,hkeep⟩
   have e1:=elems_ag1 k1 hcl'
   simp [appendA,elemsN,elemsA,isSl] at e1 ⊢
   simp [e1]
  ·have e1:=elems_ag1 k1 hcl'
   have he2':elemsN τ sz true (.isl ys b)=some ys:=rfl
   have hmul:(1+ys.length) * bytes≤1000000000 * 1000:=Nat.mul_le_mul (by simpa using hl) hb
   have hn:¬ (sz=0∨(1+ys.length) * bytes > 70368744177664∨1+ys.length > 70368744177664):=by simp at hl; omega
   have o1:okEl sz true (.agg (cs.map AV.nrm))=true:=by simp only [okEl,AV.clo,hcc',AV.cells,hcl',decide_true,Bool.and_self]
   refine ⟨.own τ.length (.agg (cs.map AV.nrm) :: ys),τ++[.tok (1+ys.length) sz],?_,.inr (.inr ⟨τ.length,rfl,by omega,by simp; omega,by simp [o1]; simpa using hok⟩),by simp; omega,fun i o hi h12=>by
    have:=hkeep i o hi h12
    rw [zqA (zqI.1 this).1]; exact this⟩
   simp only [appendA,e1,he2',Option.bind_some,isSl,if_neg hy,List.length_singleton,if_neg hn,k1]
   simp [hok,o1,hcl]
 ·rw [closeS_own]
  have hkl:=(zqI.1 hk).1
  by_cases hy:ys=[]
  ·subst hy
   exact ⟨.own k es,σ,by simp [appendA,elemsN,elemsA,isSl],.inr (.inr ⟨k,by simp,hkN,by simpa using hk,by simpa using hes⟩),Nat.le_refl _,fun i o h _=>h⟩
  ·have he1:elemsA σ sz true (.own k es)=some es:=rfl
   have hmul:(es.length+ys.length) * bytes≤1000000000 * 1000:=Nat.mul_le_mul hl hb
   have hn:¬ (sz=0∨(es.length+ys.length) * bytes > 70368744177664∨es.length+ys.length > 70368744177664):=by omega
   refine ⟨.own k (es++ys),σ.set k (.tok (es.length+ys.length) sz),?_,.inr (.inr ⟨k,rfl,hkN,by rw [zqJ,List.getElem?_set_self hkl],by simp [List.all_append,hes,hok]⟩),by simp,fun i o hi h12=>?_⟩
   ·simp only [appendA,he1,he2,Option.bind_some,isSl,if_neg hy,if_neg hn,hk]
    simp [hok,hes]
   ·have:k≠i:=by
     rintro rfl
     rw [hk] at hi; injection hi with hi
     rcases h12 with h | ⟨h1,_⟩
     ·omega
     ·exact h1 _ hi.symm
    rw [zqC this]; exact hi
theorem LX.put {N sz j fz:Nat} {ext:Bool} {σ:Heap} {es cs:List AV} {x:AV} (h:LX N sz σ es x) (hj:σ[j]?=some (.cells cs fz ext)) (hne:cs.length≠sz) (o:AObj):LX N sz (σ.set j o) es x:=by
 rcases h with h | ⟨k,cs',fz',h1,h2,h3,h4,h5⟩ | ⟨k,h1,h2,h3,h4⟩
 ·exact .inl h
 ·have:j≠k:=by rintro rfl; rw [hj] at h3; injection h3 with h3; injection h3 with h3; subst h3; exact hne h4
  exact .inr (.inl ⟨k,cs',fz',h1,h2,by rw [zqC this]; exact h3,h4,h5⟩)
 ·have:j≠k:=by rintro rfl; rw [hj] at h3; cases h3
  exact .inr (.inr ⟨k,h1,h2,by rw [zqC this]; exact h3,h4⟩)
end Go.Mach
end
section
namespace Go.Proofs.Ytkfiepnkedcmgaa
open Go.Mach
theorem nameFit_le (s:ByteArray):(nameFit s).size≤16:=(nameFit_size s).2
theorem textFit_le (s:ByteArray):(textFit s).size≤s.size:=by
 have h:textFit s=ba ((s.data.toList.take 32).map textC):=rfl
 rw [h,baF_size]
 have:s.data.toList.length=s.size:=by simp
 simp; omega
theorem fitV_size:∀ (d:Nat) (v:GV),(fitV d v).size≤5 * v.size
 | d,.mk k n t l=>by
  have hz:(⟨#[]⟩:ByteArray).size=0:=rfl
  have h1:=nameFit_le t
  have h2:=textFit_le t
  unfold fitV
  split
  ·simp only [GV.size,GV.sizes,hz]; omega
  split
  ·simp only [GV.size,GV.sizes,GV.text]; omega
  split
  ·simp only [GV.size,GV.sizes,GV.text]; omega
  split
  ·simp only [GV.size,GV.sizes,hz]; omega
  ·rename_i d'
   have hs:GV.sizes ((l.take 16).map fun x=>fitV d' (if d'=0∧pickN x.kind 4=3 then .mk 0 x.num x.text x.items else x))≤5 * GV.sizes (l.take 16):=by
    generalize l.take 16=m
    induction m with
    | nil=>simp [GV.sizes]
    | cons x m ih=>
     have hx:=fitV_size d' (if d'=0∧pickN x.kind 4=3 then .mk 0 x.num x.text x.items else x)
     have he:(if d'=0∧pickN x.kind 4=3 then (.mk 0 x.num x.text x.items:GV) else x).size=x.size:=by
      split
      ·cases x; rfl
      ·rfl
     rw [he] at hx
     simp only [List.map_cons,GV.sizes]; omega
   have h16:GV.sizes (l.take 16)≤GV.sizes l:=by
    rw [sizes_sum,sizes_sum,List.map_take]
    generalize l.map GV.size=m
    have:m.sum=(m.take 16).sum+(m.drop 16).sum:=by rw [←List.sum_append,List.take_append_drop]
    omega
   have hz':(GV.mk 4 0 ⟨#[]⟩ ((l.take 16).map fun x=>fitV d' (if d'=0∧pickN x.kind 4=3 then .mk 0 x.num x.text x.items else x))).size=(⟨#[]⟩:ByteArray).size+GV.sizes ((l.take 16).map fun x=>fitV d' (if d'=0∧pickN x.kind 4=3 then .mk 0 x.num x.text x.items else x))+5:=rfl
   have hv':(GV.mk k n t l).size=t.size+GV.sizes l+5:=rfl
   simp only [GV.items]
   rw [hz',hv',hz]; omega
theorem fit_le (v:GV):(fit v).size≤5 * v.size:=fitV_size 4 v
def toV:GV:=.mk 3 0 ⟨#[98]⟩ []
def bRow (more:List GV) (i:Nat) (x:GW):GW:=⟨x.name,toV :: x.args.drop 1++(match more[i]? with | some v=>[fit v] | none=>[]),x.stamp⟩
def bRows (more:List GV) (l:List GW):Nat→List GW
 | 0=>[]
 | i+1=>bRows more l i++(match l[i]? with | some x=>[bRow more i x] | none=>[])
theorem bRows_succ {more:List GV} {l:List GW} {i:Nat} (h:i<l.length):bRows more l (i+1)=bRows more l i++[bRow more i l[i]]:=by
 rw [bRows,zqF h]
theorem bRows_len (more:List GV) (l:List GW):∀ i,i≤l.length→(bRows more l i).length=i
 | 0,_=>rfl
 | i+1,h=>by rw [bRows_succ (by omega),zqJ,bRows_len more l i (by omega)]; rfl
theorem bRows_mem {more:List GV} {l:List GW}:∀ {i:Nat},i≤l.length→∀ {x:GW},x∈bRows more l i→∃ k,∃ h:k<l.length,x=bRow more k l[k]
 | 0,_,x,hx=>by simp [bRows] at hx
 | i+1,h,x,hx=>by
  rw [bRows_succ (by omega)] at hx
  rcases List.mem_append.1 hx with hx | hx
  ·exact bRows_mem (by omega) hx
  ·simp at hx; exact ⟨i,by omega,hx⟩
theorem GV_okEl (l:List GV):(GV.encs l).all (okEl 4 true)=true:=by
 rw [zqQ]; intro x hx
 rw [GV.encs_map] at hx; obtain ⟨v,_,rfl⟩:=List.mem_map.1 hx
 rw [GV.enc_eq]; rfl
theorem sizes_app (a b:List GV):GV.sizes (a++b)=GV.sizes a+GV.sizes b:=by simp [sizes_sum]
theorem sizesW_app (a b:List GW):sizesW (a++b)=sizesW a+sizesW b:=by simp [sizesW_sum]
theorem addrN_size (n:Nat):(addrN n).size≤1:=by
 unfold addrN
 match n with
 | 0=>decide
 | 1=>decide
 | 2=>decide
 | 3=>decide
 | n+4=>simp; decide
theorem fargR_size (x:GRaw) (i:Nat):(fargR x i).size≤6:=by
 have hz:(⟨#[]⟩:ByteArray).size=0:=rfl
 unfold fargR
 split
 ·have:=addrN_size (pickN ((x.at' i).tdiv 2) 4)
  simp only [addrV,GV.size,GV.sizes]; omega
 ·simp only [numV,GV.size,GV.sizes,hz]; omega
theorem rowX_size (x:GRaw):GV.sizes (rowX x).args≤18:=by
 have h:∀ m:List Nat,GV.sizes (m.map (fargR x))≤6 * m.length:=fun m=>by
  induction m with
  | nil=>simp [GV.sizes]
  | cons i m ih=>have:=fargR_size x i; simp only [List.map_cons,GV.sizes,zqU]; omega
 have h2:=h (List.range (relR x).arity.toNat)
 have h3:=(rel_arity x).2.1
 simp at h2
 show GV.sizes ((List.range (relR x).arity.toNat).map (fargR x))≤18
 omega
theorem bRow_size (more:List GV) (i:Nat) (x:GRaw):GV.sizes (bRow more i (rowX x)).args≤24+(match more[i]? with | some v=>5 * v.size | none=>0):=by
 have h1:=rowX_size x
 have h2:GV.sizes ((rowX x).args.drop 1)≤GV.sizes (rowX x).args:=by
  have:GV.sizes (rowX x).args=GV.sizes ((rowX x).args.take 1)+GV.sizes ((rowX x).args.drop 1):=by rw [←sizes_app,List.take_append_drop]
  omega
 have h3:toV.size=6:=by decide
 simp only [bRow]
 rw [List.cons_append,GV.sizes,sizes_app]
 cases h:more[i]? with
 | none=>simp only [GV.sizes]; omega
 | some v=>have:=fit_le v; simp only [GV.sizes]; omega
theorem bRows_size (more:List GV) (facts:List GRaw):∀ i,i≤(rowsX facts).length→sizesW (bRows more (rowsX facts) i)≤24 * i+5 * GV.sizes (more.take i)
 | 0,_=>by simp [bRows,sizesW]
 | i+1,h=>by
  have ih:=bRows_size more facts i (by omega)
  have hxl:(rowsX facts).length=(facts.take 40).length:=by simp [rowsX]
  obtain ⟨y,hy⟩:∃ y,(rowsX facts)[i]'(by omega)=rowX y:=⟨(facts.take 40)[i]'(by omega),by simp [rowsX]⟩
  have hb:=bRow_size more i y
  rw [bRows_succ (by omega),sizesW_app,hy,List.take_add_one (l:=more)]
  simp only [sizesW]
  cases hm:more[i]? with
  | none=>rw [hm] at hb; simp at hb ⊢; omega
  | some v=>rw [hm] at hb; rw [sizes_app]; simp [GV.sizes] at hb ⊢; omega
theorem sizes_take_le (l:List GV) (i:Nat):GV.sizes (l.take i)≤GV.sizes l:=by
 have:GV.sizes l=GV.sizes (l.take i)+GV.sizes (l.drop i):=by rw [←sizes_app,List.take_append_drop]
 omega
theorem sizesW_mem {l:List GW} {x:GW} (h:x∈l):GV.sizes x.args≤sizesW l:=by
 rw [sizesW_sum]; exact mem_le_sum (List.mem_map_of_mem (f:=fun x:GW=>GV.sizes x.args) h)
theorem sizesW_sub:∀ {K L:List GW},K.Nodup→(∀ x∈K,x∈L)→sizesW K≤sizesW L
 | [],_,_,_=>by simp [sizesW]
 | x :: K,L,hn,hs=>by
  obtain ⟨A,B,rfl⟩:=List.append_of_mem (hs x (by simp))
  rw [List.nodup_cons] at hn
  have:=sizesW_sub (K:=K) (L:=A++B) hn.2 fun y hy=>by
   have h:=hs y (by simp [hy])
   rcases List.mem_append.1 h with h | h
   ·exact List.mem_append_left _ h
   ·rcases List.mem_cons.1 h with rfl | h
    ·exact absurd hy hn.1
    ·exact List.mem_append_right _ h
  rw [sizesW_app] at this ⊢
  simp only [sizesW]; omega
def PLoop (s1 s2:Int) (L:List GW) (τ:Heap):Prop:=
 ∃ l,3≤τ.length∧τ[0]?=some (.cells [.str ⟨#[]⟩,.str ⟨#[]⟩,.int .i64 0,.int .i64 0,.isl [] true] 0 false)∧τ[1]?=some (.cells [.str ⟨#[97]⟩,.str ⟨#[98]⟩,.int .i64 s1,.int .i64 s2,l] 0 false)∧τ[2]?=some (.cells [.int .i64 3,.int .i64 0,.str ⟨#[98]⟩,.isl [] true] 0 false)∧LX 3 3 τ (L.map GW.enc) l
set_option maxHeartbeats 1000000 in
theorem batch_ok (facts:List GRaw) (hx:FactsOk facts) (more:List GV) (hm:GV.oks more) (hms:GV.sizes more≤1048576) (start seq:Int) (h1:GV.i64ok start) (h2:GV.i64ok seq) :
  ∃ K:List GW,UpW K∧(∀ x∈K,x∈bRows more (rowsX facts) (rowsX facts).length)∧K.length≤(rowsX facts).length ∧
   pureT T c24 [.isl (facts.map GRaw.enc) false,.isl (GV.encs more) false,.int .i64 start,.int .i64 seq]=some (GF.mk ⟨#[97]⟩ ⟨#[98]⟩ (pickN start 1099511627777:Int) (pickN seq 1099511627777:Int) K).enc:=by
 have p1:=fun bs σ=>pick15 start 1099511627777 (by omega) h1 bs σ
 have p2:=fun bs σ=>pick15 seq 1099511627777 (by omega) h2 bs σ
 simp only [Int.cast_ofNat_Int] at p1 p2
 have p1':∀ bs σ,callT T 36 [.int .i64 start,.int .i64 1099511627777] bs σ=some (.int .i64 (pickN start 1099511627777:Int),σ):=p1
 have p2':∀ bs σ,callT T 36 [.int .i64 seq,.int .i64 1099511627777] bs σ=some (.int .i64 (pickN seq 1099511627777:Int),σ):=p2
 have cr:∀ bs σ,callT T 37 [.isl (facts.map GRaw.enc) false] bs σ=some (.isl ((rowsX facts).map GW.enc) false,σ):=fun bs σ=>call_clean rfl rfl rfl (by simp) (rows10_ok facts hx)
 obtain ⟨rows,hrows⟩:∃ rows,rows=rowsX facts:=⟨_,rfl⟩
 rw [←hrows] at cr ⊢
 have hrl:rows.length≤40:=by rw [hrows]; simp [rowsX]; omega
 have hrne:∀ x∈rows,x.args≠[]∧x.args.length≤3:=fun x hh=>by
  rw [hrows] at hh
  obtain ⟨y,_,rfl⟩:=List.mem_map.1 hh
  have h1:=fargs_len y
  obtain ⟨a1,a2,_⟩:=rel_arity y
  exact ⟨fun e=>by have:(factR y).args=[]:=e; rw [this] at h1; simp at h1; omega,by show (factR y).args.length≤3; omega⟩
 obtain ⟨L,hL⟩:∃ L,L=bRows more rows rows.length:=⟨_,rfl⟩
 have hLl:L.length=rows.length:=by rw [hL]; exact bRows_len _ _ _ (Nat.le_refl _)
 have hsz:∀ x∈L,x.args≠[]∧GV.sizes x.args≤1000000000:=fun x hh=>by
  have hmem:=hh
  rw [hL] at hh
  obtain ⟨k,hk,rfl⟩:=bRows_mem (Nat.le_refl _) hh
  refine ⟨by simp [bRow],?_⟩
  have h1:=bRows_size more facts rows.length (by rw [hrows]; exact Nat.le_refl _)
  rw [←hrows,←hL] at h1
  have h2:=sizesW_mem hmem
  have h3:=sizes_take_le more rows.length
  omega
 have hM:∃ K:List GW,UpW K∧(∀ x∈K,x∈L)∧K.length≤L.length∧pureT T c22 [.isl (L.map GW.enc) false]=some (.isl (K.map GW.enc) false):=by
  by_cases e:L=[]
  ·rw [e]
   exact ⟨[],by simp [UpW],fun x h=>h,Nat.le_refl _,merge_none⟩
  ·exact merge_some L e (by omega) hsz
 obtain ⟨K,k1,k2,k3,k4⟩:=hM
 refine ⟨K,k1,by rw [←hL]; exact k2,by omega,?_⟩
 generalize pickN start 1099511627777=s1 at *
 generalize pickN seq 1099511627777=s2 at *
 apply pure_enter (by simp [c24])
 simp [c24,p1',p2',cr,setRun]
 refine W_for T 0 73 rows.length (fun i f τ=>f 1=.isl (GV.encs more) false∧f 8=.ptr 0 0∧f 9=.ptr 1 0∧f 10=.ptr 2 0∧f 11=.isl (rows.map GW.enc) false∧f 12=.int .i64 (i:Int)∧PLoop s1 s2 (bRows more rows i) τ) ?_ _ _ ?_
 ·rintro i f τ hi ⟨f1,f8,f9,f10,f11,f12,l,hl3,g0,g1,g2,Li⟩
  by_cases hlt:i<rows.length
  ·have w1:IntKind.i64.wrap ((i:Int)+1)=(i:Int)+1:=wr64 (by omega) (by omega)
   obtain ⟨hne,hal⟩:=hrne _ (zqT hlt)
   have hsucc:=bRows_succ (more:=more) hlt
   obtain ⟨nm,args,st,hr⟩:∃ nm args st,rows[i]=⟨nm,args,st⟩:=⟨_,_,_,rfl⟩
   rw [hr] at hne hal hsucc
   have hg:rows[i]?=some ⟨nm,args,st⟩:=by rw [zqF hlt,hr]
   have hne':args≠[]:=hne
   have hal':args.length≤3:=hal
   have h1l:1≤args.length:=List.length_pos_iff.2 hne'
   have hdrop:slSlV 4 (some (.int .i64 1)) none (.isl (GV.encs args) false)=some (.isl (GV.encs (args.drop 1)) false):=by
    have:=slI_drop (sz:=4) (es:=GV.encs args) (c:=false) (n:=1) (by simp; omega) (by rw [zqQ]; intro e he; simp [lenIs,encsV_len args e he])
    rw [show ((1:Nat):Int)=1 from rfl] at this
    rw [this,GV.encs_map,GV.encs_map,List.map_drop]
   obtain ⟨a,ha⟩:∃ a,a=τ.length:=⟨_,rfl⟩
   obtain ⟨τ0,hτ0⟩:∃ τ0:Heap,τ0=τ++[.cells [.int .i64 3,.int .i64 0,.str ⟨#[98]⟩,.isl [] true] 0 false,.cells [.str ⟨#[]⟩,.isl [] true,.int .i64 0] 0 false]:=⟨_,rfl⟩
   have h0l:τ0.length=a+2:=by rw [hτ0,ha]; simp
   have q0:τ0[a]?=some (.cells [.int .i64 3,.int .i64 0,.str ⟨#[98]⟩,.isl [] true] 0 false):=by rw [hτ0,ha]; simp
   have q1:τ0[a+1]?=some (.cells [.str ⟨#[]⟩,.isl [] true,.int .i64 0] 0 false):=by rw [hτ0,ha]; simp
   have qk:∀ i,i<a→τ0[i]?=τ[i]?:=fun i hi=>by rw [hτ0,zqA (by omega)]
   have L0:LX a 4 τ0 (GV.encs [toV]) (.sl a 0 1 4 true):=.inr (.inl ⟨a,_,0,rfl,Nat.le_refl _,q0,rfl,rfl,rfl⟩)
   obtain ⟨x1,τ1,e1,L1,hl1,hk1⟩:=L0.isl (bytes:=56) (b:=false) (GV.encs (args.drop 1)) (GV_okEl _) (by simp; omega) (by omega) (by omega) (by omega)
   have ecat:GV.encs [toV]++GV.encs (args.drop 1)=GV.encs (toV :: args.drop 1):=rfl
   rw [ecat] at L1
   rw [appendC_isl,List.drop_one] at e1
   have q1':τ1[a+1]?=some (.cells [.str ⟨#[]⟩,.isl [] true,.int .i64 0] 0 false):=hk1 _ _ q1 (.inr ⟨fun n e=>(by cases e),fun cs fz e=>(by injection e with e; subst e; simp)⟩)
   have hk1':∀ i,i<a→τ1[i]?=τ[i]?:=fun i hi=>by
    rw [←qk i hi,hk1 i _ (zqF (by omega)) (.inl hi),zqF]
   obtain ⟨τ2,hτ2⟩:∃ τ2:Heap,τ2=τ1.set (a+1) (.cells [.str nm,x1,.int .i64 st] 0 false):=⟨_,rfl⟩
   have L2:LX a 4 τ2 (GV.encs (toV :: args.drop 1)) x1:=by rw [hτ2]; exact L1.put q1' (by simp) _
   have q2:τ2[a+1]?=some (.cells [.str nm,x1,.int .i64 st] 0 false):=by rw [hτ2]; exact List.getElem?_set_self (by omega)
   have hl2:τ2.length=τ1.length:=by rw [hτ2]; simp
   have hk2:∀ i,i<a→τ2[i]?=τ[i]?:=fun i hi=>by rw [hτ2,zqC (by omega)]; exact hk1' i hi
   have hs1:=L1.solid
   have hc1:=L1.cells
   have hfin:∀ (args':List GV) (x:AV) (τ5:Heap),bRow more i ⟨nm,args,st⟩=⟨nm,args',st⟩→(∀ i,i<a→τ5[i]?=τ[i]?)→τ5[a+1]?=some (.cells [.str nm,x,.int .i64 st] 0 false)→LX a 4 τ5 (GV.encs args') x→a+2≤τ5.length →
     ∃ x' σ',appendC (τ5++[.cells [.str nm,x,.int .i64 st] 0 false]) 3 true 48 false l (.sl τ5.length 0 1 3 true)=some (x',σ')∧σ'[1]?=some (.cells [.str ⟨#[97]⟩,.str ⟨#[98]⟩,.int .i64 s1,.int .i64 s2,l] 0 false)∧x'.solid=true∧x'.cells=[x'] ∧
      PLoop s1 s2 (bRows more rows (i+1)) (σ'.set 1 (.cells [.str ⟨#[97]⟩,.str ⟨#[98]⟩,.int .i64 s1,.int .i64 s2,x'] 0 false)):=fun args' x τ5 hb hk5 hq5 L5 hl5=>by
    have hjF:(τ5++[AObj.cells [.str nm,x,.int .i64 st] 0 false])[τ5.length]?=some (.cells [.str nm,x,.int .i64 st] 0 false):=by simp
    obtain ⟨σ1,z,fj,hX,hj1,hz1,hz2,hlσ,hkσ⟩:=closeX_row (L5.app _) hjF
    have hall:∀ i,i<τ.length→σ1[i]?=τ[i]?:=fun i hi=>by
     rw [hkσ i (by omega) (by omega),zqA (by omega),hk5 i (by omega)]
    obtain ⟨x',σ',m1,m2,m3,m4,-⟩:=app_any (bytes:=48) hX hj1 (sz:=3) rfl (by simp [AV.clo1]; exact hz1) (by omega) (by omega) Li hall (by omega) hl3 (by simp [bRows_len more rows i (by omega)]; omega)
    have hl':3≤σ'.length:=by rw [hlσ,zqJ] at m3; simp at m3; omega
    refine ⟨x',σ',m1,by rw [m4 1 (by omega)]; exact g1,m2.solid,m2.cells,x',by simpa using hl',by rw [zqC (by omega),m4 0 (by omega)]; exact g0,List.getElem?_set_self (by omega),by rw [zqC (by omega),m4 2 (by omega)]; exact g2,?_⟩
    rw [hsucc,hb]
    have e:(bRows more rows i).map GW.enc++[AV.agg (List.map AV.nrm [.str nm,z,.int .i64 st])]=(bRows more rows i++[(⟨nm,args',st⟩:GW)]).map GW.enc:=by
     simp [GW.enc,GW.cls,hz2]
    rw [←e]
    exact m2.keep fun j o hj ho=>by rw [zqC (by omega)]; exact ho
   by_cases hmore:i<more.length
   ·have hgm:more[i]?=some more[i]:=zqF hmore
    have hbR:bRow more i ⟨nm,args,st⟩=⟨nm,(toV :: args.drop 1)++[fit more[i]],st⟩:=by simp [bRow,hgm]
    have hmm:=sizes_mem (zqT hmore)
    have hfit:=callFit more[i] ((GV.oks_iff _).1 hm _ (zqT hmore)) (by omega)
    have hj3:(τ2++[AObj.cells (fit more[i]).enc.cells 0 false])[τ2.length]?=some (.cells (fit more[i]).enc.cells 0 false):=by simp
    have hclo:(fit more[i]).enc.cells.all AV.clo1=true:=by rw [GV.enc_cells]; rfl
    obtain ⟨x2,τ4,n1,n2,n3,n4⟩:=app_any0 (bytes:=56) (closeX_idem hj3 hclo) hj3 (sz:=4) (by rw [GV.enc_cells]; rfl) hclo (by omega) (by omega) L2 (fun i hi=>zqA hi) (Nat.le_refl _) (by omega) (by simp; omega)
    have e4:GV.encs (toV :: args.drop 1)++[AV.agg ((fit more[i]).enc.cells.map AV.nrm)]=GV.encs ((toV :: args.drop 1)++[fit more[i]]):=by
     have e2:GV.encs ((toV :: args.drop 1)++[fit more[i]])=GV.encs (toV :: args.drop 1)++[(fit more[i]).enc]:=by simp [GV.encs_map]
     rw [e2,GV.enc_cells,GV.enc_eq]; rfl
    rw [e4] at n2
    have q4:τ4[a+1]?=some (.cells [.str nm,x1,.int .i64 st] 0 false):=n4 _ _ q2 (.inr ⟨fun n e=>(by cases e),fun cs fz e=>(by injection e with e; subst e; simp)⟩)
    have n3':a+2≤τ4.length:=by simp at n3; omega
    have L5:LX a 4 (τ4.set (a+1) (.cells [.str nm,x2,.int .i64 st] 0 false)) (GV.encs ((toV :: args.drop 1)++[fit more[i]])) x2:=n2.toLX.put q4 (by simp) _
    have q5:(τ4.set (a+1) (.cells [.str nm,x2,.int .i64 st] 0 false))[a+1]?=some (.cells [.str nm,x2,.int .i64 st] 0 false):=List.getElem?_set_self (by omega)
    have hk5:∀ i,i<a→(τ4.set (a+1) (.cells [.str nm,x2,.int .i64 st] 0 false))[i]?=τ[i]?:=fun i hi=>by
     rw [zqC (by omega),←hk2 i hi,n4 i _ (zqF (by omega)) (.inl hi),zqF]
    obtain ⟨τ5,hτ5⟩:∃ τ5:Heap,τ5=τ4.set (a+1) (.cells [.str nm,x2,.int .i64 st] 0 false):=⟨_,rfl⟩
    rw [←hτ5] at L5 q5 hk5
    obtain ⟨x',σ',f1',f2',f3',f4',f5'⟩:=hfin _ x2 τ5 hbR hk5 q5 L5 (by rw [hτ5]; simpa using n3')
    have g15:τ5[1]?=some (.cells [.str ⟨#[97]⟩,.str ⟨#[98]⟩,.int .i64 s1,.int .i64 s2,l] 0 false):=by rw [hk5 1 (by omega)]; exact g1
    have hs2:=n2.solid
    have hc2:=n2.cells
    rw [GV.enc_cells] at n1
    simp [-getElem?_pos,f1,f8,f9,f10,f11,f12,hlt,hr,hg,g2,GW.cls,hdrop,setRun,←ha,←hτ0,e1,chkO_l,objOf,q1,q1',hs1,hc1,←hτ2,hmore,q2,hgm,hfit,n1,q4,hs2,hc2,←hτ5,g15,q5,f1',f2',f3',f4',w1,-appendA_ag]
    exact f5'
   ·have hgm:more[i]?=none:=List.getElem?_eq_none (by omega)
    have hbR:bRow more i ⟨nm,args,st⟩=⟨nm,toV :: args.drop 1,st⟩:=by simp [bRow,hgm]
    obtain ⟨x',σ',f1',f2',f3',f4',f5'⟩:=hfin _ x1 τ2 hbR hk2 q2 L2 (by omega)
    have g12:τ2[1]?=some (.cells [.str ⟨#[97]⟩,.str ⟨#[98]⟩,.int .i64 s1,.int .i64 s2,l] 0 false):=by rw [hk2 1 (by omega)]; exact g1
    simp [-getElem?_pos,f1,f8,f9,f10,f11,f12,hlt,hr,hg,g2,GW.cls,hdrop,setRun,←ha,←hτ0,e1,chkO_l,objOf,q1,q1',hs1,hc1,←hτ2,hmore,q2,g12,f1',f2',f3',f4',w1,-appendA_ag]
    exact f5'
  ·have he:i=rows.length:=by omega
   subst he
   rw [←hL] at Li
   obtain ⟨σ',hcA,hcl,hck⟩:=Li.closeA
   have hm0:callT T 22 [l] 0 τ=some (.isl (K.map GW.enc) false,σ'):=call_data rfl rfl rfl k4 rfl rfl (by simp only [closeT,hcA,Option.bind_some,Option.map_some])
   have u1:σ'[1]?=some (.cells [.str ⟨#[97]⟩,.str ⟨#[98]⟩,.int .i64 s1,.int .i64 s2,l] 0 false):=by rw [hck 1 (by omega)]; exact g1
   have u0:σ'[0]?=some (.cells [.str ⟨#[]⟩,.str ⟨#[]⟩,.int .i64 0,.int .i64 0,.isl [] true] 0 false):=by rw [hck 0 (by omega)]; exact g0
   have u1s:∀ o,(σ'.set 1 o)[1]?=some o:=fun o=>List.getElem?_set_self (by omega)
   have u0s:∀ o,(σ'.set 1 o)[0]?=σ'[0]?:=fun o=>by rw [zqC (by omega)]
   have u2s:∀ o o',((σ'.set 1 o).set 0 o')[0]?=some o':=fun o o'=>List.getElem?_set_self (by simp; omega)
   simp [-getElem?_pos,f1,f8,f9,f10,f11,f12,g1,hm0,u1,setRun,u1s,u0s,u0,u2s,GF.enc]
   done
 ·exact ⟨by simp,by simp,by simp,by simp,by simp,by simp,.isl [] true,by simp,by simp,by simp,by simp,.inl ⟨rfl,rfl⟩⟩
open Go.Mach
theorem frValues (l l2:List GV) (hs:GV.sizes l≤10000000000) (bs:Nat) (σ:Heap):callT T 28 [.isl (GV.encs l) false,.isl (GV.encs l2) false] bs σ=some (.bool (sym (decide (l=l2))),σ):=
 call_clean rfl rfl rfl (by simp) (values_ok l l2 (by have:=len_sizes l; omega) fun x hx y hy bs σ=>callSame x y (by have:=(sizes_mem hx).1; omega) bs σ)
theorem gw_iff (a b:GW):a=b↔a.name=b.name∧a.stamp=b.stamp∧a.args=b.args:=⟨fun h=>by rw [h]; simp,fun h=>by cases a; cases b; simp_all⟩
theorem gf_iff (a b:GF):a=b↔a.frm=b.frm∧a.to=b.to∧a.start=b.start∧a.seq=b.seq∧a.rows=b.rows:=⟨fun h=>by rw [h]; simp,fun h=>by cases a; cases b; simp_all⟩
instance:DecidableEq GW:=fun a b=>decidable_of_iff _ (gw_iff a b).symm
instance:DecidableEq GF:=fun a b=>decidable_of_iff _ (gf_iff a b).symm
theorem same10_ok (l l2:List GW) (hl:l.length≤10000000000) (hs:∀ x∈l,GV.sizes x.args≤10000000000):pureT T c15 [.isl (l.map GW.enc) false,.isl (l2.map GW.enc) false]=some (.bool (decide (l=l2))):=by
 apply pure_enter (by simp [c15])
 by_cases hlen:l.length=l2.length
 ·have hi:(l.length:Int)=(l2.length:Int):=by omega
  simp [c15,hi]
  refine W_for T 0 55 l.length (fun i f τ=>f 0=.isl (l.map GW.enc) false∧f 1=.isl (l2.map GW.enc) false∧f 5=.int .i64 (i:Int)∧∀ k,k<i→l[k]?=l2[k]?) ?_ _ _ ?_
  ·rintro i f τ hi ⟨f0,f1,f5,hall⟩
   by_cases hlt:i<l.length
   ·have w1:IntKind.i64.wrap ((i:Int)+1)=(i:Int)+1:=wr64 (by omega) (by omega)
    have hlt2:i<l2.length:=by omega
    have hv:=frValues l[i].args l2[i].args (hs _ (zqT hlt))
    have hno:¬ l[i]=l2[i]→¬ l=l2:=fun h e=>h (by subst e; rfl)
    have hyes:l[i]=l2[i]→∀ k,k<i+1→l[k]?=l2[k]?:=fun h k hk=>by
     by_cases e:k=i
     ·subst e; rw [zqF hlt,zqF hlt2,h]
     ·exact hall k (by omega)
    rw [gw_iff] at hno hyes
    simp [f0,f1,f5,hlt,hlt2,w1,GW.cls,hv]
    exact ⟨fun h=>hno fun e=>h e.1,fun h1=>⟨fun h=>hno fun e=>h e.2.1,fun h2=>⟨fun h3=>hyes ⟨h1,h2,h3⟩,fun h=>hno fun e=>h e.2.2⟩⟩⟩
   ·have he:i=l.length:=by omega
    subst he
    have:l=l2:=List.ext_getElem? fun k=>by
     by_cases hk:k<l.length
     ·exact hall k hk
     ·rw [List.getElem?_eq_none (by omega),List.getElem?_eq_none (by omega)]
    simp [f0,f1,f5,this]
  ·simp
 ·have hi:¬ (l.length:Int)=(l2.length:Int):=by omega
  have hne:¬ l=l2:=fun e=>hlen (by rw [e])
  simp [c15,hi,hne]
theorem callSame10 (l l2:List GW) (hl:l.length≤10000000000) (hs:∀ x∈l,GV.sizes x.args≤10000000000) (bs:Nat) (σ:Heap):callT T 15 [.isl (l.map GW.enc) false,.isl (l2.map GW.enc) false] bs σ=some (.bool (sym (decide (l=l2))),σ):=
 call_clean rfl rfl rfl (by simp) (same10_ok l l2 hl hs)
theorem toV_right:rightV 4 toV=true:=by decide +kernel
theorem nameA:nameOK ⟨#[97]⟩=true:=by decide +kernel
theorem nameBb:nameOK ⟨#[98]⟩=true:=by decide +kernel
theorem bRow_ok (more:List GV) (i:Nat) (y:GRaw):rowOK ⟨#[98]⟩ (bRow more i (rowX y))=true:=by
 have h1:nameOK (factR y).name=true:=by
  have:=rel_OK y
  simp only [relOK,zqL] at this
  exact this.1.1
 have h2:=fargs_len y
 obtain ⟨a1,a2,_⟩:=rel_arity y
 have h3:∀ v∈(factR y).args,rightV 4 v=true:=fun v hv=>by
  obtain ⟨i,_,rfl⟩:=List.mem_map.1 hv
  exact fargR_R y i
 have h4:nearB (pickN y.n3 9:Int)=true:=by rw [nearB_iff]; have:=pickN_lt (c:=y.n3) (n:=9) (by omega); omega
 obtain ⟨E,hE,hEl,hEr⟩:∃ E,(bRow more i (rowX y)).args=toV :: ((factR y).args.drop 1++E)∧E.length≤1∧∀ v∈E,rightV 4 v=true:=by
  cases hm:more[i]? with
  | none=>exact ⟨[],by simp [bRow,rowX,hm],by simp,by simp⟩
  | some w=>exact ⟨[fit w],by simp [bRow,rowX,hm],by simp,fun v hv=>by simp at hv; rw [hv]; exact fit_right w⟩
 have h7:((bRow more i (rowX y)).args).all (rightV 4)=true:=by
  rw [zqQ]; intro v hv
  rw [hE] at hv
  rcases List.mem_cons.1 hv with rfl | hv
  ·exact toV_right
  ·rcases List.mem_append.1 hv with hv | hv
   ·exact h3 v (List.mem_of_mem_drop hv)
   ·exact hEr v hv
 have h8:(bRow more i (rowX y)).args.length≤8∧1≤(bRow more i (rowX y)).args.length:=by
  rw [hE]; simp only [zqU,zqJ,List.length_drop]; omega
 have h9:headB ⟨#[98]⟩ (bRow more i (rowX y)).args=true:=by simp [bRow,headB,toV,GV.kind,GV.text]
 simp only [rowOK,zqL,decide_eq_true_eq]
 exact ⟨⟨⟨⟨⟨h1,h8.2⟩,h8.1⟩,h4⟩,h7⟩,h9⟩
theorem batch_good {more:List GV} {facts:List GRaw} (hms:GV.sizes more≤1048576) {K:List GW} (k1:UpW K) (k2:∀ x∈K,x∈bRows more (rowsX facts) (rowsX facts).length) (k3:K.length≤(rowsX facts).length) (s1 s2:Nat) (h1:s1<1099511627777) (h2:s2<1099511627777) :
  FOk ⟨⟨#[97]⟩,⟨#[98]⟩,s1,s2,K⟩∧SzF ⟨⟨#[97]⟩,⟨#[98]⟩,s1,s2,K⟩∧(layB ⟨⟨#[97]⟩,⟨#[98]⟩,s1,s2,K⟩).length≤12000000:=by
 have hrl:(rowsX facts).length≤40:=by simp [rowsX]; omega
 have hrow:∀ x∈K,rowOK ⟨#[98]⟩ x=true:=fun x hx=>by
  obtain ⟨k,hk,rfl⟩:=bRows_mem (Nat.le_refl _) (k2 x hx)
  obtain ⟨y,hy⟩:∃ y,(rowsX facts)[k]=rowX y:=⟨(facts.take 40)[k]'(by simpa [rowsX] using hk),by simp [rowsX]⟩
  rw [hy]; exact bRow_ok more k y
 have hF:FOk ⟨⟨#[97]⟩,⟨#[98]⟩,s1,s2,K⟩:=by
  refine ⟨nameA,nameBb,(by decide:(⟨#[97]⟩:ByteArray)≠⟨#[98]⟩),(nearB_iff _).2 ⟨by show (0:Int)≤s1; omega,by show (s1:Int)≤_; omega⟩,(nearB_iff _).2 ⟨by show (0:Int)≤s2; omega,by show (s2:Int)≤_; omega⟩,by show K.length≤400; omega,fun k hk x hx=>⟨hrow x (zqR hx),?_⟩⟩
  by_cases h0:k=0
  ·exact .inl h0
  ·refine .inr fun y hy=>?_
   have hk':k<K.length:=hk
   have hx':K[k]?=some x:=hx
   have hy':K[k - 1]?=some y:=hy
   rw [zqF hk'] at hx'; injection hx' with hx'
   rw [zqF (by omega)] at hy'; injection hy' with hy'
   rw [←hx',←hy']
   exact List.pairwise_iff_getElem.1 k1 (k - 1) k (by omega) hk' (by omega)
 have hnd:K.Nodup:=by
  refine List.Pairwise.imp (fun {a b} h=>?_) k1
  rintro rfl
  have:=cmpW_self a; omega
 have hz1:=sizesW_sub hnd k2
 have hz2:=bRows_size more facts (rowsX facts).length (Nat.le_refl _)
 have hz3:=sizes_take_le more (rowsX facts).length
 have hz:sizesW K≤5243840:=by omega
 have hS:SzF ⟨⟨#[97]⟩,⟨#[98]⟩,s1,s2,K⟩:=by
  refine ⟨by show sizesW K≤_; omega,by show (1:Nat)≤_; omega,by show (1:Nat)≤_; omega,by show K.length≤_; omega,fun x hx=>⟨?_,?_⟩⟩
  ·have:=(hF.name hx).2.1; omega
  ·have:=sizesW_mem (l:=K) hx; omega
 refine ⟨hF,hS,?_⟩
 have l1:=preB_len hF
 have l2:=rowsB_len K fun x hx=>(hF.name hx).2.1
 have l3:(layB ⟨⟨#[97]⟩,⟨#[98]⟩,s1,s2,K⟩).length=(bodyB ⟨⟨#[97]⟩,⟨#[98]⟩,s1,s2,K⟩).length+4:=by simp [layB]
 rw [l3,bodyB_eq,zqJ]
 simp only
 omega
theorem callLay {b:GF} (hs:SzF b) (h:FOk b) (bs:Nat) (σ:Heap):callT T 25 [b.enc] bs σ=some (.tup [.str (ba (layB b)),.int .i64 0],σ):=call_clean rfl rfl rfl (by simp) (lay_yes b hs h)
open Go.Mach
open Go.Mach
structure GX where
 frm:Int
 start:Int
 seq:Int
 facts:List GRaw
 deriving Inhabited
namespace GX
def enc (x:GX):AV:=.agg [.int .i64 x.frm,.int .i64 x.start,.int .i64 x.seq,.isl (x.facts.map GRaw.enc) false]
theorem enc_eq (x:GX):x.enc=.agg [.int .i64 x.frm,.int .i64 x.start,.int .i64 x.seq,.isl (x.facts.map GRaw.enc) false]:=rfl
def ok (x:GX):Prop:=GV.i64ok x.frm∧GV.i64ok x.start∧GV.i64ok x.seq∧FactsOk x.facts
@[simp] theorem enc_clean (x:GX):x.enc.clean=true:=by simp [enc,AV.clean,AV.clean0]
end GX
def XsOk (l:List GX):Prop:=(∀ x∈l,x.ok)∧l.length≤1048576
structure IsX (P:Program) (tX tL tR tA tI:TypeId):Prop where
 fs:∃ fs:Array Field,P.underlying tX=some (.struct fs)∧fs.toList.map (·.type)=[tI,tI,tI,tL]
 list:P.underlying tL=some (.slice tR)
 raw:IsRaw P tR tA tI
theorem asX {P:Program} {tX tL tR tA tI:TypeId} (hT:IsX P tX tL tR tA tI) {x:AV} (h:TyA P tX x) (hb:bulkA x≤1048576):∃ v:GX,x=v.enc∧v.ok:=by
 have e1:IntKind.i64.min=-9223372036854775808:=by decide
 have e2:IntKind.i64.max=9223372036854775807:=by decide
 obtain ⟨fs0,hf0,hts⟩:=hT.fs
 obtain ⟨vs,rfl,hl,hv⟩:=h.asStruct hf0
 have hlen:vs.length=4:=by rw [hl,←List.length_map (f:=(·.type)),hts]; rfl
 match vs,hlen with
 | [x0,x1,x2,x3],_=>
  obtain ⟨y0,rfl,p0,q0⟩:=(field_ty hts hv (i:=0) rfl rfl).asInt hT.raw.int
  obtain ⟨y1,rfl,p1,q1⟩:=(field_ty hts hv (i:=1) rfl rfl).asInt hT.raw.int
  obtain ⟨y2,rfl,p2,q2⟩:=(field_ty hts hv (i:=2) rfl rfl).asInt hT.raw.int
  have h3:=field_ty hts hv (i:=3) rfl rfl
  obtain ⟨es,rfl,_⟩:=h3.asSlice hT.list
  have hb3:bulkA (AV.isl es false)≤1048576:=by
   have hf:flat [AV.int .i64 y0,.int .i64 y1,.int .i64 y2,.isl es false]=[AV.int .i64 y0,.int .i64 y1,.int .i64 y2,.isl es false]:=by simp [flat]
   rw [hf] at hb
   simp only [bulkA,bulkAs] at hb ⊢; omega
  obtain ⟨l,hl3,hok⟩:=argRaws hT.raw hT.list h3 hb3
  rw [e1] at p0 p1 p2; rw [e2] at q0 q1 q2
  exact ⟨⟨y0,y1,y2,l⟩,by rw [hl3]; simp [GX.enc,flat],⟨p0,q0⟩,⟨p1,q1⟩,⟨p2,q2⟩,hok⟩
theorem argXs {P:Program} {tLX tX tL tR tA tI:TypeId} (hT:IsX P tX tL tR tA tI) (hL:P.underlying tLX=some (.slice tX)) {x:AV} (h:TyA P tLX x) (hb:bulkA x≤1048576):∃ l:List GX,x=.isl (l.map GX.enc) false∧XsOk l:=by
 obtain ⟨es,rfl,hes⟩:=h.asSlice hL
 simp only [bulkA] at hb
 obtain ⟨l,rfl,hl⟩:=list_enc GX.enc GX.ok es fun z hz=>by
  have:=bulk_mem hz
  exact asX hT (hes z hz) (by omega)
 have:=bulk_len (l.map GX.enc)
 simp only [List.length_map] at this
 exact ⟨l,rfl,hl,by omega⟩
theorem tyX:IsX Try.prog 33 31 95 93 3:=⟨fieldTys_some (by kernel_rfl),by kernel_rfl,tyRaw⟩
theorem argX {x:AV} (h:TyA Try.prog 22 x) (hb:bulkA x≤1048576):∃ l:List GX,x=.isl (l.map GX.enc) false∧XsOk l:=argXs tyX (by kernel_rfl) h hb
theorem pick16_ok (c n:Int) (h:n≠0):pureT T c11 [.int .i64 c,.int .i64 n]=some (.int .i64 ((if c<0 then IntKind.i64.wrap (0 - IntKind.i64.wrap (c+1)) else c).tmod n)):=by
 apply pure_enter (by simp [c11])
 by_cases hc:c<0
 ·simp [c11,hc,h]
 ·simp [c11,hc,h]
theorem pick16 (c:Int) (n:Nat) (h:0<n) (h1:GV.i64ok c) (bs:Nat) (σ:Heap) :
  callT T 11 [.int .i64 c,.int .i64 (n:Int)] bs σ=some (.int .i64 (pickN c n:Int),σ):=by
 refine call_clean rfl rfl rfl rfl ?_
 rw [pick16_ok c n (by omega),pick_eq c n h h1.1 h1.2]
def nmX (k:Nat):ByteArray:=if k=0 then ⟨#[97]⟩ else if k=1 then ⟨#[99]⟩ else ⟨#[100]⟩
theorem FOk.from {b:GF} (h:FOk b) {fr:ByteArray} (h1:nameOK fr=true) (h2:fr≠b.to):FOk {b with frm:=fr}:=⟨h1,h.to,h2,h.start,h.seq,h.len,h.rows⟩
theorem SzF.from {b:GF} (h:SzF b) {fr:ByteArray} (h1:fr.size≤16):SzF {b with frm:=fr}:=⟨h.tot,by show fr.size≤_; omega,h.to,h.len,h.rows⟩
theorem pickN_self {n k:Nat} (h:n<k):pickN (n:Int) k=n:=by
 unfold pickN; rw [if_neg (by omega),Int.toNat_natCast]; exact Nat.mod_eq_of_lt h
structure XB (x:GX) (b:GF):Prop where
 frm:b.frm=nmX (pickN x.frm 3)
 to:b.to=⟨#[98]⟩
 start:b.start=(pickN x.start 3:Int)
 seq:b.seq=(pickN x.seq 4:Int)
 ok:FOk b
 sz:SzF b
 rows:b.rows.length≤40
 args:∀ y∈b.rows,y.args≠[]∧GV.sizes y.args≤100000000
theorem batch16 (x:GX) (hx:x.ok):∃ b:GF,XB x b∧pureT T c10 [x.enc]=some b.enc:=by
 obtain ⟨x1,x2,x3,x4⟩:=hx
 have p1:∀ bs σ,callT T 11 [.int .i64 x.frm,.int .i64 3] bs σ=some (.int .i64 (pickN x.frm 3:Int),σ):=fun bs σ=>pick16 x.frm 3 (by omega) x1 bs σ
 have p2:∀ bs σ,callT T 11 [.int .i64 x.start,.int .i64 3] bs σ=some (.int .i64 (pickN x.start 3:Int),σ):=fun bs σ=>pick16 x.start 3 (by omega) x2 bs σ
 have p3:∀ bs σ,callT T 11 [.int .i64 x.seq,.int .i64 4] bs σ=some (.int .i64 (pickN x.seq 4:Int),σ):=fun bs σ=>pick16 x.seq 4 (by omega) x3 bs σ
 have l1:=pickN_lt (c:=x.frm) (n:=3) (by omega)
 have l2:=pickN_lt (c:=x.start) (n:=3) (by omega)
 have l3:=pickN_lt (c:=x.seq) (n:=4) (by omega)
 generalize hk:pickN x.frm 3=k at *
 generalize hs1:pickN x.start 3=s1 at *
 generalize hs2:pickN x.seq 4=s2 at *
 obtain ⟨K,k1,k2,k3,k4⟩:=batch_ok x.facts x4 [] (by trivial) (by decide) s1 s2 ⟨by omega,by omega⟩ ⟨by omega,by omega⟩
 rw [pickN_self (by omega),pickN_self (by omega)] at k4
 obtain ⟨g1,g2,g3⟩:=batch_good (more:=[]) (by decide) k1 k2 k3 s1 s2 (by omega) (by omega)
 have hrl:(rowsX x.facts).length≤40:=by simp [rowsX]; omega
 have hb:∀ bs σ,callT T 24 [.isl (x.facts.map GRaw.enc) false,.isl [] true,.int .i64 s1,.int .i64 s2] bs σ=some ((GF.mk ⟨#[97]⟩ ⟨#[98]⟩ s1 s2 K).enc,σ):=fun bs σ=>
  call_data (af:=c24) rfl rfl rfl k4 rfl (by simp) (by simp [closeT,closeA,GV.encs])
 rw [GF.enc_eq] at hb
 have hnm:nameOK (nmX k)=true∧nmX k≠⟨#[98]⟩∧(nmX k).size≤16:=by
  match k,l1 with
  | 0,_=>exact ⟨by decide +kernel,by decide,by decide⟩
  | 1,_=>exact ⟨by decide +kernel,by decide,by decide⟩
  | 2,_=>exact ⟨by decide +kernel,by decide,by decide⟩
 refine ⟨{(GF.mk ⟨#[97]⟩ ⟨#[98]⟩ s1 s2 K) with frm:=nmX k},⟨by rw [hk],rfl,by rw [hs1],by rw [hs2],g1.from hnm.1 hnm.2.1,g2.from hnm.2.2,by show K.length≤40; omega,fun y hy=>?_⟩,?_⟩
 ·have hy':y∈K:=hy
  refine ⟨?_,(g2.rows y hy').args⟩
  obtain ⟨i,hi,rfl⟩:=bRows_mem (Nat.le_refl _) (k2 y hy')
  simp [bRow]
 ·apply pure_enter (by simp [c10])
  rw [GX.enc_eq]
  match k,l1 with
  | 0,_=>simp [c10,p1,p2,p3,hb,setRun,chkO_l,objOf,AV.clo1,nmX,GF.enc_eq]
  | 1,_=>simp [c10,p1,p2,p3,hb,setRun,chkO_l,objOf,AV.clo1,nmX,GF.enc_eq]
  | 2,_=>simp [c10,p1,p2,p3,hb,setRun,chkO_l,objOf,AV.clo1,nmX,GF.enc_eq]
open Go.Mach
def encB (L:List GF):List (AV × AV):=L.map fun y=>(.str y.frm,y.enc)
def lookB (L:List GF) (a:ByteArray):Option GF:=L.find? fun y=>decide (y.frm=a)
def idxB (a:ByteArray):List GF→Nat
 | []=>0
 | y :: L=>if a=y.frm then 0 else idxB a L+1
def putB (L:List GF) (y:GF):List GF:=match lookB L y.frm with
 | some _=>L.set (idxB y.frm L) y
 | none=>L++[y]
theorem mfind_b (a:ByteArray):∀ (L:List GF) (i:Nat),mfind false [2] [.str a] i (encB L)=some ((lookB L a).map fun v=>(i+idxB a L,v.enc))
 | [],i=>rfl
 | p :: m,i=>by
  have ih:=mfind_b a m (i+1)
  simp only [encB,List.map_cons,mfind,keyC,Bool.false_eq_true,if_false,Option.bind_some,eqcs_str,eqcs_nil,Option.map_some,Bool.and_true] at ih ⊢
  by_cases h:a=p.frm
  ·simp [lookB,List.find?_cons,idxB,h]
  ·have hl:lookB (p :: m) a=lookB m a:=by
    unfold lookB
    rw [List.find?_cons]
    have:decide (p.frm=a)=false:=decide_eq_false fun e=>h e.symm
    rw [this]
   rw [decide_eq_false h,hl]
   simp only [ih,idxB,if_neg h]
   congr 2
   funext v
   congr 1
   omega
abbrev zeroB:AV:=.agg [.str ⟨#[]⟩,.str ⟨#[]⟩,.int .i64 0,.int .i64 0,.isl [] true]
theorem mlook_b {σ:Heap} {id:Nat} {L:List GF} (h:σ[id]?=some (.mp (encB L))) (a:ByteArray):mlookA σ false [2] zeroB true (.map id) (.str a)=some (.tup [(match lookB L a with | some y=>y.enc | none=>zeroB),.bool (lookB L a).isSome]):=by
 simp only [mlookA,keyC,Bool.false_eq_true,if_false,Option.bind_some,eqcs_str,eqcs_nil,Option.map_some,Option.isSome_some,if_true,mapOf,h,mfind_b]
 cases lookB L a <;> simp [lookV]
theorem mset_b {σ:Heap} {id:Nat} {L:List GF} (h:σ[id]?=some (.mp (encB L))) (y:GF):msetA σ false [2] (.map id) (.str y.frm) y.enc=some (σ.set id (.mp (encB (putB L y)))):=by
 have hcl:=(clean_close (σ:=σ) (GF.enc_clean y)).1
 have hs:(AV.str y.frm).clo=true:=rfl
 have hclo:y.enc.clo=true:=by simp [GF.enc_eq,AV.clo,AV.clo1]
 simp only [msetA,keyC,Bool.false_eq_true,if_false,Option.bind_some,eqcs_str,eqcs_nil,Option.map_some,Option.isSome_some,true_and,hcl,h,mfind_b]
 unfold putB
 cases hl:lookB L y.frm with
 | none=>simp [encB,hclo,hs]
 | some o=>simp [encB,hclo,hs,List.map_set]
def BoxAt (σ:Heap) (b m:Nat) (place:ByteArray) (L:List GF):Prop:=σ[b]?=some (.cells [.str place,.map m] 0 false)∧σ[m]?=some (.mp (encB L))∧b≠m
def newer (x y:GF):Bool:=decide (y.start<x.start∨(x.start=y.start∧y.seq<x.seq))
theorem or16 (a b:Int):pureT T c44 [.isl [.int .i64 a,.int .i64 b] false]=some (.int .i64 (if a=0 then b else a)):=by
 apply pure_enter (by simp [c44])
 simp [c44]
 refine W_for T 0 18 2 (fun i f τ=>f 6=.isl [.int .i64 a,.int .i64 b] false∧f 7=.int .i64 2∧f 3=.int .i64 0∧f 8=.int .i64 (i:Int)∧(0<i→a=0)∧(1<i→b=0)∧τ=[]) ?_ _ _ ?_
 ·rintro i f τ hi ⟨f6,f7,f3,f8,ha,hb,rfl⟩
  match i,hi with
  | 0,_=>
   by_cases h:a=0
   ·simp [f6,f7,f3,f8,h,wr64]
   ·simp [f6,f7,f3,f8,h]
  | 1,_=>
   have ha:=ha (by omega)
   by_cases h:b=0
   ·simp [f6,f7,f3,f8,h,ha,wr64]
   ·simp [f6,f7,f3,f8,h,ha]
  | 2,_=>
   have ha:=ha (by omega)
   have hb:=hb (by omega)
   simp [f6,f7,f3,f8,ha,hb]
 ·simp
theorem callOr16 (a b:Int) (o0 o1:AObj) (bs:Nat):callT T 44 [.sl 2 0 2 1 false] bs [o0,o1,.cells [.int .i64 a,.int .i64 b] 0 false]=some (.int .i64 (if a=0 then b else a),[o0,o1,.cells [.int .i64 a,.int .i64 b] 0 false]):=
 call_scal (af:=c44) (args':=[.isl [.int .i64 a,.int .i64 b] false]) rfl rfl rfl (or16 a b) rfl rfl rfl
theorem newer_ok (x y:GF):pureT T c26 [x.enc,y.enc]=some (.bool (newer x y)):=by
 have h1:=fun bs σ=>call68 x.start y.start bs σ
 have h2:=fun bs σ=>call68 x.seq y.seq bs σ
 apply pure_enter (by simp [c26])
 simp [c26,GF.enc_eq,h1,h2,callOr16,chkO_l,objOf,newer]
 unfold cmpI
 refine ⟨?_,?_⟩ <;> (repeat' split) <;> omega
theorem callNewer (x y:GF) (bs:Nat) (σ:Heap):callT T 26 [x.enc,y.enc] bs σ=some (.bool (newer x y),σ):=call_clean rfl rfl rfl (by simp) (newer_ok x y)
structure PutOk (x:GF):Prop where
 ok:FOk x
 sz:SzF x
 rows:x.rows.length≤1000000
 args:∀ y∈x.rows,y.args≠[]∧GV.sizes y.args≤1000000000
theorem put_okK {x:GF} (hx:PutOk x) {K:List GW} (hK:∀ bs σ,callT T 22 [.isl (x.rows.map GW.enc) false] bs σ=some (.isl (K.map GW.enc) false,σ)) {L:List GF} {σ:Heap} {b m:Nat} (hb:BoxAt σ b m x.to L) (bs:Nat) :
  callT T 12 [.ptr b 0,x.enc] bs σ=(match lookB L x.frm with
   | some o=>if newer x o=true then some (.bool true,σ.set m (.mp (encB (putB L {x with rows:=K})))) else some (.bool false,σ)
   | none=>some (.bool true,σ.set m (.mp (encB (putB L {x with rows:=K}))))):=by
 obtain ⟨h1,h2,h3⟩:=hb
 have hl:=fun bs σ=>callLay hx.sz hx.ok bs σ
 have hb1:b<σ.length:=(zqI.1 h1).1
 have hm1:m<σ.length:=(zqI.1 h2).1
 have hn:=fun o bs σ=>callNewer x o bs σ
 have g0:∀ o:AObj,(σ++[o])[b]?=some (.cells [.str x.to,.map m] 0 false):=fun o=>by rw [zqA hb1]; exact h1
 have hml:∀ τ,mlookA (σ++τ) false [2] zeroB true (.map m) (.str x.frm)=some (.tup [(match lookB L x.frm with | some y=>y.enc | none=>zeroB),.bool (lookB L x.frm).isSome]):=fun τ=>mlook_b (by rw [zqA hm1]; exact h2) _
 have hms:∀ τ,msetA (σ++τ) false [2] (.map m) (.str x.frm) (.agg [.str x.frm,.str x.to,.int .i64 x.start,.int .i64 x.seq,.isl (K.map GW.enc) false])=some ((σ++τ).set m (.mp (encB (putB L {x with rows:=K})))):=fun τ=>mset_b (y:={x with rows:=K}) (by rw [zqA hm1]; exact h2)
 have htk:∀ (τ:Heap) (o:AObj),((σ++τ).set m o).take σ.length=σ.set m o:=fun τ o=>by rw [List.set_append_left _ _ hm1,List.take_append_of_le_length (by simp),List.take_of_length_le (by simp)]
 cases hlk:lookB L x.frm with
 | none=>
  refine heap_enter (af:=c12) (args':=[.ptr b 0,x.enc]) (σ1:=σ) rfl rfl (by simp [c12]) (by simp [c12]) rfl ?_
  rw [GF.enc_eq] at hl ⊢
  rw [hlk] at hml
  simp [c12,baseA,hl,-getElem?_pos,h1,h2,hb1,hm1,hml,hms,hK,setRun,zqE,zqD,zqA,zqB,List.set_append_right,dropA_gc,refLt,refLt2_bool,List.take_append_of_le_length,List.take_of_length_le,htk,hlk]
 | some o=>
  rw [hlk] at hml
  have hno:=hn o
  cases hnw:newer x o with
  | true=>
   rw [hnw] at hno
   simp only [hnw,if_true,if_false,Bool.false_eq_true]
   refine heap_enter (af:=c12) (args':=[.ptr b 0,x.enc]) (σ1:=σ) rfl rfl (by simp [c12]) (by simp [c12]) rfl ?_
   rw [GF.enc_eq] at hl ⊢
   simp only [GF.enc_eq] at hno hml
   simp [c12,baseA,hl,-getElem?_pos,h1,h2,hb1,hm1,hml,hms,hK,setRun,zqE,zqD,zqA,zqB,List.set_append_right,dropA_gc,refLt,refLt2_bool,List.take_append_of_le_length,List.take_of_length_le,htk,hlk,hno]
  | false=>
   rw [hnw] at hno
   simp only [hnw,if_true,if_false,Bool.false_eq_true]
   refine heap_enter (af:=c12) (args':=[.ptr b 0,x.enc]) (σ1:=σ) rfl rfl (by simp [c12]) (by simp [c12]) rfl ?_
   rw [GF.enc_eq] at hl ⊢
   simp only [GF.enc_eq] at hno hml
   simp [c12,baseA,hl,-getElem?_pos,h1,h2,hb1,hm1,hml,hms,hK,setRun,zqE,zqD,zqA,zqB,List.set_append_right,dropA_gc,refLt,refLt2_bool,List.take_append_of_le_length,List.take_of_length_le,htk,hlk,hno]
open Go.Mach
theorem awake16_ev:evalFn T 300 8 [] 0 []=some (.bool true,[]):=by kernel_rfl
theorem awake16_ok:pureT T c8 []=some (.bool true):=pureT_of_call rfl rfl rfl rfl (callT_of_eval awake16_ev)
theorem callAwake16 (bs:Nat) (σ:Heap):callT T 8 [] bs σ=some (.bool true,σ):=call_clean rfl rfl rfl rfl awake16_ok
open Go.Mach
theorem newest_ok {L : List GF} {σ : Heap} {b m : Nat} {place : ByteArray} (hb : BoxAt σ b m place L) (a : ByteArray) (bs : Nat) : callT T 13 [.ptr b 0, .str a] bs σ = some ((match lookB L a with
      | some y => .tup [.int .i64 y.start, .int .i64 y.seq, .bool true]
      | none => .tup [.int .i64 0, .int .i64 0, .bool false]), σ) := by
  obtain ⟨h1, h2, h3⟩ := hb
  have hb1 : b < σ.length := (zqI.1 h1).1
  have hm1 : m < σ.length := (zqI.1 h2).1
  have hml := mlook_b h2 a
  have hrt : ∀ x y z : AV, refLt σ.length (.tup [x, y, z]) = (refLt2 σ.length x && (refLt2 σ.length y && (refLt2 σ.length z && true))) := fun x y z => rfl
  refine heap_enter (af := c13) (args' := [.ptr b 0, .str a]) (σ1 := σ) rfl rfl (by simp [c13]) (by simp [c13]) rfl ?_
  cases hlk : lookB L a with
  | none =>
    rw [hlk] at hml
    simp [c13, baseA, -getElem?_pos, h1, hml, setRun, zqE, zqD, zqA, zqB, List.set_append_right, dropA_gc, hrt, refLt2_bool, refLt2_int, List.take_append_of_le_length, List.take_of_length_le]
  | some y =>
    rw [hlk] at hml
    simp only [GF.enc_eq] at hml
    simp [c13, baseA, -getElem?_pos, h1, hml, setRun, zqE, zqD, zqA, zqB, List.set_append_right, dropA_gc, hrt, refLt2_bool, refLt2_int, List.take_append_of_le_length, List.take_of_length_le]
theorem new_ok (bs:Nat) (σ:Heap):callT T 9 [.str ⟨#[98]⟩] bs σ=some (.ptr (σ.length+1) 0,σ++[.mp [],.cells [.str ⟨#[98]⟩,.map σ.length] 0 false]):=by
 have hn:∀ bs σ,callT T 23 [.str ⟨#[98]⟩] bs σ=some (.bool true,σ):=fun bs σ=>by
  have:=name_ok ⟨#[98]⟩ (by decide)
  rw [nameBb] at this
  exact call_clean rfl rfl rfl rfl this
 refine heap_enter (af:=c9) (args':=[.str ⟨#[98]⟩]) (σ1:=σ) rfl rfl (by simp [c9]) (by simp [c9]) (by simp [closeArgs,c9]) ?_
 simp [c9,baseA,hn,setRun]
open Go.Mach
theorem lookB_frm {L:List GF} {a:ByteArray} {y:GF} (h:lookB L a=some y):y.frm=a:=by
 have:=List.find?_some h; simpa using this
open Go.Mach
theorem row_eq {a b:GW} (ha:a.args.all (rightV 4)=true) (hb:b.args.all (rightV 4)=true) (h:cmpW a b=0) (hs:a.stamp=b.stamp):a=b:=by
 obtain ⟨n1,l1,s1⟩:=a
 obtain ⟨n2,l2,s2⟩:=b
 unfold cmpW at h
 simp only at h hs ha hb
 split at h
 ·rename_i h0
  have e1:=bytes_ext (cmpB_zero.1 h0)
  have e2:=cmps_eq l1 l2 4 4 ha hb h
  rw [e1,e2,hs]
 ·rename_i h0; exact absurd h h0
theorem up_mem_eq {K:List GW} (h:UpW K) {x y:GW} (hx:x∈K) (hy:y∈K) (h0:cmpW x y=0):x=y:=by
 obtain ⟨i,hi,rfl⟩:=zqS hx
 obtain ⟨j,hj,rfl⟩:=zqS hy
 rcases Nat.lt_trichotomy i j with hlt | rfl | hlt
 ·have:=List.pairwise_iff_getElem.1 h i j hi hj hlt; omega
 ·rfl
 ·have:=List.pairwise_iff_getElem.1 h j i hj hi hlt
  have:=cmpW_neg K[i] K[j]; omega
theorem up_ext:∀ {K K':List GW},UpW K→UpW K'→(∀ x,x∈K↔x∈K')→K=K'
 | [],[],_,_,_=>rfl
 | [],y :: K',_,_,h=>by have:=(h y).2 (by simp); cases this
 | x :: K,[],_,_,h=>by have:=(h x).1 (by simp); cases this
 | x :: K,y :: K',hK,hK',h=>by
  obtain ⟨a1,a2⟩:=List.pairwise_cons.1 hK
  obtain ⟨b1,b2⟩:=List.pairwise_cons.1 hK'
  have hself:∀ z:GW,cmpW z z=0:=fun z=>by have:=cmpW_neg z z; omega
  have hxy:x=y:=by
   rcases List.mem_cons.1 ((h x).1 (by simp)) with e | hx
   ·exact e
   ·rcases List.mem_cons.1 ((h y).2 (by simp)) with e | hy
    ·exact e.symm
    ·have h1:=b1 x hx
     have h2:=a1 y hy
     have:=cmpW_neg x y; omega
  subst hxy
  rw [up_ext a2 b2 fun z=>⟨fun hz=>?_,fun hz=>?_⟩]
  ·rcases List.mem_cons.1 ((h z).1 (by simp [hz])) with rfl | e
   ·have:=a1 z hz; have:=hself z; omega
   ·exact e
  ·rcases List.mem_cons.1 ((h z).2 (by simp [hz])) with rfl | e
   ·have:=b1 z hz; have:=hself z; omega
   ·exact e
structure IsM (L K:List GW):Prop where
 up:UpW K
 sub:∀ x∈K,x∈L
 cov:Cov L K
theorem IsM.mem {L L' K K':List GW} (hr:∀ x∈L,x.args.all (rightV 4)=true) (hm:∀ x,x∈L↔x∈L') (h:IsM L K) (h':IsM L' K') {x:GW} (hx:x∈K):x∈K':=by
 obtain ⟨y,hy,y1,y2⟩:=h'.cov x ((hm x).1 (h.sub x hx))
 obtain ⟨z,hz,z1,z2⟩:=h.cov y ((hm y).2 (h'.sub y hy))
 have hzx:=up_mem_eq h.up hz hx (cmpW_zero_tr z1 y1)
 subst hzx
 have:=row_eq (hr y ((hm y).2 (h'.sub y hy))) (hr z (h.sub z hx)) y1 (by omega)
 rw [←this]; exact hy
theorem IsM.uniq {L L' K K':List GW} (hr:∀ x∈L,x.args.all (rightV 4)=true) (hm:∀ x,x∈L↔x∈L') (h:IsM L K) (h':IsM L' K'):K=K':=
 up_ext h.up h'.up fun x=>⟨fun hx=>h.mem hr hm h' hx,fun hx=>h'.mem (fun y hy=>hr y ((hm y).2 hy)) (fun y=>(hm y).symm) h hx⟩
theorem merge_is (L:List GW) (h1:L.length≤1000000) (h2:∀ y∈L,y.args≠[]∧GV.sizes y.args≤1000000000):∃ K:List GW,IsM L K∧pureT T c22 [.isl (L.map GW.enc) false]=some (.isl (K.map GW.enc) false):=by
 by_cases e:L=[]
 ·subst e; exact ⟨[],⟨List.Pairwise.nil,fun x h=>h,fun x h=>by cases h⟩,merge_none⟩
 ·obtain ⟨K,k1,k2,_,k3,h⟩:=merge_full L e (by omega) h2
  exact ⟨K,⟨k1,k2,k3⟩,h⟩
def lastL (c:Int) (l:List GW):List GW:=l.filter fun x=>decide (c≤x.stamp)
theorem lasting_ok (rows:List GW) (hl:rows.length≤1000000) (c:Int):pureT T c27 [.isl (rows.map GW.enc) false,.int .i64 c]=some (.isl ((lastL c rows).map GW.enc) false):=by
 apply pure_enter (by simp [c27])
 simp [c27]
 refine W_for T 0 22 rows.length (fun i f τ=>f 1=.int .i64 c∧f 7=.isl (rows.map GW.enc) false∧f 8=.int .i64 (rows.length:Int)∧f 9=.int .i64 (i:Int)∧∃ l,f 4=l∧LX 0 3 τ ((lastL c (rows.take i)).map GW.enc) l) ?_ _ _ ?_
 ·rintro i f τ hi ⟨f1,f7,f8,f9,l,f4,Li⟩
  by_cases hlt:i<rows.length
  ·have w1:IntKind.i64.wrap ((i:Int)+1)=(i:Int)+1:=wr64 (by omega) (by omega)
   have hli:(i:Int)<rows.length:=by omega
   obtain ⟨x,hx⟩:∃ x,x=rows[i]:=⟨_,rfl⟩
   have hg:rows[i]?=some x:=by rw [zqF hlt,hx]
   have htk:rows.take (i+1)=rows.take i++[x]:=by rw [List.take_add_one,hg]; rfl
   have hle:(lastL c (rows.take i)).length≤1000000:=Nat.le_trans (List.length_filter_le _ _) (by simp; omega)
   by_cases hs:c≤x.stamp
   ·have e:lastL c (rows.take (i+1))=lastL c (rows.take i)++[x]:=by rw [htk]; simp [lastL,hs]
    simp [-getElem?_pos,f1,f4,f7,f8,f9,hlt,hli,hg,w1,hs,setRun,GW.enc_eq,-appendA_ag,zqA,zqB,zqE,zqD,List.set_append_right,AV.clo1]
    refine stW_app2 (N:=0) Li rfl rfl (by omega) (by omega) (by omega) (by rw [List.length_map]; omega) fun x' σ' hL' hlen' hk'=>?_
    have e2:(lastL c (rows.take i)).map GW.enc++[AV.agg (List.map AV.nrm [.str x.name,.isl (GV.encs x.args) false,.int .i64 x.stamp])]=(lastL c (rows.take (i+1))).map GW.enc:=by rw [e]; simp [GW.enc,GW.cls,AV.nrm]
    rw [e2] at hL'
    simp [f1,f7,f8,f9,w1]
    exact hL'
   ·have e:lastL c (rows.take (i+1))=lastL c (rows.take i):=by rw [htk]; simp [lastL,hs]
    simp [-getElem?_pos,f1,f4,f7,f8,f9,hlt,hli,hg,w1,hs,setRun,GW.enc_eq,-appendA_ag,zqA,zqB,zqE,zqD,List.set_append_right,AV.clo1]
    rw [e]; exact Li.app _
  ·have he:i=rows.length:=by omega
   subst he
   obtain ⟨σ',hc⟩:=Li.closeR
   rw [List.take_of_length_le (Nat.le_refl _)] at hc
   simp [f1,f4,f7,f8,f9,hc]
   done
 ·simp [lastL,LX]
open Go.RowKit Go.Mach
def m14:MC:=⟨[⟨(some 8),.mv (.t 0),none,[]⟩,
  ⟨(some 9),.nilck (.t 8),none,[]⟩,
  ⟨(some 10),.faddr 1 (.t 9),none,[]⟩,
  ⟨(some 11),.load 1 false (.t 10),none,[]⟩],.t 11,12,13,14,15,1,
  [⟨(some 16),.extract 1 (.t 15),none,[]⟩,
  ⟨(some 7),.alloc [.str ⟨#[]⟩,.str ⟨#[]⟩,.int .i64 0,.int .i64 0,.isl [] true],none,[]⟩,
  ⟨none,.store 5 (.t 7) (.t 16),none,[]⟩],
  .region [
  ⟨(some 17),.mv (.t 5),none,[]⟩,
  ⟨(some 18),.faddr 4 (.t 7),none,[]⟩,
  ⟨(some 19),.load 1 false (.t 18),none,[]⟩,
  ⟨(some 20),.mv (.t 1),none,[]⟩,
  ⟨(some 21),.call 27 [.t 19,.t 20],none,[]⟩,
  ⟨(some 22),.append 3 true 48 false (.t 17) (.t 21),none,[]⟩,
  ⟨(some 5),.mv (.t 22),none,[]⟩]⟩
def z14a:ACode:=.region [⟨some 4,.mv (.c (.isl [] true)),none,[]⟩]
def z14b:ACode:=.region [⟨some 5,.mv (.c (.isl [] true)),none,[]⟩]
def z14y:ACode:=.seq (.region [⟨some 23,.mv (.t 5),none,[]⟩,⟨some 24,.call 22 [.t 23],none,[]⟩,⟨some 4,.mv (.t 24),none,[]⟩]) .ret
def mt0:Array Oper→Bool:=fun _=>false
def rowsPt (P:Program) (nt:Nat):Code→Option (ACode × ACode × MC × ACode)
 | .seq a (.seq b (.seq x y))=>(compC P mt0 nt a).bind fun za=>(compC P mt0 nt b).bind fun zb=>(mc P mt0 nt x).bind fun m=>(compC P mt0 nt y).map fun zy=>(za,zb,m,zy)
 | _=>none
theorem r14:Try.f14.body.bind (rowsPt Try.prog Try.f14.ntmps)=some (z14a,z14b,m14,z14y):=by kernel_rfl
theorem rowsPt_some {P:Program} {nt:Nat} {c:Code} {za zb zy:ACode} {m:MC} (h:rowsPt P nt c=some (za,zb,m,zy)):∃ a b x y,c=.seq a (.seq b (.seq x y))∧compC P mt0 nt a=some za∧compC P mt0 nt b=some zb∧mc P mt0 nt x=some m∧compC P mt0 nt y=some zy:=by
 unfold rowsPt at h
 split at h
 ·rename_i a b x y
  obtain ⟨a1,h1,h⟩:=zqH.1 h
  obtain ⟨a2,h2,h⟩:=zqH.1 h
  obtain ⟨a3,h3,h⟩:=zqH.1 h
  obtain ⟨a4,h4,h⟩:=zqG.1 h
  injection h with e1 h; injection h with e2 h; injection h with e3 e4; subst e1 e2 e3 e4
  exact ⟨a,b,x,y,rfl,h1,h2,h3,h4⟩
 ·cases h
theorem nt14:Try.f14.ntmps=25:=by kernel_rfl
theorem res14:Try.f14.results.toList.mapM (compRes Try.prog)=some [.tmp 4]:=by kernel_rfl
theorem nm14 : (Try.f14.name == "runtime.NumGoroutine") = false := by kernel_rfl
structure GoodB (L:List GF):Prop where
 len:L.length≤100
 few:∀ y∈L,y.rows.length≤1000
 rows:∀ y∈L,∀ z∈y.rows,z.args≠[]∧GV.sizes z.args≤1000000000∧z.args.all (rightV 4)=true
def lastAt (c:Int) (L:List GF) (i:Nat):List GW:=match L[i]? with
 | some y=>lastL c y.rows
 | none=>[]
def outOf (c:Int) (L:List GF) (dn:List Nat):List GW:=dn.flatMap (lastAt c L)
def allR (c:Int) (L:List GF):List GW:=L.flatMap fun y=>lastL c y.rows
theorem lastAt_len {c:Int} {L:List GF} (h:GoodB L) (i:Nat):(lastAt c L i).length≤1000:=by
 unfold lastAt; split
 ·rename_i y hy; exact Nat.le_trans (List.length_filter_le _ _) (h.few y (zqR hy))
 ·simp
theorem outOf_len {c:Int} {L:List GF} (h:GoodB L):∀ dn:List Nat,(outOf c L dn).length≤dn.length * 1000
 | []=>by simp [outOf]
 | i :: dn=>by
  have:=outOf_len (c:=c) h dn
  have:=lastAt_len (c:=c) h i
  simp only [outOf,List.flatMap_cons,zqJ,zqU] at *; omega
theorem mem_out {c:Int} {L:List GF} {dn:List Nat} (hall:∀ i,i<L.length→i∈dn) (x:GW):x∈allR c L↔x∈outOf c L dn:=by
 unfold allR outOf lastAt
 simp only [List.mem_flatMap]
 constructor
 ·rintro ⟨y,hy,hx⟩
  obtain ⟨i,hi,rfl⟩:=zqS hy
  exact ⟨i,hall i hi,by rw [zqF hi]; exact hx⟩
 ·rintro ⟨i,_,hx⟩
  cases hg:L[i]? with
  | none=>rw [hg] at hx; cases hx
  | some y=>rw [hg] at hx; exact ⟨y,zqR hg,hx⟩
theorem out_good {c:Int} {L:List GF} (h:GoodB L) {dn:List Nat} {z:GW} (hz:z∈outOf c L dn):z.args≠[]∧GV.sizes z.args≤1000000000∧z.args.all (rightV 4)=true:=by
 obtain ⟨i,_,hi⟩:=List.mem_flatMap.1 hz
 unfold lastAt at hi
 split at hi
 ·rename_i y hy
  exact h.rows y (zqR hy) z (List.mem_filter.1 hi).1
 ·cases hi
theorem callLasting {y:GF} (h:y.rows.length≤1000) (c:Int) (bs:Nat) (σ:Heap):callT T 27 [.isl (y.rows.map GW.enc) false,.int .i64 c] bs σ=some (.isl ((lastL c y.rows).map GW.enc) false,σ):=
 call_clean rfl rfl rfl (by simp) (lasting_ok y.rows (by omega) c)
theorem GW_okEl (l:List GW):(l.map GW.enc).all (okEl 3 true)=true:=by
 rw [zqQ]; intro e he
 obtain ⟨x,_,rfl⟩:=List.mem_map.1 he
 have:=GW.cls_clo x
 simp only [okEl,GW.enc,AV.clo,AV.cells,this,Bool.true_and,Bool.and_self]
 simp [GW.cls]
def RJ (c:Int) (L:List GF) (σ:Heap) (b:Nat) (dn:List Nat) (f:FR) (τ:Heap):Prop:=
 f 0=.ptr b 0∧f 1=.int .i64 c∧f 12=.ptr σ.length 0∧σ.length+1≤τ.length∧(∀ i,i<σ.length→τ[i]?=σ[i]?)∧dn.length+(lf L.length dn).length≤L.length∧∃ l,f 5=l∧LX (σ.length+1) 3 τ ((outOf c L dn).map GW.enc) l
theorem rows_hf {L:List GF} {c:Int} {b m:Nat} {place:ByteArray} {σ:Heap} (hb:BoxAt σ b m place L) (hg:GoodB L) {K:List GW} (hK:IsM (allR c L) K) {body:Code} (hc:rowsPt Try.prog 25 body=some (z14a,z14b,m14,z14y)) :
  HF Try.prog σ.length 25 body (fun f τ=>f=argF [.ptr b 0,.int .i64 c]∧τ=σ) (endR 25 [.tmp 4] true .gc σ.length (.isl (K.map GW.enc) false,σ)):=by
 obtain ⟨h1,h2,h3⟩:=hb
 have hb1:b<σ.length:=(zqI.1 h1).1
 have hm1:m<σ.length:=(zqI.1 h2).1
 obtain ⟨ca,cb,cx,cy,rfl,ka,kb,km,ky⟩:=rowsPt_some hc
 refine .seq (Mid:=fun e f τ=>e=.normal∧f 0=.ptr b 0∧f 1=.int .i64 c∧τ=σ) (.det T_ok ka ?_) (.seq (Mid:=fun e f τ=>e=.normal∧f 0=.ptr b 0∧f 1=.int .i64 c∧f 5=.isl [] true∧τ=σ) (.det T_ok kb ?_)
  (.seq (Mid:=fun e f τ=>e=.normal∧∃ dn,(∀ i,i<L.length→i∈dn)∧RJ c L σ b dn f τ) (.mapc T_ok km (by decide) ?_) (.det T_ok ky ?_) ?_) ?_) ?_
 ·rintro f τ ⟨rfl,rfl⟩
  simp [z14a]
 ·rintro f τ ⟨_,f0,f1,rfl⟩
  simp [z14b,f0,f1]
 ·rintro f τ ⟨_,f0,f1,f5,rfl⟩ _
  simp [m14,-getElem?_pos,f0,f1,f5,h1]
  refine ⟨encB L,h2,RJ c L τ b,?_,?_,?_,fun f' σ'=>∃ dn,(∀ i,i<L.length→i∈dn)∧RJ c L τ b dn f' σ',?_,fun _ _ h=>h⟩
  ·refine ⟨by simp [f0],by simp [f1],by simp,by simp,fun i hi=>zqA hi,?_,.isl [] true,by simp [f5],.inl ⟨rfl,rfl⟩⟩
   have:(lf L.length []).length≤(List.range L.length).length:=List.length_filter_le _ _
   simpa using this
  ·rintro dn f' σ' ⟨g0,g1,g12,hlen,hk,hn,l,g5,Li⟩
   exact ⟨⟨encB L,(hk m hm1).trans h2,rfl⟩,g12,by omega⟩
  ·rintro dn f' σ' i kk vv es' ⟨g0,g1,g12,hlen,hk,hn,l,g5,Li⟩ hi hid hσ' hkv
   rw [(hk m hm1).trans h2] at hσ'; injection hσ' with hσ'; injection hσ' with hσ'; subst hσ'
   have hi':i<L.length:=by simpa [encB] using hi
   obtain ⟨y,hy⟩:∃ y,L[i]?=some y:=⟨_,zqF hi'⟩
   have hkv':kk=.str y.frm∧vv=y.enc:=by
    unfold encB at hkv; rw [List.getElem?_map,hy] at hkv; injection hkv with hkv; injection hkv with e1 e2; exact ⟨e1.symm,e2.symm⟩
   obtain ⟨rfl,rfl⟩:=hkv'
   have hcl:=callLasting (hg.few y (zqR hy)) c
   have hlf:=lf_lt hi' hid
   have hol:=outOf_len (c:=c) hg dn
   have hal:=lastAt_len (c:=c) hg i
   have hlast:lastAt c L i=lastL c y.rows:=by unfold lastAt; rw [hy]
   rw [hlast] at hal
   have hglen:=hg.len
   obtain ⟨x',σ2,e1,L1,hl1,hk1⟩:=(Li.app [.cells [.str y.frm,.str y.to,.int .i64 y.start,.int .i64 y.seq,.isl (y.rows.map GW.enc) false] 0 false]).isl (bytes:=48) (b:=false) ((lastL c y.rows).map GW.enc) (GW_okEl _) (by rw [List.length_map,List.length_map]; omega) (by omega) (by omega) (by simp; omega)
   rw [appendC_isl] at e1
   simp [mvO,-getElem?_pos,g0,g1,g5,g12,GF.enc_eq,setRun,zqA,zqB,zqE,zqD,List.set_append_right,AV.clo1,hcl,e1]
   have hout:outOf c L (dn++[i])=outOf c L dn++lastL c y.rows:=by unfold outOf; rw [List.flatMap_append,List.flatMap_cons,List.flatMap_nil,List.append_nil,hlast]
   refine ⟨by simp [g0],by simp [g1],by simp [g12],by simp at hl1; omega,fun j hj=>?_,by simp; omega,x',by simp,by rw [hout,List.map_append]; exact L1⟩
   have hj':j<σ'.length:=by omega
   have hget:(σ'++[AObj.cells [.str y.frm,.str y.to,.int .i64 y.start,.int .i64 y.seq,.isl (y.rows.map GW.enc) false] 0 false])[j]?=some σ'[j]:=by rw [zqA hj',zqF hj']
   rw [hk1 j _ hget (.inl (by omega)),←hk j hj,zqF hj']
  ·rintro dn f' σ' ⟨g0,g1,g12,hlen,hk,hn,l,g5,Li⟩ hall
   exact ⟨dn,by simpa [encB] using hall,by simp [g0],by simp [g1],by simp [g12],hlen,hk,hn,l,by simp [g5],Li⟩
 ·rintro f τ ⟨_,dn,hall,f0,f1,f12,hlen,hk,hn,l,f5,Li⟩
  have hol:=outOf_len (c:=c) hg dn
  have hglen:=hg.len
  obtain ⟨K',hK',hm'⟩:=merge_is (outOf c L dn) (by omega) fun z hz=>⟨(out_good hg hz).1,(out_good hg hz).2.1⟩
  have hKK:K'=K:=IsM.uniq (fun z hz=>(out_good hg hz).2.2) (fun z=>(mem_out hall z).symm) hK' hK
  subst hKK
  obtain ⟨τ',hc1,hc2,hc3⟩:=Li.closeA
  have hmer:∀ bs,callT T 22 [l] bs τ=some (.isl (K'.map GW.enc) false,τ'):=fun bs=>
   call_data (af:=c22) (args':=[.isl ((outOf c L dn).map GW.enc) false]) (σ':=τ') rfl rfl rfl hm' rfl (by simp) (by simp [closeT,hc1])
  have hrl:refLt2 σ.length (.isl (K'.map GW.enc) false)=true:=rfl
  have htk:τ'.take σ.length=σ:=by
   apply List.ext_getElem?
   intro j
   rcases Nat.lt_or_ge j σ.length with hj | hj
   ·rw [List.getElem?_take_of_lt hj,hc3 j (by omega),hk j hj]
   ·rw [List.getElem?_eq_none (by simp; omega),List.getElem?_eq_none hj]
  simp [z14y,f5,hmer,dropA_gc,refLt,hrl,htk]
 ·rintro e f τ ⟨rfl,_⟩ h; exact absurd rfl h
 ·rintro e f τ ⟨rfl,_⟩ h; exact absurd rfl h
 ·rintro e f τ ⟨rfl,_⟩ h; exact absurd rfl h
open Go.RowKit Go.Mach
mutual
theorem gv_inj:∀ a b:GV,a.enc=b.enc→a=b
 | .mk k n t l,.mk k2 n2 t2 l2,h=>by
  rw [GV.enc_eq,GV.enc_eq] at h
  simp only [GV.kind,GV.num,GV.text,GV.items] at h
  injection h with h
  injection h with h1 h; injection h with h2 h; injection h with h3 h; injection h with h4 h
  injection h1 with _ h1; injection h2 with _ h2; injection h3 with h3; injection h4 with h4
  rw [h1,h2,h3,gvs_inj l l2 h4]
theorem gvs_inj:∀ a b:List GV,GV.encs a=GV.encs b→a=b
 | [],[],_=>rfl
 | [],y :: b,h=>by simp [GV.encs] at h
 | x :: a,[],h=>by simp [GV.encs] at h
 | x :: a,y :: b,h=>by
  simp only [GV.encs] at h
  injection h with h1 h2
  rw [gv_inj x y h1,gvs_inj a b h2]
end
theorem gw_inj {a b:GW} (h:a.enc=b.enc):a=b:=by
 obtain ⟨n,l,s⟩:=a
 obtain ⟨n2,l2,s2⟩:=b
 rw [GW.enc_eq,GW.enc_eq] at h
 injection h with h
 injection h with h1 h; injection h with h2 h; injection h with h3 h
 injection h1 with h1; injection h2 with h2; injection h3 with _ h3
 simp only at h1 h2 h3
 rw [h1,gvs_inj l l2 h2,h3]
theorem map_inj {α:Type} {f:α→AV} (hf:∀ a b,f a=f b→a=b):∀ (l m:List α),l.map f=m.map f→l=m
 | [],[],_=>rfl
 | [],y :: m,h=>by simp at h
 | x :: l,[],h=>by simp at h
 | x :: l,y :: m,h=>by
  simp only [List.map_cons] at h
  injection h with h1 h2
  rw [hf x y h1,map_inj hf l m h2]
theorem gf_inj {a b:GF} (h:a.enc=b.enc):a=b:=by
 obtain ⟨f,t,s,q,r⟩:=a
 obtain ⟨f2,t2,s2,q2,r2⟩:=b
 rw [GF.enc_eq,GF.enc_eq] at h
 injection h with h
 injection h with h1 h; injection h with h2 h; injection h with h3 h; injection h with h4 h; injection h with h5 h
 injection h1 with h1; injection h2 with h2; injection h3 with _ h3; injection h4 with _ h4; injection h5 with h5
 simp only at h1 h2 h3 h4 h5
 rw [h1,h2,h3,h4,map_inj (fun a b=>gw_inj) r r2 h5]
theorem encB_inj:∀ {L M:List GF},encB L=encB M→L=M
 | [],[],_=>rfl
 | [],y :: m,h=>by simp [encB] at h
 | x :: l,[],h=>by simp [encB] at h
 | x :: l,y :: m,h=>by
  simp only [encB,List.map_cons] at h
  injection h with h1 h2
  injection h1 with h3 h4
  rw [gf_inj h4,encB_inj (L:=l) (M:=m) h2]
def RowsRel (args:List AV) (σ:Heap) (r:AV × Heap):Prop:=∃ b m place L c K,args=[.ptr b 0,.int .i64 c]∧BoxAt σ b m place L∧GoodB L∧IsM (allR c L) K∧r=(.isl (K.map GW.enc) false,σ)
theorem RowsRel.uniq {args:List AV} {σ:Heap} {r s:AV × Heap} (h:RowsRel args σ r) (k:RowsRel args σ s):r=s:=by
 obtain ⟨b,m,place,L,c,K,rfl,⟨h1,h2,_⟩,hg,hK,rfl⟩:=h
 obtain ⟨b',m',place',L',c',K',e,⟨k1,k2,_⟩,kg,kK,rfl⟩:=k
 injection e with e1 e; injection e with e2 _
 injection e1 with e1 _; injection e2 with _ e2
 subst e1 e2
 rw [h1] at k1; injection k1 with k1; injection k1 with k1 _ _
 injection k1 with k1 k3; injection k3 with k3 _
 injection k3 with k3; subst k3
 rw [h2] at k2; injection k2 with k2; injection k2 with k2
 have:=encB_inj k2; subst this
 have hr:∀ x∈allR c L,x.args.all (rightV 4)=true:=fun x hx=>by
  obtain ⟨y,hy,hx⟩:=List.mem_flatMap.1 hx
  exact (hg.rows y hy x (List.mem_filter.1 hx).1).2.2
 rw [IsM.uniq hr (fun x=>Iff.rfl) hK kK]
open Classical in
noncomputable def rowsP:List AV→Nat→Heap→Option (AV × Heap):=fun args _ σ=>if h:∃ r,RowsRel args σ r then some h.choose else none
theorem rowsP_eq {args:List AV} {σ:Heap} {r:AV × Heap} (h:RowsRel args σ r) (bs:Nat):rowsP args bs σ=some r:=by
 unfold rowsP
 have hex:∃ r,RowsRel args σ r:=⟨r,h⟩
 rw [dif_pos hex,hex.choose_spec.uniq h]
theorem rows_prim:PrimOK Try.prog 14 rowsP:=by
 intro args bs σ v σ' hx hbs
 unfold rowsP at hx
 split at hx
 ·rename_i hex
  injection hx with hx
  have hrel:=hex.choose_spec
  rw [hx] at hrel
  obtain ⟨b,m,place,L,c,K,rfl,hb,hg,hK,e⟩:=hrel
  injection e with e1 e2; subst e1 e2
  obtain ⟨body,hbody,hc⟩:=zqH.1 r14
  rw [nt14] at hc
  refine prim_hf T_ok Try.func14 hbody nm14 res14 (by rw [nt14]; simp) ?_ hbs
  rw [nt14]
  exact rows_hf hb hg hK hc
 ·cases hx
open Go.RowKit Go.Mach
def m19:MC:=⟨[⟨(some 6),.mv (.t 0),none,[]⟩,
  ⟨(some 7),.nilck (.t 6),none,[]⟩,
  ⟨(some 8),.faddr 1 (.t 7),none,[]⟩,
  ⟨(some 9),.load 1 false (.t 8),none,[]⟩],.t 9,10,11,12,13,1,
  [⟨(some 14),.extract 0 (.t 13),none,[]⟩,
  ⟨(some 15),.extract 1 (.t 13),none,[]⟩,
  ⟨(some 5),.alloc [.str ⟨#[]⟩,.str ⟨#[]⟩,.int .i64 0,.int .i64 0,.isl [] true],none,[]⟩,
  ⟨(some 4),.mv (.t 14),none,[]⟩,
  ⟨none,.store 5 (.t 5) (.t 15),none,[]⟩],
  .seq (.region [
  ⟨(some 16),.faddr 4 (.t 5),none,[]⟩,
  ⟨(some 17),.load 1 false (.t 16),none,[]⟩,
  ⟨(some 18),.mv (.t 1),none,[]⟩,
  ⟨(some 19),.call 27 [.t 17,.t 18],none,[]⟩,
  ⟨(some 20),.faddr 4 (.t 5),none,[]⟩,
  ⟨none,.store 1 (.t 20) (.t 19),none,[]⟩]) (
 .region [
  ⟨(some 21),.mv (.t 0),none,[]⟩,
  ⟨(some 22),.nilck (.t 21),none,[]⟩,
  ⟨(some 23),.faddr 1 (.t 22),none,[]⟩,
  ⟨(some 24),.load 1 false (.t 23),none,[]⟩,
  ⟨(some 25),.mv (.t 4),none,[]⟩,
  ⟨(some 26),.load 5 true (.t 5),none,[]⟩,
  ⟨none,.mset false [2] (.t 24) (.t 25) (.t 26),none,[]⟩])⟩
theorem r19:Try.f19.body.bind (mc Try.prog mt0 Try.f19.ntmps)=some m19:=by kernel_rfl
theorem nt19:Try.f19.ntmps=27:=by kernel_rfl
theorem res19:Try.f19.results.toList.mapM (compRes Try.prog)=some []:=by kernel_rfl
theorem nm19 : (Try.f19.name == "runtime.NumGoroutine") = false := by kernel_rfl
def clearB (c:Int) (y:GF):GF:={y with rows:=lastL c y.rows}
def clearAt (c:Int) (L:List GF) (dn:List Nat):List GF:=L.zipIdx.map fun p=>if p.2∈dn then clearB c p.1 else p.1
theorem clearAt_len (c:Int) (L:List GF) (dn:List Nat):(clearAt c L dn).length=L.length:=by simp [clearAt]
theorem clearAt_get (c:Int) (L:List GF) (dn:List Nat) (i:Nat):(clearAt c L dn)[i]?=(L[i]?).map fun y=>if i∈dn then clearB c y else y:=by
 unfold clearAt
 rw [List.getElem?_map,List.getElem?_zipIdx]
 cases L[i]? <;> simp
theorem clearAt_nil (c:Int) (L:List GF):clearAt c L []=L:=by
 apply List.ext_getElem?; intro i
 rw [clearAt_get]; cases L[i]? <;> simp
theorem clearAt_all (c:Int) (L:List GF) {dn:List Nat} (h:∀ i,i<L.length→i∈dn):clearAt c L dn=L.map (clearB c):=by
 apply List.ext_getElem?; intro i
 rw [clearAt_get,List.getElem?_map]
 rcases Nat.lt_or_ge i L.length with hi | hi
 ·rw [zqF hi]; simp [h i hi]
 ·rw [List.getElem?_eq_none hi]; rfl
def FrmU (L:List GF):Prop:=∀ (i j:Nat) (x y:GF),L[i]?=some x→L[j]?=some y→x.frm=y.frm→i=j
theorem idxB_at:∀ {L:List GF} {i:Nat} {y:GF},FrmU L→L[i]?=some y→idxB y.frm L=i∧lookB L y.frm=some y
 | [],i,y,_,h=>by simp at h
 | x :: L,0,y,_,h=>by
  simp at h; subst h
  exact ⟨by simp [idxB],by simp [lookB]⟩
 | x :: L,i+1,y,ha,h=>by
  have hne:¬ y.frm=x.frm:=fun e=>by have:=ha (i+1) 0 y x h rfl e; omega
  have ha':FrmU L:=fun p q u v h1 h2 e=>by have:=ha (p+1) (q+1) u v (by simpa using h1) (by simpa using h2) e; omega
  obtain ⟨h1,h2⟩:=idxB_at ha' (by simpa using h)
  refine ⟨by simp [idxB,hne,h1],?_⟩
  unfold lookB at h2 ⊢
  rw [List.find?_cons,decide_eq_false (fun e=>hne e.symm)]; exact h2
theorem clearAt_apart {c:Int} {L:List GF} {dn:List Nat} (h:FrmU L):FrmU (clearAt c L dn):=fun i j x y hx hy e=>by
 rw [clearAt_get] at hx hy
 obtain ⟨u,hu,rfl⟩:=zqG.1 hx
 obtain ⟨v,hv,rfl⟩:=zqG.1 hy
 refine h i j u v hu hv ?_
 have f1:∀ (p:Prop) [Decidable p] (y:GF),(if p then clearB c y else y).frm=y.frm:=fun p _ y=>by split <;> rfl
 rw [f1,f1] at e; exact e
theorem clearAt_put {c:Int} {L:List GF} {dn:List Nat} (h:FrmU L) {i:Nat} {y:GF} (hy:L[i]?=some y) (hi:i ∉ dn):putB (clearAt c L dn) (clearB c y)=clearAt c L (dn++[i]):=by
 have hg:(clearAt c L dn)[i]?=some y:=by rw [clearAt_get,hy]; simp [hi]
 obtain ⟨h1,h2⟩:=idxB_at (clearAt_apart (c:=c) (dn:=dn) h) hg
 have hf:(clearB c y).frm=y.frm:=rfl
 unfold putB
 rw [hf,h2]
 simp only [h1]
 apply List.ext_getElem?; intro j
 rw [clearAt_get,List.getElem?_set]
 by_cases hij:i=j
 ·subst hij
  rw [if_pos rfl,if_pos (zqI.1 hg).1,hy]; simp
 ·rw [if_neg hij,clearAt_get]
  have:(j∈dn++[i])=(j∈dn):=by simp [List.mem_append,Ne.symm hij,fun e:j=i=>hij e.symm]
  simp only [this]
def CJ (c:Int) (L:List GF) (σ:Heap) (b m:Nat) (dn:List Nat) (f:FR) (τ:Heap):Prop:=
 f 0=.ptr b 0∧f 1=.int .i64 c∧f 10=.ptr σ.length 0∧σ.length+1≤τ.length∧(∀ i,i<σ.length→i≠m→τ[i]?=σ[i]?)∧τ[m]?=some (.mp (encB (clearAt c L dn)))
theorem clear_hf {L:List GF} {c:Int} {b m:Nat} {place:ByteArray} {σ:Heap} (hb:BoxAt σ b m place L) (hg:GoodB L) (ha:FrmU L) {body:Code} (hc:mc Try.prog mt0 27 body=some m19) :
  HF Try.prog σ.length 27 body (fun f τ=>f=argF [.ptr b 0,.int .i64 c]∧τ=σ) (endR 27 [] true .gc σ.length (.tup [],σ.set m (.mp (encB (L.map (clearB c)))))):=by
 obtain ⟨h1,h2,h3⟩:=hb
 have hb1:b<σ.length:=(zqI.1 h1).1
 have hm1:m<σ.length:=(zqI.1 h2).1
 refine .mapc T_ok hc (by decide) ?_
 rintro f τ ⟨rfl,rfl⟩ _
 simp [m19,-getElem?_pos,h1]
 refine ⟨encB L,h2,CJ c L τ b m,?_,?_,?_,fun f' σ'=>∃ dn,(∀ i,i<L.length→i∈dn)∧CJ c L τ b m dn f' σ',?_,?_⟩
 ·exact ⟨by simp,by simp,by simp,by simp,fun i hi _=>zqA hi,by rw [clearAt_nil,zqA hm1]; exact h2⟩
 ·rintro dn f' σ' ⟨g0,g1,g10,hlen,hk,hm⟩
  exact ⟨⟨_,hm,by simp [encB,clearAt_len]⟩,g10,by omega⟩
 ·rintro dn f' σ' i kk vv es' ⟨g0,g1,g10,hlen,hk,hm⟩ hi hid hσ' hkv
  rw [hm] at hσ'; injection hσ' with hσ'; injection hσ' with hσ'; subst hσ'
  have hi':i<L.length:=by simpa [encB] using hi
  obtain ⟨y,hy⟩:∃ y,L[i]?=some y:=⟨_,zqF hi'⟩
  have hkv':kk=.str y.frm∧vv=y.enc:=by
   unfold encB at hkv; rw [List.getElem?_map,clearAt_get,hy] at hkv
   simp [hid] at hkv
   exact ⟨hkv.1.symm,hkv.2.symm⟩
  obtain ⟨rfl,rfl⟩:=hkv'
  have hcl:=callLasting (hg.few y (zqR hy)) c
  have hb':σ'[b]?=some (.cells [.str place,.map m] 0 false):=(hk b hb1 h3).trans h1
  have hbl:b<σ'.length:=by omega
  have hml:m<σ'.length:=by omega
  have hms:∀ τ2,msetA (σ'++τ2) false [2] (.map m) (.str y.frm) (.agg [.str y.frm,.str y.to,.int .i64 y.start,.int .i64 y.seq,.isl ((lastL c y.rows).map GW.enc) false])=some ((σ'++τ2).set m (.mp (encB (clearAt c L (dn++[i]))))):=fun τ2=>by
   rw [←clearAt_put ha hy hid]
   exact mset_b (y:=clearB c y) (by rw [zqA hml]; exact hm)
  simp [mvO,-getElem?_pos,g0,g1,g10,GF.enc_eq,setRun,hb',hbl,hml,hms,zqA,zqB,zqE,zqD,List.set_append_right,AV.clo1,hcl]
  refine ⟨by simp [g0],by simp [g1],by simp [g10],by simp; omega,fun j hj hjm=>?_,?_⟩
  ·rw [zqA (by simp; omega),zqC (fun e=>hjm e.symm)]; exact hk j hj hjm
  ·rw [zqA (by simp; omega),list_set_at hml]
 ·rintro dn f' σ' ⟨g0,g1,g10,hlen,hk,hm⟩ hall
  exact ⟨dn,by simpa [encB] using hall,by simp [g0],by simp [g1],by simp [g10],hlen,hk,hm⟩
 ·rintro f' σ' ⟨dn,hall,g0,g1,g10,hlen,hk,hm⟩
  rw [clearAt_all c L hall] at hm
  have htk:σ'.take τ.length=τ.set m (.mp (encB (L.map (clearB c)))):=by
   apply List.ext_getElem?
   intro j
   rcases Nat.lt_or_ge j τ.length with hj | hj
   ·rw [List.getElem?_take_of_lt hj]
    by_cases hjm:j=m
    ·subst hjm; rw [hm,list_set_at hm1]
    ·rw [hk j hj hjm,zqC (fun e=>hjm e.symm)]
   ·rw [List.getElem?_eq_none (by simp; omega),List.getElem?_eq_none (by simpa using hj)]
  simp [dropA_gc,refLt,resF,res1,htk,closeT]
  done
open Go.RowKit Go.Mach
def ClearRel (args:List AV) (σ:Heap) (r:AV × Heap):Prop:=∃ b m place L c,args=[.ptr b 0,.int .i64 c]∧BoxAt σ b m place L∧GoodB L∧FrmU L∧r=(.tup [],σ.set m (.mp (encB (L.map (clearB c)))))
theorem ClearRel.uniq {args:List AV} {σ:Heap} {r s:AV × Heap} (h:ClearRel args σ r) (k:ClearRel args σ s):r=s:=by
 obtain ⟨b,m,place,L,c,rfl,⟨h1,h2,_⟩,hg,hK,rfl⟩:=h
 obtain ⟨b',m',place',L',c',e,⟨k1,k2,_⟩,kg,kK,rfl⟩:=k
 injection e with e1 e; injection e with e2 _
 injection e1 with e1 _; injection e2 with _ e2
 subst e1 e2
 rw [h1] at k1; injection k1 with k1; injection k1 with k1 _ _
 injection k1 with k1 k3; injection k3 with k3 _
 injection k3 with k3; subst k3
 rw [h2] at k2; injection k2 with k2; injection k2 with k2
 have:=encB_inj k2; subst this
 rfl
open Classical in
noncomputable def clearP:List AV→Nat→Heap→Option (AV × Heap):=fun args _ σ=>if h:∃ r,ClearRel args σ r then some h.choose else none
theorem clearP_eq {args:List AV} {σ:Heap} {r:AV × Heap} (h:ClearRel args σ r) (bs:Nat):clearP args bs σ=some r:=by
 unfold clearP
 have hex:∃ r,ClearRel args σ r:=⟨r,h⟩
 rw [dif_pos hex,hex.choose_spec.uniq h]
theorem clear_prim:PrimOK Try.prog 19 clearP:=by
 intro args bs σ v σ' hx hbs
 unfold clearP at hx
 split at hx
 ·rename_i hex
  injection hx with hx
  have hrel:=hex.choose_spec
  rw [hx] at hrel
  obtain ⟨b,m,place,L,c,rfl,hb,hg,ha,e⟩:=hrel
  injection e with e1 e2; subst e1 e2
  obtain ⟨body,hbody,hc⟩:=zqH.1 r19
  rw [nt19] at hc
  refine prim_hf T_ok Try.func19 hbody nm19 res19 (by rw [nt19]; simp) ?_ hbs
  rw [nt19]
  exact clear_hf hb hg ha hc
 ·cases hx
noncomputable def q16 (f:Nat):Option (List AV→Nat→Heap→Option (AV × Heap)):=if f=14 then some rowsP else if f=19 then some clearP else none
noncomputable def T16x:Tab:=T.more q16
theorem q16_new:∀ f p,q16 f=some p→T.pr f=none→T.fn f=none∧f≠yno:=by
 intro f p h _
 unfold q16 at h
 split at h
 ·rename_i e; subst e; exact ⟨rfl,by decide⟩
 ·split at h
  ·rename_i e; subst e; exact ⟨rfl,by decide⟩
  ·cases h
theorem T16x_ok:TabOK Try.prog T16x:=more_ok T_ok rfl fun f p h=>by
 unfold q16 at h
 split at h
 ·rename_i e; subst e; injection h with h; subst h; exact rows_prim
 ·split at h
  ·rename_i e; subst e; injection h with h; subst h; exact clear_prim
  ·cases h
theorem up16 {f:Nat} {args:List AV} {bs:Nat} {σ:Heap} {r:AV × Heap} (h:callT T f args bs σ=some r):callT T16x f args bs σ=some r:=more_call q16_new h
theorem callRows {L:List GF} {c:Int} {b m:Nat} {place:ByteArray} {σ:Heap} (hb:BoxAt σ b m place L) (hg:GoodB L) {K:List GW} (hK:IsM (allR c L) K) (bs:Nat):callT T16x 14 [.ptr b 0,.int .i64 c] bs σ=some (.isl (K.map GW.enc) false,σ):=by
 rw [callT_pr (p:=rowsP) _ _ _ rfl _]
 exact rowsP_eq ⟨b,m,place,L,c,K,rfl,hb,hg,hK,rfl⟩ bs
theorem callClear {L:List GF} {c:Int} {b m:Nat} {place:ByteArray} {σ:Heap} (hb:BoxAt σ b m place L) (hg:GoodB L) (ha:FrmU L) (bs:Nat):callT T16x 19 [.ptr b 0,.int .i64 c] bs σ=some (.tup [],σ.set m (.mp (encB (L.map (clearB c))))):=by
 rw [callT_pr (p:=clearP) _ _ _ rfl _]
 exact clearP_eq ⟨b,m,place,L,c,rfl,hb,hg,ha,rfl⟩ bs
open Go.RowKit Go.Mach
theorem clearB_frm (c:Int) (y:GF):(clearB c y).frm=y.frm:=rfl
theorem lastL_idem (c:Int) (l:List GW):lastL c (lastL c l)=lastL c l:=by simp [lastL]
theorem clearB_idem (c:Int) (y:GF):clearB c (clearB c y)=clearB c y:=by simp [clearB,lastL_idem]
theorem lookB_map (c:Int):∀ (L:List GF) (a:ByteArray),lookB (L.map (clearB c)) a=(lookB L a).map (clearB c)
 | [],a=>rfl
 | y :: L,a=>by
  have ih:=lookB_map c L a
  unfold lookB at *
  simp only [List.map_cons,List.find?_cons,clearB_frm]
  by_cases h:y.frm=a
  ·simp [h,clearB_frm]
  ·simp [h,clearB_frm,ih]
theorem idxB_map (c:Int) (a:ByteArray):∀ L:List GF,idxB a (L.map (clearB c))=idxB a L
 | []=>rfl
 | y :: L=>by simp only [List.map_cons,idxB,clearB_frm,idxB_map c a L]
theorem putB_map (c:Int) (L:List GF) (y:GF):(putB L y).map (clearB c)=putB (L.map (clearB c)) (clearB c y):=by
 unfold putB
 rw [clearB_frm,lookB_map,idxB_map]
 cases lookB L y.frm with
 | some o=>simp [List.map_set]
 | none=>simp
theorem allR_map (c:Int) (L:List GF):allR c L=(L.map (clearB c)).flatMap (·.rows):=by
 unfold allR; rw [List.flatMap_map]; rfl
theorem putB_len (L:List GF) (y:GF):(putB L y).length≤L.length+1:=by
 unfold putB; split <;> simp
theorem putB_mem {L:List GF} {y z:GF} (h:z∈putB L y):z=y∨z∈L:=by
 unfold putB at h
 split at h
 ·rcases List.mem_or_eq_of_mem_set h with h | h
  ·exact .inr h
  ·exact .inl h
 ·rcases List.mem_append.1 h with h | h
  ·exact .inr h
  ·exact .inl (by simpa using h)
theorem lookB_none {L:List GF} {a:ByteArray} (h:lookB L a=none):∀ y∈L,y.frm≠a:=fun y hy e=>by
 unfold lookB at h
 have:=List.find?_eq_none.1 h y hy
 simp [e] at this
theorem idxB_some:∀ {L:List GF} {a:ByteArray} {o:GF},lookB L a=some o→L[idxB a L]?=some o
 | [],a,o,h=>by cases h
 | y :: L,a,o,h=>by
  unfold lookB at h
  rw [List.find?_cons] at h
  by_cases e:y.frm=a
  ·simp only [decide_eq_true e] at h; injection h with h; subst h
   simp [idxB,e]
  ·simp only [decide_eq_false e] at h
   have:=idxB_some (L:=L) (a:=a) h
   have hne:¬ a=y.frm:=fun x=>e x.symm
   simp only [idxB,if_neg hne,zqD]; exact this
theorem FrmU.put {L:List GF} (h:FrmU L) (y:GF):FrmU (putB L y):=by
 unfold putB
 cases hl:lookB L y.frm with
 | none=>
  have hn:=lookB_none hl
  intro i j u v hu hv e
  simp only at hu hv
  rcases Nat.lt_or_ge i L.length with hi | hi <;> rcases Nat.lt_or_ge j L.length with hj | hj
  ·rw [zqA hi] at hu; rw [zqA hj] at hv; exact h i j u v hu hv e
  ·rw [zqA hi] at hu; rw [zqB hj] at hv
   obtain ⟨k1,k2⟩:=zqI.1 hv
   simp at k1 k2
   exact absurd (e.trans (by rw [←k2])) (hn u (zqR hu))
  ·rw [zqB hi] at hu; rw [zqA hj] at hv
   obtain ⟨k1,k2⟩:=zqI.1 hu
   simp at k1 k2
   exact absurd (e.symm.trans (by rw [←k2])) (hn v (zqR hv))
  ·have h1:=(zqI.1 hu).1
   have h2:=(zqI.1 hv).1
   simp at h1 h2; omega
 | some o=>
  have hi:=idxB_some hl
  have hof:=lookB_frm hl
  have frmAt:∀ (i:Nat) (u:GF),(L.set (idxB y.frm L) y)[i]?=some u→∃ u',L[i]?=some u'∧u'.frm=u.frm:=fun i u hu=>by
   rw [List.getElem?_set] at hu
   split at hu
   ·rename_i e; subst e
    rw [if_pos (zqI.1 hi).1] at hu
    injection hu with hu; subst hu
    exact ⟨o,hi,hof⟩
   ·exact ⟨u,hu,rfl⟩
  intro i j u v hu hv e
  obtain ⟨u',a1,a2⟩:=frmAt i u hu
  obtain ⟨v',b1,b2⟩:=frmAt j v hv
  exact h i j u' v' a1 b1 (by rw [a2,b2,e])
theorem FrmU.clear {L:List GF} (h:FrmU L) (c:Int):FrmU (L.map (clearB c)):=fun i j u v hu hv e=>by
 rw [List.getElem?_map] at hu hv
 obtain ⟨u',a1,rfl⟩:=zqG.1 hu
 obtain ⟨v',b1,rfl⟩:=zqG.1 hv
 exact h i j u' v' a1 b1 e
theorem GoodB.clear {L:List GF} (h:GoodB L) (c:Int):GoodB (L.map (clearB c)):=by
 refine ⟨by simpa using h.len,fun y hy=>?_,fun y hy z hz=>?_⟩
 ·obtain ⟨y',hy',rfl⟩:=List.mem_map.1 hy
  exact Nat.le_trans (List.length_filter_le _ _) (h.few y' hy')
 ·obtain ⟨y',hy',rfl⟩:=List.mem_map.1 hy
  exact h.rows y' hy' z (List.mem_filter.1 hz).1
theorem GoodB.put {L:List GF} (h:GoodB L) {y:GF} (hl:L.length<100) (h1:y.rows.length≤1000) (h2:∀ z∈y.rows,z.args≠[]∧GV.sizes z.args≤1000000000∧z.args.all (rightV 4)=true):GoodB (putB L y):=by
 refine ⟨by have:=putB_len L y; omega,fun u hu=>?_,fun u hu=>?_⟩
 ·rcases putB_mem hu with rfl | hu
  ·exact h1
  ·exact h.few u hu
 ·rcases putB_mem hu with rfl | hu
  ·exact h2
  ·exact h.rows u hu
open Go.RowKit Go.Mach
def putV (L:List GF) (x y:GF):Bool × List GF:=match lookB L x.frm with
 | some o=>if newer x o=true then (true,putB L y) else (false,L)
 | none=>(true,putB L y)
theorem putV_rel {t:Int} {LA LB:List GF} {x y:GF} (h:LA.map (clearB t)=LB.map (clearB t)):(putV LA x y).1=(putV LB x y).1∧(putV LA x y).2.map (clearB t)=(putV LB x y).2.map (clearB t):=by
 have hl:(lookB LA x.frm).map (clearB t)=(lookB LB x.frm).map (clearB t):=by rw [←lookB_map,←lookB_map,h]
 have hp:(putB LA y).map (clearB t)=(putB LB y).map (clearB t):=by rw [putB_map,putB_map,h]
 unfold putV
 cases ha:lookB LA x.frm with
 | none=>
  rw [ha] at hl
  cases hb:lookB LB x.frm with
  | none=>exact ⟨rfl,hp⟩
  | some o=>rw [hb] at hl; cases hl
 | some o=>
  rw [ha] at hl
  cases hb:lookB LB x.frm with
  | none=>rw [hb] at hl; cases hl
  | some o2=>
   rw [hb] at hl
   simp only [Option.map_some] at hl
   injection hl with hl
   have hn:newer x o=newer x o2:=by
    have h1:newer x o=newer x (clearB t o):=rfl
    have h2:newer x o2=newer x (clearB t o2):=rfl
    rw [h1,h2,hl]
   simp only [hn]
   split
   ·exact ⟨rfl,hp⟩
   ·exact ⟨rfl,h⟩
theorem putV_good {L:List GF} (h:GoodB L) (hf:FrmU L) {x y:GF} (hl:L.length<100) (h1:y.rows.length≤1000) (h2:∀ z∈y.rows,z.args≠[]∧GV.sizes z.args≤1000000000∧z.args.all (rightV 4)=true):GoodB (putV L x y).2∧FrmU (putV L x y).2∧(putV L x y).2.length≤L.length+1:=by
 unfold putV
 split
 ·split
  ·exact ⟨h.put hl h1 h2,hf.put y,putB_len L y⟩
  ·exact ⟨h,hf,Nat.le_succ _⟩
 ·exact ⟨h.put hl h1 h2,hf.put y,putB_len L y⟩
theorem put2 {x:GX} {b:GF} (hb:XB x b) {K:List GW} (hK:pureT T c22 [.isl (b.rows.map GW.enc) false]=some (.isl (K.map GW.enc) false)) {L:List GF} {σ:Heap} {bi mi:Nat} (h0:σ[mi]?=some (.mp (encB L))) (h1:σ[bi]?=some (.cells [.str ⟨#[98]⟩,.map mi] 0 false)) (hne:bi≠mi) (bs:Nat) :
  callT T16x 12 [.ptr bi 0,b.enc] bs σ=some (.bool (sym (putV L b {b with rows:=K}).1),σ.set mi (.mp (encB (putV L b {b with rows:=K}).2))):=by
 have e4:=hb.to
 have hp:=put_okK (x:=b) ⟨hb.ok,hb.sz,by have:=hb.rows; omega,fun y hy=>⟨(hb.args y hy).1,by have:=(hb.args y hy).2; omega⟩⟩ (K:=K) (fun bs σ=>call_clean rfl rfl rfl (by simp) hK) (L:=L) (σ:=σ) (b:=bi) (m:=mi) ⟨by rw [e4]; exact h1,h0,hne⟩ bs
 have hset:σ.set mi (.mp (encB L))=σ:=list_set_same h0
 refine up16 (hp.trans ?_)
 unfold putV
 cases lookB L b.frm with
 | none=>rfl
 | some o=>
  simp only []
  split
  ·rfl
  ·rw [hset]; rfl
theorem merge_is2 (L:List GW) (h1:L.length≤1000000) (h2:∀ y∈L,y.args≠[]∧GV.sizes y.args≤1000000000):∃ K:List GW,IsM L K∧K.length≤L.length∧pureT T c22 [.isl (L.map GW.enc) false]=some (.isl (K.map GW.enc) false):=by
 by_cases e:L=[]
 ·subst e; exact ⟨[],⟨List.Pairwise.nil,fun x h=>h,fun x h=>by cases h⟩,Nat.le_refl _,merge_none⟩
 ·obtain ⟨K,k1,k2,k4,k3,h⟩:=merge_full L e (by omega) h2
  exact ⟨K,⟨k1,k2,k3⟩,k4,h⟩
theorem xb_rows {x:GX} {b:GF} (hb:XB x b) {z:GW} (hz:z∈b.rows):z.args≠[]∧GV.sizes z.args≤1000000000∧z.args.all (rightV 4)=true:=by
 obtain ⟨h1,h2⟩:=hb.args z hz
 refine ⟨h1,by omega,?_⟩
 obtain ⟨k,hk,rfl⟩:=zqS hz
 have:=(hb.ok.rows k hk _ (zqF hk)).1
 simp only [rowOK,zqL] at this
 exact this.1.2
def CInv (t:Int) (i:Nat) (LA LB:List GF) (τ:Heap):Prop:=τ[0]?=some (.mp (encB LA))∧τ[1]?=some (.cells [.str ⟨#[98]⟩,.map 0] 0 false)∧τ[2]?=some (.mp (encB LB))∧τ[3]?=some (.cells [.str ⟨#[98]⟩,.map 2] 0 false) ∧
 LA.map (clearB t)=LB.map (clearB t)∧GoodB LA∧GoodB LB∧FrmU LA∧FrmU LB∧LA.length≤i∧LB.length≤i
def newV (L:List GF) (a:ByteArray):AV:=match lookB L a with
 | some y=>.tup [.int .i64 y.start,.int .i64 y.seq,.bool true]
 | none=>.tup [.int .i64 0,.int .i64 0,.bool false]
theorem newV_rel {t:Int} {LA LB:List GF} (h:LA.map (clearB t)=LB.map (clearB t)) (a:ByteArray):newV LA a=newV LB a:=by
 have hl:(lookB LA a).map (clearB t)=(lookB LB a).map (clearB t):=by rw [←lookB_map,←lookB_map,h]
 unfold newV
 cases ha:lookB LA a with
 | none=>
  rw [ha] at hl
  cases hb:lookB LB a with
  | none=>rfl
  | some o=>rw [hb] at hl; cases hl
 | some o=>
  rw [ha] at hl
  cases hb:lookB LB a with
  | none=>rw [hb] at hl; cases hl
  | some o2=>
   rw [hb] at hl
   simp only [Option.map_some] at hl
   injection hl with hl
   have h1:o.start=o2.start:=by have:=congrArg GF.start hl; exact this
   have h2:o.seq=o2.seq:=by have:=congrArg GF.seq hl; exact this
   simp only [h1,h2]
theorem newV_cases (L:List GF) (a:ByteArray):∃ s q z,newV L a=.tup [.int .i64 s,.int .i64 q,.bool z]:=by
 unfold newV; split <;> exact ⟨_,_,_,rfl⟩
theorem callNewest2 {L:List GF} {σ:Heap} {bi mi:Nat} (h0:σ[mi]?=some (.mp (encB L))) (h1:σ[bi]?=some (.cells [.str ⟨#[98]⟩,.map mi] 0 false)) (hne:bi≠mi) (a:ByteArray) (bs:Nat):callT T16x 13 [.ptr bi 0,.str a] bs σ=some (newV L a,σ):=by
 refine up16 ?_
 rw [newest_ok (L:=L) (b:=bi) (m:=mi) ⟨h1,h0,hne⟩ a bs]
 unfold newV; cases lookB L a <;> rfl
open Go.RowKit Go.Mach
theorem allR_len' (c:Int):∀ L:List GF,(∀ y∈L,y.rows.length≤1000)→(allR c L).length≤L.length * 1000
 | [],_=>by simp [allR]
 | y :: L,h=>by
  have ih:=allR_len' c L fun z hz=>h z (by simp [hz])
  have h1:=h y (by simp)
  have h2:(lastL c y.rows).length≤y.rows.length:=List.length_filter_le _ _
  unfold allR at *
  simp only [List.flatMap_cons,zqJ,zqU] at *; omega
theorem allR_len {c:Int} {L:List GF} (h:GoodB L):(allR c L).length≤L.length * 1000:=allR_len' c L h.few
set_option maxRecDepth 100000 in
theorem clears_law (l:List GX) (hl:XsOk l) (clock:Int) (hc:GV.i64ok clock):pureT T16x c7 [.isl (l.map GX.enc) false,.int .i64 clock]=some (.bool true):=by
 obtain ⟨hok,hlen⟩:=hl
 have haw:∀ bs σ,callT T16x 8 [] bs σ=some (.bool true,σ):=fun bs σ=>up16 (callAwake16 bs σ)
 have hnw:∀ bs σ,callT T16x 9 [.str ⟨#[98]⟩] bs σ=some (.ptr (σ.length+1) 0,σ++[.mp [],.cells [.str ⟨#[98]⟩,.map σ.length] 0 false]):=fun bs σ=>up16 (new_ok bs σ)
 have hpc:∀ bs σ,callT T16x 11 [.int .i64 clock,.int .i64 13] bs σ=some (.int .i64 (pickN clock 13:Int),σ):=fun bs σ=>up16 (pick16 clock 13 (by omega) hc bs σ)
 generalize ((pickN clock 13:Nat):Int)=t at *
 apply pure_enter (by simp [c7])
 simp [c7,haw,hnw,setRun]
 refine W_for T16x 0 100 (min 20 l.length) (fun i f τ=>f 0=.isl (l.map GX.enc) false∧f 1=.int .i64 clock∧f 6=.ptr 1 0∧f 7=.ptr 3 0∧f 8=.int .i64 (i:Int)∧∃ LA LB,CInv t i LA LB τ) ?_ _ _ ?_
 ·rintro i f τ hi ⟨f0,f1,f6,f7,f8,LA,LB,t0,t1,t2,t3,hrel,ga,gb,ua,ub,la,lb⟩
  by_cases hlt:i<min 20 l.length
  ·have hl1:i<l.length:=by omega
   have hl2:(i:Int)<20:=by omega
   have w1:IntKind.i64.wrap ((i:Int)+1)=(i:Int)+1:=wr64 (by omega) (by omega)
   obtain ⟨x,hx⟩:∃ x,x=l[i]:=⟨_,rfl⟩
   have hli:l[i]?=some x:=by rw [hx]; exact zqF hl1
   have hxo:x.ok:=by rw [hx]; exact hok _ (zqT hl1)
   obtain ⟨b,hb,hcb⟩:=batch16 x hxo
   have cb:∀ bs σ,callT T16x 10 [x.enc] bs σ=some (b.enc,σ):=fun bs σ=>up16 (call_clean rfl rfl rfl (by simp) hcb)
   obtain ⟨K,hK,hKle,hKm⟩:=merge_is2 b.rows (by have:=hb.rows; omega) fun y hy=>⟨(hb.args y hy).1,by have:=(hb.args y hy).2; omega⟩
   have hKr:∀ z∈K,z.args≠[]∧GV.sizes z.args≤1000000000∧z.args.all (rightV 4)=true:=fun z hz=>xb_rows hb (hK.sub z hz)
   have hKl:K.length≤1000:=by have:=hb.rows; omega
   obtain ⟨y,hy⟩:∃ y:GF,y={b with rows:=K}:=⟨_,rfl⟩
   obtain ⟨bo,hbo⟩:∃ bo:AObj,bo=.cells [.str b.frm,.str b.to,.int .i64 b.start,.int .i64 b.seq,.isl (b.rows.map GW.enc) false] 0 false:=⟨_,rfl⟩
   have l0:0<τ.length:=(zqI.1 t0).1
   have l1:1<τ.length:=(zqI.1 t1).1
   have l2:2<τ.length:=(zqI.1 t2).1
   have l3:3<τ.length:=(zqI.1 t3).1
   have ap:∀ j,j<τ.length→(τ++[bo])[j]?=τ[j]?:=fun j hj=>zqA hj
   have hpa:=put2 hb hKm (L:=LA) (σ:=τ++[bo]) (bi:=1) (mi:=0) ((ap 0 l0).trans t0) ((ap 1 l1).trans t1) (by omega) 0
   rw [←hy] at hpa
   obtain ⟨τ1,hτ1⟩:∃ τ1,τ1=(τ++[bo]).set 0 (.mp (encB (putV LA b y).2)):=⟨_,rfl⟩
   rw [←hτ1] at hpa
   have s1:∀ j,j≠0→τ1[j]?=(τ++[bo])[j]?:=fun j hj=>by rw [hτ1,zqC (fun e=>hj e.symm)]
   have hpb:=put2 hb hKm (L:=LB) (σ:=τ1) (bi:=3) (mi:=2) ((s1 2 (by omega)).trans ((ap 2 l2).trans t2)) ((s1 3 (by omega)).trans ((ap 3 l3).trans t3)) (by omega) 0
   rw [←hy] at hpb
   obtain ⟨τ2,hτ2⟩:∃ τ2,τ2=τ1.set 2 (.mp (encB (putV LB b y).2)):=⟨_,rfl⟩
   rw [←hτ2] at hpb
   have s2:∀ j,j≠2→τ2[j]?=τ1[j]?:=fun j hj=>by rw [hτ2,zqC (fun e=>hj e.symm)]
   have n1:τ1.length=τ.length+1:=by rw [hτ1]; simp
   have n2:τ2.length=τ.length+1:=by rw [hτ2]; simp [n1]
   obtain ⟨r1,r2⟩:=putV_rel (x:=b) (y:=y) hrel
   obtain ⟨ga',ua',la'⟩:=putV_good ga ua (x:=b) (y:=y) (by omega) (by rw [hy]; exact hKl) (by rw [hy]; exact hKr)
   obtain ⟨gb',ub',lb'⟩:=putV_good gb ub (x:=b) (y:=y) (by omega) (by rw [hy]; exact hKl) (by rw [hy]; exact hKr)
   have m0:τ2[0]?=some (.mp (encB (putV LA b y).2)):=by rw [s2 0 (by omega),hτ1,list_set_at (by simp)]
   have m1:τ2[1]?=some (.cells [.str ⟨#[98]⟩,.map 0] 0 false):=(s2 1 (by omega)).trans ((s1 1 (by omega)).trans ((ap 1 l1).trans t1))
   have hcl:=callClear (c:=t) (L:=(putV LA b y).2) (b:=1) (m:=0) (place:=⟨#[98]⟩) (σ:=τ2) ⟨m1,m0,by omega⟩ ga' ua' 0
   obtain ⟨τ3,hτ3⟩:∃ τ3,τ3=τ2.set 0 (.mp (encB ((putV LA b y).2.map (clearB t)))):=⟨_,rfl⟩
   rw [←hτ3] at hcl
   have n3:τ3.length=τ.length+1:=by rw [hτ3]; simp [n2]
   have s3:∀ j,j≠0→τ3[j]?=τ2[j]?:=fun j hj=>by rw [hτ3,zqC (fun e=>hj e.symm)]
   have c0:(τ++[bo])[τ.length]?=some bo:=by simp
   have c1:τ1[τ.length]?=some bo:=by rw [s1 _ (by omega)]; exact c0
   have k0:τ3[0]?=some (.mp (encB ((putV LA b y).2.map (clearB t)))):=by rw [hτ3,list_set_at (by omega)]
   have k1:τ3[1]?=some (.cells [.str ⟨#[98]⟩,.map 0] 0 false):=(s3 1 (by omega)).trans m1
   have k2:τ3[2]?=some (.mp (encB (putV LB b y).2)):=by rw [s3 2 (by omega),hτ2,list_set_at (by omega)]
   have k3:τ3[3]?=some (.cells [.str ⟨#[98]⟩,.map 2] 0 false):=(s3 3 (by omega)).trans ((s2 3 (by omega)).trans ((s1 3 (by omega)).trans ((ap 3 l3).trans t3)))
   have hrel':((putV LA b y).2.map (clearB t)).map (clearB t)=(putV LB b y).2.map (clearB t):=by
    rw [List.map_map,←r2]; congr 1; funext z; exact clearB_idem t z
   obtain ⟨LA',hLA⟩:∃ LA',LA'=(putV LA b y).2.map (clearB t):=⟨_,rfl⟩
   obtain ⟨LB',hLB⟩:∃ LB',LB'=(putV LB b y).2:=⟨_,rfl⟩
   have gla:GoodB LA'∧FrmU LA'∧LA'.length≤i+1:=by rw [hLA]; exact ⟨ga'.clear t,ua'.clear t,by simp; omega⟩
   rw [←hLA] at k0 hrel'
   rw [←hLB] at k2 hrel' gb' ub' lb'
   rw [←r1] at hpb
   generalize (putV LA b y).1=pv at hpa hpb
   rw [GF.enc_eq] at cb hpa hpb
   rw [GX.enc_eq] at cb
   subst hbo
   obtain ⟨so,hso⟩:∃ so:AObj,so=.cells [.str ⟨#[97]⟩,.str ⟨#[99]⟩,.str ⟨#[100]⟩] 0 false:=⟨_,rfl⟩
   have q0:(τ3++[so])[0]?=some (.mp (encB LA')):=by rw [zqA (by omega)]; exact k0
   have q1:(τ3++[so])[1]?=some (.cells [.str ⟨#[98]⟩,.map 0] 0 false):=by rw [zqA (by omega)]; exact k1
   have q2:(τ3++[so])[2]?=some (.mp (encB LB')):=by rw [zqA (by omega)]; exact k2
   have q3:(τ3++[so])[3]?=some (.cells [.str ⟨#[98]⟩,.map 2] 0 false):=by rw [zqA (by omega)]; exact k3
   have qs:(τ3++[so])[τ3.length]?=some so:=by simp
   have qsl:(τ3++[so])[τ3.length]?=some (.cells [.str ⟨#[97]⟩,.str ⟨#[99]⟩,.str ⟨#[100]⟩] 0 false):=by rw [qs,hso]
   have hinner:∀ (g:FR) (k:List Fr) (Q:AExit→FR→Heap→Prop),g 0=.isl (l.map GX.enc) false→g 1=.int .i64 clock→g 6=.ptr 1 0→g 7=.ptr 3 0→g 8=.int .i64 (i:Int)→True:=fun _ _ _ _ _ _ _ _=>trivial
   cases pv <;> simp [-getElem?_pos,f0,f1,f6,f7,f8,hl1,hl2,hli,w1,GX.enc_eq,cb,setRun,zqA,zqB,zqE,zqD,List.set_append_right,hpa,hpb,hpc,hcl,c0,c1,sym,chkO_l,objOf,AV.clo1]
   all_goals
    rw [←hso]
    refine W_for T16x 0 100 3 (fun k g τ'=>g 0=.isl (l.map GX.enc) false∧g 1=.int .i64 clock∧g 6=.ptr 1 0∧g 7=.ptr 3 0∧g 8=.int .i64 (i:Int)∧g 57=.sl τ3.length 0 3 1 false∧g 58=.int .i64 3∧g 59=.int .i64 (k:Int)∧τ'=τ3++[so]) ?_ _ _ ?_
    ·rintro k g τ' hk ⟨g0,g1,g6,g7,g8,g57,g58,g59,rfl⟩
     by_cases hk3:k<3
     ·have w2:IntKind.i64.wrap ((k:Int)+1)=(k:Int)+1:=wr64 (by omega) (by omega)
      have hki:(k:Int)<3:=by omega
      obtain ⟨nm,hnm⟩:∃ nm:ByteArray,window [AV.str ⟨#[97]⟩,.str ⟨#[99]⟩,.str ⟨#[100]⟩] k 1=some [.str nm]:=by
       match k,hk3 with
       | 0,_=>exact ⟨_,rfl⟩
       | 1,_=>exact ⟨_,rfl⟩
       | 2,_=>exact ⟨_,rfl⟩
      have e1:=callNewest2 q0 q1 (by omega) nm 0
      have e2:=callNewest2 q2 q3 (by omega) nm 0
      rw [←newV_rel hrel' nm] at e2
      obtain ⟨vs,vq,vz,hv⟩:=newV_cases LA' nm
      rw [hv] at e1 e2
      simp [-getElem?_pos,g0,g1,g6,g7,g8,g57,g58,g59,hki,hk3,w2,qsl,hnm,e1,e2,zqE,zqD]
      done
     ·have hk':k=3:=by omega
      subst hk'
      simp [-getElem?_pos,g0,g1,g6,g7,g8,g57,g58,g59,w1]
      exact ⟨hlt,LA',LB',q0,q1,q2,q3,by rw [←hLB] at *; first | exact hrel' | (rw [hLA] at *; exact hrel'),gla.1,gb',gla.2.1,ub',gla.2.2,by omega⟩
    ·simp [f0,f1,f6,f7,f8]
  ·have hr:allR t LA=allR t LB:=by rw [allR_map,allR_map,hrel]
   obtain ⟨K,hK,hKle,hKm⟩:=merge_is2 (allR t LA) (by have:=allR_len (c:=t) ga; have:=ga.len; omega) (fun z hz=>by
     obtain ⟨u,hu,hz⟩:=List.mem_flatMap.1 hz
     have:=ga.rows u hu z (List.mem_filter.1 hz).1
     exact ⟨this.1,this.2.1⟩)
   have ra:=callRows (c:=t) (L:=LA) (b:=1) (m:=0) (place:=⟨#[98]⟩) (σ:=τ) ⟨t1,t0,by omega⟩ ga hK 0
   have rb:=callRows (c:=t) (L:=LB) (b:=3) (m:=2) (place:=⟨#[98]⟩) (σ:=τ) ⟨t3,t2,by omega⟩ gb (hr ▸ hK) 0
   have hsz:∀ z∈K,GV.sizes z.args≤10000000000:=fun z hz=>by
    obtain ⟨u,hu,hz⟩:=List.mem_flatMap.1 (hK.sub z hz)
    have:=(ga.rows u hu z (List.mem_filter.1 hz).1).2.1; omega
   have hsm:=up16 (callSame10 K K (by have:=allR_len (c:=t) ga; have:=ga.len; omega) hsz 0 τ)
   rw [show sym (decide (K=K))=true by simp [sym]] at hsm
   by_cases h1:i<l.length
   ·have h2:¬ (i:Int)<20:=by omega
    simp [-getElem?_pos,f0,f1,f6,f7,f8,h1,h2,hpc,ra,rb,hsm]
   ·simp [-getElem?_pos,f0,f1,f6,f7,f8,h1,hpc,ra,rb,hsm]
 ·refine ⟨by simp,by simp,by simp,by simp,by simp,[],[],rfl,rfl,rfl,rfl,rfl,⟨by decide,fun y h=>(by cases h),fun y h=>(by cases h)⟩,⟨by decide,fun y h=>(by cases h),fun y h=>(by cases h)⟩,fun i j x y h=>(by simp at h),fun i j x y h=>(by simp at h),Nat.zero_le _,Nat.zero_le _⟩
end Go.Proofs.Ytkfiepnkedcmgaa
end
