import Derived.Test.YtjfgjnlocadpbaaGreatDoorC6
import Derived.KernelRfl
import Derived.Test.YtjfgjnlocadpbaaGreatDoorC5
set_option linter.unusedVariables false
set_option linter.unusedSimpArgs false
set_option linter.unnecessarySimpa false
section
namespace Go.Proofs.YtjfgjnlocadpbaaGreatDoor
open Go.Mach
instance:DecidableEq GL:=fun a b=>decidable_of_iff (a.kind=b.kind∧a.name=b.name∧a.args=b.args) ⟨fun h=>gl_ext h.1 h.2.1 h.2.2,fun h=>by rw [h]; simp⟩
def termI (l:List GT) (i:Nat):GT:=match l[i]? with
 | some t=>termV 8 t
 | none=>.mk 1 ⟨#[88]⟩ nilV []
theorem lawterm_ok (l:List GT) (i:Nat) (hl:GT.oks l) (hs:GT.sizes l≤1000000000) (hi:i≤100):pureT T c56 [.isl (GT.encs l) false,.int .i64 (i:Int)]=some (termI l i).enc:=by
 apply pure_enter (by simp [c56])
 by_cases hlt:i<l.length
 ·have hm:=zqT hlt
  have hc:∀ bs σ,callT T 55 [l[i].enc,.int .i64 8] bs σ=some ((termV 8 l[i]).enc,σ):=callTerm 8 l[i] (by omega) ((GT.oks_iff l).1 hl _ hm) (by have:=(GT.sizes_mem hm).1; omega)
  have e:termI l i=termV 8 l[i]:=by simp [termI,zqF hlt]
  rw [e]
  simp [c56,hlt,hc,←GT.enc_eq,setRun]
 ·have e:termI l i=.mk 1 ⟨#[88]⟩ nilV []:=by simp [termI,List.getElem?_eq_none (Nat.le_of_not_lt hlt)]
  rw [e]
  simp [c56,hlt,setRun,GT.enc,nilV]
theorem callLawterm0 (l:List GT) (hl:GT.oks l) (hs:GT.sizes l≤1000000000) (bs:Nat) (σ:Heap):callT T 56 [.isl (GT.encs l) false,.int .i64 0] bs σ=some ((termI l 0).enc,σ):=call_clean rfl rfl rfl (by simp) (lawterm_ok l 0 hl hs (by omega))
theorem callLawterm1 (l:List GT) (hl:GT.oks l) (hs:GT.sizes l≤1000000000) (bs:Nat) (σ:Heap):callT T 56 [.isl (GT.encs l) false,.int .i64 1] bs σ=some ((termI l 1).enc,σ):=call_clean rfl rfl rfl (by simp) (lawterm_ok l 1 hl hs (by omega))
end Go.Proofs.YtjfgjnlocadpbaaGreatDoor
end
section
namespace Go.Proofs.YtjfgjnlocadpbaaGreatDoor
open Go.Mach
theorem app_two {σ:Heap} {k j sz fk fj bytes:Nat} {ej:Bool} {cs ds:List AV} (hk:σ[k]?=some (.cells cs fk false)) (hj:σ[j]?=some (.cells ds fj ej)) (hc:cs.length=sz) (hd:ds.length=sz) (h0:0<sz) (hb:bytes≤1000) :
  appendA σ sz true bytes true (.sl k 0 1 sz true) (.sl j 0 1 sz true)=some (.sl σ.length 0 2 sz true,σ++[.cells (cs++ds.map AV.nrm) 0 true]):=by
 have e1:=elems_ag1 hk hc
 have e2:=elemsN_ag1 hj hd
 have hne:¬ (sz=0∨(1+1) * bytes > 70368744177664∨1+1 > 70368744177664):=by omega
 simp only [appendA,e1,e2,Option.bind_some,isSl,List.length_singleton,if_neg hne,hk]
 simp [flat,AV.cells,hc,hd]
def firstOf (l:List GT):GT:=match l with
 | t :: _=>if pickN t.kind 4=1 then .mk 2 ⟨#[]⟩ (.mk 3 0 (relOf t.name) []) [] else .mk 1 ⟨#[83]⟩ nilV []
 | []=>.mk 1 ⟨#[83]⟩ nilV []
def argsOf (l:List GT):List GT:=firstOf l :: ((l.drop 1).take 7).map (termV 8)
theorem args_take (l:List GT) (j:Nat) (h:j+1<l.length):((l.drop 1).take (j+1)).map (termV 8)=((l.drop 1).take j).map (termV 8)++[termV 8 l[j+1]]:=by
 have e:(l.drop 1)[j]?=some l[j+1]:=by rw [List.getElem?_drop,show 1+j=j+1 by omega,zqF h]
 rw [List.take_add_one,e,List.map_append]; rfl
def cur (l:List GT) (j:Nat):List GT:=firstOf l :: ((l.drop 1).take j).map (termV 8)
theorem cur_len (l:List GT) (j:Nat) (h:j≤l.length - 1):(cur l j).length=j+1:=by simp [cur]; omega
def rawFirst (l:List GT):List AV:=match l with
 | t :: _=>if pickN t.kind 4=1 then [.int .i64 2,.str ⟨#[]⟩,.int .i64 3,.int .i64 0,.str (relOf t.name),.isl [] true,.isl [] true] else [.int .i64 1,.str ⟨#[83]⟩,.int .i64 0,.int .i64 0,.str ⟨#[]⟩,.isl [] true,.isl [] true]
 | []=>[.int .i64 1,.str ⟨#[83]⟩,.int .i64 0,.int .i64 0,.str ⟨#[]⟩,.isl [] true,.isl [] true]
theorem rawFirst_nrm (l:List GT):(rawFirst l).map AV.nrm=(firstOf l).enc.cells:=by
 unfold rawFirst firstOf
 cases l with
 | nil=>rfl
 | cons t l=>
  simp only
  split <;> simp [AV.nrm,GT.enc_cells,GT.kind,GT.name,GT.value,GT.args,GV.kind,GV.num,GV.text,GV.items,nilV]
theorem rawFirst_len (l:List GT):(rawFirst l).length=7:=by
 unfold rawFirst
 cases l with
 | nil=>rfl
 | cons t l=>simp only; split <;> rfl
def rawCur (l:List GT) (j:Nat):List AV:=rawFirst l++flat (GT.encs (((l.drop 1).take j).map (termV 8)))
theorem encsT_agg7 (l:List GT):∀ e∈GT.encs l,∃ cs,e=.agg cs∧cs.length=7:=fun e he=>by
 rw [GT.encs_map] at he
 obtain ⟨v,_,rfl⟩:=List.mem_map.1 he
 exact ⟨_,v.enc_eq,rfl⟩
theorem close_terms {σ:Heap} {k fz:Nat} {ext:Bool} {cs:List AV} {L:List GT} (h:σ[k]?=some (.cells cs fz ext)) (hn:cs.map AV.nrm=flat (GT.encs L)) (hc:cs.all AV.clo1=true) (hne:L≠[]) :
  close1 σ (.sl k 0 L.length 7 true)=some (.isl (GT.encs L) false,frz σ k (0+L.length * 7)):=by
 have hl0:L.length≠0:=fun e=>hne (List.length_eq_zero_iff.1 e)
 have hlen:cs.length=L.length * 7:=by
  have:=congrArg List.length hn
  rw [List.length_map,Go.Mach.flat_len (encsT_len L),GT.encs_length] at this; exact this
 refine close1_of0 ?_
 unfold close0
 simp only [if_neg hl0,h,window_full hlen,Option.bind_some,hc,if_true,hn]
 have hch:=flat_chunk (encsT_agg7 L)
 rw [GT.encs_length] at hch
 rw [hch]; rfl
theorem flat_cons (x:GT) (l:List GT):flat (GT.encs (x :: l))=x.enc.cells++flat (GT.encs l):=by simp [flat,GT.encs]
theorem flat_nrm (l:List GT):(flat (GT.encs l)).map AV.nrm=flat (GT.encs l)∧(flat (GT.encs l)).all AV.clo1=true:=by
 induction l with
 | nil=>exact ⟨rfl,rfl⟩
 | cons x l ih=>
  rw [flat_cons]
  constructor
  ·rw [List.map_append,ih.1]; simp [AV.nrm]
  ·rw [List.all_append,ih.2]; simp [AV.clo1]
theorem rawFirst_clo (l:List GT):(rawFirst l).all AV.clo1=true:=by
 unfold rawFirst
 cases l with
 | nil=>rfl
 | cons t l=>simp only; split <;> rfl
theorem rawCur_nrm (l:List GT) (j:Nat):(rawCur l j).map AV.nrm=flat (GT.encs (cur l j))∧(rawCur l j).all AV.clo1=true:=by
 obtain ⟨h1,h2⟩:=flat_nrm (((l.drop 1).take j).map (termV 8))
 constructor
 ·rw [rawCur,List.map_append,rawFirst_nrm,h1,cur,flat_cons]
 ·rw [rawCur,List.all_append,rawFirst_clo,h2]; rfl
def rawEls (l:List GT) (j:Nat):List AV:=.agg (rawFirst l) :: GT.encs (((l.drop 1).take j).map (termV 8))
theorem rawEls_flat (l:List GT) (j:Nat):flat (rawEls l j)=rawCur l j:=by simp [rawEls,rawCur,flat,AV.cells]
theorem rawEls_agg (l:List GT) (j:Nat):∀ e∈rawEls l j,∃ cs,e=.agg cs∧cs.length=7:=fun e he=>by
 rcases List.mem_cons.1 he with rfl | he
 ·exact ⟨_,rfl,rawFirst_len l⟩
 ·exact encsT_agg7 _ e he
theorem rawEls_len (l:List GT) (j:Nat) (h:j≤l.length - 1):(rawEls l j).length=j+1:=by simp [rawEls]; omega
def ArgsAt (σ0:Heap) (l:List GT) (r:AV × Heap):Prop:=
 ∃ k cs rest ext,r=(.sl (σ0.length+k) 0 (argsOf l).length 7 true,σ0++rest)∧rest[k]?=some (.cells cs 0 ext)∧cs.map AV.nrm=flat (GT.encs (argsOf l))∧cs.all AV.clo1=true
theorem lawargsR (l:List GT) (hl:GT.oks l) (hs:GT.sizes l≤1000000000) (bs:Nat) (σ0:Heap):∃ r,callT T 33 [.isl (GT.encs l) false] bs σ0=some r∧ArgsAt σ0 l r:=by
 have hlen:=GT.len_sizes l
 refine heap_enterE (P:=ArgsAt σ0 l) (af:=c33) (args':=[.isl (GT.encs l) false]) (σ1:=σ0) rfl rfl (by simp [c33]) (by simp [c33]) (clean_closeT (by simp)).1 ?_
 cases l with
 | nil=>
  simp [c33,baseA]
  refine W_for T _ 46 0 (fun i f σ=>f 0=.isl [] false∧f 4=.int .i64 1∧f 3=.sl σ0.length 0 1 7 true∧σ=σ0++[.cells (rawFirst []) 0 false]) ?_ _ _ ?_
  ·rintro i f σ hi ⟨g0,g4,g3,hk⟩
   simp [g0,g4,g3,res1]
   have h:=rawCur_nrm [] 0
   have e:rawCur [] 0=rawFirst []:=by simp [rawCur,flat]
   rw [e] at h
   exact ⟨0,_,_,_,by rw [hk]; rfl,rfl,h.1,h.2⟩
  ·simp [rawFirst]
 | cons t l=>
  have ht:=(GT.oks_iff (t :: l)).1 hl t (by simp)
  have hp:=pickQ4 t.kind (by obtain ⟨k,n,v,ar⟩:=t; simp only [GT.ok] at ht; exact ht.1)
  have hr:=lawRel t.name (by have:=GT.name_le t; simp only [GT.sizes] at hs; omega)
  have round:∀ (rest:Heap) (L:List GT) (j:Nat) (x:AV),L=t :: l→j+1<L.length→rest≠[] →
    ((j=0∧x=.sl σ0.length 0 1 7 true∧rest[0]?=some (.cells (rawFirst L) 0 false))∨(0<j∧∃ k,x=.sl (σ0.length+k) 0 (j+1) 7 true∧rest[k]?=some (.cells (rawCur L j) 0 true))) →
    ∀ y:GT,y=termV 8 (L.getD (j+1) default)→∃ rest2,appendA (σ0++(rest++[.cells y.enc.cells 0 false])) 7 true 104 true x (.sl (σ0.length+rest.length) 0 1 7 true)=some (.sl (σ0.length+(rest.length+1)) 0 (j+2) 7 true,σ0++rest2)∧rest2[rest.length+1]?=some (.cells (rawCur L (j+1)) 0 true):=by
   intro rest L j x hLe hj hne h y hy
   have hy2:rawCur L (j+1)=rawCur L j++y.enc.cells:=by
    have e:L.getD (j+1) default=L[j+1]:=by simp [List.getD,zqF hj]
    rw [e] at hy
    simp only [rawCur,args_take L j hj,←hy,zqP]
    congr 1
    simp [flat,GT.encs_map]
   have hyn:y.enc.cells.map AV.nrm=y.enc.cells:=by simp [AV.nrm]
   have hlast:(σ0++(rest++[AObj.cells y.enc.cells 0 false]))[σ0.length+rest.length]?=some (.cells y.enc.cells 0 false):=by
    rw [zqB (by omega)]; simp
   have hsl:(σ0++(rest++[AObj.cells y.enc.cells 0 false])).length=σ0.length+(rest.length+1):=by simp
   rcases h with ⟨rfl,rfl,h0⟩ | ⟨hj0,k,rfl,hk⟩
   ·have h00:(σ0++(rest++[AObj.cells y.enc.cells 0 false]))[σ0.length]?=some (.cells (rawFirst L) 0 false):=by
     rw [zqB (by omega),Nat.sub_self,zqA (List.length_pos_iff.2 hne)]; exact h0
    have:=app_two (bytes:=104) h00 hlast (rawFirst_len L) (by simp) (by omega) (by omega)
    rw [this,hsl]
    refine ⟨_,by simp; rfl,?_⟩
    have e:rawCur L 0=rawFirst L:=by simp [rawCur,flat]
    rw [hy2,e]; simp
   ·have hkl:k<rest.length:=(zqI.1 hk).1
    have hrl:=rawEls_len L j (by omega)
    have hfl:(flat (rawEls L j)).length=(rawEls L j).length * 7:=Go.Mach.flat_len fun e he=>by obtain ⟨cs,rfl,h⟩:=rawEls_agg L j e he; exact h
    have hk2:(σ0++(rest++[AObj.cells y.enc.cells 0 false]))[σ0.length+k]?=some (.cells (rawCur L j) 0 true):=by
     rw [zqB (by omega),Nat.add_sub_cancel_left,zqA hkl]; exact hk
    have:=app_mt_sl (σ:=σ0++(rest++[.cells y.enc.cells 0 false])) (id:=σ0.length+rest.length) (k:=σ0.length+k) (fz:=0) (ext:=false) (cs:=y.enc.cells) (es:=rawEls L j) (sz:=7) (bytes:=104) hlast (by simp) (by omega) (by omega)
     (by rw [rawEls_flat]; exact hk2) hfl (flat_chunk (rawEls_agg L j)) (by rw [hrl]; subst hLe; simp only [zqU] at hj ⊢; have:=GT.len_sizes (t :: l); simp only [zqU] at this; omega)
    rw [hrl,hsl] at this
    rw [this,rawEls_flat]
    refine ⟨(rest++[AObj.cells y.enc.cells 0 false]).set k .dead++[.cells (rawCur L j++y.enc.cells.map AV.nrm) 0 true],?_,?_⟩
    ·rw [List.set_append_right _ _ (by omega),Nat.add_sub_cancel_left,zqP]
    ·rw [zqB (by simp)]
     rw [hy2]; simp
  have hlc:l.length+1≤1000000000:=by simp only [zqU] at hlen; omega
  have h8:=fun (x:GT) (hx:x∈t :: l) (bs:Nat) (σ:Heap)=>(callTerm 8 x (by omega) ((GT.oks_iff (t :: l)).1 hl x hx) (by have:=(GT.sizes_mem hx).1; omega) bs σ:callT T 55 [x.enc,.int .i64 8] bs σ=_)
  have hk':(((pickN t.kind 4:Nat):Int)=1)=(pickN t.kind 4=1):=propext ⟨fun h=>by omega,fun h=>by omega⟩
  by_cases hk:pickN t.kind 4=1
  all_goals
   simp [c33,baseA,hp,hr,hk',hk,GT.encs]
   refine W_for T _ 46 (min l.length 7) (fun j f σ=>f 0=.isl (t.enc :: GT.encs l) false∧f 4=.int .i64 ((j:Int)+1)∧∃ rest,σ=σ0++rest∧rest≠[] ∧
    ((j=0∧f 3=.sl σ0.length 0 1 7 true∧rest[0]?=some (.cells (rawFirst (t :: l)) 0 false))∨(0<j∧∃ k,f 3=.sl (σ0.length+k) 0 (j+1) 7 true∧rest[k]?=some (.cells (rawCur (t :: l) j) 0 true)))) ?_ _ _ ?_
  rotate_left 1
  ·simp [rawFirst,hk]
  rotate_left 1
  ·simp [rawFirst,hk]
  all_goals
   rintro j f σ hj ⟨g0,g4,rest,rfl,hne,hst⟩
   by_cases hlt:j<min l.length 7
   ·have hj1:j+1<(t :: l).length:=by simp only [zqU]; omega
    obtain ⟨σ2,ha,hb⟩:=round rest (t :: l) j (f 3) rfl hj1 hne hst _ rfl
    have he:(t :: l).getD (j+1) default=l[j]:=by simp [List.getD,zqF (show j<l.length by omega)]
    rw [he] at ha
    have hT:∀ bs σ,callT T 55 [l[j].enc,.int .i64 8] bs σ=some ((termV 8 l[j]).enc,σ):=h8 l[j] (by simp)
    have hw:IntKind.i64.wrap ((j:Int)+1+1)=(j:Int)+1+1:=wr64 (by omega) (by omega)
    have c1:j<l.length:=by omega
    have c2:(j:Int)+1<8:=by omega
    have c3:((j:Int)+1).toNat=j+1:=by omega
    have c4:0≤(j:Int)+1:=by omega
    obtain ⟨x3,hx3⟩:∃ x,f 3=x:=⟨_,rfl⟩
    rw [hx3] at ha
    simp at ha
    simp [g0,g4,hx3,c1,c2,c3,c4,hT,hw,ha,←GT.enc_eq]
    exact ⟨hlt,by rintro rfl; simp at hb,hb⟩
   ·have hj2:j=min l.length 7:=by omega
    have c1:¬ (j<l.length∧(j:Int)+1<8):=by omega
    have hfin:∃ k ext cs,f 3=.sl (σ0.length+k) 0 (argsOf (t :: l)).length 7 true∧rest[k]?=some (.cells cs 0 ext)∧cs.map AV.nrm=flat (GT.encs (argsOf (t :: l)))∧cs.all AV.clo1=true:=by
     have hcur:cur (t :: l) j=argsOf (t :: l):=by
      unfold cur argsOf
      have:List.take j (List.drop 1 (t :: l))=List.take 7 (List.drop 1 (t :: l)):=by
       simp only [List.drop_succ_cons,List.drop_zero]
       rw [hj2]; simp [List.take_eq_take_iff,Nat.min_comm]
      rw [this]
     have hcl:(argsOf (t :: l)).length=j+1:=by rw [←hcur]; exact cur_len _ _ (by simp; omega)
     have hn:=rawCur_nrm (t :: l) j
     rw [hcur] at hn
     rcases hst with ⟨rfl,h3,hk⟩ | ⟨_,k,h3,hk⟩
     ·have e:rawCur (t :: l) 0=rawFirst (t :: l):=by simp [rawCur,flat]
      rw [e] at hn
      exact ⟨0,_,_,by rw [h3,hcl]; rfl,hk,hn.1,hn.2⟩
     ·exact ⟨k,_,_,by rw [h3,hcl],hk,hn.1,hn.2⟩
    obtain ⟨k,ext,cs,h3,hkk,hn1,hn2⟩:=hfin
    have hfin2:ArgsAt σ0 (t :: l) (.sl (σ0.length+k) 0 (argsOf (t :: l)).length 7 true,σ0++rest):=⟨k,cs,rest,ext,rfl,hkk,hn1,hn2⟩
    by_cases d1:j<l.length
    ·have d2:¬ ((j:Int)+1<8):=by omega
     simp [g0,g4,d1,d2,h3,res1,hfin2]
    ·simp [g0,g4,d1,h3,res1,hfin2]
noncomputable def argsX (l:List GT) (bs:Nat) (σ:Heap):AV × Heap:=(callT T 33 [.isl (GT.encs l) false] bs σ).getD default
theorem argsX_at (l:List GT) (hl:GT.oks l) (hs:GT.sizes l≤1000000000) (bs:Nat) (σ:Heap):ArgsAt σ l (argsX l bs σ)∧callT T 33 [.isl (GT.encs l) false] bs σ=some (argsX l bs σ):=by
 obtain ⟨r,hr,ha⟩:=lawargsR l hl hs bs σ
 have:argsX l bs σ=r:=by unfold argsX; rw [hr]; rfl
 rw [this]; exact ⟨ha,hr⟩
end Go.Proofs.YtjfgjnlocadpbaaGreatDoor
end
section
namespace Go.Proofs.YtjfgjnlocadpbaaGreatDoor
open Go.Mach
end Go.Proofs.YtjfgjnlocadpbaaGreatDoor
end
section
namespace Go.Proofs.YtjfgjnlocadpbaaGreatDoor
open Go.Mach
def testOf (n:Nat):ByteArray:=if n=0 then ⟨#[61,61]⟩ else if n=1 then ⟨#[33,61]⟩ else if n=2 then ⟨#[60]⟩ else if n=3 then ⟨#[60,61]⟩ else if n=4 then ⟨#[62]⟩ else ⟨#[62,61]⟩
def litOf (x:GL):GL:=
 if pickN x.kind 4=0 then ⟨1,relOf x.name,argsOf x.args⟩
 else if pickN x.kind 4=1 then ⟨2,relOf x.name,argsOf x.args⟩
 else if pickN x.kind 4=2 then ⟨3,testOf (pickN x.name.size 6),[termI x.args 0,termI x.args 1]⟩
 else ⟨4,varOf x.name,[termI x.args 0]⟩
theorem testOf_at {p:Nat} (h:p<6):window [AV.str ⟨#[61,61]⟩,.str ⟨#[33,61]⟩,.str ⟨#[60]⟩,.str ⟨#[60,61]⟩,.str ⟨#[62]⟩,.str ⟨#[62,61]⟩] p 1=some [.str (testOf p)]:=by
 have:p=0∨p=1∨p=2∨p=3∨p=4∨p=5:=by omega
 rcases this with rfl | rfl | rfl | rfl | rfl | rfl <;> rfl
theorem lawlit_ok (x:GL) (ho:x.ok) (hs:x.size≤1000000000):pureT T c34 [x.enc]=some (litOf x).enc:=by
 have h1:=x.name_le
 have h2:=x.args_le
 obtain ⟨k,n,l⟩:=x
 obtain ⟨hk,hl⟩:=ho
 simp only at h1 h2 hk hl
 have hp:=pickQ4 k hk
 have hp6:=pickQ6 (n.size:Int) (by unfold GV.i64ok; omega)
 have hlt6:=pickN_lt (c:=(n.size:Int)) (n:=6) (by omega)
 have hwin:=testOf_at hlt6
 have hr:=lawRel n (by omega)
 have hv:=lawVar n (by omega)
 have hargs:∀ A B:AObj,∃ K R,callT T 33 [.isl (GT.encs l) false] 0 [A,B]=some (.sl K 0 (argsOf l).length 7 true,A :: B :: R) ∧
   ∀ A2 B2,close1 (A2 :: B2 :: R) (.sl K 0 (argsOf l).length 7 true)=some (.isl (GT.encs (argsOf l)) false,frz (A2 :: B2 :: R) K (0+(argsOf l).length * 7)):=fun A B=>by
  obtain ⟨⟨k,cs,R,ext,hr,hk,hn,hc⟩,hcall⟩:=argsX_at l hl (by omega) 0 [A,B]
  rw [hr] at hcall
  exact ⟨_,R,hcall,fun A2 B2=>close_terms (by rw [zqU,List.length_singleton,Nat.add_comm]; exact hk) hn hc (by simp [argsOf])⟩
 have t0:=callLawterm0 l hl (by omega)
 have t1:=callLawterm1 l hl (by omega)
 have hc6:((pickN (n.size:Int) 6:Nat):Int)<6:=by omega
 have e0:(((pickN k 4:Nat):Int)=0)=(pickN k 4=0):=propext ⟨fun h=>by omega,fun h=>by omega⟩
 have e1:(((pickN k 4:Nat):Int)=1)=(pickN k 4=1):=propext ⟨fun h=>by omega,fun h=>by omega⟩
 have e2:(((pickN k 4:Nat):Int)=2)=(pickN k 4=2):=propext ⟨fun h=>by omega,fun h=>by omega⟩
 apply pure_enter (by simp [c34])
 unfold litOf
 simp only
 generalize pickN (n.size:Int) 6=q at *
 by_cases k0:pickN k 4=0
 ·obtain ⟨K,R,ha,hcl⟩:=hargs (.cells [.int .i64 k,.str n,.isl (GT.encs l) false] 0 false) (.cells [.int .i64 0,.str ⟨#[]⟩,.isl [] true] 0 false)
  simp [c34,GL.enc_eq,hp,hr,ha,k0,setRun,hcl]
 by_cases k1:pickN k 4=1
 ·obtain ⟨K,R,ha,hcl⟩:=hargs (.cells [.int .i64 k,.str n,.isl (GT.encs l) false] 0 false) (.cells [.int .i64 0,.str ⟨#[]⟩,.isl [] true] 0 false)
  simp [c34,GL.enc_eq,hp,hr,ha,k1,setRun,hcl]
 by_cases k2:pickN k 4=2
 ·have hcl:=close1_flat (σ:=[]) (id:=0) (s:=7) (fz:=0) (ext:=false) (es:=GT.encs [termI l 0,termI l 1])
  simp [c34,GL.enc_eq,hp,hp6,hlt6,hc6,hwin,t0,t1,k2,setRun]
  rw [show (AV.sl 3 0 2 7 true)=.sl 3 0 [termI l 0,termI l 1].length 7 true from rfl,close_terms (L:=[termI l 0,termI l 1]) rfl (by simp [flat,GT.encs,AV.nrm]) (by simp [AV.clo1]) (by simp)]
  exact ⟨_,rfl⟩
 ·simp [c34,GL.enc_eq,hp,hv,t0,e0,e1,e2,k0,k1,k2,setRun]
  rw [show (AV.sl 2 0 1 7 true)=.sl 2 0 [termI l 0].length 7 true from rfl,close_terms (L:=[termI l 0]) rfl (by simp [flat,GT.encs,AV.nrm]) (by simp [AV.clo1]) (by simp)]
  exact ⟨_,rfl⟩
theorem callLawLit (x:GL) (ho:x.ok) (hs:x.size≤1000000000) (bs:Nat) (σ:Heap):callT T 34 [x.enc] bs σ=some ((litOf x).enc,σ):=call_clean rfl rfl rfl (by simp) (lawlit_ok x ho hs)
end Go.Proofs.YtjfgjnlocadpbaaGreatDoor
end
section
namespace Go.Proofs.YtjfgjnlocadpbaaGreatDoor
open Go.Mach
theorem r4upper_ok (t:ByteArray) (ht:t.size≤100000000000):pureT T c121 [.str t]=some (.bool (varOK t)):=by
 apply pure_enter (by simp [c121])
 have hn:varOK t=true↔(∀ i,i<t.size→varG t i=true)∧t.size≠0∧t.size≤16:=varOK_iff t
 by_cases h0:1≤t.size
 ·have hno0:¬ (65≤bt t 0∧bt t 0≤90)→varOK t=false:=fun h=>varOK_no (i:=0) (by omega) (by omega)
  have hb:=@idx_bt t 0 (by omega)
  have hb':t.data[0]?.map (fun b=>(AV.int .u8 (b.toNat:Int)))=some (.int .u8 (bt t 0)):=by simpa using hb
  have hlong:¬ t.size≤16→varOK t=false:=fun h=>by rw [Bool.eq_false_iff,Ne,hn]; omega
  simp [c121,hb']
  refine ⟨fun h=>by omega,fun h=>⟨fun h=>hlong (by omega),fun h2=>⟨fun h=>hno0 (by omega),fun h3=>⟨fun h=>hno0 (by omega),fun h4=>?_⟩⟩⟩⟩
  refine W_for T 0 59 (t.size - 1) (fun i f σ=>f 0=.str t∧f 3=.int .i64 ((i:Int)+1)∧σ=[]∧∀ j,j<i+1→varG t j=true) ?_ _ _ ?_
  ·rintro i f σ hi ⟨h0,h3,rfl,hall⟩
   by_cases hlt:i+1<t.size
   ·have hno:=@varOK_no t (i+1) hlt
    have hyes:_→∀ j,j<i+1+1→varG t j=true:=fun h j hj=>by
     by_cases e:j=i+1
     ·subst e; exact (varG_iff t (i+1)).2 h
     ·exact hall j (by omega)
    have hb:=@idx_bt t (i+1) hlt
    have hb':t.data[i+1]?.map (fun b=>(AV.int .u8 (b.toNat:Int)))=some (.int .u8 (bt t (i+1))):=by simpa using hb
    have hw:IntKind.i64.wrap ((i:Int)+1+1)=(i:Int)+1+1:=wr64 (by omega) (by omega)
    have hc1:((i:Int)+1<(t.size:Int)):=by omega
    have hc2:(0:Int)≤(i:Int)+1:=by omega
    have hc3:((i:Int)+1).toNat=i+1:=by omega
    have hc4:i<t.size - 1:=by omega
    simp [h0,h3,hc1,hc2,hc3,hb',hw,hc4]
    repeat' (first | apply And.intro | intro _)
    all_goals first | exact hno (by omega) | exact hyes (by omega) _ (by assumption)
   ·have hc1:¬ ((i:Int)+1<(t.size:Int)):=by omega
    simp [h0,h3,hc1]
    exact hn.2 ⟨fun j hj=>hall j (by omega),by omega,by omega⟩
  ·simp
   exact (varG_iff t 0).2 (by omega)
 ·have:t.size=0:=by omega
  have hf:varOK t=false:=by rw [Bool.eq_false_iff,Ne,hn]; omega
  simp [c121,this,hf]
theorem callR4Upper (t:ByteArray) (ht:t.size≤100000000000) (bs:Nat) (σ:Heap):callT T 121 [.str t] bs σ=some (.bool (sym (varOK t)),σ):=call_clean rfl rfl rfl rfl (r4upper_ok t ht)
theorem r4rel_ok (t:ByteArray) (ht:t.size≤100000000000):pureT T c87 [.str t]=some (.bool (relOK t)):=by
 have h1:=refName_call t ht
 have h2:=refArity t
 apply pure_enter (by simp [c87])
 unfold relOK sMat
 generalize nameOK t=b at *
 cases b
 ·simp [c87,h1,h2]
 ·by_cases h3:arityOf t<0
  ·by_cases h4:t=⟨#[109,97,116,101,114,105,97,108,105,122,101]⟩
   ·simp [c87,h1,h2,h3,←h4]
   ·simp [c87,h1,h2,h3,h4]
  ·simp [c87,h1,h2,h3]
theorem callR4Rel (t:ByteArray) (ht:t.size≤100000000000) (bs:Nat) (σ:Heap):callT T 87 [.str t] bs σ=some (.bool (sym (relOK t)),σ):=call_clean rfl rfl rfl rfl (r4rel_ok t ht)
theorem r4none_ok (v:GV):pureT T c155 [v.enc]=some (.bool (bareV v)):=by
 obtain ⟨k,n,s,l⟩:=v
 apply pure_enter (by simp [c155])
 unfold bareV
 simp [c155,GV.enc_eq,GV.kind,GV.num,GV.text,GV.items]
 repeat' (first | apply And.intro | intro _)
 all_goals first | (simp_all; done) | omega | grind
theorem callR4None (v:GV) (bs:Nat) (σ:Heap):callT T 155 [v.enc] bs σ=some (.bool (sym (bareV v)),σ):=call_clean rfl rfl rfl (by simp) (r4none_ok v)
theorem r4in_ok (l:List ByteArray) (s:ByteArray) (hl:l.length≤100000000000):pureT T c93 [.isl (l.map .str) false,.str s]=some (.bool (l.any fun x=>decide (x=s))):=by
 apply pure_enter (by simp [c93])
 simp [c93]
 refine W_for T 0 18 l.length (fun i f σ=>f 0=.isl (l.map .str) false∧f 1=.str s∧f 5=.int .i64 (i:Int)∧∀ j,(hj:j<l.length)→j<i→l[j]≠s) ?_ _ _ ?_
 ·rintro i f σ hi ⟨h0,h1,h5,hall⟩
  by_cases hlt:i<l.length
  ·have e1:l[i]?=some l[i]:=zqF hlt
   have hw:IntKind.i64.wrap ((i:Int)+1)=(i:Int)+1:=wr64 (by omega) (by omega)
   by_cases hp:l[i]=s
   ·have:∃ x∈l,x=s:=⟨_,zqT hlt,hp⟩
    simp [h0,h1,h5,hlt,e1,hp,hw]
    simpa using this
   ·simp [h0,h1,h5,hlt,e1,hp,hw]
    intro j hj hji
    by_cases e:j=i
    ·subst e; exact hp
    ·exact hall j hj (by omega)
  ·have he:i=l.length:=by omega
   subst he
   simp [h0,h1,h5]
   intro x hx e
   obtain ⟨j,hj,rfl⟩:=zqS hx
   exact hall j hj hj e
 ·simp
theorem inOps (s:ByteArray) (o:AObj) (bs:Nat):callT T 93 [.sl 1 0 3 1 false,.str s] bs [o,.cells [.str ⟨#[43]⟩,.str ⟨#[45]⟩,.str ⟨#[42]⟩] 0 false]=some (.bool (sym (opOK s)),[o,.cells [.str ⟨#[43]⟩,.str ⟨#[45]⟩,.str ⟨#[42]⟩] 0 false]):=by
 have h:=r4in_ok [⟨#[43]⟩,⟨#[45]⟩,⟨#[42]⟩] s (by decide)
 have e:([⟨#[43]⟩,⟨#[45]⟩,⟨#[42]⟩]:List ByteArray).any (fun x=>decide (x=s))=opOK s:=by
  rw [Bool.eq_iff_iff]; simp only [List.any_cons,List.any_nil,Bool.or_false,Bool.or_eq_true,decide_eq_true_eq,opOK]; grind
 rw [e] at h
 exact call_scal rfl rfl rfl h rfl (by simp) rfl
theorem r4term_ok:∀ (d:Nat) (t:GT),d≤100→t.size≤100000000000→pureT T c138 [t.enc,.int .i64 (d:Int)]=some (.bool (termR d t)):=by
 intro d
 induction d with
 | zero=>
  intro t hd hs
  apply pure_enter (by simp [c138])
  simp [c138,termR]
 | succ d ih=>
  intro t hd hs
  obtain ⟨k,n,⟨vk,vn,vt,vl⟩,l⟩:=t
  simp only [GT.size,GV.size] at hs
  have hlen:=GT.len_sizes l
  have hw:IntKind.i64.wrap (d:Int)=(d:Int):=wr64 (by omega) (by omega)
  have hr:∀ x∈l,∀ bs σ,callT T 138 [x.enc,.int .i64 d] bs σ=some (.bool (sym (termR d x)),σ):=fun x hx bs σ=>call_clean rfl rfl rfl (by simp) (ih x (by omega) (by have:=(GT.sizes_mem hx).1; omega))
  have hvar:=callR4Upper n (by omega)
  have hnone:=callR4None (.mk vk vn vt vl)
  have hval:=refRight (.mk vk vn vt vl) (by simp only [GV.size]; omega)
  have har1:=refArity vt
  have har2:=refArity n
  have hin:=inOps n
  have hd1:¬ ((d:Int)+1<1):=by omega
  have hd2:(d:Int)+1 - 1=(d:Int):=by omega
  apply pure_enter (by simp [c138])
  by_cases h1:k=1
  ·subst h1
   simp [c138,GT.enc_eq,GT.kind,GT.name,GT.value,GT.args,GV.kind,GV.num,GV.text,GV.items,hvar,hnone,enc_mk,setRun,termR,termB,hd1]
   repeat' (first | apply And.intro | intro _)
   all_goals first | (simp_all; done) | omega | grind
  by_cases h2:k=2
  ·subst h2
   simp [c138,GT.enc_eq,GT.kind,GT.name,GT.value,GT.args,GV.kind,GV.num,GV.text,GV.items,hval,har1,enc_mk,setRun,termR,termB,hd1]
   repeat' (first | apply And.intro | intro _)
   all_goals first | (simp_all; done) | omega | grind
  by_cases h3:k=3
  ·subst h3
   have hsplit:termR (d+1) (.mk 3 n (.mk vk vn vt vl) l)=(decide (arityOf n=(l.length:Int)) && (bareV (.mk vk vn vt vl) && l.all (termR d))):=by
    rw [Bool.eq_iff_iff]; simp only [termR,termB,GT.kind,GT.name,GT.value,GT.args]
    simp
    grind
   rw [hsplit]
   generalize bareV (.mk vk vn vt vl)=b0 at *
   by_cases hc:arityOf n=(l.length:Int)
   ·simp [c138,GT.enc_eq,GT.kind,GT.name,GT.value,GT.args,GV.kind,GV.num,GV.text,GV.items,hnone,har2,hc,enc_mk,setRun,hd1]
    refine ⟨fun hb0=>?_,fun hb0=>?_⟩
    all_goals
     refine W_for T 0 111 l.length (fun i f σ=>f 1=.int .i64 ((d:Int)+1)∧f 2=.ptr 0 0∧f 9=.bool (b0 && (l.take i).all (termR d))∧f 10=.int .i64 (i:Int)∧∃ rest,σ=[.cells [.int .i64 3,.str n,.int .i64 vk,.int .i64 vn,.str vt,.isl (GV.encs vl) false,.isl (GT.encs l) false] 0 false]++rest) ?_ _ _ ?_
     ·rintro i f σ hi ⟨g1,g2,g9,g10,rest,rfl⟩
      by_cases hlt:i<l.length
      ·have hm:=zqT hlt
       have hrx:=hr l[i] hm
       have hw2:IntKind.i64.wrap ((i:Int)+1)=(i:Int)+1:=wr64 (by omega) (by omega)
       have htk:(l.take (i+1)).all (termR d)=((l.take i).all (termR d) && termR d l[i]):=by
        rw [List.take_add_one,zqF hlt,List.all_append]; simp
       rw [htk,←Bool.and_assoc]
       generalize (b0 && (l.take i).all (termR d))=b1 at *
       generalize termR d l[i]=b2 at *
       cases b1 <;> simp [g1,g2,g9,g10,hlt,hrx,hw,hw2,←GT.enc_eq,hd2]
      ·have he:i=l.length:=by omega
       subst he
       rw [List.take_length] at g9
       simp [g1,g2,g9,g10]
     ·simp [hb0]
   ·simp [c138,GT.enc_eq,GT.kind,GT.name,GT.value,GT.args,GV.kind,GV.num,GV.text,GV.items,har2,hc,enc_mk,setRun,hd1]
  by_cases h4:k=4
  ·subst h4
   have hsplit:termR (d+1) (.mk 4 n (.mk vk vn vt vl) l)=(opOK n && decide (l.length=2) && (bareV (.mk vk vn vt vl) && l.all (termR d))):=by
    rw [Bool.eq_iff_iff]; simp only [termR,termB,GT.kind,GT.name,GT.value,GT.args]
    simp
    grind
   rw [hsplit]
   generalize bareV (.mk vk vn vt vl)=b0 at *
   by_cases hc:opOK n=true∧l.length=2
   ·have hc2:(l.length:Int)=2:=by omega
    simp [c138,GT.enc_eq,GT.kind,GT.name,GT.value,GT.args,GV.kind,GV.num,GV.text,GV.items,hnone,hin,hc,hc2,enc_mk,setRun,hd1]
    refine ⟨fun hb0=>?_,fun hb0=>?_⟩
    all_goals
     refine W_for T 0 111 l.length (fun i f σ=>f 1=.int .i64 ((d:Int)+1)∧f 2=.ptr 0 0∧f 9=.bool (b0 && (l.take i).all (termR d))∧f 10=.int .i64 (i:Int)∧∃ rest,σ=[.cells [.int .i64 4,.str n,.int .i64 vk,.int .i64 vn,.str vt,.isl (GV.encs vl) false,.isl (GT.encs l) false] 0 false]++rest) ?_ _ _ ?_
     ·rintro i f σ hi ⟨g1,g2,g9,g10,rest,rfl⟩
      by_cases hlt:i<l.length
      ·have hm:=zqT hlt
       have hrx:=hr l[i] hm
       have hw2:IntKind.i64.wrap ((i:Int)+1)=(i:Int)+1:=wr64 (by omega) (by omega)
       have htk:(l.take (i+1)).all (termR d)=((l.take i).all (termR d) && termR d l[i]):=by
        rw [List.take_add_one,zqF hlt,List.all_append]; simp
       rw [htk,←Bool.and_assoc]
       generalize (b0 && (l.take i).all (termR d))=b1 at *
       generalize termR d l[i]=b2 at *
       cases b1 <;> simp [g1,g2,g9,g10,hlt,hrx,hw,hw2,←GT.enc_eq,hd2]
      ·have he:i=l.length:=by omega
       subst he
       rw [List.take_length] at g9
       simp [g1,g2,g9,g10]
     ·simp [hb0]
   ·have hf:(opOK n && decide (l.length=2))=false:=by rw [Bool.eq_false_iff]; simpa using hc
    have hc3:opOK n=true→¬ ((l.length:Int)=2):=fun h e=>hc ⟨h,by omega⟩
    rw [hf]
    cases ho:opOK n
    ·rw [ho] at hin
     simp [c138,GT.enc_eq,GT.kind,GT.name,GT.value,GT.args,GV.kind,GV.num,GV.text,GV.items,hin,enc_mk,setRun,hd1]
    ·have hc4:=hc3 ho
     rw [ho] at hin
     simp [c138,GT.enc_eq,GT.kind,GT.name,GT.value,GT.args,GV.kind,GV.num,GV.text,GV.items,hin,hc4,enc_mk,setRun,hd1]
  simp [c138,GT.enc_eq,GT.kind,GT.name,GT.value,GT.args,GV.kind,GV.num,GV.text,GV.items,termR,termB,hd1,h1,h2,h3,h4]
end Go.Proofs.YtjfgjnlocadpbaaGreatDoor
end
section
namespace Go.Proofs.YtjfgjnlocadpbaaGreatDoor
open Go.Mach
theorem callR4Term (t:GT) (hs:t.size≤100000000000) (bs:Nat) (σ:Heap):callT T 138 [t.enc,.int .i64 8] bs σ=some (.bool (sym (termR 8 t)),σ):=call_clean rfl rfl rfl (by simp) (r4term_ok 8 t (by omega) hs)
theorem r4terms_ok (l:List GT) (hs:GT.sizes l≤10000000000):pureT T c120 [.isl (GT.encs l) false]=some (.bool (l.all (termR 8))):=by
 have hlen:=GT.len_sizes l
 apply pure_enter (by simp [c120])
 simp [c120]
 refine W_for T 0 18 l.length (fun i f σ=>f 0=.isl (GT.encs l) false∧f 3=.int .i64 (i:Int)∧∀ j,(hj:j<l.length)→j<i→termR 8 l[j]=true) ?_ _ _ ?_
 ·rintro i f σ hi ⟨h0,h3,hall⟩
  by_cases hlt:i<l.length
  ·have hm:=zqT hlt
   have hw:IntKind.i64.wrap ((i:Int)+1)=(i:Int)+1:=wr64 (by omega) (by omega)
   have hc:=callR4Term l[i] (by have:=(GT.sizes_mem hm).1; omega)
   cases hp:termR 8 l[i]
   ·rw [hp] at hc
    simp [h0,h3,hlt,hc,hw,←GT.enc_eq]
    exact ⟨_,hm,hp⟩
   ·rw [hp] at hc
    simp [h0,h3,hlt,hc,hw,←GT.enc_eq]
    intro j hj hji
    by_cases e:j=i
    ·subst e; exact hp
    ·exact hall j hj (by omega)
  ·have he:i=l.length:=by omega
   subst he
   simp [h0,h3]
   intro x hx
   obtain ⟨j,hj,rfl⟩:=zqS hx
   exact hall j hj hj
 ·simp
theorem callR4Terms (l:List GT) (hs:GT.sizes l≤10000000000) (bs:Nat) (σ:Heap):callT T 120 [.isl (GT.encs l) false] bs σ=some (.bool (sym (l.all (termR 8))),σ):=call_clean rfl rfl rfl (by simp) (r4terms_ok l hs)
theorem r4args_ok (l:List GT) (hs:GT.sizes l≤10000000000):pureT T c91 [.isl (GT.encs l) false]=some (.bool (argsB l)):=by
 have hall:=callR4Terms l hs
 have hlen:=GT.len_sizes l
 apply pure_enter (by simp [c91])
 unfold argsB headOK
 generalize l.all (termR 8)=b at *
 match l with
 | []=>
  simp only [GT.encs] at hall
  simp [c91,hall]
 | x :: l=>
  simp only [zqU] at *
  simp [c91,hall]
  repeat' (first | apply And.intro | intro _)
  all_goals first | (simp_all; done) | omega | grind
theorem callR4Args (l:List GT) (hs:GT.sizes l≤10000000000) (bs:Nat) (σ:Heap):callT T 91 [.isl (GT.encs l) false] bs σ=some (.bool (sym (argsB l)),σ):=call_clean rfl rfl rfl (by simp) (r4args_ok l hs)
theorem inSix (s:ByteArray) (o:AObj) (bs:Nat):callT T 93 [.sl 1 0 6 1 false,.str s] bs [o,.cells [.str ⟨#[61,61]⟩,.str ⟨#[33,61]⟩,.str ⟨#[60]⟩,.str ⟨#[60,61]⟩,.str ⟨#[62]⟩,.str ⟨#[62,61]⟩] 0 false] =
  some (.bool (sym (tOK s)),[o,.cells [.str ⟨#[61,61]⟩,.str ⟨#[33,61]⟩,.str ⟨#[60]⟩,.str ⟨#[60,61]⟩,.str ⟨#[62]⟩,.str ⟨#[62,61]⟩] 0 false]):=by
 have h:=r4in_ok six s (by decide)
 have e:six.any (fun x=>decide (x=s))=tOK s:=by rw [←six_any]; congr 1; funext x; exact decide_eq_decide.2 ⟨Eq.symm,Eq.symm⟩
 rw [e] at h
 exact call_scal rfl rfl rfl h rfl (by simp) rfl
theorem r4lit_ok (x:GL) (hs:x.size≤10000000000):pureT T c92 [x.enc]=some (.bool (litB x)):=by
 have h1:=x.name_le
 have h2:=x.args_le
 obtain ⟨k,n,l⟩:=x
 simp only at h1 h2
 have hrel:=callR4Rel n (by omega)
 have hvar:=callR4Upper n (by omega)
 have hargs:=callR4Args l (by omega)
 have hall:=callR4Terms l (by omega)
 have hcon:=inSix n
 apply pure_enter (by simp [c92])
 unfold litB
 by_cases k1:k=1
 ·subst k1
  simp [c92,GL.enc_eq,hrel,hargs]
  cases relOK n <;> simp
 by_cases k2:k=2
 ·subst k2
  simp [c92,GL.enc_eq,hrel,hargs]
  cases relOK n <;> simp
 by_cases k3:k=3
 ·subst k3
  generalize l.all (termR 8)=b at *
  simp [c92,GL.enc_eq,hcon,hall]
  repeat' (first | apply And.intro | intro _)
  all_goals first | (simp_all; done) | omega | grind
 by_cases k4:k=4
 ·subst k4
  generalize l.all (termR 8)=b at *
  simp [c92,GL.enc_eq,hvar,hall]
  repeat' (first | apply And.intro | intro _)
  all_goals first | (simp_all; done) | omega | grind
 simp [c92,GL.enc_eq,k1,k2,k3,k4]
theorem callR4Lit (x:GL) (hs:x.size≤10000000000) (bs:Nat) (σ:Heap):callT T 92 [x.enc] bs σ=some (.bool (sym (litB x)),σ):=call_clean rfl rfl rfl (by simp) (r4lit_ok x hs)
end Go.Proofs.YtjfgjnlocadpbaaGreatDoor
end
section
namespace Go.Proofs.YtjfgjnlocadpbaaGreatDoor
open Go.Mach
theorem r4tup_ok (x:GU) (hs:x.size≤10000000000):pureT T c88 [x.enc]=some (.bool (tupB x)):=by
 have h1:=x.name_le
 have h2:=x.args_le
 obtain ⟨n,l⟩:=x
 simp only at h1 h2
 have hrel:=callR4Rel n (by omega)
 have hlen:=len_sizes l
 apply pure_enter (by simp [c88])
 unfold tupB
 simp only
 cases hn:relOK n
 ·rw [hn] at hrel
  simp [c88,GU.enc_eq,hrel]
 rw [hn] at hrel
 match l with
 | []=>simp [c88,GU.enc_eq,hrel]
 | x :: l=>
  by_cases h8:(x :: l).length≤8
  ·by_cases hk:x.kind=3
   ·have d1:¬ ((((x :: l).length:Nat):Int)<1):=by simp only [zqU]; omega
    have d2:¬ (8<(((x :: l).length:Nat):Int)):=by omega
    have e0:(x :: l)[0]?=some x:=rfl
    have hsp:(true && decide (1≤(x :: l).length∧(x :: l).length≤8) && decide (x.kind=3) && (x :: l).all rightT)=(x :: l).all rightT:=by
     have:1≤(x :: l).length∧(x :: l).length≤8:=⟨by simp,h8⟩
     simp only [this,hk,and_self,decide_true,Bool.true_and]
    simp only [hsp]
    generalize hL:x :: l=L at *
    simp [c88,GU.enc_eq,hrel,d1,d2,e0,hk]
    refine W_for T 0 46 L.length (fun i f σ=>f 1=.ptr 0 0∧f 4=.int .i64 (i:Int)∧σ=[.cells [.str n,.isl (GV.encs L) false] 0 false]∧∀ j,(hj:j<L.length)→j<i→rightT L[j]=true) ?_ _ _ ?_
    ·rintro i f σ hi ⟨g1,g4,rfl,hall⟩
     by_cases hlt:i<L.length
     ·have hm:=zqT hlt
      have hw:IntKind.i64.wrap ((i:Int)+1)=(i:Int)+1:=wr64 (by omega) (by omega)
      have hc:=refRight L[i] (by have:=(sizes_mem hm).1; omega)
      cases hp:rightT L[i]
      ·rw [hp] at hc
       simp [g1,g4,hlt,hc,hw,←GV.enc_eq]
       exact ⟨_,hm,hp⟩
      ·rw [hp] at hc
       simp [g1,g4,hlt,hc,hw,←GV.enc_eq]
       intro j hj hji
       by_cases e:j=i
       ·subst e; exact hp
       ·exact hall j hj (by omega)
     ·have he:i=L.length:=by omega
      subst he
      simp [g1,g4]
      intro y hy
      obtain ⟨j,hj,rfl⟩:=zqS hy
      exact hall j hj hj
    ·simp
   ·simp only [zqU] at *
    have d1:¬ ((l.length:Int)+1<1):=by omega
    have d2:¬ (8<(l.length:Int)+1):=by omega
    simp [c88,GU.enc_eq,hrel,d1,d2,hk]
  ·simp only [zqU] at *
   have d1:¬ ((l.length:Int)+1<1):=by omega
   have d2:8<(l.length:Int)+1:=by omega
   simp [c88,GU.enc_eq,hrel,d1,d2]
   try omega
theorem callR4Tup (x:GU) (hs:x.size≤10000000000) (bs:Nat) (σ:Heap):callT T 88 [x.enc] bs σ=some (.bool (sym (tupB x)),σ):=call_clean rfl rfl rfl (by simp) (r4tup_ok x hs)
end Go.Proofs.YtjfgjnlocadpbaaGreatDoor
end
section
namespace Go.Proofs.YtjfgjnlocadpbaaGreatDoor
open Go.Mach
theorem inThree (s:ByteArray) (o:AObj) (bs:Nat):callT T 93 [.sl 1 0 3 1 false,.str s] bs [o,.cells [.str sMin,.str sMax,.str sCount] 0 false]=some (.bool (sym (decide (s=sMin∨s=sMax∨s=sCount))),[o,.cells [.str sMin,.str sMax,.str sCount] 0 false]):=by
 have h:=r4in_ok [sMin,sMax,sCount] s (by decide)
 have e:([sMin,sMax,sCount]:List ByteArray).any (fun x=>decide (x=s))=decide (s=sMin∨s=sMax∨s=sCount):=by
  rw [Bool.eq_iff_iff]; simp only [List.any_cons,List.any_nil,Bool.or_false,Bool.or_eq_true,decide_eq_true_eq]; grind
 rw [e] at h
 exact call_scal rfl rfl rfl h rfl (by simp) rfl
theorem r4rule_ok (x:GR) (hs:x.size≤10000000000):pureT T c60 [x.enc]=some (.bool (ruleB x)):=by
 have h1:=x.label_le
 have h2:=x.head_le
 have h3:=x.args_le
 have h4:=x.agg_le
 have h5:=x.body_len
 have h6:=fun y hy=>x.body_mem (y:=y) hy
 obtain ⟨lab,hd,l,agg,at',body⟩:=x
 simp only at h1 h2 h3 h4 h5 h6
 have hlen:=GT.len_sizes l
 have hr1:=callR4Rel lab (by omega)
 have hr2:=callR4Rel hd (by omega)
 have hargs:=callR4Args l (by omega)
 have hin:=inThree agg
 apply pure_enter (by simp [c60])
 unfold ruleB
 simp only
 generalize relOK lab=b1 at *
 generalize relOK hd=b2 at *
 generalize argsB l=b3 at *
 cases b1
 ·simp [c60,GR.enc_eq,hr1,hr2,hargs]
 cases b2
 ·simp [c60,GR.enc_eq,hr1,hr2,hargs]
 cases b3
 ·simp [c60,GR.enc_eq,hr1,hr2,hargs]
 by_cases c1:body.length<1
 ·have c1':(body.length:Int)<1:=by omega
  simp [c60,GR.enc_eq,hr1,hr2,hargs,c1']
  omega
 by_cases c2:8<body.length
 ·have c1':¬ (body.length:Int)<1:=by omega
  have c2':8<(body.length:Int):=by omega
  simp [c60,GR.enc_eq,hr1,hr2,hargs,c1',c2']
  omega
 have c1':¬ (body.length:Int)<1:=by omega
 have c2':¬ 8<(body.length:Int):=by omega
 have c3:1≤body.length∧body.length≤8:=by omega
 simp only [c3,and_self,decide_true,Bool.and_true,Bool.true_and]
 simp [c60,GR.enc_eq,hr1,hr2,hargs,c1',c2']
 refine W_for T 0 89 body.length (fun i f σ=>f 1=.ptr 0 0∧f 6=.int .i64 (i:Int)∧σ=[.cells [.str lab,.str hd,.isl (GT.encs l) false,.str agg,.int .i64 at',.isl (body.map GL.enc) false] 0 false]∧∀ j,(hj:j<body.length)→j<i→litB body[j]=true) ?_ _ _ ?_
 ·rintro i f σ hi ⟨g1,g6,rfl,hall⟩
  by_cases hlt:i<body.length
  ·have hm:=zqT hlt
   have e1:body[i]?=some body[i]:=zqF hlt
   have hw:IntKind.i64.wrap ((i:Int)+1)=(i:Int)+1:=wr64 (by omega) (by omega)
   have hc:=callR4Lit body[i] (by have:=h6 _ hm; omega)
   cases hp:litB body[i]
   ·rw [hp] at hc
    have hf:body.all litB=false:=by rw [Bool.eq_false_iff]; intro h; rw [zqQ.1 h _ hm] at hp; cases hp
    simp [g1,g6,hlt,e1,hc,hw,hf,←GL.enc_eq]
   ·rw [hp] at hc
    simp [g1,g6,hlt,e1,hc,hw,←GL.enc_eq]
    intro j hj hji
    by_cases e:j=i
    ·subst e; exact hp
    ·exact hall j hj (by omega)
  ·have he:i=body.length:=by omega
   subst he
   have hf:body.all litB=true:=by
    rw [zqQ]; intro y hy
    obtain ⟨j,hj,rfl⟩:=zqS hy
    exact hall j hj hj
   unfold aggB
   simp only [hf,Bool.true_and]
   by_cases g0:agg=⟨#[]⟩
   ·subst g0
    simp [g1,g6]
   rw [if_neg g0]
   by_cases g2:agg=sMin∨agg=sMax∨agg=sCount
   ·by_cases g3:1≤at'∧at'<(l.length:Int)
    ·obtain ⟨t,ht⟩:∃ t,l[at'.toNat]?=some t:=⟨_,zqF (by omega)⟩
     have g4:0≤at':=by omega
     simp [g1,g6,g0,hin,g2,g3,g4,ht]
    ·simp [g1,g6,g0,hin,g2,g3]
     try grind
   ·simp [g1,g6,g0,hin,g2]
 ·simp
theorem callR4Rule (x:GR) (hs:x.size≤10000000000) (bs:Nat) (σ:Heap):callT T 60 [x.enc] bs σ=some (.bool (sym (ruleB x)),σ):=call_clean rfl rfl rfl (by simp) (r4rule_ok x hs)
end Go.Proofs.YtjfgjnlocadpbaaGreatDoor
end
section
namespace Go.Proofs.YtjfgjnlocadpbaaGreatDoor
open Go.Mach
theorem all_no {α:Type} {p:α→Bool} {l:List α} {x:α} (h:x∈l) (hp:p x=false):l.all p=false:=by
 rw [Bool.eq_false_iff]; intro hh; rw [zqQ.1 hh _ h] at hp; cases hp
theorem all_yes {α:Type} {p:α→Bool} {l:List α} (h:∀ j,(hj:j<l.length)→j<l.length→p l[j]=true):l.all p=true:=by
 rw [zqQ]; intro y hy
 obtain ⟨j,hj,rfl⟩:=zqS hy
 exact h j hj hj
theorem all_step {α:Type} {p:α→Bool} {l:List α} {i:Nat} (hlt:i<l.length) (hp:p l[i]=true) (h:∀ j,(hj:j<l.length)→j<i→p l[j]=true):∀ j,(hj:j<l.length)→j<i+1→p l[j]=true:=fun j hj hji=>by
 by_cases e:j=i
 ·subst e; exact hp
 ·exact h j hj (by omega)
set_option maxRecDepth 100000 in
theorem r4right_ok (x:GP) (hs:x.size≤10000000000):pureT T c57 [x.enc]=some (.bool (progB x)):=by
 have m1:=fun y hy=>x.decls_mem (y:=y) hy
 have m2:=fun y hy=>x.facts_mem (y:=y) hy
 have m3:=fun y hy=>x.rules_mem (y:=y) hy
 obtain ⟨ds,us,rs⟩:=x
 simp only at m1 m2 m3
 apply pure_enter (by simp [c57])
 unfold progB
 simp only
 by_cases c1:ds.length≤64∧us.length≤64∧rs.length≤64
 ·have d1:¬ (64<(ds.length:Int)):=by omega
  have d2:¬ (64<(us.length:Int)):=by omega
  have d3:¬ (64<(rs.length:Int)):=by omega
  simp only [c1,and_self,decide_true,Bool.true_and]
  simp [c57,GP.enc_eq,d1,d2,d3]
  refine W_for T 0 89 ds.length (fun i f σ=>f 1=.ptr 0 0∧f 3=.int .i64 (i:Int)∧σ=[.cells [.isl (ds.map GD.enc) false,.isl (us.map GU.enc) false,.isl (rs.map GR.enc) false] 0 false]∧∀ j,(hj:j<ds.length)→j<i→declB ds[j]=true) ?_ _ _ ?_
  rotate_left 1
  ·simp
  rintro i f σ hi ⟨g1,g3,rfl,hall⟩
  by_cases hlt:i<ds.length
  ·have hm:=zqT hlt
   have e1:ds[i]?=some ds[i]:=zqF hlt
   have hw:IntKind.i64.wrap ((i:Int)+1)=(i:Int)+1:=wr64 (by omega) (by omega)
   have hrel:=callR4Rel ds[i].name (by have:=m1 _ hm; have:=ds[i].name_le; omega)
   cases hp:declB ds[i]
   ·have hf:=all_no hm hp
    have hp2:¬ (relOK ds[i].name=true∧1≤ds[i].arity∧ds[i].arity≤8):=by simpa [declB] using hp
    simp [g1,g3,hlt,e1,hrel,hw,hf]
    grind
   ·have hp2:relOK ds[i].name=true∧1≤ds[i].arity∧ds[i].arity≤8:=by simpa [declB] using hp
    have p1:¬ (ds[i].arity<1):=by omega
    have p2:¬ (8<ds[i].arity):=by omega
    rw [hp2.1] at hrel
    simp [g1,g3,hlt,e1,hrel,hw,p1,p2]
    exact all_step hlt hp hall
  ·have he:i=ds.length:=by omega
   subst he
   have hf1:=all_yes hall
   simp only [hf1,Bool.and_true]
   simp [g1,g3]
   refine W_for T 0 89 us.length (fun i f σ=>f 1=.ptr 0 0∧f 5=.int .i64 (i:Int)∧σ=[.cells [.isl (ds.map GD.enc) false,.isl (us.map GU.enc) false,.isl (rs.map GR.enc) false] 0 false]∧∀ j,(hj:j<us.length)→j<i→tupB us[j]=true) ?_ _ _ ?_
   rotate_left 1
   ·simp [g1]
   clear g1 g3
   rintro i f σ hi ⟨g1,g3,rfl,hall⟩
   by_cases hlt:i<us.length
   ·have hm:=zqT hlt
    have e1:us[i]?=some us[i]:=zqF hlt
    have hw:IntKind.i64.wrap ((i:Int)+1)=(i:Int)+1:=wr64 (by omega) (by omega)
    have hc:=callR4Tup us[i] (by have:=m2 _ hm; omega)
    cases hp:tupB us[i]
    ·have hf:=all_no hm hp
     rw [hp] at hc
     simp [g1,g3,hlt,e1,hc,hw,hf,←GU.enc_eq]
    ·rw [hp] at hc
     simp [g1,g3,hlt,e1,hc,hw,←GU.enc_eq]
     exact all_step hlt hp hall
   ·have he:i=us.length:=by omega
    subst he
    have hf2:=all_yes hall
    simp only [hf2,Bool.true_and]
    simp [g1,g3]
    refine W_for T 0 89 rs.length (fun i f σ=>f 1=.ptr 0 0∧f 7=.int .i64 (i:Int)∧σ=[.cells [.isl (ds.map GD.enc) false,.isl (us.map GU.enc) false,.isl (rs.map GR.enc) false] 0 false]∧∀ j,(hj:j<rs.length)→j<i→ruleB rs[j]=true) ?_ _ _ ?_
    rotate_left 1
    ·simp [g1]
    clear g1 g3
    rintro i f σ hi ⟨g1,g3,rfl,hall⟩
    by_cases hlt:i<rs.length
    ·have hm:=zqT hlt
     have e1:rs[i]?=some rs[i]:=zqF hlt
     have hw:IntKind.i64.wrap ((i:Int)+1)=(i:Int)+1:=wr64 (by omega) (by omega)
     have hc:=callR4Rule rs[i] (by have:=m3 _ hm; omega)
     cases hp:ruleB rs[i]
     ·have hf:=all_no hm hp
      rw [hp] at hc
      simp [g1,g3,hlt,e1,hc,hw,hf,←GR.enc_eq]
     ·rw [hp] at hc
      simp [g1,g3,hlt,e1,hc,hw,←GR.enc_eq]
      exact all_step hlt hp hall
    ·have he:i=rs.length:=by omega
     subst he
     have hf3:=all_yes hall
     simp [g1,g3,hf3]
 ·have hf:decide (ds.length≤64∧us.length≤64∧rs.length≤64)=false:=decide_eq_false c1
  simp only [hf,Bool.false_and]
  by_cases d1:64<(ds.length:Int)
  ·simp [c57,GP.enc_eq,d1]
  by_cases d2:64<(us.length:Int)
  ·simp [c57,GP.enc_eq,d1,d2]
  have d3:64<(rs.length:Int):=by omega
  simp [c57,GP.enc_eq,d1,d2,d3]
theorem callR4Right (x:GP) (hs:x.size≤10000000000) (bs:Nat) (σ:Heap):callT T 57 [x.enc] bs σ=some (.bool (sym (progB x)),σ):=call_clean rfl rfl rfl (by simp) (r4right_ok x hs)
end Go.Proofs.YtjfgjnlocadpbaaGreatDoor
end
section
namespace Go.Proofs.YtjfgjnlocadpbaaGreatDoor
open Go.Mach
def joinB (ls:List ByteArray) (sep:ByteArray):List UInt8:=joinF (fun _ (x:ByteArray)=>x.data.toList) sep.data.toList 0 ls
theorem S_ap (a:List UInt8) (b:ByteArray):S a++b=S (a++b.data.toList):=bytes_ext (by simp [S])
theorem S_sz (a:List UInt8):(S a).size=a.length:=rfl
theorem joined_ok (ls:List ByteArray) (sep:ByteArray) (hl:ls.length≤1000000) (hb:(joinB ls sep).length≤1000000000000):pureT T c63 [.isl (ls.map .str) false,.str sep]=some (.str (S (joinB ls sep))):=by
 apply pure_enter (by simp [c63])
 simp [c63]
 refine W_for T 0 25 ls.length (fun i f σ=>f 0=.isl (ls.map .str) false∧f 1=.str sep∧f 5=.str (S (joinF (fun _ (x:ByteArray)=>x.data.toList) sep.data.toList 0 (ls.take i)))∧f 6=.int .i64 (i:Int)) ?_ _ _ ?_
 ·rintro i f σ hi ⟨g0,g1,g5,g6⟩
  by_cases hlt:i<ls.length
  ·have e1:ls[i]?=some ls[i]:=zqF hlt
   have hw:IntKind.i64.wrap ((i:Int)+1)=(i:Int)+1:=wr64 (by omega) (by omega)
   have hj:=joinF_take (fun _ (x:ByteArray)=>x.data.toList) sep.data.toList ls i hlt
   have hle:=joinF_le (fun _ (x:ByteArray)=>x.data.toList) sep.data.toList ls (i+1)
   have hb':(joinF (fun _ (x:ByteArray)=>x.data.toList) sep.data.toList 0 ls).length≤1000000000000:=hb
   rw [hj] at hle ⊢
   generalize joinF (fun _ (x:ByteArray)=>x.data.toList) sep.data.toList 0 (ls.take i)=cur at *
   have hn:ls[i].data.toList.length=ls[i].size:=by simp
   have hn2:sep.data.toList.length=sep.size:=by simp
   by_cases h0:i=0
   ·have h0':¬ (0<i):=by omega
    rw [if_pos h0] at hle ⊢
    simp only [zqJ,List.length_nil,hn] at hle
    have q:(cur.length:Int)+(ls[i].size:Int)≤9223372036854775807:=by omega
    simp [g0,g1,g5,g6,hlt,e1,hw,h0',S_sz,S_ap,q]
   ·have h0':0<i:=by omega
    rw [if_neg h0] at hle ⊢
    simp only [zqJ,hn,hn2] at hle
    have q0:(cur.length:Int)+(sep.size:Int)≤9223372036854775807:=by omega
    have q:(cur.length:Int)+(sep.size:Int)+(ls[i].size:Int)≤9223372036854775807:=by omega
    simp [g0,g1,g5,g6,hlt,e1,hw,h0',S_sz,S_ap,q0,q]
  ·have he:i=ls.length:=by omega
   subst he
   rw [List.take_length] at g5
   simp [g0,g1,g5,g6,joinB]
 ·simp [joinF,S]
end Go.Proofs.YtjfgjnlocadpbaaGreatDoor
end
section
namespace Go.Proofs.YtjfgjnlocadpbaaGreatDoor
open Go.Mach
theorem chkO_e1 (ρ:Regs) (σ σ':Heap) (x:AX):(chkO ρ σ σ' [x]=some ())=(objOf σ (ev ρ x)=objOf σ' (ev ρ x)):=by
 have:=sameO_iff (objOf σ (ev ρ x)) (objOf σ' (ev ρ x))
 unfold chkO
 simp only [List.all_cons,List.all_nil,Bool.and_true]
 rw [←this]
 split <;> simp_all
theorem sz_mk (a:Array UInt8):(ByteArray.mk a).size=a.size:=rfl
theorem joinB_map {α:Type} (f:α→List UInt8) (l:List α) (sep:ByteArray):joinB (l.map fun x=>S (f x)) sep=joinF (fun _=>f) sep.data.toList 0 l:=by
 unfold joinB
 suffices h:∀ i,joinF (fun _ (x:ByteArray)=>x.data.toList) sep.data.toList i (l.map fun x=>S (f x))=joinF (fun _=>f) sep.data.toList i l from h 0
 induction l with
 | nil=>intro i; rfl
 | cons x l ih=>intro i; simp only [List.map_cons,joinF,ih,S_toList]
theorem joinB_terms (l:List GT) (sep:ByteArray):joinB (l.map fun x=>S (shT x)) sep=shTs sep.data.toList l:=by rw [joinB_map,ts_join]
def TxAt (σ:Heap) (x:AV) (ls:List ByteArray):Prop:=(ls=[]∧x=.isl [] true)∨∃ k ext,x=.sl k 0 ls.length 1 false∧σ[k]?=some (.cells (ls.map .str) 0 ext)
theorem tx_close {σ:Heap} {x:AV} {ls:List ByteArray} (h:TxAt σ x ls):∃ σ1,close1 σ x=some (.isl (ls.map .str) false,σ1):=by
 rcases h with ⟨rfl,rfl⟩ | ⟨k,ext,rfl,hk⟩
 ·exact ⟨_,rfl⟩
 ·by_cases h0:ls.length=0
  ·have:ls=[]:=List.length_eq_zero_iff.1 h0
   subst this
   exact ⟨_,rfl⟩
  ·have hcl:(ls.map AV.str).all AV.clo1=true:=by rw [zqQ]; intro y hy; obtain ⟨z,_,rfl⟩:=List.mem_map.1 hy; rfl
   have hnr:(ls.map AV.str).map AV.nrm=ls.map AV.str:=by rw [List.map_map]; rfl
   have hch:=chunk_one (ls.map AV.str)
   rw [List.length_map] at hch
   refine ⟨frz σ k (0+ls.length * 1),close1_of0 ?_⟩
   unfold close0
   simp only [if_neg h0,hk,window_full (show (ls.map AV.str).length=ls.length * 1 by simp),Option.bind_some,hcl,if_true,hnr,hch,Option.map_some]
theorem tx_args {σ:Heap} {x:AV} {ls:List ByteArray} (h:TxAt σ x ls) (s:ByteArray):∃ σ1,closeT σ [x,.str s]=some ([.isl (ls.map .str) false,.str s],σ1):=by
 obtain ⟨σ1,h1⟩:=tx_close h
 refine ⟨σ1,?_⟩
 have h2:closeA σ x=close1 σ x:=by rcases h with ⟨_,rfl⟩ | ⟨k,ext,rfl,_⟩ <;> rfl
 simp [closeT,h2,h1]
theorem callJoinedX (ls:List ByteArray) (sep:ByteArray) (hl:ls.length≤1000000) (hb:(joinB ls sep).length≤1000000000000) (bs:Nat) {σ:Heap} {x:AV} (h:TxAt σ x ls) :
  callT T 63 [x,.str sep] bs σ=some (.str (S (joinB ls sep)),σ):=by
 obtain ⟨σ1,hc⟩:=tx_args h sep
 exact call_scal rfl rfl rfl (joined_ok ls sep hl hb) rfl (by simp) hc
theorem callShJoinedX (l:List GT) (sep:ByteArray) (hl:l.length≤1000000) (hb:(shTs sep.data.toList l).length≤1000000000000) (bs:Nat) {σ:Heap} {x:AV} (h:TxAt σ x (l.map fun x=>S (shT x))) :
  callT T 63 [x,.str sep] bs σ=some (.str (S (shTs sep.data.toList l)),σ):=by
 have:=callJoinedX (l.map fun x=>S (shT x)) sep (by simpa using hl) (by rw [joinB_terms]; exact hb) bs h
 rwa [joinB_terms] at this
theorem app_tx {σ:Heap} {j fz:Nat} {e:Bool} {s:ByteArray} {x:AV} {ls:List ByteArray} (h:(ls=[]∧x=.isl [] true)∨∃ k,x=.sl k 0 ls.length 1 false∧σ[k]?=some (.cells (ls.map .str) 0 true)) (hj:σ[j]?=some (.cells [.str s] fz e)) (hn:ls.length≤1000000000) :
  ∃ σ1,appendA σ 1 false 16 true x (.sl j 0 1 1 false)=some (.sl σ.length 0 (ls++[s]).length 1 false,σ1++[.cells ((ls++[s]).map .str) 0 true])∧(σ1=σ∨∃ k,x=.sl k 0 ls.length 1 false∧σ1=σ.set k .dead):=by
 have e2:=elemsN_s1 hj
 rcases h with ⟨rfl,rfl⟩ | ⟨k,rfl,hk⟩
 ·refine ⟨σ,?_,.inl rfl⟩
  have he2:elemsA σ 1 false (.isl [] true)=some []:=rfl
  have hne:¬ ((1:Nat)=0∨(0+1) * 16 > 70368744177664∨0+1 > 70368744177664):=by omega
  simp only [appendA,e2,he2,Option.bind_some,isSl,List.length_nil,List.length_singleton,if_neg hne]
  simp [flat,AV.cells]
 ·refine ⟨σ.set k .dead,?_,.inr ⟨k,rfl,rfl⟩⟩
  have hfl:∀ l:List ByteArray,flat (l.map AV.str)=l.map AV.str:=fun l=>by
   induction l with
   | nil=>rfl
   | cons a l ih=>simp only [flat,List.map_cons,List.flatMap_cons,AV.cells] at ih ⊢; rw [ih]; rfl
  have he2:elemsA σ 1 false (.sl k 0 ls.length 1 false)=some (ls.map .str):=by
   simp only [elemsA,hk]
   rw [window_full (by simp),Option.bind_some]
   have:=chunk_one (ls.map AV.str); rwa [List.length_map] at this
  have hne:¬ ((1:Nat)=0∨(ls.length+1) * 16 > 70368744177664∨ls.length+1 > 70368744177664):=by omega
  have hf1:flat [(AV.str s).nrm]=[.str s]:=rfl
  simp only [appendA,e2,he2,Option.bind_some,isSl,List.length_map,List.length_singleton,if_neg hne]
  have hf2:flat [AV.str s]=[.str s]:=rfl
  simp [hk,hfl,hf1,hf2]
theorem printedX (l:List GT) (hs:GT.sizes l≤1000000000) (hc:∀ x∈l,∀ bs σ,callT T 94 [x.enc] bs σ=some (.str (S (shT x)),σ)) (bs:Nat) (σ0:Heap) :
  ∃ r,callT T 61 [.isl (GT.encs l) false] bs σ0=some r∧∃ R,r.2=σ0++R∧((l=[]∧r.1=.isl [] true)∨∃ k,r.1=.sl (σ0.length+k) 0 l.length 1 false∧R[k]?=some (.cells (l.map fun x=>.str (S (shT x))) 0 true)):=by
 have hlen:=GT.len_sizes l
 refine heap_enterE (af:=c61) (args':=[.isl (GT.encs l) false]) (σ1:=σ0) rfl rfl (by simp [c61]) (by simp [c61]) (clean_closeT (by simp)).1 ?_
 simp [c61,baseA]
 refine W_for T _ 20 l.length (fun i f σ=>f 0=.isl (GT.encs l) false∧f 4=.int .i64 (i:Int)∧∃ R,σ=σ0++R∧((i=0∧f 3=.isl [] true)∨∃ k,f 3=.sl (σ0.length+k) 0 i 1 false∧R[k]?=some (.cells ((l.take i).map fun x=>.str (S (shT x))) 0 true))) ?_ _ _ ?_
 ·rintro i f σ hi ⟨g0,g4,R,rfl,g3⟩
  by_cases hlt:i<l.length
  ·have hx:=hc l[i] (zqT hlt)
   have hw:IntKind.i64.wrap ((i:Int)+1)=(i:Int)+1:=wr64 (by omega) (by omega)
   have htk:(l.take (i+1)).map (fun x=>S (shT x))=(l.take i).map (fun x=>S (shT x))++[S (shT l[i])]:=by
    rw [List.take_add_one,zqF hlt,List.map_append]; rfl
   have hln:((l.take i).map fun x=>S (shT x)).length=i:=by simp; omega
   have hst:((l.take i).map (fun x=>S (shT x))=[]∧f 3=.isl [] true)∨∃ k,f 3=.sl k 0 ((l.take i).map fun x=>S (shT x)).length 1 false∧(σ0++(R++[AObj.cells [.str (S (shT l[i]))] 0 false]))[k]?=some (.cells (((l.take i).map fun x=>S (shT x)).map .str) 0 true):=by
    rcases g3 with ⟨rfl,g3⟩ | ⟨k,g3,hk⟩
    ·exact .inl ⟨rfl,g3⟩
    ·refine .inr ⟨σ0.length+k,by rw [hln]; exact g3,?_⟩
     have hkl:k<R.length:=(zqI.1 hk).1
     rw [zqB (by omega),Nat.add_sub_cancel_left,zqA hkl,hk,List.map_map]; rfl
   have hj:(σ0++(R++[AObj.cells [.str (S (shT l[i]))] 0 false]))[σ0.length+R.length]?=some (.cells [.str (S (shT l[i]))] 0 false):=by
    rw [zqB (by omega),Nat.add_sub_cancel_left]; simp
   obtain ⟨σ1,ha,h1⟩:=app_tx hst hj (by omega)
   have hR2:∃ R2,σ1=σ0++R2∧R2.length=R.length+1:=by
    rcases h1 with rfl | ⟨k,h3,rfl⟩
    ·exact ⟨_,rfl,by simp⟩
    ·rcases g3 with ⟨_,g3⟩ | ⟨k',g3,_⟩
     ·rw [g3] at h3; cases h3
     ·rw [g3] at h3; injection h3 with h3; subst h3
      exact ⟨_,by rw [List.set_append_right _ _ (by omega)],by simp⟩
   obtain ⟨R2,rfl,hR2⟩:=hR2
   obtain ⟨x3,hx3⟩:∃ x,f 3=x:=⟨_,rfl⟩
   rw [hx3,←htk] at ha
   have hle:(σ0++(R++[AObj.cells [.str (S (shT l[i]))] 0 false])).length=σ0.length+R2.length:=by simp [hR2]
   rw [hle] at ha
   have hll:((l.take (i+1)).map fun x=>S (shT x)).length=i+1:=by simp; omega
   rw [hll] at ha
   simp [g0,g4,hx3,hlt,hx,hw,←GT.enc_eq,ha]
   rfl
  ·have he:i=l.length:=by omega
   subst he
   rw [List.take_length] at g3
   simp [g0,g4,res1]
   rcases g3 with ⟨h0,g3⟩ | ⟨k,g3,hk⟩
   ·exact .inl ⟨List.length_eq_zero_iff.1 h0,g3⟩
   ·exact .inr ⟨k,g3,hk⟩
 ·simp
theorem printedAt (l:List GT) (hs:GT.sizes l≤1000000000) (hc:∀ x∈l,∀ bs σ,callT T 94 [x.enc] bs σ=some (.str (S (shT x)),σ)) (bs:Nat) (σ0:Heap) :
  ∃ x R,callT T 61 [.isl (GT.encs l) false] bs σ0=some (x,σ0++R)∧(∀ τ X,τ.length=σ0.length→TxAt (τ++(R++X)) x (l.map fun x=>S (shT x))) ∧
   ((l=[]∧x=.isl [] true)∨∃ k,x=.sl (σ0.length+k) 0 l.length 1 false∧R[k]?=some (.cells (l.map fun x=>.str (S (shT x))) 0 true)):=by
 obtain ⟨⟨x,σ1⟩,h1,R,h2,h3⟩:=printedX l hs hc bs σ0
 simp only at h2 h3; subst h2
 refine ⟨x,R,h1,fun τ X hτ=>?_,h3⟩
 rcases h3 with ⟨rfl,h3⟩ | ⟨k,h3,hk⟩
 ·exact .inl ⟨rfl,h3⟩
 ·refine .inr ⟨σ0.length+k,true,by simpa using h3,?_⟩
  have hkl:k<R.length:=(zqI.1 hk).1
  rw [←hτ,zqB (by omega),Nat.add_sub_cancel_left,zqA hkl,hk,List.map_map]; rfl
theorem term_few {d:Nat} {k:Int} {n:ByteArray} {v:GV} {l:List GT} (h:termR d (.mk k n v l)=true):l.length≤2:=by
 obtain ⟨_,⟨n',e,hn⟩ | ⟨v',e,hv,_⟩ | ⟨n',l',e,hn,hl⟩ | ⟨n',l',e,_,h2,hl⟩⟩:=term_cases h <;> injection e with e1 e2 e3 e4 <;> subst e4
 ·simp
 ·simp
 ·unfold arityOf at hn
  split at hn
  ·omega
  ·split at hn <;> omega
 ·omega
theorem shown_ok:∀ (m:Nat) (t:GT),t.size≤m→m≤1000000000→(∃ d,termR d t=true)→pureT T c94 [t.enc]=some (.str (S (shT t))):=by
 intro m
 induction m with
 | zero=>intro t h; obtain ⟨k,n,⟨vk,vn,vt,vl⟩,l⟩:=t; simp [GT.size] at h
 | succ m ih=>
  intro t hs hm hd
  obtain ⟨d,hd⟩:=hd
  have hlen:=sh_len t d hd
  obtain ⟨k,n,⟨vk,vn,vt,vl⟩,l⟩:=t
  simp only [GT.size] at hs hlen
  have hll:=GT.len_sizes l
  have hcl:∀ x∈l,∀ bs σ,callT T 94 [x.enc] bs σ=some (.str (S (shT x)),σ):=fun x hx bs σ=>
   call_clean rfl rfl rfl (by simp) (ih x (by have:=(GT.sizes_mem hx).1; omega) (by omega) (term_args hd x hx))
  have har:=term_few hd
  apply pure_enter (by simp [c94])
  by_cases h1:k=1
  ·subst h1
   have hp:shT (.mk 1 n (.mk vk vn vt vl) l)=n.data.toList:=by simp [shT]
   rw [hp,S_data]
   simp [c94,GT.enc_eq,GT.kind,GT.name,GT.value,GT.args]
  by_cases h2:k=2
  ·subst h2
   have hv:=term_value hd rfl
   have hp:shT (.mk 2 n (.mk vk vn vt vl) l)=pr (.mk vk vn vt vl):=by simp [shT]
   have hpv:=refPrint (.mk vk vn vt vl) (right_okV _ _ hv) (by have:=rightT_size hv; omega)
   have hpv2:printV (.mk vk vn vt vl)=S (pr (.mk vk vn vt vl)):=by simp [printV,hv]
   rw [hpv2] at hpv
   rw [hp]
   simp [c94,GT.enc_eq,GT.kind,GT.name,GT.value,GT.args,GV.kind,GV.num,GV.text,GV.items,enc_mk,hpv]
  obtain ⟨x,R,hpr,hat,_⟩:=printedAt l (by omega) hcl 0 [.cells (GT.mk k n (.mk vk vn vt vl) l).enc.cells 0 false]
  have hat:=hat [.cells (GT.mk k n (.mk vk vn vt vl) l).enc.cells 0 false] [] rfl
  rw [List.append_nil] at hat
  by_cases h3:k=3
  ·subst h3
   have hp:shT (.mk 3 n (.mk vk vn vt vl) l)=n.data.toList++40 :: (shTs [44] l++[41]):=by simp [shT]
   rw [hp] at hlen ⊢
   simp only [zqJ,zqU,List.length_nil] at hlen
   have hns:n.data.toList.length=n.size:=by simp
   have hj:=callShJoinedX l ⟨#[44]⟩ (by omega) (by show (shTs [44] l).length≤_; omega) 0 hat
   have e:n++⟨#[40]⟩++S (shTs [44] l)++⟨#[41]⟩=S (n.data.toList++40 :: (shTs [44] l++[41])):=bytes_ext (by simp [S])
   have q0:(n.size:Int)+1≤9223372036854775807:=by omega
   have q1:(n.size:Int)+1+((shTs [44] l).length:Int)≤9223372036854775807:=by omega
   have q2:(n.size:Int)+1+((shTs [44] l).length:Int)+1≤9223372036854775807:=by omega
   simp [GT.enc_eq,GT.kind,GT.name,GT.value,GT.args,GV.kind,GV.num,GV.text,GV.items] at hpr hj
   simp [c94,GT.enc_eq,GT.kind,GT.name,GT.value,GT.args,GV.kind,GV.num,GV.text,GV.items,hpr,hj,S_sz,sz_mk,chkO_e1,objOf,q0,q1,q2,e]
  have hp:shT (.mk k n (.mk vk vn vt vl) l)=40 :: (shTs n.data.toList l++[41]):=by simp [shT,h1,h2,h3]
  rw [hp] at hlen ⊢
  simp only [zqJ,zqU,List.length_nil] at hlen
  have hj:=callShJoinedX l n (by omega) (by omega) 0 hat
  have e:(⟨#[40]⟩:ByteArray)++S (shTs n.data.toList l)++⟨#[41]⟩=S (40 :: (shTs n.data.toList l++[41])):=bytes_ext (by simp [S])
  have q1:(1:Int)+((shTs n.data.toList l).length:Int)≤9223372036854775807:=by omega
  have q2:(1:Int)+((shTs n.data.toList l).length:Int)+1≤9223372036854775807:=by omega
  simp [GT.enc_eq,GT.kind,GT.name,GT.value,GT.args,GV.kind,GV.num,GV.text,GV.items] at hpr hj
  simp [c94,GT.enc_eq,GT.kind,GT.name,GT.value,GT.args,GV.kind,GV.num,GV.text,GV.items,hpr,hj,S_sz,sz_mk,chkO_e1,objOf,q1,q2,e,h1,h2,h3]
theorem callShown (t:GT) (hs:t.size≤1000000000) (hd:∃ d,termR d t=true) (bs:Nat) (σ:Heap):callT T 94 [t.enc] bs σ=some (.str (S (shT t)),σ):=call_clean rfl rfl rfl (by simp) (shown_ok t.size t (Nat.le_refl _) hs hd)
theorem callPrinted (l:List GT) (hs:GT.sizes l≤1000000000) (hd:∀ x∈l,termR 8 x=true) (bs:Nat) (σ0:Heap) :
  ∃ x R,callT T 61 [.isl (GT.encs l) false] bs σ0=some (x,σ0++R)∧(∀ τ X,τ.length=σ0.length→TxAt (τ++(R++X)) x (l.map fun x=>S (shT x))) ∧
   ((l=[]∧x=.isl [] true)∨∃ k,x=.sl (σ0.length+k) 0 l.length 1 false∧R[k]?=some (.cells (l.map fun x=>.str (S (shT x))) 0 true)):=
 printedAt l hs (fun x hx bs σ=>callShown x (by have:=(GT.sizes_mem hx).1; omega) ⟨8,hd x hx⟩ bs σ) bs σ0
end Go.Proofs.YtjfgjnlocadpbaaGreatDoor
end
section
namespace Go.Proofs.YtjfgjnlocadpbaaGreatDoor
open Go.Mach
def textLiteral (x:GL):ByteArray:=if litB x=true then S (shLit x) else S []
theorem shAt_nil (p:Int):shAt [] p=fun _=>shT:=by funext i t; simp [shAt]
theorem atS_nil (p:Int) (l:List GT):shAtS [] p 0 l=shTs [44] l:=by rw [←ats_join,shAt_nil,ts_join]
theorem r4Lit_ok (x:GL) (hs:x.size≤1000000000):pureT T c62 [x.enc]=some (.str (textLiteral x)):=by
 have h1:=callR4Lit x (by omega)
 have hal:=x.args_le
 have hnl:=x.name_le
 apply pure_enter (by simp [c62])
 unfold textLiteral
 cases hb:litB x
 ·rw [hb] at h1
  simp [c62,h1,←GL.enc_eq,S]
 ·rw [hb] at h1
  have hln:=lit_len hb
  have hlc:=lit_cases hb
  obtain ⟨k,n,l⟩:=x
  simp only at hal hnl hlc
  have hns:n.data.toList.length=n.size:=by simp
  have hll:=GT.len_sizes l
  have hall:∀ y∈l,termR 8 y=true:=by
   rcases hlc with ⟨_,_,ha⟩ | ⟨_,_,a,b,rfl,ha,hb⟩ | ⟨_,_,a,rfl,ha⟩
   ·exact args_all ha
   ·intro y hy; simp at hy; rcases hy with rfl | rfl <;> assumption
   ·intro y hy; simp at hy; subst hy; exact ha
  obtain ⟨x,R,hpr,hat,hshape⟩:=callPrinted l (by omega) hall 0 [.cells [.int .i64 k,.str n,.isl (GT.encs l) false] 0 false]
  have hat:=hat [.cells [.int .i64 k,.str n,.isl (GT.encs l) false] 0 false] [] rfl
  rw [List.append_nil] at hat
  simp at hpr
  have hlen1:l.length≤1000000:=by
   rcases hlc with ⟨_,_,ha⟩ | ⟨_,_,a,b,rfl,ha,hb⟩ | ⟨_,_,a,rfl,ha⟩
   ·have:1≤l.length∧l.length≤8:=by have:=ha; simp only [argsB,zqL,decide_eq_true_eq] at this; exact this.1.1
    omega
   ·simp
   ·simp
  rw [GL.enc_eq] at h1
  simp only [GL.kind,GL.name,GL.args] at h1
  have hj:∀ sep:ByteArray,(shTs sep.data.toList l).length≤1000000000000→callT T 63 [x,.str sep] 0 (.cells [.int .i64 k,.str n,.isl (GT.encs l) false] 0 false :: R)=some (.str (S (shTs sep.data.toList l)),.cells [.int .i64 k,.str n,.isl (GT.encs l) false] 0 false :: R):=
   fun sep hsep=>callShJoinedX l sep hlen1 hsep 0 hat
  rcases hlc with ⟨hk | hk,_,_⟩ | ⟨hk,_,a,b,hl,_⟩ | ⟨hk,_,a,hl,_⟩
  ·subst hk
   have hp:shLit ⟨1,n,l⟩=n.data.toList++40 :: 64 :: (shTs [44] l++[41]):=by rw [sh1 rfl,shAtom,atS_nil]
   rw [hp] at hln ⊢
   simp only [zqJ,zqU,List.length_nil,hns] at hln
   have hj:=hj ⟨#[44]⟩ (by show (shTs [44] l).length≤_; omega)
   simp at hj
   have e:n++⟨#[40,64]⟩++S (shTs [44] l)++⟨#[41]⟩=S (n.data.toList++40 :: 64 :: (shTs [44] l++[41])):=bytes_ext (by simp [S])
   have q0:(n.size:Int)+2≤9223372036854775807:=by omega
   have q1:(n.size:Int)+2+((shTs [44] l).length:Int)≤9223372036854775807:=by omega
   have q2:(n.size:Int)+2+((shTs [44] l).length:Int)+1≤9223372036854775807:=by omega
   simp [c62,GL.enc_eq,h1,hpr,hj,S_sz,sz_mk,chkO_e1,objOf,q0,q1,q2,e]
  ·subst hk
   have hp:shLit ⟨2,n,l⟩=33 :: (n.data.toList++40 :: 64 :: (shTs [44] l++[41])):=by rw [sh2 rfl,shAtom,atS_nil]
   rw [hp] at hln ⊢
   simp only [zqJ,zqU,List.length_nil,hns] at hln
   have hj:=hj ⟨#[44]⟩ (by show (shTs [44] l).length≤_; omega)
   simp at hj
   have e:(⟨#[33]⟩:ByteArray)++n++⟨#[40,64]⟩++S (shTs [44] l)++⟨#[41]⟩=S (33 :: (n.data.toList++40 :: 64 :: (shTs [44] l++[41]))):=bytes_ext (by simp [S])
   have q:(1:Int)+(n.size:Int)≤9223372036854775807:=by omega
   have q0:(1:Int)+(n.size:Int)+2≤9223372036854775807:=by omega
   have q1:(1:Int)+(n.size:Int)+2+((shTs [44] l).length:Int)≤9223372036854775807:=by omega
   have q2:(1:Int)+(n.size:Int)+2+((shTs [44] l).length:Int)+1≤9223372036854775807:=by omega
   simp [c62,GL.enc_eq,h1,hpr,hj,S_sz,sz_mk,chkO_e1,objOf,q,q0,q1,q2,e]
  ·subst hk
   have hp:shLit ⟨3,n,l⟩=shTs (32 :: (n.data.toList++[32])) l:=by simp [shLit]
   rw [hp] at hln ⊢
   have e:(⟨#[32]⟩:ByteArray)++n++⟨#[32]⟩=S (32 :: (n.data.toList++[32])):=bytes_ext (by simp [S])
   have hj:=hj (S (32 :: (n.data.toList++[32]))) (by rw [S_toList]; omega)
   rw [S_toList] at hj
   have q:(1:Int)+(n.size:Int)≤9223372036854775807:=by omega
   have q0:(1:Int)+(n.size:Int)+1≤9223372036854775807:=by omega
   simp [c62,GL.enc_eq,h1,hpr,hj,S_sz,sz_mk,q,q0,e]
  ·subst hk
   subst hl
   have hp:shLit ⟨4,n,[a]⟩=n.data.toList++32 :: 58 :: 61 :: 32 :: shT a:=by simp [shLit]
   rw [hp] at hln ⊢
   simp only [zqJ,zqU,List.length_nil,hns] at hln
   rcases hshape with ⟨h0,_⟩ | ⟨kk,hx,hR⟩
   ·cases h0
   subst hx
   have e:n++⟨#[32,58,61,32]⟩++S (shT a)=S (n.data.toList++32 :: 58 :: 61 :: 32 :: shT a):=bytes_ext (by simp [S])
   have q0:(n.size:Int)+4≤9223372036854775807:=by omega
   have q1:(n.size:Int)+4+((shT a).length:Int)≤9223372036854775807:=by omega
   have hget:∀ o:AObj,(o :: R)[1+kk]?=some (.cells [.str (S (shT a))] 0 true):=fun o=>by rw [Nat.add_comm]; exact hR
   simp [GT.encs] at hpr h1
   simp [c62,GL.enc_eq,h1,hpr,S_sz,sz_mk,q0,q1,e,GT.encs,hget]
theorem callR4LitP (x:GL) (hs:x.size≤1000000000) (bs:Nat) (σ:Heap):callT T 62 [x.enc] bs σ=some (.str (textLiteral x),σ):=call_clean rfl rfl rfl (by simp) (r4Lit_ok x hs)
end Go.Proofs.YtjfgjnlocadpbaaGreatDoor
end
section
namespace Go.Proofs.YtjfgjnlocadpbaaGreatDoor
open Go.Mach
def ixm (f:Nat→GT→List UInt8):Nat→List GT→List ByteArray
 | _,[]=>[]
 | i,x :: l=>S (f i x) :: ixm f (i+1) l
theorem joinB_ixm (f:Nat→GT→List UInt8) (sep:ByteArray) (l:List GT):joinB (ixm f 0 l) sep=joinF f sep.data.toList 0 l:=by
 unfold joinB
 suffices h:∀ i,joinF (fun _ (x:ByteArray)=>x.data.toList) sep.data.toList i (ixm f i l)=joinF f sep.data.toList i l from h 0
 induction l with
 | nil=>intro i; rfl
 | cons x l ih=>intro i; simp only [ixm,joinF,ih,S_toList]
theorem ixm_len (f:Nat→GT→List UInt8):∀ (i:Nat) (l:List GT),(ixm f i l).length=l.length
 | _,[]=>rfl
 | i,x :: l=>by simp only [ixm,zqU,ixm_len]
theorem ixm_get (f:Nat→GT→List UInt8):∀ (i:Nat) (l:List GT) (j:Nat),(ixm f i l)[j]?=l[j]?.map fun t=>S (f (i+j) t)
 | _,[],_=>by simp [ixm]
 | i,x :: l,0=>by simp [ixm]
 | i,x :: l,j+1=>by simp only [ixm,zqD,ixm_get f (i+1) l j]; rw [show i+1+j=i+(j+1) by omega]
theorem ixm_nil (p:Int) (l:List GT):ixm (shAt [] p) 0 l=l.map fun t=>S (shT t):=by
 apply List.ext_getElem?; intro j
 rw [ixm_get,shAt_nil,List.getElem?_map]
theorem ixm_set {agg:List UInt8} (h:agg≠[]) (l:List GT) (p:Nat) (hp:p<l.length):(l.map fun t=>AV.str (S (shT t))).set p (.str (S (agg++60 :: ((l[p]).name.data.toList++[62]))))=(ixm (shAt agg (p:Int)) 0 l).map .str:=by
 apply List.ext_getElem?; intro j
 rw [List.getElem?_map,ixm_get,List.getElem?_set,List.getElem?_map,List.length_map]
 by_cases e:p=j
 ·subst e
  simp [hp,zqF hp,shAt,h]
 ·rw [if_neg e]
  have hne:¬ ((j:Int)=(p:Int)):=by omega
  cases hj:l[j]? with
  | none=>rfl
  | some t=>simp [shAt,hne]
theorem callJoinedO (ls:List ByteArray) (sep:ByteArray) (k:Nat) (hl:ls.length≤1000000) (hb:(joinB ls sep).length≤1000000000000) (bs:Nat) (σ:Heap) :
  callT T 63 [.own k (ls.map .str),.str sep] bs σ=some (.str (S (joinB ls sep)),σ):=
 call_scal rfl rfl rfl (joined_ok ls sep hl hb) rfl (by simp) rfl
set_option maxRecDepth 100000 in
theorem r4Rule_ok (x:GR) (hs:x.size≤1000000000):pureT T c39 [x.enc]=some (.str (textRule x)):=by
 have h1:=callR4Rule x (by omega)
 have hal:=x.args_le
 have hbl:=x.body_len
 have hbm:=fun y hy=>x.body_mem (y:=y) hy
 apply pure_enter (by simp [c39])
 unfold textRule
 cases hb:ruleB x
 ·rw [hb] at h1
  simp [c39,h1,←GR.enc_eq,S]
 ·rw [hb] at h1
  have hln:=rule_len hb
  simp only [ruleB,zqL,decide_eq_true_eq,zqQ] at hb
  obtain ⟨⟨⟨⟨⟨a1,a2⟩,a3⟩,a4⟩,a5⟩,a6⟩:=hb
  have n1:=rel_size a1
  have n2:=rel_size a2
  have n3:=agg_len a6
  have a7:1≤x.args.length∧x.args.length≤8:=by have:=a3; simp only [argsB,zqL,decide_eq_true_eq] at this; exact this.1.1
  obtain ⟨lab,hd,l,agg,pos,body⟩:=x
  simp only at hal hbl hbm a1 a2 a3 a4 a5 a6 a7 n1 n2 n3
  have e1:lab.data.toList.length=lab.size:=by simp
  have e2:hd.data.toList.length=hd.size:=by simp
  rw [GR.enc_eq] at h1
  simp only at h1
  obtain ⟨x,R,hpr,hat,hshape⟩:=callPrinted l (by omega) (args_all a3) 0 [.cells [.str lab,.str hd,.isl (GT.encs l) false,.str agg,.int .i64 pos,.isl (body.map GL.enc) false] 0 false]
  simp only [List.length_singleton] at hat hshape
  simp at hpr
  have hpl:shRule ⟨lab,hd,l,agg,pos,body⟩=lab.data.toList++32 :: (hd.data.toList++40 :: 64 :: (joinF (shAt agg.data.toList pos) [44] 0 l++[41])++32 :: 58 :: 45 :: 32 :: (joinF (fun _=>shLit) [44,32] 0 body++[46])):=by
   simp only [shRule,shAtom,ats_join,ls_join]
  rw [hpl] at hln ⊢
  simp only [zqJ,zqU,List.length_nil,e1,e2] at hln
  have hlits:=fun (y:GL) (hy:y∈body) (bs:Nat) (σ:Heap)=>callR4LitP y (by have:=hbm y hy; omega) bs σ
  have hlit:∀ y∈body,∀ bs σ,callT T 62 [y.enc] bs σ=some (.str (S (shLit y)),σ):=fun y hy bs σ=>by
   rw [hlits y hy bs σ]; unfold textLiteral; rw [if_pos (a5 y hy)]
  by_cases hagg:agg=⟨#[]⟩
  obtain ⟨R1,hR1⟩:∃ R1,R1=R:=⟨_,rfl⟩
  have hat2:∀ X,TxAt (AObj.cells [.str lab,.str hd,.isl (GT.encs l) false,.str agg,.int .i64 pos,.isl (body.map GL.enc) false] 0 false :: (R1++X)) x (ixm (shAt agg.data.toList pos) 0 l):=fun X=>by
   rw [hR1]
   have:=hat [AObj.cells [.str lab,.str hd,.isl (GT.encs l) false,.str agg,.int .i64 pos,.isl (body.map GL.enc) false] 0 false] X rfl
   rw [hagg] at this ⊢
   rw [show (⟨#[]⟩:ByteArray).data.toList=[] from rfl,ixm_nil]
   exact this
  have hagg':(agg=⟨#[]⟩)=True:=eq_true hagg
  simp [c39,GR.enc_eq,h1,hpr,sz_mk,hagg',-List.append_eq]
  rw [←hR1]
  rotate_left 1
  have hne:agg.data.toList≠[]:=fun h=>hagg (ba_list_nil.1 h)
  simp only [aggB,if_neg hagg,zqL,decide_eq_true_eq] at a6
  obtain ⟨⟨_,p1,p2⟩,p3⟩:=a6
  obtain ⟨p,rfl⟩:∃ p:Nat,pos=(p:Int):=⟨pos.toNat,by omega⟩
  have hp:p<l.length:=by omega
  rw [Int.toNat_natCast,zqF hp] at p3
  simp only [Option.map_some,Option.some.injEq] at p3
  have hsh:shT l[p]=(l[p]).name.data.toList:=by
   generalize l[p]=t at p3
   obtain ⟨k,n,v,ll⟩:=t
   simp only [GT.kind] at p3; subst p3
   simp [shT]
  rcases hshape with ⟨h0,_⟩ | ⟨k,hx,hR⟩
  ·rw [h0] at hp; simp at hp
  rw [Nat.add_comm 1 k] at hx
  have hkl:k<R.length:=(zqI.1 hR).1
  have hset:=ixm_set hne l p hp
  obtain ⟨R1,hR1⟩:∃ R1,R1=R.set k (.cells ((l.map fun x=>AV.str (S (shT x))).set p (.str (S (agg.data.toList++60 :: ((l[p]).name.data.toList++[62]))))) 0 true):=⟨_,rfl⟩
  have hat2:∀ X,TxAt (AObj.cells [.str lab,.str hd,.isl (GT.encs l) false,.str agg,.int .i64 (p:Int),.isl (body.map GL.enc) false] 0 false :: (R1++X)) x (ixm (shAt agg.data.toList (p:Int)) 0 l):=fun X=>by
   refine .inr ⟨k+1,true,by rw [hx,ixm_len],?_⟩
   rw [zqD,hR1,zqA (by simpa using hkl),←hset]
   simp [hkl]
  have hwin:window (l.map fun x=>AV.str (S (shT x))) p 1=some [.str (S (shT l[p]))]:=by
   unfold window
   rw [if_pos (by simp; omega),zqM (by simpa using hp)]
   simp
  have e5:agg++⟨#[60]⟩++S (shT l[p])++⟨#[62]⟩=S (agg.data.toList++60 :: ((l[p]).name.data.toList++[62])):=bytes_ext (by simp [S,hsh])
  have e6:(shT l[p]).length≤100000000000:=by
   have:=sh_len l[p] 8 (args_all a3 _ (zqT hp))
   have:=(GT.sizes_mem (zqT hp)).1
   omega
  have q0:(agg.size:Int)+1≤9223372036854775807:=by omega
  have q1:(agg.size:Int)+1+((shT l[p]).length:Int)≤9223372036854775807:=by omega
  have q2:(agg.size:Int)+1+((shT l[p]).length:Int)+1≤9223372036854775807:=by omega
  simp [c39,GR.enc_eq,h1,hpr,sz_mk,S_sz,hagg,hx,hp,hR,hwin,q0,q1,q2,e5,setRun,show p+1≤l.length by omega]
  rw [←hR1,←hx]
  generalize hpos:(p:Int)=pos at *
  rotate_left 1
  all_goals
   clear hat hpr
   refine W_for T 0 62 body.length (fun i f σ=>f 1=.ptr 0 0∧f 4=x∧f 6=.int .i64 (i:Int)∧∃ X,σ=AObj.cells [.str lab,.str hd,.isl (GT.encs l) false,.str agg,.int .i64 pos,.isl (body.map GL.enc) false] 0 false :: (R1++X) ∧
     ((i=0∧f 5=.isl [] true)∨∃ k,f 5=.own (R1.length+k+1) ((body.take i).map fun y=>.str (S (shLit y)))∧X[k]?=some (.tok i 1))) ?_ _ _ ?_
   rotate_left 1
   ·simp
   rintro i f σ hi ⟨g1,g4,g6,X,rfl,g5⟩
   by_cases hlt:i<body.length
   ·have e1:body[i]?=some body[i]:=zqF hlt
    have hx:=hlit body[i] (zqT hlt)
    have hw:IntKind.i64.wrap ((i:Int)+1)=(i:Int)+1:=wr64 (by omega) (by omega)
    have htk:(body.take (i+1)).map (fun x=>AV.str (S (shLit x)))=(body.take i).map (fun x=>AV.str (S (shLit x)))++[.str (S (shLit body[i]))]:=by
     rw [List.take_add_one,zqF hlt,List.map_append]; rfl
    rw [htk]
    have hall:((body.take i).map fun x=>AV.str (S (shLit x))).all (okEl 1 false)=true:=by
     rw [zqQ]; intro y hy
     obtain ⟨x,_,rfl⟩:=List.mem_map.1 hy; rfl
    have hel:((body.take i).map fun x=>AV.str (S (shLit x))).length=i:=by simp; omega
    have hnil:i=0→(body.take i).map (fun x=>AV.str (S (shLit x)))=[]:=fun h=>by subst h; rfl
    generalize hES:(body.take i).map (fun x=>AV.str (S (shLit x)))=es at *
    rcases g5 with ⟨h0,g5⟩ | ⟨kk,g5,hk⟩
    ·rw [hnil h0]
     simp [g1,g4,g6,g5,hlt,e1,hx,hw,←GL.enc_eq]
     simp [h0]
    ·have hkl:kk<X.length:=(zqI.1 hk).1
     have hne:i≤10000000000:=by omega
     simp [g1,g4,g6,g5,hlt,e1,hx,hw,←GL.enc_eq,hk,hel,hall,hne,zqA hkl,List.set_append_left _ _ hkl]
     rw [zqA (by simpa using hkl)]; simp [hkl]
   ·have he:i=body.length:=by omega
    subst he
    rcases g5 with ⟨h0,g5⟩ | ⟨kk,g5,hk⟩
    ·omega
    rw [List.take_length] at g5
    have j1:=callJoinedX (ixm (shAt agg.data.toList pos) 0 l) ⟨#[44]⟩ (by rw [ixm_len]; omega) (by rw [joinB_ixm]; show (joinF _ [44] 0 l).length≤_; omega) 0 (hat2 X)
    rw [joinB_ixm] at j1
    have j2:=callJoinedO (body.map fun y=>S (shLit y)) ⟨#[44,32]⟩ (R1.length+kk+1) (by simp; omega) (by rw [joinB_map]; show (joinF _ [44,32] 0 body).length≤_; omega) 0 (AObj.cells [.str lab,.str hd,.isl (GT.encs l) false,.str agg,.int .i64 pos,.isl (body.map GL.enc) false] 0 false :: (R1++X))
    rw [joinB_map,List.map_map] at j2
    have e4:(AV.str ∘ fun y=>S (shLit y))=fun y=>AV.str (S (shLit y)):=rfl
    rw [e4] at j2
    simp only [show (⟨#[44]⟩:ByteArray).data.toList=[44] from rfl,show (⟨#[44,32]⟩:ByteArray).data.toList=[44,32] from rfl] at j1 j2
    generalize joinF (shAt agg.data.toList pos) [44] 0 l=A at *
    generalize joinF (fun _=>shLit) [44,32] 0 body=B at *
    have e6:lab++⟨#[32]⟩++hd++⟨#[40,64]⟩++S A++⟨#[41,32,58,45,32]⟩++S B++⟨#[46]⟩=S (lab.data.toList++32 :: (hd.data.toList++40 :: 64 :: (A++41 :: 32 :: 58 :: 45 :: 32 :: (B++[46])))):=bytes_ext (by simp [S])
    have q1:(lab.size:Int)+1≤9223372036854775807:=by omega
    have q2:(lab.size:Int)+1+(hd.size:Int)≤9223372036854775807:=by omega
    have q3:(lab.size:Int)+1+(hd.size:Int)+2≤9223372036854775807:=by omega
    have q4:(lab.size:Int)+1+(hd.size:Int)+2+(A.length:Int)≤9223372036854775807:=by omega
    have q5:(lab.size:Int)+1+(hd.size:Int)+2+(A.length:Int)+5≤9223372036854775807:=by omega
    have q6:(lab.size:Int)+1+(hd.size:Int)+2+(A.length:Int)+5+(B.length:Int)≤9223372036854775807:=by omega
    have q7:(lab.size:Int)+1+(hd.size:Int)+2+(A.length:Int)+5+(B.length:Int)+1≤9223372036854775807:=by omega
    simp [g1,g4,g6,g5,j1,j2,sz_mk,S_sz,q1,q2,q3,q4,q5,q6,q7,e6]
theorem callR4RuleP (x:GR) (hs:x.size≤1000000000) (bs:Nat) (σ:Heap):callT T 39 [x.enc] bs σ=some (.str (textRule x),σ):=call_clean rfl rfl rfl (by simp) (r4Rule_ok x hs)
end Go.Proofs.YtjfgjnlocadpbaaGreatDoor
end
section
namespace Go.Proofs.YtjfgjnlocadpbaaGreatDoor
open Go.Mach
def aggOf (n:Nat):ByteArray:=if n=0 then sMin else if n=1 then sMax else sCount
def declOf (d:GD):GD:=⟨relOf d.name,1+(pickN d.arity 8:Int)⟩
def tupOf (t:GU):GU:=⟨relOf t.name,.mk 3 0 ⟨#[97]⟩ [] :: (t.args.take 7).map fit⟩
def lit0:GL:=⟨0,⟨#[]⟩,[]⟩
def bodyOf (l:List GL):List GL:=if l=[] then [litOf lit0] else (l.take 8).map litOf
def hasAgg (r:GR):Prop:=1<(argsOf r.args).length∧pickN r.pos 2=1
instance (r:GR):Decidable (hasAgg r):=inferInstanceAs (Decidable (_∧_))
def posOf (r:GR):Nat:=1+pickN r.pos ((argsOf r.args).length - 1)
def ruleOf (r:GR):GR:=
 if hasAgg r then ⟨relOf r.label,relOf r.head,(argsOf r.args).set (posOf r) (.mk 1 (varOf r.agg) nilV []),aggOf (pickN r.pos 3),(posOf r:Int),bodyOf r.body⟩
 else ⟨relOf r.label,relOf r.head,argsOf r.args,⟨#[]⟩,0,bodyOf r.body⟩
def progOf (p:GP):GP:=⟨(p.decls.take 64).map declOf,(p.facts.take 64).map tupOf,(p.rules.take 64).map ruleOf⟩
theorem argsOf_len (l:List GT):1≤(argsOf l).length∧(argsOf l).length≤8:=by simp [argsOf]; omega
theorem posOf_lt {r:GR} (h:hasAgg r):1≤posOf r∧posOf r<(argsOf r.args).length:=by
 have:=pickN_lt (c:=r.pos) (n:=(argsOf r.args).length - 1) (by have:=h.1; omega)
 unfold posOf; omega
theorem relOf_le (s:ByteArray):(relOf s).size≤16:=by
 have:=nameFit_size s
 unfold relOf; split
 ·show 1≤16; omega
 ·omega
theorem varOf_le (s:ByteArray):(varOf s).size≤16:=by
 have:=nameFit_size s
 unfold varOf; rw [ByteArray.size_append,ByteArray.size_extract]
 show 1+_≤16; omega
theorem gv_pos (v:GV):5≤v.size:=by cases v; simp only [GV.size]; omega
theorem gt_pos (t:GT):8≤t.size:=by cases t with | mk k n v l=>simp only [GT.size]; have:=gv_pos v; omega
theorem sizesV_map (f:GV→GV) (h:∀ x,(f x).size≤8 * x.size):∀ (l:List GV) (n:Nat),GV.sizes ((l.take n).map f)≤8 * GV.sizes l
 | [],n=>by simp [GV.sizes]
 | x :: l,0=>by simp [GV.sizes]
 | x :: l,n+1=>by have:=sizesV_map f h l n; have:=h x; simp only [List.take_succ_cons,List.map_cons,GV.sizes]; omega
theorem sizesT_map (f:GT→GT) (h:∀ x,(f x).size≤8 * x.size):∀ (l:List GT) (n:Nat),GT.sizes ((l.take n).map f)≤8 * GT.sizes l
 | [],n=>by simp [GT.sizes]
 | x :: l,0=>by simp [GT.sizes]
 | x :: l,n+1=>by have:=sizesT_map f h l n; have:=h x; simp only [List.take_succ_cons,List.map_cons,GT.sizes]; omega
theorem fitV_le:∀ (d:Nat) (v:GV),(fitV d v).size≤8 * v.size:=by
 intro d
 induction d with
 | zero=>
  intro v
  have:=gv_pos v
  rw [fitV]
  repeat' split
  ·simp only [GV.size,GV.sizes]; show 0+0+5≤_; omega
  ·simp only [GV.size,GV.sizes]
   have:(textFit v.text).size≤32:=by simp only [textFit,ByteArray.size,List.size_toArray,List.length_map,List.length_take]; omega
   omega
  ·simp only [GV.size,GV.sizes]; have:=nameFit_size v.text; omega
  ·simp only [GV.size,GV.sizes]; show 0+0+5≤_; omega
 | succ d ih=>
  intro v
  have:=gv_pos v
  rw [fitV]
  repeat' split
  ·simp only [GV.size,GV.sizes]; show 0+0+5≤_; omega
  ·simp only [GV.size,GV.sizes]
   have:(textFit v.text).size≤32:=by simp only [textFit,ByteArray.size,List.size_toArray,List.length_map,List.length_take]; omega
   omega
  ·simp only [GV.size,GV.sizes]; have:=nameFit_size v.text; omega
  ·have hm:=sizesV_map (fun x=>fitV d (if d=0∧pickN x.kind 4=3 then .mk 0 x.num x.text x.items else x)) (fun x=>by
    have h1:=ih (if d=0∧pickN x.kind 4=3 then .mk 0 x.num x.text x.items else x)
    have h2:(if d=0∧pickN x.kind 4=3 then GV.mk 0 x.num x.text x.items else x).size=x.size:=by
     split
     ·cases x; simp only [GV.size,GV.text,GV.items]
     ·rfl
    rw [h2] at h1; exact h1) v.items 16
   have h3:v.size=v.text.size+GV.sizes v.items+5:=by cases v; simp only [GV.size,GV.text,GV.items]
   simp only [GV.size]; show 0+_+5≤_; omega
theorem fit_le (v:GV):(fit v).size≤8 * v.size:=fitV_le 4 v
theorem valOf_le (v:GV):(valOf v).size≤8 * v.size:=by
 unfold valOf
 split
 ·rename_i h
  have h1:=gv_pos v
  have h2:=relOf_le (fit v).text
  obtain ⟨n,t,e⟩:∃ n t,fit v=.mk 3 n t []:=by
   have hr:=fit_right v
   unfold fit at h ⊢
   rw [fitV] at h ⊢
   repeat' split
   ·rename_i h1; rw [if_pos h1] at h; simp [GV.kind] at h
   ·rename_i h1 h2; rw [if_neg h1,if_pos h2] at h; simp [GV.kind] at h
   ·exact ⟨_,_,rfl⟩
   ·rename_i h1 h2 h3; simp [h1,h2,h3,GV.kind] at h
  have e2:(fit v).items=[]:=by rw [e]
  rw [e2]
  simp only [GV.size,GV.sizes]; omega
 ·exact fit_le v
theorem leafT_le (t:GT):(leafT t).size≤8 * t.size:=by
 have h0:=gt_pos t
 unfold leafT
 split
 ·have:=varOf_le t.name
  simp only [GT.size,GT.sizes,nilV,GV.size,GV.sizes]; show _+(0+0+5)+0+3≤_; omega
 ·have h1:=valOf_le t.value
  have h2:t.size=t.name.size+t.value.size+GT.sizes t.args+3:=by cases t; rfl
  simp only [GT.size,GT.sizes]; show 0+_+0+3≤_; omega
theorem termV_le:∀ (d:Nat) (t:GT),(termV d t).size≤8 * t.size
 | 0,t=>by rw [termV]; exact leafT_le t
 | d+1,t=>by
  have h0:=gt_pos t
  have h2:t.size=t.name.size+t.value.size+GT.sizes t.args+3:=by cases t; rfl
  have h5:=gv_pos t.value
  rw [termV]
  split
  ·exact leafT_le t
  split
  ·have:=varOf_le t.name
   simp only [GT.size,GT.sizes,nilV,GV.size,GV.sizes]; show _+(0+0+5)+0+3≤_; omega
  split
  ·have h1:=valOf_le t.value
   simp only [GT.size,GT.sizes]; show 0+_+0+3≤_; omega
  split
  ·generalize pickN (IntKind.i64.wrap ((t.name.size:Int)+t.kind)) 6=q
   have h3:=sizesT_map (termV d) (termV_le d) t.args (arityOf (fnOf q)).toNat
   have h4:(fnOf q).size≤9:=by unfold fnOf; (repeat' split) <;> decide
   simp only [GT.size,nilV,GV.size,GV.sizes]; show _+(0+0+5)+_+3≤_; omega
  ·have h3:=sizesT_map (termV d) (termV_le d) t.args 2
   have h4:∀ q,(opOf q).size≤9:=fun q=>by unfold opOf; (repeat' split) <;> decide
   have h4:=h4 (pickN t.name.size 3)
   simp only [GT.size,nilV,GV.size,GV.sizes]; show _+(0+0+5)+_+3≤_; omega
theorem argsOf_le (l:List GT):GT.sizes (argsOf l)≤24+8 * GT.sizes l:=by
 have h1:=sizesT_map (termV 8) (termV_le 8) (l.drop 1) 7
 have h2:GT.sizes (l.drop 1)≤GT.sizes l:=by cases l with
  | nil=>simp [GT.sizes]
  | cons x l=>simp only [List.drop_succ_cons,List.drop_zero,GT.sizes]; omega
 have h3:(firstOf l).size≤24:=by
  unfold firstOf
  cases l with
  | nil=>simp only [GT.size,GT.sizes,nilV,GV.size,GV.sizes]; show 1+(0+0+5)+0+3≤_; omega
  | cons t l=>
   simp only
   split
   ·have:=relOf_le t.name
    simp only [GT.size,GT.sizes,GV.size,GV.sizes]; show 0+_+0+3≤_; omega
   ·simp only [GT.size,GT.sizes,nilV,GV.size,GV.sizes]; show 1+(0+0+5)+0+3≤_; omega
 simp only [argsOf,GT.sizes]; omega
theorem termI_le (l:List GT) (i:Nat):(termI l i).size≤9+8 * GT.sizes l:=by
 unfold termI
 split
 ·rename_i t h
  have:=termV_le 8 t
  have:=(GT.sizes_mem (zqR h)).1
  omega
 ·simp only [GT.size,GT.sizes,nilV,GV.size,GV.sizes]; show 1+(0+0+5)+0+3≤_; omega
theorem gl_size (x:GL):x.size=x.name.size+GT.sizes x.args+4:=by simp only [GL.size,GL.enc,bulkA,bulkAs,GT.bulk_encs]; omega
theorem litOf_le (x:GL):(litOf x).size≤16 * x.size:=by
 have h0:=gl_size x
 have h1:=argsOf_le x.args
 have h2:=relOf_le x.name
 have h3:=varOf_le x.name
 have h4:=termI_le x.args 0
 have h5:=termI_le x.args 1
 have h6:(testOf (pickN x.name.size 6)).size≤2:=by unfold testOf; (repeat' split) <;> decide
 rw [gl_size]
 unfold litOf
 repeat' split
 all_goals simp only [GT.sizes]; omega
theorem gr_size (x:GR):x.size=x.label.size+x.head.size+GT.sizes x.args+x.agg.size+bulkAs (x.body.map GL.enc)+7:=by simp only [GR.size,GR.enc,bulkA,bulkAs,GT.bulk_encs]; omega
theorem gu_size (x:GU):x.size=x.name.size+GV.sizes x.args+3:=by simp only [GU.size,GU.enc,bulkA,bulkAs,GV.bulk_encs]; omega
theorem gd_size (x:GD):x.size=x.name.size+3:=by simp only [GD.size,GD.enc,bulkA,bulkAs]
theorem bulk_map {α:Type} (f:α→α) (enc:α→AV) (K:Nat) (h:∀ x,bulkA (enc (f x))≤K * bulkA (enc x)):∀ (l:List α) (n:Nat),bulkAs (((l.take n).map f).map enc)≤K * bulkAs (l.map enc)
 | [],n=>by simp [bulkAs]
 | x :: l,0=>by simp [bulkAs]
 | x :: l,n+1=>by have:=bulk_map f enc K h l n; have:=h x; simp only [List.take_succ_cons,List.map_cons,bulkAs,Nat.mul_add]; omega
theorem bodyOf_le (l:List GL):bulkAs ((bodyOf l).map GL.enc)≤64+16 * bulkAs (l.map GL.enc):=by
 unfold bodyOf
 split
 ·have h:=litOf_le lit0
  have h2:lit0.size=4:=by rw [gl_size]; rfl
  have h3:bulkAs ([litOf lit0].map GL.enc)=(litOf lit0).size:=by simp only [List.map_cons,List.map_nil,bulkAs,GL.size]; omega
  rw [h3]; omega
 ·have:=bulk_map litOf GL.enc 16 litOf_le l 8
  omega
theorem sizes_set (l:List GT) (n:Nat) (v:GT):GT.sizes (l.set n v)≤GT.sizes l+v.size:=by
 induction l generalizing n with
 | nil=>simp [GT.sizes]
 | cons x l ih=>
  cases n with
  | zero=>simp only [List.set_cons_zero,GT.sizes]; omega
  | succ n=>have:=ih n; simp only [List.set_cons_succ,GT.sizes]; omega
theorem ruleOf_le (r:GR):(ruleOf r).size≤40 * r.size:=by
 have h0:=gr_size r
 have h1:=argsOf_le r.args
 have h2:=relOf_le r.label
 have h3:=relOf_le r.head
 have h4:=bodyOf_le r.body
 have h5:=varOf_le r.agg
 have h6:(aggOf (pickN r.pos 3)).size≤5:=by unfold aggOf; (repeat' split) <;> decide
 have h7:=sizes_set (argsOf r.args) (posOf r) (.mk 1 (varOf r.agg) nilV [])
 have h8:(GT.mk 1 (varOf r.agg) nilV []).size≤24:=by simp only [GT.size,GT.sizes,nilV,GV.size,GV.sizes]; show _+(0+0+5)+0+3≤_; omega
 rw [gr_size]
 unfold ruleOf
 split
 ·simp only; omega
 ·simp only; show _+_+_+0+_+7≤_; omega
theorem tupOf_le (t:GU):(tupOf t).size≤40 * t.size:=by
 have h1:=relOf_le t.name
 have h2:=sizesV_map fit fit_le t.args 7
 have h3:=gu_size t
 rw [gu_size]
 simp only [tupOf,GV.sizes,GV.size]
 show _+(1+0+5+_)+3≤_; omega
theorem declOf_le (d:GD):(declOf d).size≤40 * d.size:=by
 have h1:=relOf_le d.name
 have h3:=gd_size d
 rw [gd_size]; simp only [declOf]; omega
theorem gp_size (p:GP):p.size=bulkAs (p.decls.map GD.enc)+bulkAs (p.facts.map GU.enc)+bulkAs (p.rules.map GR.enc)+4:=by simp only [GP.size,GP.enc,bulkA,bulkAs]; omega
theorem progOf_le (p:GP):(progOf p).size≤40 * p.size:=by
 have h1:=bulk_map declOf GD.enc 40 declOf_le p.decls 64
 have h2:=bulk_map tupOf GU.enc 40 tupOf_le p.facts 64
 have h3:=bulk_map ruleOf GR.enc 40 ruleOf_le p.rules 64
 have h4:=gp_size p
 rw [gp_size]; simp only [progOf]; omega
end Go.Proofs.YtjfgjnlocadpbaaGreatDoor
end
section
namespace Go.Mach
def ACode.fst:ACode→ACode | .seq a _=>a | c=>c
def ACode.snd:ACode→ACode | .seq _ b=>b | c=>c
def ACode.inn:ACode→ACode | .block _ c=>c | .loop c=>c | c=>c
end Go.Mach
namespace Go.Proofs.YtjfgjnlocadpbaaGreatDoor
open Go.Mach
def LstA (R:Heap) (off:Nat) (es:List AV) (sz:Nat) (x:AV):Prop:=(es=[]∧x=.isl [] true)∨∃ k,x=.own (k+off) es∧R[k]?=some (.tok es.length sz)
def LstB (es:List AV) (x:AV):Prop:=(es=[]∧x=.isl [] true)∨∃ k,x=.own k es
theorem LstA.b {R:Heap} {off sz:Nat} {es:List AV} {x:AV} (h:LstA R off es sz x):LstB es x:=by
 rcases h with h | ⟨k,h,_⟩
 ·exact .inl h
 ·exact .inr ⟨_,h⟩
theorem LstB.close {σ:Heap} {es:List AV} {x:AV} (h:LstB es x):close1 σ x=some (.isl es false,σ):=by
 rcases h with ⟨rfl,rfl⟩ | ⟨k,rfl⟩
 ·rfl
 ·rfl
theorem LstA.more {R:Heap} {off sz:Nat} {es:List AV} {x:AV} (h:LstA R off es sz x) (S:Heap):LstA (R++S) off es sz x:=by
 rcases h with h | ⟨k,h1,h2⟩
 ·exact .inl h
 ·exact .inr ⟨k,h1,by rw [zqA (zqI.1 h2).1]; exact h2⟩
theorem LstA.snoc {R T:Heap} {k off sz:Nat} {es:List AV} {v:AV} (hk:k<R.length):LstA (R.set k (.tok (es.length+1) sz)++T) off (es++[v]) sz (.own (k+off) (es++[v])):=
 .inr ⟨k,rfl,by rw [zqA (by simpa using hk)]; simp [hk]⟩
theorem allEl_map {α:Type} (enc:α→AV) (sz:Nat) (h:∀ x,okEl sz true (enc x)=true) (l:List α):(l.map enc).all (okEl sz true)=true:=by
 rw [zqQ]; intro y hy
 obtain ⟨x,_,rfl⟩:=List.mem_map.1 hy; exact h x
theorem take_map {α β:Type} (f:α→β) (l:List α) (i:Nat) (h:i<l.length):(l.take (i+1)).map f=(l.take i).map f++[f l[i]]:=by
 rw [List.take_add_one,zqF h,List.map_append]; rfl
theorem grow {pre R:Heap} {m sz bytes fz:Nat} {ext:Bool} {es:List AV} {x:AV} {cs:List AV} (hx:LstA R pre.length es sz x) (hm:R[m]?=some (.cells cs fz ext)) (hl:cs.length=sz) (hc:cs.all AV.clo1=true) (h0:0<sz) (hb:bytes≤1000) (hes:es.all (okEl sz true)=true) (hn:es.length≤10000000000) :
  ∃ x' R2,appendC (pre++R) sz true bytes false x (.sl (m+pre.length) 0 1 sz true)=some (x',pre++R2)∧LstA R2 pre.length (es++[.agg (cs.map AV.nrm)]) sz x'∧∀ (j:Nat) cs' f e,R[j]?=some (AObj.cells cs' f e)→R2[j]?=some (AObj.cells cs' f e):=by
 have hmσ:(pre++R)[m+pre.length]?=some (.cells cs fz ext):=by rw [zqB (by omega),Nat.add_sub_cancel]; exact hm
 rcases hx with ⟨rfl,rfl⟩ | ⟨k,rfl,hk⟩
 ·refine ⟨.own (R.length+pre.length) [.agg (cs.map AV.nrm)],R++[.tok 1 sz],?_,.inr ⟨R.length,rfl,by simp⟩,fun j cs' f e hj=>by rw [zqA (zqI.1 hj).1]; exact hj⟩
  rw [appendC_clo hmσ hc,closeS_isl]
  refine app_ag hmσ hl hc h0 hb ?_
  simp [Nat.add_comm]
 ·have hkl:k<R.length:=(zqI.1 hk).1
  refine ⟨.own (k+pre.length) (es++[.agg (cs.map AV.nrm)]),R.set k (.tok (es.length+1) sz),?_,.inr ⟨k,rfl,by simp [hkl]⟩,fun j cs' f e hj=>?_⟩
  ·rw [appendC_clo hmσ hc,closeS_own]
   refine app_ag hmσ hl hc h0 hb ?_
   rw [app1_own hes hn (by rw [zqB (by omega),Nat.add_sub_cancel]; exact hk)]
   rw [List.set_append_right _ _ (by omega),Nat.add_sub_cancel]
  ·have:k≠j:=fun e=>by subst e; rw [hk] at hj; cases hj
   rw [List.getElem?_set,if_neg this]; exact hj
theorem growC {pre R R1:Heap} {m sz bytes fz fz1:Nat} {ext ext1:Bool} {es:List AV} {x:AV} {cs ys:List AV} (hx:LstA R pre.length es sz x) (hm:R[m]?=some (.cells cs fz ext)) (hl:ys.length=sz) (hcn:cs.all AV.clo1=false) (hcl:closeL (pre++R) cs=some (ys,pre++R1)) (hm1:R1[m]?=some (.cells cs fz1 ext1))
  (hlc:cs.length=ys.length) (hc:ys.all AV.clo1=true) (htok:∀ (k n s:Nat),R[k]?=some (AObj.tok n s)→R1[k]?=some (AObj.tok n s)) (hRl:R1.length=R.length) (h0:0<sz) (hb:bytes≤1000) (hes:es.all (okEl sz true)=true) (hn:es.length≤10000000000) :
  ∃ x' R2,appendC (pre++R) sz true bytes false x (.sl (m+pre.length) 0 1 sz true)=some (x',pre++R2)∧LstA R2 pre.length (es++[.agg (ys.map AV.nrm)]) sz x':=by
 have hmσ:(pre++R)[m+pre.length]?=some (.cells cs fz ext):=by rw [zqB (by omega),Nat.add_sub_cancel]; exact hm
 have hm1σ:(pre++R1)[m+pre.length]?=some (.cells cs fz1 ext1):=by rw [zqB (by omega),Nat.add_sub_cancel]; exact hm1
 have hset:(pre++R1).set (m+pre.length) (.cells ys fz1 ext1)=pre++R1.set m (.cells ys fz1 ext1):=by rw [List.set_append_right _ _ (by omega),Nat.add_sub_cancel]
 have hml:m<R1.length:=(zqI.1 hm1).1
 rcases hx with ⟨rfl,rfl⟩ | ⟨k,rfl,hk⟩
 ·refine ⟨.own (R.length+pre.length) [.agg (ys.map AV.nrm)],R1.set m (.cells ys fz1 ext1)++[.tok 1 sz],?_,.inr ⟨R.length,rfl,by rw [←hRl]; simp⟩⟩
  refine appendC_close hmσ hcn hcl hm1σ hlc hc hl h0 hb ?_
  rw [hset]
  simp [Nat.add_comm,hRl]
 ·have hk1:=htok _ _ _ hk
  have hkl:k<R1.length:=(zqI.1 hk1).1
  have hkm:m≠k:=fun e=>by subst e; rw [hk] at hm; cases hm
  refine ⟨.own (k+pre.length) (es++[.agg (ys.map AV.nrm)]),(R1.set m (.cells ys fz1 ext1)).set k (.tok (es.length+1) sz),?_,.inr ⟨k,rfl,by simp [hkl]⟩⟩
  refine appendC_close hmσ hcn hcl hm1σ hlc hc hl h0 hb ?_
  rw [hset,app1_own hes hn (by rw [zqB (by omega),Nat.add_sub_cancel,List.getElem?_set,if_neg hkm]; exact hk1)]
  rw [List.set_append_right _ _ (by omega),Nat.add_sub_cancel]
theorem frz_app {pre R:Heap} {k n:Nat}:frz (pre++R) (k+pre.length) n=pre++frz R k n:=by
 have e:(pre++R)[k+pre.length]?=R[k]?:=by rw [zqB (by omega),Nat.add_sub_cancel]
 unfold frz
 rw [e]
 split
 ·rw [List.set_append_right _ _ (by omega),Nat.add_sub_cancel]
 ·rfl
theorem frz_tok {R:Heap} {j m:Nat} {k n s:Nat} (h:R[k]?=some (.tok n s)):(frz R j m)[k]?=some (.tok n s):=by
 unfold frz
 split
 ·rename_i hj
  have:j≠k:=fun e=>by subst e; rw [h] at hj; cases hj
  rw [List.getElem?_set,if_neg this]; exact h
 ·exact h
theorem frz_len {R:Heap} {j m:Nat}:(frz R j m).length=R.length:=by unfold frz; split <;> simp
theorem LstA.cell {R:Heap} {off sz:Nat} {es:List AV} {x:AV} (h:LstA R off es sz x):x.solid=true∧x.cells=[x]:=by
 rcases h with ⟨_,rfl⟩ | ⟨k,rfl,_⟩ <;> exact ⟨rfl,rfl⟩
def fitP (p:GP) (xd xu xr:AV) (R:Heap):Heap:=.cells [.isl (p.decls.map GD.enc) false,.isl (p.facts.map GU.enc) false,.isl (p.rules.map GR.enc) false] 0 false :: .cells [.isl [] true,.isl [] true,.isl [] true] 0 false :: .cells [xd,xu,xr] 0 false :: R
theorem fit1 (p:GP) (hp:p.ok) (hs:p.size≤1048576) (K:List Fr) (Q:AExit→FR→Heap→Prop) (f:FR) (σ:Heap) (h1:f 1=.ptr 0 0) (h2:f 2=.ptr 1 0) (h3:f 3=.ptr 2 0) (hσ:σ=fitP p (.isl [] true) (.isl [] true) (.isl [] true) [])
  (hk:∀ f σ,f 1=.ptr 0 0→f 2=.ptr 1 0→f 3=.ptr 2 0→(∃ xd R,σ=fitP p xd (.isl [] true) (.isl [] true) R∧LstB (((p.decls.take 64).map declOf).map GD.enc) xd)→wpK T 0 202 K f σ Q) :
  wpK T 0 202 (.code c15.body.snd.snd.fst :: K) f σ Q:=by
 subst hσ
 have hl:=p.decls_len
 have hm:=fun y hy=>p.decls_mem (y:=y) hy
 have hok:∀ d∈p.decls,GV.i64ok d.arity:=fun d hd=>(hp.1 d hd)
 simp [c15,ACode.fst,ACode.snd,fitP]
 refine W_for T 0 202 (min p.decls.length 64) (fun i f σ=>f 1=.ptr 0 0∧f 2=.ptr 1 0∧f 3=.ptr 2 0∧f 4=.int .i64 (i:Int)∧∃ xd R,σ=fitP p xd (.isl [] true) (.isl [] true) R∧LstA R 3 (((p.decls.take i).map declOf).map GD.enc) 2 xd) ?_ _ _ ?_
 rotate_left 1
 ·exact ⟨by simp [h1],by simp [h2],by simp [h3],by simp,_,_,rfl,.inl ⟨by simp,rfl⟩⟩
 clear h1 h2 h3
 rintro i f σ hi ⟨h1,h2,h3,h4,xd,R,rfl,hx⟩
 by_cases hlt:i<min p.decls.length 64
 ·have c1:i<p.decls.length:=by omega
  have c2:(i:Int)<64:=by omega
  have hmem:=zqT c1
  have hsz:=hm _ hmem
  have hn:=GD.name_le p.decls[i]
  have hlw:IntKind.i64.wrap ((i:Int)+1)=(i:Int)+1:=wr64 (by omega) (by omega)
  have hr:=lawRel p.decls[i].name (by omega)
  have hq:=pickQ p.decls[i].arity 8 (by omega) (hok _ hmem)
  have hql:=pickN_lt (c:=p.decls[i].arity) (n:=8) (by omega)
  have hw2:IntKind.i64.wrap (1+(pickN p.decls[i].arity 8:Int))=1+(pickN p.decls[i].arity 8:Int):=wr64 (by omega) (by omega)
  have he:declOf p.decls[i]=⟨relOf p.decls[i].name,1+(pickN p.decls[i].arity 8:Int)⟩:=rfl
  rw [take_map declOf _ _ c1,List.map_append]
  have hall:=allEl_map GD.enc 2 (fun x=>rfl) ((p.decls.take i).map declOf)
  have hlen:(((p.decls.take i).map declOf).map GD.enc).length=i:=by simp; omega
  have hnil:i=0→((p.decls.take i).map declOf).map GD.enc=[]:=fun h=>by subst h; rfl
  generalize hES:((p.decls.take i).map declOf).map GD.enc=es at *
  have hq:∀ bs σ,callT T 31 [.int .i64 p.decls[i].arity,.int .i64 8] bs σ=some (.int .i64 (pickN p.decls[i].arity 8:Int),σ):=hq
  rcases hx with ⟨h0,rfl⟩ | ⟨k,rfl,hk2⟩
  ·subst h0
   simp [fitP,h1,h2,h3,h4,c1,c2,hr,hq,hw2,hlw,setRun]
   exact ⟨hlt,_,_,⟨rfl,rfl⟩,.inr ⟨R.length+1,rfl,by simp⟩⟩
  ·have hkl:k<R.length:=(zqI.1 hk2).1
   have hne:i≤10000000000:=by omega
   simp [fitP,h1,h2,h3,h4,c1,c2,hr,hq,hw2,hlw,setRun,hk2,hall,hlen,hne,zqA hkl,List.set_append_left _ _ hkl]
   have:=LstA.snoc (T:=[AObj.cells [AV.str (relOf p.decls[i].name),AV.int IntKind.i64 (1+(pickN p.decls[i].arity 8:Int))] 0 false]) (off:=3) (sz:=2) (es:=es) (v:=(declOf p.decls[i]).enc) hkl
   rw [hlen] at this
   exact ⟨hlt,_,_,⟨rfl,rfl⟩,this⟩
 ·have c1:¬ (i<p.decls.length∧(i:Int)<64):=by omega
  have hfin:(p.decls.take i)=p.decls.take 64:=by
   have:i=min p.decls.length 64:=by omega
   rw [this]; simp [List.take_eq_take_iff,Nat.min_comm]
  rw [hfin] at hx
  by_cases d1:i<p.decls.length
  ·have d2:¬ ((i:Int)<64):=fun h=>c1 ⟨d1,h⟩
   simp [fitP,h1,h4,d1,d2]
   exact hk _ _ (by simp [h1]) (by simp [h2]) (by simp [h3]) ⟨_,_,rfl,hx.b⟩
  ·simp [fitP,h1,h4,d1]
   exact hk _ _ (by simp [h1]) (by simp [h2]) (by simp [h3]) ⟨_,_,rfl,hx.b⟩
def arr0 (b:Bool) (fz:Nat):AObj:=.cells [.int .i64 3,.int .i64 0,.str ⟨#[97]⟩,.isl [] b] fz false
def TupY (A:AObj) (R2:Heap) (off:Nat) (l:List GV) (y:AV):Prop:=
 (l=[]∧y=.sl off 0 1 4 true∧A=arr0 true 0)∨((l≠[]∧A=arr0 false 0)∧∃ k,y=.own (k+(off+2)) (GV.encs (.mk 3 0 ⟨#[97]⟩ [] :: l))∧R2[k]?=some (.tok (l.length+1) 4))
theorem TupY.close {pre R2:Heap} {A T:AObj} {off:Nat} {l:List GV} {y:AV} (h:TupY A R2 off l y) (ho:pre.length=off) (R':Heap):∃ A1,close1 (pre++(A :: T :: R')) y=some (.isl (GV.encs (.mk 3 0 ⟨#[97]⟩ [] :: l)) false,pre++(A1 :: T :: R'))∧∃ cs f e,A1=.cells cs f e∨A1=A:=by
 subst ho
 rcases h with ⟨rfl,rfl,rfl⟩ | ⟨hl,k,rfl,hk⟩
 ·refine ⟨arr0 true 4,close1_of0 ?_,_,_,_,.inl rfl⟩
  have e:(pre++(arr0 true 0 :: T :: R'))[pre.length]?=some (arr0 true 0):=by simp
  have e2:frz (pre++(arr0 true 0 :: T :: R')) pre.length 4=pre++(arr0 true 4 :: T :: R'):=by
   unfold frz; rw [e]; simp [arr0]
  simp [close0,e,arr0,window,chunk,mk,AV.clo1,GV.encs,GV.enc,AV.nrm]
  exact e2
 ·exact ⟨A,rfl,[],0,false,.inr rfl⟩
theorem gvs_len (l:List GV):(GV.encs l).length=l.length:=GV.encs_length l
theorem TupY.cell {A:AObj} {R2:Heap} {off:Nat} {l:List GV} {y:AV} (h:TupY A R2 off l y):y.solid=true∧y.cells=[y]:=by
 rcases h with ⟨_,rfl,_⟩ | ⟨_,k,rfl,_⟩ <;> exact ⟨rfl,rfl⟩
theorem TupY.notok {A:AObj} {R2:Heap} {off:Nat} {l:List GV} {y:AV} (h:TupY A R2 off l y) (n s:Nat):¬ A=.tok n s:=by
 rcases h with ⟨_,_,rfl⟩ | ⟨⟨_,rfl⟩,_⟩ <;> (intro e; cases e)
theorem TupY.clo1f {A:AObj} {R2:Heap} {off:Nat} {l:List GV} {y:AV} (h:TupY A R2 off l y):y.clo1=false:=by
 rcases h with ⟨_,rfl,_⟩ | ⟨_,k,rfl,_⟩ <;> rfl
theorem TupY.grow {a b c T:AObj} {R R2:Heap} {A:AObj} {l:List GV} {y:AV} {v:GV} (h:TupY A R2 (R.length+3) l y) (hl:l.length≤100) :
  ∃ y' R3,appendC (a :: b :: c :: (R++(A :: T :: (R2++[.cells v.enc.cells 0 false])))) 4 true 56 false y (.sl (R.length+(R2.length+1+1)+1+1+1) 0 1 4 true)=some (y',a :: b :: c :: (R++(arr0 false 0 :: T :: R3)))∧TupY (arr0 false 0) R3 (R.length+3) (l++[v]) y':=by
 have hvn:v.enc.cells.map AV.nrm=v.enc.cells:=by simp [AV.nrm]
 have hvc:v.enc.cells.all AV.clo1=true:=by simp [AV.clo1]
 rcases h with ⟨rfl,rfl,rfl⟩ | ⟨hne,k,rfl,hk⟩
 ·have hid:(a :: b :: c :: (R++(arr0 true 0 :: T :: (R2++[AObj.cells v.enc.cells 0 false]))))[R.length+3]?=some (.cells [.int .i64 3,.int .i64 0,.str ⟨#[97]⟩,.isl [] true] 0 false):=by simp [arr0]
  have hj:(a :: b :: c :: (R++(arr0 true 0 :: T :: (R2++[AObj.cells v.enc.cells 0 false]))))[R.length+(R2.length+1+1)+1+1+1]?=some (.cells v.enc.cells 0 false):=by simp
  have:=app_slC (sz:=4) (bytes:=56) hid hj (show R.length+3≠R.length+(R2.length+1+1)+1+1+1 by omega) rfl (by simp) rfl hvc (by omega) (by omega)
  rw [this,hvn]
  have hcs:closeS (a :: b :: c :: (R++(arr0 true 0 :: T :: (R2++[AObj.cells v.enc.cells 0 false])))) (.sl (R.length+3) 0 1 4 true)=a :: b :: c :: (R++(arr0 false 0 :: T :: (R2++[AObj.cells v.enc.cells 0 false]))):=by
   unfold closeS
   simp only [hid]
   simp [AV.tidy,AV.clo1,arr0,AV.nrm]
  rw [hcs]
  refine ⟨_,R2++[.cells v.enc.cells 0 false,.tok 2 4],by simp; rfl,.inr ⟨⟨by simp,rfl⟩,R2.length+1,?_,by simp⟩⟩
  simp [GV.encs,GV.enc,AV.nrm]
  omega
 ·obtain ⟨hne,rfl⟩:=hne
  have hx:LstA (R2++[AObj.cells v.enc.cells 0 false]) (a :: b :: c :: (R++[arr0 false 0,T])).length (GV.encs (.mk 3 0 ⟨#[97]⟩ [] :: l)) 4 (.own (k+(R.length+3+2)) (GV.encs (.mk 3 0 ⟨#[97]⟩ [] :: l))):=by
   refine .inr ⟨k,by simp,?_⟩
   rw [zqA (zqI.1 hk).1,hk,gvs_len]; rfl
  obtain ⟨x',R3,h1,h2,_⟩:=Go.Proofs.YtjfgjnlocadpbaaGreatDoor.grow (bytes:=56) (m:=R2.length) (cs:=v.enc.cells) (fz:=0) (ext:=false) hx (by simp) (by simp) hvc (by omega) (by omega) (encs_okEl _) (by rw [gvs_len]; simp; omega)
  rw [hvn] at h2
  refine ⟨x',R3,?_,?_⟩
  ·have e0:∀ S:Heap,(a :: b :: c :: (R++[arr0 false 0,T]))++S=a :: b :: c :: (R++(arr0 false 0 :: T :: S)):=fun S=>by simp
   have e:R2.length+(a :: b :: c :: (R++[arr0 false 0,T])).length=R.length+(R2.length+1+1)+1+1+1:=by simp; omega
   rw [e0,e0,e] at h1
   exact h1
  ·rcases h2 with ⟨h2,_⟩ | ⟨k',h2,h3⟩
   ·cases (List.append_eq_nil_iff.1 h2).2
   ·refine .inr ⟨⟨by simp,rfl⟩,k',?_,?_⟩
    ·rw [h2]
     have e2:AV.agg v.enc.cells=v.enc:=by rw [GV.enc_cells]; exact (GV.enc_eq v).symm
     have e3:GV.encs (.mk 3 0 ⟨#[97]⟩ [] :: l)++[AV.agg v.enc.cells]=GV.encs (.mk 3 0 ⟨#[97]⟩ [] :: (l++[v])):=by
      rw [e2]; simp only [GV.encs_map,List.map_append,List.map_cons,List.map_nil,List.cons_append]
     rw [e3]; simp
    ·rw [h3]; simp [gvs_len]
end Go.Proofs.YtjfgjnlocadpbaaGreatDoor
end
section
namespace Go.Proofs.YtjfgjnlocadpbaaGreatDoor
open Go.Mach
theorem take_min {α:Type} (l:List α) (i n:Nat) (h:i=min l.length n):l.take i=l.take n:=by
 rw [h]; simp [List.take_eq_take_iff,Nat.min_comm]
theorem fit2in (p:GP) (hs:p.size≤1048576) (i:Nat) (hi:i<p.facts.length) (ho:(p.facts[i]).ok) (nm:ByteArray) (xd xu:AV) (R:Heap) (K:List Fr) (Q:AExit→FR→Heap→Prop) (f:FR) (σ:Heap)
  (h1:f 1=.ptr 0 0) (h2:f 2=.ptr 1 0) (h3:f 3=.ptr 2 0) (h5:f 5=.int .i64 (i:Int)) (h6:f 6=.ptr (R.length+4) 0) (hσ:σ=fitP p xd xu (.isl [] true) (R++[arr0 true 0,.cells [.str nm,.sl (R.length+3) 0 1 4 true] 0 false]))
  (hk:∀ f σ,f 1=.ptr 0 0→f 2=.ptr 1 0→f 3=.ptr 2 0→f 5=.int .i64 (i:Int)→f 6=.ptr (R.length+4) 0 →
   (∃ y A R2,σ=fitP p xd xu (.isl [] true) (R++(A :: .cells [.str nm,y] 0 false :: R2))∧TupY A R2 (R.length+3) (((p.facts[i]).args.take 7).map fit) y)→wpK T 0 202 K f σ Q) :
  wpK T 0 202 (.code c15.body.snd.snd.snd.fst.snd.inn.inn.snd.fst.inn.snd.fst :: K) f σ Q:=by
 subst hσ
 have hl:=p.facts_len
 have hm:=p.facts_mem (zqT hi)
 have hal:=GU.args_le p.facts[i]
 have e1:p.facts[i]?=some p.facts[i]:=zqF hi
 generalize hu:p.facts[i]=u at *
 have hlen:=len_sizes u.args
 simp [c15,ACode.fst,ACode.snd,ACode.inn,fitP]
 refine W_for T 0 202 (min u.args.length 7) (fun j f σ=>f 1=.ptr 0 0∧f 2=.ptr 1 0∧f 3=.ptr 2 0∧f 5=.int .i64 (i:Int)∧f 6=.ptr (R.length+4) 0∧f 7=.int .i64 (j:Int) ∧
  ∃ y A R2,σ=fitP p xd xu (.isl [] true) (R++(A :: .cells [.str nm,y] 0 false :: R2))∧TupY A R2 (R.length+3) ((u.args.take j).map fit) y) ?_ _ _ ?_
 rotate_left 1
 ·exact ⟨by simp [h1],by simp [h2],by simp [h3],by simp [h5],by simp [h6],by simp,_,_,[],rfl,.inl ⟨by simp,rfl,rfl⟩⟩
 clear h1 h2 h3 h5 h6
 rintro j f σ hj ⟨h1,h2,h3,h5,h6,h7,y,A,R2,rfl,hy⟩
 by_cases hlt:j<min u.args.length 7
 ·have c1:j<u.args.length:=by omega
  have c2:(j:Int)<7:=by omega
  have hvo:GV.ok u.args[j]:=(GV.oks_iff _).1 ho _ (zqT c1)
  have hvs:=(sizes_mem (zqT c1)).1
  have hf:=callFit u.args[j] hvo (by omega)
  have hlw:IntKind.i64.wrap ((j:Int)+1)=(j:Int)+1:=wr64 (by omega) (by omega)
  rw [take_map fit _ _ c1]
  obtain ⟨y',R3,ha,hy'⟩:=hy.grow (v:=fit u.args[j]) (T:=.cells [.str nm,y] 0 false) (a:=.cells [.isl (p.decls.map GD.enc) false,.isl (p.facts.map GU.enc) false,.isl (p.rules.map GR.enc) false] 0 false) (b:=.cells [.isl [] true,.isl [] true,.isl [] true] 0 false) (c:=.cells [xd,xu,.isl [] true] 0 false) (by simp; omega)
  generalize (u.args.take j).map fit=done at *
  obtain ⟨s1,s2⟩:=hy'.cell
  simp [←GV.enc_eq] at ha
  simp [fitP,h1,h2,h3,h5,h6,h7,hi,e1,hu,c1,c2,hf,hlw,setRun,←GV.enc_eq,ha,s1,s2]
  exact ⟨hlt,y',_,R3,⟨rfl,rfl,rfl⟩,hy'⟩
 ·have c1:¬ (j<u.args.length∧(j:Int)<7):=by omega
  rw [take_min u.args j 7 (by omega)] at hy
  by_cases d1:j<u.args.length
  ·have d2:¬ ((j:Int)<7):=fun h=>c1 ⟨d1,h⟩
   simp [fitP,h1,h2,h3,h5,h6,h7,hi,e1,hu,d1,d2]
   exact hk _ _ (by simp [h1]) (by simp [h2]) (by simp [h3]) (by simp [h5]) (by simp [h6]) ⟨_,_,_,rfl,hy⟩
  ·simp [fitP,h1,h2,h3,h5,h6,h7,hi,e1,hu,d1]
   exact hk _ _ (by simp [h1]) (by simp [h2]) (by simp [h3]) (by simp [h5]) (by simp [h6]) ⟨_,_,_,rfl,hy⟩
theorem gu_okEl (x:GU):okEl 2 true x.enc=true:=rfl
theorem fit2 (p:GP) (hp:p.ok) (hs:p.size≤1048576) (xd:AV) (R0:Heap) (K:List Fr) (Q:AExit→FR→Heap→Prop) (f:FR) (σ:Heap) (h1:f 1=.ptr 0 0) (h2:f 2=.ptr 1 0) (h3:f 3=.ptr 2 0) (hσ:σ=fitP p xd (.isl [] true) (.isl [] true) R0)
  (hk:∀ f σ,f 1=.ptr 0 0→f 2=.ptr 1 0→f 3=.ptr 2 0→(∃ xu R,σ=fitP p xd xu (.isl [] true) R∧LstB (((p.facts.take 64).map tupOf).map GU.enc) xu)→wpK T 0 202 K f σ Q) :
  wpK T 0 202 (.code c15.body.snd.snd.snd.fst :: K) f σ Q:=by
 subst hσ
 have hl:=p.facts_len
 have hin:=fit2in p hs
 have hcode:∃ c,c=c15.body.snd.snd.snd.fst.snd.inn.inn.snd.fst.inn.snd.fst:=⟨_,rfl⟩
 obtain ⟨c,hc⟩:=hcode
 simp only [←hc] at hin
 have hL:c15.body.snd.snd.snd.fst=.seq c15.body.snd.snd.snd.fst.fst (.block 2 (.loop (.seq c15.body.snd.snd.snd.fst.snd.inn.inn.fst (.seq (.block 3 (.seq c15.body.snd.snd.snd.fst.snd.inn.inn.snd.fst.inn.fst (.seq c c15.body.snd.snd.snd.fst.snd.inn.inn.snd.fst.inn.snd.snd))) c15.body.snd.snd.snd.fst.snd.inn.inn.snd.snd)))):=by rw [hc]; rfl
 rw [hL]
 clear hL hc
 simp [c15,ACode.fst,ACode.snd,ACode.inn,fitP]
 refine W_for T 0 202 (min p.facts.length 64) (fun i f σ=>f 1=.ptr 0 0∧f 2=.ptr 1 0∧f 3=.ptr 2 0∧f 5=.int .i64 (i:Int)∧∃ xu R,σ=fitP p xd xu (.isl [] true) R∧LstA R 3 (((p.facts.take i).map tupOf).map GU.enc) 2 xu) ?_ _ _ ?_
 rotate_left 1
 ·exact ⟨by simp [h1],by simp [h2],by simp [h3],by simp,_,_,rfl,.inl ⟨by simp,rfl⟩⟩
 clear h1 h2 h3
 rintro i f σ hi ⟨h1,h2,h3,h5,xu,R,rfl,hx⟩
 by_cases hlt:i<min p.facts.length 64
 ·have c1:i<p.facts.length:=by omega
  have c2:(i:Int)<64:=by omega
  have hmem:=zqT c1
  have hsz:=p.facts_mem hmem
  have hn:=GU.name_le p.facts[i]
  have hlw:IntKind.i64.wrap ((i:Int)+1)=(i:Int)+1:=wr64 (by omega) (by omega)
  have hr:=lawRel p.facts[i].name (by omega)
  have e1:p.facts[i]?=some p.facts[i]:=zqF c1
  have hin:=hin i c1 (hp.2.1 _ hmem) (relOf p.facts[i].name) xd xu R
  rw [take_map tupOf _ _ c1,List.map_append]
  have hall:=allEl_map GU.enc 2 gu_okEl ((p.facts.take i).map tupOf)
  have hlen:(((p.facts.take i).map tupOf).map GU.enc).length=i:=by simp; omega
  generalize hES:((p.facts.take i).map tupOf).map GU.enc=es at *
  simp [fitP,h1,h2,h3,h5,c1,c2,e1,hr,setRun]
  refine hin _ _ _ _ (by simp [h1]) (by simp [h2]) (by simp [h3]) (by simp [h5]) (by simp) (by simp [fitP,arr0]) ?_
  clear hin h1 h2 h3 h5
  rintro f σ h1 h2 h3 h5 h6 ⟨y,A,R2,rfl,hy⟩
  obtain ⟨a,ha⟩:∃ a,a=AObj.cells [.isl (p.decls.map GD.enc) false,.isl (p.facts.map GU.enc) false,.isl (p.rules.map GR.enc) false] 0 false:=⟨_,rfl⟩
  obtain ⟨b,hb⟩:∃ b,b=AObj.cells [.isl [] true,.isl [] true,.isl [] true] 0 false:=⟨_,rfl⟩
  obtain ⟨c,hc⟩:∃ c,c=AObj.cells [xd,xu,.isl [] true] 0 false:=⟨_,rfl⟩
  obtain ⟨y1,y2⟩:=hy.cell
  have hyk:=hy.clo1f
  obtain ⟨A1,hcl,hA1⟩:=hy.close (pre:=a :: b :: c :: R) (T:=.cells [.str (relOf p.facts[i].name),y] 0 false) (by simp) (R2++[.cells [.str (relOf p.facts[i].name),y] 0 false])
  obtain ⟨x',R3,hg,hx'⟩:=growC (pre:=[a,b,c]) (R:=R++(A :: .cells [.str (relOf p.facts[i].name),y] 0 false :: (R2++[.cells [.str (relOf p.facts[i].name),y] 0 false])))
   (R1:=R++(A1 :: .cells [.str (relOf p.facts[i].name),y] 0 false :: (R2++[.cells [.str (relOf p.facts[i].name),y] 0 false]))) (m:=R.length+(R2.length+2)) (sz:=2) (bytes:=40) (fz:=0) (fz1:=0) (ext:=false) (ext1:=false)
   (x:=xu) (es:=es) (cs:=[.str (relOf p.facts[i].name),y]) (ys:=[.str (relOf p.facts[i].name),.isl (GV.encs (.mk 3 0 ⟨#[97]⟩ [] :: (p.facts[i].args.take 7).map fit)) false])
   (hx.more _) (by simp) rfl (by simp [hyk]) (by
    simp only [List.cons_append,List.nil_append] at hcl ⊢
    simp [closeL,hcl]) (by simp) rfl (by simp) (by
    intro k n s hk
    rcases Nat.lt_or_ge k R.length with hk2 | hk2
    ·rw [zqA hk2] at hk ⊢; exact hk
    ·rw [zqB hk2] at hk ⊢
     generalize k - R.length=m at *
     match m with
     | 0=>
      simp at hk ⊢
      rcases hA1 with ⟨cs,f,e,h | h⟩
      ·exact absurd hk (hy.notok _ _)
      ·rw [h]; exact hk
     | m+1=>simpa using hk) (by simp) (by omega) (by omega) hall (by rw [hlen]; omega)
  obtain ⟨s1,s2⟩:=hx'.cell
  have hfin:es++[AV.agg ([AV.str (relOf p.facts[i].name),.isl (GV.encs (.mk 3 0 ⟨#[97]⟩ [] :: (p.facts[i].args.take 7).map fit)) false].map AV.nrm)]=es++[(tupOf p.facts[i]).enc]:=rfl
  rw [hfin] at hx'
  subst ha hb hc
  simp [hyk] at hg
  simp [fitP,h1,h2,h3,h5,h6,hlw,setRun,y1,y2,s1,s2,hyk,hg]
  exact ⟨hlt,_,_,⟨rfl,rfl⟩,hx'⟩
 ·have c1:¬ (i<p.facts.length∧(i:Int)<64):=by omega
  rw [take_min p.facts i 64 (by omega)] at hx
  by_cases d1:i<p.facts.length
  ·have d2:¬ ((i:Int)<64):=fun h=>c1 ⟨d1,h⟩
   simp [fitP,h1,h5,d1,d2]
   exact hk _ _ (by simp [h1]) (by simp [h2]) (by simp [h3]) ⟨_,_,rfl,hx.b⟩
  ·simp [fitP,h1,h5,d1]
   exact hk _ _ (by simp [h1]) (by simp [h2]) (by simp [h3]) ⟨_,_,rfl,hx.b⟩
end Go.Proofs.YtjfgjnlocadpbaaGreatDoor
end
section
namespace Go.Proofs.YtjfgjnlocadpbaaGreatDoor
open Go.Mach
theorem chkO_f1 (ρ:Regs) (σ σ':Heap) (x:AX):(chkO ρ σ σ' [x]=some ())=(objOf σ (ev ρ x)=objOf σ' (ev ρ x)):=by
 have:=sameO_iff (objOf σ (ev ρ x)) (objOf σ' (ev ρ x))
 unfold chkO
 simp only [List.all_cons,List.all_nil,Bool.and_true]
 rw [←this]
 split <;> simp_all
theorem grow5 {a b c d e:AObj} {R R2:Heap} {es cs:List AV} {x:AV} {sz bytes:Nat} (hx:LstA R2 (R.length+5) es sz x) (hl:cs.length=sz) (hc:cs.all AV.clo1=true) (h0:0<sz) (hb:bytes≤1000) (hes:es.all (okEl sz true)=true) (hn:es.length≤10000000000) :
  ∃ x' R3,appendC (a :: b :: c :: (R++(d :: e :: (R2++[.cells cs 0 false])))) sz true bytes false x (.sl (R.length+(R2.length+1+1)+1+1+1) 0 1 sz true)=some (x',a :: b :: c :: (R++(d :: e :: R3)))∧LstA R3 (R.length+5) (es++[.agg (cs.map AV.nrm)]) sz x' ∧
   ∀ (j:Nat) cs' f e,R2[j]?=some (AObj.cells cs' f e)→R3[j]?=some (AObj.cells cs' f e):=by
 have hlen:(a :: b :: c :: (R++[d,e])).length=R.length+5:=by simp
 have hx2:=hx.more [AObj.cells cs 0 false]
 rw [←hlen] at hx2
 obtain ⟨x',R3,h1,h2,h3⟩:=grow (bytes:=bytes) (m:=R2.length) (cs:=cs) (fz:=0) (ext:=false) hx2 (by simp) hl hc h0 hb hes hn
 have e0:∀ S:Heap,(a :: b :: c :: (R++[d,e]))++S=a :: b :: c :: (R++(d :: e :: S)):=fun S=>by simp
 have e1:R2.length+(a :: b :: c :: (R++[d,e])).length=R.length+(R2.length+1+1)+1+1+1:=by simp; omega
 rw [e0,e0,e1] at h1
 rw [hlen] at h2
 exact ⟨x',R3,h1,h2,fun j cs' f e hj=>h3 j cs' f e (by rw [zqA (zqI.1 hj).1]; exact hj)⟩
def RuSt (p:GP) (xd xu xr:AV) (R:Heap) (r:GR) (L:List GT) (agg:ByteArray) (pos:Int) (es:List AV) (σ:Heap):Prop:=
 ∃ k cs ext y R2,σ=fitP p xd xu xr (R++(.cells r.enc.cells 0 false :: .cells [.str (relOf r.label),.str (relOf r.head),.sl (k+(R.length+5)) 0 L.length 7 true,.str agg,.int .i64 pos,y] 0 false :: R2)) ∧
  R2[k]?=some (.cells cs 0 ext)∧cs.map AV.nrm=flat (GT.encs L)∧cs.all AV.clo1=true∧LstA R2 (R.length+5) es 3 y
def Fr3 (R:Heap) (i:Nat) (f:FR):Prop:=f 1=.ptr 0 0∧f 2=.ptr 1 0∧f 3=.ptr 2 0∧f 8=.int .i64 (i:Int)∧f 9=.ptr (R.length+3) 0∧f 10=.ptr (R.length+4) 0
abbrev body3:ACode:=c15.body.snd.snd.snd.snd.fst.snd.inn.inn.snd.fst.inn
theorem fit3a (p:GP) (hs:p.size≤1048576) (i:Nat) (hi:i<p.rules.length) (ho:(p.rules[i]).ok) (xd xu xr:AV) (R:Heap) (C:ACode) (K:List Fr) (Q:AExit→FR→Heap→Prop) (f:FR) (σ:Heap)
  (h1:f 1=.ptr 0 0) (h2:f 2=.ptr 1 0) (h3:f 3=.ptr 2 0) (h8:f 8=.int .i64 (i:Int)) (hσ:σ=fitP p xd xu xr R)
  (hk:∀ f σ,Fr3 R i f→RuSt p xd xu xr R p.rules[i] (argsOf (p.rules[i]).args) ⟨#[]⟩ 0 [] σ→wpK T 0 202 (.code C :: K) f σ Q) :
  wpK T 0 202 (.code body3.fst :: .code (.seq body3.snd.fst C) :: K) f σ Q:=by
 subst hσ
 have hm:=p.rules_mem (zqT hi)
 have hal:=GR.args_le p.rules[i]
 have hl1:=GR.label_le p.rules[i]
 have hl2:=GR.head_le p.rules[i]
 have e1:p.rules[i]?=some p.rules[i]:=zqF hi
 generalize hu:p.rules[i]=r at *
 have hr1:=lawRel r.label (by omega)
 have hr2:=lawRel r.head (by omega)
 obtain ⟨hA,hcall⟩:=argsX_at r.args ho.1 (by omega) 0 (fitP p xd xu xr (R++[.cells r.enc.cells 0 false,.cells [.str ⟨#[]⟩,.str ⟨#[]⟩,.isl [] true,.str ⟨#[]⟩,.int .i64 0,.isl [] true] 0 false]))
 obtain ⟨k,cs,rest,ext,hr,hkk,hn,hc⟩:=hA
 rw [hr] at hcall
 simp [fitP] at hcall
 simp [body3,c15,ACode.fst,ACode.snd,ACode.inn,fitP,h1,h2,h3,h8,hi,e1,hu,setRun,hr1,hr2,hcall,chkO_f1,objOf]
 refine hk _ _ ⟨by simp [h1],by simp [h2],by simp [h3],by simp [h8],by simp,by simp⟩ ⟨k,cs,ext,_,rest,?_,hkk,hn,hc,.inl ⟨rfl,rfl⟩⟩
 simp [fitP]
 omega
theorem gl_okEl (x:GL):okEl 3 true x.enc=true:=rfl
theorem fit3b (p:GP) (hs:p.size≤1048576) (i:Nat) (hi:i<p.rules.length) (ho:(p.rules[i]).ok) (xd xu xr:AV) (R:Heap) (L:List GT) (K:List Fr) (Q:AExit→FR→Heap→Prop) (f:FR) (σ:Heap)
  (hf:Fr3 R i f) (hσ:RuSt p xd xu xr R p.rules[i] L ⟨#[]⟩ 0 [] σ)
  (hk:∀ f σ,Fr3 R i f→RuSt p xd xu xr R p.rules[i] L ⟨#[]⟩ 0 ((((p.rules[i]).body.take 8).map litOf).map GL.enc) σ→wpK T 0 202 K f σ Q) :
  wpK T 0 202 (.code body3.snd.snd.fst :: K) f σ Q:=by
 have hm:=p.rules_mem (zqT hi)
 have hbl:=GR.body_len p.rules[i]
 have hbm:=fun y (hy:y∈(p.rules[i]).body)=>(p.rules[i]).body_mem hy
 have e1:p.rules[i]?=some p.rules[i]:=zqF hi
 generalize hu:p.rules[i]=r at *
 obtain ⟨k,cs,ext,y,R2,rfl,hk1,hk2,hk3,hy⟩:=hσ
 obtain ⟨h1,h2,h3,h8,h9,h10⟩:=hf
 simp [body3,c15,ACode.fst,ACode.snd,ACode.inn,fitP]
 refine W_for T 0 202 (min r.body.length 8) (fun j f σ=>Fr3 R i f∧f 11=.int .i64 (j:Int)∧RuSt p xd xu xr R r L ⟨#[]⟩ 0 (((r.body.take j).map litOf).map GL.enc) σ) ?_ _ _ ?_
 rotate_left 1
 ·exact ⟨⟨by simp [h1],by simp [h2],by simp [h3],by simp [h8],by simp [h9],by simp [h10]⟩,by simp,k,cs,ext,y,R2,by simp [fitP],hk1,hk2,hk3,hy⟩
 clear h1 h2 h3 h8 h9 h10 hk1 hk2 hk3 hy
 rintro j f σ hj ⟨⟨h1,h2,h3,h8,h9,h10⟩,h11,k,cs,ext,y,R2,rfl,hk1,hk2,hk3,hy⟩
 by_cases hlt:j<min r.body.length 8
 ·have c1:j<r.body.length:=by omega
  have c2:(j:Int)<8:=by omega
  have hmem:=zqT c1
  have hlo:=ho.2.2 _ hmem
  have hls:=hbm _ hmem
  have hlit:=callLawLit r.body[j] hlo (by omega)
  have hlw:IntKind.i64.wrap ((j:Int)+1)=(j:Int)+1:=wr64 (by omega) (by omega)
  have e2:r.body[j]?=some r.body[j]:=zqF c1
  rw [take_map litOf _ _ c1,List.map_append]
  have hall:=allEl_map GL.enc 3 gl_okEl ((r.body.take j).map litOf)
  have hlen:(((r.body.take j).map litOf).map GL.enc).length=j:=by simp; omega
  generalize hES:((r.body.take j).map litOf).map GL.enc=es at *
  obtain ⟨a,ha⟩:∃ a,a=AObj.cells [.isl (p.decls.map GD.enc) false,.isl (p.facts.map GU.enc) false,.isl (p.rules.map GR.enc) false] 0 false:=⟨_,rfl⟩
  obtain ⟨b,hb⟩:∃ b,b=AObj.cells [.isl [] true,.isl [] true,.isl [] true] 0 false:=⟨_,rfl⟩
  obtain ⟨c,hc⟩:∃ c,c=AObj.cells [xd,xu,xr] 0 false:=⟨_,rfl⟩
  obtain ⟨d,hd⟩:∃ d,d=AObj.cells r.enc.cells 0 false:=⟨_,rfl⟩
  obtain ⟨e,he⟩:∃ e,e=AObj.cells [.str (relOf r.label),.str (relOf r.head),.sl (k+(R.length+5)) 0 L.length 7 true,.str ⟨#[]⟩,.int .i64 0,y] 0 false:=⟨_,rfl⟩
  obtain ⟨x',R3,hg,hx',hpres⟩:=grow5 (a:=a) (b:=b) (c:=c) (d:=d) (e:=e) (R:=R) (R2:=R2) (bytes:=48) (cs:=(litOf r.body[j]).enc.cells) hy (by simp) (by simp [AV.clo1]) (by omega) (by omega) hall (by rw [hlen]; omega)
  obtain ⟨s1,s2⟩:=hx'.cell
  obtain ⟨s3,s4⟩:=hy.cell
  have hfin:es++[AV.agg ((litOf r.body[j]).enc.cells.map AV.nrm)]=es++[(litOf r.body[j]).enc]:=by simp [AV.nrm,←GL.enc_eq]
  rw [hfin] at hx'
  subst ha hb hc hd he
  simp [←GL.enc_eq] at hg
  simp [fitP,h1,h2,h3,h8,h9,h10,h11,hi,e1,e2,hu,c1,c2,hlit,hlw,setRun,s1,s2,s3,s4,←GL.enc_eq,hg]
  exact ⟨hlt,⟨by simp [h1],by simp [h2],by simp [h3],by simp [h8],by simp [h9],by simp [h10]⟩,k,cs,ext,x',R3,by simp [fitP],hpres _ _ _ _ hk1,hk2,hk3,hx'⟩
 ·have c1:¬ (j<r.body.length∧(j:Int)<8):=by omega
  rw [take_min r.body j 8 (by omega)] at hy
  by_cases d1:j<r.body.length
  ·have d2:¬ ((j:Int)<8):=fun h=>c1 ⟨d1,h⟩
   simp [fitP,h1,h2,h3,h8,h9,h10,h11,hi,e1,hu,d1,d2]
   exact hk _ _ ⟨by simp [h1],by simp [h2],by simp [h3],by simp [h8],by simp [h9],by simp [h10]⟩ ⟨k,cs,ext,y,R2,by simp [fitP],hk1,hk2,hk3,hy⟩
  ·simp [fitP,h1,h2,h3,h8,h9,h10,h11,hi,e1,hu,d1]
   exact hk _ _ ⟨by simp [h1],by simp [h2],by simp [h3],by simp [h8],by simp [h9],by simp [h10]⟩ ⟨k,cs,ext,y,R2,by simp [fitP],hk1,hk2,hk3,hy⟩
end Go.Proofs.YtjfgjnlocadpbaaGreatDoor
end
section
namespace Go.Proofs.YtjfgjnlocadpbaaGreatDoor
open Go.Mach
theorem callLit0 (bs:Nat) (σ:Heap):callT T 34 [.agg [.int .i64 0,.str ⟨#[]⟩,.isl [] true]] bs σ=some ((litOf lit0).enc,σ):=
 call_data rfl rfl rfl (lawlit_ok lit0 ⟨by unfold GV.i64ok; simp [lit0],by simp [lit0,GT.oks]⟩ (by rw [gl_size]; decide)) rfl rfl rfl
theorem fit3c (p:GP) (i:Nat) (hi:i<p.rules.length) (xd xu xr:AV) (R:Heap) (L:List GT) (K:List Fr) (Q:AExit→FR→Heap→Prop) (f:FR) (σ:Heap)
  (hf:Fr3 R i f) (hσ:RuSt p xd xu xr R p.rules[i] L ⟨#[]⟩ 0 ((((p.rules[i]).body.take 8).map litOf).map GL.enc) σ)
  (hk:∀ f σ,Fr3 R i f→RuSt p xd xu xr R p.rules[i] L ⟨#[]⟩ 0 ((bodyOf (p.rules[i]).body).map GL.enc) σ→wpK T 0 202 K f σ Q) :
  wpK T 0 202 (.code body3.snd.snd.snd.fst :: K) f σ Q:=by
 generalize hu:p.rules[i]=r at *
 obtain ⟨k,cs,ext,y,R2,rfl,hk1,hk2,hk3,hy⟩:=hσ
 obtain ⟨h1,h2,h3,h8,h9,h10⟩:=hf
 by_cases hb:r.body=[]
 ·have hes:(((r.body.take 8).map litOf).map GL.enc)=[]:=by rw [hb]; rfl
  have hbo:(bodyOf r.body).map GL.enc=[(litOf lit0).enc]:=by simp [bodyOf,hb]
  rw [hes] at hy
  rw [hbo] at hk
  rcases hy with ⟨_,rfl⟩ | ⟨k',rfl,hk'⟩
  ·obtain ⟨a,ha⟩:∃ a,a=AObj.cells [.isl (p.decls.map GD.enc) false,.isl (p.facts.map GU.enc) false,.isl (p.rules.map GR.enc) false] 0 false:=⟨_,rfl⟩
   simp [body3,c15,ACode.fst,ACode.snd,ACode.inn,fitP,h1,h2,h3,h8,h9,h10,setRun,callLit0]
   refine hk _ _ ⟨by simp [h1],by simp [h2],by simp [h3],by simp [h8],by simp [h9],by simp [h10]⟩ ⟨k,cs,ext,_,R2++[.cells (litOf lit0).enc.cells 0 false,.tok 1 3],?_,?_,hk2,hk3,.inr ⟨R2.length+1,rfl,by simp⟩⟩
   ·simp [fitP,←GL.enc_eq]
    omega
   ·rw [zqA (zqI.1 hk1).1]; exact hk1
  ·have hy0:LstA R2 (R.length+5) [] 3 (.own (k'+(R.length+5)) []):=.inr ⟨k',rfl,hk'⟩
   obtain ⟨x',R3,hg,hx',hpres⟩:=grow5 (a:=.cells [.isl (p.decls.map GD.enc) false,.isl (p.facts.map GU.enc) false,.isl (p.rules.map GR.enc) false] 0 false) (b:=.cells [.isl [] true,.isl [] true,.isl [] true] 0 false) (c:=.cells [xd,xu,xr] 0 false) (d:=.cells r.enc.cells 0 false)
    (e:=.cells [.str (relOf r.label),.str (relOf r.head),.sl (k+(R.length+5)) 0 L.length 7 true,.str ⟨#[]⟩,.int .i64 0,.own (k'+(R.length+5)) []] 0 false) (R:=R) (R2:=R2) (bytes:=48) (cs:=(litOf lit0).enc.cells) hy0 (by simp) (by simp [AV.clo1]) (by omega) (by omega) rfl (by simp)
   obtain ⟨s1,s2⟩:=hx'.cell
   have hfin:([]:List AV)++[AV.agg ((litOf lit0).enc.cells.map AV.nrm)]=[(litOf lit0).enc]:=by simp [AV.nrm,←GL.enc_eq]
   rw [hfin] at hx'
   simp [←GL.enc_eq] at hg
   simp [body3,c15,ACode.fst,ACode.snd,ACode.inn,fitP,h1,h2,h3,h8,h9,h10,setRun,callLit0,←GL.enc_eq,hg,s1,s2]
   exact hk _ _ ⟨by simp [h1],by simp [h2],by simp [h3],by simp [h8],by simp [h9],by simp [h10]⟩ ⟨k,cs,ext,x',R3,by simp [fitP],hpres _ _ _ _ hk1,hk2,hk3,hx'⟩
 ·have hbo:bodyOf r.body=(r.body.take 8).map litOf:=by simp [bodyOf,hb]
  rw [hbo] at hk
  have hne:(((r.body.take 8).map litOf).map GL.enc)≠[]:=by simp [hb]
  rcases hy with ⟨h0,_⟩ | ⟨k',rfl,hk'⟩
  ·exact absurd h0 hne
  ·have hlen:¬ ((((r.body.take 8).map litOf).map GL.enc).length=0):=fun h=>hne (List.length_eq_zero_iff.1 h)
   generalize ((r.body.take 8).map litOf).map GL.enc=es at *
   simp [body3,c15,ACode.fst,ACode.snd,ACode.inn,fitP,h1,h2,h3,h8,h9,h10,hlen,hne]
   exact hk _ _ ⟨by simp [h1],by simp [h2],by simp [h3],by simp [h8],by simp [h9],by simp [h10]⟩ ⟨k,cs,ext,_,R2,by simp [fitP],hk1,hk2,hk3,.inr ⟨k',rfl,hk'⟩⟩
end Go.Proofs.YtjfgjnlocadpbaaGreatDoor
end
section
namespace Go.Proofs.YtjfgjnlocadpbaaGreatDoor
open Go.Mach
theorem LstA.setc {R:Heap} {off sz k fz:Nat} {ext:Bool} {es cs:List AV} {x:AV} (h:LstA R off es sz x) (hk:R[k]?=some (.cells cs fz ext)) {v:AObj}:LstA (R.set k v) off es sz x:=by
 rcases h with h | ⟨j,h1,h2⟩
 ·exact .inl h
 ·have:k≠j:=fun e=>by subst e; rw [hk] at h2; cases h2
  exact .inr ⟨j,h1,by rw [List.getElem?_set,if_neg this]; exact h2⟩
theorem aggOf_at {q:Nat} (h:q<3):window [AV.str ⟨#[109,105,110]⟩,.str ⟨#[109,97,120]⟩,.str ⟨#[99,111,117,110,116]⟩] q 1=some [.str (aggOf q)]:=by
 have:q=0∨q=1∨q=2:=by omega
 rcases this with rfl | rfl | rfl <;> rfl
theorem setRun_nrm (cs vs:List AV) (o:Nat) (h:o+vs.length≤cs.length):(setRun cs o vs).map AV.nrm=setRun (cs.map AV.nrm) o (vs.map AV.nrm):=by
 rw [setRun_take _ _ _ h,setRun_take _ _ _ (by simpa using h)]
 simp
theorem setRun_clo (cs vs:List AV) (o:Nat) (h:o+vs.length≤cs.length) (hc:cs.all AV.clo1=true) (hv:vs.all AV.clo1=true):(setRun cs o vs).all AV.clo1=true:=by
 rw [setRun_take _ _ _ h,List.all_append,List.all_append,hv]
 rw [zqQ] at hc
 have h1:(cs.take o).all AV.clo1=true:=zqQ.2 fun x hx=>hc x (List.mem_of_mem_take hx)
 have h2:(cs.drop (o+vs.length)).all AV.clo1=true:=zqQ.2 fun x hx=>hc x (List.mem_of_mem_drop hx)
 rw [h1,h2]; rfl
theorem args_setRun {cs:List AV} {L:List GT} {n:Nat} (hn:n<L.length) (hcs:cs.map AV.nrm=flat (GT.encs L)) (v:ByteArray) :
  (setRun cs (n * 7) [.int .i64 1,.str v,.int .i64 0,.int .i64 0,.str ⟨#[]⟩,.isl [] true,.isl [] true]).map AV.nrm=flat (GT.encs (L.set n (.mk 1 v nilV [])))∧n * 7+7≤cs.length:=by
 have hlen:cs.length=L.length * 7:=by
  have:=congrArg List.length hcs
  rw [List.length_map,Go.Mach.flat_len (encsT_len L),GT.encs_length] at this; exact this
 have hle:n * 7+7≤cs.length:=by omega
 refine ⟨?_,hle⟩
 rw [setRun_nrm _ _ _ hle,hcs]
 have h1:=flat_set (s:=7) (v:=(GT.mk 1 v nilV []).enc) (by simp) (es:=GT.encs L) (i:=n) (by rw [GT.encs_length]; exact hn) (encsT_len L)
 have h2:(GT.mk 1 v nilV []).enc.cells=[AV.int .i64 1,.str v,.int .i64 0,.int .i64 0,.str ⟨#[]⟩,.isl [] true,.isl [] true].map AV.nrm:=by
  simp [AV.nrm,GT.enc_cells,GT.kind,GT.name,GT.value,GT.args,nilV,GV.kind,GV.num,GV.text,GV.items]
 rw [h2] at h1
 rw [h1,GT.encs_map,GT.encs_map,List.map_set]
theorem fit3d (p:GP) (hs:p.size≤1048576) (i:Nat) (hi:i<p.rules.length) (ho:(p.rules[i]).ok) (xd xu xr:AV) (R:Heap) (es:List AV) (K:List Fr) (Q:AExit→FR→Heap→Prop) (f:FR) (σ:Heap)
  (hf:Fr3 R i f) (hσ:RuSt p xd xu xr R p.rules[i] (argsOf (p.rules[i]).args) ⟨#[]⟩ 0 es σ)
  (hk:∀ f σ,Fr3 R i f→RuSt p xd xu xr R p.rules[i] (ruleOf p.rules[i]).args (ruleOf p.rules[i]).agg (ruleOf p.rules[i]).pos es σ→wpK T 0 202 K f σ Q) :
  wpK T 0 202 (.code body3.snd.snd.snd.snd.fst :: K) f σ Q:=by
 have hm:=p.rules_mem (zqT hi)
 have hgl:=GR.agg_le p.rules[i]
 generalize hu:p.rules[i]=r at *
 obtain ⟨k,cs,ext,y,R2,rfl,hk1,hk2,hk3,hy⟩:=hσ
 obtain ⟨h1,h2,h3,h8,h9,h10⟩:=hf
 have hq2:∀ bs σ,callT T 31 [.int .i64 r.pos,.int .i64 2] bs σ=some (.int .i64 (pickN r.pos 2:Int),σ):=pickQ r.pos 2 (by omega) ho.2.1
 have hL:=argsOf_len r.args
 obtain ⟨y1,y2⟩:=hy.cell
 by_cases d1:1<(argsOf r.args).length
 ·have d1':(1:Int)<((argsOf r.args).length:Int):=by omega
  by_cases d2:pickN r.pos 2=1
  ·have hag:hasAgg r:=⟨d1,d2⟩
   have hq3:∀ bs σ,callT T 31 [.int .i64 r.pos,.int .i64 3] bs σ=some (.int .i64 (pickN r.pos 3:Int),σ):=pickQ r.pos 3 (by omega) ho.2.1
   have hl3:=pickN_lt (c:=r.pos) (n:=3) (by omega)
   have hql:=pickQ r.pos ((argsOf r.args).length - 1) (by omega) ho.2.1
   have hll:=pickN_lt (c:=r.pos) (n:=(argsOf r.args).length - 1) (by omega)
   have hsub:((argsOf r.args).length:Int) - 1=(((argsOf r.args).length - 1:Nat):Int):=by omega
   have hvar:=lawVar r.agg (by omega)
   have hwin:=aggOf_at hl3
   have hru:(ruleOf r).args=(argsOf r.args).set (posOf r) (.mk 1 (varOf r.agg) nilV [])∧(ruleOf r).agg=aggOf (pickN r.pos 3)∧(ruleOf r).pos=(posOf r:Int):=by simp [ruleOf,hag]
   rw [hru.1,hru.2.1,hru.2.2] at hk
   have hpo:posOf r=1+pickN r.pos ((argsOf r.args).length - 1):=rfl
   have hpl:=posOf_lt hag
   obtain ⟨g1,g2⟩:=args_setRun hpl.2 hk2 (varOf r.agg)
   have g3:=setRun_clo cs [.int .i64 1,.str (varOf r.agg),.int .i64 0,.int .i64 0,.str ⟨#[]⟩,.isl [] true,.isl [] true] (posOf r * 7) (by simpa using g2) hk3 rfl
   have hw1:IntKind.i64.wrap (((argsOf r.args).length:Int) - 1)=(((argsOf r.args).length - 1:Nat):Int):=by rw [hsub]; exact wr64 (by omega) (by omega)
   have hw2:IntKind.i64.wrap (1+(pickN r.pos ((argsOf r.args).length - 1):Int))=(posOf r:Int):=by rw [hpo]; rw [wr64 (by omega) (by omega)]; omega
   have hkl:k<R2.length:=(zqI.1 hk1).1
   have hpl1:(posOf r:Int)<((argsOf r.args).length:Int):=by omega
   have hpl2:((pickN r.pos 3:Nat):Int)<3:=by omega
   generalize posOf r=n at *
   generalize pickN r.pos ((argsOf r.args).length - 1)=m at *
   generalize pickN r.pos 3=q at *
   have hset:(argsOf r.args).length=((argsOf r.args).set n (.mk 1 (varOf r.agg) nilV [])).length:=by simp
   have hget:∀ (a b c d e:AObj) (X:Heap),(a :: b :: c :: (R++d :: e :: (R2++X)))[k+(R.length+5)]?=some (.cells cs 0 ext):=fun a b c d e X=>by
    rw [show k+(R.length+5)=(R.length+(k+2))+3 by omega]
    simp [zqA hkl,hk1]
   have hsetA:∀ (a b c d e v:AObj) (X:Heap),(a :: b :: c :: (R++d :: e :: (R2++X))).set (k+(R.length+5)) v=a :: b :: c :: (R++d :: e :: (R2.set k v++X)):=fun a b c d e v X=>by
    rw [show k+(R.length+5)=(R.length+(k+2))+3 by omega]
    simp [List.set_append_left _ _ hkl]
   simp only [setRun] at g1 g3
   simp only [body3,c15,ACode.fst,ACode.snd,ACode.inn]
   simp [hget,hsetA,fitP,h1,h2,h3,h8,h9,h10,d1,d1',d2,hq2,hq3,hql,hw1,hw2,hl3,hpl2,hpl.2,hpl1,hwin,hvar,g2,setRun,y1,y2]
   refine hk _ _ ⟨by simp [h1],by simp [h2],by simp [h3],by simp [h8],by simp [h9],by simp [h10]⟩ ⟨k,_,ext,y,_,by simp [fitP]; rfl,?_,g1,g3,?_⟩
   ·rw [zqA (by simpa using hkl)]; simp [hkl]
   ·exact (hy.setc hk1).more _
  ·have hag:¬ hasAgg r:=fun h=>d2 h.2
   have hru:(ruleOf r).args=argsOf r.args∧(ruleOf r).agg=⟨#[]⟩∧(ruleOf r).pos=0:=by simp [ruleOf,hag]
   rw [hru.1,hru.2.1,hru.2.2] at hk
   have d3:¬ ((pickN r.pos 2:Nat):Int)=1:=by omega
   simp [body3,c15,ACode.fst,ACode.snd,ACode.inn,fitP,h1,h2,h3,h8,h9,h10,d1,d1',d2,d3,hq2]
   exact hk _ _ ⟨by simp [h1],by simp [h2],by simp [h3],by simp [h8],by simp [h9],by simp [h10]⟩ ⟨k,cs,ext,y,R2,by simp [fitP],hk1,hk2,hk3,hy⟩
 ·have hag:¬ hasAgg r:=fun h=>d1 h.1
  have hru:(ruleOf r).args=argsOf r.args∧(ruleOf r).agg=⟨#[]⟩∧(ruleOf r).pos=0:=by simp [ruleOf,hag]
  rw [hru.1,hru.2.1,hru.2.2] at hk
  have d1':¬ (1:Int)<((argsOf r.args).length:Int):=by omega
  simp [body3,c15,ACode.fst,ACode.snd,ACode.inn,fitP,h1,h2,h3,h8,h9,h10,d1,d1']
  exact hk _ _ ⟨by simp [h1],by simp [h2],by simp [h3],by simp [h8],by simp [h9],by simp [h10]⟩ ⟨k,cs,ext,y,R2,by simp [fitP],hk1,hk2,hk3,hy⟩
theorem fit3e (p:GP) (i:Nat) (hi:i<p.rules.length) (xd xu xr:AV) (R:Heap) (esr:List AV) (hesr:esr.all (okEl 6 true)=true) (hln:esr.length≤1000) (hxr:LstA R 3 esr 6 xr) (K:List Fr) (Q:AExit→FR→Heap→Prop) (f:FR) (σ:Heap)
  (hf:Fr3 R i f) (hσ:RuSt p xd xu xr R p.rules[i] (ruleOf p.rules[i]).args (ruleOf p.rules[i]).agg (ruleOf p.rules[i]).pos ((ruleOf p.rules[i]).body.map GL.enc) σ)
  (hlab:(ruleOf p.rules[i]).label=relOf (p.rules[i]).label∧(ruleOf p.rules[i]).head=relOf (p.rules[i]).head∧(ruleOf p.rules[i]).args≠[])
  (hk:∀ f σ,f 1=.ptr 0 0→f 2=.ptr 1 0→f 3=.ptr 2 0→f 8=.int .i64 (i:Int)→(∃ xr' R',σ=fitP p xd xu xr' R'∧LstA R' 3 (esr++[(ruleOf p.rules[i]).enc]) 6 xr')→wpK T 0 202 K f σ Q) :
  wpK T 0 202 (.code body3.snd.snd.snd.snd.snd :: K) f σ Q:=by
 generalize hu:p.rules[i]=r at *
 generalize hw:ruleOf r=w at *
 obtain ⟨l1,l2,l3⟩:=hlab
 obtain ⟨k,cs,ext,y,R2,rfl,hk1,hk2,hk3,hy⟩:=hσ
 obtain ⟨h1,h2,h3,h8,h9,h10⟩:=hf
 rw [←l1,←l2]
 obtain ⟨a,ha⟩:∃ a,a=AObj.cells [.isl (p.decls.map GD.enc) false,.isl (p.facts.map GU.enc) false,.isl (p.rules.map GR.enc) false] 0 false:=⟨_,rfl⟩
 obtain ⟨b,hb⟩:∃ b,b=AObj.cells [.isl [] true,.isl [] true,.isl [] true] 0 false:=⟨_,rfl⟩
 obtain ⟨c,hc⟩:∃ c,c=AObj.cells [xd,xu,xr] 0 false:=⟨_,rfl⟩
 obtain ⟨d,hd⟩:∃ d,d=AObj.cells r.enc.cells 0 false:=⟨_,rfl⟩
 obtain ⟨e,he⟩:∃ e,e=AObj.cells [.str w.label,.str w.head,.sl (k+(R.length+5)) 0 w.args.length 7 true,.str w.agg,.int .i64 w.pos,y] 0 false:=⟨_,rfl⟩
 obtain ⟨y1,y2⟩:=hy.cell
 have hkl:k<R2.length:=(zqI.1 hk1).1
 have e0:∀ S:Heap,(a :: b :: c :: (R++[d,e]))++S=[a,b,c]++(R++(d :: e :: S)):=fun S=>by simp
 have hl5:(a :: b :: c :: (R++[d,e])).length=R.length+5:=by simp
 have hcl1:=close_terms (σ:=[a,b,c]++(R++(d :: e :: (R2++[AObj.cells [.str w.label,.str w.head,.sl (k+(R.length+5)) 0 w.args.length 7 true,.str w.agg,.int .i64 w.pos,y] 0 false])))) (k:=k+(R.length+5)) (L:=w.args) (cs:=cs) (fz:=0) (ext:=ext)
  (by rw [←e0,←hl5,zqB (by omega),Nat.add_sub_cancel,zqA hkl]; exact hk1) hk2 hk3 l3
 have hfz:frz ([a,b,c]++(R++(d :: e :: (R2++[AObj.cells [.str w.label,.str w.head,.sl (k+(R.length+5)) 0 w.args.length 7 true,.str w.agg,.int .i64 w.pos,y] 0 false])))) (k+(R.length+5)) (0+w.args.length * 7) =
   [a,b,c]++(R++(d :: e :: (frz R2 k (0+w.args.length * 7)++[AObj.cells [.str w.label,.str w.head,.sl (k+(R.length+5)) 0 w.args.length 7 true,.str w.agg,.int .i64 w.pos,y] 0 false]))):=by
  rw [←e0,←e0]
  rw [←hl5]
  rw [frz_app]
  congr 1
  unfold frz
  rw [zqA hkl,hk1]
  simp only
  rw [List.set_append_left _ _ hkl]
 rw [hfz] at hcl1
 have hcly:=fun σ=>hy.b.close (σ:=σ)
 obtain ⟨x',R3,hg,hx'⟩:=growC (pre:=[a,b,c]) (R:=R++(d :: e :: (R2++[AObj.cells [.str w.label,.str w.head,.sl (k+(R.length+5)) 0 w.args.length 7 true,.str w.agg,.int .i64 w.pos,y] 0 false])))
  (R1:=R++(d :: e :: (frz R2 k (0+w.args.length * 7)++[AObj.cells [.str w.label,.str w.head,.sl (k+(R.length+5)) 0 w.args.length 7 true,.str w.agg,.int .i64 w.pos,y] 0 false])))
  (m:=R.length+(R2.length+2)) (sz:=6) (bytes:=104) (fz:=0) (fz1:=0) (ext:=false) (ext1:=false) (x:=xr) (es:=esr)
  (cs:=[.str w.label,.str w.head,.sl (k+(R.length+5)) 0 w.args.length 7 true,.str w.agg,.int .i64 w.pos,y]) (ys:=[.str w.label,.str w.head,.isl (GT.encs w.args) false,.str w.agg,.int .i64 w.pos,.isl (w.body.map GL.enc) false])
  (hxr.more _) (by simp) rfl (by simp) (by
   simp [closeL]
   simp at hcl1
   simp [hcl1,hcly]) (by
   rw [zqB (by omega)]
   have:R.length+(R2.length+2) - R.length=(frz R2 k (0+w.args.length * 7)).length+2:=by rw [frz_len]; omega
   rw [this]; simp) rfl (by simp) (by
   intro k' n s hk'
   rcases Nat.lt_or_ge k' R.length with h | h
   ·rw [zqA h] at hk' ⊢; exact hk'
   ·rw [zqB h] at hk' ⊢
    generalize k' - R.length=m at *
    match m with
    | 0=>simpa using hk'
    | 1=>simpa using hk'
    | m+2=>
     simp only [zqD] at hk' ⊢
     rcases Nat.lt_or_ge m R2.length with h | h
     ·rw [zqA h] at hk'
      rw [zqA (by rw [frz_len]; exact h)]; exact frz_tok hk'
     ·rw [zqB h] at hk'
      rw [zqB (by rw [frz_len]; exact h),frz_len]; exact hk') (by simp [frz_len]) (by omega) (by omega) hesr (by omega)
 obtain ⟨s1,s2⟩:=hx'.cell
 have hfin:esr++[AV.agg ([AV.str w.label,.str w.head,.isl (GT.encs w.args) false,.str w.agg,.int .i64 w.pos,.isl (w.body.map GL.enc) false].map AV.nrm)]=esr++[w.enc]:=rfl
 rw [hfin] at hx'
 subst ha hb hc hd he
 simp at hg
 simp [body3,c15,ACode.fst,ACode.snd,ACode.inn,fitP,h1,h2,h3,h8,h9,h10,setRun,y1,y2,s1,s2,hg]
 exact hk _ _ (by simp [h1]) (by simp [h2]) (by simp [h3]) (by simp [h8]) ⟨x',R3,by simp [fitP],hx'⟩
end Go.Proofs.YtjfgjnlocadpbaaGreatDoor
end
section
namespace Go.Proofs.YtjfgjnlocadpbaaGreatDoor
open Go.Mach
theorem gr_okEl (x:GR):okEl 6 true x.enc=true:=rfl
theorem ruleOf_parts (r:GR):(ruleOf r).label=relOf r.label∧(ruleOf r).head=relOf r.head∧(ruleOf r).args≠[]∧(ruleOf r).body=bodyOf r.body:=by
 have h:=argsOf_len r.args
 unfold ruleOf
 split
 ·exact ⟨rfl,rfl,fun e=>by have:=congrArg List.length e; simp at this; rw [this] at h; simp at h,rfl⟩
 ·exact ⟨rfl,rfl,fun e=>by simp only at e; rw [e] at h; simp at h,rfl⟩
theorem fit3 (p:GP) (hp:p.ok) (hs:p.size≤1048576) (xd xu:AV) (R0:Heap) (K:List Fr) (Q:AExit→FR→Heap→Prop) (f:FR) (σ:Heap) (h1:f 1=.ptr 0 0) (h2:f 2=.ptr 1 0) (h3:f 3=.ptr 2 0) (hσ:σ=fitP p xd xu (.isl [] true) R0)
  (hk:∀ f σ,f 1=.ptr 0 0→f 2=.ptr 1 0→f 3=.ptr 2 0→(∃ xr R,σ=fitP p xd xu xr R∧LstB (((p.rules.take 64).map ruleOf).map GR.enc) xr)→wpK T 0 202 K f σ Q) :
  wpK T 0 202 (.code c15.body.snd.snd.snd.snd.fst :: K) f σ Q:=by
 subst hσ
 have hl:=p.rules_len
 have ha:=fit3a p hs
 have hb:=fit3b p hs
 have hc:=fit3c p
 have hd:=fit3d p hs
 have he:=fit3e p
 obtain ⟨B,hB⟩:∃ B,B=body3:=⟨_,rfl⟩
 have hBs:B=.seq B.fst (.seq B.snd.fst (.seq B.snd.snd.fst (.seq B.snd.snd.snd.fst (.seq B.snd.snd.snd.snd.fst B.snd.snd.snd.snd.snd)))):=by rw [hB]; rfl
 simp only [←hB] at ha hb hc hd he
 have hL:c15.body.snd.snd.snd.snd.fst=.seq c15.body.snd.snd.snd.snd.fst.fst (.block 6 (.loop (.seq c15.body.snd.snd.snd.snd.fst.snd.inn.inn.fst (.seq (.block 7 B) c15.body.snd.snd.snd.snd.fst.snd.inn.inn.snd.snd)))):=by rw [hB]; rfl
 rw [hL]
 clear hL hB
 simp [c15,ACode.fst,ACode.snd,ACode.inn,fitP]
 refine W_for T 0 202 (min p.rules.length 64) (fun i f σ=>f 1=.ptr 0 0∧f 2=.ptr 1 0∧f 3=.ptr 2 0∧f 8=.int .i64 (i:Int)∧∃ xr R,σ=fitP p xd xu xr R∧LstA R 3 (((p.rules.take i).map ruleOf).map GR.enc) 6 xr) ?_ _ _ ?_
 rotate_left 1
 ·exact ⟨by simp [h1],by simp [h2],by simp [h3],by simp,_,_,rfl,.inl ⟨by simp,rfl⟩⟩
 clear h1 h2 h3
 rintro i f σ hi ⟨h1,h2,h3,h8,xr,R,rfl,hx⟩
 by_cases hlt:i<min p.rules.length 64
 ·have c1:i<p.rules.length:=by omega
  have c2:(i:Int)<64:=by omega
  have hmem:=zqT c1
  have hlw:IntKind.i64.wrap ((i:Int)+1)=(i:Int)+1:=wr64 (by omega) (by omega)
  have e1:p.rules[i]?=some p.rules[i]:=zqF c1
  obtain ⟨q1,q2,q3,q4⟩:=ruleOf_parts p.rules[i]
  rw [take_map ruleOf _ _ c1,List.map_append]
  have hall:=allEl_map GR.enc 6 gr_okEl ((p.rules.take i).map ruleOf)
  have hlen:(((p.rules.take i).map ruleOf).map GR.enc).length=i:=by simp; omega
  generalize hES:((p.rules.take i).map ruleOf).map GR.enc=es at *
  simp [fitP,h1,h2,h3,h8,c1,c2,e1]
  rw [hBs]
  simp only [wpK_seq]
  refine ha i c1 (hp.2.2 _ hmem) xd xu xr R _ _ _ _ _ (by simp [h1]) (by simp [h2]) (by simp [h3]) (by simp [h8]) rfl ?_
  clear h1 h2 h3 h8
  intro f σ hf hσ
  simp only [wpK_seq]
  refine hb i c1 (hp.2.2 _ hmem) xd xu xr R _ _ _ f σ hf hσ ?_
  clear hf hσ f σ
  intro f σ hf hσ
  simp only [wpK_seq]
  refine hc i c1 xd xu xr R _ _ _ f σ hf hσ ?_
  clear hf hσ f σ
  intro f σ hf hσ
  simp only [wpK_seq]
  refine hd i c1 (hp.2.2 _ hmem) xd xu xr R _ _ _ f σ hf hσ ?_
  clear hf hσ f σ
  intro f σ hf hσ
  rw [←q4] at hσ
  refine he i c1 xd xu xr R es hall (by rw [hlen]; omega) hx _ _ f σ hf hσ ⟨q1,q2,q3⟩ ?_
  clear hf hσ f σ
  intro f σ h1 h2 h3 h8 ⟨xr',R',hσ,hx'⟩
  subst hσ
  simp [h1,h2,h3,h8,hlw]
  exact ⟨hlt,xr',R',rfl,hx'⟩
 ·have c1:¬ (i<p.rules.length∧(i:Int)<64):=by omega
  rw [take_min p.rules i 64 (by omega)] at hx
  by_cases d1:i<p.rules.length
  ·have d2:¬ ((i:Int)<64):=fun h=>c1 ⟨d1,h⟩
   simp [fitP,h1,h8,d1,d2]
   exact hk _ _ (by simp [h1]) (by simp [h2]) (by simp [h3]) ⟨_,_,rfl,hx.b⟩
  ·simp [fitP,h1,h8,d1]
   exact hk _ _ (by simp [h1]) (by simp [h2]) (by simp [h3]) ⟨_,_,rfl,hx.b⟩
theorem fit4_ok (p:GP) (hp:p.ok) (hs:p.size≤1048576):pureT T c15 [p.enc]=some (progOf p).enc:=by
 apply pure_enter (by simp [c15])
 have h1:=fit1 p hp hs
 have h2:=fit2 p hp hs
 have h3:=fit3 p hp hs
 obtain ⟨A,hA⟩:∃ A,A=c15.body.snd.snd.fst:=⟨_,rfl⟩
 obtain ⟨B,hB⟩:∃ B,B=c15.body.snd.snd.snd.fst:=⟨_,rfl⟩
 obtain ⟨C,hC⟩:∃ C,C=c15.body.snd.snd.snd.snd.fst:=⟨_,rfl⟩
 simp only [←hA,←hB,←hC] at h1 h2 h3
 have hL:c15.body=.seq c15.body.fst (.seq c15.body.snd.fst (.seq A (.seq B (.seq C c15.body.snd.snd.snd.snd.snd)))):=by rw [hA,hB,hC]; rfl
 rw [hL]
 clear hL hA hB hC
 simp [c15,ACode.fst,ACode.snd,GP.enc_eq]
 refine h1 _ _ _ _ (by simp) (by simp) (by simp) rfl ?_
 intro f σ g1 g2 g3 ⟨xd,R,hσ,hxd⟩
 simp only [wpK_seq]
 refine h2 xd R _ _ f σ g1 g2 g3 hσ ?_
 clear g1 g2 g3 hσ f σ
 intro f σ g1 g2 g3 ⟨xu,R,hσ,hxu⟩
 simp only [wpK_seq]
 refine h3 xd xu R _ _ f σ g1 g2 g3 hσ ?_
 clear g1 g2 g3 hσ f σ
 intro f σ g1 g2 g3 ⟨xr,R,hσ,hxr⟩
 subst hσ
 have a1:xd.cells=[xd]∧xu.cells=[xu]∧xr.cells=[xr]:=by
  refine ⟨?_,?_,?_⟩
  ·rcases hxd with ⟨_,rfl⟩ | ⟨k,rfl⟩ <;> rfl
  ·rcases hxu with ⟨_,rfl⟩ | ⟨k,rfl⟩ <;> rfl
  ·rcases hxr with ⟨_,rfl⟩ | ⟨k,rfl⟩ <;> rfl
 have b1:=fun σ=>hxd.close (σ:=σ)
 have b2:=fun σ=>hxu.close (σ:=σ)
 have b3:=fun σ=>hxr.close (σ:=σ)
 simp [fitP,g1,g2,g3,setRun,a1,b1,b2,b3,closeL]
 refine ⟨?_,?_,?_⟩ <;> simp [progOf]
theorem callFit4 (p:GP) (hp:p.ok) (hs:p.size≤1048576) (bs:Nat) (σ:Heap):callT T 15 [p.enc] bs σ=some ((progOf p).enc,σ):=call_clean rfl rfl rfl (by simp) (fit4_ok p hp hs)
end Go.Proofs.YtjfgjnlocadpbaaGreatDoor
end
section
namespace Go.Proofs.YtjfgjnlocadpbaaGreatDoor
open Go.Mach
section
variable {bs n:Nat} {f:FR} {σ:Heap}
theorem W_rfn {x:AX} {rc:RCode} {Q:AExit→FR→Heap→Prop} {g:Nat} {caps:List AV} {v:AV} {σ' σ2:Heap} {e:AExit} (hg:g≠yno) (hx:evF n f x=.func g caps)
  (hc:callT T g (.yld σ.length :: caps) bs (σ++[.lp rc (lst n f) .ready none])=some (v,σ')) (he:endLp σ.length (lst n f) σ'=some (e,lst n f,σ2)) (hQ:Q e f σ2):W T bs n (.rfn x rc) f σ Q:=by
 refine ⟨e,f,σ2,?_,hQ⟩
 rw [execT_rfn,ev_lst,hx]
 simp only [callN,if_neg hg,hc,Option.bind_some,he]
theorem round_call {id nt:Nat} {rc:RCode} {a b:ACode} {f1:FR} {st:LoopState} {pd:Option Code} {xs:List AV} {v:AV} {σ':Heap} (hσ:σ[id]?=some (.lp rc (lst n f) st pd)) (hrd:rds rc=some (nt,a,b)) (hn:nt≤n)
  (hp:xs.length=rc.params.size) (hput:putAll rc.params.toList xs (lst n f)=lst n f1)
  (hw:W T bs n a f1 σ fun e f2 σ1=>e=.normal∧∃ σ2,begLp id σ1=some σ2∧W T bs n b f2 σ2 fun e f3 σ3=>endRd id (e,lst n f3,σ3)=some (v,σ')) :
  callT T yno (.yld id :: xs) bs σ=some (v,σ'):=by
 rw [callT_yld T bs σ T_ok.yn.1 T_ok.yn.2]
 obtain ⟨e,f2,σ1,hr,rfl,σ2,hb,e3,f3,σ3,hr3,hend⟩:=hw
 have hT:T.rd rc=some (nt,a,b):=hrd
 have hlen:(lst n f).length=n:=by simp [lst]
 simp only [roundA,hσ,hT,Option.bind_some,hlen]
 rw [if_pos ⟨hp,hn⟩,hput,hr]
 simp only [Option.bind_some,bodyA,hb,hr3]
 exact hend
theorem put1 (d:Nat) (x:AV) (hd:d<n):putAll [d] [x] (lst n f)=lst n (upF f d x):=by
 have:=setDst_lst n f (some d) x
 simpa [putAll,setDst] using this
end
mutual
def vs1:GT→List ByteArray
 | .mk k n _ l=>if k=1 then [n] else vsL l
def vsL:List GT→List ByteArray
 | []=>[]
 | t :: l=>vs1 t++vsL l
end
theorem vs1_eq (t:GT):vs1 t=if t.kind=1 then [t.name] else vsL t.args:=by cases t; rfl
theorem vsL_append:∀ (a b:List GT),vsL (a++b)=vsL a++vsL b
 | [],b=>rfl
 | t :: a,b=>by simp [vsL,vsL_append a b]
def runS {S:Type} (step:S→ByteArray→S × Bool):S→List ByteArray→S × Bool
 | s,[]=>(s,true)
 | s,n :: ns=>if (step s n).2=true then runS step (step s n).1 ns else ((step s n).1,false)
theorem runS_append {S:Type} (step:S→ByteArray→S × Bool):∀ (a b:List ByteArray) (s:S),runS step s (a++b)=if (runS step s a).2=true then runS step (runS step s a).1 b else ((runS step s a).1,false)
 | [],b,s=>by simp [runS]
 | n :: a,b,s=>by
  simp only [List.cons_append,runS]
  by_cases h:(step s n).2=true
  ·simp only [if_pos h]; exact runS_append step a b _
  ·simp only [if_neg h]; simp
section
variable {S:Type} (H X:S→Heap→Prop) (step:S→ByteArray→S × Bool) (cnt:S→Nat) (C:Nat)
def Counts:Prop:=∀ s m,(step s m).2=true→cnt (step s m).1=cnt s+1
theorem Counts.run {step:S→ByteArray→S × Bool} {cnt:S→Nat} (h:Counts step cnt):∀ (l:List ByteArray) (s:S),(runS step s l).2=true→cnt (runS step s l).1=cnt s+l.length
 | [],s,_=>rfl
 | m :: l,s,hr=>by
  simp only [runS] at hr ⊢
  by_cases hb:(step s m).2=true
  ·rw [if_pos hb] at hr ⊢
   rw [h.run l _ hr,h s m hb,zqU]; omega
  ·rw [if_neg hb] at hr; cases hr
structure Rounds (bs id iy ie:Nat):Prop where
 more:∀ s σ o,H s σ→H s (σ++[o])
 y:∀ s σ,H s σ→σ[iy]?=some (.cells [.yld id] 0 false)
 e:∀ s σ,H s σ→σ[ie]?=some (.cells [.func 130 [.ptr iy 0,.ptr ie 0]] 0 false)
 ct:Counts step cnt
 rd:∀ s σ m,H s σ→cnt s<C→bs≤σ.length→∃ σ',callT T yno [.yld id,.str m] bs σ=some (.bool (step s m).2,σ')∧((step s m).2=true→H (step s m).1 σ')∧((step s m).2=false→X (step s m).1 σ')∧σ.length≤σ'.length
theorem GT.size_args (t:GT):GT.sizes t.args+3≤t.size:=by cases t; simp only [GT.size,GT.args]; omega
theorem each_ok {bs id iy ie:Nat} (R:Rounds H X step cnt C bs id iy ie):∀ (k:Nat) (l:List GT) (s:S) (σ:Heap),GT.sizes l≤k→k≤100000000000→H s σ→cnt s+(vsL l).length≤C→bs≤σ.length →
  ∃ σ',callT T 130 [.isl (GT.encs l) false,.ptr iy 0,.ptr ie 0] bs σ=some (.bool (runS step s (vsL l)).2,σ')∧((runS step s (vsL l)).2=true→H (runS step s (vsL l)).1 σ')∧((runS step s (vsL l)).2=false→X (runS step s (vsL l)).1 σ')∧σ.length≤σ'.length:=by
 intro k
 induction k using Nat.strongRecOn with
 | ind k ih=>
  intro l s σ hs hk hH hC hbs
  have hlen:=GT.len_sizes l
  suffices hh:∃ r,callT T 130 [.isl (GT.encs l) false,.ptr iy 0,.ptr ie 0] bs σ=some r∧(r.1=.bool (runS step s (vsL l)).2∧((runS step s (vsL l)).2=true→H (runS step s (vsL l)).1 r.2)∧((runS step s (vsL l)).2=false→X (runS step s (vsL l)).1 r.2)∧σ.length≤r.2.length) by
   obtain ⟨r,h1,h2,h3⟩:=hh
   exact ⟨r.2,by rw [h1,←h2],h3⟩
  refine heap_enterE (args':=[.isl (GT.encs l) false,.ptr iy 0,.ptr ie 0]) (σ1:=σ) (af:=c130) rfl rfl (by simp [c130]) (by simp [c130]) rfl ?_
  simp [c130,baseA]
  refine W_for T bs 27 l.length (fun i f τ=>f 1=.ptr iy 0∧f 2=.ptr ie 0∧f 7=.isl (GT.encs l) false∧f 8=.int .i64 (l.length:Int)∧f 9=.int .i64 (i:Int)∧(runS step s (vsL (l.take i))).2=true∧H (runS step s (vsL (l.take i))).1 τ∧σ.length≤τ.length) ?_ _ _ ?_
  ·rintro i f τ hi ⟨h1,h2,h7,h8,h9,hgo,hH2,hτ⟩
   by_cases hlt:i<l.length
   ·have hw:IntKind.i64.wrap ((i:Int)+1)=(i:Int)+1:=wr64 (by omega) (by omega)
    have hsz:=GT.sizes_mem (zqT hlt)
    have htk:vsL (l.take (i+1))=vsL (l.take i)++vs1 l[i]:=by
     rw [zqO hlt,vsL_append]; simp [vsL]
    have hobj:AObj.cells l[i].enc.cells 0 false=AObj.cells [.int .i64 l[i].kind,.str l[i].name,.int .i64 l[i].value.kind,.int .i64 l[i].value.num,.str l[i].value.text,.isl (GV.encs l[i].value.items) false,.isl (GT.encs l[i].args) false] 0 false:=by rw [GT.enc_eq]; rfl
    have hH3:=R.more _ _ (.cells l[i].enc.cells 0 false) hH2
    have hy:=R.y _ _ hH3
    have he:=R.e _ _ hH3
    rw [hobj] at hH3 hy he
    have hgn:∀ x:S × Bool,runS step s (vsL (l.take i)++vs1 l[i])=runS step (runS step s (vsL (l.take i))).1 (vs1 l[i]):=fun _=>by rw [runS_append,if_pos hgo]
    have hall:runS step s (vsL l)=if (runS step s (vsL (l.take (i+1)))).2=true then runS step (runS step s (vsL (l.take (i+1)))).1 (vsL (l.drop (i+1))) else ((runS step s (vsL (l.take (i+1)))).1,false):=by
     rw [←runS_append,←vsL_append,List.take_append_drop]
    rw [htk,runS_append,if_pos hgo] at hall
    rw [htk,runS_append,if_pos hgo]
    obtain ⟨s1,hs1⟩:∃ s1,(runS step s (vsL (l.take i))).1=s1:=⟨_,rfl⟩
    rw [hs1] at hall hH3 ⊢
    rw [vs1_eq] at hall ⊢
    have hcn:cnt s1+(vs1 l[i]).length≤C:=by
     have h1:=R.ct.run _ _ hgo
     rw [hs1] at h1
     have h2:vsL l=vsL (l.take i)++(vs1 l[i]++vsL (l.drop (i+1))):=by
      rw [←zqP,←htk,←vsL_append,List.take_append_drop]
     rw [h2,zqJ,zqJ] at hC
     omega
    rw [vs1_eq] at hcn
    by_cases hkind:l[i].kind=1
    ·have hc1:cnt s1<C:=by rw [if_pos hkind] at hcn; simp at hcn; omega
     rw [hkind] at hH3 hy he
     rw [if_pos hkind] at hall ⊢
     obtain ⟨τ2,hc,hH4,hX4,hl4⟩:=R.rd _ _ l[i].name hH3 hc1 (by simp; omega)
     simp only [runS] at hall ⊢
     simp only [zqJ,List.length_singleton] at hl4
     by_cases hb:(step s1 l[i].name).2=true
     ·rw [hb] at hc
      simp [h1,h2,h7,h8,h9,hlt,hw,hkind,hy,hc,hb]
      exact ⟨hH4 hb,by omega⟩
     ·have hb':(step s1 l[i].name).2=false:=by simpa using hb
      rw [hb'] at hc
      simp [h1,h2,h7,h8,h9,hlt,hw,hkind,hy,hc,hb',hall]
      exact ⟨hX4 hb',by omega⟩
    ·have hc2:cnt s1+(vsL l[i].args).length≤C:=by rw [if_neg hkind] at hcn; exact hcn
     rw [if_neg hkind] at hall ⊢
     obtain ⟨τ2,hc,hH4,hX4,hl4⟩:=ih (GT.sizes l[i].args) (by have:=GT.size_args l[i]; omega) l[i].args s1 _ (Nat.le_refl _) (by have:=GT.size_args l[i]; omega) hH3 hc2 (by simp; omega)
     simp only [zqJ,List.length_singleton] at hl4
     by_cases hb:(runS step s1 (vsL l[i].args)).2=true
     ·rw [hb] at hc
      simp [h1,h2,h7,h8,h9,hlt,hw,hkind,he,hc,hb]
      exact ⟨hH4 hb,by omega⟩
     ·have hb':(runS step s1 (vsL l[i].args)).2=false:=by simpa using hb
      rw [hb'] at hc
      simp [h1,h2,h7,h8,h9,hlt,hw,hkind,he,hc,hb',hall]
      exact ⟨hX4 hb',by omega⟩
   ·have he:i=l.length:=by omega
    subst he
    simp [h1,h2,h7,h8,h9]
    rw [List.take_length] at hgo hH2
    simp [hgo]
    exact ⟨hH2,hτ⟩
  ·simp [runS,vsL]
   exact hH
structure Rounds1 (bs id N:Nat):Prop where
 more:∀ s σ o,H s σ→H s (σ++[o])
 len:∀ s σ,H s σ→N≤σ.length
 ct:Counts step cnt
 rd:∀ s σ m,H s σ→cnt s<C→bs≤σ.length→∃ σ',callT T yno [.yld id,.str m] bs σ=some (.bool (step s m).2,σ')∧((step s m).2=true→H (step s m).1 σ')∧((step s m).2=false→X (step s m).1 σ')∧σ.length≤σ'.length ∧
  ∀ j cs,N≤j→σ[j]?=some (.cells cs 0 false)→σ'[j]?=some (.cells cs 0 false)
theorem iter_ok {bs id N il:Nat} (R:Rounds1 H X step cnt C bs id N) (l:List GT) (s:S) (σ:Heap) {fz:Nat} {ext:Bool} (hl:GT.sizes l≤100000000000) (hH:H s σ) (hC:cnt s+(vsL l).length≤C) (hbs:bs≤σ.length) (hil:σ[il]?=some (.cells [.isl (GT.encs l) false] fz ext)) :
  ∃ σ',callT T 129 [.yld id,.ptr il 0] bs σ=some (.tup [],σ')∧((runS step s (vsL l)).2=true→H (runS step s (vsL l)).1 σ')∧((runS step s (vsL l)).2=false→X (runS step s (vsL l)).1 σ')∧σ.length≤σ'.length:=by
 have hN:=R.len _ _ hH
 have hlt:il<σ.length:=(zqI.1 hil).1
 have R2:Rounds (fun s τ=>H s τ∧σ.length+1<τ.length∧τ[σ.length]?=some (.cells [.yld id] 0 false)∧τ[σ.length+1]?=some (.cells [.func 130 [.ptr σ.length 0,.ptr (σ.length+1) 0]] 0 false)) X step cnt C bs id σ.length (σ.length+1):=by
  refine ⟨fun s τ o h=>⟨R.more _ _ _ h.1,by simp; omega,?_,?_⟩,fun s τ h=>h.2.2.1,fun s τ h=>h.2.2.2,R.ct,fun s τ m h hc hb=>?_⟩
  ·rw [zqA (by omega)]; exact h.2.2.1
  ·rw [zqA (by omega)]; exact h.2.2.2
  ·obtain ⟨τ',h1,h2,h3,h4,h5⟩:=R.rd s τ m h.1 hc hb
   exact ⟨τ',h1,fun e=>⟨h2 e,by omega,h5 _ _ (by omega) h.2.2.1,h5 _ _ (by omega) h.2.2.2⟩,h3,h4⟩
 have e1:σ++[AObj.cells [.yld id] 0 false,AObj.cells [.func 130 [.ptr σ.length 0,.ptr (σ.length+1) 0]] 0 false]=(σ++[AObj.cells [.yld id] 0 false])++[AObj.cells [.func 130 [.ptr σ.length 0,.ptr (σ.length+1) 0]] 0 false]:=by simp
 obtain ⟨σ2,hc,h1,h2,h3⟩:=each_ok _ X step cnt C R2 (GT.sizes l) l s (σ++[AObj.cells [.yld id] 0 false,AObj.cells [.func 130 [.ptr σ.length 0,.ptr (σ.length+1) 0]] 0 false]) (Nat.le_refl _) hl
  ⟨by rw [e1]; exact R.more _ _ _ (R.more _ _ _ hH),by simp,by simp,by simp⟩ hC (by simp; omega)
 refine ⟨σ2,?_,fun e=>(h1 e).1,h2,by simp at h3; omega⟩
 have hil2:(σ++[AObj.cells [.yld id] 0 false,AObj.cells [.func 130 [.ptr σ.length 0,.ptr (σ.length+1) 0]] 0 false])[il]?=some (.cells [.isl (GT.encs l) false] fz ext):=by rw [zqA hlt]; exact hil
 refine heap_enter (args':=[.yld id,.ptr il 0]) (σ1:=σ) (af:=c129) rfl rfl (by simp [c129]) (by simp [c129]) rfl ?_
 have hb1:bs≤σ.length+1:=by omega
 simp [c129,baseA,hil2,hc,hb1,res1]
end
theorem variables_isl (l:List GT) (bs:Nat) (σ:Heap):callT T 107 [.isl (GT.encs l) false] bs σ=some (.func 129 [.ptr σ.length 0],σ++[.cells [.isl (GT.encs l) false] 0 false]):=by
 refine heap_enter (args':=[.isl (GT.encs l) false]) (σ1:=σ) (af:=c107) rfl rfl (by simp [c107]) (by simp [c107]) (by simp [closeArgs,c107]) ?_
 simp [c107,baseA,res1]
end Go.Proofs.YtjfgjnlocadpbaaGreatDoor
end
section
namespace Go.Proofs.YtjfgjnlocadpbaaGreatDoor
open Go.Mach
def memB (m:ByteArray) (b:List ByteArray):Bool:=b.any fun n=>decide (m=n)
theorem memB_iff (m:ByteArray) (b:List ByteArray):memB m b=true↔m∈b:=by simp [memB]
def idxN (m:ByteArray):List ByteArray→Nat
 | []=>0
 | n :: b=>if m=n then 0 else idxN m b+1
theorem idxN_get (m:ByteArray):∀ b:List ByteArray,memB m b=true→b[idxN m b]?=some m
 | [],h=>by simp [memB] at h
 | n :: b,h=>by
  simp only [idxN]
  by_cases e:m=n
  ·subst e; simp
  ·have h':memB m b=true:=by simpa [memB,e] using h
   simp [e,idxN_get m b h']
def addB (b:List ByteArray) (m:ByteArray):List ByteArray:=if memB m b=true then b else b++[m]
def mpN (b:List ByteArray):AObj:=.mp (b.map fun n=>(.str n,.bool true))
theorem mfind_names (m:ByteArray):∀ (b:List ByteArray) (i:Nat),mfind false [2] [.str m] i (b.map fun n=>(AV.str n,AV.bool true))=some (if memB m b=true then some (i+idxN m b,.bool true) else none)
 | [],i=>rfl
 | n :: b,i=>by
  have ih:=mfind_names m b (i+1)
  simp only [List.map_cons,mfind,keyC,Option.bind_some,eqcs_str,eqcs_nil,Option.map_some,Bool.and_true,Bool.false_eq_true,if_false]
  by_cases h:m=n
  ·subst h; simp [memB,idxN]
  ·have hm:memB m (n :: b)=memB m b:=by simp [memB,h]
   simp only [decide_eq_false h,ih,hm,idxN,if_neg h]
   split
   ·congr 3; omega
   ·rfl
theorem mlook_n {σ:Heap} {id:Nat} {b:List ByteArray} (h:σ[id]?=some (mpN b)) (m:ByteArray):mlookA σ false [2] (.bool false) false (.map id) (.str m)=some (.bool (memB m b)):=by
 simp only [mlookA,keyC,Option.bind_some,eqcs_str,eqcs_nil,Option.map_some,Option.isSome_some,if_true,mapOf,h,mpN,mfind_names,Bool.false_eq_true,if_false]
 cases hb:memB m b <;> simp [lookV]
theorem mset_n {σ:Heap} {id:Nat} {b:List ByteArray} (h:σ[id]?=some (mpN b)) (m:ByteArray):msetA σ false [2] (.map id) (.str m) (.bool true)=some (σ.set id (mpN (addB b m))):=by
 have hcl:closeA σ (.bool true)=some (.bool true,σ):=by simp
 simp only [msetA,keyC,Option.bind_some,eqcs_str,eqcs_nil,Option.map_some,Option.isSome_some,true_and,hcl,h,mpN,mfind_names,Bool.false_eq_true,if_false]
 cases hb:memB m b
 ·simp [addB,hb]
 ·have hi:(b.map fun n=>(AV.str n,AV.bool true)).set (idxN m b) (.str m,.bool true)=b.map fun n=>(AV.str n,AV.bool true):=by
   apply List.ext_getElem?
   intro j
   rw [List.getElem?_set]
   split
   ·rename_i e; subst e
    have hg:=idxN_get m b hb
    have hlt:=(zqI.1 hg).1
    rw [List.getElem?_map,hg,if_pos (by simpa using hlt)]; rfl
   ·rfl
  simp [addB,hb,hi]
theorem set_same {σ:Heap} {i:Nat} {o:AObj} (h:σ[i]?=some o):σ.set i o=σ:=by
 apply List.ext_getElem?
 intro j
 rw [List.getElem?_set]
 split
 ·rename_i e; subst e; rw [if_pos (zqI.1 h).1,h]
 ·rfl
theorem endRd_n {H:Heap} {i:Nat} {rc:RCode} {tm ρ:Regs} {st:LoopState} {pd:Option Go.Code} (h:H[i]?=some (.lp rc tm st pd)):endRd i (.normal,ρ,H)=some (.bool true,H.set i (.lp rc tm .ready none)):=by simp [endRd,h]
mutual
theorem vs1_len:∀ t:GT,(vs1 t).length≤t.size
 | .mk k n v l=>by
  have:=vsL_len l
  simp only [vs1,GT.size]
  split <;> simp <;> omega
theorem vsL_len:∀ l:List GT,(vsL l).length≤GT.sizes l
 | []=>by simp [vsL]
 | t :: l=>by
  have h1:=vs1_len t
  have h2:=vsL_len l
  simp only [vsL,zqJ,GT.sizes]; omega
end
end Go.Proofs.YtjfgjnlocadpbaaGreatDoor
end
section
namespace Go.Proofs.YtjfgjnlocadpbaaGreatDoor
open Go.Mach
def arityP (p:GP) (n:ByteArray):Int:=match p.decls.find? (fun d=>decide (d.name=n)) with
 | some d=>d.arity
 | none=>0
theorem idxG_find {α:Type} (q:α→Bool) (l:List α):(idxG q l<0∧l.find? q=none)∨∃ i,∃ h:i<l.length,idxG q l=(i:Int)∧l.find? q=some l[i]:=by
 unfold idxG
 cases h:l.findIdx? q with
 | none=>
  refine .inl ⟨by simp,?_⟩
  rw [List.findIdx?_eq_none_iff] at h
  rw [List.find?_eq_none]
  exact fun x hx=>by simp [h x hx]
 | some i=>
  obtain ⟨hi,hp,hall⟩:=List.findIdx?_eq_some_iff_getElem.1 h
  refine .inr ⟨i,hi,rfl,?_⟩
  rw [List.find?_eq_some_iff_append]
  refine ⟨hp,l.take i,l.drop (i+1),by rw [List.getElem_cons_drop,List.take_append_drop],fun x hx=>?_⟩
  obtain ⟨j,hj,rfl⟩:=zqS hx
  have:=hall j (by simp at hj; omega)
  simpa using this
theorem arity1_call (d:GD) (n:ByteArray) {k:Nat} (bs:Nat) (σ:Heap) (h:σ[k]?=some (.cells [.str n] 0 false)):callT T 71 [d.enc,.ptr k 0] bs σ=some (.bool (decide (d.name=n)),σ):=by
 have hk:k<σ.length:=(zqI.1 h).1
 have hk2:∀ o,(σ++[o])[k]?=some (.cells [.str n] 0 false):=fun o=>by rw [zqA hk]; exact h
 refine heap_enter (af:=c71) (args':=[d.enc,.ptr k 0]) (σ1:=σ) rfl rfl (by simp [c71]) (by simp [c71]) rfl ?_
 simp [c71,baseA,hk2,dropA_gc,refLt,res1,refLt2_bool,refLt2_int,take_1]
theorem arity_ok (p:GP) (n:ByteArray) (hl:p.decls.length≤100000000000):pureT T c43 [p.enc,.str n]=some (.int .i64 (arityP p n)):=by
 have hi:=fun σ (h:σ[1]?=some (AObj.cells [.str n] 0 false)) bs=>idxDecl (fun d=>decide (d.name=n)) p.decls 71 [.ptr 1 0] hl σ (fun x _ bs=>arity1_call x n bs σ h) bs
 apply pure_enter (by simp [c43])
 rcases idxG_find (fun d:GD=>decide (d.name=n)) p.decls with ⟨h1,h2⟩ | ⟨i,hlt,h1,h2⟩
 ·have h3:arityP p n=0:=by simp only [arityP,h2]
  simp [c43,hi,h1,h3]
 ·have h3:arityP p n=p.decls[i].arity:=by simp only [arityP,h2]
  rw [h1] at hi
  have h4:¬ ((i:Int)<0):=by omega
  simp [c43,hi,h4,h3,hlt]
theorem callArity (p:GP) (n:ByteArray) (hl:p.decls.length≤100000000000) (bs:Nat) (σ:Heap):callT T 43 [p.enc,.str n] bs σ=some (.int .i64 (arityP p n),σ):=call_clean rfl rfl rfl (by simp) (arity_ok p n hl)
theorem rd44:rds (rcOf Tryz.f74)=some r74:=by unfold rds; rw [if_pos rfl]
theorem ps44:(rcOf Tryz.f74).params=#[8]:=by kernel_rfl
def stepA (b:List ByteArray) (s:Nat) (m:ByteArray):Nat × Bool:=(s+1,memB m b)
theorem run_all (b:List ByteArray):∀ (ns:List ByteArray) (s:Nat),(runS (stepA b) s ns).2=ns.all (fun m=>memB m b)
 | [],s=>rfl
 | n :: ns,s=>by
  simp only [runS,List.all_cons]
  have e:(stepA b s n).2=memB n b:=rfl
  by_cases h:(stepA b s n).2=true
  ·rw [if_pos h,run_all b ns]; rw [e] at h; simp [h]
  ·rw [if_neg h]; rw [e] at h; simp [h]
def JA (σ:Heap) (k:Nat) (b:List ByteArray) (f:FR) (τ:Heap):Prop:=
 σ.length+4≤τ.length∧τ[σ.length]?=some (.cells [.map k] 0 false)∧τ[σ.length+1]?=some (.cells [.bool false] 0 false)∧τ[σ.length+3]?=some (.lp (rcOf Tryz.f74) (lst 13 f) .ready none)∧∀ j,j<σ.length→τ[j]?=σ[j]?
def XA (σ:Heap) (f:FR) (τ:Heap):Prop:=
 σ.length+4≤τ.length∧τ[σ.length+1]?=some (.cells [.bool false] 0 false)∧τ[σ.length+3]?=some (.lp (rcOf Tryz.f74) (lst 13 f) .done (some .ret))∧∀ j,j<σ.length→τ[j]?=σ[j]?
theorem endRd_r {H:Heap} {i:Nat} {rc:RCode} {tm ρ:Regs} {st:LoopState} {pd:Option Go.Code} (h:H[i]?=some (.lp rc tm st pd)):endRd i (.ret,ρ,H)=some (.bool false,H.set i (.lp rc tm .done (some .ret))):=by simp [endRd,h]
theorem roundA_ok {σ:Heap} {k:Nat} {b:List ByteArray} {f:FR} (hk:σ[k]?=some (mpN b)) (h2:f 2=.ptr σ.length 0) (h4:f 4=.ptr (σ.length+1) 0) (τ:Heap) (m:ByteArray) (hJ:JA σ k b f τ) :
  ∃ τ',callT T yno [.yld (σ.length+3),.str m] σ.length τ=some (.bool (memB m b),τ')∧(memB m b=true→JA σ k b f τ')∧(memB m b=false→XA σ f τ')∧τ.length≤τ'.length∧∀ j cs,σ.length+4≤j→τ[j]?=some (.cells cs 0 false)→τ'[j]?=some (.cells cs 0 false):=by
 obtain ⟨hN,hm,hc,hlp,hall⟩:=hJ
 have hkl:k<σ.length:=(zqI.1 hk).1
 have n1:¬ σ.length+3=σ.length:=by omega
 have n2:¬ σ.length+3=k:=by omega
 have n3:¬ σ.length+3=σ.length+1:=by omega
 have g1:∀ o,(τ.set (σ.length+3) o)[σ.length]?=some (.cells [.map k] 0 false):=fun o=>by rw [zqC n1]; exact hm
 have g2:∀ o,(τ.set (σ.length+3) o)[k]?=some (mpN b):=fun o=>by rw [zqC n2,hall k hkl]; exact hk
 have g3:∀ o,(τ.set (σ.length+3) o)[σ.length+1]?=some (.cells [.bool false] 0 false):=fun o=>by rw [zqC n3]; exact hc
 cases hin:memB m b
 ·refine ⟨_,round_call (f1:=upF f 8 (.str m)) hlp rd44 (Nat.le_refl _) (by rw [ps44]; rfl) (by rw [ps44]; exact put1 8 (.str m) (by decide)) (wpC_sound T σ.length 13 (by
   simp [r74]
   refine ⟨_,by simp [begLp,hlp]; rfl,wpC_sound T σ.length 13 ?_⟩
   simp [h2,h4,g1,g3,mlook_n (g2 _),hin]
   refine endRd_r (rc:=rcOf Tryz.f74) (tm:=lst 13 f) (st:=.busy) (pd:=none) ?_
   rw [zqC (by omega)]; exact list_set_at (by omega))),(fun e=>by cases e),fun _=>⟨by simp; omega,?_,?_,fun j hj=>?_⟩,by simp,fun j cs hj hcj=>?_⟩
  ·rw [zqC (by omega)]; exact list_set_at (by simp; omega)
  ·exact list_set_at (by simp; omega)
  ·rw [zqC (by omega),zqC (by omega),zqC (by omega)]; exact hall j hj
  ·rw [zqC (by omega),zqC (by omega),zqC (by omega)]; exact hcj
 ·refine ⟨τ,round_call (f1:=upF f 8 (.str m)) hlp rd44 (Nat.le_refl _) (by rw [ps44]; rfl) (by rw [ps44]; exact put1 8 (.str m) (by decide)) (wpC_sound T σ.length 13 ?_),fun _=>⟨hN,hm,hc,hlp,hall⟩,(fun e=>by cases e),Nat.le_refl _,fun _ _ _ h=>h⟩
  simp [r74]
  refine ⟨_,by simp [begLp,hlp]; rfl,wpC_sound T σ.length 13 ?_⟩
  simp [h2,h4,g1,g3,mlook_n (g2 _),hin]
  rw [endRd_n (list_set_at (by omega)),List.set_set,set_same hlp]
theorem take_of {σ τ:Heap} (hl:σ.length≤τ.length) (h:∀ j,j<σ.length→τ[j]?=σ[j]?):τ.take σ.length=σ:=by
 apply List.ext_getElem?
 intro j
 rw [List.getElem?_take]
 split
 ·rename_i hj; exact h j hj
 ·rename_i hj; rw [List.getElem?_eq_none (by omega)]
def allB (b:List ByteArray) (l:List GT):Bool:=(vsL l).all fun m=>memB m b
theorem callAllB (b:List ByteArray) (l:List GT) (hl:GT.sizes l≤1000000000) {k:Nat} (bs:Nat) (σ:Heap) (hk:σ[k]?=some (mpN b)):callT T 74 [.map k,.isl (GT.encs l) false] bs σ=some (.bool (allB b l),σ):=by
 refine heap_enter (af:=c74) (args':=[.map k,.isl (GT.encs l) false]) (σ1:=σ) rfl rfl (by simp [c74]) (by simp [c74]) (by simp [closeArgs,c74]) ?_
 have hv:=fun bs τ=>variables_isl l bs τ
 simp [c74,baseA,hv]
 generalize hf:upF _ _ _=f
 have h2:f 2=.ptr σ.length 0:=by rw [←hf]; simp
 have h4:f 4=.ptr (σ.length+1) 0:=by rw [←hf]; simp
 have h7:f 7=.func 129 [.ptr (σ.length+2) 0]:=by rw [←hf]; simp
 have R:Rounds1 (fun _=>JA σ k b f) (fun _=>XA σ f) (stepA b) (fun s=>s) 2000000000 σ.length (σ.length+3) (σ.length+4):=by
  refine ⟨?_,fun s τ h=>h.1,fun s m _=>rfl,fun s τ m h hc hb=>?_⟩
  ·rintro s τ o ⟨a1,a2,a3,a4,a5⟩
   refine ⟨by simp; omega,?_,?_,?_,fun j hj=>?_⟩
   ·rw [zqA (by omega)]; exact a2
   ·rw [zqA (by omega)]; exact a3
   ·rw [zqA (by omega)]; exact a4
   ·rw [zqA (by omega)]; exact a5 j hj
  ·exact roundA_ok hk h2 h4 τ m h
 have e0:σ++[AObj.cells [AV.map k] 0 false,AObj.cells [AV.bool false] 0 false,AObj.cells [AV.isl (GT.encs l) false] 0 false]++[.lp (rcOf Tryz.f74) (lst 13 f) .ready none]=σ++[AObj.cells [AV.map k] 0 false,AObj.cells [AV.bool false] 0 false,AObj.cells [AV.isl (GT.encs l) false] 0 false,.lp (rcOf Tryz.f74) (lst 13 f) .ready none]:=by simp
 have hvs:=vsL_len l
 obtain ⟨σ',hc,hH,hX,hlen⟩:=iter_ok (fun _=>JA σ k b f) (fun _=>XA σ f) (stepA b) (fun s=>s) 2000000000 R l 0 (il:=σ.length+2) (fz:=0) (ext:=false) (σ++[AObj.cells [AV.map k] 0 false,AObj.cells [AV.bool false] 0 false,AObj.cells [AV.isl (GT.encs l) false] 0 false]++[.lp (rcOf Tryz.f74) (lst 13 f) .ready none])
  (by omega) (by rw [e0]; exact ⟨by simp,by simp,by simp,by simp,fun j hj=>zqA hj⟩) (by omega) (by simp) (by rw [e0]; simp)
 rw [run_all] at hH hX
 have hlen3:(σ++[AObj.cells [AV.map k] 0 false,AObj.cells [AV.bool false] 0 false,AObj.cells [AV.isl (GT.encs l) false] 0 false]).length=σ.length+3:=by simp
 by_cases hb:allB b l=true
 ·obtain ⟨b1,b2,b3,b4,b5⟩:=hH hb
  refine W_rfn (g:=129) (caps:=[.ptr (σ.length+2) 0]) (by decide) (by simp [h7]) (by rw [hlen3]; exact hc) (e:=.normal) (σ2:=σ'.set (σ.length+3) (.lp (rcOf Tryz.f74) (lst 13 f) .exhausted none)) (by rw [hlen3]; simp [endLp,b4,pdX]) ?_
  refine wpK_sound T σ.length 13 _ _ _ _ ?_
  have c3:∀ o,(σ'.set (σ.length+3) o)[σ.length+1]?=some (.cells [.bool false] 0 false):=fun o=>by rw [zqC (by omega)]; exact b3
  have c4:∀ o o',((σ'.set (σ.length+3) o).set (σ.length+1) o').take σ.length=σ:=fun o o'=>take_of (by simp; omega) fun j hj=>by rw [zqC (by omega),zqC (by omega)]; exact b5 j hj
  have c5:∀ o o',((σ'.set (σ.length+3) o).set (σ.length+1) o')[σ.length+1]?=some o':=fun o o'=>list_set_at (by simp; omega)
  simp [h4,c3,c4,c5,hb,dropA_gc,refLt,res1,refLt2_bool]
 ·have hb':allB b l=false:=by simpa using hb
  obtain ⟨b1,b3,b4,b5⟩:=hX hb'
  refine W_rfn (g:=129) (caps:=[.ptr (σ.length+2) 0]) (by decide) (by simp [h7]) (by rw [hlen3]; exact hc) (e:=.ret) (σ2:=σ'.set (σ.length+3) (.lp (rcOf Tryz.f74) (lst 13 f) .exhausted (some .ret))) (by rw [hlen3]; simp [endLp,b4,pdX]) ?_
  refine contQ_ret T σ.length 13 ?_
  have c3:∀ o,(σ'.set (σ.length+3) o)[σ.length+1]?=some (.cells [.bool false] 0 false):=fun o=>by rw [zqC (by omega)]; exact b3
  have c4:∀ o,(σ'.set (σ.length+3) o).take σ.length=σ:=fun o=>take_of (by simp; omega) fun j hj=>by rw [zqC (by omega)]; exact b5 j hj
  simp [h4,c3,c4,hb',dropA_gc,refLt,res1,refLt2_bool]
def tops (l:List GT):List ByteArray:=(l.filter fun t=>decide (t.kind=1)).map GT.name
def takesB (b:List ByteArray) (x:GL):List ByteArray:=if x.kind=1 then (tops x.args).foldl addB b else b
def takesP (b:List ByteArray) (x:GL):Int × List ByteArray:=
 if allB (takesB b x) x.args=false then (61,takesB b x) else if x.kind≠4 then (0,takesB b x) else if memB x.name (takesB b x)=true then (62,takesB b x) else (0,addB (takesB b x) x.name)
theorem take_set {σ τ:Heap} {k:Nat} {o:AObj} (hl:σ.length≤τ.length) (hk:k<σ.length) (h:∀ j,j<σ.length→j≠k→τ[j]?=σ[j]?) (hk2:τ[k]?=some o):τ.take σ.length=σ.set k o:=by
 apply List.ext_getElem?
 intro j
 rw [List.getElem?_take,List.getElem?_set]
 split
 ·rename_i hj
  by_cases e:k=j
  ·subst e; rw [if_pos rfl]; simp [hk,hk2]
  ·rw [if_neg e]; exact h j hj fun e'=>e e'.symm
 ·rename_i hj
  rw [if_neg (by omega),List.getElem?_eq_none (by omega)]
def fstC:ACode→ACode
 | .seq a _=>a
 | c=>c
def sndC:ACode→ACode
 | .seq _ b=>b
 | c=>c
theorem takes_tail {σ:Heap} {k:Nat} {b1:List ByteArray} (x:GL) (hl:x.size≤1000000000) (hkl:k<σ.length) (f:FR) (τ:Heap) (h0:f 0=.map k) (h3:f 3=.ptr σ.length 0) (hN:σ.length+1≤τ.length)
  (hx:τ[σ.length]?=some (.cells [.int .i64 x.kind,.str x.name,.isl (GT.encs x.args) false] 0 false)) (hk:τ[k]?=some (mpN b1)) (hall:∀ j,j<σ.length→j≠k→τ[j]?=σ[j]?)
  {r:Int × List ByteArray} (hr:r=if allB b1 x.args=false then (61,b1) else if x.kind≠4 then (0,b1) else if memB x.name b1=true then (62,b1) else (0,addB b1 x.name)) :
  wpK T σ.length 42 [.code (sndC (sndC c73.body))] f τ (endR 42 [.tmp 4] true .gc σ.length (.int .i64 r.1,σ.set k (mpN r.2))):=by
 have hsz:GT.sizes x.args≤1000000000:=by have:=GL.args_le x; omega
 have hc:=fun bs=>callAllB b1 x.args hsz bs τ hk
 have ht:=take_set (by omega) hkl hall hk
 simp [c73,sndC,h0,h3,hx,hc]
 by_cases ha:allB b1 x.args=true
 ·by_cases h4:x.kind=4
  ·by_cases hm:memB x.name b1=true
   ·simp [ha] at hr
    simp [h4,hm] at hr
    subst hr
    simp [h0,h3,hx,ha,h4,mlook_n hk,hm,dropA_gc,refLt,res1,refLt2_int,ht]
   ·have hm':memB x.name b1=false:=by simpa using hm
    simp [ha] at hr
    simp [h4,hm'] at hr
    subst hr
    have ht2:(τ.set k (mpN (addB b1 x.name))).take σ.length=σ.set k (mpN (addB b1 x.name)):=take_set (by simp; omega) hkl (fun j hj hne=>by rw [zqC (fun e=>hne e.symm)]; exact hall j hj hne) (list_set_at (by omega))
    simp [h0,h3,hx,ha,h4,mlook_n hk,mset_n hk,hm',dropA_gc,refLt,res1,refLt2_int,ht2]
  ·simp [ha] at hr
   simp [h4] at hr
   subst hr
   simp [h0,h3,hx,ha,h4,dropA_gc,refLt,res1,refLt2_int,ht]
 ·have ha':allB b1 x.args=false:=by simpa using ha
  simp [ha'] at hr
  subst hr
  simp [ha',dropA_gc,refLt,res1,refLt2_int,ht]
theorem callTakes (b:List ByteArray) (x:GL) (hl:x.size≤1000000000) {k:Nat} (bs:Nat) (σ:Heap) (hk:σ[k]?=some (mpN b)):callT T 73 [.map k,x.enc] bs σ=some (.int .i64 (takesP b x).1,σ.set k (mpN (takesP b x).2)):=by
 have hkl:k<σ.length:=(zqI.1 hk).1
 have hsz:GT.sizes x.args≤1000000000:=by have:=GL.args_le x; omega
 have hlen:=GT.len_sizes x.args
 have tail:=fun b1=>takes_tail (σ:=σ) (k:=k) (b1:=b1) x hl hkl
 refine heap_enter (af:=c73) (args':=[.map k,x.enc]) (σ1:=σ) rfl rfl (by simp [c73]) (by simp [c73]) (by simp [closeArgs,c73]) ?_
 show wpK T σ.length 42 [.code c73.body] _ σ (endR 42 [.tmp 4] true .gc σ.length _)
 have hb:c73.body=.seq (fstC c73.body) (.seq (fstC (sndC c73.body)) (sndC (sndC c73.body))):=rfl
 rw [hb]
 generalize sndC (sndC c73.body)=K at tail
 by_cases h1:x.kind=1
 ·simp [c73,fstC,sndC,h1]
  refine W_for T σ.length 42 x.args.length (fun i f τ=>f 0=.map k∧f 3=.ptr σ.length 0∧f 11=.isl (GT.encs x.args) false∧f 12=.int .i64 (x.args.length:Int)∧f 13=.int .i64 (i:Int)∧σ.length+1≤τ.length ∧
   τ[σ.length]?=some (.cells [.int .i64 x.kind,.str x.name,.isl (GT.encs x.args) false] 0 false)∧τ[k]?=some (mpN ((tops (x.args.take i)).foldl addB b))∧∀ j,j<σ.length→j≠k→τ[j]?=σ[j]?) ?_ _ _ ?_
  ·rintro i f τ hi ⟨h0,h3,h11,h12,h13,hN,hx,hm,hall⟩
   by_cases hlt:i<x.args.length
   ·have hw:IntKind.i64.wrap ((i:Int)+1)=(i:Int)+1:=wr64 (by omega) (by omega)
    have htk:tops (x.args.take (i+1))=tops (x.args.take i)++tops [x.args[i]]:=by
     unfold tops; rw [zqO hlt,List.filter_append,List.map_append]
    rw [htk,List.foldl_append]
    have hm2:∀ o,(τ++[o])[k]?=some (mpN ((tops (x.args.take i)).foldl addB b)):=fun o=>by rw [zqA (by omega)]; exact hm
    generalize (tops (x.args.take i)).foldl addB b=b1 at *
    by_cases hk1:x.args[i].kind=1
    ·simp [h0,h3,h11,h12,h13,hlt,hw,hk1,mset_n (hm2 _)]
     refine ⟨by omega,?_,?_,fun j hj hne=>?_⟩
     ·rw [zqC (by omega),zqA (by omega)]; exact hx
     ·have:tops [x.args[i]]=[x.args[i].name]:=by simp [tops,hk1]
      rw [this]; exact list_set_at (by simp; omega)
     ·rw [zqC (fun e=>hne e.symm),zqA (by omega)]; exact hall j hj hne
    ·have:tops [x.args[i]]=[]:=by simp [tops,hk1]
     simp [h0,h3,h11,h12,h13,hlt,hw,hk1,this]
     refine ⟨by omega,?_,hm2 _,fun j hj hne=>?_⟩
     ·rw [zqA (by omega)]; exact hx
     ·rw [zqA (by omega)]; exact hall j hj hne
   ·have he:i=x.args.length:=by omega
    subst he
    simp [h0,h3,h11,h12,h13]
    rw [List.take_length] at hm
    refine tail _ _ τ (by simp [h0]) (by simp [h3]) hN hx hm hall ?_
    simp [takesP,takesB,h1]
  ·simp [h1,hk]
   exact ⟨by rw [zqA hkl]; simpa [tops] using hk,fun j hj _=>zqA hj⟩
 ·simp [c73,fstC,sndC,h1]
  refine tail b _ _ (by simp) (by simp) (by simp) (by simp) (by rw [zqA hkl]; exact hk) (fun j hj _=>zqA hj) ?_
  simp [takesP,takesB,h1]
def badL (p:GP) (l:GL):Bool:=(decide (l.kind=1) || decide (l.kind=2)) && decide (arityP p l.name≠(l.args.length:Int))
def relsB (p:GP) (r:GR):Bool:=decide (arityP p r.head=(r.args.length:Int)) && !(r.body.any (badL p))
theorem rel1_call (p:GP) (hl:p.decls.length≤100000000000) (l:GL) {k:Nat} (bs:Nat) (σ:Heap) (h:σ[k]?=some (.cells p.enc.cells 0 false)):callT T 106 [l.enc,.ptr k 0] bs σ=some (.bool (badL p l),σ):=by
 have hk:k<σ.length:=(zqI.1 h).1
 have hk2:∀ o,(σ++[o])[k]?=some (.cells [.isl (p.decls.map GD.enc) false,.isl (p.facts.map GU.enc) false,.isl (p.rules.map GR.enc) false] 0 false):=fun o=>by rw [zqA hk]; exact h
 have hA:=callArity p l.name hl
 refine heap_enter (af:=c106) (args':=[l.enc,.ptr k 0]) (σ1:=σ) rfl rfl (by simp [c106]) (by simp [c106]) rfl ?_
 by_cases h1:l.kind=1
 ·simp [c106,baseA,hk2,h1,hA,←GP.enc_eq,dropA_gc,refLt,res1,refLt2_bool,refLt2_int,take_1,badL]
 ·by_cases h2:l.kind=2
  ·simp [c106,baseA,hk2,h1,h2,hA,←GP.enc_eq,dropA_gc,refLt,res1,refLt2_bool,refLt2_int,take_1,badL]
  ·simp [c106,baseA,hk2,h1,h2,hA,←GP.enc_eq,dropA_gc,refLt,res1,refLt2_bool,refLt2_int,take_1,badL]
theorem rels_ok (p:GP) (hl:p.decls.length≤100000000000) (r:GR) (hb:r.body.length≤100000000000):pureT T c72 [p.enc,r.enc]=some (.bool (relsB p r)):=by
 have hA:=callArity p r.head hl
 have hC:=fun σ (h:σ[0]?=some (AObj.cells [.isl (p.decls.map GD.enc) false,.isl (p.facts.map GU.enc) false,.isl (p.rules.map GR.enc) false] 0 false)) bs=>conLiteral (badL p) r.body 106 [.ptr 0 0] hb σ (fun x _ bs=>rel1_call p hl x bs σ h) bs
 apply pure_enter (by simp [c72])
 by_cases h1:arityP p r.head=(r.args.length:Int)
 ·simp [c72,h1,hA,hC,←GP.enc_eq,relsB,sym]
 ·simp [c72,h1,hA,hC,←GP.enc_eq,relsB]
theorem callRels (p:GP) (hl:p.decls.length≤100000000000) (r:GR) (hb:r.body.length≤100000000000) (bs:Nat) (σ:Heap):callT T 72 [p.enc,r.enc] bs σ=some (.bool (relsB p r),σ):=call_clean rfl rfl rfl (by simp) (rels_ok p hl r hb)
def goB:List ByteArray→List GL→Int × List ByteArray
 | b,[]=>(0,b)
 | b,l :: ls=>if (takesP b l).1≠0 then takesP b l else goB (takesP b l).2 ls
def ruleP (p:GP) (r:GR):Int:=if relsB p r=false then 60 else if (goB [] r.body).1≠0 then (goB [] r.body).1 else if allB (goB [] r.body).2 r.args=false then 61 else 0
theorem goB_stop:∀ (a c:List GL) (b:List ByteArray),(goB b a).1≠0→goB b (a++c)=goB b a
 | [],c,b,h=>absurd rfl h
 | l :: a,c,b,h=>by
  by_cases h1:(takesP b l).1≠0
  ·simp only [List.cons_append,goB,if_pos h1]
  ·have e:goB b (l :: a)=goB (takesP b l).2 a:=by simp only [goB,if_neg h1]
   rw [e] at h ⊢
   rw [←goB_stop a c _ h]
   simp only [List.cons_append,goB,if_neg h1]
theorem goB_on:∀ (a c:List GL) (b:List ByteArray),(goB b a).1=0→goB b (a++c)=goB (goB b a).2 c
 | [],c,b,h=>rfl
 | l :: a,c,b,h=>by
  by_cases h1:(takesP b l).1≠0
  ·have e:goB b (l :: a)=takesP b l:=by simp only [goB,if_pos h1]
   rw [e] at h; exact absurd h h1
  ·have e:goB b (l :: a)=goB (takesP b l).2 a:=by simp only [goB,if_neg h1]
   rw [e] at h ⊢
   rw [←goB_on a c _ h]
   simp only [List.cons_append,goB,if_neg h1]
theorem rule_ok (p:GP) (hl:p.decls.length≤100000000000) (r:GR) (hr:r.size≤1000000000):pureT T c44 [p.enc,r.enc]=some (.int .i64 (ruleP p r)):=by
 have hbl:=GR.body_len r
 have hsz:GT.sizes r.args≤1000000000:=by have:=GR.args_le r; omega
 have hR:=callRels p hl r (by omega)
 apply pure_enter (by simp [c44])
 by_cases h1:relsB p r=true
 ·simp [c44,hR,h1,←GP.enc_eq,←GR.enc_eq]
  refine W_for T 0 33 r.body.length (fun i f τ=>f 3=.ptr 1 0∧f 5=.map 2∧f 15=.isl (r.body.map GL.enc) false∧f 16=.int .i64 (r.body.length:Int)∧f 17=.int .i64 (i:Int)∧3≤τ.length∧(goB [] (r.body.take i)).1=0 ∧
   τ[1]?=some (.cells [.str r.label,.str r.head,.isl (GT.encs r.args) false,.str r.agg,.int .i64 r.pos,.isl (r.body.map GL.enc) false] 0 false)∧τ[2]?=some (mpN (goB [] (r.body.take i)).2)) ?_ _ _ ?_
  ·rintro i f τ hi ⟨h3,h5,h15,h16,h17,hN,hgo,hr1,hm⟩
   by_cases hlt:i<r.body.length
   ·have hw:IntKind.i64.wrap ((i:Int)+1)=(i:Int)+1:=wr64 (by omega) (by omega)
    have e0:r.body[i]?=some r.body[i]:=zqF hlt
    have htk:r.body.take (i+1)=r.body.take i++[r.body[i]]:=zqO hlt
    have hdr:r.body=r.body.take (i+1)++r.body.drop (i+1):=(List.take_append_drop _ _).symm
    have hxs:=GR.body_mem r (zqT hlt)
    have hm2:∀ o,(τ++[o])[2]?=some (mpN (goB [] (r.body.take i)).2):=fun o=>by rw [zqA (by omega)]; exact hm
    have hr2:∀ o o',((τ++[o]).set 2 o')[1]?=some (.cells [.str r.label,.str r.head,.isl (GT.encs r.args) false,.str r.agg,.int .i64 r.pos,.isl (r.body.map GL.enc) false] 0 false):=fun o o'=>by rw [zqC (by decide),zqA (by omega)]; exact hr1
    have hT:=callTakes (goB [] (r.body.take i)).2 r.body[i] (by omega) (k:=2) 0 (τ++[.cells [.int .i64 r.body[i].kind,.str r.body[i].name,.isl (GT.encs r.body[i].args) false] 0 false]) (hm2 _)
    have e1:goB [] (r.body.take (i+1))=if (takesP (goB [] (r.body.take i)).2 r.body[i]).1≠0 then takesP (goB [] (r.body.take i)).2 r.body[i] else (0,(takesP (goB [] (r.body.take i)).2 r.body[i]).2):=by
     rw [htk,goB_on _ _ _ hgo]; rfl
    by_cases hz:(takesP (goB [] (r.body.take i)).2 r.body[i]).1=0
    ·rw [hz] at hT
     have e2:goB [] (r.body.take (i+1))=(0,(takesP (goB [] (r.body.take i)).2 r.body[i]).2):=by rw [e1]; simp [hz]
     rw [e2]
     simp [h3,h5,h15,h16,h17,hlt,e0,hw,hT,←GL.enc_eq]
     exact ⟨by omega,by rw [zqA (by omega)]; exact hr1,list_set_at (by simp; omega)⟩
    ·have e2:goB [] (r.body.take (i+1))=takesP (goB [] (r.body.take i)).2 r.body[i]:=by rw [e1]; simp [hz]
     have e3:goB [] r.body=takesP (goB [] (r.body.take i)).2 r.body[i]:=by
      rw [←e2]; conv=>lhs; rw [hdr]
      exact goB_stop _ _ _ (by rw [e2]; exact hz)
     simp [h3,h5,h15,h16,h17,hlt,e0,hw,hT,hz,←GL.enc_eq,ruleP,h1,e3]
     done
   ·have he:i=r.body.length:=by omega
    subst he
    rw [List.take_length] at hgo hm
    have hA:=fun bs=>callAllB (goB [] r.body).2 r.args hsz (k:=2) bs τ hm
    by_cases ha:allB (goB [] r.body).2 r.args=true
    ·simp [h3,h5,h15,h16,h17,hr1,hA,ha,ruleP,h1,hgo]
     done
    ·have ha':allB (goB [] r.body).2 r.args=false:=by simpa using ha
     simp [h3,h5,h15,h16,h17,hr1,hA,ha',ruleP,h1,hgo]
     done
  ·simp [goB,mpN]
 ·have h1':relsB p r=false:=by simpa using h1
  simp [c44,hR,h1',←GP.enc_eq,←GR.enc_eq,ruleP]
theorem callRule6 (p:GP) (hl:p.decls.length≤100000000000) (r:GR) (hr:r.size≤1000000000) (bs:Nat) (σ:Heap):callT T 44 [p.enc,r.enc] bs σ=some (.int .i64 (ruleP p r),σ):=call_clean rfl rfl rfl (by simp) (rule_ok p hl r hr)
end Go.Proofs.YtjfgjnlocadpbaaGreatDoor
end
section
namespace Go.Proofs.YtjfgjnlocadpbaaGreatDoor
open Go.Mach
def firstP (p:GP):List GR→Nat→Int × Int
 | [],_=>(0,-1)
 | r :: rs,i=>if ruleP p r≠0 then (ruleP p r,(i:Int)) else firstP p rs (i+1)
def badF (p:GP) (t:GU):Bool:=decide (arityP p t.name≠(t.args.length:Int))
def dupD:List ByteArray→List GD→Bool
 | _,[]=>false
 | b,d :: ds=>memB d.name b || dupD (addB b d.name) ds
def checkP (p:GP):Int × Int:=if progB p=false then (40,-1) else if dupD [] p.decls=true then (60,-1) else if p.facts.any (badF p)=true then (60,-1) else firstP p p.rules 0
def pCells (p:GP):AObj:=.cells [.isl (p.decls.map GD.enc) false,.isl (p.facts.map GU.enc) false,.isl (p.rules.map GR.enc) false] 0 false
abbrev res2 (r:Int × Int):AV:=.tup [.int .i64 r.1,.int .i64 r.2]
abbrev T2:ACode:=sndC (sndC (sndC (sndC c19.body)))
theorem check_rules (p:GP) (hp:p.size≤1000000000) (f:FR) (τ:Heap) (h1:f 1=.ptr 0 0) (h0:τ[0]?=some (pCells p)):wpK T 0 63 [.code (sndC T2)] f τ (endP 63 [.tmp 2,.tmp 3] (res2 (firstP p p.rules 0))):=by
 have hl:=GP.rules_len p
 have hdl:=GP.decls_len p
 unfold pCells at h0
 simp [T2,c19,sndC,h1,h0]
 refine W_for T 0 63 p.rules.length (fun i f τ=>f 1=.ptr 0 0∧f 48=.isl (p.rules.map GR.enc) false∧f 49=.int .i64 (p.rules.length:Int)∧f 50=.int .i64 (i:Int)∧1≤τ.length∧τ[0]?=some (.cells [.isl (p.decls.map GD.enc) false,.isl (p.facts.map GU.enc) false,.isl (p.rules.map GR.enc) false] 0 false)∧firstP p p.rules 0=firstP p (p.rules.drop i) i) ?_ _ _ ?_
 ·rintro i f τ hi ⟨h1,h48,h49,h50,hN,h0,hf⟩
  by_cases hlt:i<p.rules.length
  ·have hw:IntKind.i64.wrap ((i:Int)+1)=(i:Int)+1:=wr64 (by omega) (by omega)
   have e0:p.rules[i]?=some p.rules[i]:=zqF hlt
   have hrs:=GP.rules_mem p (zqT hlt)
   have hR:=callRule6 p (by omega) p.rules[i] (by omega)
   have h02:∀ o,(τ++[o])[0]?=some (.cells [.isl (p.decls.map GD.enc) false,.isl (p.facts.map GU.enc) false,.isl (p.rules.map GR.enc) false] 0 false):=fun o=>by rw [zqA (by omega)]; exact h0
   have h03:∀ o (h:0<(τ++[o]).length),(τ++[o])[0]'h=.cells [.isl (p.decls.map GD.enc) false,.isl (p.facts.map GU.enc) false,.isl (p.rules.map GR.enc) false] 0 false:=fun o h=>Option.some_inj.1 ((zqF h).symm.trans (h02 o))
   rw [zqM hlt] at hf
   simp only [firstP] at hf
   by_cases hz:ruleP p p.rules[i]=0
   ·rw [if_neg (by simpa using hz)] at hf
    rw [hz] at hR
    simp [h1,h48,h49,h50,hlt,e0,hw,h02,h03,hR,←GP.enc_eq,←GR.enc_eq,hf]
   ·rw [if_pos hz] at hf
    simp [h1,h48,h49,h50,hlt,e0,hw,h02,h03,hR,←GP.enc_eq,←GR.enc_eq,hf,hz,endP,res1]
  ·have he:i=p.rules.length:=by omega
   subst he
   rw [List.drop_length] at hf
   simp [h1,h48,h49,h50,hf,firstP,endP,res1]
 ·simp [h1,h0]
  exact (zqI.1 h0).1
theorem check_facts (p:GP) (hp:p.size≤1000000000) (f:FR) (τ:Heap) (h1:f 1=.ptr 0 0) (h0:τ[0]?=some (pCells p)):wpK T 0 63 [.code T2] f τ (endP 63 [.tmp 2,.tmp 3] (res2 (if p.facts.any (badF p)=true then (60,-1) else firstP p p.rules 0))):=by
 have hl:=GP.facts_len p
 have hdl:=GP.decls_len p
 have tail:=check_rules p hp
 obtain ⟨B,hB⟩:∃ B,p.facts.any (badF p)=B:=⟨_,rfl⟩
 rw [hB]
 have hb:T2=.seq (fstC T2) (sndC T2):=rfl
 rw [hb]
 generalize sndC T2=K at tail
 unfold pCells at h0
 simp [T2,c19,sndC,fstC,h1,h0]
 refine W_for T 0 63 p.facts.length (fun i f τ=>f 1=.ptr 0 0∧f 32=.isl (p.facts.map GU.enc) false∧f 33=.int .i64 (p.facts.length:Int)∧f 34=.int .i64 (i:Int)∧1≤τ.length∧τ[0]?=some (.cells [.isl (p.decls.map GD.enc) false,.isl (p.facts.map GU.enc) false,.isl (p.rules.map GR.enc) false] 0 false)∧B=(p.facts.drop i).any (badF p)) ?_ _ _ ?_
 ·rintro i f τ hi ⟨h1,h48,h49,h50,hN,h0,hf⟩
  by_cases hlt:i<p.facts.length
  ·have hw:IntKind.i64.wrap ((i:Int)+1)=(i:Int)+1:=wr64 (by omega) (by omega)
   have e0:p.facts[i]?=some p.facts[i]:=zqF hlt
   have hA:=callArity p p.facts[i].name (by omega)
   have h02:∀ o,(τ++[o])[0]?=some (.cells [.isl (p.decls.map GD.enc) false,.isl (p.facts.map GU.enc) false,.isl (p.rules.map GR.enc) false] 0 false):=fun o=>by rw [zqA (by omega)]; exact h0
   have h03:∀ o (h:0<(τ++[o]).length),(τ++[o])[0]'h=.cells [.isl (p.decls.map GD.enc) false,.isl (p.facts.map GU.enc) false,.isl (p.rules.map GR.enc) false] 0 false:=fun o h=>Option.some_inj.1 ((zqF h).symm.trans (h02 o))
   rw [zqM hlt] at hf
   simp only [List.any_cons] at hf
   by_cases hz:arityP p p.facts[i].name=(p.facts[i].args.length:Int)
   ·have hbf:badF p p.facts[i]=false:=by simp [badF,hz]
    rw [hbf,Bool.false_or] at hf
    simp [h1,h48,h49,h50,hlt,e0,hw,h02,h03,hA,hz,←GP.enc_eq,hf]
   ·have hbf:badF p p.facts[i]=true:=by simp [badF,hz]
    rw [hbf,Bool.true_or] at hf
    simp [h1,h48,h49,h50,hlt,e0,hw,h02,h03,hA,hz,←GP.enc_eq,hf,endP,res1]
  ·have he:i=p.facts.length:=by omega
   subst he
   rw [List.drop_length,List.any_nil] at hf
   simp [h1,h48,h49,h50,hf]
   exact tail (upF f 35 (.bool false)) τ (by simp [h1]) h0
 ·simp only [List.drop_zero,hB]
  simp [h1,h0]
  exact (zqI.1 h0).1
theorem check_ok (p:GP) (hp:p.size≤1000000000):pureT T c19 [p.enc]=some (res2 (checkP p)):=by
 have hl:=GP.decls_len p
 have tail:=check_facts p hp
 have hR:=callPRight p (by omega)
 apply pure_enter (by simp [c19])
 show wpK T 0 63 [.code c19.body] _ [] (endP 63 [.tmp 2,.tmp 3] _)
 have hb:c19.body=.seq (fstC c19.body) (.seq (fstC (sndC c19.body)) (.seq (fstC (sndC (sndC c19.body))) (.seq (fstC (sndC (sndC (sndC c19.body)))) T2))):=rfl
 rw [hb]
 generalize T2=K at tail
 by_cases hr:progB p=true
 ·simp [c19,sndC,fstC,hR,hr,←GP.enc_eq,sym]
  refine W_for T 0 63 p.decls.length (fun i f τ=>f 1=.ptr 0 0∧f 4=.map 1∧f 17=.isl (p.decls.map GD.enc) false∧f 18=.int .i64 (p.decls.length:Int)∧f 19=.int .i64 (i:Int)∧2≤τ.length∧τ[0]?=some (pCells p)∧∃ b,τ[1]?=some (mpN b)∧dupD [] p.decls=dupD b (p.decls.drop i)) ?_ _ _ ?_
  ·rintro i f τ hi ⟨h1,h4,h48,h49,h50,hN,h0,b,hm,hf⟩
   by_cases hlt:i<p.decls.length
   ·have hw:IntKind.i64.wrap ((i:Int)+1)=(i:Int)+1:=wr64 (by omega) (by omega)
    have e0:p.decls[i]?=some p.decls[i]:=zqF hlt
    have hm2:∀ o,(τ++[o])[1]?=some (mpN b):=fun o=>by rw [zqA (by omega)]; exact hm
    have h03:∀ o (h:0<(τ++[o]).length),(τ++[o])[0]'h=pCells p:=fun o h=>Option.some_inj.1 ((zqF h).symm.trans (by rw [zqA (by omega)]; exact h0))
    rw [zqM hlt] at hf
    simp only [dupD] at hf
    cases hin:memB p.decls[i].name b
    ·rw [hin,Bool.false_or] at hf
     simp [h1,h4,h48,h49,h50,hlt,e0,hw,mlook_n (hm2 _),mset_n (hm2 _),hin]
     refine ⟨by omega,?_,addB b p.decls[i].name,?_,hf⟩
     ·first | exact h03 _ _ | (rw [zqA (by omega)]; exact h0)
     ·first | exact list_set_at (by simp; omega) | (simp; omega)
    ·rw [hin,Bool.true_or] at hf
     simp [h1,h4,h48,h49,h50,hlt,e0,hw,mlook_n (hm2 _),hin,endP,res1,checkP,hr,hf]
   ·have he:i=p.decls.length:=by omega
    subst he
    rw [List.drop_length] at hf
    have hf2:dupD [] p.decls=false:=hf
    simp [h1,h4,h48,h49,h50]
    have ht:=tail (upF f 20 (.bool false)) τ (by simp [h1]) h0
    simpa [checkP,hr,hf2] using ht
  ·simp [pCells]
   exact ⟨[],rfl,rfl⟩
 ·have hr':progB p=false:=by simpa using hr
  simp [c19,sndC,fstC,hR,hr',←GP.enc_eq,sym,endP,res1,checkP]
theorem callCheck (p:GP) (hp:p.size≤1000000000) (bs:Nat) (σ:Heap):callT T 19 [p.enc] bs σ=some (res2 (checkP p),σ):=call_clean rfl rfl rfl (by simp) (check_ok p hp)
end Go.Proofs.YtjfgjnlocadpbaaGreatDoor
end
section
namespace Go.Proofs.YtjfgjnlocadpbaaGreatDoor
open Go.Mach
def relsD:List GD:=[⟨⟨#[108,105,110,107]⟩,3⟩,⟨⟨#[112]⟩,2⟩,⟨⟨#[113]⟩,2⟩,⟨⟨#[114]⟩,1⟩,⟨⟨#[115]⟩,3⟩,⟨⟨#[116]⟩,2⟩]
theorem relations6_ok:pureT T c21 []=some (.isl (relsD.map GD.enc) false):=by
 apply pure_enter (by simp [c21])
 simp [c21,setRun,endP,res1,relsD,GD.enc]
 exact ⟨_,rfl⟩
def numT (n:Int):GT:=.mk 2 ⟨#[]⟩ (.mk 1 n ⟨#[]⟩ []) []
theorem num6_ok (n:Int):pureT T c51 [.int .i64 n]=some (numT n).enc:=by
 apply pure_enter (by simp [c51])
 simp [c51,setRun,endP,res1,numT,GT.enc,GV.kind,GV.num,GV.text,GV.items,GV.encs]
theorem callRelations6 (bs:Nat) (σ:Heap):callT T 21 [] bs σ=some (.isl (relsD.map GD.enc) false,σ):=call_clean rfl rfl rfl rfl relations6_ok
theorem callNum6 (n:Int) (bs:Nat) (σ:Heap):callT T 51 [.int .i64 n] bs σ=some ((numT n).enc,σ):=call_clean rfl rfl rfl rfl (num6_ok n)
theorem pick6_ok (c n:Int) (h:n≠0):pureT T c27 [.int .i64 c,.int .i64 n]=some (.int .i64 ((if c<0 then IntKind.i64.wrap (0 - IntKind.i64.wrap (c+1)) else c).tmod n)):=by
 apply pure_enter (by simp [c27])
 by_cases hc:c<0
 ·simp [c27,hc,h]
 ·simp [c27,hc,h]
theorem pick6 (c:Int) (n:Nat) (h:0<n) (h1:GV.i64ok c) (bs:Nat) (σ:Heap) :
  callT T 27 [.int .i64 c,.int .i64 (n:Int)] bs σ=some (.int .i64 (pickN c n:Int),σ):=by
 refine call_clean rfl rfl rfl rfl ?_
 rw [pick6_ok c n (by omega),pick_eq c n h h1.1 h1.2]
def vName (n:Nat):ByteArray:=[⟨#[83]⟩,⟨#[68]⟩,⟨#[88]⟩,⟨#[89]⟩,⟨#[90]⟩,⟨#[67]⟩].getD n ⟨#[]⟩
def vT (c:Int):GT:=.mk 1 (vName (pickN c 6)) (.mk 0 0 ⟨#[]⟩ []) []
theorem v6_ok (c:Int) (hc:GV.i64ok c):pureT T c50 [.int .i64 c]=some (vT c).enc:=by
 have hp:=fun bs σ=>pick6 c 6 (by omega) hc bs σ
 have hlt:pickN c 6<6:=pickN_lt (by omega)
 apply pure_enter (by simp [c50])
 unfold vT
 simp only [Int.cast_ofNat_Int] at hp
 generalize pickN c 6=n at *
 match n,hlt with
 | 0,_=>simp [c50,setRun,hp,endP,res1,GT.enc,GV.kind,GV.num,GV.text,GV.items,GV.encs,vName]
 | 1,_=>simp [c50,setRun,hp,endP,res1,GT.enc,GV.kind,GV.num,GV.text,GV.items,GV.encs,vName]
 | 2,_=>simp [c50,setRun,hp,endP,res1,GT.enc,GV.kind,GV.num,GV.text,GV.items,GV.encs,vName]
 | 3,_=>simp [c50,setRun,hp,endP,res1,GT.enc,GV.kind,GV.num,GV.text,GV.items,GV.encs,vName]
 | 4,_=>simp [c50,setRun,hp,endP,res1,GT.enc,GV.kind,GV.num,GV.text,GV.items,GV.encs,vName]
 | 5,_=>simp [c50,setRun,hp,endP,res1,GT.enc,GV.kind,GV.num,GV.text,GV.items,GV.encs,vName]
theorem callV6 (c:Int) (hc:GV.i64ok c) (bs:Nat) (σ:Heap):callT T 50 [.int .i64 c] bs σ=some ((vT c).enc,σ):=call_clean rfl rfl rfl rfl (v6_ok c hc)
end Go.Proofs.YtjfgjnlocadpbaaGreatDoor
end
section
namespace Go.Proofs.YtjfgjnlocadpbaaGreatDoor
open Go.Mach
structure GRaw where
 kind:Int
 name:Int
 n0:Int
 n1:Int
 n2:Int
 n3:Int
namespace GRaw
def enc (x:GRaw):AV:=.agg [.int .i64 x.kind,.int .i64 x.name,.int .i64 x.n0,.int .i64 x.n1,.int .i64 x.n2,.int .i64 x.n3]
def ok (x:GRaw):Prop:=GV.i64ok x.kind∧GV.i64ok x.name∧GV.i64ok x.n0∧GV.i64ok x.n1∧GV.i64ok x.n2∧GV.i64ok x.n3
def at' (x:GRaw) (i:Nat):Int:=if i=0 then x.n0 else if i=1 then x.n1 else if i=2 then x.n2 else x.n3
def zero:GRaw:=⟨0,0,0,0,0,0⟩
theorem enc_mk (k n a b c d:Int):AV.agg [.int .i64 k,.int .i64 n,.int .i64 a,.int .i64 b,.int .i64 c,.int .i64 d]=enc ⟨k,n,a,b,c,d⟩:=rfl
theorem enc_eq (x:GRaw):x.enc=.agg [.int .i64 x.kind,.int .i64 x.name,.int .i64 x.n0,.int .i64 x.n1,.int .i64 x.n2,.int .i64 x.n3]:=rfl
@[simp] theorem enc_cells (x:GRaw):x.enc.cells=[.int .i64 x.kind,.int .i64 x.name,.int .i64 x.n0,.int .i64 x.n1,.int .i64 x.n2,.int .i64 x.n3]:=rfl
theorem zero_ok:zero.ok:=by simp [ok,zero,GV.i64ok]
theorem at_ok {x:GRaw} (h:x.ok) (i:Nat):GV.i64ok (x.at' i):=by
 obtain ⟨h1,h2,h3,h4,h5,h6⟩:=h
 unfold at'
 split
 ·exact h3
 split
 ·exact h4
 split
 ·exact h5
 ·exact h6
end GRaw
def RawsOk (rules:List (List GRaw)):Prop:=(∀ l∈rules,(∀ x∈l,x.ok)∧l.length≤100000000000)∧rules.length≤100000000000
def FactsOk (facts:List GRaw):Prop:=(∀ x∈facts,x.ok)∧facts.length≤100000000000
abbrev encRR (rules:List (List GRaw)):List AV:=rules.map fun l=>AV.isl (l.map GRaw.enc) false
theorem tdiv_ok {k:Int} (h:GV.i64ok k) (n:Nat) (hn:2≤n):GV.i64ok (k.tdiv n):=by
 unfold GV.i64ok at h ⊢
 have h1:(k.tdiv n).natAbs=k.natAbs / n:=by rw [Int.natAbs_tdiv]; rfl
 have h2:k.natAbs / n * 2≤k.natAbs:=Nat.le_trans (Nat.mul_le_mul_left _ hn) (Nat.div_mul_le_self _ _)
 omega
def relR (x:GRaw):GD:=relsD.getD (pickN x.name 6) ⟨⟨#[]⟩,0⟩
def addrN (n:Nat):ByteArray:=[⟨#[97]⟩,⟨#[98]⟩,⟨#[99]⟩,⟨#[100]⟩].getD n ⟨#[]⟩
def vTn (n:Nat):GT:=.mk 1 (vName n) (.mk 0 0 ⟨#[]⟩ []) []
theorem vT_n (c:Int):vT c=vTn (pickN c 6):=rfl
def addrT (n:Nat):GT:=.mk 2 ⟨#[]⟩ (.mk 3 0 (addrN n) []) []
def sumT (n:Nat):GT:=.mk 4 ⟨#[43]⟩ (.mk 0 0 ⟨#[]⟩ []) [vTn n,numT 1]
def argR (k:Int):GT:=
 if pickN k 12=9 then numT (pickN (k.tdiv 12) 4) else if pickN k 12=10 then addrT (pickN (k.tdiv 12) 3) else if pickN k 12=11 then sumT (pickN (k.tdiv 12) 6) else vT k
def argsR (x:GRaw) (n:Nat):List GT:=(List.range n).map fun i=>if i=0 then vT x.n0 else argR (x.at' i)
def atomR (x:GRaw):List GT:=argsR x (relR x).arity.toNat
def tSix:List ByteArray:=[⟨#[61,61]⟩,⟨#[33,61]⟩,⟨#[60]⟩,⟨#[60,61]⟩,⟨#[62]⟩,⟨#[62,61]⟩]
def litR (x:GRaw):GL:=
 if pickN x.kind 8<4 then ⟨1,(relR x).name,atomR x⟩
 else if pickN x.kind 8=4 then ⟨2,(relR x).name,atomR x⟩
 else if pickN x.kind 8<7 then ⟨3,tSix.getD (pickN x.name 6) ⟨#[]⟩,[vT x.n0,if pickN x.n3 2=0 then numT (pickN x.n2 4) else vT x.n1]⟩
 else ⟨4,vName (pickN x.n0 6),[.mk 4 (if pickN x.n3 2=0 then ⟨#[43]⟩ else ⟨#[45]⟩) (.mk 0 0 ⟨#[]⟩ []) [vT x.n1,if pickN (x.n3.tdiv 2) 2=0 then numT 1 else vT x.n2]]⟩
def bodyR (l:List GRaw):List GL:=if l.length≤1 then [litR .zero] else ((l.take 5).drop 1).map litR
def headR (l:List GRaw):GRaw:=l.headD .zero
def aggR (h:GRaw):Bool:=decide (pickN h.kind 5=4) && decide (((atomR h)[1]?).map GT.kind=some 1)
def aggN (n:Nat):ByteArray:=if n=0 then sMin else if n=1 then sMax else sCount
def ruleR (l:List GRaw) (n:Nat):GR:=
 ⟨(⟨#[114]⟩++⟨#[UInt8.ofNat (97+n)]⟩),(relR (headR l)).name,atomR (headR l),if aggR (headR l)=true then aggN (pickN ((headR l).kind.tdiv 5) 3) else ⟨#[]⟩,if aggR (headR l)=true then 1 else 0,bodyR l⟩
def addrV (n:Nat):GV:=.mk 3 0 (addrN n) []
def numV (n:Int):GV:=.mk 1 n ⟨#[]⟩ []
def fargR (x:GRaw) (i:Nat):GV:=if i=0∨i=1∧(pickN x.name 6=0∨pickN (x.at' i) 2=0) then addrV (pickN ((x.at' i).tdiv 2) 4) else numV (pickN ((x.at' i).tdiv 2) 5)
def factR (x:GRaw):GU:=⟨(relR x).name,(List.range (relR x).arity.toNat).map (fargR x)⟩
def rulesR (rules:List (List GRaw)):List GR:=((rules.take 6).zipIdx).map fun p=>ruleR p.1 p.2
def progR (rules:List (List GRaw)) (facts:List GRaw):GP:=⟨relsD,(facts.take 12).map factR,rulesR rules⟩
theorem rel_cases (x:GRaw):∃ n,n<6∧pickN x.name 6=n∧relR x=relsD.getD n ⟨⟨#[]⟩,0⟩:=⟨_,pickN_lt (by omega),rfl,rfl⟩
theorem rel_arity (x:GRaw):1≤(relR x).arity.toNat∧(relR x).arity.toNat≤3∧((relR x).arity.toNat:Int)=(relR x).arity:=by
 obtain ⟨n,hn,_,e⟩:=rel_cases x
 rw [e]
 match n,hn with
 | 0,_=>decide
 | 1,_=>decide
 | 2,_=>decide
 | 3,_=>decide
 | 4,_=>decide
 | 5,_=>decide
theorem rel_OK (x:GRaw):relOK (relR x).name=true:=by
 obtain ⟨n,hn,_,e⟩:=rel_cases x
 rw [e]
 match n,hn with
 | 0,_=>decide +kernel
 | 1,_=>decide +kernel
 | 2,_=>decide +kernel
 | 3,_=>decide +kernel
 | 4,_=>decide +kernel
 | 5,_=>decide +kernel
theorem vTn_R:∀ n,n<6→termR 8 (vTn n)=true:=by decide +kernel
theorem vT_R (c:Int):termR 8 (vT c)=true:=vTn_R _ (pickN_lt (by omega))
theorem numT_R:∀ n:Nat,n<6→termR 8 (numT n)=true:=by decide +kernel
theorem addrT_R:∀ n,n<3→termR 8 (addrT n)=true:=by decide +kernel
theorem sumT_R:∀ n,n<6→termR 8 (sumT n)=true:=by decide +kernel
theorem argR_R (k:Int):termR 8 (argR k)=true:=by
 unfold argR
 split
 ·exact numT_R _ (Nat.lt_of_lt_of_le (pickN_lt (by omega)) (by omega))
 split
 ·exact addrT_R _ (pickN_lt (by omega))
 split
 ·exact sumT_R _ (pickN_lt (by omega))
 ·exact vT_R k
theorem argsR_R (x:GRaw) (n:Nat):(argsR x n).all (termR 8)=true:=by
 rw [zqQ]
 intro t ht
 obtain ⟨i,_,rfl⟩:=List.mem_map.1 ht
 split
 ·exact vT_R _
 ·exact argR_R _
@[simp] theorem argsR_len (x:GRaw) (n:Nat):(argsR x n).length=n:=by simp [argsR]
theorem argsR_succ (x:GRaw) (n:Nat):argsR x (n+1)=vT x.n0 :: (List.range' 1 n).map fun i=>argR (x.at' i):=by
 unfold argsR
 rw [List.range_eq_range',List.range'_succ,List.map_cons]
 simp only [if_true]
 congr 1
 apply List.map_congr_left
 intro i hi
 rw [List.mem_range'_1] at hi
 rw [if_neg (by omega)]
theorem atom_argsB (x:GRaw):argsB (atomR x)=true:=by
 obtain ⟨h1,h2,_⟩:=rel_arity x
 unfold argsB atomR
 have h3:=argsR_R x (relR x).arity.toNat
 have h4:headOK (argsR x (relR x).arity.toNat)=true:=by
  obtain ⟨m,hm⟩:∃ m,(relR x).arity.toNat=m+1:=⟨_,(Nat.succ_pred_eq_of_pos h1).symm⟩
  rw [hm,argsR_succ]; rfl
 rw [h3,h4,argsR_len]
 simp; omega
theorem vName_OK:∀ n,n<6→varOK (vName n)=true:=by decide +kernel
theorem tSix_OK:∀ n,n<6→tOK (tSix.getD n ⟨#[]⟩)=true:=by decide +kernel
theorem opT_R:∀ a,a<6→∀ b,b<6→∀ o,o<2→termR 8 (.mk 4 (if o=0 then ⟨#[43]⟩ else ⟨#[45]⟩) (.mk 0 0 ⟨#[]⟩ []) [vTn a,vTn b])=true:=by decide +kernel
theorem opN_R:∀ a,a<6→∀ o,o<2→termR 8 (.mk 4 (if o=0 then ⟨#[43]⟩ else ⟨#[45]⟩) (.mk 0 0 ⟨#[]⟩ []) [vTn a,numT 1])=true:=by decide +kernel
theorem litR_B (x:GRaw):litB (litR x)=true:=by
 unfold litR
 split
 ·simp [litB,rel_OK,atom_argsB]
 split
 ·simp [litB,rel_OK,atom_argsB]
 split
 ·have h1:=tSix_OK _ (pickN_lt (c:=x.name) (n:=6) (by omega))
  have h2:=numT_R (pickN x.n2 4) (Nat.lt_of_lt_of_le (pickN_lt (by omega)) (by omega))
  have h3:termR 8 (if pickN x.n3 2=0 then numT (pickN x.n2 4) else vT x.n1)=true:=by
   split
   ·exact h2
   ·exact vT_R _
  generalize tSix.getD (pickN x.name 6) ⟨#[]⟩=o at *
  simp [litB,h1,vT_R,h3]
 ·have h1:=vName_OK _ (pickN_lt (c:=x.n0) (n:=6) (by omega))
  have h3:termR 8 (.mk 4 (if pickN x.n3 2=0 then ⟨#[43]⟩ else ⟨#[45]⟩) (.mk 0 0 ⟨#[]⟩ []) [vT x.n1,if pickN (x.n3.tdiv 2) 2=0 then numT 1 else vT x.n2])=true:=by
   split
   ·rename_i h
    split
    ·exact opN_R _ (pickN_lt (c:=x.n1) (by omega)) 0 (by omega)
    ·exact opT_R _ (pickN_lt (c:=x.n1) (by omega)) _ (pickN_lt (c:=x.n2) (by omega)) 0 (by omega)
   ·split
    ·exact opN_R _ (pickN_lt (c:=x.n1) (by omega)) 1 (by omega)
    ·exact opT_R _ (pickN_lt (c:=x.n1) (by omega)) _ (pickN_lt (c:=x.n2) (by omega)) 1 (by omega)
  simp [litB,h1,h3]
theorem bodyR_len (l:List GRaw):1≤(bodyR l).length∧(bodyR l).length≤4:=by
 unfold bodyR
 split
 ·simp
 ·simp; omega
theorem bodyR_mem (l:List GRaw) {y:GL} (h:y∈bodyR l):∃ x,y=litR x:=by
 unfold bodyR at h
 split at h
 ·simp at h; exact ⟨_,h⟩
 ·obtain ⟨x,_,rfl⟩:=List.mem_map.1 h; exact ⟨x,rfl⟩
theorem label_OK:∀ n,n<26→relOK (⟨#[114]⟩++⟨#[UInt8.ofNat (97+n)]⟩)=true:=by decide +kernel
theorem aggN_ne (n:Nat):aggN n≠⟨#[]⟩:=by
 unfold aggN
 split
 ·decide
 split <;> decide
theorem ruleR_B (l:List GRaw) (n:Nat) (hn:n<26):ruleB (ruleR l n)=true:=by
 have h1:=bodyR_len l
 have h2:(bodyR l).all litB=true:=by
  rw [zqQ]; intro y hy
  obtain ⟨x,rfl⟩:=bodyR_mem l hy
  exact litR_B x
 have h3:aggB (ruleR l n)=true:=by
  unfold aggB ruleR
  by_cases ha:aggR (headR l)=true
  ·simp only [ha,if_true,if_neg (aggN_ne _)]
   have h4:aggN (pickN ((headR l).kind.tdiv 5) 3)=sMin∨aggN (pickN ((headR l).kind.tdiv 5) 3)=sMax∨aggN (pickN ((headR l).kind.tdiv 5) 3)=sCount:=by
    unfold aggN
    split
    ·exact .inl rfl
    split
    ·exact .inr (.inl rfl)
    ·exact .inr (.inr rfl)
   unfold aggR at ha
   simp only [zqL,decide_eq_true_eq] at ha
   have h5:1<(atomR (headR l)).length:=by
    obtain ⟨x,hx,_⟩:=zqG.1 ha.2
    exact (zqI.1 hx).1
   simp only [zqL,decide_eq_true_eq]
   exact ⟨⟨h4,by omega,by omega⟩,ha.2⟩
  ·simp [ha]
 have e1:(ruleR l n).label=(⟨#[114]⟩++⟨#[UInt8.ofNat (97+n)]⟩):=rfl
 have e2:(ruleR l n).head=(relR (headR l)).name:=rfl
 have e3:(ruleR l n).args=atomR (headR l):=rfl
 have e4:(ruleR l n).body=bodyR l:=rfl
 simp only [ruleB,h3,e1,e2,e3,e4,label_OK n hn,rel_OK,atom_argsB,h2,Bool.and_true,Bool.true_and,decide_eq_true_eq]
 omega
theorem addrV_R:∀ n,n<4→rightT (addrV n)=true:=by decide +kernel
theorem numV_R:∀ n:Nat,n<6→rightT (numV n)=true:=by decide +kernel
theorem fargR_R (x:GRaw) (i:Nat):rightT (fargR x i)=true:=by
 unfold fargR
 split
 ·exact addrV_R _ (pickN_lt (by omega))
 ·exact numV_R _ (Nat.lt_of_lt_of_le (pickN_lt (by omega)) (by omega))
theorem fargs_len (x:GRaw):(factR x).args.length=(relR x).arity.toNat:=by simp [factR]
theorem tupB_R (x:GRaw):tupB (factR x)=true:=by
 obtain ⟨h1,h2,_⟩:=rel_arity x
 have h3:(factR x).args.all rightT=true:=by
  rw [zqQ]; intro v hv
  obtain ⟨i,_,rfl⟩:=List.mem_map.1 hv
  exact fargR_R x i
 have h4:∃ v l,(factR x).args=v :: l∧v.kind=3:=by
  obtain ⟨m,hm⟩:∃ m,(relR x).arity.toNat=m+1:=⟨_,(Nat.succ_pred_eq_of_pos h1).symm⟩
  refine ⟨fargR x 0,(List.range' 1 m).map (fargR x),?_,?_⟩
  ·simp only [factR,hm,List.range_eq_range',List.range'_succ,List.map_cons]
  ·simp [fargR,addrV]
 have h5:=fargs_len x
 obtain ⟨v,l,e,hv⟩:=h4
 have e1:(factR x).name=(relR x).name:=rfl
 unfold tupB
 rw [h3,e1,rel_OK,h5]
 rw [e]
 simp [hv]; omega
theorem relsD_B:relsD.all declB=true:=by decide +kernel
theorem relsD_dup:dupD [] relsD=false:=by decide +kernel
theorem arity_rel {p:GP} (hp:p.decls=relsD) (x:GRaw):arityP p (relR x).name=(relR x).arity:=by
 obtain ⟨n,hn,_,e⟩:=rel_cases x
 have hd:∀ m,arityP p m=arityP ⟨relsD,[],[]⟩ m:=fun m=>by unfold arityP; rw [hp]
 rw [e,hd]
 match n,hn with
 | 0,_=>decide +kernel
 | 1,_=>decide +kernel
 | 2,_=>decide +kernel
 | 3,_=>decide +kernel
 | 4,_=>decide +kernel
 | 5,_=>decide +kernel
theorem fact_good {p:GP} (hp:p.decls=relsD) (x:GRaw):badF p (factR x)=false:=by
 have h1:=arity_rel hp x
 have h2:=(rel_arity x).2.2
 have h3:=fargs_len x
 have e1:(factR x).name=(relR x).name:=rfl
 simp [badF,h1,h3,e1,h2]
theorem facts_good {p:GP} (hp:p.decls=relsD) (l:List GRaw):(l.map factR).any (badF p)=false:=by
 rw [List.any_eq_false]; intro v hv
 obtain ⟨x,_,rfl⟩:=List.mem_map.1 hv
 simp [fact_good hp]
theorem rule_congr {p q:GP} (h:p.decls=q.decls) (r:GR):ruleP p r=ruleP q r:=by
 have ha:arityP p=arityP q:=by funext n; unfold arityP; rw [h]
 have hb:badL p=badL q:=by funext l; unfold badL; rw [ha]
 have hr:relsB p r=relsB q r:=by unfold relsB; rw [ha,hb]
 unfold ruleP; rw [hr]
theorem first_congr {p q:GP} (h:p.decls=q.decls):∀ (l:List GR) (i:Nat),firstP p l i=firstP q l i
 | [],i=>rfl
 | r :: l,i=>by simp only [firstP,rule_congr h r,first_congr h l]
theorem check_rawR {p:GP} (hp:p.decls=relsD) (h:progB p=true) (hf:p.facts.any (badF p)=false):checkP p=firstP p p.rules 0:=by
 unfold checkP
 rw [h,hf,hp,relsD_dup]
 simp
end Go.Proofs.YtjfgjnlocadpbaaGreatDoor
end
