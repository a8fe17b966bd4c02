import Derived.Test.YtpgakkhfjjhpdaaGreatDoorC4
import Derived.Test.YtpgakkhfjjhpdaaGreatDoorC3
import Derived.Lib.Builder
import Derived.Lib.AppendStr
import Derived.Lib.UnsafeStr
import Derived.Lib.Walk
import Derived.BigRegion
import Derived.Laws.IdiomCopy
import Derived.Laws.Externs
import Derived.Shelf.Strings.Builder1
import Derived.Shelf.Small.Strs
import Derived.Shelf.Strconv.Itoa0
import Derived.Shelf.Strconv.Itoa1
import Derived.Shelf.LaysM
import Derived.Shelf.Strconv.Itoa2
import Derived.Shelf.Strconv.Itoa3
import Derived.Ground.Names2Prog
import Derived.Shelf.Slices.SearchI
import Derived.Test.YtpgakkhfjjhpdaaGreatDoorProg
import Derived.Lib.LaidTab
import Derived.Test.YtpgakkhfjjhpdaaGreatDoorRows
import Derived.Test.YtpgakkhfjjhpdaaGreatDoorTie
import Derived.ProofKit
import Derived.OpenShut
import Derived.Deep.DeepHandedRow
import Derived.Lib.ItoaNum
import Derived.Stop.LaidErr
import Derived.Laws.RangeAny
import Derived.Lib.ItoaLen
import Derived.Test.YtpgakkhfjjhpdaaGreatDoorChecked
import Derived.KernelRfl
set_option linter.unusedVariables false
set_option linter.unusedSimpArgs false
set_option linter.unnecessarySimpa false
section
namespace Go.Proofs.YtpgakkhfjjhpdaaGreatDoor
open Go.RowKit Go.Mach
structure Only (w w':World) (b:Nat):Prop where
 same:Same w w'
 size:w'.heap.size=w.heap.size
 block:∀ k,k≠b→w'.heap[k]?=w.heap[k]?
set_option maxHeartbeats 1000000 in
set_option maxRecDepth 100000 in
theorem copyCheck_used (b:Nat) (w:World) (h0:w.cell? ⟨b,0,none⟩=some (.pointer (some ⟨b,0,none⟩))) :
  Calls Tryz.prog 125 #[.pointer (some ⟨b,0,none⟩)] w fun e w'=>e=.returned (.tuple #[])∧w'=w:=by
 have hp:Tryz.prog.underlying 135=some (.pointer 137):=by kernel_rfl
 obtain ⟨j,hj,_⟩:=zqG.1 (show (Tryz.prog.info? 137).map (·.size)=some 2 by kernel_rfl)
 go_enter Tryz.func125,Tryz.ntmps125
 go_wp2
 rw [Lib.run_neq_ptr_same w _ hp hj]
 go_wp2
 go_end0
 exact ⟨rfl,rfl⟩
set_option maxHeartbeats 1000000 in
set_option maxRecDepth 100000 in
theorem copyCheck_fresh (b t:Nat) (w:World) (h0:w.cell? ⟨b,0,none⟩=some (.pointer none)) (hsh:w.shape? b=some (t,2)) (hfz:w.frozen? ⟨b,0,none⟩=false) (hl:liesAt Tryz.prog Tryz.prog.depth t (2 / Tryz.prog.cellsOf t) 0 137 1=true) :
  Calls Tryz.prog 125 #[.pointer (some ⟨b,0,none⟩)] w fun e w'=>e=.returned (.tuple #[])∧w'=w.setCell ⟨b,0,none⟩ (.pointer (some ⟨b,0,none⟩)):=by
 have hp:Tryz.prog.underlying 135=some (.pointer 137):=by kernel_rfl
 have hu:Tryz.prog.underlying 169=some .unsafePointer:=by kernel_rfl
 obtain ⟨j,hj,hjs⟩:=zqG.1 (show (Tryz.prog.info? 137).map (·.size)=some 2 by kernel_rfl)
 go_enter Tryz.func125,Tryz.ntmps125
 go_wp2
 rw [Lib.run_to_unsafe w ⟨b,0,none⟩ hp hu hj (by rw [hjs]; decide) hsh (Nat.zero_lt_succ 1)]
 simp only [Result.andThen]
 rw [Oper.upon_value]
 go_wp2
 rw [run_callFunc_extern Tryz.func147 (by kernel_rfl) (by kernel_rfl) (by kernel_rfl) (e:=Extern.AbiNoEscape.same) (by kernel_rfl)]
 rw [Lib.run_noEscape]
 simp only [Result.andThen]
 rw [Oper.upon_value]
 go_wp2
 rw [Lib.run_from_unsafe w ⟨b,0,none⟩ hu hp hj hsh hl]
 simp only [Result.andThen]
 rw [Oper.upon_value]
 go_wp2
 go_end0
 exact ⟨rfl,rfl⟩
def OwnR (w:World) (e:TypeId) (v:Value) (l:List UInt8):Prop:=
 (v=.slice none 0 0∧l=[])∨∃ gb cap cur,v=.slice (some ⟨gb,0,none⟩) l.length cap∧w.heap[gb]?=some (.cells cur e (0,0))∧l.length≤cap∧cur.size=cap∧cur.toList.take l.length=Lib.byteCells l
theorem OwnR.kept {w w':World} {e:TypeId} {v:Value} {l:List UInt8} (h:OwnR w e v l) (hk:∀ k,v.ownBlock=some k→k<w.heap.size→w'.heap[k]?=w.heap[k]?):OwnR w' e v l:=by
 rcases h with h | ⟨gb,cap,cur,rfl,h2,h3,h4,h5⟩
 ·exact .inl h
 ·exact .inr ⟨gb,cap,cur,rfl,(hk gb rfl (zqN.1 h2).1).trans h2,h3,h4,h5⟩
theorem OwnR.lt {w:World} {e:TypeId} {v:Value} {l:List UInt8} (h:OwnR w e v l) {k:Nat} (hk:v.ownBlock=some k):k<w.heap.size:=by
 rcases h with ⟨rfl,_⟩ | ⟨gb,cap,cur,rfl,h2,_⟩
 ·cases hk
 ·injection hk with hk; subst hk; exact (zqN.1 h2).1
theorem byteCells_one (l:List UInt8):∀ u∈Lib.byteCells l,u.oneCell'=true:=fun u hu=>by
 obtain ⟨b,_,rfl⟩:=List.mem_map.1 hu; rfl
theorem app_row {P:Program} {t u ty e:TypeId} {i:TypeInfo} (ht:P.underlying t=some (.slice e)) (hu:P.underlying u=some .string∨∃ e',P.underlying u=some (.slice e')) (hi:P.info? e=some i)
  (hz0:i.zero=some (.int .u8 0)) (hz1:i.size=1) (hz2:i.bytes=1) {w:World} {v cx:Value} {l k:List UInt8} (hv:OwnR w e v l) (hn:Src P w cx 1 k.length (Lib.byteCells k)) (hlen:l.length+k.length≤70368744177664) :
  ∃ v' w',(Builtin.append_ #[t,u] ty #[v,cx]).run P w=.ok v' w'∧OwnR w' e v' (l++k)∧Same w w'∧w.heap.size≤w'.heap.size∧(∀ q,q<w.heap.size→some q≠v.ownBlock→w'.heap[q]?=w.heap[q]?)∧(v'.ownBlock=v.ownBlock∨v'.ownBlock=some w.heap.size):=by
 have hzv:∀ w,(zeroValue e).run P w=.ok (.int .u8 0) w:=fun w=>by simp [zeroValue,typeInfo,hi,hz0]
 rw [←hz1] at hn
 have grow:∀ ad n c,v=.slice ad n c→n=l.length→Src P w (.slice ad n c) i.size n (Lib.byteCells l)→c<n+k.length →
   ∃ v' w',(Builtin.append_ #[t,u] ty #[v,cx]).run P w=.ok v' w'∧OwnR w' e v' (l++k)∧Same w w'∧w.heap.size≤w'.heap.size∧(∀ q,q<w.heap.size→some q≠v.ownBlock→w'.heap[q]?=w.heap[q]?)∧(v'.ownBlock=v.ownBlock∨v'.ownBlock=some w.heap.size):=by
  rintro ad n c rfl rfl ho hg
  obtain ⟨cap,w1,hcap,hr,hw,hs⟩:=run_app_grow (ty:=ty) ht hu hi hzv ho hn hg ⟨by rw [hz2]; omega,hlen⟩
  refine ⟨_,w1,hr,.inr ⟨w.heap.size,cap,(Lib.byteCells l).toArray++(Lib.byteCells k).toArray++Builtin.zeroCells (Value.int .u8 0).cells (cap - (l.length+k.length)),by simp,by rw [hw,Array.getElem?_push,if_pos rfl],by simpa using hcap,?_,?_⟩,hs,by rw [hw]; simp,fun q hq _=>by rw [hw,Array.getElem?_push]; simp [Nat.ne_of_lt hq],.inr rfl⟩
  ·have e1:(Value.int .u8 0).cells.size=1:=rfl
   simp [Builtin.zeroCells,Lib.byteCells,e1]; omega
  ·rw [Array.toList_append,Array.toList_append,List.toList_toArray,List.toList_toArray,List.take_append_of_le_length (by simp [Lib.byteCells]),List.take_of_length_le (by simp [Lib.byteCells]),Lib.byteCells_append]
 rcases hv with ⟨rfl,rfl⟩ | ⟨gb,cap,cur,rfl,h2,h3,h4,h5⟩
 ·by_cases hk:k.length=0
  ·have hk0:k=[]:=List.eq_nil_of_length_eq_zero hk
   subst hk0
   have hrun:=run_app_fits (P:=P) (ty:=ty) ht hu hi (ad:=none) (n:=0) (c:=0) hn (by simp)
   exact ⟨_,w,hrun,.inl ⟨rfl,rfl⟩,.refl w,Nat.le_refl _,fun _ _ _=>rfl,.inl rfl⟩
  ·exact grow none 0 0 rfl rfl ⟨fun w'=>by simp [Builtin.lenOf],fun w' _=>by simp [Builtin.firstCells,Lib.byteCells],by simp [Lib.byteCells]⟩ (by omega)
 ·have hcell:∀ j u,(Lib.byteCells l)[j]?=some u→cur[j]?=some u:=fun j u hu=>by
   rw [←h5,List.getElem?_take] at hu
   split at hu
   ·simpa using hu
   ·cases hu
  have ho:Src P w (.slice (some ⟨gb,0,none⟩) l.length cap) i.size l.length (Lib.byteCells l):=by
   refine ⟨fun w'=>by simp [Builtin.lenOf],fun w' hw=>run_firstCells_some w' i.size l.length ⟨gb,0,none⟩ l.length cap _ (by rw [hz1]; simp [Lib.byteCells]) fun j u hu=>?_,by rw [hz1]; simp [Lib.byteCells]⟩
   rw [addr_add,Nat.zero_add,cell_heap (by rw [hw]; exact h2)]
   exact hcell j u hu
  rcases Nat.lt_or_ge cap (l.length+k.length) with hg | hg
  ·exact grow _ _ _ rfl rfl ho hg
  ·have hrun:=run_app_fits (P:=P) (ty:=ty) ht hu hi (ad:=some ⟨gb,0,none⟩) (n:=l.length) (c:=cap) hn hg
   obtain ⟨w',hsr,hh,hsm⟩:=run_storeCells (P:=P) gb (0+l.length * i.size) e (0,0) (Lib.byteCells k) 0 cur w h2 (byteCells_one k) (by rw [hz1]; simp [Lib.byteCells]; omega) (fun j hj1 hj2=>by omega)
   rw [Nat.add_zero] at hh
   simp only [addr_add,hsr,Result.andThen_ok] at hrun
   have hgl:gb<w.heap.size:=(zqN.1 h2).1
   refine ⟨_,w',hrun,.inr ⟨gb,cap,setRunA cur (0+l.length * i.size) (Lib.byteCells k),by simp,heap_set_at hh hgl,by simpa using hg,by rw [setRunA_size]; exact h4,?_⟩,hsm,by rw [hh]; simp,fun q _ hq=>heap_set hh q (fun e=>hq (by rw [e]; rfl)),.inl rfl⟩
   have hget:∀ j,(setRunA cur (0+l.length * i.size) (Lib.byteCells k))[j]?=if 0+l.length * i.size≤j∧j<0+l.length * i.size+(Lib.byteCells k).length then (Lib.byteCells k)[j - (0+l.length * i.size)]? else cur[j]?:=fun j=>setRunA_get _ _ _ _ (by rw [hz1]; simp [Lib.byteCells]; omega)
   apply List.ext_getElem?
   intro j
   rw [List.getElem?_take,Lib.byteCells_append]
   have hbl:(Lib.byteCells l).length=l.length:=by simp [Lib.byteCells]
   have hbk:(Lib.byteCells k).length=k.length:=by simp [Lib.byteCells]
   rw [hz1] at hget
   simp only [hz1]
   split
   ·rename_i hj
    rw [zqJ] at hj
    rw [Array.getElem?_toList,hget]
    rcases Nat.lt_or_ge j l.length with hjl | hjl
    ·rw [if_neg (by omega),zqA (by omega)]
     have:=zqF (l:=Lib.byteCells l) (i:=j) (by omega)
     rw [this]; exact hcell _ _ this
    ·rw [if_pos (by omega),zqB (by omega)]
     congr 1; omega
   ·rename_i hj
    rw [zqJ] at hj
    rw [List.getElem?_eq_none (by simp [Lib.byteCells]; omega)]
theorem wpList_app_row {P:Program} {ops:Array Oper} {rest:List Oper} {o:Oper} {a:Act} {Q:Exit→Act→World→Prop} (hgd:o.guard=none) (s x:Operand) (t u:TypeId)
  (ho:o.op=.call {callee:=.builtin .append,args:=#[s,x],argTypes:=#[t,u]}) {e:TypeId} {i:TypeInfo} (ht:P.underlying t=some (.slice e)) (hu:P.underlying u=some .string∨∃ e',P.underlying u=some (.slice e')) (hi:P.info? e=some i)
  (hz0:i.zero=some (.int .u8 0)) (hz1:i.size=1) (hz2:i.bytes=1) {w:World} {v cx:Value} {l k:List UInt8} (hs:a.eval s=v) (hx:a.eval x=cx) (hv:OwnR w e v l) (hn:Src P w cx 1 k.length (Lib.byteCells k)) (hlen:l.length+k.length≤70368744177664)
  (h:∀ v' w',OwnR w' e v' (l++k)→Same w w'→w.heap.size≤w'.heap.size→(∀ q,q<w.heap.size→some q≠v.ownBlock→w'.heap[q]?=w.heap[q]?)→(v'.ownBlock=v.ownBlock∨v'.ownBlock=some w.heap.size)→wpList P ops Q rest (a.put o.dst v') w'):wpList P ops Q (o :: rest) a w:=by
 refine wpList_plain hgd fun K hK=>?_
 obtain ⟨v',w',hr,h1,h2,h3,h4,h5⟩:=app_row (P:=P) (ty:=o.type) ht hu hi hz0 hz1 hz2 hv hn hlen
 unfold Oper.wp execOp
 simp only [ho,resolve,invoke,builtin,Sem.run_bind,Sem.run_pure,Result.andThen_ok,List.map_toArray,List.map_cons,List.map_nil,hs,hx,hr]
 exact hK _ _ (h v' w' h1 h2 h3 h4 h5)
def RowAt (w:World) (b t e:Nat) (l:List UInt8) (p v:Value):Prop:=
 w.heap[b]?=some (.cells #[p,v] t (0,0))∧OwnR w e v l∧v.ownBlock≠some b
theorem RowAt.cell0 {w:World} {b t e:Nat} {l:List UInt8} {p v:Value} (h:RowAt w b t e l p v):w.cell? ⟨b,0,none⟩=some p:=by simp [World.cell?,h.1]
theorem RowAt.cell1 {w:World} {b t e:Nat} {l:List UInt8} {p v:Value} (h:RowAt w b t e l p v):w.cell? ⟨b,1,none⟩=some v:=by simp [World.cell?,h.1]
theorem RowAt.lt {w:World} {b t e:Nat} {l:List UInt8} {p v:Value} (h:RowAt w b t e l p v):b<w.heap.size:=(zqN.1 h.1).1
theorem Only.refl (w:World) (b:Nat):Only w w b:=⟨⟨rfl,rfl,rfl⟩,rfl,fun _ _=>rfl⟩
theorem copyCheck_calls (b t e:Nat) (l:List UInt8) (p v:Value) (w:World) (h:RowAt w b t e l p v) (hp:p=.pointer none∨p=.pointer (some ⟨b,0,none⟩)) (hl:liesAt Tryz.prog Tryz.prog.depth t (2 / Tryz.prog.cellsOf t) 0 137 1=true) :
  Calls Tryz.prog 125 #[.pointer (some ⟨b,0,none⟩)] w fun ex w'=>ex=.returned (.tuple #[])∧RowAt w' b t e l (.pointer (some ⟨b,0,none⟩)) v∧Only w w' b:=by
 rcases hp with rfl | rfl
 ·refine (copyCheck_fresh b t w h.cell0 (by simp [World.shape?,h.1]) (by simp [World.frozen?,h.1]) hl).mono ?_
  rintro ex w' ⟨rfl,rfl⟩
  have hb:∀ k,k≠b→(w.setCell ⟨b,0,none⟩ (.pointer (some ⟨b,0,none⟩))).heap[k]?=w.heap[k]?:=fun k hk=>Below.heap_setCell _ _ _ _ hk
  refine ⟨rfl,⟨?_,h.2.1.kept fun k hk _=>hb k (fun e=>h.2.2 (by rw [hk,e])),h.2.2⟩,⟨rfl,rfl,rfl⟩,by simp [World.setCell],hb⟩
  simp [World.setCell,Array.getElem?_modify,h.1]
 ·refine (copyCheck_used b w h.cell0).mono ?_
  rintro ex w' ⟨rfl,rfl⟩
  exact ⟨rfl,h,.refl _ _⟩
structure OnlyB (w w':World) (b:Nat) (v v':Value):Prop where
 same:Same w w'
 size:w.heap.size≤w'.heap.size
 block:∀ k,k<w.heap.size→k≠b→some k≠v.ownBlock→w'.heap[k]?=w.heap[k]?
 own:v'.ownBlock=v.ownBlock∨∀ k,v'.ownBlock=some k→w.heap.size≤k
set_option maxHeartbeats 2000000 in
set_option maxRecDepth 100000 in
theorem ws_calls (b t:Nat) (l:List UInt8) (p v:Value) (s:ByteArray) (w:World) (h:RowAt w b t 5 l p v) (hp:p=.pointer none∨p=.pointer (some ⟨b,0,none⟩)) (hl:liesAt Tryz.prog Tryz.prog.depth t (2 / Tryz.prog.cellsOf t) 0 137 1=true)
  (hlen:l.length+s.size≤70368744177664) :
  Calls Tryz.prog 102 #[.pointer (some ⟨b,0,none⟩),.string s] w fun ex w'=>∃ cv v',ex=.returned cv∧RowAt w' b t 5 (l++s.data.toList) (.pointer (some ⟨b,0,none⟩)) v'∧OnlyB w w' b v v':=by
 have hs41:Tryz.prog.underlying 81=some (.slice 5):=by kernel_rfl
 have hs9:Tryz.prog.underlying 9=some .string:=by kernel_rfl
 obtain ⟨i0,hi,hz⟩:=zqG.1 (show (Tryz.prog.info? 5).map (fun i=>(i.zero,i.size,i.bytes))=some (some (.int .u8 0),1,1) by kernel_rfl)
 injection hz with hz0 hz; injection hz with hz1 hz2
 have hsl:s.data.toList.length=s.size:=by simp
 have hlen2:l.length+s.data.toList.length≤70368744177664:=by omega
 have hsrc:∀ w,Src Tryz.prog w (.string s) 1 s.data.toList.length (Lib.byteCells s.data.toList):=fun w=>by rw [hsl]; exact str_src rfl
 go_enter Tryz.func102,Tryz.ntmps102
 go_wp2_with (go_at_call 125; refine (copyCheck_calls b t 5 l p v _ h hp hl).mono ?_)
 rintro ex w1 ⟨rfl,h1,hb1⟩
 have c0:=h1.cell0
 have c1:=h1.cell1
 have hne:=h1.2.2
 go_wp2_with (at_builtin; refine wpList_app_row (v:=v) (cx:=.string s) (l:=l) (k:=s.data.toList) rfl _ _ 81 9 rfl hs41 (.inl hs9) hi hz0 hz1 hz2 rfl rfl h1.2.1 (hsrc _) hlen2 ?_)
 intro v' w2 hown' hsm hsz hfr hblk
 have hb2:w2.heap[b]?=some (.cells #[.pointer (some ⟨b,0,none⟩),v] t (0,0)):=by
  rw [hfr b h1.lt (fun e=>hne e.symm)]
  exact h1.1
 have hvb:v'.ownBlock≠some b:=by
  rcases hblk with e | e
  ·rw [e]; exact hne
  ·rw [e]; intro e2; injection e2 with e2; have:=h1.lt; omega
 have d0:w2.cell? ⟨b,0,none⟩=some (.pointer (some ⟨b,0,none⟩)):=by rw [Lib.cell_of_heap hb2]; rfl
 have d1:w2.cell? ⟨b,1,none⟩=some v:=by rw [Lib.cell_of_heap hb2]; rfl
 have f1:w2.frozen? ⟨b,1,none⟩=false:=Lib.frozen_of_heap hb2 1
 obtain ⟨ao,n',cap,rfl⟩:∃ ao n' cap,v'=.slice ao n' cap:=by
  rcases hown' with ⟨hv,_⟩ | ⟨g,cap,cur,hv,_⟩
  ·exact ⟨_,_,_,hv⟩
  ·exact ⟨_,_,_,hv⟩
 go_wp2
 go_ret2
 have hset:∀ k,k≠b→(w2.setCell ⟨b,1,none⟩ (.slice ao n' cap)).heap[k]?=w2.heap[k]?:=fun k hk=>Below.heap_setCell _ _ _ _ hk
 refine ⟨_,.slice ao n' cap,rfl,⟨?_,hown'.kept fun k hk _=>hset k (fun e=>hvb (by rw [hk,e])),hvb⟩,⟨hsm.os.trans hb1.same.os,hsm.tape.trans hb1.same.tape,hsm.output.trans hb1.same.output⟩,?_,fun k hk hkb hkv=>?_,?_⟩
 ·simp [World.setCell,Array.getElem?_modify,hb2]
 ·have:=hb1.size; simp [World.setCell]; omega
 ·rw [hset k hkb,hfr k (by rw [hb1.size]; exact hk) hkv,hb1.block k hkb]
 ·rcases hblk with e | e
  ·exact .inl e
  ·refine .inr fun k hk=>?_
   rw [e] at hk; injection hk with hk; rw [←hk,hb1.size]; exact Nat.le_refl _
set_option maxHeartbeats 2000000 in
set_option maxRecDepth 100000 in
theorem wb_calls (b t:Nat) (l:List UInt8) (p v:Value) (c:UInt8) (w:World) (h:RowAt w b t 5 l p v) (hp:p=.pointer none∨p=.pointer (some ⟨b,0,none⟩)) (hl:liesAt Tryz.prog Tryz.prog.depth t (2 / Tryz.prog.cellsOf t) 0 137 1=true)
  (hlen:l.length+1≤70368744177664) :
  Calls Tryz.prog 107 #[.pointer (some ⟨b,0,none⟩),.int .u8 (c.toNat:Int)] w fun ex w'=>∃ cv v',ex=.returned cv∧RowAt w' b t 5 (l++[c]) (.pointer (some ⟨b,0,none⟩)) v'∧OnlyB w w' b v v':=by
 have hs41:Tryz.prog.underlying 81=some (.slice 5):=by kernel_rfl
 obtain ⟨i0,hi,hz⟩:=zqG.1 (show (Tryz.prog.info? 5).map (fun i=>(i.zero,i.size,i.bytes))=some (some (.int .u8 0),1,1) by kernel_rfl)
 injection hz with hz0 hz; injection hz with hz1 hz2
 go_enter Tryz.func107,Tryz.ntmps107
 go_wp2_with (go_at_call 125; refine (copyCheck_calls b t 5 l p v _ h hp hl).mono ?_)
 rintro ex w1 ⟨rfl,h1,hb1⟩
 have c0:=h1.cell0
 have c1:=h1.cell1
 have hne:=h1.2.2
 have h1a:RowAt (w1.alloc (.cells #[.int .u8 (c.toNat:Int)] 5)) b t 5 l (.pointer (some ⟨b,0,none⟩)) v:=
  ⟨by rw [show (w1.alloc (.cells #[.int .u8 (c.toNat:Int)] 5)).heap=w1.heap.push _ from rfl,Array.getElem?_push,if_neg (Nat.ne_of_lt h1.lt)]; exact h1.1,h1.2.1.kept fun k _ hk=>by rw [show (w1.alloc (.cells #[.int .u8 (c.toNat:Int)] 5)).heap=w1.heap.push _ from rfl,Array.getElem?_push,if_neg (Nat.ne_of_lt hk)],h1.2.2⟩
 have hsrc:Src Tryz.prog (w1.alloc (.cells #[.int .u8 (c.toNat:Int)] 5)) (.slice (some ⟨w1.heap.size,0,none⟩) 1 1) 1 [c].length (Lib.byteCells [c]):=by
  refine ⟨fun w'=>by simp [Builtin.lenOf],fun w' hw=>run_firstCells_some w' 1 1 ⟨w1.heap.size,0,none⟩ 1 1 _ (by simp [Lib.byteCells]) fun j u hu=>?_,by simp [Lib.byteCells]⟩
  rw [addr_add,Nat.zero_add,cell_heap (cv:=#[.int .u8 (c.toNat:Int)]) (tag:=5) (fr:=(0,0)) (by rw [hw,show (w1.alloc (.cells #[.int .u8 (c.toNat:Int)] 5)).heap=w1.heap.push _ from rfl,Array.getElem?_push,if_pos rfl])]
  match j,hu with
  | 0,hu=>simpa [Lib.byteCells] using hu
  | j+1,hu=>simp [Lib.byteCells] at hu
 go_wp2_with (at_builtin; refine wpList_app_row (v:=v) (cx:=.slice (some ⟨w1.heap.size,0,none⟩) 1 1) (l:=l) (k:=[c]) rfl _ _ 81 81 rfl hs41 (.inr ⟨_,hs41⟩) hi hz0 hz1 hz2 rfl rfl h1a.2.1 hsrc hlen ?_)
 intro v' w2 hown' hsm hsz hfr hblk
 have hal:(w1.alloc (.cells #[.int .u8 (c.toNat:Int)] 5)).heap.size=w1.heap.size+1:=by simp
 have hao:∀ k,k<w1.heap.size→(w1.alloc (.cells #[.int .u8 (c.toNat:Int)] 5)).heap[k]?=w1.heap[k]?:=fun k hk=>by rw [show (w1.alloc (.cells #[.int .u8 (c.toNat:Int)] 5)).heap=w1.heap.push _ from rfl,Array.getElem?_push,if_neg (Nat.ne_of_lt hk)]
 have hb2:w2.heap[b]?=some (.cells #[.pointer (some ⟨b,0,none⟩),v] t (0,0)):=by
  rw [hfr b (by have:=h1.lt; omega) (fun e=>hne e.symm)]
  exact h1a.1
 have hvb:v'.ownBlock≠some b:=by
  rcases hblk with e | e
  ·rw [e]; exact hne
  ·rw [e]; intro e2; injection e2 with e2; have:=h1.lt; omega
 have d0:w2.cell? ⟨b,0,none⟩=some (.pointer (some ⟨b,0,none⟩)):=by rw [Lib.cell_of_heap hb2]; rfl
 have d1:w2.cell? ⟨b,1,none⟩=some v:=by rw [Lib.cell_of_heap hb2]; rfl
 have f1:w2.frozen? ⟨b,1,none⟩=false:=Lib.frozen_of_heap hb2 1
 obtain ⟨ao,n',cap,rfl⟩:∃ ao n' cap,v'=.slice ao n' cap:=by
  rcases hown' with ⟨hv,_⟩ | ⟨g,cap,cur,hv,_⟩
  ·exact ⟨_,_,_,hv⟩
  ·exact ⟨_,_,_,hv⟩
 go_wp2
 go_ret
 have hset:∀ k,k≠b→(w2.setCell ⟨b,1,none⟩ (.slice ao n' cap)).heap[k]?=w2.heap[k]?:=fun k hk=>Below.heap_setCell _ _ _ _ hk
 refine ⟨_,.slice ao n' cap,rfl,⟨?_,hown'.kept fun k hk _=>hset k (fun e=>hvb (by rw [hk,e])),hvb⟩,⟨hsm.os.trans hb1.same.os,hsm.tape.trans hb1.same.tape,hsm.output.trans hb1.same.output⟩,?_,fun k hk hkb hkv=>?_,?_⟩
 ·simp [World.setCell,Array.getElem?_modify,hb2]
 ·have:=hb1.size; simp [World.setCell]; omega
 ·rw [hset k hkb,hfr k (by rw [hb1.size]; omega) hkv,hao k (by rw [hb1.size]; exact hk),hb1.block k hkb]
 ·rcases hblk with e | e
  ·exact .inl e
  ·refine .inr fun k hk=>?_
   rw [e] at hk; injection hk with hk; rw [←hk,hb1.size]; omega
structure OnlyG (w w':World) (v:Value):Prop where
 same:Same w w'
 size:w.heap.size≤w'.heap.size
 block:∀ k,k<w.heap.size→some k≠v.ownBlock→w'.heap[k]?=w.heap[k]?
theorem OnlyG.drew (w:World) (v:Value):OnlyG w w.drew v:=⟨⟨rfl,rfl,rfl⟩,Nat.le_refl _,fun _ _ _=>rfl⟩
theorem OnlyG.freeze (w:World) (v:Value) (g n:Nat) (h:v.ownBlock=some g):OnlyG w (w.drew.freeze ⟨g,0,none⟩ n) v:=by
 unfold World.freeze
 split
 ·exact .drew w v
 ·refine ⟨⟨rfl,rfl,rfl⟩,by simp,fun k hk hv=>?_⟩
  simp only [Array.getElem?_modify]
  rw [if_neg (fun e=>hv (by rw [h]; exact congrArg some e.symm))]; rfl
theorem OnlyG.alloc (w:World) (v:Value) (o:Obj):OnlyG w (w.drew.alloc o) v:=by
 refine ⟨⟨rfl,rfl,rfl⟩,?_,fun k hk _=>?_⟩
 ·rw [show (w.drew.alloc o).heap=w.heap.push o from rfl,Array.size_push]; exact Nat.le_succ _
 ·rw [show (w.drew.alloc o).heap=w.heap.push o from rfl,Array.getElem?_push,if_neg (Nat.ne_of_lt hk)]
set_option maxHeartbeats 2000000 in
set_option maxRecDepth 100000 in
theorem str_calls (b t:Nat) (l:List UInt8) (p v:Value) (w:World) (h:RowAt w b t 5 l p v) (hlen:l.length≤70368744177664) :
  Calls Tryz.prog 101 #[.pointer (some ⟨b,0,none⟩)] w fun ex w'=>ex=.returned (.string ⟨l.toArray⟩)∧OnlyG w w' v:=by
 have hp:Tryz.prog.underlying 161=some (.pointer 5):=by kernel_rfl
 have hc:Tryz.prog.cellsOf 5=1:=by kernel_rfl
 have hlt:=h.lt
 have hbk:=h.1
 rcases h.2.1 with ⟨rfl,rfl⟩ | ⟨g,cap,cur,rfl,hg,hnc,hcs,htake⟩
 ·have hUS:∀ W:World,∀ q,(Builtin.unsafeString_ #[161,3] 9 #[.pointer q,.int .i64 0]).run Tryz.prog W=.ok (.string .empty) W:=fun W q=>Lib.run_unsafeString_none W _ _ _ q
  have c1:w.drew.cell? ⟨b,1,none⟩=some (.slice none 0 0):=by
   have:w.drew.heap[b]?=_:=hbk
   rw [Lib.cell_of_heap this]; rfl
  have hSD:(Builtin.unsafeSliceData_ #[81] 161 #[.slice none 0 0]).run Tryz.prog w.drew=.ok (.pointer none) w.drew:=rfl
  go_enter Tryz.func101,Tryz.ntmps101
  go_wp2
  go_region
  all_goals (go_wp2; go_ret; exact ⟨rfl,.drew w _⟩)
 ·cases l with
  | nil=>
   have hUS:∀ W:World,∀ q,(Builtin.unsafeString_ #[161,3] 9 #[.pointer q,.int .i64 0]).run Tryz.prog W=.ok (.string .empty) W:=fun W q=>Lib.run_unsafeString_none W _ _ _ q
   by_cases hc0:cap=0
   ·subst hc0
    have c1:w.drew.cell? ⟨b,1,none⟩=some (.slice (some ⟨g,0,none⟩) 0 0):=by
     have:w.drew.heap[b]?=_:=hbk
     rw [Lib.cell_of_heap this]; rfl
    have hSD:(Builtin.unsafeSliceData_ #[81] 161 #[.slice (some ⟨g,0,none⟩) 0 0]).run Tryz.prog w.drew=.ok (.pointer (some ⟨w.drew.heap.size,0,none⟩)) (w.drew.alloc (.view ⟨g,0,none⟩ 5)):=
     Lib.run_unsafeSliceData_zero w.drew _ _ 5 hp ⟨g,0,none⟩ 0 (5,cur.size) (by have hg':w.drew.heap[g]?=_:=hg; simp [World.shape?,hg'])
    have c2:(w.drew.alloc (.view ⟨g,0,none⟩ 5)).cell? ⟨b,1,none⟩=some (.slice (some ⟨g,0,none⟩) 0 0):=by
     have:(w.drew.alloc (.view ⟨g,0,none⟩ 5)).heap[b]?=_:=(Lib.alloc_old w.drew _ b hlt).trans hbk
     rw [Lib.cell_of_heap this]; rfl
    have c3:(w.alloc (.view ⟨g,0,none⟩ 5)).drew.cell? ⟨b,1,none⟩=some (.slice (some ⟨g,0,none⟩) 0 0):=c2
    have c0:w.cell? ⟨b,1,none⟩=some (.slice (some ⟨g,0,none⟩) 0 0):=c1
    go_enter Tryz.func101,Tryz.ntmps101
    go_wp2
    go_region
    all_goals (go_wp2; go_ret; exact ⟨rfl,.alloc w _ _⟩)
   ·have c1:w.drew.cell? ⟨b,1,none⟩=some (.slice (some ⟨g,0,none⟩) 0 cap):=by
     have:w.drew.heap[b]?=_:=hbk
     rw [Lib.cell_of_heap this]; rfl
    have hSD:(Builtin.unsafeSliceData_ #[81] 161 #[.slice (some ⟨g,0,none⟩) 0 cap]).run Tryz.prog w.drew=.ok (.pointer (some ⟨g,0,none⟩)) w.drew:=
     Lib.run_unsafeSliceData_row _ _ _ _ _ _ hc0
    clear hc0
    go_enter Tryz.func101,Tryz.ntmps101
    go_wp2
    go_region
    all_goals (go_wp2; go_ret; exact ⟨rfl,.drew w _⟩)
  | cons x r=>
   have h0:(x :: r)≠[]:=by simp
   generalize hlr:x :: r=l at *
   have hl0:l.length≠0:=by simpa using h0
   have c1:w.drew.cell? ⟨b,1,none⟩=some (.slice (some ⟨g,0,none⟩) l.length cap):=by
    have:w.drew.heap[b]?=_:=hbk
    rw [Lib.cell_of_heap this]; rfl
   have hSD:(Builtin.unsafeSliceData_ #[81] 161 #[.slice (some ⟨g,0,none⟩) l.length cap]).run Tryz.prog w.drew=.ok (.pointer (some ⟨g,0,none⟩)) w.drew:=
    Lib.run_unsafeSliceData_row _ _ _ _ _ _ (by omega)
   have hUS:(Builtin.unsafeString_ #[161,3] 9 #[.pointer (some ⟨g,0,none⟩),.int .i64 l.length]).run Tryz.prog w.drew=.ok (.string ⟨l.toArray⟩) (w.drew.freeze ⟨g,0,none⟩ l.length):=by
    refine Lib.run_unsafeString_row w.drew 161 3 9 5 hp hc g cur.size (by have hg':w.drew.heap[g]?=_:=hg; simp [World.shape?,hg']) l h0 (by omega) (by omega) ?_
    intro j x hx
    have hg':w.drew.heap[g]?=_:=hg
    rw [addr_add,Nat.zero_add,cell_heap hg']
    have:=congrArg (fun l=>l[j]?) htake
    simp only [List.getElem?_take,Lib.byteCells,List.getElem?_map,hx,Option.map_some] at this
    rw [if_pos (zqI.1 hx).1] at this
    simpa using this
   go_enter Tryz.func101,Tryz.ntmps101
   go_wp2
   go_region
   all_goals (go_wp2; go_ret; exact ⟨rfl,.freeze w _ g _ rfl⟩)
def bldTs:List Nat:=[137,139]
theorem bldTs_ok:∀ t∈bldTs,liesAt Tryz.prog Tryz.prog.depth t (2 / Tryz.prog.cellsOf t) 0 137 1=true:=by
 simp only [bldTs,List.forall_mem_cons]
 exact ⟨by kernel_rfl,by kernel_rfl,fun _ h=>by cases h⟩
theorem bld_row {g:Gh} {ow:Nat→Option Nat} {id b t e:Nat} {l:List UInt8} {w:World} (h:BldAt g ow id b t e l w) :
  ∃ p v,RowAt w b t e l p v∧(p=.pointer none∨p=.pointer (some ⟨b,0,none⟩))∧ow b=some id∧(∀ i,g.M b i=none)∧∀ k,v.ownBlock=some k→ow k=some id∧∀ i,g.M k i=none:=by
 obtain ⟨p,v,h1,h2,h3,h4,h5⟩:=h
 rcases h5 with ⟨rfl,rfl⟩ | ⟨gb,cap,cur,rfl,m2,m3,m5,m6,m7,m8,m9⟩
 ·exact ⟨p,_,⟨h1,.inl ⟨rfl,rfl⟩,by simp [Value.ownBlock]⟩,h2,h3,h4,fun k hk=>by simp [Value.ownBlock] at hk⟩
 ·refine ⟨p,_,⟨h1,.inr ⟨gb,cap,cur,rfl,m2,m3,m5,m6⟩,fun e=>by injection e with e; exact m8 e⟩,h2,h3,h4,fun k hk=>?_⟩
  injection hk with hk; subst hk; exact ⟨m7,m9⟩
theorem row_bld {g:Gh} {ow:Nat→Option Nat} {id b t e:Nat} {l:List UInt8} {w:World} {p v:Value} (h:RowAt w b t e l p v) (hp:p=.pointer none∨p=.pointer (some ⟨b,0,none⟩)) (ho:ow b=some id) (hM:∀ i,g.M b i=none) (hk:∀ k,v.ownBlock=some k→ow k=some id∧∀ i,g.M k i=none) :
  BldAt g ow id b t e l w:=by
 refine ⟨p,v,h.1,hp,ho,hM,?_⟩
 rcases h.2.1 with ⟨rfl,rfl⟩ | ⟨gb,cap,cur,rfl,m2,m3,m5,m6⟩
 ·exact .inl ⟨rfl,rfl⟩
 ·obtain ⟨k1,k2⟩:=hk gb rfl
  exact .inr ⟨gb,cap,cur,rfl,m2,m3,m5,m6,k1,fun e=>h.2.2 (by rw [e]; rfl),k2⟩
theorem wrote {bs:Nat} {g:Gh} {ow:Nat→Option Nat} {σ:Heap} {w w':World} (h:HR g ow σ w) {id t e b c:Nat} {l l':List UInt8} {p v v':Value} (hσ:σ[id]?=some (.bld t e l)) (hp:g.φ id=some (b,c))
  (hob:ow b=some id) (hMb:∀ i,g.M b i=none) (hog:∀ k,v.ownBlock=some k→ow k=some id∧∀ i,g.M k i=none)
  (hR:RowAt w b t e l p v) (hR':RowAt w' b t e l' (.pointer (some ⟨b,0,none⟩)) v') (hO:OnlyB w w' b v v') :
  ∃ ow',HR g ow' (σ.set id (.bld t e l')) w'∧St bs g ow σ w g ow' (σ.set id (.bld t e l')) w':=by
 have hMn:∀ k,w.heap.size≤k→∀ i,g.M k i=none:=fun k hk i=>by
  cases hm:g.M k i with
  | none=>rfl
  | some u=>have:=h.lt hm; omega
 refine ⟨fun k=>if some k=v'.ownBlock∧w.heap.size≤k then some id else ow k,h.bldTo (v:=v) hσ hp hob hMb hog hO.same hO.size (fun k hk h1 h2=>hO.block k hk h1 h2) (fun k hk=>by rw [if_neg (by omega)]) _ (.inr ⟨l',rfl,row_bld hR' (.inr rfl) ?_ hMb fun k hk=>?_⟩)⟩
 ·rw [if_neg (by have:=hR.lt; omega)]; exact hob
 ·rcases hO.own with e | e
  ·rw [e] at hk
   obtain ⟨k1,k2⟩:=hog k hk
   refine ⟨?_,k2⟩
   rw [if_neg (by have:=hR.2.1.lt hk; omega)]; exact k1
  ·have hge:=e k hk
   exact ⟨by rw [if_pos ⟨hk.symm,hge⟩],hMn k hge⟩
def wsP (args:List AV) (_:Nat) (σ:Heap):Option (AV × Heap):=match args with
 | [.ptr id 0,.str s]=>match σ[id]? with
  | some (.bld t e l)=>if t∈bldTs∧e=5∧l.length+s.size≤70368744177664 then some (.undef,σ.set id (.bld t e (l++s.data.toList))) else none
  | _=>none
 | _=>none
theorem ws_ok:PrimOK Tryz.prog 102 wsP:=by
 intro args bs σ v σ' h hbs
 unfold wsP at h
 split at h
 ·rename_i id s
  split at h
  ·rename_i t e l hσ
   split at h
   ·rename_i hc
    obtain ⟨ht,rfl,hlen⟩:=hc
    injection h with h; injection h with e1 e2; subst e1 e2
    refine ⟨⟨_,Tryz.func102,by kernel_rfl,by kernel_rfl⟩,fun g ow w cargs hH hA=>?_⟩
    obtain ⟨c,d,rfl,hx,hy⟩:=args2 hA
    rw [hy.strv]
    cases hx with
    | @ptr _ _ b cc hp=>
     obtain ⟨p,v,hR,hpp,hob,hMb,hog⟩:=bld_row (hH.bd id (.bld t _ l) rfl hσ b cc hp)
     refine (ws_calls b t l p v s w hR hpp (bldTs_ok t ht) hlen).mono ?_
     rintro ex w' ⟨cv,v',rfl,hR',hO⟩
     obtain ⟨ow',h1,h2⟩:=wrote (bs:=bs) hH hσ hp hob hMb hog hR hR' hO
     exact ⟨cv,g,ow',rfl,.undef _,h1,h2⟩
   ·cases h
  ·cases h
 ·cases h
def wbP (args:List AV) (_:Nat) (σ:Heap):Option (AV × Heap):=match args with
 | [.ptr id 0,.int .u8 n]=>match σ[id]? with
  | some (.bld t e l)=>if t∈bldTs∧e=5∧l.length+1≤70368744177664∧0≤n∧n<256 then some (.undef,σ.set id (.bld t e (l++[UInt8.ofNat n.toNat]))) else none
  | _=>none
 | _=>none
theorem wb_ok:PrimOK Tryz.prog 107 wbP:=by
 intro args bs σ v σ' h hbs
 unfold wbP at h
 split at h
 ·rename_i id n
  split at h
  ·rename_i t e l hσ
   split at h
   ·rename_i hc
    obtain ⟨ht,rfl,hlen,hn0,hn1⟩:=hc
    injection h with h; injection h with e1 e2; subst e1 e2
    refine ⟨⟨_,Tryz.func107,by kernel_rfl,by kernel_rfl⟩,fun g ow w cargs hH hA=>?_⟩
    obtain ⟨c,d,rfl,hx,hy⟩:=args2 hA
    have hd:d=.int .u8 ((UInt8.ofNat n.toNat).toNat:Int):=by
     have e:((UInt8.ofNat n.toNat).toNat:Int)=n:=by
      rw [UInt8.toNat_ofNat']; omega
     rw [e]; cases hy; rfl
    subst hd
    cases hx with
    | @ptr _ _ b cc hp=>
     obtain ⟨p,v,hR,hpp,hob,hMb,hog⟩:=bld_row (hH.bd id (.bld t _ l) rfl hσ b cc hp)
     refine (wb_calls b t l p v (UInt8.ofNat n.toNat) w hR hpp (bldTs_ok t ht) hlen).mono ?_
     rintro ex w' ⟨cv,v',rfl,hR',hO⟩
     obtain ⟨ow',h1,h2⟩:=wrote (bs:=bs) hH hσ hp hob hMb hog hR hR' hO
     exact ⟨cv,g,ow',rfl,.undef _,h1,h2⟩
   ·cases h
  ·cases h
 ·cases h
def strP (args:List AV) (_:Nat) (σ:Heap):Option (AV × Heap):=match args with
 | [.ptr id 0]=>match σ[id]? with
  | some (.bld t e l)=>if e=5∧l.length≤70368744177664 then some (.str ⟨l.toArray⟩,σ.set id .dead) else none
  | _=>none
 | _=>none
theorem str_ok:PrimOK Tryz.prog 101 strP:=by
 intro args bs σ v σ' h hbs
 unfold strP at h
 split at h
 ·rename_i id
  split at h
  ·rename_i t e l hσ
   split at h
   ·rename_i hc
    obtain ⟨rfl,hlen⟩:=hc
    injection h with h; injection h with e1 e2; subst e1 e2
    refine ⟨⟨_,Tryz.func101,by kernel_rfl,by kernel_rfl⟩,fun g ow w cargs hH hA=>?_⟩
    obtain ⟨c,rfl,hx⟩:=args1 hA
    cases hx with
    | @ptr _ _ b cc hp=>
     obtain ⟨p,v,hR,hpp,hob,hMb,hog⟩:=bld_row (hH.bd id (.bld t _ l) rfl hσ b cc hp)
     refine (str_calls b t l p v w hR hlen).mono ?_
     rintro ex w' ⟨rfl,hO⟩
     obtain ⟨h1,h2⟩:=hH.bldTo (bs:=bs) (ow':=ow) (v:=v) hσ hp hob hMb hog hO.same hO.size (fun k hk _ hv=>hO.block k hk hv) (fun _ _=>rfl) .dead (.inl rfl)
     exact ⟨_,g,ow,rfl,.str _,h1,h2⟩
   ·cases h
  ·cases h
 ·cases h
end Go.Proofs.YtpgakkhfjjhpdaaGreatDoor
end
section
namespace Go.Proofs
open Go.Shelf
def Tryz.laysM171_ren:Go.Shelf.Ren:=⟨fun | 171=>170 | 243=>173 | 246=>175 | 283=>176 | 284=>177 | 285=>178 | 286=>179 | 129=>181 | 317=>180 | 318=>182 | 319=>183 | 320=>184 | 337=>185 | 338=>186 | n=>n,fun | 3=>3 | 9=>9 | 2=>2 | 4=>4 | 171=>191 | 0=>0 | 53=>192 | 37=>81 | 5=>5 | 173=>195 | 212=>199 | 51=>200 | 20=>20 | 213=>201 | 46=>202 | 232=>205 | 233=>206 | n=>n,fun | 17=>1 | 18=>2 | 19=>3 | n=>n⟩
theorem Tryz.laysM171:Go.Proofs.LaysM.n171 Tryz.prog Tryz.laysM171_ren:={
 mixed:=by kernel_rfl
 f129:=Tryz.func181.trans (congrArg some (by kernel_rfl))
 f171:=Tryz.func170.trans (congrArg some (by kernel_rfl))
 f243:=Tryz.func173.trans (congrArg some (by kernel_rfl))
 f246:=Tryz.func175.trans (congrArg some (by kernel_rfl))
 f283:=Tryz.func176.trans (congrArg some (by kernel_rfl))
 f284:=Tryz.func177.trans (congrArg some (by kernel_rfl))
 f285:=Tryz.func178.trans (congrArg some (by kernel_rfl))
 f286:=Tryz.func179.trans (congrArg some (by kernel_rfl))
 f317:=Tryz.func180.trans (congrArg some (by kernel_rfl))
 f318:=Tryz.func182.trans (congrArg some (by kernel_rfl))
 f319:=Tryz.func183.trans (congrArg some (by kernel_rfl))
 f320:=Tryz.func184.trans (congrArg some (by kernel_rfl))
 f337:=Tryz.func185.trans (congrArg some (by kernel_rfl))
 f338:=Tryz.func186.trans (congrArg some (by kernel_rfl))
 t0:=Tryz.underlying0
 a0:=Tryz.isAgg0
 z0:=Tryz.sizeOf0
 v0:=Tryz.zeroValue0
 t2:=Tryz.underlying2
 a2:=Tryz.isAgg2
 z2:=Tryz.sizeOf2
 v2:=Tryz.zeroValue2
 t3:=Tryz.underlying3
 a3:=Tryz.isAgg3
 z3:=Tryz.sizeOf3
 v3:=Tryz.zeroValue3
 t4:=Tryz.underlying4
 a4:=Tryz.isAgg4
 z4:=Tryz.sizeOf4
 v4:=Tryz.zeroValue4
 t5:=Tryz.underlying5
 a5:=Tryz.isAgg5
 z5:=Tryz.sizeOf5
 v5:=Tryz.zeroValue5
 t9:=Tryz.underlying9
 a9:=Tryz.isAgg9
 z9:=Tryz.sizeOf9
 v9:=Tryz.zeroValue9
 t20:=Tryz.underlying20
 a20:=Tryz.isAgg20
 z20:=Tryz.sizeOf20
 v20:=Tryz.zeroValue20
 t37:=Tryz.underlying81
 a37:=Tryz.isAgg81
 z37:=Tryz.sizeOf81
 v37:=Tryz.zeroValue81
 t46:=Tryz.underlying202
 a46:=Tryz.isAgg202
 z46:=Tryz.sizeOf202
 v46:=Tryz.zeroValue202
 t51:=Tryz.underlying200
 a51:=Tryz.isAgg200
 z51:=Tryz.sizeOf200
 v51:=Tryz.zeroValue200
 t53:=Tryz.underlying192
 a53:=Tryz.isAgg192
 z53:=Tryz.sizeOf192
 v53:=Tryz.zeroValue192
 t171:=Tryz.underlying191
 a171:=Tryz.isAgg191
 z171:=Tryz.sizeOf191
 v171:=Tryz.zeroValue191
 t173:=Tryz.underlying195
 a173:=Tryz.isAgg195
 z173:=Tryz.sizeOf195
 v173:=Tryz.zeroValue195
 t212:=Tryz.underlying199
 a212:=Tryz.isAgg199
 z212:=Tryz.sizeOf199
 v212:=Tryz.zeroValue199
 t213:=Tryz.underlying201
 a213:=Tryz.isAgg201
 z213:=Tryz.sizeOf201
 t232:=Tryz.underlying205
 a232:=Tryz.isAgg205
 z232:=Tryz.sizeOf205
 v232:=Tryz.zeroValue205
 t233:=Tryz.underlying206
 a233:=Tryz.isAgg206
 z233:=Tryz.sizeOf206
 v233:=Tryz.zeroValue206
 g17:=by kernel_rfl
 g18:=by kernel_rfl
 g19:=by kernel_rfl
 i0:=by kernel_rfl
 i2:=by kernel_rfl
 i3:=by kernel_rfl
 i4:=by kernel_rfl
 i5:=by kernel_rfl
 i9:=by kernel_rfl
 i20:=by kernel_rfl
 i37:=by kernel_rfl
 i46:=by kernel_rfl
 i51:=by kernel_rfl
 i53:=by kernel_rfl
 i171:=by kernel_rfl
 i173:=by kernel_rfl
 i212:=by kernel_rfl
 i232:=by kernel_rfl
 i233:=by kernel_rfl
 m17:=by kernel_rfl
 m18:=by kernel_rfl
 m19:=by kernel_rfl}
open Go.RowKit Go.Sort Go.Lib in
theorem Tryz.strconv_Itoa (n : Int) (h0 : -9223372036854775808 ≤ n) (h1 : n ≤ 9223372036854775807) (w : World) (htab : Lib.TabIs Tryz.prog w "internal/strconv.uint64pow10" .u64 Lib.pow10Tab) :
  Calls Tryz.prog 170 #[.int .i64 n] w fun e w'=>e=.returned (.string ⟨(Lib.itoa n).toArray⟩)∧∃ k os,w'=grow (w.drewN k) os:=Any.strconv_Itoa Tryz.laysM171 n h0 h1 w htab
end Go.Proofs
end
section
namespace Go.Proofs.YtpgakkhfjjhpdaaGreatDoor
open Go.RowKit Go.Mach
open Go.Sort
theorem pow10_pin:(1,(((List.range 20).map fun i=>((10 ^ i:Nat):Int)).map fun z=>Value.int .u64 z).toArray)∈pinned:=by simp [pinned]
def itoaP (args:List AV) (_:Nat) (σ:Heap):Option (AV × Heap):=match args with
 | [.int .i64 n]=>if -9223372036854775808≤n∧n≤9223372036854775807 then some (.str ⟨(Lib.itoa n).toArray⟩,σ) else none
 | _=>none
theorem itoa_ok:PrimOK Tryz.prog 170 itoaP:=by
 intro args bs σ v σ' h hbs
 unfold itoaP at h
 split at h
 ·rename_i n
  split at h
  ·rename_i hc
   injection h with h; injection h with e1 e2; subst e1 e2
   refine ⟨⟨_,Tryz.func170,by kernel_rfl,by kernel_rfl⟩,fun g ow w cargs hH hA=>?_⟩
   obtain ⟨c,rfl,hx⟩:=args1 hA
   have hx:c=.int .i64 n:=by cases hx; rfl
   subst hx
   obtain ⟨⟨t,fr,hp⟩,_⟩:=hH.pin _ pow10_pin
   have htab : Lib.TabIs Tryz.prog w "internal/strconv.uint64pow10" .u64 Lib.pow10Tab := by
    unfold Lib.TabIs World.var?
    rw [show Tryz.prog.globalNamed "internal/strconv.uint64pow10" = some 1 by kernel_rfl]
    simp only [Option.bind_some,hp]; rfl
   refine (Tryz.strconv_Itoa n hc.1 hc.2 w htab).mono ?_
   rintro e w' ⟨rfl,k,os,rfl⟩
   obtain ⟨h1,h2⟩:=hH.more (bs:=bs) (w':=grow (w.drewN k) os) (by show w.heap.size≤(w.heap++os).size; rw [Array.size_append]; omega)
    (fun b hb=>by show (w.heap++os)[b]?=w.heap[b]?; exact Array.getElem?_append_left hb) rfl rfl rfl
   exact ⟨_,g,ow,rfl,.str _,h1,h2⟩
  ·cases h
 ·cases h
open Go.ChangeShapes Go.WideShapes Go.ChangeAt Go.RowKit Go.Mach
noncomputable def laidWorld (os:Os):World:=
 {World.holding Tryz.prog os ⟨#[],#[],[]⟩ with heap:=((((World.holding Tryz.prog os ⟨#[],#[],[]⟩).heap
  |>.modify 2 (fun o=>match o with | .cells _ t frozen=>.cells #[.int .u8 0,.int .u8 1,.int .u8 28,.int .u8 2,.int .u8 29,.int .u8 14,.int .u8 24,.int .u8 3,.int .u8 30,.int .u8 22,.int .u8 20,.int .u8 15,.int .u8 25,.int .u8 17,.int .u8 4,.int .u8 8,.int .u8 31,.int .u8 27,.int .u8 13,.int .u8 23,.int .u8 21,.int .u8 19,.int .u8 16,.int .u8 7,.int .u8 26,.int .u8 12,.int .u8 18,.int .u8 6,.int .u8 11,.int .u8 5,.int .u8 10,.int .u8 9] t frozen | o=>o))
  |>.modify 3 (fun o=>match o with | .cells _ t frozen=>.cells #[.int .u8 0,.int .u8 1,.int .u8 56,.int .u8 2,.int .u8 57,.int .u8 49,.int .u8 28,.int .u8 3,.int .u8 61,.int .u8 58,.int .u8 42,.int .u8 50,.int .u8 38,.int .u8 29,.int .u8 17,.int .u8 4,.int .u8 62,.int .u8 47,.int .u8 59,.int .u8 36,.int .u8 45,.int .u8 43,.int .u8 51,.int .u8 22,.int .u8 53,.int .u8 39,.int .u8 33,.int .u8 30,.int .u8 24,.int .u8 18,.int .u8 12,.int .u8 5,.int .u8 63,.int .u8 55,.int .u8 48,.int .u8 27,.int .u8 60,.int .u8 41,.int .u8 37,.int .u8 16,.int .u8 46,.int .u8 35,.int .u8 44,.int .u8 21,.int .u8 52,.int .u8 32,.int .u8 23,.int .u8 11,.int .u8 54,.int .u8 26,.int .u8 40,.int .u8 15,.int .u8 34,.int .u8 20,.int .u8 31,.int .u8 10,.int .u8 25,.int .u8 14,.int .u8 19,.int .u8 9,.int .u8 13,.int .u8 8,.int .u8 7,.int .u8 6] t frozen | o=>o))
  |>.modify 1 (fun o=>match o with | .cells _ t frozen=>.cells #[.int .u64 1,.int .u64 10,.int .u64 100,.int .u64 1000,.int .u64 10000,.int .u64 100000,.int .u64 1000000,.int .u64 10000000,.int .u64 100000000,.int .u64 1000000000,.int .u64 10000000000,.int .u64 100000000000,.int .u64 1000000000000,.int .u64 10000000000000,.int .u64 100000000000000,.int .u64 1000000000000000,.int .u64 10000000000000000,.int .u64 100000000000000000,.int .u64 1000000000000000000,.int .u64 10000000000000000000] t frozen | o=>o))}
def laidList:List (String × DataW Unit):=Rows.strataTellsRow.laid
theorem pins_of {W:World} (h:laidMetH Tryz.prog laidList W):Pins (fun _=>none) W:=by
 have ht : Lib.TabIs Tryz.prog W "internal/strconv.uint64pow10" .u64 Lib.pow10Tab :=
  Lib.tabIs_of_head (zs:=Lib.pow10Tab) (rest:=[])
   (g:=1) (by kernel_rfl) (t:=199) (by kernel_rfl) Tryz.underlying199 (e:=192) Tryz.underlying192 (by kernel_rfl) (by kernel_rfl) (h:laidMet Tryz.prog laidList W).tail.tail
 intro p hp
 simp only [pinned,List.mem_cons,List.not_mem_nil,or_false] at hp
 subst hp
 unfold Lib.TabIs World.var? at ht
 rw [show Tryz.prog.globalNamed "internal/strconv.uint64pow10" = some 1 by kernel_rfl] at ht
 simp only [Option.bind_some] at ht
 split at ht
 ·rename_i cs t fr hh
  injection ht with ht
  exact ⟨⟨t,fr,by rw [hh,ht]; rfl⟩,rfl⟩
 ·cases ht
open Go.Mach
def prims:List (Nat × (List AV→Nat→Heap→Option (AV × Heap))):=[
 (172,cmpP),
 (165,growP),
 (164,cloneVP),
 (102,wsP),
 (107,wbP),
 (101,strP),
 (170,itoaP),
 (1000000,fun _ _ _=>none)]
noncomputable def T:Tab:=⟨fun f=>(fns.find? (·.1 == f)).map (·.2),fun f=>(prims.find? (·.1 == f)).map (·.2),rds⟩
theorem prims_ok:∀ p∈prims,PrimOK Tryz.prog p.1 p.2:=by
 simp only [prims,List.forall_mem_cons]
 exact ⟨
  cmp_ok,
  grow_ok,
  cloneV_ok,
  ws_ok,wb_ok,str_ok,
  itoa_ok,
  (fun _ _ _ _ _ h=>by cases h),fun _ h=>by cases h⟩
theorem T_ok:TabOK Tryz.prog T where
 mixed:=by kernel_rfl
 fn f af h:=by
  obtain ⟨p,hp,rfl⟩:=zqG.1 h
  have h1:=List.find?_some hp
  have h2:=fns_ok p (List.mem_of_find?_eq_some hp)
  have:p.1=f:=by simpa using h1
  rw [←this]; exact h2
 pr f p h:=by
  obtain ⟨q,hq,rfl⟩:=zqG.1 h
  have h1:=List.find?_some hq
  have h2:=prims_ok q (List.mem_of_find?_eq_some hq)
  have:q.1=f:=by simpa using h1
  rw [←this]; exact h2
 yn:=⟨by kernel_rfl,by kernel_rfl⟩
 rd:=rds_ok
theorem callN_T (f:Nat) (args:List AV) (bs:Nat) (σ:Heap) (h:headYld args=false):callN (callT T) f args bs σ=callT T f args bs σ:=by
 unfold callN
 split
 ·rename_i e; subst e
  rw [callT_yld T bs σ T_ok.yn.1 T_ok.yn.2]
  unfold roundA
  split
  ·cases h
  ·rfl
 ·rfl
attribute [simp] callN_T
end Go.Proofs.YtpgakkhfjjhpdaaGreatDoor
end
section
namespace Go.Mach
inductive GV where
 | mk (kind num:Int) (text:ByteArray) (items:List GV)
 deriving Inhabited
namespace GV
abbrev kind:GV→Int | .mk k _ _ _=>k
abbrev num:GV→Int | .mk _ n _ _=>n
abbrev text:GV→ByteArray | .mk _ _ t _=>t
abbrev items:GV→List GV | .mk _ _ _ l=>l
mutual
def enc:GV→AV
 | .mk k n t l=>.agg [.int .i64 k,.int .i64 n,.str t,.isl (encs l) false]
def encs:List GV→List AV
 | []=>[]
 | v :: l=>enc v :: encs l
end
theorem encs_map:∀ l:List GV,encs l=l.map enc
 | []=>rfl
 | v :: l=>by simp only [encs,List.map_cons,encs_map l]
@[simp] theorem encs_length (l:List GV):(encs l).length=l.length:=by simp [encs_map]
@[simp] theorem encs_get (l:List GV) (i:Nat):(encs l)[i]?=l[i]?.map enc:=by simp [encs_map]
@[simp] theorem encs_getE (l:List GV) (i:Nat) (h:i<(encs l).length):(encs l)[i]=(l[i]'(by simpa using h)).enc:=by simp [encs_map]
theorem enc_eq (v:GV):v.enc=.agg [.int .i64 v.kind,.int .i64 v.num,.str v.text,.isl (encs v.items) false]:=by cases v; simp only [enc,kind,num,text,items]
@[simp] theorem enc_fold (v:GV):AV.agg [.int .i64 v.kind,.int .i64 v.num,.str v.text,.isl (encs v.items) false]=v.enc:=(enc_eq v).symm
@[simp] theorem enc_cells (v:GV):v.enc.cells=[.int .i64 v.kind,.int .i64 v.num,.str v.text,.isl (encs v.items) false]:=by rw [enc_eq]; rfl
@[simp] theorem enc_solid (v:GV):v.enc.solid=true:=by rw [enc_eq]; rfl
@[simp] theorem enc_head (v:GV) (xs:List AV):headYld (v.enc :: xs)=false:=by rw [enc_eq]; rfl
@[simp] theorem enc_clean (v:GV):v.enc.clean=true:=by rw [enc_eq]; rfl
@[simp] theorem enc_closeA (σ:Heap) (v:GV):closeA σ v.enc=some (v.enc,σ):=(clean_close (by simp)).1
@[simp] theorem enc_closeR (σ:Heap) (v:GV):closeR σ v.enc=some (v.enc,σ):=by rw [enc_eq]; rfl
@[simp] theorem enc_datR (v:GV):v.enc.datR=true:=by rw [enc_eq]; rfl
@[simp] theorem enc_dat1 (v:GV):v.enc.clo1=false:=by rw [enc_eq]; rfl
@[simp] theorem enc_dat (v:GV):v.enc.dat=true:=by rw [enc_eq]; rfl
@[simp] theorem enc_clo (v:GV):v.enc.clo=true:=by rw [enc_eq]; rfl
def i64ok (n:Int):Prop:=-9223372036854775808≤n∧n≤9223372036854775807
mutual
def ok:GV→Prop
 | .mk k n _ l=>i64ok k∧i64ok n∧oks l
def oks:List GV→Prop
 | []=>True
 | v :: l=>ok v∧oks l
end
theorem oks_iff:∀ l:List GV,oks l↔∀ v∈l,ok v
 | []=>by simp [oks]
 | v :: l=>by simp [oks,oks_iff l]
mutual
def size:GV→Nat
 | .mk _ _ t l=>t.size+sizes l+5
def sizes:List GV→Nat
 | []=>0
 | v :: l=>size v+sizes l
end
mutual
theorem bulk_enc:∀ v:GV,bulkA v.enc=v.size
 | .mk k n t l=>by
  have h:=bulk_encs l
  simp only [enc,bulkA,bulkAs,size,h]; omega
theorem bulk_encs:∀ l:List GV,bulkAs (encs l)=sizes l
 | []=>by simp [encs,bulkAs,sizes]
 | v :: l=>by
  have h1:=bulk_enc v
  have h2:=bulk_encs l
  simp only [encs,bulkAs,sizes,h1,h2]
end
end GV
structure IsV (P:Program) (tV tL tI tS:TypeId):Prop where
 fs:∃ fs:Array Field,P.underlying tV=some (.struct fs)∧fs.toList.map (·.type)=[tI,tI,tS,tL]
 int:P.underlying tI=some (.int .i64)
 str:P.underlying tS=some .string
 list:P.underlying tL=some (.slice tV)
theorem field_ty {P:Program} {fs:Array Field} {ts:List TypeId} (h:fs.toList.map (·.type)=ts) {vs:List AV} (hv:∀ (i:Nat) f x,fs.toList[i]?=some f→vs[i]?=some x→TyA P f.type x) {i:Nat} {t:TypeId} {x:AV} (ht:ts[i]?=some t) (hx:vs[i]?=some x):TyA P t x:=by
 rw [←h,List.getElem?_map] at ht
 obtain ⟨f,hf,rfl⟩:=zqG.1 ht
 exact hv i f x hf hx
theorem TyA.asValue {P:Program} {tV tL tI tS:TypeId} (hV:IsV P tV tL tI tS) {t:TypeId} {x:AV} (h:TyA P t x):(t=tV→∃ v:GV,x=v.enc∧v.ok)∧(t=tL→∃ l:List GV,x=.isl (GV.encs l) false∧GV.oks l):=by
 have e1:IntKind.i64.min=-9223372036854775808:=by decide
 have e2:IntKind.i64.max=9223372036854775807:=by decide
 obtain ⟨fs0,hf0,hts⟩:=hV.fs
 induction h with
 | bool hu b=>exact ⟨fun e=>(by subst e; rw [hf0] at hu; cases hu),fun e=>by subst e; rw [hV.list] at hu; cases hu⟩
 | int hu n hn=>exact ⟨fun e=>(by subst e; rw [hf0] at hu; cases hu),fun e=>by subst e; rw [hV.list] at hu; cases hu⟩
 | str hu s=>exact ⟨fun e=>(by subst e; rw [hf0] at hu; cases hu),fun e=>by subst e; rw [hV.list] at hu; cases hu⟩
 | array hu hl hv=>exact ⟨fun e=>(by subst e; rw [hf0] at hu; cases hu),fun e=>by subst e; rw [hV.list] at hu; cases hu⟩
 | @slice t e es hu hes ih=>
  refine ⟨fun e'=>(by subst e'; rw [hf0] at hu; cases hu),fun e'=>?_⟩
  subst e'; rw [hV.list] at hu; injection hu with hu; injection hu with hu; subst hu
  have:∀ l:List AV,(∀ y∈l,∃ v:GV,y=v.enc∧v.ok)→∃ l':List GV,l=GV.encs l'∧GV.oks l':=by
   intro l
   induction l with
   | nil=>intro _; exact ⟨[],rfl,trivial⟩
   | cons y l ihl=>
    intro h
    obtain ⟨v,rfl,hv⟩:=h y (by simp)
    obtain ⟨l',rfl,hl'⟩:=ihl fun z hz=>h z (by simp [hz])
    exact ⟨v :: l',rfl,hv,hl'⟩
  obtain ⟨l',rfl,hl'⟩:=this es fun y hy=>(ih y hy).1 rfl
  exact ⟨l',rfl,hl'⟩
 | @struct t fs vs hu hl hv ih=>
  refine ⟨fun e'=>?_,fun e'=>by subst e'; rw [hV.list] at hu; cases hu⟩
  subst e'; rw [hf0] at hu; injection hu with hu; injection hu with hu; subst hu
  have hlen:vs.length=4:=by rw [hl,←List.length_map (f:=(·.type)),hts]; rfl
  match vs,hlen with
  | [x0,x1,x2,x3],_=>
   obtain ⟨k,rfl,k1,k2⟩:=(field_ty hts hv (i:=0) rfl rfl).asInt hV.int
   obtain ⟨n,rfl,n1,n2⟩:=(field_ty hts hv (i:=1) rfl rfl).asInt hV.int
   obtain ⟨s,rfl⟩:=(field_ty hts hv (i:=2) rfl rfl).asStr hV.str
   have h3:fs0.toList[3]?.map (·.type)=some tL:=by rw [←List.getElem?_map,hts]; rfl
   obtain ⟨f3,hf3,hft⟩:=zqG.1 h3
   obtain ⟨l,rfl,hok⟩:=(ih 3 f3 x3 hf3 rfl).2 hft
   rw [e1] at k1 n1; rw [e2] at k2 n2
   refine ⟨.mk k n s l,by simp [GV.enc,flat],⟨⟨k1,k2⟩,⟨n1,n2⟩,hok⟩⟩
end Go.Mach
end
section
namespace Go.Mach
@[simp] theorem hp_get (σ l:List AObj) (k:Nat):(σ++l)[σ.length+k]?=l[k]?:=by rw [zqB (by omega)]; simp
end Go.Mach
namespace Go.Proofs.YtpgakkhfjjhpdaaGreatDoor
open Go.Mach
theorem sizes_mem {l:List GV} {x:GV} (h:x∈l):x.size+5≤GV.sizes l+5∧l.length≤GV.sizes l:=by
 induction l with
 | nil=>cases h
 | cons y l ih=>
  have hy:5≤y.size:=by cases y; simp [GV.size]
  rcases List.mem_cons.1 h with rfl | h
  ·refine ⟨by simp [GV.sizes],?_⟩
   have:∀ l:List GV,l.length≤GV.sizes l:=fun l=>by
    induction l with
    | nil=>simp [GV.sizes]
    | cons z l ih=>have:5≤z.size:=(by cases z; simp [GV.size]); simp [GV.sizes]; omega
   have:=this l
   simp [GV.sizes]; omega
  ·obtain ⟨h1,h2⟩:=ih h
   simp [GV.sizes]; omega
theorem len_sizes (l:List GV):l.length≤GV.sizes l:=by
 cases l with
 | nil=>simp
 | cons x l=>exact (sizes_mem (List.mem_cons_self (a:=x) (l:=l))).2
open Go.Mach
def idxG {α:Type} (p:α→Bool) (l:List α):Int:=match l.findIdx? p with
 | some i=>(i:Int)
 | none=>-1
theorem idxG_drop {α:Type} (p:α→Bool) (l:List α) (i:Nat) (hi:i<l.length) (h:∀ j,(hj:j<l.length)→j<i→p l[j]=false) (hp:p l[i]=true):l.findIdx? p=some i:=by
 rw [List.findIdx?_eq_some_iff_getElem]
 exact ⟨hi,hp,fun j hj=>by rw [h j (by omega) hj]; simp⟩
theorem idxG_any {α:Type} (p:α→Bool) (l:List α):(0≤idxG p l)↔l.any p=true:=by
 unfold idxG
 cases h:l.findIdx? p with
 | none=>rw [List.findIdx?_eq_none_iff] at h; simp only [List.any_eq_true]; exact ⟨fun h=>by omega,fun ⟨x,hx,hp⟩=>by rw [h x hx] at hp; cases hp⟩
 | some i=>
  rw [List.findIdx?_eq_some_iff_getElem] at h
  obtain ⟨hi,hp,_⟩:=h
  exact ⟨fun _=>List.any_eq_true.2 ⟨_,zqT hi,hp⟩,fun _=>by simp⟩
theorem not_any {α:Type} (p:α→Bool) (l:List α):(!l.any (fun x=>!p x))=l.all p:=by
 induction l with
 | nil=>rfl
 | cons x l ih=>simp only [List.any_cons,List.all_cons,Bool.not_or,Bool.not_not,ih]
theorem refLt2_bool (n:Nat) (b:Bool):refLt2 n (.bool b)=true:=rfl
theorem refLt2_int (n:Nat) (k:IntKind) (m:Int):refLt2 n (.int k m)=true:=rfl
theorem take_1 (σ:Heap) (a b:AObj):(σ++[a,b]).take (σ.length+1)=σ++[a]:=by
 rw [List.take_append,List.take_of_length_le (by omega)]; simp
theorem idxValue (p:GV→Bool) (l:List GV) (g:Nat) (caps:List AV) (hl:l.length≤100000000000) (σ:Heap) (hc:∀ x∈l,∀ bs,callT T g (x.enc :: caps) bs σ=some (.bool (p x),σ)) (bs:Nat) :
  callT T 130 [.isl (GV.encs l) false,.func g caps] bs σ=some (.int .i64 (idxG p l),σ):=by
 refine heap_enter (af:=c130) (args':=[.isl (GV.encs l) false,.func g caps]) (σ1:=σ) rfl rfl (by simp [c130]) (by simp [c130]) rfl ?_
 simp [c130,baseA]
 refine W_for T _ 19 l.length (fun i f τ=>f 0=.isl (GV.encs l) false∧f 1=.func g caps∧f 7=.int .i64 (l.length:Int)∧f 8=.int .i64 (i:Int)∧τ=σ∧∀ j,(hj:j<l.length)→j<i→p l[j]=false) ?_ _ _ ?_
 ·rintro i f τ hi ⟨h0,h1,h7,h8,rfl,hall⟩
  by_cases hlt:i<l.length
  ·have e1:l[i]?=some l[i]:=zqF hlt
   have hcl:=hc l[i] (zqT hlt)
   cases hp:p l[i]
   ·rw [hp] at hcl
    simp [h0,h1,h7,h8,hlt,hcl,hp,←GV.enc_eq]
    refine ⟨wr64 (by omega) (by omega),fun j hj hji=>?_⟩
    by_cases e:j=i
    ·subst e; exact hp
    ·exact hall j hj (by omega)
   ·rw [hp] at hcl
    simp [h0,h1,h7,h8,hlt,hcl,hp,←GV.enc_eq,dropA_gc,refLt,res1,refLt2_bool,refLt2_int,take_1]
    simp [idxG,idxG_drop p l i hlt hall hp]
  ·have he:i=l.length:=by omega
   subst he
   have hn:l.findIdx? p=none:=by
    rw [List.findIdx?_eq_none_iff]
    intro x hx
    obtain ⟨j,hj,rfl⟩:=zqS hx
    exact hall j hj hj
   simp [h0,h1,h7,h8,idxG,hn,dropA_gc,refLt,res1,refLt2_bool,refLt2_int,take_1]
 ·simp
theorem conValue (p:GV→Bool) (l:List GV) (g:Nat) (caps:List AV) (hl:l.length≤100000000000) (σ:Heap) (hc:∀ x∈l,∀ bs,callT T g (x.enc :: caps) bs σ=some (.bool (p x),σ)) (bs:Nat) :
  callT T 110 [.isl (GV.encs l) false,.func g caps] bs σ=some (.bool (sym (l.any p)),σ):=by
 have h1:=idxValue p l g caps hl σ hc
 have h2:=idxG_any p l
 refine heap_enter (af:=c110) (args':=[.isl (GV.encs l) false,.func g caps]) (σ1:=σ) rfl rfl (by simp [c110]) (by simp [c110]) rfl ?_
 simp [c110,baseA,h1,dropA_gc,refLt,res1,refLt2_bool,refLt2_int,take_1]
 refine ⟨fun h=>by simpa [sym] using h2.1 h,fun h=>?_⟩
 have:¬ l.any p=true:=fun hh=>by have:=h2.2 hh; omega
 simpa [sym] using this
theorem allValue1 (b:Bool) (x:GV) (g:Nat) (caps:List AV) (σ:Heap) (hc:∀ τ bs,callT T g (x.enc :: caps) bs (σ++τ)=some (.bool b,σ++τ)) (bs:Nat) :
  callT T 111 [x.enc,.ptr σ.length 0] bs (σ++[.cells [.func g caps] 0 false])=some (.bool (!b),σ++[.cells [.func g caps] 0 false]):=by
 have hc1:=fun o bs=>hc [.cells [.func g caps] 0 false,o] bs
 refine heap_enter (af:=c111) (args':=[x.enc,.ptr σ.length 0]) (σ1:=σ++[.cells [.func g caps] 0 false]) rfl rfl (by simp [c111]) (by simp [c111]) rfl ?_
 simp [c111,baseA,hc1,←GV.enc_eq,setRun,dropA_gc,refLt,res1,refLt2_bool,refLt2_int,take_1]
theorem allValue (p:GV→Bool) (l:List GV) (g:Nat) (caps:List AV) (hl:l.length≤100000000000) (σ:Heap) (hc:∀ x∈l,∀ τ bs,callT T g (x.enc :: caps) bs (σ++τ)=some (.bool (p x),σ++τ)) (bs:Nat) :
  callT T 77 [.isl (GV.encs l) false,.func g caps] bs σ=some (.bool (sym (l.all p)),σ):=by
 have h1:=fun x hx=>allValue1 (p x) x g caps σ (hc x hx)
 have h2:=conValue (fun x=>!p x) l 111 [.ptr σ.length 0] hl (σ++[.cells [.func g caps] 0 false]) h1
 refine heap_enter (af:=c77) (args':=[.isl (GV.encs l) false,.func g caps]) (σ1:=σ) rfl rfl (by simp [c77]) (by simp [c77]) rfl ?_
 rw [←not_any]
 simp [c77,baseA,h2,dropA_gc,refLt,res1,refLt2_bool,refLt2_int,take_1,setRun,sym]
open Go.Mach
def plainB (c:Nat):Bool:=decide (32≤c) && decide (c≤126) && !decide (c=34) && !decide (c=92)
def textOK (t:ByteArray):Bool:=t.data.toList.all (fun c=>plainB c.toNat) && decide (t.size≤32)
def letterB (c:Nat):Bool:=decide (97≤c) && decide (c≤122)
def innerB (c:Nat):Bool:=letterB c || decide (c=95) || (decide (48≤c) && decide (c≤57))
def nameL:List UInt8→Bool
 | []=>false
 | c :: l=>letterB c.toNat && l.all (fun c=>innerB c.toNat)
def nameOK (t:ByteArray):Bool:=nameL t.data.toList && decide (t.size≤16)
def rightB (v:GV) (lst:Bool):Bool:=
 if v.kind=1 then decide (v.text=⟨#[]⟩∧v.items=[]∧v.num≤2147483647∧-2147483647≤v.num)
 else if v.kind=2 then decide (v.num=0∧v.items=[]∧textOK v.text=true)
 else if v.kind=3 then decide (v.num=0∧v.items=[]∧nameOK v.text=true)
 else if v.kind=4 then decide (v.num=0∧v.text=⟨#[]⟩∧lst=true)
 else false
def rightV:Nat→GV→Bool
 | 0,v=>rightB v false
 | d+1,v=>rightB v (decide (v.items.length≤16∧v.items.all (rightV d)=true))
def bt (s:ByteArray) (i:Nat):Nat:=((s.data.toList[i]?).getD 0).toNat
theorem bt_eq {s:ByteArray} {i:Nat} (h:i<s.size):bt s i=(s.data.toList[i]'(by simpa using h)).toNat:=by
 simp only [bt]; rw [zqF (by simpa using h)]; rfl
theorem bt_eq2 {s:ByteArray} {i:Nat} (h:i<s.size):(s.data[i]'h).toNat=bt s i:=by rw [bt_eq h]; simp
theorem bt_get {s:ByteArray} {i:Nat} (h:i<s.size):∃ b:UInt8,s.data.toList[i]?=some b∧b.toNat=bt s i:=⟨_,zqF (by simpa using h),(bt_eq h).symm⟩
theorem idx_bt {s:ByteArray} {i:Nat} (h:i<s.size):(s.data.toList[i]?).map (fun b=>(AV.int .u8 (b.toNat:Int)))=some (.int .u8 (bt s i)):=by
 obtain ⟨b,h1,h2⟩:=bt_get h; rw [h1,←h2]; rfl
theorem all_bt (s:ByteArray) (p:Nat→Bool):s.data.toList.all (fun c=>p c.toNat)=true↔∀ i,i<s.size→p (bt s i)=true:=by
 rw [zqQ]
 constructor
 ·intro h i hi
  rw [bt_eq hi]; exact h _ (zqT _)
 ·intro h c hc
  obtain ⟨i,hi,rfl⟩:=zqS hc
  have hi':i<s.size:=by simpa using hi
  have:=h i hi'
  rwa [bt_eq hi'] at this
theorem ba_empty (t:ByteArray):t=ByteArray.empty↔t.size=0:=⟨fun h=>by rw [h]; rfl,fun h=>ByteArray.ext (Array.eq_empty_of_size_eq_zero h)⟩
theorem ba_nil (t:ByteArray):t=⟨#[]⟩↔t.size=0:=⟨fun h=>by rw [h]; rfl,fun h=>ByteArray.ext (Array.eq_empty_of_size_eq_zero h)⟩
theorem ba_get {s:ByteArray} {i:Nat} (h:i<s.size):s[i]'h=s.data.toList[i]'(by simpa using h):=by
 cases s; rfl
theorem dec_lo {s:ByteArray} {i:Nat} (h:i<s.size) (ha:bt s i<128):Utf8.decode s i=(bt s i,1):=by
 rw [bt_eq h] at ha ⊢
 have:=decode_ascii s i h (by rw [ba_get h]; exact ha)
 rw [this,ba_get h]
theorem dec_hi {s:ByteArray} {i:Nat} (h:i<s.size) (ha:128≤bt s i):128≤(Utf8.decode s i).1:=by
 rw [bt_eq h] at ha
 exact (decode_high s i h (by rw [ba_get h]; exact ha)).1
theorem textOK_iff (t:ByteArray):textOK t=true↔(∀ i,i<t.size→plainB (bt t i)=true)∧t.size≤32:=by
 rw [textOK,zqL,all_bt t plainB,decide_eq_true_eq]
theorem textOK_no {t:ByteArray} {i:Nat} (h:i<t.size) (hp:plainB (bt t i)=false):textOK t=false:=by
 rw [Bool.eq_false_iff,Ne,textOK_iff]; intro hh; rw [hh.1 i h] at hp; cases hp
theorem plain_ok (t:ByteArray) (ht:t.size≤100000000000):pureT T c132 [.str t]=some (.bool (textOK t)):=by
 apply pure_enter (by simp [c132])
 simp [c132]
 refine W_for T 0 27 t.size (fun i f σ=>f 0=.str t∧f 6=.ptr 0 0∧σ=[.iter t i]∧∀ j,j<i→plainB (bt t j)=true) ?_ _ _ ?_
 ·rintro i f σ hi ⟨h0,h6,rfl,hall⟩
  by_cases hlt:i<t.size
  ·by_cases hlo:bt t i<128
   ·simp [h0,h6,hlt,dec_lo hlt hlo]
    have hno:=@textOK_no t i hlt
    refine ⟨fun h=>hno (by simp [plainB]; omega),fun h=>⟨fun h=>hno (by simp [plainB]; omega),fun h=>⟨fun h=>hno (by simp [plainB]; omega),fun h=>⟨fun h=>hno (by simp [plainB]; omega),fun h j hj=>?_⟩⟩⟩⟩
    by_cases e:j=i
    ·subst e; simp [plainB]; omega
    ·exact hall j (by omega)
   ·have:=dec_hi hlt (by omega)
    simp [h0,h6,hlt]
    have hno:=@textOK_no t i hlt
    refine ⟨fun h=>by omega,fun h=>⟨fun h=>hno (by simp [plainB]; omega),fun h=>by omega⟩⟩
  ·have he:i=t.size:=by omega
   subst he
   simp [h0,h6]
   refine ⟨fun h=>?_,fun h=>?_⟩
   ·exact (textOK_iff t).2 ⟨fun i hi=>hall i hi,by omega⟩
   ·refine Bool.eq_false_iff.2 fun hh=>?_
    have:=((textOK_iff t).1 hh).2
    omega
 ·simp
def nameG (s:ByteArray) (i:Nat):Bool:=if i=0 then letterB (bt s i) else innerB (bt s i)
theorem nameG_iff (s:ByteArray) (i:Nat):nameG s i=true↔(97≤bt s i∧bt s i≤122)∨(i≠0∧(bt s i=95∨(48≤bt s i∧bt s i≤57))):=by
 unfold nameG
 split
 ·simp [letterB]; omega
 ·simp [letterB,innerB]; omega
theorem nameOK_iff (t:ByteArray):nameOK t=true↔(∀ i,i<t.size→nameG t i=true)∧t.size≠0∧t.size≤16:=by
 have hs:t.data.toList.length=t.size:=by simp
 simp only [nameOK,zqL,decide_eq_true_eq]
 match hl:t.data.toList with
 | []=>
  rw [hl] at hs; simp at hs
  simp only [nameL,Bool.false_eq_true,false_and,false_iff]; omega
 | c :: l=>
  rw [hl] at hs; simp at hs
  have hb:∀ i,bt t i=(((c :: l)[i]?).getD 0).toNat:=fun i=>by simp only [bt,hl]
  simp only [nameL,zqL,zqQ]
  constructor
  ·rintro ⟨⟨h1,h2⟩,h3⟩
   refine ⟨fun i hi=>?_,by omega,h3⟩
   unfold nameG
   cases i with
   | zero=>simp [hb,h1]
   | succ i=>
    have hi':i<l.length:=by omega
    simp [hb,zqF hi',h2 l[i] (zqT hi')]
  ·rintro ⟨h1,h2,h3⟩
   refine ⟨⟨?_,fun x hx=>?_⟩,h3⟩
   ·have:=h1 0 (by omega)
    simpa [nameG,hb] using this
   ·obtain ⟨i,hi,rfl⟩:=zqS hx
    have:=h1 (i+1) (by omega)
    simpa [nameG,hb,zqF hi] using this
theorem nameOK_no {t:ByteArray} {i:Nat} (h:i<t.size) (hp:¬ ((97≤bt t i∧bt t i≤122)∨(i≠0∧(bt t i=95∨(48≤bt t i∧bt t i≤57))))):nameOK t=false:=by
 rw [←nameG_iff] at hp
 rw [Bool.eq_false_iff,Ne,nameOK_iff]; intro hh; exact hp (hh.1 i h)
theorem name_ok (t:ByteArray) (ht:t.size≤100000000000):pureT T c86 [.str t]=some (.bool (nameOK t)):=by
 apply pure_enter (by simp [c86])
 simp [c86]
 refine W_for T 0 43 t.size (fun i f σ=>f 0=.str t∧f 7=.ptr 0 0∧σ=[.iter t i]∧∀ j,j<i→nameG t j=true) ?_ _ _ ?_
 ·rintro i f σ hi ⟨h0,h6,rfl,hall⟩
  by_cases hlt:i<t.size
  ·have hno:=@nameOK_no t i hlt
   have hyes:_→∀ j,j<i+1→nameG t j=true:=fun h j hj=>by
    by_cases e:j=i
    ·subst e; exact (nameG_iff t j).2 h
    ·exact hall j (by omega)
   by_cases hlo:bt t i<128
   ·simp [h0,h6,hlt,dec_lo hlt hlo]
    repeat' (first | apply And.intro | intro _)
    all_goals first | exact hno (by omega) | exact hyes (by omega) _ (by assumption)
   ·have:=dec_hi hlt (by omega)
    simp [h0,h6,hlt]
    repeat' (first | apply And.intro | intro _)
    all_goals first | exact hno (by omega) | omega
  ·have he:i=t.size:=by omega
   subst he
   have hb:(nameOK t=true)↔t.size≠0∧t.size≤16:=by rw [nameOK_iff]; exact ⟨fun h=>h.2,fun h=>⟨fun i hi=>hall i hi,h⟩⟩
   simp [h0,h6,ba_empty,ba_nil,-ByteArray.size_eq_zero_iff]
   refine ⟨fun h=>⟨fun h2=>hb.2 ⟨h,by omega⟩,fun h2=>?_⟩,fun h=>?_⟩
   all_goals (refine Bool.eq_false_iff.2 fun hh=>?_; have:=hb.1 hh; omega)
 ·simp
theorem empty_ok (k n:Int) (t:ByteArray) (es:List AV):pureT T c131 [.agg [.int .i64 k,.int .i64 n,.str t,.isl es false]]=some (.bool (decide (k=0) && decide (n=0) && decide (t=⟨#[]⟩) && decide (es=[]))):=by
 apply pure_enter (by simp [c131])
 simp [c131]
 repeat' (first | apply And.intro | intro _)
 all_goals simp_all
theorem call_empty (k n:Int) (t:ByteArray) (es:List AV) (c:Bool) (bs:Nat) (σ:Heap):callT T 131 [.agg [.int .i64 k,.int .i64 n,.str t,.isl es c]] bs σ=some (.bool (sym (decide (k=0) && decide (n=0) && decide (t=⟨#[]⟩) && decide (es=[]))),σ):=
 call_scal rfl rfl rfl (empty_ok k n t es) rfl rfl rfl
theorem plain_call (t:ByteArray) (ht:t.size≤100000000000) (bs:Nat) (σ:Heap):callT T 132 [.str t] bs σ=some (.bool (sym (textOK t)),σ):=call_clean rfl rfl rfl rfl (plain_ok t ht)
theorem name_call (t:ByteArray) (ht:t.size≤100000000000) (bs:Nat) (σ:Heap):callT T 86 [.str t] bs σ=some (.bool (sym (nameOK t)),σ):=call_clean rfl rfl rfl rfl (name_ok t ht)
theorem encs_nil (l:List GV):GV.encs l=[]↔l=[]:=by cases l <;> simp [GV.encs]
theorem right_base (d:Nat) (lst:Bool) (k n:Int) (t:ByteArray) (l:List GV) (ht:t.size≤100000000000) (hk:k≠4) :
  pureT T c112 [(GV.mk k n t l).enc,.int .i64 d]=some (.bool (rightB (GV.mk k n t l) lst)):=by
 have hp:=plain_call t ht
 have hn:=name_call t ht
 apply pure_enter (by simp [c112])
 by_cases h1:k=1
 ·subst h1; simp [c112,GV.enc_eq,GV.kind,GV.num,GV.text,GV.items,call_empty,rightB,setRun,encs_nil]
  repeat' (first | apply And.intro | intro _)
  all_goals grind
 by_cases h2:k=2
 ·subst h2; simp [c112,GV.enc_eq,GV.kind,GV.num,GV.text,GV.items,call_empty,rightB,setRun,hp,encs_nil]
  repeat' (first | apply And.intro | intro _)
  all_goals grind
 by_cases h3:k=3
 ·subst h3; simp [c112,GV.enc_eq,GV.kind,GV.num,GV.text,GV.items,call_empty,rightB,setRun,hn,encs_nil]
  repeat' (first | apply And.intro | intro _)
  all_goals grind
 simp [c112,GV.enc_eq,GV.kind,GV.num,GV.text,GV.items,call_empty,rightB,setRun,h1,h2,h3,hk]
theorem right_ok:∀ (d:Nat) (v:GV),d≤100→v.size≤100000000000→pureT T c112 [v.enc,.int .i64 d]=some (.bool (rightV d v)):=by
 intro d
 induction d with
 | zero=>
  intro v hd hs
  obtain ⟨k,n,t,l⟩:=v
  simp only [GV.size] at hs
  by_cases h4:k=4
  ·subst h4
   apply pure_enter (by simp [c112])
   simp [c112,GV.enc_eq,GV.kind,GV.num,GV.text,GV.items,call_empty,rightV,rightB,setRun]
  exact right_base 0 _ k n t l (by omega) h4
 | succ d ih=>
  intro v hd hs
  obtain ⟨k,n,t,l⟩:=v
  simp only [GV.size] at hs
  by_cases h4:k=4
  ·subst h4
   have hw:IntKind.i64.wrap (d:Int)=(d:Int):=wr64 (by omega) (by omega)
   have hlen:=len_sizes l
   have hcont:∀ bs A C,callT T 110 [.isl (GV.encs l) false,.func 133 [.ptr 1 0]] bs [A,.cells [.int .i64 ((d:Int)+1)] 0 false,C]=some (.bool (sym (l.any fun x=>!rightV d x)),[A,.cells [.int .i64 ((d:Int)+1)] 0 false,C]):=fun bs A C=>
    conValue (fun x=>!rightV d x) l 133 [.ptr 1 0] (by omega) _ (fun x hx bs=>by
     have hr:∀ bs σ,callT T 112 [x.enc,.int .i64 d] bs σ=some (.bool (rightV d x),σ):=fun bs σ=>call_clean rfl rfl rfl (by simp) (ih x (by omega) (by have:=(sizes_mem hx).1; omega))
     refine heap_enter (af:=c133) (args':=[x.enc,.ptr 1 0]) rfl rfl (by simp [c133]) (by simp [c133]) rfl ?_
     simp [c133,baseA,hr,hw,←GV.enc_eq,setRun,dropA_gc,refLt,res1,refLt2_bool]) bs
   apply pure_enter (by simp [c112])
   simp [c112,GV.enc_eq,GV.kind,GV.num,GV.text,GV.items,call_empty,rightV,rightB,setRun,hcont,encs_nil]
   repeat' (first | apply And.intro | intro _)
   all_goals grind
  exact right_base _ _ k n t l (by omega) h4
open Go.Mach
theorem refName_ok (t:ByteArray) (ht:t.size≤100000000000):pureT T c91 [.str t]=some (.bool (nameOK t)):=by
 apply pure_enter (by simp [c91])
 have hn:nameOK t=true↔(∀ i,i<t.size→nameG t i=true)∧t.size≠0∧t.size≤16:=nameOK_iff t
 by_cases h0:1≤t.size
 ·have hno0:¬ (97≤bt t 0∧bt t 0≤122)→nameOK t=false:=fun h=>nameOK_no (i:=0) (by omega) (by omega)
  have hb:=@idx_bt t 0 (by omega)
  have hb':t.data[0]?.map (fun b=>(AV.int .u8 (b.toNat:Int)))=some (.int .u8 (bt t 0)):=by simpa using hb
  have hlong:¬ t.size≤16→nameOK t=false:=fun h=>by rw [Bool.eq_false_iff,Ne,hn]; omega
  simp [c91,hb']
  refine ⟨fun h=>by omega,fun h=>⟨fun h=>hlong (by omega),fun h2=>⟨fun h=>hno0 (by omega),fun h3=>⟨fun h=>hno0 (by omega),fun h4=>?_⟩⟩⟩⟩
  refine W_for T 0 51 (t.size - 1) (fun i f σ=>f 0=.str t∧f 3=.int .i64 ((i:Int)+1)∧σ=[]∧∀ j,j<i+1→nameG t j=true) ?_ _ _ ?_
  ·rintro i f σ hi ⟨h0,h3,rfl,hall⟩
   by_cases hlt:i+1<t.size
   ·have hno:=@nameOK_no t (i+1) hlt
    have hyes:_→∀ j,j<i+1+1→nameG t j=true:=fun h j hj=>by
     by_cases e:j=i+1
     ·subst e; exact (nameG_iff t (i+1)).2 h
     ·exact hall j (by omega)
    have hb:=@idx_bt t (i+1) hlt
    have hb':t.data[i+1]?.map (fun b=>(AV.int .u8 (b.toNat:Int)))=some (.int .u8 (bt t (i+1))):=by simpa using hb
    have hw:IntKind.i64.wrap ((i:Int)+1+1)=(i:Int)+1+1:=wr64 (by omega) (by omega)
    have hc1:((i:Int)+1<(t.size:Int)):=by omega
    have hc2:(0:Int)≤(i:Int)+1:=by omega
    have hc3:((i:Int)+1).toNat=i+1:=by omega
    have hc4:i<t.size - 1:=by omega
    simp [h0,h3,hc1,hc2,hc3,hb',hw,hc4]
    repeat' (first | apply And.intro | intro _)
    all_goals first | exact hno (by omega) | exact hyes (by omega) _ (by assumption)
   ·have hc1:¬ ((i:Int)+1<(t.size:Int)):=by omega
    simp [h0,h3,hc1]
    exact hn.2 ⟨fun j hj=>hall j (by omega),by omega,by omega⟩
  ·simp
   exact (nameG_iff t 0).2 (by omega)
 ·have:t.size=0:=by omega
  have hf:nameOK t=false:=by rw [Bool.eq_false_iff,Ne,hn]; omega
  simp [c91,this,hf]
theorem refName_call (t:ByteArray) (ht:t.size≤100000000000) (bs:Nat) (σ:Heap):callT T 91 [.str t] bs σ=some (.bool (sym (nameOK t)),σ):=call_clean rfl rfl rfl rfl (refName_ok t ht)
theorem deep_text (d:Int) (n:Int) (t:ByteArray) (l:List GV) (lst:Bool) (ht:t.size≤100000000000) (hl:l.length≤100000000000):pureT T c121 [(GV.mk 2 n t l).enc,.int .i64 d]=some (.bool (rightB (GV.mk 2 n t l) lst)):=by
 apply pure_enter (by simp [c121])
 have hn:=textOK_iff t
 have hr:rightB (GV.mk 2 n t l) lst=decide (n=0∧l=[]∧textOK t=true):=by rw [Bool.eq_iff_iff]; simp [rightB,GV.kind,GV.num,GV.text,GV.items]
 rw [hr]
 by_cases h0:n=0
 ·subst h0
  simp [c121,GV.enc_eq,GV.kind,GV.num,GV.text,GV.items]
  refine W_for T 0 125 t.size (fun i f σ=>f 2=.ptr 0 0∧f 5=.int .i64 (i:Int)∧σ=[.cells [.int .i64 2,.int .i64 0,.str t,.isl (GV.encs l) false] 0 false]∧∀ j,j<i→plainB (bt t j)=true) ?_ _ _ ?_
  ·rintro i f σ hi ⟨h2,h5,rfl,hall⟩
   by_cases hlt:i<t.size
   ·have hno:=@textOK_no t i hlt
    have hb:=@idx_bt t i hlt
    have hb':t.data[i]?.map (fun b=>(AV.int .u8 (b.toNat:Int)))=some (.int .u8 (bt t i)):=by simpa using hb
    have hw:IntKind.i64.wrap ((i:Int)+1)=(i:Int)+1:=wr64 (by omega) (by omega)
    have hbe:=bt_eq2 hlt
    simp [h2,h5,hlt,hbe,hw]
    have hno':¬ (32≤bt t i∧bt t i≤126∧bt t i≠34∧bt t i≠92)→textOK t=false:=fun h=>hno (by simp [plainB]; omega)
    have hyes:(32≤bt t i∧bt t i≤126∧bt t i≠34∧bt t i≠92)→∀ j,j<i+1→plainB (bt t j)=true:=fun h j hj=>by
     by_cases e:j=i
     ·subst e; simp [plainB]; omega
     ·exact hall j (by omega)
    refine ⟨fun h=>?_,fun h=>⟨fun h=>?_,fun h=>⟨fun h=>?_,fun h=>⟨fun h=>?_,fun h=>?_⟩⟩⟩⟩
    all_goals first | exact hyes (by omega) | (rw [hno' (by omega)]; simp)
   ·have he:i=t.size:=by omega
    subst he
    simp [h2,h5,encs_nil]
    have:textOK t=true↔t.size≤32:=by rw [hn]; exact ⟨fun h=>h.2,fun h=>⟨fun j hj=>hall j hj,h⟩⟩
    grind
  ·simp
 ·simp [c121,GV.enc_eq,GV.kind,GV.num,GV.text,GV.items,h0]
theorem deep_list (d:Nat) (n:Int) (t:ByteArray) (l:List GV) (hd:d≤100) (ht:t.size≤100000000000) (hl:l.length≤100000000000) (hc:∀ x∈l,∀ bs σ,0<d→callT T 121 [x.enc,.int .i64 ((d:Int) - 1)] bs σ=some (.bool (sym (rightV (d - 1) x)),σ)) :
  pureT T c121 [(GV.mk 4 n t l).enc,.int .i64 d]=some (.bool (rightV d (GV.mk 4 n t l))):=by
 apply pure_enter (by simp [c121])
 have hr:rightV d (GV.mk 4 n t l)=decide (n=0∧t=⟨#[]⟩∧0<d∧l.length≤16∧l.all (rightV (d - 1))=true):=by
  rw [Bool.eq_iff_iff]; cases d <;> simp [rightV,rightB,GV.kind,GV.num,GV.text,GV.items]
 rw [hr]
 by_cases h0:n=0
 ·subst h0
  simp [c121,GV.enc_eq,GV.kind,GV.num,GV.text,GV.items]
  refine ⟨fun h1 h2 h3 h4=>absurd h2 h1,fun h1=>⟨fun h2=>by omega,fun h2=>⟨fun h3=>by omega,fun h3=>?_⟩⟩⟩
  refine W_for T 0 125 l.length (fun i f σ=>f 1=.int .i64 (d:Int)∧f 2=.ptr 0 0∧f 7=.int .i64 (i:Int)∧σ=[.cells [.int .i64 4,.int .i64 0,.str t,.isl (GV.encs l) false] 0 false]∧∀ j,(hj:j<l.length)→j<i→rightV (d - 1) l[j]=true) ?_ _ _ ?_
  ·rintro i f σ hi ⟨hd1,h2',h7,rfl,hall⟩
   by_cases hlt:i<l.length
   ·have hw:IntKind.i64.wrap ((i:Int)+1)=(i:Int)+1:=wr64 (by omega) (by omega)
    have hwd:IntKind.i64.wrap ((d:Int) - 1)=(d:Int) - 1:=wr64 (by omega) (by omega)
    have e1:l[i]?=some l[i]:=zqF hlt
    have hcl:=fun bs σ=>hc l[i] (zqT hlt) bs σ (by omega)
    simp [hd1,h2',h7,hlt,hw,hwd,hcl]
    refine ⟨fun h j hj hji=>?_,fun h=>?_⟩
    ·by_cases e:j=i
     ·subst e; exact h
     ·exact hall j hj (by omega)
    ·intro _ _ _; exact ⟨_,zqT hlt,h⟩
   ·have he:i=l.length:=by omega
    subst he
    simp [h2',h7]
    refine ⟨h1,by omega,by omega,fun x hx=>?_⟩
    obtain ⟨j,hj,rfl⟩:=zqS hx
    exact hall j hj hj
  ·simp
 ·simp [c121,GV.enc_eq,GV.kind,GV.num,GV.text,GV.items,h0]
theorem deep_rest (d:Nat) (k n:Int) (t:ByteArray) (l:List GV) (hk:k≠2) (hk4:k≠4) (ht:t.size≤100000000000):pureT T c121 [(GV.mk k n t l).enc,.int .i64 d]=some (.bool (rightV d (GV.mk k n t l))):=by
 apply pure_enter (by simp [c121])
 have hc:=refName_call t ht
 have hr:rightV d (GV.mk k n t l)=(if k=1 then decide (t=⟨#[]⟩∧l=[]∧n≤2147483647∧-2147483647≤n) else if k=3 then decide (n=0∧l=[]∧nameOK t=true) else false):=by
  rw [Bool.eq_iff_iff]; cases d <;> simp [rightV,rightB,GV.kind,GV.num,GV.text,GV.items,hk,hk4] <;> split <;> simp
 rw [hr]
 by_cases h1:k=1
 ·subst h1
  simp [c121,GV.enc_eq,GV.kind,GV.num,GV.text,GV.items,encs_nil]
  grind
 ·by_cases h0:n=0
  ·by_cases h3:k=3
   ·subst h3
    simp [c121,GV.enc_eq,GV.kind,GV.num,GV.text,GV.items,encs_nil,h0,hc]
    grind
   ·simp [c121,GV.enc_eq,GV.kind,GV.num,GV.text,GV.items,encs_nil,h0,h1,h3,hk,hk4]
  ·simp [c121,GV.enc_eq,GV.kind,GV.num,GV.text,GV.items,encs_nil,h0,h1]
theorem deep_ok:∀ (d:Nat) (v:GV),d≤100→v.size≤100000000000→pureT T c121 [v.enc,.int .i64 d]=some (.bool (rightV d v)):=by
 intro d
 induction d with
 | zero=>
  intro v hd hs
  obtain ⟨k,n,t,l⟩:=v
  simp only [GV.size] at hs
  have hl:=len_sizes l
  by_cases h2:k=2
  ·subst h2; exact deep_text _ _ _ _ _ (by omega) (by omega)
  by_cases h4:k=4
  ·subst h4; exact deep_list 0 _ _ _ (by omega) (by omega) (by omega) (fun x hx bs σ h=>by omega)
  exact deep_rest _ _ _ _ _ h2 h4 (by omega)
 | succ d ih=>
  intro v hd hs
  obtain ⟨k,n,t,l⟩:=v
  simp only [GV.size] at hs
  have hl:=len_sizes l
  by_cases h2:k=2
  ·subst h2; exact deep_text _ _ _ _ _ (by omega) (by omega)
  by_cases h4:k=4
  ·subst h4
   refine deep_list (d+1) _ _ _ (by omega) (by omega) (by omega) (fun x hx bs σ h=>?_)
   have:=ih x (by omega) (by have:=(sizes_mem hx).1; omega)
   have e:(((d+1:Nat):Int) - 1)=(d:Int):=by omega
   rw [e]
   exact call_clean rfl rfl rfl (by simp) this
  exact deep_rest _ _ _ _ _ h2 h4 (by omega)
abbrev rightT (v:GV):Bool:=rightV 4 v
theorem valRight_ok (v:GV) (hs:v.size≤100000000000):pureT T c78 [v.enc]=some (.bool (rightT v)):=by
 have hr:∀ bs σ,callT T 112 [v.enc,.int .i64 4] bs σ=some (.bool (sym (rightT v)),σ):=fun bs σ=>call_clean rfl rfl rfl (by simp) (right_ok 4 v (by omega) hs)
 apply pure_enter (by simp [c78])
 simp [c78,hr]
theorem valRight (v:GV) (hs:v.size≤100000000000) (bs:Nat) (σ:Heap):callT T 78 [v.enc] bs σ=some (.bool (sym (rightT v)),σ):=call_clean rfl rfl rfl (by simp) (valRight_ok v hs)
theorem refRight_ok (v:GV) (hs:v.size≤100000000000):pureT T c93 [v.enc]=some (.bool (rightT v)):=by
 have hr:∀ bs σ,callT T 121 [v.enc,.int .i64 4] bs σ=some (.bool (sym (rightT v)),σ):=fun bs σ=>call_clean rfl rfl rfl (by simp) (deep_ok 4 v (by omega) hs)
 apply pure_enter (by simp [c93])
 simp [c93,hr]
theorem refRight (v:GV) (hs:v.size≤100000000000) (bs:Nat) (σ:Heap):callT T 93 [v.enc] bs σ=some (.bool (sym (rightT v)),σ):=call_clean rfl rfl rfl (by simp) (refRight_ok v hs)
end Go.Proofs.YtpgakkhfjjhpdaaGreatDoor
end
section
namespace Go.Mach
def bv (l:List UInt8):List AV:=l.map fun b=>.int .u8 (b.toNat:Int)
@[simp] theorem bv_length (l:List UInt8):(bv l).length=l.length:=by simp [bv]
theorem bv_all (l:List UInt8):window (bv l) 0 l.length=some (bv l):=by
 unfold window
 rw [if_pos (by simp)]
 rw [List.drop_zero,List.take_of_length_le (by simp)]
theorem chunk_one:∀ l:List AV,chunk 1 false l.length l=some l
 | []=>rfl
 | x :: l=>by simp [chunk_one l]
theorem bytesA_bv (l:List UInt8):bytesA (bv l)=some ⟨l.toArray⟩:=by
 have:(bv l).mapM ofU8=some l:=by
  induction l with
  | nil=>rfl
  | cons b l ih=>
   show (AV.int .u8 (b.toNat:Int) :: bv l).mapM ofU8=some (b :: l)
   rw [List.mapM_cons,ih]
   simp [ofU8]
 unfold bytesA; rw [this]; rfl
theorem elems_bv {σ:Heap} {id:Nat} {l:List UInt8} {fz:Nat} {ext:Bool} {n:Nat} (h:σ[id]?=some (.cells (bv l) fz ext)) (hn:n=l.length):elemsA σ 1 false (.sl id 0 n 1 false)=some (bv l):=by
 subst hn
 simp only [elemsA,h,Nat.mul_one,bv_all,Option.bind_some]
 have:=chunk_one (bv l)
 rwa [bv_length] at this
theorem b2s_bv {σ:Heap} {id:Nat} {l:List UInt8} {fz:Nat} {ext:Bool} {n:Nat} (h:σ[id]?=some (.cells (bv l) fz ext)) (hn:n=l.length):b2sV σ (.sl id 0 n 1 false)=some (.str ⟨l.toArray⟩):=by
 simp [b2sV,isSl,elems_bv h hn,bytesA_bv]
def mp {α:Type} (g:α→α) (l:List α) (i:Nat):List α:=(l.take i).map g++l.drop i
section
variable {α:Type} {g:α→α} {l:List α} {i:Nat}
end
end Go.Mach
namespace Go.Proofs.YtpgakkhfjjhpdaaGreatDoor
open Go.Mach
def pickN (c:Int) (n:Nat):Nat:=((if c<0 then -(c+1) else c).toNat) % n
theorem pickN_lt {c:Int} {n:Nat} (h:0<n):pickN c n<n:=Nat.mod_lt _ h
theorem pick_eq (c:Int) (n:Nat) (h:0<n) (h1:-9223372036854775808≤c) (h2:c≤9223372036854775807) :
  ((if c<0 then IntKind.i64.wrap (0 - IntKind.i64.wrap (c+1)) else c).tmod n)=(pickN c n:Int):=by
 by_cases hc:c<0
 ·rw [if_pos hc,wr64 (n:=c+1) (by omega) (by omega),wr64 (by omega) (by omega)]
  simp only [pickN,if_pos hc]
  have:(0 - (c+1):Int)=(((-(c+1)).toNat:Nat):Int):=by omega
  rw [this]; rfl
 ·rw [if_neg hc]
  simp only [pickN,if_neg hc]
  have:c=((c.toNat:Nat):Int):=by omega
  rw [this,Int.toNat_natCast]; rfl
theorem tm (n m:Nat):((n:Int)).tmod (m:Int)=((n % m:Nat):Int):=rfl
theorem u8of {n:Nat} (h:n<256):((UInt8.ofNat n).toNat:Int)=(n:Int):=by rw [UInt8.toNat_ofNat',Nat.mod_eq_of_lt h]
end Go.Proofs.YtpgakkhfjjhpdaaGreatDoor
end
section
namespace Go.Proofs.YtpgakkhfjjhpdaaGreatDoor
open Go.Mach
theorem enc_mk (k n:Int) (t:ByteArray) (l:List GV):AV.agg [.int .i64 k,.int .i64 n,.str t,.isl (GV.encs l) false]=(GV.mk k n t l).enc:=by simp only [GV.enc]
@[simp] theorem gv_eta (v:GV):GV.mk v.kind v.num v.text v.items=v:=by cases v; rfl
@[simp] theorem encs_nil':GV.encs []=[]:=rfl
@[simp] theorem encs_one (v:GV):GV.encs [v]=[v.enc]:=rfl
@[simp] theorem encs_snoc (l:List GV) (v:GV):GV.encs l++[v.enc]=GV.encs (l++[v]):=by simp [GV.encs_map]
@[simp] theorem encs_okEl (l:List GV):(GV.encs l).all (okEl 4 true)=true:=by
 rw [zqQ]
 intro x hx
 rw [GV.encs_map] at hx
 obtain ⟨v,_,rfl⟩:=List.mem_map.1 hx
 rw [GV.enc_eq]; rfl
theorem items_le (v:GV):GV.sizes v.items+5≤v.size:=by obtain ⟨k,n,t,l⟩:=v; show GV.sizes l+5≤_; simp only [GV.size]; omega
theorem gv_ext (a b:GV):a=b↔a.kind=b.kind∧a.num=b.num∧a.text=b.text∧a.items=b.items:=by
 obtain ⟨k,n,t,l⟩:=a; obtain ⟨k2,n2,t2,l2⟩:=b; simp [GV.kind,GV.num,GV.text,GV.items]
mutual
def sameV:GV→GV→Bool
 | .mk k n t l,b=>decide (k=b.kind) && decide (n=b.num) && decide (t=b.text) && sameVs l b.items
def sameVs:List GV→List GV→Bool
 | [],[]=>true
 | x :: xs,y :: ys=>sameV x y && sameVs xs ys
 | _,_=>false
end
mutual
theorem sameV_iff:∀ a b:GV,sameV a b=true↔a=b
 | .mk k n t l,.mk k2 n2 t2 l2=>by
  have:=sameVs_iff l l2
  simp [sameV,this,and_assoc]
theorem sameVs_iff:∀ a b:List GV,sameVs a b=true↔a=b
 | [],[]=>by simp [sameVs]
 | [],_ :: _=>by simp [sameVs]
 | _ :: _,[]=>by simp [sameVs]
 | x :: xs,y :: ys=>by
  have h1:=sameV_iff x y
  have h2:=sameVs_iff xs ys
  simp [sameVs,h1,h2]
end
instance:DecidableEq GV:=fun a b=>decidable_of_iff _ (sameV_iff a b)
theorem values_ok (l l2:List GV) (hl:l.length≤100000000000) (hc:∀ x∈l,∀ y∈l2,∀ bs σ,callT T 70 [x.enc,y.enc] bs σ=some (.bool (sym (decide (x=y))),σ)) :
  pureT T c41 [.isl (GV.encs l) false,.isl (GV.encs l2) false]=some (.bool (decide (l=l2))):=by
 apply pure_enter (by simp [c41])
 by_cases hlen:l.length=l2.length
 ·simp [c41,hlen]
  refine W_for T 0 29 l.length (fun i f σ=>f 0=.isl (GV.encs l) false∧f 1=.isl (GV.encs l2) false∧f 5=.int .i64 (i:Int)∧σ=[]∧∀ j,(h1:j<l.length)→(h2:j<l2.length)→j<i→l[j]=l2[j]) ?_ _ _ ?_
  ·rintro i f σ hi ⟨h0,h1,h5,rfl,hall⟩
   by_cases hlt:i<l.length
   ·have hlt2:i<l2.length:=by omega
    have hw:IntKind.i64.wrap ((i:Int)+1)=(i:Int)+1:=wr64 (by omega) (by omega)
    have hcl:=hc l[i] (zqT hlt) l2[i] (zqT hlt2)
    simp [h0,h1,h5,hlt,hlt2,hw,hcl]
    refine ⟨fun h j h1 h2 hj=>?_,fun h e=>?_⟩
    ·by_cases e:j=i
     ·subst e; exact h
     ·exact hall j h1 h2 (by omega)
    ·subst e; exact h rfl
   ·have he:i=l.length:=by omega
    subst he
    simp [h0,h1,h5]
    exact List.ext_getElem hlen fun j h1 h2=>hall j h1 h2 h1
  ·simp
 ·have hne:¬ l=l2:=fun e=>hlen (by rw [e])
  have hlen':¬ (l.length:Int)=(l2.length:Int):=by omega
  simp [c41,hlen',hne]
theorem same_ok:∀ (n:Nat) (a b:GV),a.size≤n→n≤100000000000→pureT T c70 [a.enc,b.enc]=some (.bool (decide (a=b))):=by
 intro n
 induction n with
 | zero=>intro a b h; cases a; simp [GV.size] at h
 | succ n ih=>
  intro a b hs hn
  have hl:GV.sizes a.items≤n:=by have:=items_le a; omega
  have hlen:=len_sizes a.items
  have hv:∀ bs σ,callT T 41 [.isl (GV.encs a.items) false,.isl (GV.encs b.items) false] bs σ=some (.bool (sym (decide (a.items=b.items))),σ):=fun bs σ=>
   call_clean rfl rfl rfl (by simp) (values_ok a.items b.items (by omega) fun x hx y hy bs σ=>call_clean rfl rfl rfl (by simp) (ih x y (by have:=(sizes_mem hx).1; omega) (by omega)))
  apply pure_enter (by simp [c70])
  simp [c70,hv,setRun,enc_mk]
  have:=gv_ext a b
  grind
theorem callSame (a b:GV) (hs:a.size≤100000000000) (bs:Nat) (σ:Heap):callT T 70 [a.enc,b.enc] bs σ=some (.bool (sym (decide (a=b))),σ):=call_clean rfl rfl rfl (by simp) (same_ok a.size a b (Nat.le_refl _) hs)
open Go.Mach
theorem rb4 (l:List GV) (lst:Bool) (h:lst=true):rightB (.mk 4 0 ⟨#[]⟩ l) lst=true:=by
 simp [rightB,GV.kind,GV.num,GV.text,GV.items,h]
def maxSize:Nat→Nat
 | 0=>42
 | d+1=>42+16 * maxSize d
theorem sizes_le {l:List GV} {m:Nat} (h:∀ x∈l,x.size≤m):GV.sizes l≤l.length * m:=by
 induction l with
 | nil=>simp [GV.sizes]
 | cons x l ih=>
  have h1:=h x (by simp)
  have h2:=ih fun y hy=>h y (by simp [hy])
  simp only [GV.sizes,zqU,Nat.add_mul]; omega
theorem right_size:∀ (d:Nat) (v:GV),rightV d v=true→v.size≤maxSize d:=by
 have base:∀ (v:GV) (lst:Bool),rightB v lst=true→(lst=true→GV.sizes v.items≤16 * 0+GV.sizes v.items)→v.size≤42+(if v.kind=4∧lst=true then GV.sizes v.items else 0):=by
  intro v lst h _
  obtain ⟨k,n,t,l⟩:=v
  simp only [rightB,GV.kind,GV.num,GV.text,GV.items] at h
  simp only [GV.size,GV.kind,GV.items]
  have hnil:l=[]→GV.sizes l=0:=fun e=>by subst e; rfl
  by_cases h1:k=1
  ·rw [if_pos h1,decide_eq_true_eq] at h; have:=hnil h.2.1; have ht:t.size=0:=by rw [h.1]; rfl
   omega
  ·rw [if_neg h1] at h
   by_cases h2:k=2
   ·rw [if_pos h2,decide_eq_true_eq] at h; have:=hnil h.2.1; have:=((textOK_iff t).1 h.2.2).2; omega
   ·rw [if_neg h2] at h
    by_cases h3:k=3
    ·rw [if_pos h3,decide_eq_true_eq] at h; have:=hnil h.2.1; have:=((nameOK_iff t).1 h.2.2).2.2; omega
    ·rw [if_neg h3] at h
     by_cases h4:k=4
     ·rw [if_pos h4,decide_eq_true_eq] at h
      have ht:t.size=0:=by rw [h.2.1]; rfl
      rw [if_pos ⟨h4,h.2.2⟩]; omega
     ·rw [if_neg h4] at h; cases h
 intro d
 induction d with
 | zero=>
  intro v h
  have:=base v false h (fun h=>by cases h)
  simp only [Bool.false_eq_true,and_false,if_false] at this
  simpa [maxSize] using this
 | succ d ih=>
  intro v h
  have hb:=base v _ h (fun _=>by omega)
  simp only [maxSize]
  split at hb
  ·rename_i hc
   have hl:=hc.2
   rw [decide_eq_true_eq] at hl
   have hs:=sizes_le (l:=v.items) (m:=maxSize d) fun x hx=>ih x (zqQ.1 hl.2 x hx)
   have:v.items.length * maxSize d≤16 * maxSize d:=Nat.mul_le_mul_right _ hl.1
   omega
  ·omega
theorem rightT_size {v:GV} (h:rightT v=true):v.size≤2936010:=Nat.le_trans (right_size 4 v h) (by decide)
open Go.Mach
open Go.Mach
theorem bytes_ext {s t:ByteArray} (h:s.data.toList=t.data.toList):s=t:=by
 cases s; cases t; simp only [ByteArray.mk.injEq]; exact Array.toList_inj.1 h
theorem rightB_spec {v:GV} {b:Bool} (h:rightB v b=true):(v.kind=1∧v.text=⟨#[]⟩∧v.items=[])∨((v.kind=2∨v.kind=3)∧v.num=0∧v.items=[])∨(v.kind=4∧v.num=0∧v.text=⟨#[]⟩∧b=true):=by
 obtain ⟨k,n,t,l⟩:=v
 simp only [rightB,GV.kind,GV.num,GV.text,GV.items] at h ⊢
 split at h
 ·have:=of_decide_eq_true h; exact .inl ⟨by assumption,this.1,this.2.1⟩
 ·split at h
  ·have:=of_decide_eq_true h; exact .inr (.inl ⟨.inl (by assumption),this.1,this.2.1⟩)
  ·split at h
   ·have:=of_decide_eq_true h; exact .inr (.inl ⟨.inr (by assumption),this.1,this.2.1⟩)
   ·split at h
    ·have:=of_decide_eq_true h; exact .inr (.inr ⟨by assumption,this.1,this.2.1,this.2.2⟩)
    ·cases h
theorem right_mono:∀ (d:Nat) (v:GV),rightV d v=true→rightV (d+1) v=true
 | 0,v,h=>by
  have:=rightB_spec h
  obtain ⟨k,n,t,l⟩:=v
  simp only [rightV,GV.items] at h ⊢
  rcases rightB_spec h with ⟨h1,_⟩ | ⟨h1,_⟩ | ⟨h1,_,_,h4⟩
  ·simp only [rightB,h1,if_true] at h ⊢; exact h
  ·rcases h1 with h1 | h1 <;> (simp only [rightB,h1] at h ⊢; simpa using h)
  ·cases h4
 | d+1,v,h=>by
  obtain ⟨k,n,t,l⟩:=v
  simp only [rightV,GV.items] at h ⊢
  have hm:decide (l.length≤16∧l.all (rightV d)=true)=true→decide (l.length≤16∧l.all (rightV (d+1))=true)=true:=fun h=>by
   have h:=of_decide_eq_true h
   refine decide_eq_true ⟨h.1,?_⟩
   rw [zqQ] at h ⊢
   exact fun x hx=>right_mono d x (h.2 x hx)
  rcases rightB_spec h with ⟨h1,_⟩ | ⟨h1,_⟩ | ⟨h1,h2,h3,h4⟩
  ·simp only [rightB,h1,if_true] at h ⊢; exact h
  ·rcases h1 with h1 | h1 <;> (simp only [rightB,h1] at h ⊢; simpa using h)
  ·simp only [GV.kind,GV.num,GV.text] at h1 h2 h3
   subst h1 h2 h3
   exact rb4 _ _ (hm h4)
theorem right_items {d:Nat} {v:GV} (h:rightV (d+1) v=true) (hk:v.kind=4):∀ x∈v.items,rightV d x=true:=by
 have h:rightB v (decide (v.items.length≤16∧v.items.all (rightV d)=true))=true:=h
 rcases rightB_spec h with ⟨h1,_⟩ | ⟨h1,_⟩ | ⟨_,_,_,h4⟩
 ·omega
 ·omega
 ·exact zqQ.1 (of_decide_eq_true h4).2
open Go.Mach
mutual
def pr:GV→List UInt8
 | .mk k n t l=>if k=1 then Lib.itoa n else if k=2 then 34 :: (t.data.toList++[34]) else if k=3 then t.data.toList else if k=4 then 91 :: (prs l++[93]) else []
def prs:List GV→List UInt8
 | []=>[]
 | x :: l=>pr x++prc l
def prc:List GV→List UInt8
 | []=>[]
 | x :: l=>44 :: (pr x++prc l)
end
theorem prc_append (a b:List GV):prc (a++b)=prc a++prc b:=by
 induction a with
 | nil=>simp [prc]
 | cons x a ih=>simp [prc,ih]
theorem prs_snoc {a:List GV} (h:a≠[]) (x:GV):prs (a++[x])=prs a++44 :: pr x:=by
 cases a with
 | nil=>exact absurd rfl h
 | cons y a=>simp [prs,prc_append,prc]
theorem prs_append (a b:List GV):prs (a++b)=prs a++(if a=[] then prs b else prc b):=by
 cases a with
 | nil=>simp [prs]
 | cons y a=>simp [prs,prc_append]
theorem prs_take_le (a:List GV) (i:Nat):(prs (a.take i)).length≤(prs a).length:=by
 have h:=prs_append (a.take i) (a.drop i)
 rw [List.take_append_drop] at h
 rw [h,zqJ]; omega
theorem callWS {σ:Heap} {id t:Nat} {l:List UInt8} {s:ByteArray} (bs:Nat) (h:σ[id]?=some (.bld t 5 l)) (ht:t∈bldTs) (hl:l.length+s.size≤70368744177664) :
  callT T 102 [.ptr id 0,.str s] bs σ=some (.undef,σ.set id (.bld t 5 (l++s.data.toList))):=by
 rw [callT_pr (p:=wsP) _ _ _ rfl _]
 simp only [wsP,h]; rw [if_pos (by simp [ht,hl])]
theorem callWB {σ:Heap} {id t:Nat} {l:List UInt8} {n:Int} (bs:Nat) (h:σ[id]?=some (.bld t 5 l)) (ht:t∈bldTs) (hl:l.length+1≤70368744177664) (h0:0≤n) (h1:n<256) :
  callT T 107 [.ptr id 0,.int .u8 n] bs σ=some (.undef,σ.set id (.bld t 5 (l++[UInt8.ofNat n.toNat]))):=by
 rw [callT_pr (p:=wbP) _ _ _ rfl _]
 simp only [wbP,h]; rw [if_pos (by simp [ht,hl,h0,h1])]
theorem callStr {σ:Heap} {id t:Nat} {l:List UInt8} (bs:Nat) (h:σ[id]?=some (.bld t 5 l)) (hl:l.length≤70368744177664) :
  callT T 101 [.ptr id 0] bs σ=some (.str ⟨l.toArray⟩,σ.set id .dead):=by
 rw [callT_pr (p:=strP) _ _ _ rfl _]
 simp only [strP,h]; rw [if_pos (by simp [hl])]
theorem callItoa {n:Int} (bs:Nat) (σ:Heap) (h:GV.i64ok n):callT T 170 [.int .i64 n] bs σ=some (.str ⟨(Lib.itoa n).toArray⟩,σ):=by
 rw [callT_pr (p:=itoaP) _ _ _ rfl _]
 simp only [itoaP]; rw [if_pos (show _∧_ from h)]
theorem ba_size (l:List UInt8):(ByteArray.mk l.toArray).size=l.length:=rfl
theorem hp_bld {σ τ:Heap} {n id:Nat} {o:AObj} (h:τ.take n=σ.set id o) (hid:id<σ.length) (hn:n=σ.length):τ[id]?=some o:=by
 have h1:(τ.take n)[id]?=some o:=by rw [h]; simp [hid]
 rw [List.getElem?_take,if_pos (by omega)] at h1; exact h1
theorem write_ok:∀ (m:Nat) (v:GV),v.size≤m→m≤100000000000→v.ok→∀ (σ:Heap) (id t:Nat) (l:List UInt8) (bs:Nat),σ[id]?=some (.bld t 5 l)→t∈bldTs→l.length+(pr v).length≤70368744177664 →
  callT T 163 [.ptr id 0,v.enc] bs σ=some (.tup [],σ.set id (.bld t 5 (l++pr v))):=by
 intro m
 induction m with
 | zero=>intro v h; cases v; simp [GV.size] at h
 | succ m ih=>
  intro v hs hm hv σ id t l bs hid ht hl
  obtain ⟨k,n,s,items⟩:=v
  simp only [GV.ok] at hv
  have hidl:id<σ.length:=(zqI.1 hid).1
  have hget:∀ τ:Heap,(σ++τ)[id]?=some (.bld t 5 l):=fun τ=>by rw [zqA hidl]; exact hid
  have hset:∀ (τ:Heap) o,(σ++τ).set id o=σ.set id o++τ:=fun τ o=>List.set_append_left _ _ hidl
  have htk:∀ (τ:Heap) o,(σ.set id o++τ).take σ.length=σ.set id o:=fun τ o=>by rw [List.take_append_of_le_length (by simp),List.take_of_length_le (by simp)]
  have hself:σ.set id (.bld t 5 l)=σ:=by
   apply List.ext_getElem?
   intro j
   by_cases e:id=j
   ·subst e; rw [hid]; simp [hidl]
   ·rw [List.getElem?_set,if_neg e]
  refine heap_enter (af:=c163) (args':=[.ptr id 0,(GV.mk k n s items).enc]) (σ1:=σ) rfl rfl (by simp [c163]) (by simp [c163]) rfl ?_
  by_cases h1:k=1
  ·subst h1
   simp only [pr,if_true] at hl ⊢
   have hi:=callItoa (n:=n) (h:=hv.2.1)
   have hw:=fun bs τ=>callWS (σ:=σ++τ) (s:=⟨(Lib.itoa n).toArray⟩) bs (hget τ) ht (by rw [ba_size]; exact hl)
   simp only [hset] at hw
   simp [c163,baseA,GV.enc_eq,GV.kind,GV.num,GV.text,GV.items,hi,hw,dropA_gc,refLt,res1]
  by_cases h2:k=2
  ·subst h2
   have hp:pr (.mk 2 n s items)=34 :: (s.data.toList++[34]):=by simp [pr]
   rw [hp] at hl ⊢
   have hsz:s.data.toList.length=s.size:=by simp
   simp only [zqU,zqJ,List.length_nil,hsz] at hl
   have hw:=fun bs τ=>callWS (σ:=σ++τ) (s:=(⟨#[34]⟩++s)++⟨#[34]⟩) bs (hget τ) ht (by have:(ByteArray.mk #[34]).size=1:=rfl; simp only [ByteArray.size_append,this]; omega)
   simp only [hset] at hw
   have hq:(ByteArray.mk #[34]).size=1:=rfl
   have hq2:(1:Int)+(s.size:Int)≤9223372036854775807:=by omega
   have hq3:(1:Int)+(s.size:Int)+1≤9223372036854775807:=by omega
   simp [c163,baseA,GV.enc_eq,GV.kind,GV.num,GV.text,GV.items,hw,dropA_gc,refLt,res1,hq,hq2,hq3,ByteArray.size_append]
  by_cases h3:k=3
  ·subst h3
   have hp:pr (.mk 3 n s items)=s.data.toList:=by simp [pr]
   rw [hp] at hl ⊢
   have hsz:s.data.toList.length=s.size:=by simp
   have hw:=fun bs τ=>callWS (σ:=σ++τ) (s:=s) bs (hget τ) ht (by omega)
   simp only [hset] at hw
   simp [c163,baseA,GV.enc_eq,GV.kind,GV.num,GV.text,GV.items,hw,dropA_gc,refLt,res1]
  by_cases h4:k=4
  ·subst h4
   have hp:pr (.mk 4 n s items)=91 :: (prs items++[93]):=by simp [pr]
   rw [hp] at hl ⊢
   simp [c163,baseA,GV.enc_eq,GV.kind,GV.num,GV.text,GV.items]
   refine W_for T _ 55 items.length (fun i f τ=>f 0=.ptr id 0∧f 3=.ptr σ.length 0∧f 32=.isl (GV.encs items) false∧f 33=.int .i64 (items.length:Int)∧f 34=.int .i64 (i:Int) ∧
    τ[σ.length]?=some (.cells [.int .i64 4,.int .i64 n,.str s,.isl (GV.encs items) false] 0 false)∧τ.take σ.length=σ.set id (.bld t 5 (l++(if i=0 then [] else 91 :: prs (items.take i))))) ?_ _ _ ?_
   ·rintro i f τ hi ⟨g0,g3,g32,g33,g34,ge,gt⟩
    have hτl:σ.length<τ.length:=(zqI.1 ge).1
    have hidt:=hp_bld gt hidl rfl
    have hidl2:id<τ.length:=by omega
    by_cases hlt:i<items.length
    ·have htk1:items.take (i+1)=items.take i++[items[i]]:=by rw [List.take_add_one,zqF hlt]; rfl
     have hle:=prs_take_le items (i+1)
     have hx:=(GV.oks_iff items).1 hv.2.2 _ (zqT hlt)
     have hsx:items[i].size≤m:=by have:=(sizes_mem (zqT hlt)).1; simp only [GV.size] at hs; omega
     have hw:IntKind.i64.wrap ((i:Int)+1)=(i:Int)+1:=wr64 (by have:=len_sizes items; simp only [GV.size] at hs; omega) (by have:=len_sizes items; simp only [GV.size] at hs; omega)
     generalize hcur:l++(if i=0 then [] else 91 :: prs (items.take i))=cur at gt hidt
     generalize hch:(if i=0 then (91:UInt8) else 44)=ch
     have hnew:cur++[ch]++pr items[i]=l++91 :: prs (items.take (i+1)):=by
      by_cases h0:i=0
      ·subst h0; simp at hcur hch; subst hcur hch; rw [htk1]; simp [prs,prc]
      ·rw [if_neg h0] at hcur hch; subst hcur hch
       rw [htk1,prs_snoc (fun e=>by have:=congrArg List.length e; simp at this; rcases this with h | h <;> simp_all)]
       simp
     have hlen:cur.length+1+(pr items[i]).length≤70368744177664:=by
      have:=congrArg List.length hnew
      simp only [zqJ,zqU,List.length_nil] at this hl
      omega
     have hwb:∀ r bs,callT T 107 [.ptr id 0,.int .u8 (ch.toNat:Int)] bs (τ++r)=some (.undef,τ.set id (.bld t 5 (cur++[ch]))++r):=fun r bs=>by
      have:=callWB (σ:=τ++r) (n:=(ch.toNat:Int)) bs (by rw [zqA hidl2]; exact hidt) ht (by omega) (by omega) (by have:=UInt8.toNat_lt ch; omega)
      rw [this,List.set_append_left _ _ hidl2]
      have e:UInt8.ofNat (ch.toNat:Int).toNat=ch:=by simp
      rw [e]
     have hwr:∀ r bs,callT T 163 [.ptr id 0,items[i].enc] bs (τ.set id (.bld t 5 (cur++[ch]))++r)=some (.tup [],τ.set id (.bld t 5 (cur++[ch]++pr items[i]))++r):=fun r bs=>by
      have:=ih items[i] hsx (by omega) hx (τ.set id (.bld t 5 (cur++[ch]))++r) id t (cur++[ch]) bs (by rw [zqA (by simpa using hidl2)]; simp [hidl2]) ht (by simp; omega)
      rw [this,List.set_append_left _ _ (by simpa using hidl2),List.set_set]
     rw [hnew] at hwr
     have hmin:(if (1:Int)<(i:Int) then (1:Int) else (i:Int))=if i=0 then 0 else 1:=by split <;> split <;> omega
     have hgot:(τ.set id (.bld t 5 (l++91 :: prs (items.take (i+1))))++[AObj.cells [.int .i64 items[i].kind,.int .i64 items[i].num,.str items[i].text,.isl (GV.encs items[i].items) false] 0 false])[σ.length]?=τ[σ.length]?:=by
      rw [zqA (by simpa using hτl),List.getElem?_set,if_neg (by omega)]
     have hgt2:(τ.set id (.bld t 5 (l++91 :: prs (items.take (i+1))))++[AObj.cells [.int .i64 items[i].kind,.int .i64 items[i].num,.str items[i].text,.isl (GV.encs items[i].items) false] 0 false]).take σ.length=σ.set id (.bld t 5 (l++91 :: prs (items.take (i+1)))):=by
      rw [List.take_append_of_le_length (by simp; omega),List.take_set,gt,List.set_set]
     by_cases h0:i=0
     ·rw [if_pos h0] at hch hmin; subst hch
      have hwb2:∀ r bs,callT T 107 [.ptr id 0,.int .u8 91] bs (τ++r)=some (.undef,τ.set id (.bld t 5 (cur++[91]))++r):=hwb
      have hg:(τ.set id (.bld t 5 (cur++[91]))++[AObj.cells [.int .i64 items[i].kind,.int .i64 items[i].num,.str items[i].text,.isl (GV.encs items[i].items) false] 0 false])[τ.length]?=some (AObj.cells [.int .i64 items[i].kind,.int .i64 items[i].num,.str items[i].text,.isl (GV.encs items[i].items) false] 0 false):=by
       rw [zqB (by simp)]; simp
      simp [g0,g3,g32,g33,g34,hlt,hmin,enc_mk,hwb2,hwr,hw,hg]
      exact ⟨hgot.trans ge,hgt2⟩
     ·rw [if_neg h0] at hch hmin; subst hch
      have hwb2:∀ r bs,callT T 107 [.ptr id 0,.int .u8 44] bs (τ++r)=some (.undef,τ.set id (.bld t 5 (cur++[44]))++r):=hwb
      have hg:(τ.set id (.bld t 5 (cur++[44]))++[AObj.cells [.int .i64 items[i].kind,.int .i64 items[i].num,.str items[i].text,.isl (GV.encs items[i].items) false] 0 false])[τ.length]?=some (AObj.cells [.int .i64 items[i].kind,.int .i64 items[i].num,.str items[i].text,.isl (GV.encs items[i].items) false] 0 false):=by
       rw [zqB (by simp)]; simp
      simp [g0,g3,g32,g33,g34,hlt,hmin,enc_mk,hwb2,hwr,hw,hg]
      exact ⟨hgot.trans ge,hgt2⟩
    ·have he:i=items.length:=by omega
     subst he
     rw [List.take_length] at gt
     by_cases h0:items.length=0
     ·have hnil:items=[]:=List.eq_nil_of_length_eq_zero h0
      subst hnil
      simp at gt
      have hw:=fun bs=>callWS (σ:=τ) (s:=⟨#[91,93]⟩) bs hidt ht (by simp [prs] at hl ⊢; have:(ByteArray.mk #[91,93]).size=2:=rfl; omega)
      simp at hw
      simp [g0,g3,g32,g33,g34,ge,hw,dropA_gc,refLt,res1]
      rw [List.take_set,gt,List.set_set]; simp [prs]
     ·have hw:=fun bs=>callWS (σ:=τ) (s:=⟨#[93]⟩) bs hidt ht (by simp [h0] at hl ⊢; have:(ByteArray.mk #[93]).size=1:=rfl; omega)
      simp [h0] at hw gt
      have hmin:(if (1:Int)<(items.length:Int) then (1:Int) else (items.length:Int))=1:=by split <;> omega
      have hq:(ByteArray.mk #[91,93]).size=2:=rfl
      have hq2:(ByteArray.mk #[91,93]).extract 1 2=⟨#[93]⟩:=rfl
      simp [g0,g3,g32,g33,g34,ge,hw,hmin,hq,hq2,dropA_gc,refLt,res1]
      rw [List.take_set,gt,List.set_set]
   ·simp [hself]
  ·have hp:pr (.mk k n s items)=[]:=by simp [pr,h1,h2,h3,h4]
   rw [hp] at hl ⊢
   simp [c163,baseA,GV.enc_eq,GV.kind,GV.num,GV.text,GV.items,h1,h2,h3,h4,dropA_gc,refLt,res1,hself]
open Go.Mach
def S (l:List UInt8):ByteArray:=⟨l.toArray⟩
theorem S_size (l:List UInt8):(S l).size=l.length:=rfl
theorem S_append (a b:List UInt8):S a++S b=S (a++b):=by
 apply ByteArray.ext; simp [S]
theorem S_data (t:ByteArray):S t.data.toList=t:=by cases t; rfl
theorem S_toList (l:List UInt8):(S l).data.toList=l:=by simp [S]
mutual
theorem pr_len:∀ v:GV,v.ok→(pr v).length+1≤26 * v.size
 | .mk k n t l,hv=>by
  simp only [GV.ok] at hv
  have hl:=prc_len l hv.2.2
  have hpl:(prs l).length≤(prc l).length:=by cases l <;> simp [prs,prc]
  have hi:=Lib.itoa_length_le n hv.2.1.1 hv.2.1.2
  have ht:t.data.toList.length=t.size:=by simp
  simp only [pr,GV.size]
  split
  ·omega
  ·split
   ·simp only [zqU,zqJ,List.length_nil]; omega
   ·split
    ·omega
    ·split
     ·simp only [zqU,zqJ,List.length_nil]; omega
     ·simp; omega
theorem prc_len:∀ l:List GV,GV.oks l→(prc l).length≤26 * GV.sizes l
 | [],_=>by simp [prc]
 | x :: l,h=>by
  simp only [GV.oks] at h
  have h1:=pr_len x h.1
  have h2:=prc_len l h.2
  simp only [prc,GV.sizes,zqU,zqJ]; omega
end
def printV (v:GV):ByteArray:=if rightT v=true then S (pr v) else S []
theorem valPrint_ok (v:GV) (hv:v.ok) (hs:v.size≤1000000000):pureT T c148 [v.enc]=some (.str (printV v)):=by
 have hr:=fun bs σ=>valRight v (by omega) bs σ
 have hlen:=pr_len v hv
 apply pure_enter (by simp [c148])
 have hw:=fun bs (σ:Heap)=>write_ok v.size v (Nat.le_refl _) (by omega) hv (σ++[.bld 137 5 []]) σ.length 137 [] bs (by simp) (by simp [bldTs]) (by simp; omega)
 have hst:=fun bs (σ:Heap)=>callStr (σ:=σ++[.bld 137 5 (pr v)]) (id:=σ.length) (t:=137) (l:=pr v) bs (by simp) (by omega)
 simp at hw hst
 have hw1:=fun bs (a:AObj)=>hw bs [a]
 have hst1:=fun bs (a:AObj)=>hst bs [a]
 simp at hw1 hst1
 cases hq:rightT v
 ·simp [c148,hr,hq,printV,S,←GV.enc_eq]
 ·simp [c148,hr,hq,printV,hw1,hst1,←GV.enc_eq,S]
theorem valPrint (v:GV) (hv:v.ok) (hs:v.size≤1000000000) (bs:Nat) (σ:Heap):callT T 148 [v.enc] bs σ=some (.str (printV v),σ):=call_clean rfl rfl rfl (by simp) (valPrint_ok v hv hs)
theorem digits_nat:∀ (m u:Nat),u≤m→m≤9223372036854775807→pureT T c162 [.int .i64 (u:Int)]=some (.str (S (Lib.decDigits u))):=by
 intro m
 induction m using Nat.strongRecOn with
 | ind m ih=>
  intro u hu hm
  apply pure_enter (by simp [c162])
  have hneg:¬ ((u:Int)<0):=by omega
  have hrem:((u:Int)).tmod 10=(u:Int) % 10:=rfl
  have hquo:((u:Int)).tdiv 10=(u:Int) / 10:=rfl
  have hw1:IntKind.i64.wrap (48+(u:Int) % 10)=48+(u:Int) % 10:=wr64 (by omega) (by omega)
  have hw2:IntKind.u8.wrap (48+(u:Int) % 10)=48+(u:Int) % 10:=wru8 (by omega) (by omega)
  have hw3:IntKind.i64.wrap ((u:Int) / 10)=(u:Int) / 10:=wr64 (by omega) (by omega)
  obtain ⟨c,hc0⟩:∃ c,c=UInt8.ofNat (48+u % 10):=⟨_,rfl⟩
  have hb:b2sV [.cells [.int .u8 (48+(u:Int) % 10)] 0 false] (.sl 0 0 1 1 false)=some (.str (S [c])):=by
   have:=b2s_bv (σ:=[.cells (bv [UInt8.ofNat (48+u % 10)]) 0 false]) (id:=0) (l:=[UInt8.ofNat (48+u % 10)]) (fz:=0) (ext:=false) (n:=1) rfl rfl
   simp only [bv,List.map_cons,List.map_nil,u8of (n:=48+u % 10) (by omega)] at this
   rw [hc0]
   have e:((48+u % 10:Nat):Int)=48+(u:Int) % 10:=by omega
   rw [e] at this
   exact this
  by_cases h10:u<10
  ·have hge:¬ (10≤(u:Int)):=by omega
   have hd:Lib.decDigits u=[c]:=by rw [Lib.decDigits,dif_pos h10,hc0,Nat.mod_eq_of_lt h10]
   rw [hd]
   have hm10:(u:Int) % 10=u:=by omega
   rw [hm10] at hw1 hw2 hb hrem
   simp [c162,hneg,hrem,hw1,hw2,hb,hge]
  ·have hge:(10≤(u:Int)):=by omega
   have hd:Lib.decDigits u=Lib.decDigits (u / 10)++[c]:=by rw [Lib.decDigits,dif_neg h10,hc0]
   have hc:=fun bs σ=>call_clean (bs:=bs) (σ:=σ) (f:=162) rfl rfl rfl (by simp) (ih (u / 10) (by omega) (u / 10) (Nat.le_refl _) (by omega))
   have e:((u / 10:Nat):Int)=(u:Int) / 10:=by omega
   rw [e] at hc
   have hlen:((Lib.decDigits (u / 10)).length:Int)+1≤9223372036854775807:=by
    have h2:=Lib.itoa_length_le ((u / 10:Nat):Int) (by omega) (by omega)
    have h3:Lib.itoa ((u / 10:Nat):Int)=Lib.decDigits (u / 10):=by unfold Lib.itoa; rw [if_neg (by omega),Int.toNat_natCast]
    rw [h3] at h2; omega
   rw [hd]
   simp [c162,hneg,hrem,hquo,hw1,hw2,hw3,hb,hge,hc,S_append,S_size,hlen]
theorem digits_ok (n:Int) (hn:GV.i64ok n) (h:n≠-9223372036854775808):pureT T c162 [.int .i64 n]=some (.str (S (Lib.itoa n))):=by
 simp only [GV.i64ok] at hn
 by_cases h0:n<0
 ·have hc:=fun bs σ=>call_clean (bs:=bs) (σ:=σ) (f:=162) rfl rfl rfl (by simp) (digits_nat n.natAbs n.natAbs (Nat.le_refl _) (by omega))
  have e:(n.natAbs:Int)=-n:=by omega
  rw [e] at hc
  have hi:Lib.itoa n=45 :: Lib.decDigits n.natAbs:=by unfold Lib.itoa; rw [if_pos h0]
  have hw:IntKind.i64.wrap (-n)=-n:=wr64 (by omega) (by omega)
  have h45:(⟨#[45]⟩:ByteArray)=S [45]:=rfl
  have hlen:(1:Int)+((Lib.decDigits n.natAbs).length:Int)≤9223372036854775807:=by
   have h2:=Lib.itoa_length_le n (by omega) (by omega)
   rw [hi] at h2; simp at h2; omega
  apply pure_enter (by simp [c162])
  rw [hi]
  simp [c162,h0,hw,hc,h45,S_append,S_size,hlen]
 ·have:=digits_nat n.toNat n.toNat (Nat.le_refl _) (by omega)
  have e:(n.toNat:Int)=n:=by omega
  rw [e] at this
  rw [this]; unfold Lib.itoa; rw [if_neg h0]
theorem callDigits (n:Int) (hn:GV.i64ok n) (h:n≠-9223372036854775808) (bs:Nat) (σ:Heap):callT T 162 [.int .i64 n] bs σ=some (.str (S (Lib.itoa n)),σ):=call_clean rfl rfl rfl (by simp) (digits_ok n hn h)
theorem right_num0 {d:Nat} {v:GV} (h:rightV d v=true) (hv:v.ok):v.kind=1→v.num≠-9223372036854775808:=fun hk=>by
 have hb:∃ b,rightB v b=true:=by cases d <;> exact ⟨_,h⟩
 obtain ⟨b,hb⟩:=hb
 simp only [rightB,hk,if_true] at hb
 have:=of_decide_eq_true hb; omega
theorem refPrint_ok:∀ (m:Nat) (v:GV),v.size≤m→m≤1000000000→v.ok→pureT T c146 [v.enc]=some (.str (printV v)):=by
 intro m
 induction m with
 | zero=>intro v h; cases v; simp [GV.size] at h
 | succ m ih=>
  intro v hs hm hv
  have hr:=fun bs σ=>refRight v (by omega) bs σ
  apply pure_enter (by simp [c146])
  cases hq:rightT v
  ·simp [c146,hr,hq,printV,S,←GV.enc_eq]
  have hpl:=pr_len v hv
  have hnum:=right_num0 hq hv
  have hp:printV v=S (pr v):=by simp [printV,hq]
  rw [hp]
  obtain ⟨k,n,s,items⟩:=v
  simp only [GV.ok] at hv
  simp only [GV.kind,GV.num] at hnum
  rw [GV.enc_eq] at hr
  simp only [GV.kind,GV.num,GV.text,GV.items] at hr
  by_cases h1:k=1
  ·subst h1
   have hd:=callDigits n hv.2.1 (hnum rfl)
   simp [c146,hr,hq,hd,GV.enc_eq,GV.kind,GV.num,GV.text,GV.items,pr]
  by_cases h2:k=2
  ·subst h2
   have hp:pr (.mk 2 n s items)=34 :: (s.data.toList++[34]):=by simp [pr]
   rw [hp] at hpl ⊢
   have hsz:s.data.toList.length=s.size:=by simp
   simp only [zqU,zqJ,List.length_nil,hsz] at hpl
   have e1:(ByteArray.mk #[34])=S [34]:=rfl
   have e2:s=S s.data.toList:=(S_data s).symm
   generalize hsl:s.data.toList=sl at *
   have hq2:(1:Int)+(sl.length:Int)≤9223372036854775807:=by omega
   have hq3:(1:Int)+(sl.length:Int)+1≤9223372036854775807:=by omega
   have hq3':(sl.length:Int)+1+1≤9223372036854775807:=by omega
   subst e2
   simp [c146,hr,hq,GV.enc_eq,GV.kind,GV.num,GV.text,GV.items,e1,S_append,S_size,hq2,hq3,hq3']
  by_cases h3:k=3
  ·subst h3
   have hp:pr (.mk 3 n s items)=s.data.toList:=by simp [pr]
   rw [hp,S_data]
   simp [c146,hr,hq,GV.enc_eq,GV.kind,GV.num,GV.text,GV.items]
  by_cases h4:k=4
  ·subst h4
   have hp:pr (.mk 4 n s items)=91 :: (prs items++[93]):=by simp [pr]
   rw [hp] at hpl ⊢
   simp only [zqU,zqJ,List.length_nil] at hpl
   have hall:∀ x∈items,rightT x=true:=fun x hx=>right_mono 3 x (right_items (d:=3) hq rfl x hx)
   have e1:(ByteArray.mk #[91])=S [91]:=rfl
   have e2:(ByteArray.mk #[44])=S [44]:=rfl
   have e3:(ByteArray.mk #[93])=S [93]:=rfl
   have hil:=len_sizes items
   simp [c146,hr,hq,GV.enc_eq,GV.kind,GV.num,GV.text,GV.items,e1,e2,e3]
   refine W_for T 0 48 items.length (fun i f τ=>f 1=.ptr 0 0∧f 5=.int .i64 (i:Int)∧τ=[.cells [.int .i64 4,.int .i64 n,.str s,.isl (GV.encs items) false] 0 false]∧f 4=.str (S (91 :: prs (items.take i)))) ?_ _ _ ?_
   ·rintro i f τ hi ⟨g1,g5,rfl,g4⟩
    by_cases hlt:i<items.length
    ·have htk1:items.take (i+1)=items.take i++[items[i]]:=by rw [List.take_add_one,zqF hlt]; rfl
     have hle:=prs_take_le items (i+1)
     have hw:IntKind.i64.wrap ((i:Int)+1)=(i:Int)+1:=wr64 (by simp only [GV.size] at hs; omega) (by simp only [GV.size] at hs; omega)
     have hx:=(GV.oks_iff items).1 hv.2.2 _ (zqT hlt)
     have hsx:items[i].size≤m:=by have:=(sizes_mem (zqT hlt)).1; simp only [GV.size] at hs; omega
     have hc:=fun bs σ=>call_clean (bs:=bs) (σ:=σ) (f:=146) rfl rfl rfl (by simp) (ih items[i] hsx (by omega) hx)
     have hpx:printV items[i]=S (pr items[i]):=by simp [printV,hall _ (zqT hlt)]
     rw [hpx] at hc
     have hgz:GV.sizes items+s.size+5≤m+1:=by simp only [GV.size] at hs; omega
     have hgz2:(GV.mk 4 n s items).size=s.size+GV.sizes items+5:=by simp only [GV.size]
     by_cases h0:i=0
     ·subst h0
      have hq2:(1:Int)+((pr items[0]).length:Int)≤9223372036854775807:=by rw [htk1] at hle; simp [prs,prc] at hle; omega
      have hw0:IntKind.i64.wrap 1=1:=rfl
      simp [g1,g5,g4,hlt,hw0,hc,enc_mk,S_append,S_size,hq2,prs]
      rw [htk1]; simp [prs,prc]
     ·have hps:=prs_snoc (a:=items.take i) (fun e=>by have:=congrArg List.length e; simp at this; rcases this with h | h <;> simp_all) items[i]
      rw [←htk1] at hps
      have hl2:=congrArg List.length hps
      simp only [zqJ,zqU] at hl2
      have hi0:(0:Int)<i:=by omega
      have hq2:((prs (items.take i)).length:Int)+1+1≤9223372036854775807:=by omega
      have hq3:((prs (items.take i)).length:Int)+1+1+((pr items[i]).length:Int)≤9223372036854775807:=by omega
      simp [g1,g5,g4,hlt,hw,hc,enc_mk,S_append,S_size,hq2,hq3,hi0,h0,hps]
    ·have he:i=items.length:=by omega
     subst he
     rw [List.take_length] at g4
     have hgz2:(GV.mk 4 n s items).size=s.size+GV.sizes items+5:=by simp only [GV.size]
     have hq2:((prs items).length:Int)+1+1≤9223372036854775807:=by omega
     simp [g1,g5,g4,S_append,S_size,hq2]
   ·simp [prs]
  ·have hb:=rightB_spec (b:=_) hq
   simp only [GV.kind] at hb
   omega
theorem refPrint (v:GV) (hv:v.ok) (hs:v.size≤1000000000) (bs:Nat) (σ:Heap):callT T 146 [v.enc] bs σ=some (.str (printV v),σ):=call_clean rfl rfl rfl (by simp) (refPrint_ok v.size v (Nat.le_refl _) hs hv)
end Go.Proofs.YtpgakkhfjjhpdaaGreatDoor
end
section
namespace Go.Mach
inductive GT where
 | mk (kind:Int) (name:ByteArray) (value:GV) (args:List GT)
 deriving Inhabited
namespace GT
abbrev kind:GT→Int | .mk k _ _ _=>k
abbrev name:GT→ByteArray | .mk _ n _ _=>n
abbrev value:GT→GV | .mk _ _ v _=>v
abbrev args:GT→List GT | .mk _ _ _ l=>l
mutual
def enc:GT→AV
 | .mk k n v l=>.agg [.int .i64 k,.str n,.int .i64 v.kind,.int .i64 v.num,.str v.text,.isl (GV.encs v.items) false,.isl (encs l) false]
def encs:List GT→List AV
 | []=>[]
 | v :: l=>enc v :: encs l
end
theorem encs_map:∀ l:List GT,encs l=l.map enc
 | []=>rfl
 | v :: l=>by simp only [encs,List.map_cons,encs_map l]
@[simp] theorem encs_length (l:List GT):(encs l).length=l.length:=by simp [encs_map]
@[simp] theorem encs_get (l:List GT) (i:Nat):(encs l)[i]?=l[i]?.map enc:=by simp [encs_map]
@[simp] theorem encs_getE (l:List GT) (i:Nat) (h:i<(encs l).length):(encs l)[i]=(l[i]'(by simpa using h)).enc:=by simp [encs_map]
theorem encs_nil (l:List GT):encs l=[]↔l=[]:=by cases l <;> simp [encs]
@[simp] theorem encs_nil':encs []=[]:=rfl
@[simp] theorem encs_one (v:GT):encs [v]=[v.enc]:=rfl
@[simp] theorem encs_snoc (l:List GT) (v:GT):encs l++[v.enc]=encs (l++[v]):=by simp [encs_map]
@[simp] theorem eta (v:GT):GT.mk v.kind v.name v.value v.args=v:=by cases v; rfl
theorem enc_eq (v:GT):v.enc=.agg [.int .i64 v.kind,.str v.name,.int .i64 v.value.kind,.int .i64 v.value.num,.str v.value.text,.isl (GV.encs v.value.items) false,.isl (encs v.args) false]:=by cases v; simp only [enc]
theorem enc_mk (k:Int) (n:ByteArray) (vk vn:Int) (vt:ByteArray) (vl:List GV) (l:List GT) :
  AV.agg [.int .i64 k,.str n,.int .i64 vk,.int .i64 vn,.str vt,.isl (GV.encs vl) false,.isl (encs l) false]=(GT.mk k n (.mk vk vn vt vl) l).enc:=by simp only [enc]
@[simp] theorem enc_cells (v:GT):v.enc.cells=[.int .i64 v.kind,.str v.name,.int .i64 v.value.kind,.int .i64 v.value.num,.str v.value.text,.isl (GV.encs v.value.items) false,.isl (encs v.args) false]:=by rw [enc_eq]; rfl
@[simp] theorem enc_solid (v:GT):v.enc.solid=true:=by rw [enc_eq]; rfl
@[simp] theorem enc_head (v:GT) (xs:List AV):headYld (v.enc :: xs)=false:=by rw [enc_eq]; rfl
@[simp] theorem enc_clean (v:GT):v.enc.clean=true:=by rw [enc_eq]; rfl
@[simp] theorem enc_closeA (σ:Heap) (v:GT):closeA σ v.enc=some (v.enc,σ):=(clean_close (by simp)).1
@[simp] theorem enc_closeR (σ:Heap) (v:GT):closeR σ v.enc=some (v.enc,σ):=by rw [enc_eq]; rfl
@[simp] theorem enc_datR (v:GT):v.enc.datR=true:=by rw [enc_eq]; rfl
@[simp] theorem enc_dat (v:GT):v.enc.dat=true:=by rw [enc_eq]; rfl
@[simp] theorem enc_clo (v:GT):v.enc.clo=true:=by rw [enc_eq]; rfl
@[simp] theorem encs_okEl (l:List GT):(encs l).all (okEl 7 true)=true:=by
 rw [zqQ]
 intro x hx
 rw [encs_map] at hx
 obtain ⟨v,_,rfl⟩:=List.mem_map.1 hx
 rw [enc_eq]; rfl
mutual
def ok:GT→Prop
 | .mk k _ v l=>GV.i64ok k∧v.ok∧oks l
def oks:List GT→Prop
 | []=>True
 | v :: l=>ok v∧oks l
end
theorem oks_iff:∀ l:List GT,oks l↔∀ v∈l,ok v
 | []=>by simp [oks]
 | v :: l=>by simp [oks,oks_iff l]
mutual
def size:GT→Nat
 | .mk k n v l=>n.size+v.size+sizes l+3
def sizes:List GT→Nat
 | []=>0
 | v :: l=>size v+sizes l
end
mutual
theorem bulk_enc:∀ v:GT,bulkA v.enc=v.size
 | .mk k n v l=>by
  have h:=bulk_encs l
  have h2:=GV.bulk_enc v
  rw [GV.enc_eq] at h2
  simp only [enc,bulkA,bulkAs,size,h] at h2 ⊢; omega
theorem bulk_encs:∀ l:List GT,bulkAs (encs l)=sizes l
 | []=>by simp [encs,bulkAs,sizes]
 | v :: l=>by
  have h1:=bulk_enc v
  have h2:=bulk_encs l
  simp only [encs,bulkAs,sizes,h1,h2]
end
theorem sizes_mem {l:List GT} {x:GT} (h:x∈l):x.size+5≤GT.sizes l+5∧l.length≤GT.sizes l:=by
 induction l with
 | nil=>cases h
 | cons y l ih=>
  have hy:5≤y.size:=by obtain ⟨k,n,v,l⟩:=y; cases v; simp [GT.size,GV.size]; omega
  rcases List.mem_cons.1 h with rfl | h
  ·refine ⟨by simp [GT.sizes],?_⟩
   have:∀ l:List GT,l.length≤GT.sizes l:=fun l=>by
    induction l with
    | nil=>simp [GT.sizes]
    | cons z l ih=>have:5≤z.size:=(by obtain ⟨k,n,v,l⟩:=z; cases v; simp [GT.size,GV.size]; omega); simp [GT.sizes]; omega
   have:=this l
   simp [GT.sizes]; omega
  ·obtain ⟨h1,h2⟩:=ih h
   simp [GT.sizes]; omega
theorem len_sizes (l:List GT):l.length≤GT.sizes l:=by
 cases l with
 | nil=>simp
 | cons x l=>exact (sizes_mem (List.mem_cons_self (a:=x) (l:=l))).2
theorem name_le (v:GT):v.name.size≤v.size:=by obtain ⟨k,n,t,l⟩:=v; show n.size≤_; simp only [GT.size]; omega
theorem value_le (v:GT):v.value.size≤v.size:=by obtain ⟨k,n,t,l⟩:=v; show t.size≤_; simp only [GT.size]; omega
theorem args_le (v:GT):GT.sizes v.args+3≤v.size:=by obtain ⟨k,n,t,l⟩:=v; show GT.sizes l+3≤_; simp only [GT.size]; omega
end GT
structure GB where
 name:ByteArray
 value:GV
 deriving Inhabited
namespace GB
def enc (b:GB):AV:=.agg [.str b.name,.int .i64 b.value.kind,.int .i64 b.value.num,.str b.value.text,.isl (GV.encs b.value.items) false]
def encs (l:List GB):List AV:=l.map enc
@[simp] theorem encs_length (l:List GB):(encs l).length=l.length:=by simp [encs]
@[simp] theorem encs_get (l:List GB) (i:Nat):(encs l)[i]?=l[i]?.map enc:=by simp [encs]
@[simp] theorem encs_getE (l:List GB) (i:Nat) (h:i<(encs l).length):(encs l)[i]=(l[i]'(by simpa using h)).enc:=by simp [encs]
theorem encs_nil (l:List GB):encs l=[]↔l=[]:=by cases l <;> simp [encs]
@[simp] theorem encs_nil':encs []=[]:=rfl
@[simp] theorem encs_one (v:GB):encs [v]=[v.enc]:=rfl
@[simp] theorem encs_snoc (l:List GB) (v:GB):encs l++[v.enc]=encs (l++[v]):=by simp [encs]
theorem enc_mk (n:ByteArray) (vk vn:Int) (vt:ByteArray) (vl:List GV) :
  AV.agg [.str n,.int .i64 vk,.int .i64 vn,.str vt,.isl (GV.encs vl) false]=(GB.mk n (.mk vk vn vt vl)).enc:=rfl
@[simp] theorem enc_cells (b:GB):b.enc.cells=[.str b.name,.int .i64 b.value.kind,.int .i64 b.value.num,.str b.value.text,.isl (GV.encs b.value.items) false]:=rfl
@[simp] theorem enc_solid (v:GB):v.enc.solid=true:=rfl
@[simp] theorem enc_head (v:GB) (xs:List AV):headYld (v.enc :: xs)=false:=by cases v; rfl
@[simp] theorem enc_clean (v:GB):v.enc.clean=true:=rfl
@[simp] theorem enc_closeA (σ:Heap) (v:GB):closeA σ v.enc=some (v.enc,σ):=(clean_close (by simp)).1
@[simp] theorem enc_closeR (σ:Heap) (v:GB):closeR σ v.enc=some (v.enc,σ):=rfl
@[simp] theorem enc_datR (v:GB):v.enc.datR=true:=rfl
@[simp] theorem enc_dat (v:GB):v.enc.dat=true:=rfl
@[simp] theorem enc_clo (v:GB):v.enc.clo=true:=rfl
@[simp] theorem encs_okEl (l:List GB):(encs l).all (okEl 5 true)=true:=by
 rw [zqQ]
 intro x hx
 obtain ⟨v,_,rfl⟩:=List.mem_map.1 hx
 rfl
def size (b:GB):Nat:=b.name.size+b.value.size+1
def ok (b:GB):Prop:=b.value.ok
theorem bulk_enc (b:GB):bulkA b.enc=b.size:=by
 have h2:=GV.bulk_enc b.value
 rw [GV.enc_eq] at h2
 simp only [enc,bulkA,bulkAs,size] at h2 ⊢; omega
end GB
end Go.Mach
end
section
namespace Go.Proofs.YtpgakkhfjjhpdaaGreatDoor
open Go.Mach
theorem right_cases {d:Nat} {v:GV} (h:rightV d v=true):(∃ n,v=.mk 1 n ⟨#[]⟩ []∧-2147483647≤n∧n≤2147483647)∨(∃ t,v=.mk 2 0 t []∧textOK t=true)∨(∃ t,v=.mk 3 0 t []∧nameOK t=true)∨(∃ l,v=.mk 4 0 ⟨#[]⟩ l∧0<d∧l.length≤16∧∀ x∈l,rightV (d - 1) x=true):=by
 obtain ⟨k,n,t,l⟩:=v
 have hb:∃ b,rightB (.mk k n t l) b=true∧(b=true→0<d∧l.length≤16∧∀ x∈l,rightV (d - 1) x=true):=by
  cases d with
  | zero=>exact ⟨false,h,fun h=>by cases h⟩
  | succ d=>
   refine ⟨_,h,fun hb=>?_⟩
   have:=of_decide_eq_true hb
   exact ⟨by omega,this.1,fun x hx=>zqQ.1 this.2 x hx⟩
 obtain ⟨b,hb,hbl⟩:=hb
 simp only [rightB,GV.kind,GV.num,GV.text,GV.items] at hb
 split at hb
 ·rename_i hk; subst hk
  obtain ⟨rfl,rfl,h1,h2⟩:=of_decide_eq_true hb
  exact .inl ⟨n,rfl,by omega,by omega⟩
 ·split at hb
  ·rename_i hk; subst hk
   obtain ⟨rfl,rfl,h1⟩:=of_decide_eq_true hb
   exact .inr (.inl ⟨t,rfl,h1⟩)
  ·split at hb
   ·rename_i hk; subst hk
    obtain ⟨rfl,rfl,h1⟩:=of_decide_eq_true hb
    exact .inr (.inr (.inl ⟨t,rfl,h1⟩))
   ·split at hb
    ·rename_i hk; subst hk
     obtain ⟨rfl,rfl,h1⟩:=of_decide_eq_true hb
     exact .inr (.inr (.inr ⟨l,rfl,hbl h1⟩))
    ·cases hb
theorem right_okV:∀ (d:Nat) (v:GV),rightV d v=true→v.ok:=by
 intro d
 induction d with
 | zero=>
  intro v h
  rcases right_cases h with ⟨n,rfl,h1,h2⟩ | ⟨t,rfl,h1⟩ | ⟨t,rfl,h1⟩ | ⟨l,rfl,h1,_⟩
  ·simp only [GV.ok,GV.oks,GV.i64ok,and_true]; omega
  ·simp only [GV.ok,GV.oks,GV.i64ok,and_true]; omega
  ·simp only [GV.ok,GV.oks,GV.i64ok,and_true]; omega
  ·omega
 | succ d ih=>
  intro v h
  rcases right_cases h with ⟨n,rfl,h1,h2⟩ | ⟨t,rfl,h1⟩ | ⟨t,rfl,h1⟩ | ⟨l,rfl,h1,h2,h3⟩
  ·simp only [GV.ok,GV.oks,GV.i64ok,and_true]; omega
  ·simp only [GV.ok,GV.oks,GV.i64ok,and_true]; omega
  ·simp only [GV.ok,GV.oks,GV.i64ok,and_true]; omega
  ·simp only [GV.ok,GV.i64ok,GV.oks_iff]
   exact ⟨by omega,by omega,fun x hx=>ih x (h3 x hx)⟩
end Go.Proofs.YtpgakkhfjjhpdaaGreatDoor
end
section
namespace Go.Mach
end Go.Mach
end
section
namespace Go.Mach
structure IsT (P:Program) (tT tTL tV tL tI tS:TypeId):Prop where
 fs:∃ fs:Array Field,P.underlying tT=some (.struct fs)∧fs.toList.map (·.type)=[tI,tS,tV,tTL]
 list:P.underlying tTL=some (.slice tT)
 val:IsV P tV tL tI tS
structure IsB (P:Program) (tB tBL tV tL tI tS:TypeId):Prop where
 fs:∃ fs:Array Field,P.underlying tB=some (.struct fs)∧fs.toList.map (·.type)=[tS,tV]
 list:P.underlying tBL=some (.slice tB)
 val:IsV P tV tL tI tS
theorem TyA.asTerm {P:Program} {tT tTL tV tL tI tS:TypeId} (hT:IsT P tT tTL tV tL tI tS) {t:TypeId} {x:AV} (h:TyA P t x):(t=tT→∃ v:GT,x=v.enc∧v.ok)∧(t=tTL→∃ l:List GT,x=.isl (GT.encs l) false∧GT.oks l):=by
 have e1:IntKind.i64.min=-9223372036854775808:=by decide
 have e2:IntKind.i64.max=9223372036854775807:=by decide
 obtain ⟨fs0,hf0,hts⟩:=hT.fs
 have hV:=hT.val
 induction h with
 | bool hu b=>exact ⟨fun e=>(by subst e; rw [hf0] at hu; cases hu),fun e=>by subst e; rw [hT.list] at hu; cases hu⟩
 | int hu n hn=>exact ⟨fun e=>(by subst e; rw [hf0] at hu; cases hu),fun e=>by subst e; rw [hT.list] at hu; cases hu⟩
 | str hu s=>exact ⟨fun e=>(by subst e; rw [hf0] at hu; cases hu),fun e=>by subst e; rw [hT.list] at hu; cases hu⟩
 | array hu hl hv=>exact ⟨fun e=>(by subst e; rw [hf0] at hu; cases hu),fun e=>by subst e; rw [hT.list] at hu; cases hu⟩
 | @slice t e es hu hes ih=>
  refine ⟨fun e'=>(by subst e'; rw [hf0] at hu; cases hu),fun e'=>?_⟩
  subst e'; rw [hT.list] at hu; injection hu with hu; injection hu with hu; subst hu
  have:∀ l:List AV,(∀ y∈l,∃ v:GT,y=v.enc∧v.ok)→∃ l':List GT,l=GT.encs l'∧GT.oks l':=by
   intro l
   induction l with
   | nil=>intro _; exact ⟨[],rfl,trivial⟩
   | cons y l ihl=>
    intro h
    obtain ⟨v,rfl,hv⟩:=h y (by simp)
    obtain ⟨l',rfl,hl'⟩:=ihl fun z hz=>h z (by simp [hz])
    exact ⟨v :: l',rfl,hv,hl'⟩
  obtain ⟨l',rfl,hl'⟩:=this es fun y hy=>(ih y hy).1 rfl
  exact ⟨l',rfl,hl'⟩
 | @struct t fs vs hu hl hv ih=>
  refine ⟨fun e'=>?_,fun e'=>by subst e'; rw [hT.list] at hu; cases hu⟩
  subst e'; rw [hf0] at hu; injection hu with hu; injection hu with hu; subst hu
  have hlen:vs.length=4:=by rw [hl,←List.length_map (f:=(·.type)),hts]; rfl
  match vs,hlen with
  | [x0,x1,x2,x3],_=>
   obtain ⟨k,rfl,k1,k2⟩:=(field_ty hts hv (i:=0) rfl rfl).asInt hV.int
   obtain ⟨s,rfl⟩:=(field_ty hts hv (i:=1) rfl rfl).asStr hV.str
   obtain ⟨v,rfl,hvo⟩:=((field_ty hts hv (i:=2) rfl rfl).asValue hV).1 rfl
   have h3:fs0.toList[3]?.map (·.type)=some tTL:=by rw [←List.getElem?_map,hts]; rfl
   obtain ⟨f3,hf3,hft⟩:=zqG.1 h3
   obtain ⟨l,rfl,hok⟩:=(ih 3 f3 x3 hf3 rfl).2 hft
   rw [e1] at k1; rw [e2] at k2
   refine ⟨.mk k s v l,by simp [GT.enc,flat],⟨⟨k1,k2⟩,hvo,hok⟩⟩
def fieldTys (P:Program) (t:TypeId):Option (List TypeId):=match P.underlying t with
 | some (.struct fs)=>some (fs.toList.map (·.type))
 | _=>none
theorem fieldTys_some {P:Program} {t:TypeId} {l:List TypeId} (h:fieldTys P t=some l):∃ fs:Array Field,P.underlying t=some (.struct fs)∧fs.toList.map (·.type)=l:=by
 unfold fieldTys at h
 split at h
 ·rename_i fs hu; injection h with h; exact ⟨fs,hu,h⟩
 ·cases h
theorem argI {P:Program} {tI:TypeId} (hS:P.underlying tI=some (.int .i64)) {x:AV} (h:TyA P tI x) (hb:bulkA x≤1048576):∃ n:Int,x=.int .i64 n∧GV.i64ok n:=by
 have e1:IntKind.i64.min=-9223372036854775808:=by decide
 have e2:IntKind.i64.max=9223372036854775807:=by decide
 obtain ⟨n,rfl,n1,n2⟩:=h.asInt hS
 rw [e1] at n1; rw [e2] at n2
 exact ⟨n,rfl,n1,n2⟩
end Go.Mach
namespace Go.Proofs.YtpgakkhfjjhpdaaGreatDoor
open Go.Mach
theorem tyV:IsV Tryz.prog 50 48 3 9:=⟨fieldTys_some (by kernel_rfl),by kernel_rfl,by kernel_rfl,by kernel_rfl⟩
theorem tyT:IsT Tryz.prog 52 43 50 48 3 9:=⟨fieldTys_some (by kernel_rfl),by kernel_rfl,tyV⟩
end Go.Proofs.YtpgakkhfjjhpdaaGreatDoor
end
section
namespace Go.Mach
theorem bulk_mem {es:List AV} {x:AV} (h:x∈es):bulkA x≤bulkAs es:=by
 induction es with
 | nil=>cases h
 | cons y l ih=>
  simp only [bulkAs]
  rcases List.mem_cons.1 h with rfl | h
  ·omega
  ·have:=ih h; omega
theorem bulk_pos (x:AV):1≤bulkA x:=by cases x <;> simp [bulkA]
theorem bulk_len:∀ es:List AV,es.length≤bulkAs es
 | []=>by simp
 | x :: l=>by have:=bulk_len l; have:=bulk_pos x; simp only [bulkAs,zqU]; omega
theorem list_enc {α:Type} (enc:α→AV) (ok:α→Prop):∀ l:List AV,(∀ y∈l,∃ v:α,y=enc v∧ok v)→∃ l':List α,l=l'.map enc∧∀ b∈l',ok b
 | [],_=>⟨[],rfl,by simp⟩
 | y :: l,h=>by
  obtain ⟨v,rfl,hv⟩:=h y (by simp)
  obtain ⟨l',rfl,hl'⟩:=list_enc enc ok l fun z hz=>h z (by simp [hz])
  exact ⟨v :: l',rfl,fun b hb=>by rcases List.mem_cons.1 hb with rfl | hb; exact hv; exact hl' b hb⟩
structure GL where
 kind:Int
 name:ByteArray
 args:List GT
 deriving Inhabited
namespace GL
def enc (x:GL):AV:=.agg [.int .i64 x.kind,.str x.name,.isl (GT.encs x.args) false]
theorem enc_mk (kind':Int) (name':ByteArray) (args':List GT):AV.agg [.int .i64 kind',.str name',.isl (GT.encs args') false]=enc ⟨kind',name',args'⟩:=rfl
theorem enc_eq (x:GL):x.enc=.agg [.int .i64 x.kind,.str x.name,.isl (GT.encs x.args) false]:=rfl
@[simp] theorem eta (x:GL):(⟨x.kind,x.name,x.args⟩:GL)=x:=rfl
@[simp] theorem enc_cells (x:GL):x.enc.cells=[.int .i64 x.kind,.str x.name,.isl (GT.encs x.args) false]:=rfl
@[simp] theorem enc_solid (x:GL):x.enc.solid=true:=rfl
@[simp] theorem enc_head (x:GL) (xs:List AV):headYld (x.enc :: xs)=false:=by cases x; rfl
@[simp] theorem enc_clean (x:GL):x.enc.clean=true:=rfl
@[simp] theorem enc_datR (x:GL):x.enc.datR=true:=rfl
@[simp] theorem enc_dat (x:GL):x.enc.dat=true:=rfl
@[simp] theorem enc_clo (x:GL):x.enc.clo=true:=rfl
@[simp] theorem enc_clo1 (x:GL):x.enc.clo1=false:=rfl
@[simp] theorem enc_closeA (σ:Heap) (x:GL):closeA σ x.enc=some (x.enc,σ):=(clean_close (by simp)).1
@[simp] theorem enc_closeR (σ:Heap) (x:GL):closeR σ x.enc=some (x.enc,σ):=rfl
@[simp] theorem encs_okEl (l:List GL):(l.map enc).all (okEl 3 true)=true:=by
 rw [zqQ]; intro x hx
 obtain ⟨v,_,rfl⟩:=List.mem_map.1 hx
 rfl
def ok (x:GL):Prop:=GV.i64ok x.kind∧GT.oks x.args
def size (x:GL):Nat:=bulkA x.enc
theorem name_le (x:GL):x.name.size+1≤x.size:=by simp only [size,enc,bulkA,bulkAs]; omega
theorem args_le (x:GL):GT.sizes x.args+1≤x.size:=by simp only [size,enc,bulkA,bulkAs,GT.bulk_encs]; omega
end GL
structure GU where
 name:ByteArray
 args:List GV
 deriving Inhabited
namespace GU
def enc (x:GU):AV:=.agg [.str x.name,.isl (GV.encs x.args) false]
theorem enc_mk (name':ByteArray) (args':List GV):AV.agg [.str name',.isl (GV.encs args') false]=enc ⟨name',args'⟩:=rfl
theorem enc_eq (x:GU):x.enc=.agg [.str x.name,.isl (GV.encs x.args) false]:=rfl
@[simp] theorem eta (x:GU):(⟨x.name,x.args⟩:GU)=x:=rfl
@[simp] theorem enc_cells (x:GU):x.enc.cells=[.str x.name,.isl (GV.encs x.args) false]:=rfl
@[simp] theorem enc_solid (x:GU):x.enc.solid=true:=rfl
@[simp] theorem enc_head (x:GU) (xs:List AV):headYld (x.enc :: xs)=false:=by cases x; rfl
@[simp] theorem enc_clean (x:GU):x.enc.clean=true:=rfl
@[simp] theorem enc_datR (x:GU):x.enc.datR=true:=rfl
@[simp] theorem enc_dat (x:GU):x.enc.dat=true:=rfl
@[simp] theorem enc_clo (x:GU):x.enc.clo=true:=rfl
@[simp] theorem enc_clo1 (x:GU):x.enc.clo1=false:=rfl
@[simp] theorem enc_closeA (σ:Heap) (x:GU):closeA σ x.enc=some (x.enc,σ):=(clean_close (by simp)).1
@[simp] theorem enc_closeR (σ:Heap) (x:GU):closeR σ x.enc=some (x.enc,σ):=rfl
@[simp] theorem encs_okEl (l:List GU):(l.map enc).all (okEl 2 true)=true:=by
 rw [zqQ]; intro x hx
 obtain ⟨v,_,rfl⟩:=List.mem_map.1 hx
 rfl
def ok (x:GU):Prop:=GV.oks x.args
def size (x:GU):Nat:=bulkA x.enc
theorem name_le (x:GU):x.name.size+1≤x.size:=by simp only [size,enc,bulkA,bulkAs]; omega
theorem args_le (x:GU):GV.sizes x.args+1≤x.size:=by simp only [size,enc,bulkA,bulkAs,GV.bulk_encs]; omega
end GU
structure GD where
 name:ByteArray
 arity:Int
 deriving Inhabited
namespace GD
def enc (x:GD):AV:=.agg [.str x.name,.int .i64 x.arity]
theorem enc_mk (name':ByteArray) (arity':Int):AV.agg [.str name',.int .i64 arity']=enc ⟨name',arity'⟩:=rfl
theorem enc_eq (x:GD):x.enc=.agg [.str x.name,.int .i64 x.arity]:=rfl
@[simp] theorem eta (x:GD):(⟨x.name,x.arity⟩:GD)=x:=rfl
@[simp] theorem enc_cells (x:GD):x.enc.cells=[.str x.name,.int .i64 x.arity]:=rfl
@[simp] theorem enc_solid (x:GD):x.enc.solid=true:=rfl
@[simp] theorem enc_head (x:GD) (xs:List AV):headYld (x.enc :: xs)=false:=by cases x; rfl
@[simp] theorem enc_clean (x:GD):x.enc.clean=true:=rfl
@[simp] theorem enc_datR (x:GD):x.enc.datR=true:=rfl
@[simp] theorem enc_dat (x:GD):x.enc.dat=true:=rfl
@[simp] theorem enc_clo (x:GD):x.enc.clo=true:=rfl
@[simp] theorem enc_clo1 (x:GD):x.enc.clo1=false:=rfl
@[simp] theorem enc_closeA (σ:Heap) (x:GD):closeA σ x.enc=some (x.enc,σ):=(clean_close (by simp)).1
@[simp] theorem enc_closeR (σ:Heap) (x:GD):closeR σ x.enc=some (x.enc,σ):=rfl
@[simp] theorem encs_okEl (l:List GD):(l.map enc).all (okEl 2 true)=true:=by
 rw [zqQ]; intro x hx
 obtain ⟨v,_,rfl⟩:=List.mem_map.1 hx
 rfl
def ok (x:GD):Prop:=GV.i64ok x.arity
def size (x:GD):Nat:=bulkA x.enc
theorem name_le (x:GD):x.name.size+1≤x.size:=by simp only [size,enc,bulkA,bulkAs]; omega
end GD
structure GR where
 label:ByteArray
 head:ByteArray
 args:List GT
 agg:ByteArray
 pos:Int
 body:List GL
 deriving Inhabited
namespace GR
def enc (x:GR):AV:=.agg [.str x.label,.str x.head,.isl (GT.encs x.args) false,.str x.agg,.int .i64 x.pos,.isl (x.body.map GL.enc) false]
theorem enc_mk (label':ByteArray) (head':ByteArray) (args':List GT) (agg':ByteArray) (pos':Int) (body':List GL):AV.agg [.str label',.str head',.isl (GT.encs args') false,.str agg',.int .i64 pos',.isl (body'.map GL.enc) false]=enc ⟨label',head',args',agg',pos',body'⟩:=rfl
theorem enc_eq (x:GR):x.enc=.agg [.str x.label,.str x.head,.isl (GT.encs x.args) false,.str x.agg,.int .i64 x.pos,.isl (x.body.map GL.enc) false]:=rfl
@[simp] theorem eta (x:GR):(⟨x.label,x.head,x.args,x.agg,x.pos,x.body⟩:GR)=x:=rfl
@[simp] theorem enc_cells (x:GR):x.enc.cells=[.str x.label,.str x.head,.isl (GT.encs x.args) false,.str x.agg,.int .i64 x.pos,.isl (x.body.map GL.enc) false]:=rfl
@[simp] theorem enc_solid (x:GR):x.enc.solid=true:=rfl
@[simp] theorem enc_head (x:GR) (xs:List AV):headYld (x.enc :: xs)=false:=by cases x; rfl
@[simp] theorem enc_clean (x:GR):x.enc.clean=true:=rfl
@[simp] theorem enc_datR (x:GR):x.enc.datR=true:=rfl
@[simp] theorem enc_dat (x:GR):x.enc.dat=true:=rfl
@[simp] theorem enc_clo (x:GR):x.enc.clo=true:=rfl
@[simp] theorem enc_clo1 (x:GR):x.enc.clo1=false:=rfl
@[simp] theorem enc_closeA (σ:Heap) (x:GR):closeA σ x.enc=some (x.enc,σ):=(clean_close (by simp)).1
@[simp] theorem enc_closeR (σ:Heap) (x:GR):closeR σ x.enc=some (x.enc,σ):=rfl
@[simp] theorem encs_okEl (l:List GR):(l.map enc).all (okEl 6 true)=true:=by
 rw [zqQ]; intro x hx
 obtain ⟨v,_,rfl⟩:=List.mem_map.1 hx
 rfl
def ok (x:GR):Prop:=GT.oks x.args∧GV.i64ok x.pos∧(∀ y∈x.body,y.ok)
def size (x:GR):Nat:=bulkA x.enc
theorem label_le (x:GR):x.label.size+1≤x.size:=by simp only [size,enc,bulkA,bulkAs]; omega
theorem head_le (x:GR):x.head.size+1≤x.size:=by simp only [size,enc,bulkA,bulkAs]; omega
theorem args_le (x:GR):GT.sizes x.args+1≤x.size:=by simp only [size,enc,bulkA,bulkAs,GT.bulk_encs]; omega
theorem agg_le (x:GR):x.agg.size+1≤x.size:=by simp only [size,enc,bulkA,bulkAs]; omega
theorem body_len (x:GR):x.body.length+1≤x.size:=by have:=bulk_len (x.body.map GL.enc); simp only [List.length_map] at this; simp only [size,enc,bulkA,bulkAs]; omega
theorem body_mem (x:GR) {y:GL} (h:y∈x.body):y.size+1≤x.size:=by have:=bulk_mem (List.mem_map.2 ⟨y,h,rfl⟩:y.enc∈x.body.map GL.enc); show bulkA y.enc+1≤_; simp only [size,enc,bulkA,bulkAs]; omega
end GR
structure GP where
 decls:List GD
 facts:List GU
 rules:List GR
 deriving Inhabited
namespace GP
def enc (x:GP):AV:=.agg [.isl (x.decls.map GD.enc) false,.isl (x.facts.map GU.enc) false,.isl (x.rules.map GR.enc) false]
theorem enc_mk (decls':List GD) (facts':List GU) (rules':List GR):AV.agg [.isl (decls'.map GD.enc) false,.isl (facts'.map GU.enc) false,.isl (rules'.map GR.enc) false]=enc ⟨decls',facts',rules'⟩:=rfl
theorem enc_eq (x:GP):x.enc=.agg [.isl (x.decls.map GD.enc) false,.isl (x.facts.map GU.enc) false,.isl (x.rules.map GR.enc) false]:=rfl
@[simp] theorem eta (x:GP):(⟨x.decls,x.facts,x.rules⟩:GP)=x:=rfl
@[simp] theorem enc_cells (x:GP):x.enc.cells=[.isl (x.decls.map GD.enc) false,.isl (x.facts.map GU.enc) false,.isl (x.rules.map GR.enc) false]:=rfl
@[simp] theorem enc_solid (x:GP):x.enc.solid=true:=rfl
@[simp] theorem enc_head (x:GP) (xs:List AV):headYld (x.enc :: xs)=false:=by cases x; rfl
@[simp] theorem enc_clean (x:GP):x.enc.clean=true:=rfl
@[simp] theorem enc_datR (x:GP):x.enc.datR=true:=rfl
@[simp] theorem enc_dat (x:GP):x.enc.dat=true:=rfl
@[simp] theorem enc_clo (x:GP):x.enc.clo=true:=rfl
@[simp] theorem enc_clo1 (x:GP):x.enc.clo1=false:=rfl
@[simp] theorem enc_closeA (σ:Heap) (x:GP):closeA σ x.enc=some (x.enc,σ):=(clean_close (by simp)).1
@[simp] theorem enc_closeR (σ:Heap) (x:GP):closeR σ x.enc=some (x.enc,σ):=rfl
@[simp] theorem encs_okEl (l:List GP):(l.map enc).all (okEl 3 true)=true:=by
 rw [zqQ]; intro x hx
 obtain ⟨v,_,rfl⟩:=List.mem_map.1 hx
 rfl
def ok (x:GP):Prop:=(∀ y∈x.decls,y.ok)∧(∀ y∈x.facts,y.ok)∧(∀ y∈x.rules,y.ok)
def size (x:GP):Nat:=bulkA x.enc
theorem decls_len (x:GP):x.decls.length+1≤x.size:=by have:=bulk_len (x.decls.map GD.enc); simp only [List.length_map] at this; simp only [size,enc,bulkA,bulkAs]; omega
theorem decls_mem (x:GP) {y:GD} (h:y∈x.decls):y.size+1≤x.size:=by have:=bulk_mem (List.mem_map.2 ⟨y,h,rfl⟩:y.enc∈x.decls.map GD.enc); show bulkA y.enc+1≤_; simp only [size,enc,bulkA,bulkAs]; omega
theorem facts_len (x:GP):x.facts.length+1≤x.size:=by have:=bulk_len (x.facts.map GU.enc); simp only [List.length_map] at this; simp only [size,enc,bulkA,bulkAs]; omega
theorem facts_mem (x:GP) {y:GU} (h:y∈x.facts):y.size+1≤x.size:=by have:=bulk_mem (List.mem_map.2 ⟨y,h,rfl⟩:y.enc∈x.facts.map GU.enc); show bulkA y.enc+1≤_; simp only [size,enc,bulkA,bulkAs]; omega
theorem rules_len (x:GP):x.rules.length+1≤x.size:=by have:=bulk_len (x.rules.map GR.enc); simp only [List.length_map] at this; simp only [size,enc,bulkA,bulkAs]; omega
theorem rules_mem (x:GP) {y:GR} (h:y∈x.rules):y.size+1≤x.size:=by have:=bulk_mem (List.mem_map.2 ⟨y,h,rfl⟩:y.enc∈x.rules.map GR.enc); show bulkA y.enc+1≤_; simp only [size,enc,bulkA,bulkAs]; omega
end GP
structure IsGL (P:Program) (tGL tT tTL tV tL tI tS:TypeId):Prop where
 fs:∃ fs:Array Field,P.underlying tGL=some (.struct fs)∧fs.toList.map (·.type)=[tI,tS,tTL]
 term:IsT P tT tTL tV tL tI tS
theorem TyA.asGL {P:Program} {tGL tT tTL tV tL tI tS:TypeId} (hT:IsGL P tGL tT tTL tV tL tI tS) {x:AV} (h:TyA P tGL x):∃ v:GL,x=v.enc∧v.ok:=by
 have e1:IntKind.i64.min=-9223372036854775808:=by decide
 have e2:IntKind.i64.max=9223372036854775807:=by decide
 obtain ⟨fs0,hf0,hts⟩:=hT.fs
 have hTT:=hT.term
 have hV:=hTT.val
 obtain ⟨vs,rfl,hl,hv⟩:=h.asStruct hf0
 have hlen:vs.length=3:=by rw [hl,←List.length_map (f:=(·.type)),hts]; rfl
 match vs,hlen with
 | [x0,x1,x2],_=>
  obtain ⟨y0,rfl,p0,q0⟩:=(field_ty hts hv (i:=0) rfl rfl).asInt hV.int
  rw [e1] at p0; rw [e2] at q0
  obtain ⟨y1,rfl⟩:=(field_ty hts hv (i:=1) rfl rfl).asStr hV.str
  obtain ⟨y2,rfl,o2⟩:=((field_ty hts hv (i:=2) rfl rfl).asTerm hTT).2 rfl
  exact ⟨⟨y0,y1,y2⟩,by simp [GL.enc,flat],⟨⟨p0,q0⟩,o2⟩⟩
structure IsGU (P:Program) (tGU tT tTL tV tL tI tS:TypeId):Prop where
 fs:∃ fs:Array Field,P.underlying tGU=some (.struct fs)∧fs.toList.map (·.type)=[tS,tL]
 term:IsT P tT tTL tV tL tI tS
theorem TyA.asGU {P:Program} {tGU tT tTL tV tL tI tS:TypeId} (hT:IsGU P tGU tT tTL tV tL tI tS) {x:AV} (h:TyA P tGU x):∃ v:GU,x=v.enc∧v.ok:=by
 have e1:IntKind.i64.min=-9223372036854775808:=by decide
 have e2:IntKind.i64.max=9223372036854775807:=by decide
 obtain ⟨fs0,hf0,hts⟩:=hT.fs
 have hTT:=hT.term
 have hV:=hTT.val
 obtain ⟨vs,rfl,hl,hv⟩:=h.asStruct hf0
 have hlen:vs.length=2:=by rw [hl,←List.length_map (f:=(·.type)),hts]; rfl
 match vs,hlen with
 | [x0,x1],_=>
  obtain ⟨y0,rfl⟩:=(field_ty hts hv (i:=0) rfl rfl).asStr hV.str
  obtain ⟨y1,rfl,o1⟩:=((field_ty hts hv (i:=1) rfl rfl).asValue hV).2 rfl
  exact ⟨⟨y0,y1⟩,by simp [GU.enc,flat],o1⟩
structure IsGD (P:Program) (tGD tT tTL tV tL tI tS:TypeId):Prop where
 fs:∃ fs:Array Field,P.underlying tGD=some (.struct fs)∧fs.toList.map (·.type)=[tS,tI]
 term:IsT P tT tTL tV tL tI tS
theorem TyA.asGD {P:Program} {tGD tT tTL tV tL tI tS:TypeId} (hT:IsGD P tGD tT tTL tV tL tI tS) {x:AV} (h:TyA P tGD x):∃ v:GD,x=v.enc∧v.ok:=by
 have e1:IntKind.i64.min=-9223372036854775808:=by decide
 have e2:IntKind.i64.max=9223372036854775807:=by decide
 obtain ⟨fs0,hf0,hts⟩:=hT.fs
 have hTT:=hT.term
 have hV:=hTT.val
 obtain ⟨vs,rfl,hl,hv⟩:=h.asStruct hf0
 have hlen:vs.length=2:=by rw [hl,←List.length_map (f:=(·.type)),hts]; rfl
 match vs,hlen with
 | [x0,x1],_=>
  obtain ⟨y0,rfl⟩:=(field_ty hts hv (i:=0) rfl rfl).asStr hV.str
  obtain ⟨y1,rfl,p1,q1⟩:=(field_ty hts hv (i:=1) rfl rfl).asInt hV.int
  rw [e1] at p1; rw [e2] at q1
  exact ⟨⟨y0,y1⟩,by simp [GD.enc,flat],⟨p1,q1⟩⟩
structure IsGR (P:Program) (tGR tGLL tGL tT tTL tV tL tI tS:TypeId):Prop where
 fs:∃ fs:Array Field,P.underlying tGR=some (.struct fs)∧fs.toList.map (·.type)=[tS,tS,tTL,tS,tI,tGLL]
 term:IsT P tT tTL tV tL tI tS
 bodyL:P.underlying tGLL=some (.slice tGL)
 bodyI:IsGL P tGL tT tTL tV tL tI tS
theorem TyA.asGR {P:Program} {tGR tGLL tGL tT tTL tV tL tI tS:TypeId} (hT:IsGR P tGR tGLL tGL tT tTL tV tL tI tS) {x:AV} (h:TyA P tGR x):∃ v:GR,x=v.enc∧v.ok:=by
 have e1:IntKind.i64.min=-9223372036854775808:=by decide
 have e2:IntKind.i64.max=9223372036854775807:=by decide
 obtain ⟨fs0,hf0,hts⟩:=hT.fs
 have hTT:=hT.term
 have hV:=hTT.val
 obtain ⟨vs,rfl,hl,hv⟩:=h.asStruct hf0
 have hlen:vs.length=6:=by rw [hl,←List.length_map (f:=(·.type)),hts]; rfl
 match vs,hlen with
 | [x0,x1,x2,x3,x4,x5],_=>
  obtain ⟨y0,rfl⟩:=(field_ty hts hv (i:=0) rfl rfl).asStr hV.str
  obtain ⟨y1,rfl⟩:=(field_ty hts hv (i:=1) rfl rfl).asStr hV.str
  obtain ⟨y2,rfl,o2⟩:=((field_ty hts hv (i:=2) rfl rfl).asTerm hTT).2 rfl
  obtain ⟨y3,rfl⟩:=(field_ty hts hv (i:=3) rfl rfl).asStr hV.str
  obtain ⟨y4,rfl,p4,q4⟩:=(field_ty hts hv (i:=4) rfl rfl).asInt hV.int
  rw [e1] at p4; rw [e2] at q4
  obtain ⟨es5,rfl,hes5⟩:=(field_ty hts hv (i:=5) rfl rfl).asSlice hT.bodyL
  obtain ⟨y5,rfl,o5⟩:=list_enc GL.enc GL.ok es5 fun z hz=>(hes5 z hz).asGL hT.bodyI
  exact ⟨⟨y0,y1,y2,y3,y4,y5⟩,by simp [GR.enc,flat],⟨o2,⟨p4,q4⟩,o5⟩⟩
structure IsGP (P:Program) (tGP tGDL tGD tGUL tGU tGRL tGR tGLL tGL tT tTL tV tL tI tS:TypeId):Prop where
 fs:∃ fs:Array Field,P.underlying tGP=some (.struct fs)∧fs.toList.map (·.type)=[tGDL,tGUL,tGRL]
 term:IsT P tT tTL tV tL tI tS
 declsL:P.underlying tGDL=some (.slice tGD)
 declsI:IsGD P tGD tT tTL tV tL tI tS
 factsL:P.underlying tGUL=some (.slice tGU)
 factsI:IsGU P tGU tT tTL tV tL tI tS
 rulesL:P.underlying tGRL=some (.slice tGR)
 rulesI:IsGR P tGR tGLL tGL tT tTL tV tL tI tS
theorem TyA.asGP {P:Program} {tGP tGDL tGD tGUL tGU tGRL tGR tGLL tGL tT tTL tV tL tI tS:TypeId} (hT:IsGP P tGP tGDL tGD tGUL tGU tGRL tGR tGLL tGL tT tTL tV tL tI tS) {x:AV} (h:TyA P tGP x):∃ v:GP,x=v.enc∧v.ok:=by
 have e1:IntKind.i64.min=-9223372036854775808:=by decide
 have e2:IntKind.i64.max=9223372036854775807:=by decide
 obtain ⟨fs0,hf0,hts⟩:=hT.fs
 have hTT:=hT.term
 have hV:=hTT.val
 obtain ⟨vs,rfl,hl,hv⟩:=h.asStruct hf0
 have hlen:vs.length=3:=by rw [hl,←List.length_map (f:=(·.type)),hts]; rfl
 match vs,hlen with
 | [x0,x1,x2],_=>
  obtain ⟨es0,rfl,hes0⟩:=(field_ty hts hv (i:=0) rfl rfl).asSlice hT.declsL
  obtain ⟨y0,rfl,o0⟩:=list_enc GD.enc GD.ok es0 fun z hz=>(hes0 z hz).asGD hT.declsI
  obtain ⟨es1,rfl,hes1⟩:=(field_ty hts hv (i:=1) rfl rfl).asSlice hT.factsL
  obtain ⟨y1,rfl,o1⟩:=list_enc GU.enc GU.ok es1 fun z hz=>(hes1 z hz).asGU hT.factsI
  obtain ⟨es2,rfl,hes2⟩:=(field_ty hts hv (i:=2) rfl rfl).asSlice hT.rulesL
  obtain ⟨y2,rfl,o2⟩:=list_enc GR.enc GR.ok es2 fun z hz=>(hes2 z hz).asGR hT.rulesI
  exact ⟨⟨y0,y1,y2⟩,by simp [GP.enc,flat],⟨o0,o1,o2⟩⟩
theorem arg1GP {P:Program} {tGP tGDL tGD tGUL tGU tGRL tGR tGLL tGL tT tTL tV tL tI tS:TypeId} (hT:IsGP P tGP tGDL tGD tGUL tGU tGRL tGR tGLL tGL tT tTL tV tL tI tS) {x:AV} (h:TyA P tGP x) (hb:bulkA x≤1048576):∃ v:GP,x=v.enc∧v.ok∧v.size≤1048576:=by
 obtain ⟨v,rfl,ho⟩:=h.asGP hT
 exact ⟨v,rfl,ho,hb⟩
end Go.Mach
namespace Go.Proofs.YtpgakkhfjjhpdaaGreatDoor
open Go.Mach
theorem tyGL:IsGL Tryz.prog 55 52 43 50 48 3 9:=⟨fieldTys_some (by kernel_rfl),tyT⟩
theorem tyGU:IsGU Tryz.prog 58 52 43 50 48 3 9:=⟨fieldTys_some (by kernel_rfl),tyT⟩
theorem tyGD:IsGD Tryz.prog 71 52 43 50 48 3 9:=⟨fieldTys_some (by kernel_rfl),tyT⟩
theorem tyGR:IsGR Tryz.prog 46 44 55 52 43 50 48 3 9:=⟨fieldTys_some (by kernel_rfl),tyT,by kernel_rfl,tyGL⟩
theorem tyGP:IsGP Tryz.prog 26 22 71 23 58 24 46 44 55 52 43 50 48 3 9:=⟨fieldTys_some (by kernel_rfl),tyT,by kernel_rfl,tyGD,by kernel_rfl,tyGU,by kernel_rfl,tyGR⟩
open Go.Mach
theorem idxTerm (p:GT→Bool) (l:List GT) (g:Nat) (caps:List AV) (hl:l.length≤100000000000) (σ:Heap) (hc:∀ x∈l,∀ bs,callT T g (x.enc :: caps) bs σ=some (.bool (p x),σ)) (bs:Nat) :
  callT T 150 [.isl (GT.encs l) false,.func g caps] bs σ=some (.int .i64 (idxG p l),σ):=by
 refine heap_enter (af:=c150) (args':=[.isl (GT.encs l) false,.func g caps]) (σ1:=σ) rfl rfl (by simp [c150]) (by simp [c150]) rfl ?_
 simp [c150,baseA]
 refine W_for T _ 19 l.length (fun i f τ=>f 0=.isl (GT.encs l) false∧f 1=.func g caps∧f 7=.int .i64 (l.length:Int)∧f 8=.int .i64 (i:Int)∧τ=σ∧∀ j,(hj:j<l.length)→j<i→p l[j]=false) ?_ _ _ ?_
 ·rintro i f τ hi ⟨h0,h1,h7,h8,rfl,hall⟩
  by_cases hlt:i<l.length
  ·have e1:l[i]?=some l[i]:=zqF hlt
   have hcl:=hc l[i] (zqT hlt)
   cases hp:p l[i]
   ·rw [hp] at hcl
    simp [h0,h1,h7,h8,hlt,hcl,hp,←GT.enc_eq]
    refine ⟨wr64 (by omega) (by omega),fun j hj hji=>?_⟩
    by_cases e:j=i
    ·subst e; exact hp
    ·exact hall j hj (by omega)
   ·rw [hp] at hcl
    simp [h0,h1,h7,h8,hlt,hcl,hp,←GT.enc_eq,dropA_gc,refLt,res1,refLt2_bool,refLt2_int,take_1]
    simp [idxG,idxG_drop p l i hlt hall hp]
  ·have he:i=l.length:=by omega
   subst he
   have hn:l.findIdx? p=none:=by
    rw [List.findIdx?_eq_none_iff]
    intro x hx
    obtain ⟨j,hj,rfl⟩:=zqS hx
    exact hall j hj hj
   simp [h0,h1,h7,h8,idxG,hn,dropA_gc,refLt,res1,refLt2_bool,refLt2_int,take_1]
 ·simp
theorem conTerm (p:GT→Bool) (l:List GT) (g:Nat) (caps:List AV) (hl:l.length≤100000000000) (σ:Heap) (hc:∀ x∈l,∀ bs,callT T g (x.enc :: caps) bs σ=some (.bool (p x),σ)) (bs:Nat) :
  callT T 134 [.isl (GT.encs l) false,.func g caps] bs σ=some (.bool (sym (l.any p)),σ):=by
 have h1:=idxTerm p l g caps hl σ hc
 have h2:=idxG_any p l
 refine heap_enter (af:=c134) (args':=[.isl (GT.encs l) false,.func g caps]) (σ1:=σ) rfl rfl (by simp [c134]) (by simp [c134]) rfl ?_
 simp [c134,baseA,h1,dropA_gc,refLt,res1,refLt2_bool,refLt2_int,take_1]
 refine ⟨fun h=>by simpa [sym] using h2.1 h,fun h=>?_⟩
 have:¬ l.any p=true:=fun hh=>by have:=h2.2 hh; omega
 simpa [sym] using this
theorem allTerm1 (b:Bool) (x:GT) (g:Nat) (caps:List AV) (σ:Heap) (hc:∀ τ bs,callT T g (x.enc :: caps) bs (σ++τ)=some (.bool b,σ++τ)) (bs:Nat) :
  callT T 135 [x.enc,.ptr σ.length 0] bs (σ++[.cells [.func g caps] 0 false])=some (.bool (!b),σ++[.cells [.func g caps] 0 false]):=by
 have hc1:=fun o bs=>hc [.cells [.func g caps] 0 false,o] bs
 refine heap_enter (af:=c135) (args':=[x.enc,.ptr σ.length 0]) (σ1:=σ++[.cells [.func g caps] 0 false]) rfl rfl (by simp [c135]) (by simp [c135]) rfl ?_
 simp [c135,baseA,hc1,←GT.enc_eq,setRun,dropA_gc,refLt,res1,refLt2_bool,refLt2_int,take_1]
theorem allTerm (p:GT→Bool) (l:List GT) (g:Nat) (caps:List AV) (hl:l.length≤100000000000) (σ:Heap) (hc:∀ x∈l,∀ τ bs,callT T g (x.enc :: caps) bs (σ++τ)=some (.bool (p x),σ++τ)) (bs:Nat) :
  callT T 113 [.isl (GT.encs l) false,.func g caps] bs σ=some (.bool (sym (l.all p)),σ):=by
 have h1:=fun x hx=>allTerm1 (p x) x g caps σ (hc x hx)
 have h2:=conTerm (fun x=>!p x) l 135 [.ptr σ.length 0] hl (σ++[.cells [.func g caps] 0 false]) h1
 refine heap_enter (af:=c113) (args':=[.isl (GT.encs l) false,.func g caps]) (σ1:=σ) rfl rfl (by simp [c113]) (by simp [c113]) rfl ?_
 rw [←not_any]
 simp [c113,baseA,h2,dropA_gc,refLt,res1,refLt2_bool,refLt2_int,take_1,setRun,sym]
theorem idxTuple (p:GU→Bool) (l:List GU) (g:Nat) (caps:List AV) (hl:l.length≤100000000000) (σ:Heap) (hc:∀ x∈l,∀ bs,callT T g (x.enc :: caps) bs σ=some (.bool (p x),σ)) (bs:Nat) :
  callT T 109 [.isl (l.map GU.enc) false,.func g caps] bs σ=some (.int .i64 (idxG p l),σ):=by
 refine heap_enter (af:=c109) (args':=[.isl (l.map GU.enc) false,.func g caps]) (σ1:=σ) rfl rfl (by simp [c109]) (by simp [c109]) rfl ?_
 simp [c109,baseA]
 refine W_for T _ 19 l.length (fun i f τ=>f 0=.isl (l.map GU.enc) false∧f 1=.func g caps∧f 7=.int .i64 (l.length:Int)∧f 8=.int .i64 (i:Int)∧τ=σ∧∀ j,(hj:j<l.length)→j<i→p l[j]=false) ?_ _ _ ?_
 ·rintro i f τ hi ⟨h0,h1,h7,h8,rfl,hall⟩
  by_cases hlt:i<l.length
  ·have e1:l[i]?=some l[i]:=zqF hlt
   have hcl:=hc l[i] (zqT hlt)
   cases hp:p l[i]
   ·rw [hp] at hcl
    simp [h0,h1,h7,h8,hlt,hcl,hp,←GU.enc_eq]
    refine ⟨wr64 (by omega) (by omega),fun j hj hji=>?_⟩
    by_cases e:j=i
    ·subst e; exact hp
    ·exact hall j hj (by omega)
   ·rw [hp] at hcl
    simp [h0,h1,h7,h8,hlt,hcl,hp,←GU.enc_eq,dropA_gc,refLt,res1,refLt2_bool,refLt2_int,take_1]
    simp [idxG,idxG_drop p l i hlt hall hp]
  ·have he:i=l.length:=by omega
   subst he
   have hn:l.findIdx? p=none:=by
    rw [List.findIdx?_eq_none_iff]
    intro x hx
    obtain ⟨j,hj,rfl⟩:=zqS hx
    exact hall j hj hj
   simp [h0,h1,h7,h8,idxG,hn,dropA_gc,refLt,res1,refLt2_bool,refLt2_int,take_1]
 ·simp
theorem conTuple (p:GU→Bool) (l:List GU) (g:Nat) (caps:List AV) (hl:l.length≤100000000000) (σ:Heap) (hc:∀ x∈l,∀ bs,callT T g (x.enc :: caps) bs σ=some (.bool (p x),σ)) (bs:Nat) :
  callT T 75 [.isl (l.map GU.enc) false,.func g caps] bs σ=some (.bool (sym (l.any p)),σ):=by
 have h1:=idxTuple p l g caps hl σ hc
 have h2:=idxG_any p l
 refine heap_enter (af:=c75) (args':=[.isl (l.map GU.enc) false,.func g caps]) (σ1:=σ) rfl rfl (by simp [c75]) (by simp [c75]) rfl ?_
 simp [c75,baseA,h1,dropA_gc,refLt,res1,refLt2_bool,refLt2_int,take_1]
 refine ⟨fun h=>by simpa [sym] using h2.1 h,fun h=>?_⟩
 have:¬ l.any p=true:=fun hh=>by have:=h2.2 hh; omega
 simpa [sym] using this
theorem allTuple1 (b:Bool) (x:GU) (g:Nat) (caps:List AV) (σ:Heap) (hc:∀ τ bs,callT T g (x.enc :: caps) bs (σ++τ)=some (.bool b,σ++τ)) (bs:Nat) :
  callT T 76 [x.enc,.ptr σ.length 0] bs (σ++[.cells [.func g caps] 0 false])=some (.bool (!b),σ++[.cells [.func g caps] 0 false]):=by
 have hc1:=fun o bs=>hc [.cells [.func g caps] 0 false,o] bs
 refine heap_enter (af:=c76) (args':=[x.enc,.ptr σ.length 0]) (σ1:=σ++[.cells [.func g caps] 0 false]) rfl rfl (by simp [c76]) (by simp [c76]) rfl ?_
 simp [c76,baseA,hc1,←GU.enc_eq,setRun,dropA_gc,refLt,res1,refLt2_bool,refLt2_int,take_1]
theorem allTuple (p:GU→Bool) (l:List GU) (g:Nat) (caps:List AV) (hl:l.length≤100000000000) (σ:Heap) (hc:∀ x∈l,∀ τ bs,callT T g (x.enc :: caps) bs (σ++τ)=some (.bool (p x),σ++τ)) (bs:Nat) :
  callT T 50 [.isl (l.map GU.enc) false,.func g caps] bs σ=some (.bool (sym (l.all p)),σ):=by
 have h1:=fun x hx=>allTuple1 (p x) x g caps σ (hc x hx)
 have h2:=conTuple (fun x=>!p x) l 76 [.ptr σ.length 0] hl (σ++[.cells [.func g caps] 0 false]) h1
 refine heap_enter (af:=c50) (args':=[.isl (l.map GU.enc) false,.func g caps]) (σ1:=σ) rfl rfl (by simp [c50]) (by simp [c50]) rfl ?_
 rw [←not_any]
 simp [c50,baseA,h2,dropA_gc,refLt,res1,refLt2_bool,refLt2_int,take_1,setRun,sym]
theorem idxRule (p:GR→Bool) (l:List GR) (g:Nat) (caps:List AV) (hl:l.length≤100000000000) (σ:Heap) (hc:∀ x∈l,∀ bs,callT T g (x.enc :: caps) bs σ=some (.bool (p x),σ)) (bs:Nat) :
  callT T 28 [.isl (l.map GR.enc) false,.func g caps] bs σ=some (.int .i64 (idxG p l),σ):=by
 refine heap_enter (af:=c28) (args':=[.isl (l.map GR.enc) false,.func g caps]) (σ1:=σ) rfl rfl (by simp [c28]) (by simp [c28]) rfl ?_
 simp [c28,baseA]
 refine W_for T _ 19 l.length (fun i f τ=>f 0=.isl (l.map GR.enc) false∧f 1=.func g caps∧f 7=.int .i64 (l.length:Int)∧f 8=.int .i64 (i:Int)∧τ=σ∧∀ j,(hj:j<l.length)→j<i→p l[j]=false) ?_ _ _ ?_
 ·rintro i f τ hi ⟨h0,h1,h7,h8,rfl,hall⟩
  by_cases hlt:i<l.length
  ·have e1:l[i]?=some l[i]:=zqF hlt
   have hcl:=hc l[i] (zqT hlt)
   cases hp:p l[i]
   ·rw [hp] at hcl
    simp [h0,h1,h7,h8,hlt,hcl,hp,←GR.enc_eq]
    refine ⟨wr64 (by omega) (by omega),fun j hj hji=>?_⟩
    by_cases e:j=i
    ·subst e; exact hp
    ·exact hall j hj (by omega)
   ·rw [hp] at hcl
    simp [h0,h1,h7,h8,hlt,hcl,hp,←GR.enc_eq,dropA_gc,refLt,res1,refLt2_bool,refLt2_int,take_1]
    simp [idxG,idxG_drop p l i hlt hall hp]
  ·have he:i=l.length:=by omega
   subst he
   have hn:l.findIdx? p=none:=by
    rw [List.findIdx?_eq_none_iff]
    intro x hx
    obtain ⟨j,hj,rfl⟩:=zqS hx
    exact hall j hj hj
   simp [h0,h1,h7,h8,idxG,hn,dropA_gc,refLt,res1,refLt2_bool,refLt2_int,take_1]
 ·simp
theorem conRule (p:GR→Bool) (l:List GR) (g:Nat) (caps:List AV) (hl:l.length≤100000000000) (σ:Heap) (hc:∀ x∈l,∀ bs,callT T g (x.enc :: caps) bs σ=some (.bool (p x),σ)) (bs:Nat) :
  callT T 79 [.isl (l.map GR.enc) false,.func g caps] bs σ=some (.bool (sym (l.any p)),σ):=by
 have h1:=idxRule p l g caps hl σ hc
 have h2:=idxG_any p l
 refine heap_enter (af:=c79) (args':=[.isl (l.map GR.enc) false,.func g caps]) (σ1:=σ) rfl rfl (by simp [c79]) (by simp [c79]) rfl ?_
 simp [c79,baseA,h1,dropA_gc,refLt,res1,refLt2_bool,refLt2_int,take_1]
 refine ⟨fun h=>by simpa [sym] using h2.1 h,fun h=>?_⟩
 have:¬ l.any p=true:=fun hh=>by have:=h2.2 hh; omega
 simpa [sym] using this
theorem allRule1 (b:Bool) (x:GR) (g:Nat) (caps:List AV) (σ:Heap) (hc:∀ τ bs,callT T g (x.enc :: caps) bs (σ++τ)=some (.bool b,σ++τ)) (bs:Nat) :
  callT T 80 [x.enc,.ptr σ.length 0] bs (σ++[.cells [.func g caps] 0 false])=some (.bool (!b),σ++[.cells [.func g caps] 0 false]):=by
 have hc1:=fun o bs=>hc [.cells [.func g caps] 0 false,o] bs
 refine heap_enter (af:=c80) (args':=[x.enc,.ptr σ.length 0]) (σ1:=σ++[.cells [.func g caps] 0 false]) rfl rfl (by simp [c80]) (by simp [c80]) rfl ?_
 simp [c80,baseA,hc1,←GR.enc_eq,setRun,dropA_gc,refLt,res1,refLt2_bool,refLt2_int,take_1]
theorem allRule (p:GR→Bool) (l:List GR) (g:Nat) (caps:List AV) (hl:l.length≤100000000000) (σ:Heap) (hc:∀ x∈l,∀ τ bs,callT T g (x.enc :: caps) bs (σ++τ)=some (.bool (p x),σ++τ)) (bs:Nat) :
  callT T 52 [.isl (l.map GR.enc) false,.func g caps] bs σ=some (.bool (sym (l.all p)),σ):=by
 have h1:=fun x hx=>allRule1 (p x) x g caps σ (hc x hx)
 have h2:=conRule (fun x=>!p x) l 80 [.ptr σ.length 0] hl (σ++[.cells [.func g caps] 0 false]) h1
 refine heap_enter (af:=c52) (args':=[.isl (l.map GR.enc) false,.func g caps]) (σ1:=σ) rfl rfl (by simp [c52]) (by simp [c52]) rfl ?_
 rw [←not_any]
 simp [c52,baseA,h2,dropA_gc,refLt,res1,refLt2_bool,refLt2_int,take_1,setRun,sym]
theorem idxDecl (p:GD→Bool) (l:List GD) (g:Nat) (caps:List AV) (hl:l.length≤100000000000) (σ:Heap) (hc:∀ x∈l,∀ bs,callT T g (x.enc :: caps) bs σ=some (.bool (p x),σ)) (bs:Nat) :
  callT T 57 [.isl (l.map GD.enc) false,.func g caps] bs σ=some (.int .i64 (idxG p l),σ):=by
 refine heap_enter (af:=c57) (args':=[.isl (l.map GD.enc) false,.func g caps]) (σ1:=σ) rfl rfl (by simp [c57]) (by simp [c57]) rfl ?_
 simp [c57,baseA]
 refine W_for T _ 19 l.length (fun i f τ=>f 0=.isl (l.map GD.enc) false∧f 1=.func g caps∧f 7=.int .i64 (l.length:Int)∧f 8=.int .i64 (i:Int)∧τ=σ∧∀ j,(hj:j<l.length)→j<i→p l[j]=false) ?_ _ _ ?_
 ·rintro i f τ hi ⟨h0,h1,h7,h8,rfl,hall⟩
  by_cases hlt:i<l.length
  ·have e1:l[i]?=some l[i]:=zqF hlt
   have hcl:=hc l[i] (zqT hlt)
   cases hp:p l[i]
   ·rw [hp] at hcl
    simp [h0,h1,h7,h8,hlt,hcl,hp,←GD.enc_eq]
    refine ⟨wr64 (by omega) (by omega),fun j hj hji=>?_⟩
    by_cases e:j=i
    ·subst e; exact hp
    ·exact hall j hj (by omega)
   ·rw [hp] at hcl
    simp [h0,h1,h7,h8,hlt,hcl,hp,←GD.enc_eq,dropA_gc,refLt,res1,refLt2_bool,refLt2_int,take_1]
    simp [idxG,idxG_drop p l i hlt hall hp]
  ·have he:i=l.length:=by omega
   subst he
   have hn:l.findIdx? p=none:=by
    rw [List.findIdx?_eq_none_iff]
    intro x hx
    obtain ⟨j,hj,rfl⟩:=zqS hx
    exact hall j hj hj
   simp [h0,h1,h7,h8,idxG,hn,dropA_gc,refLt,res1,refLt2_bool,refLt2_int,take_1]
 ·simp
theorem conDecl (p:GD→Bool) (l:List GD) (g:Nat) (caps:List AV) (hl:l.length≤100000000000) (σ:Heap) (hc:∀ x∈l,∀ bs,callT T g (x.enc :: caps) bs σ=some (.bool (p x),σ)) (bs:Nat) :
  callT T 84 [.isl (l.map GD.enc) false,.func g caps] bs σ=some (.bool (sym (l.any p)),σ):=by
 have h1:=idxDecl p l g caps hl σ hc
 have h2:=idxG_any p l
 refine heap_enter (af:=c84) (args':=[.isl (l.map GD.enc) false,.func g caps]) (σ1:=σ) rfl rfl (by simp [c84]) (by simp [c84]) rfl ?_
 simp [c84,baseA,h1,dropA_gc,refLt,res1,refLt2_bool,refLt2_int,take_1]
 refine ⟨fun h=>by simpa [sym] using h2.1 h,fun h=>?_⟩
 have:¬ l.any p=true:=fun hh=>by have:=h2.2 hh; omega
 simpa [sym] using this
theorem allDecl1 (b:Bool) (x:GD) (g:Nat) (caps:List AV) (σ:Heap) (hc:∀ τ bs,callT T g (x.enc :: caps) bs (σ++τ)=some (.bool b,σ++τ)) (bs:Nat) :
  callT T 85 [x.enc,.ptr σ.length 0] bs (σ++[.cells [.func g caps] 0 false])=some (.bool (!b),σ++[.cells [.func g caps] 0 false]):=by
 have hc1:=fun o bs=>hc [.cells [.func g caps] 0 false,o] bs
 refine heap_enter (af:=c85) (args':=[x.enc,.ptr σ.length 0]) (σ1:=σ++[.cells [.func g caps] 0 false]) rfl rfl (by simp [c85]) (by simp [c85]) rfl ?_
 simp [c85,baseA,hc1,←GD.enc_eq,setRun,dropA_gc,refLt,res1,refLt2_bool,refLt2_int,take_1]
theorem allDecl (p:GD→Bool) (l:List GD) (g:Nat) (caps:List AV) (hl:l.length≤100000000000) (σ:Heap) (hc:∀ x∈l,∀ τ bs,callT T g (x.enc :: caps) bs (σ++τ)=some (.bool (p x),σ++τ)) (bs:Nat) :
  callT T 54 [.isl (l.map GD.enc) false,.func g caps] bs σ=some (.bool (sym (l.all p)),σ):=by
 have h1:=fun x hx=>allDecl1 (p x) x g caps σ (hc x hx)
 have h2:=conDecl (fun x=>!p x) l 85 [.ptr σ.length 0] hl (σ++[.cells [.func g caps] 0 false]) h1
 refine heap_enter (af:=c54) (args':=[.isl (l.map GD.enc) false,.func g caps]) (σ1:=σ) rfl rfl (by simp [c54]) (by simp [c54]) rfl ?_
 rw [←not_any]
 simp [c54,baseA,h2,dropA_gc,refLt,res1,refLt2_bool,refLt2_int,take_1,setRun,sym]
theorem idxLiteral (p:GL→Bool) (l:List GL) (g:Nat) (caps:List AV) (hl:l.length≤100000000000) (σ:Heap) (hc:∀ x∈l,∀ bs,callT T g (x.enc :: caps) bs σ=some (.bool (p x),σ)) (bs:Nat) :
  callT T 118 [.isl (l.map GL.enc) false,.func g caps] bs σ=some (.int .i64 (idxG p l),σ):=by
 refine heap_enter (af:=c118) (args':=[.isl (l.map GL.enc) false,.func g caps]) (σ1:=σ) rfl rfl (by simp [c118]) (by simp [c118]) rfl ?_
 simp [c118,baseA]
 refine W_for T _ 19 l.length (fun i f τ=>f 0=.isl (l.map GL.enc) false∧f 1=.func g caps∧f 7=.int .i64 (l.length:Int)∧f 8=.int .i64 (i:Int)∧τ=σ∧∀ j,(hj:j<l.length)→j<i→p l[j]=false) ?_ _ _ ?_
 ·rintro i f τ hi ⟨h0,h1,h7,h8,rfl,hall⟩
  by_cases hlt:i<l.length
  ·have e1:l[i]?=some l[i]:=zqF hlt
   have hcl:=hc l[i] (zqT hlt)
   cases hp:p l[i]
   ·rw [hp] at hcl
    simp [h0,h1,h7,h8,hlt,hcl,hp,←GL.enc_eq]
    refine ⟨wr64 (by omega) (by omega),fun j hj hji=>?_⟩
    by_cases e:j=i
    ·subst e; exact hp
    ·exact hall j hj (by omega)
   ·rw [hp] at hcl
    simp [h0,h1,h7,h8,hlt,hcl,hp,←GL.enc_eq,dropA_gc,refLt,res1,refLt2_bool,refLt2_int,take_1]
    simp [idxG,idxG_drop p l i hlt hall hp]
  ·have he:i=l.length:=by omega
   subst he
   have hn:l.findIdx? p=none:=by
    rw [List.findIdx?_eq_none_iff]
    intro x hx
    obtain ⟨j,hj,rfl⟩:=zqS hx
    exact hall j hj hj
   simp [h0,h1,h7,h8,idxG,hn,dropA_gc,refLt,res1,refLt2_bool,refLt2_int,take_1]
 ·simp
theorem conLiteral (p:GL→Bool) (l:List GL) (g:Nat) (caps:List AV) (hl:l.length≤100000000000) (σ:Heap) (hc:∀ x∈l,∀ bs,callT T g (x.enc :: caps) bs σ=some (.bool (p x),σ)) (bs:Nat) :
  callT T 88 [.isl (l.map GL.enc) false,.func g caps] bs σ=some (.bool (sym (l.any p)),σ):=by
 have h1:=idxLiteral p l g caps hl σ hc
 have h2:=idxG_any p l
 refine heap_enter (af:=c88) (args':=[.isl (l.map GL.enc) false,.func g caps]) (σ1:=σ) rfl rfl (by simp [c88]) (by simp [c88]) rfl ?_
 simp [c88,baseA,h1,dropA_gc,refLt,res1,refLt2_bool,refLt2_int,take_1]
 refine ⟨fun h=>by simpa [sym] using h2.1 h,fun h=>?_⟩
 have:¬ l.any p=true:=fun hh=>by have:=h2.2 hh; omega
 simpa [sym] using this
theorem allLiteral1 (b:Bool) (x:GL) (g:Nat) (caps:List AV) (σ:Heap) (hc:∀ τ bs,callT T g (x.enc :: caps) bs (σ++τ)=some (.bool b,σ++τ)) (bs:Nat) :
  callT T 115 [x.enc,.ptr σ.length 0] bs (σ++[.cells [.func g caps] 0 false])=some (.bool (!b),σ++[.cells [.func g caps] 0 false]):=by
 have hc1:=fun o bs=>hc [.cells [.func g caps] 0 false,o] bs
 refine heap_enter (af:=c115) (args':=[x.enc,.ptr σ.length 0]) (σ1:=σ++[.cells [.func g caps] 0 false]) rfl rfl (by simp [c115]) (by simp [c115]) rfl ?_
 simp [c115,baseA,hc1,←GL.enc_eq,setRun,dropA_gc,refLt,res1,refLt2_bool,refLt2_int,take_1]
theorem allLiteral (p:GL→Bool) (l:List GL) (g:Nat) (caps:List AV) (hl:l.length≤100000000000) (σ:Heap) (hc:∀ x∈l,∀ τ bs,callT T g (x.enc :: caps) bs (σ++τ)=some (.bool (p x),σ++τ)) (bs:Nat) :
  callT T 82 [.isl (l.map GL.enc) false,.func g caps] bs σ=some (.bool (sym (l.all p)),σ):=by
 have h1:=fun x hx=>allLiteral1 (p x) x g caps σ (hc x hx)
 have h2:=conLiteral (fun x=>!p x) l 115 [.ptr σ.length 0] hl (σ++[.cells [.func g caps] 0 false]) h1
 refine heap_enter (af:=c82) (args':=[.isl (l.map GL.enc) false,.func g caps]) (σ1:=σ) rfl rfl (by simp [c82]) (by simp [c82]) rfl ?_
 rw [←not_any]
 simp [c82,baseA,h2,dropA_gc,refLt,res1,refLt2_bool,refLt2_int,take_1,setRun,sym]
open Go.Mach
abbrev sCons:ByteArray:=⟨#[102,95,99,111,110,115]⟩
abbrev sAppend:ByteArray:=⟨#[102,95,97,112,112,101,110,100]⟩
abbrev sConcat:ByteArray:=⟨#[102,95,99,111,110,99,97,116]⟩
abbrev sMember:ByteArray:=⟨#[102,95,109,101,109,98,101,114]⟩
abbrev sSize:ByteArray:=⟨#[102,95,115,105,122,101]⟩
abbrev sFirst:ByteArray:=⟨#[102,95,102,105,114,115,116]⟩
abbrev sLast:ByteArray:=⟨#[102,95,108,97,115,116]⟩
abbrev sRest:ByteArray:=⟨#[102,95,114,101,115,116]⟩
abbrev sReverse:ByteArray:=⟨#[102,95,114,101,118,101,114,115,101]⟩
def arityOf (s:ByteArray):Int:=
 if s=sCons∨s=sAppend∨s=sConcat∨s=sMember then 2
 else if s=sSize∨s=sFirst∨s=sLast∨s=sRest∨s=sReverse then 1 else -1
theorem refArity_ok (s:ByteArray):pureT T c92 [.str s]=some (.int .i64 (arityOf s)):=by
 apply pure_enter (by simp [c92])
 simp [c92]
 unfold arityOf
 grind
theorem refArity (s:ByteArray) (bs:Nat) (σ:Heap):callT T 92 [.str s] bs σ=some (.int .i64 (arityOf s),σ):=call_clean rfl rfl rfl (by simp) (refArity_ok s)
open Go.Mach
theorem end_ok (b:Bool):pureT T c142 [.bool b]=some (.func 159 [.iptr [.bool b] 0]):=by
 apply pure_enter (by simp [c142])
 simp [c142,frz,res1]
theorem callEnd (b:Bool) (bs:Nat) (σ:Heap):callT T 142 [.bool b] bs σ=some (.func 159 [.iptr [.bool b] 0],σ):=call_clean rfl rfl rfl (by simp) (end_ok b)
def findV (s:ByteArray):AV:=
 if s=sCons then .agg [.int .i64 2,.int .i64 1,.func 137 []]
 else if s=sAppend then .agg [.int .i64 2,.int .i64 0,.func 138 []]
 else if s=sConcat then .agg [.int .i64 2,.int .i64 0,.func 139 []]
 else if s=sMember then .agg [.int .i64 2,.int .i64 0,.func 140 []]
 else if s=sSize then .agg [.int .i64 1,.int .i64 0,.func 141 []]
 else if s=sFirst then .agg [.int .i64 1,.int .i64 0,.func 159 [.iptr [.bool false] 0]]
 else if s=sLast then .agg [.int .i64 1,.int .i64 0,.func 159 [.iptr [.bool true] 0]]
 else if s=sRest then .agg [.int .i64 1,.int .i64 0,.func 143 []]
 else if s=sReverse then .agg [.int .i64 1,.int .i64 0,.func 144 []]
 else .agg [.int .i64 (-1),.int .i64 0,.nilfunc]
theorem find_ok (s:ByteArray):pureT T c117 [.str s]=some (findV s):=by
 apply pure_enter (by simp [c117])
 unfold findV
 by_cases h1:s=sCons
 ·subst h1; simp [c117,setRun]
 by_cases h2:s=sAppend
 ·subst h2; simp [c117,setRun]
 by_cases h3:s=sConcat
 ·subst h3; simp [c117,setRun]
 by_cases h4:s=sMember
 ·subst h4; simp [c117,setRun]
 by_cases h5:s=sSize
 ·subst h5; simp [c117,setRun]
 by_cases h6:s=sFirst
 ·subst h6; simp [c117,setRun,callEnd]
 by_cases h7:s=sLast
 ·subst h7; simp [c117,setRun,callEnd]
 by_cases h8:s=sRest
 ·subst h8; simp [c117,setRun]
 by_cases h9:s=sReverse
 ·subst h9; simp [c117,setRun]
 simp [c117,setRun,h1,h2,h3,h4,h5,h6,h7,h8,h9]
theorem callFind (s:ByteArray) (bs:Nat) (σ:Heap):callT T 117 [.str s] bs σ=some (findV s,σ):=call_clean rfl rfl rfl (by simp) (find_ok s)
theorem bArity (s:ByteArray) (bs:Nat) (σ:Heap):callT T 87 [.str s] bs σ=some (.int .i64 (arityOf s),σ):=call_clean rfl rfl rfl rfl (by
 apply pure_enter (by simp [c87])
 have h:=callFind s
 unfold findV at h
 unfold arityOf
 by_cases h1:s=sCons
 ·subst h1; simp at h; simp [c87,h,setRun]; try decide
 by_cases h2:s=sAppend
 ·subst h2; simp at h; simp [c87,h,setRun]; try decide
 by_cases h3:s=sConcat
 ·subst h3; simp at h; simp [c87,h,setRun]; try decide
 by_cases h4:s=sMember
 ·subst h4; simp at h; simp [c87,h,setRun]; try decide
 by_cases h5:s=sSize
 ·subst h5; simp at h; simp [c87,h,setRun]; try decide
 by_cases h6:s=sFirst
 ·subst h6; simp at h; simp [c87,h,setRun]; try decide
 by_cases h7:s=sLast
 ·subst h7; simp at h; simp [c87,h,setRun]; try decide
 by_cases h8:s=sRest
 ·subst h8; simp at h; simp [c87,h,setRun]; try decide
 by_cases h9:s=sReverse
 ·subst h9; simp at h; simp [c87,h,setRun]; try decide
 simp [h1,h2,h3,h4,h5,h6,h7,h8,h9] at h
 simp [c87,h,setRun,h1,h2,h3,h4,h5,h6,h7,h8,h9])
open Go.Mach
def upB (c:Nat):Bool:=decide (65≤c) && decide (c≤90)
def varL:List UInt8→Bool
 | []=>false
 | c :: l=>upB c.toNat && l.all (fun c=>upB c.toNat || innerB c.toNat)
def varOK (t:ByteArray):Bool:=varL t.data.toList && decide (t.size≤16)
def sMat:ByteArray:=⟨#[109,97,116,101,114,105,97,108,105,122,101]⟩
def relOK (s:ByteArray):Bool:=nameOK s && decide (arityOf s<0) && decide (s≠sMat)
abbrev nil0:GV:=.mk 0 0 ⟨#[]⟩ []
def bareV (v:GV):Bool:=decide (v.kind=0∧v.num=0∧v.text=⟨#[]⟩∧v.items.length=0)
def opOK (n:ByteArray):Bool:=decide (n=⟨#[43]⟩∨n=⟨#[45]⟩∨n=⟨#[42]⟩)
def termB (t:GT) (ar:Bool):Bool:=
 if t.kind=1 then bareV t.value && decide (t.args.length=0) && varOK t.name
 else if t.kind=2 then rightT t.value && decide (t.args.length=0) && decide (t.name=⟨#[]⟩) && (decide (t.value.kind≠3) || decide (arityOf t.value.text<0))
 else if t.kind=3 then bareV t.value && decide (arityOf t.name=t.args.length) && ar
 else if t.kind=4 then bareV t.value && decide (t.args.length=2) && opOK t.name && ar
 else false
def termR:Nat→GT→Bool
 | 0,_=>false
 | d+1,t=>termB t (t.args.all (termR d))
theorem bareV_eq {v:GV} (h:bareV v=true):v=nil0:=by
 obtain ⟨k,n,t,l⟩:=v
 have:=of_decide_eq_true h
 obtain ⟨h1,h2,h3,h4⟩:=this
 have h4:=List.length_eq_zero_iff.1 h4
 show GV.mk k n t l=nil0
 have e1:k=0:=h1
 have e2:n=0:=h2
 have e3:t=⟨#[]⟩:=h3
 have e4:l=[]:=h4
 rw [e1,e2,e3,e4]
theorem term_cases {d:Nat} {t:GT} (h:termR d t=true):0<d∧((∃ n,t=.mk 1 n nil0 []∧varOK n=true)∨(∃ v,t=.mk 2 ⟨#[]⟩ v []∧rightT v=true∧(v.kind≠3∨arityOf v.text<0))
  ∨ (∃ n l,t=.mk 3 n nil0 l∧arityOf n=(l.length:Int)∧∀ x∈l,termR (d - 1) x=true)∨(∃ n l,t=.mk 4 n nil0 l∧opOK n=true∧l.length=2∧∀ x∈l,termR (d - 1) x=true)):=by
 obtain ⟨k,n,v,l⟩:=t
 cases d with
 | zero=>cases h
 | succ d=>
  refine ⟨by omega,?_⟩
  simp only [termR,termB,GT.kind,GT.name,GT.value,GT.args] at h
  split at h
  ·rename_i hk; subst hk
   simp only [zqL,decide_eq_true_eq] at h
   rw [bareV_eq h.1.1,List.length_eq_zero_iff.1 h.1.2]
   exact .inl ⟨n,rfl,h.2⟩
  split at h
  ·rename_i hk; subst hk
   simp only [zqL,Bool.or_eq_true,decide_eq_true_eq] at h
   rw [List.length_eq_zero_iff.1 h.1.1.2,h.1.2]
   exact .inr (.inl ⟨v,rfl,h.1.1.1,h.2⟩)
  split at h
  ·rename_i hk; subst hk
   simp only [zqL,decide_eq_true_eq,zqQ] at h
   rw [bareV_eq h.1.1]
   exact .inr (.inr (.inl ⟨n,l,rfl,h.1.2,fun x hx=>h.2 x hx⟩))
  split at h
  ·rename_i hk; subst hk
   simp only [zqL,decide_eq_true_eq,zqQ] at h
   rw [bareV_eq h.1.1.1]
   exact .inr (.inr (.inr ⟨n,l,rfl,h.1.2,h.1.1.2,fun x hx=>h.2 x hx⟩))
  ·cases h
mutual
def shT:GT→List UInt8
 | .mk k n v l=>if k=1 then n.data.toList else if k=2 then pr v else if k=3 then n.data.toList++40 :: (shTs [44] l++[41]) else 40 :: (shTs n.data.toList l++[41])
def shTs (sep:List UInt8):List GT→List UInt8
 | []=>[]
 | x :: l=>shT x++shTc sep l
def shTc (sep:List UInt8):List GT→List UInt8
 | []=>[]
 | x :: l=>sep++(shT x++shTc sep l)
end
def varC (c:UInt8):Bool:=upB c.toNat || innerB c.toNat
theorem op_char {n:ByteArray} (h:opOK n=true):∃ c,n.data.toList=[c]∧varC c=false∧c≠41:=by
 rcases of_decide_eq_true h with rfl | rfl | rfl
 ·exact ⟨43,rfl,by decide,by decide⟩
 ·exact ⟨45,rfl,by decide,by decide⟩
 ·exact ⟨42,rfl,by decide,by decide⟩
open Go.Mach
def headOK (l:List GT):Bool:=match l with
 | t :: _=>decide (t.kind=1) || (decide (t.kind=2) && decide (t.value.kind=3))
 | []=>false
def argsB (l:List GT):Bool:=decide (1≤l.length∧l.length≤8) && l.all (termR 8) && headOK l
def tOK (n:ByteArray):Bool:=decide (n=⟨#[61,61]⟩∨n=⟨#[33,61]⟩∨n=⟨#[60]⟩∨n=⟨#[60,61]⟩∨n=⟨#[62]⟩∨n=⟨#[62,61]⟩)
def litB (l:GL):Bool:=
 if l.kind=1∨l.kind=2 then relOK l.name && argsB l.args
 else if l.kind=3 then tOK l.name && decide (l.args.length=2) && l.args.all (termR 8)
 else if l.kind=4 then varOK l.name && decide (l.args.length=1) && l.args.all (termR 8)
 else false
abbrev sMin:ByteArray:=⟨#[109,105,110]⟩
abbrev sMax:ByteArray:=⟨#[109,97,120]⟩
abbrev sCount:ByteArray:=⟨#[99,111,117,110,116]⟩
def aggB (r:GR):Bool:=
 if r.agg=⟨#[]⟩ then decide (r.pos=0)
 else decide (r.agg=sMin∨r.agg=sMax∨r.agg=sCount) && decide (1≤r.pos∧r.pos<r.args.length) && decide (((r.args[r.pos.toNat]?).map (·.kind))=some 1)
def ruleB (r:GR):Bool:=relOK r.label && relOK r.head && argsB r.args && decide (1≤r.body.length∧r.body.length≤8) && r.body.all litB && aggB r
def tupB (t:GU):Bool:=relOK t.name && decide (1≤t.args.length∧t.args.length≤8) && (match t.args with | v :: _=>decide (v.kind=3) | []=>false) && t.args.all rightT
def declB (d:GD):Bool:=relOK d.name && decide (1≤d.arity∧d.arity≤8)
def progB (p:GP):Bool:=decide (p.decls.length≤64∧p.facts.length≤64∧p.rules.length≤64) && p.facts.all tupB && p.rules.all ruleB && p.decls.all declB
def shAt (agg:List UInt8) (at':Int) (i:Nat) (t:GT):List UInt8:=if agg≠[]∧(i:Int)=at' then agg++60 :: (t.name.data.toList++[62]) else shT t
def shAtC (agg:List UInt8) (at':Int):Nat→List GT→List UInt8
 | _,[]=>[]
 | i,x :: l=>44 :: (shAt agg at' i x++shAtC agg at' (i+1) l)
def shAtS (agg:List UInt8) (at':Int):Nat→List GT→List UInt8
 | _,[]=>[]
 | i,x :: l=>shAt agg at' i x++shAtC agg at' (i+1) l
def shAtom (name:List UInt8) (l:List GT) (agg:List UInt8) (at':Int):List UInt8:=name++40 :: 64 :: (shAtS agg at' 0 l++[41])
def shLit (l:GL):List UInt8:=
 if l.kind=3 then shTs (32 :: (l.name.data.toList++[32])) l.args
 else if l.kind=4 then l.name.data.toList++32 :: 58 :: 61 :: 32 :: (match l.args with | t :: _=>shT t | []=>[])
 else if l.kind=2 then 33 :: shAtom l.name.data.toList l.args [] 0
 else shAtom l.name.data.toList l.args [] 0
def shLitC:List GL→List UInt8
 | []=>[]
 | x :: l=>44 :: 32 :: (shLit x++shLitC l)
def shLitS:List GL→List UInt8
 | []=>[]
 | x :: l=>shLit x++shLitC l
def shRule (r:GR):List UInt8:=r.label.data.toList++32 :: (shAtom r.head.data.toList r.args r.agg.data.toList r.pos++32 :: 58 :: 45 :: 32 :: (shLitS r.body++[46]))
theorem rel_name {s:ByteArray} (h:relOK s=true):nameOK s=true∧arityOf s<0∧s≠sMat:=by
 simpa [relOK,and_assoc] using h
def aggL (a:List UInt8):Prop:=a=[]∨a=sMin.data.toList∨a=sMax.data.toList∨a=sCount.data.toList
def atVar (agg:List UInt8) (at':Int) (i:Nat) (t:GT):Prop:=agg≠[]∧(i:Int)=at'→t.kind=1
def atVars (agg:List UInt8) (at':Int):Nat→List GT→Prop
 | _,[]=>True
 | i,x :: l=>atVar agg at' i x∧atVars agg at' (i+1) l
theorem atVars_nil (p:Int):∀ (i:Nat) (l:List GT),atVars [] p i l
 | _,[]=>trivial
 | i,x :: l=>⟨fun h=>absurd rfl h.1,atVars_nil p (i+1) l⟩
open Go.Mach
theorem args_all {l:List GT} (h:argsB l=true):∀ x∈l,termR 8 x=true:=by
 simp only [argsB,zqL,zqQ] at h; exact h.1.2
theorem lit_cases {l:GL} (h:litB l=true):((l.kind=1∨l.kind=2)∧relOK l.name=true∧argsB l.args=true)∨(l.kind=3∧tOK l.name=true∧∃ x y,l.args=[x,y]∧termR 8 x=true∧termR 8 y=true)∨(l.kind=4∧varOK l.name=true∧∃ x,l.args=[x]∧termR 8 x=true):=by
 unfold litB at h
 split at h
 ·rename_i hk
  rw [zqL] at h
  exact .inl ⟨hk,h.1,h.2⟩
 split at h
 ·rename_i hk
  simp only [zqL,decide_eq_true_eq,zqQ] at h
  match hl:l.args,h.1.2,h.2 with
  | [x,y],_,h2=>exact .inr (.inl ⟨hk,h.1.1,x,y,rfl,h2 x (by simp),h2 y (by simp)⟩)
 split at h
 ·rename_i hk
  simp only [zqL,decide_eq_true_eq,zqQ] at h
  match hl:l.args,h.1.2,h.2 with
  | [x],_,h2=>exact .inr (.inr ⟨hk,h.1.1,x,rfl,h2 x (by simp)⟩)
 ·cases h
theorem gl_ext {a b:GL} (h1:a.kind=b.kind) (h2:a.name=b.name) (h3:a.args=b.args):a=b:=by
 cases a; cases b; simp_all
theorem sh1 {l:GL} (h:l.kind=1):shLit l=shAtom l.name.data.toList l.args [] 0:=by simp [shLit,h]
theorem sh2 {l:GL} (h:l.kind=2):shLit l=33 :: shAtom l.name.data.toList l.args [] 0:=by simp [shLit,h]
theorem sh3 {l:GL} {x y:GT} (h:l.kind=3) (e:l.args=[x,y]):shLit l=shT x++32 :: (l.name.data.toList++32 :: shT y):=by simp [shLit,h,e,shTs,shTc]
theorem sh4 {l:GL} {x:GT} (h:l.kind=4) (e:l.args=[x]):shLit l=l.name.data.toList++32 :: 58 :: 61 :: 32 :: shT x:=by simp [shLit,h,e]
theorem atVars_of {agg:List UInt8} {p:Int}:∀ (i:Nat) (l:List GT),(∀ j:Nat,(hj:j<l.length)→agg≠[]→((i+j:Nat):Int)=p→(l[j]).kind=1)→atVars agg p i l
 | _,[],_=>trivial
 | i,x :: l,h=>⟨fun hc=>h 0 (by simp) hc.1 (by simpa using hc.2),atVars_of (i+1) l fun j hj h1 h2=>by
   have:=h (j+1) (by simpa using hj) h1 (by rw [←h2]; congr 1; omega)
   simpa using this⟩
theorem ba_list_nil {t:ByteArray}:t.data.toList=[]↔t=⟨#[]⟩:=⟨fun h=>bytes_ext (by rw [h]),fun h=>by rw [h]⟩
theorem agg_L {r:GR} (h:aggB r=true):aggL r.agg.data.toList∧atVars r.agg.data.toList r.pos 0 r.args∧(r.agg=⟨#[]⟩→r.pos=0)∧(r.agg≠⟨#[]⟩→1≤r.pos∧r.pos<r.args.length):=by
 unfold aggB at h
 split at h
 ·rename_i e
  exact ⟨.inl (by rw [e]),by rw [e]; exact atVars_nil ..,fun _=>of_decide_eq_true h,fun h=>absurd e h⟩
 ·rename_i e
  simp only [zqL,decide_eq_true_eq] at h
  refine ⟨?_,?_,fun h=>absurd h e,fun _=>h.1.2⟩
  ·rcases h.1.1 with e | e | e
   ·exact .inr (.inl (by rw [e]))
   ·exact .inr (.inr (.inl (by rw [e])))
   ·exact .inr (.inr (.inr (by rw [e])))
  ·refine atVars_of 0 _ fun j hj _ hp=>?_
   have h2:=h.2
   have:r.pos.toNat=j:=by omega
   rw [this,zqF hj] at h2
   simpa using h2
theorem gr_ext {a b:GR} (h1:a.label=b.label) (h2:a.head=b.head) (h3:a.args=b.args) (h4:a.agg=b.agg) (h5:a.pos=b.pos) (h6:a.body=b.body):a=b:=by
 cases a; cases b; simp_all
theorem gu_ext {a b:GU} (h1:a.name=b.name) (h2:a.args=b.args):a=b:=by cases a; cases b; simp_all
theorem gd_ext {a b:GD} (h1:a.name=b.name) (h2:a.arity=b.arity):a=b:=by cases a; cases b; simp_all
inductive Ln where
 | d (x:GD) | u (x:GU) | r (x:GR)
def Ln.ok:Ln→Bool
 | .d x=>declB x | .u x=>tupB x | .r x=>ruleB x
theorem gp_ext {a b:GP} (h1:a.decls=b.decls) (h2:a.facts=b.facts) (h3:a.rules=b.rules):a=b:=by cases a; cases b; simp_all
def Ln.D:Ln→Option GD | .d x=>some x | _=>none
def Ln.R:Ln→Option GR | .r x=>some x | _=>none
open Go.Mach
def varG (s:ByteArray) (i:Nat):Bool:=upB (bt s i) || (decide (i≠0) && innerB (bt s i))
theorem varG_iff (s:ByteArray) (i:Nat):varG s i=true↔(65≤bt s i∧bt s i≤90)∨(i≠0∧((97≤bt s i∧bt s i≤122)∨bt s i=95∨(48≤bt s i∧bt s i≤57))):=by
 simp only [varG,upB,innerB,letterB,Bool.or_eq_true,zqL,decide_eq_true_eq]; omega
theorem varOK_iff (t:ByteArray):varOK t=true↔(∀ i,i<t.size→varG t i=true)∧t.size≠0∧t.size≤16:=by
 have hs:t.data.toList.length=t.size:=by simp
 simp only [varOK,zqL,decide_eq_true_eq]
 match hl:t.data.toList with
 | []=>
  rw [hl] at hs; simp at hs
  simp only [varL,Bool.false_eq_true,false_and,false_iff]; omega
 | c :: l=>
  rw [hl] at hs; simp at hs
  have hb:∀ i,bt t i=(((c :: l)[i]?).getD 0).toNat:=fun i=>by simp only [bt,hl]
  simp only [varL,zqL,zqQ]
  constructor
  ·rintro ⟨⟨h1,h2⟩,h3⟩
   refine ⟨fun i hi=>?_,by omega,h3⟩
   unfold varG
   cases i with
   | zero=>simp [hb,h1]
   | succ i=>
    have hi':i<l.length:=by omega
    have:=h2 l[i] (zqT hi')
    simpa [hb,zqF hi'] using this
  ·rintro ⟨h1,h2,h3⟩
   refine ⟨⟨?_,fun x hx=>?_⟩,h3⟩
   ·have:=h1 0 (by omega)
    simpa [varG,hb] using this
   ·obtain ⟨i,hi,rfl⟩:=zqS hx
    have:=h1 (i+1) (by omega)
    simpa [varG,hb,zqF hi] using this
theorem varOK_no {t:ByteArray} {i:Nat} (h:i<t.size) (hp:¬ ((65≤bt t i∧bt t i≤90)∨(i≠0∧((97≤bt t i∧bt t i≤122)∨bt t i=95∨(48≤bt t i∧bt t i≤57))))):varOK t=false:=by
 rw [←varG_iff] at hp
 rw [Bool.eq_false_iff,Ne,varOK_iff]; intro hh; exact hp (hh.1 i h)
theorem var_ok (t:ByteArray) (ht:t.size≤100000000000):pureT T c116 [.str t]=some (.bool (varOK t)):=by
 apply pure_enter (by simp [c116])
 simp [c116]
 refine W_for T 0 52 t.size (fun i f σ=>f 0=.str t∧f 7=.ptr 0 0∧σ=[.iter t i]∧∀ j,j<i→varG t j=true) ?_ _ _ ?_
 ·rintro i f σ hi ⟨h0,h6,rfl,hall⟩
  by_cases hlt:i<t.size
  ·have hno:=@varOK_no t i hlt
   have hyes:_→∀ j,j<i+1→varG t j=true:=fun h j hj=>by
    by_cases e:j=i
    ·subst e; exact (varG_iff t j).2 h
    ·exact hall j (by omega)
   by_cases hlo:bt t i<128
   ·simp [h0,h6,hlt,dec_lo hlt hlo]
    repeat' (first | apply And.intro | intro _)
    all_goals first | exact hno (by omega) | exact hyes (by omega) _ (by assumption)
   ·have:=dec_hi hlt (by omega)
    simp [h0,h6,hlt]
    repeat' (first | apply And.intro | intro _)
    all_goals first | exact hno (by omega) | omega
  ·have he:i=t.size:=by omega
   subst he
   have hb:(varOK t=true)↔t.size≠0∧t.size≤16:=by rw [varOK_iff]; exact ⟨fun h=>h.2,fun h=>⟨fun i hi=>hall i hi,h⟩⟩
   simp [h0,h6,ba_empty,ba_nil,-ByteArray.size_eq_zero_iff]
   refine ⟨fun h=>⟨fun h2=>hb.2 ⟨h,by omega⟩,fun h2=>?_⟩,fun h=>?_⟩
   all_goals (refine Bool.eq_false_iff.2 fun hh=>?_; have:=hb.1 hh; omega)
 ·simp
theorem callVar (t:ByteArray) (ht:t.size≤100000000000) (bs:Nat) (σ:Heap):callT T 116 [.str t] bs σ=some (.bool (sym (varOK t)),σ):=call_clean rfl rfl rfl rfl (var_ok t ht)
theorem rel_ok (t:ByteArray) (ht:t.size≤100000000000):pureT T c56 [.str t]=some (.bool (relOK t)):=by
 have h1:=name_call t ht
 have h2:=bArity t
 apply pure_enter (by simp [c56])
 unfold relOK sMat
 generalize nameOK t=b at *
 cases b
 ·simp [c56,h1,h2]
 ·by_cases h3:arityOf t<0
  ·by_cases h4:t=⟨#[109,97,116,101,114,105,97,108,105,122,101]⟩
   ·simp [c56,h1,h2,h3,←h4]
   ·simp [c56,h1,h2,h3,h4]
  ·simp [c56,h1,h2,h3]
theorem callRel (t:ByteArray) (ht:t.size≤100000000000) (bs:Nat) (σ:Heap):callT T 56 [.str t] bs σ=some (.bool (sym (relOK t)),σ):=call_clean rfl rfl rfl rfl (rel_ok t ht)
theorem pterm_ok:∀ (d:Nat) (t:GT),d≤100→t.size≤100000000000→pureT T c136 [t.enc,.int .i64 (d:Int)]=some (.bool (termR d t)):=by
 intro d
 induction d with
 | zero=>
  intro t hd hs
  obtain ⟨k,n,⟨vk,vn,vt,vl⟩,l⟩:=t
  simp only [GT.size,GV.size] at hs
  have hvar:=callVar n (by omega)
  have hval:=valRight (.mk vk vn vt vl) (by simp only [GV.size]; omega)
  have har1:=bArity vt
  have har2:=bArity n
  apply pure_enter (by simp [c136])
  by_cases h1:k=1
  ·subst h1
   simp [c136,GT.enc_eq,GT.kind,GT.name,GT.value,GT.args,GV.kind,GV.num,GV.text,GV.items,hvar,hval,har1,har2,enc_mk,setRun,termR,termB,bareV,opOK]
   repeat' (first | apply And.intro | intro _)
   all_goals first | (simp_all; done) | grind
  by_cases h2:k=2
  ·subst h2
   simp [c136,GT.enc_eq,GT.kind,GT.name,GT.value,GT.args,GV.kind,GV.num,GV.text,GV.items,hvar,hval,har1,har2,enc_mk,setRun,termR,termB,bareV,opOK]
   repeat' (first | apply And.intro | intro _)
   all_goals first | (simp_all; done) | grind
  by_cases h3:k=3
  ·subst h3
   simp [c136,GT.enc_eq,GT.kind,GT.name,GT.value,GT.args,GV.kind,GV.num,GV.text,GV.items,hvar,hval,har1,har2,enc_mk,setRun,termR,termB,bareV,opOK]
   repeat' (first | apply And.intro | intro _)
   all_goals first | (simp_all; done) | grind
  by_cases h4:k=4
  ·subst h4
   simp [c136,GT.enc_eq,GT.kind,GT.name,GT.value,GT.args,GV.kind,GV.num,GV.text,GV.items,hvar,hval,har1,har2,enc_mk,setRun,termR,termB,bareV,opOK]
   repeat' (first | apply And.intro | intro _)
   all_goals first | (simp_all; done) | grind
  simp [c136,GT.enc_eq,GT.kind,GT.name,GT.value,GT.args,GV.kind,GV.num,GV.text,GV.items,hvar,hval,har1,har2,enc_mk,setRun,termR,termB,bareV,opOK,h1,h2,h3,h4]
 | succ d ih=>
  intro t hd hs
  obtain ⟨k,n,⟨vk,vn,vt,vl⟩,l⟩:=t
  simp only [GT.size,GV.size] at hs
  have hlen:=GT.len_sizes l
  have hw:IntKind.i64.wrap (d:Int)=(d:Int):=wr64 (by omega) (by omega)
  have hall:∀ bs A C,callT T 113 [.isl (GT.encs l) false,.func 151 [.ptr 1 0]] bs [A,.cells [.int .i64 ((d:Int)+1)] 0 false,C]=some (.bool (sym (l.all (termR d))),[A,.cells [.int .i64 ((d:Int)+1)] 0 false,C]):=fun bs A C=>
   allTerm (termR d) l 151 [.ptr 1 0] (by omega) _ (fun x hx τ bs=>by
    have hr:∀ bs σ,callT T 136 [x.enc,.int .i64 d] bs σ=some (.bool (termR d x),σ):=fun bs σ=>call_clean rfl rfl rfl (by simp) (ih x (by omega) (by have:=(GT.sizes_mem hx).1; omega))
    refine heap_enter (af:=c151) (args':=[x.enc,.ptr 1 0]) rfl rfl (by simp [c151]) (by simp [c151]) rfl ?_
    simp [c151,baseA,hr,hw,←GT.enc_eq,setRun,dropA_gc,refLt,res1,refLt2_bool]) bs
  have hvar:=callVar n (by omega)
  have hval:=valRight (.mk vk vn vt vl) (by simp only [GV.size]; omega)
  have har1:=bArity vt
  have har2:=bArity n
  apply pure_enter (by simp [c136])
  by_cases h1:k=1
  ·subst h1
   simp [c136,GT.enc_eq,GT.kind,GT.name,GT.value,GT.args,GV.kind,GV.num,GV.text,GV.items,hvar,hval,har1,har2,enc_mk,setRun,termR,termB,bareV,opOK,hall]
   repeat' (first | apply And.intro | intro _)
   all_goals first | (simp_all; done) | grind
  by_cases h2:k=2
  ·subst h2
   simp [c136,GT.enc_eq,GT.kind,GT.name,GT.value,GT.args,GV.kind,GV.num,GV.text,GV.items,hvar,hval,har1,har2,enc_mk,setRun,termR,termB,bareV,opOK,hall]
   repeat' (first | apply And.intro | intro _)
   all_goals first | (simp_all; done) | grind
  by_cases h3:k=3
  ·subst h3
   simp [c136,GT.enc_eq,GT.kind,GT.name,GT.value,GT.args,GV.kind,GV.num,GV.text,GV.items,hvar,hval,har1,har2,enc_mk,setRun,termR,termB,bareV,opOK,hall]
   repeat' (first | apply And.intro | intro _)
   all_goals first | (simp_all; done) | grind
  by_cases h4:k=4
  ·subst h4
   simp [c136,GT.enc_eq,GT.kind,GT.name,GT.value,GT.args,GV.kind,GV.num,GV.text,GV.items,hvar,hval,har1,har2,enc_mk,setRun,termR,termB,bareV,opOK,hall]
   repeat' (first | apply And.intro | intro _)
   all_goals first | (simp_all; done) | grind
  simp [c136,GT.enc_eq,GT.kind,GT.name,GT.value,GT.args,GV.kind,GV.num,GV.text,GV.items,hvar,hval,har1,har2,enc_mk,setRun,termR,termB,bareV,opOK,h1,h2,h3,h4]
open Go.Mach
theorem idxS_ok (l:List ByteArray) (s:ByteArray) (hl:l.length≤100000000000) :
  pureT T c108 [.isl (l.map .str) false,.str s]=some (.int .i64 (idxG (fun x=>decide (s=x)) l)):=by
 apply pure_enter (by simp [c108])
 simp [c108]
 refine W_for T 0 19 l.length (fun i f σ=>f 0=.isl (l.map .str) false∧f 1=.str s∧f 7=.int .i64 (l.length:Int)∧f 8=.int .i64 (i:Int)∧∀ j,(hj:j<l.length)→j<i→decide (s=l[j])=false) ?_ _ _ ?_
 ·rintro i f σ hi ⟨h0,h1,h7,h8,hall⟩
  by_cases hlt:i<l.length
  ·have e1:l[i]?=some l[i]:=zqF hlt
   by_cases hp:s=l[i]
   ·simp [h0,h1,h7,h8,hlt,←hp]
    simp [idxG,idxG_drop (fun x=>decide (s=x)) l i hlt hall (by simp [←hp])]
   ·simp [h0,h1,h7,h8,hlt,hp]
    refine ⟨wr64 (by omega) (by omega),fun j hj hji=>?_⟩
    by_cases e:j=i
    ·subst e; exact hp
    ·simpa using hall j hj (by omega)
  ·have he:i=l.length:=by omega
   subst he
   have hn:l.findIdx? (fun x=>decide (s=x))=none:=by
    rw [List.findIdx?_eq_none_iff]
    intro x hx
    obtain ⟨j,hj,rfl⟩:=zqS hx
    exact hall j hj hj
   simp [h0,h1,h7,h8,idxG,hn]
 ·simp
theorem conS_ok (l:List ByteArray) (s:ByteArray) (hl:l.length≤100000000000) :
  pureT T c73 [.isl (l.map .str) false,.str s]=some (.bool (l.any (fun x=>decide (s=x)))):=by
 have h1:∀ bs σ,callT T 108 [.isl (l.map .str) false,.str s] bs σ=some (.int .i64 (idxG (fun x=>decide (s=x)) l),σ):=fun bs σ=>call_clean rfl rfl rfl (by simp) (idxS_ok l s hl)
 have h2:=idxG_any (fun x=>decide (s=x)) l
 apply pure_enter (by simp [c73])
 simp [c73,h1]
 refine ⟨fun h=>by simpa using h2.1 h,fun h x hx e=>?_⟩
 have:=h2.2 (by simp; exact e ▸ hx)
 omega
def six:List ByteArray:=[⟨#[61,61]⟩,⟨#[33,61]⟩,⟨#[60]⟩,⟨#[60,61]⟩,⟨#[62]⟩,⟨#[62,61]⟩]
theorem six_any (s:ByteArray):six.any (fun x=>decide (s=x))=tOK s:=by
 rw [Bool.eq_iff_iff]; simp [six,tOK]
theorem conSix (s:ByteArray) (o:AObj) (bs:Nat):callT T 73 [.sl 1 0 6 1 false,.str s] bs [o,.cells [.str ⟨#[61,61]⟩,.str ⟨#[33,61]⟩,.str ⟨#[60]⟩,.str ⟨#[60,61]⟩,.str ⟨#[62]⟩,.str ⟨#[62,61]⟩] 0 false] =
  some (.bool (sym (tOK s)),[o,.cells [.str ⟨#[61,61]⟩,.str ⟨#[33,61]⟩,.str ⟨#[60]⟩,.str ⟨#[60,61]⟩,.str ⟨#[62]⟩,.str ⟨#[62,61]⟩] 0 false]):=by
 have h:=conS_ok six s (by decide)
 rw [six_any] at h
 exact call_scal rfl rfl rfl h rfl (by simp) rfl
theorem fine_ok (t:GT) (hs:t.size≤100000000000):pureT T c114 [t.enc]=some (.bool (termR 8 t)):=by
 have h:∀ bs σ,callT T 136 [t.enc,.int .i64 8] bs σ=some (.bool (sym (termR 8 t)),σ):=fun bs σ=>call_clean rfl rfl rfl (by simp) (pterm_ok 8 t (by omega) hs)
 apply pure_enter (by simp [c114])
 simp [c114,h,←GT.enc_eq]
theorem callFine (t:GT) (hs:t.size≤100000000000) (bs:Nat) (σ:Heap):callT T 114 [t.enc] bs σ=some (.bool (sym (termR 8 t)),σ):=call_clean rfl rfl rfl (by simp) (fine_ok t hs)
theorem allFine (l:List GT) (hs:GT.sizes l≤10000000000) (bs:Nat) (σ:Heap):callT T 113 [.isl (GT.encs l) false,.func 114 []] bs σ=some (.bool (sym (l.all (termR 8))),σ):=
 allTerm (termR 8) l 114 [] (by have:=GT.len_sizes l; omega) σ (fun x hx τ bs=>callFine x (by have:=(GT.sizes_mem hx).1; omega) bs _) bs
theorem pargs_ok (l:List GT) (hs:GT.sizes l≤10000000000):pureT T c81 [.isl (GT.encs l) false]=some (.bool (argsB l)):=by
 have hall:=allFine l hs
 have hlen:=GT.len_sizes l
 apply pure_enter (by simp [c81])
 unfold argsB headOK
 generalize l.all (termR 8)=b at *
 match l with
 | []=>simp [c81]
 | x :: l=>
  simp only [zqU] at *
  by_cases h8:l.length+1≤8
  ·have h8':¬ (8<(l.length:Int)+1):=by omega
   have h1':¬ ((l.length:Int)+1<1):=by omega
   cases b
   ·simp [c81,hall,h8,h8',h1']
   ·simp [c81,hall,h8,h8',h1']
    repeat' (first | apply And.intro | intro _)
    all_goals first | (simp_all; done) | grind
  ·have h8':8<(l.length:Int)+1:=by omega
   have h1':¬ ((l.length:Int)+1<1):=by omega
   simp [c81,hall,h8,h8',h1']
theorem callArgs (l:List GT) (hs:GT.sizes l≤10000000000) (bs:Nat) (σ:Heap):callT T 81 [.isl (GT.encs l) false] bs σ=some (.bool (sym (argsB l)),σ):=call_clean rfl rfl rfl (by simp) (pargs_ok l hs)
theorem plit_ok (x:GL) (hs:x.size≤10000000000):pureT T c83 [x.enc]=some (.bool (litB x)):=by
 have h1:=x.name_le
 have h2:=x.args_le
 obtain ⟨k,n,l⟩:=x
 simp only at h1 h2
 have hrel:=callRel n (by omega)
 have hvar:=callVar n (by omega)
 have hargs:=callArgs l (by omega)
 have hall:=allFine l (by omega)
 have hcon:=conSix n
 apply pure_enter (by simp [c83])
 unfold litB
 by_cases k1:k=1
 ·subst k1
  simp [c83,GL.enc_eq,hrel,hargs]
  cases relOK n <;> simp
 by_cases k2:k=2
 ·subst k2
  simp [c83,GL.enc_eq,hrel,hargs]
  cases relOK n <;> simp
 by_cases k3:k=3
 ·subst k3
  generalize l.all (termR 8)=b at *
  simp [c83,GL.enc_eq,hcon,hall]
  repeat' (first | apply And.intro | intro _)
  all_goals first | (simp_all; done) | omega | grind
 by_cases k4:k=4
 ·subst k4
  generalize l.all (termR 8)=b at *
  simp [c83,GL.enc_eq,hvar,hall]
  repeat' (first | apply And.intro | intro _)
  all_goals first | (simp_all; done) | omega | grind
 simp [c83,GL.enc_eq,k1,k2,k3,k4]
theorem callPLit (x:GL) (hs:x.size≤10000000000) (bs:Nat) (σ:Heap):callT T 83 [x.enc] bs σ=some (.bool (sym (litB x)),σ):=call_clean rfl rfl rfl (by simp) (plit_ok x hs)
theorem ptup_ok (x:GU) (hs:x.size≤10000000000):pureT T c51 [x.enc]=some (.bool (tupB x)):=by
 have h1:=x.name_le
 have h2:=x.args_le
 obtain ⟨n,l⟩:=x
 simp only at h1 h2
 have hrel:=callRel n (by omega)
 have hlen:=len_sizes l
 have hall:∀ bs σ,callT T 77 [.isl (GV.encs l) false,.func 78 []] bs σ=some (.bool (sym (l.all rightT)),σ):=fun bs σ=>
  allValue rightT l 78 [] (by omega) σ (fun x hx τ bs=>valRight x (by have:=(sizes_mem hx).1; omega) bs _) bs
 apply pure_enter (by simp [c51])
 unfold tupB
 generalize l.all rightT=b at *
 match l with
 | []=>
  simp [c51,GU.enc_eq,hrel]
 | x :: l=>
  simp only [zqU] at *
  simp [c51,GU.enc_eq,hrel,hall]
  repeat' (first | apply And.intro | intro _)
  all_goals first | (simp_all; done) | omega | grind
theorem callPTup (x:GU) (hs:x.size≤10000000000) (bs:Nat) (σ:Heap):callT T 51 [x.enc] bs σ=some (.bool (sym (tupB x)),σ):=call_clean rfl rfl rfl (by simp) (ptup_ok x hs)
theorem pdecl_ok (x:GD) (hs:x.size≤10000000000):pureT T c55 [x.enc]=some (.bool (declB x)):=by
 have h1:=x.name_le
 obtain ⟨n,l⟩:=x
 simp only at h1
 have hrel:=callRel n (by omega)
 apply pure_enter (by simp [c55])
 unfold declB
 simp [c55,GD.enc_eq,hrel]
 repeat' (first | apply And.intro | intro _)
 all_goals first | (simp_all; done) | omega | grind
theorem callPDecl (x:GD) (hs:x.size≤10000000000) (bs:Nat) (σ:Heap):callT T 55 [x.enc] bs σ=some (.bool (sym (declB x)),σ):=call_clean rfl rfl rfl (by simp) (pdecl_ok x hs)
open Go.Mach
theorem prule_ok (x:GR) (hs:x.size≤10000000000):pureT T c53 [x.enc]=some (.bool (ruleB x)):=by
 have h1:=x.label_le
 have h2:=x.head_le
 have h3:=x.args_le
 have h4:=x.agg_le
 have h5:=x.body_len
 have h6:=fun y hy=>x.body_mem (y:=y) hy
 obtain ⟨lab,hd,l,agg,at',body⟩:=x
 simp only at h1 h2 h3 h4 h5 h6
 have hlen:=GT.len_sizes l
 have hr1:=callRel lab (by omega)
 have hr2:=callRel hd (by omega)
 have hargs:=callArgs l (by omega)
 have hall:∀ bs σ,callT T 82 [.isl (body.map GL.enc) false,.func 83 []] bs σ=some (.bool (sym (body.all litB)),σ):=fun bs σ=>
  allLiteral litB body 83 [] (by omega) σ (fun y hy τ bs=>callPLit y (by have:=h6 y hy; omega) bs _) bs
 apply pure_enter (by simp [c53])
 unfold ruleB
 simp only
 generalize body.all litB=b at *
 generalize relOK lab=b1 at *
 generalize relOK hd=b2 at *
 generalize argsB l=b3 at *
 cases b1
 ·simp [c53,GR.enc_eq,hr1]
 cases b2
 ·simp [c53,GR.enc_eq,hr1,hr2]
 cases b3
 ·simp [c53,GR.enc_eq,hr1,hr2,hargs]
 by_cases c1:body.length<1
 ·have c1':(body.length:Int)<1:=by omega
  simp [c53,GR.enc_eq,hr1,hr2,hargs,c1']
  omega
 by_cases c2:8<body.length
 ·have c1':¬ (body.length:Int)<1:=by omega
  have c2':8<(body.length:Int):=by omega
  simp [c53,GR.enc_eq,hr1,hr2,hargs,c1',c2']
  omega
 have c1':¬ (body.length:Int)<1:=by omega
 have c2':¬ 8<(body.length:Int):=by omega
 cases b
 ·simp [c53,GR.enc_eq,hr1,hr2,hargs,c1',c2',hall]
 have c3:1≤body.length∧body.length≤8:=by omega
 unfold aggB
 simp only [c3,and_self,decide_true,Bool.and_true,Bool.true_and]
 by_cases g0:agg=⟨#[]⟩
 ·subst g0
  simp [c53,GR.enc_eq,hr1,hr2,hargs,c1',c2',hall]
  done
 rw [if_neg g0]
 by_cases g1:agg=sMin∨agg=sMax∨agg=sCount
 ·have hat:∀ h:1≤at'∧at'<l.length,at'.toNat<l.length:=fun h=>by omega
  by_cases g2:1≤at'∧at'<(l.length:Int)
  ·obtain ⟨t,ht⟩:∃ t,l[at'.toNat]?=some t:=⟨_,zqF (hat g2)⟩
   have g3:0≤at':=by omega
   rcases g1 with rfl | rfl | rfl
   all_goals
    simp [c53,GR.enc_eq,hr1,hr2,hargs,c1',c2',hall,g2,g3,ht]
  ·rcases g1 with rfl | rfl | rfl
   all_goals
    simp [c53,GR.enc_eq,hr1,hr2,hargs,c1',c2',hall,g2]
    try grind
 ·have g1':=not_or.1 g1
  have g2':=not_or.1 g1'.2
  simp [c53,GR.enc_eq,hr1,hr2,hargs,c1',c2',hall,g0,g1'.1,g2'.1,g2'.2]
theorem callPRule (x:GR) (hs:x.size≤10000000000) (bs:Nat) (σ:Heap):callT T 53 [x.enc] bs σ=some (.bool (sym (ruleB x)),σ):=call_clean rfl rfl rfl (by simp) (prule_ok x hs)
theorem pright_ok (x:GP) (hs:x.size≤10000000000):pureT T c34 [x.enc]=some (.bool (progB x)):=by
 have h1:=x.decls_len
 have h2:=x.facts_len
 have h3:=x.rules_len
 have m1:=fun y hy=>x.decls_mem (y:=y) hy
 have m2:=fun y hy=>x.facts_mem (y:=y) hy
 have m3:=fun y hy=>x.rules_mem (y:=y) hy
 obtain ⟨ds,us,rs⟩:=x
 simp only at h1 h2 h3 m1 m2 m3
 have a1:∀ bs σ,callT T 54 [.isl (ds.map GD.enc) false,.func 55 []] bs σ=some (.bool (sym (ds.all declB)),σ):=fun bs σ=>
  allDecl declB ds 55 [] (by omega) σ (fun y hy τ bs=>callPDecl y (by have:=m1 y hy; omega) bs _) bs
 have a2:∀ bs σ,callT T 50 [.isl (us.map GU.enc) false,.func 51 []] bs σ=some (.bool (sym (us.all tupB)),σ):=fun bs σ=>
  allTuple tupB us 51 [] (by omega) σ (fun y hy τ bs=>callPTup y (by have:=m2 y hy; omega) bs _) bs
 have a3:∀ bs σ,callT T 52 [.isl (rs.map GR.enc) false,.func 53 []] bs σ=some (.bool (sym (rs.all ruleB)),σ):=fun bs σ=>
  allRule ruleB rs 53 [] (by omega) σ (fun y hy τ bs=>callPRule y (by have:=m3 y hy; omega) bs _) bs
 apply pure_enter (by simp [c34])
 unfold progB
 simp only
 generalize ds.all declB=b1 at *
 generalize us.all tupB=b2 at *
 generalize rs.all ruleB=b3 at *
 simp [c34,GP.enc_eq,a1,a2,a3]
 repeat' (first | apply And.intro | intro _)
 all_goals first | (simp_all; done) | omega | grind
theorem callPRight (x:GP) (hs:x.size≤10000000000) (bs:Nat) (σ:Heap):callT T 34 [x.enc] bs σ=some (.bool (sym (progB x)),σ):=call_clean rfl rfl rfl (by simp) (pright_ok x hs)
open Go.Mach
def joinF {α:Type} (f:Nat→α→List UInt8) (sep:List UInt8):Nat→List α→List UInt8
 | _,[]=>[]
 | i,x :: l=>(if i=0 then [] else sep)++(f i x++joinF f sep (i+1) l)
theorem joinF_snoc {α:Type} (f:Nat→α→List UInt8) (sep:List UInt8):∀ (i:Nat) (l:List α) (x:α),joinF f sep i (l++[x])=joinF f sep i l++((if i+l.length=0 then [] else sep)++f (i+l.length) x)
 | i,[],x=>by simp [joinF]
 | i,y :: l,x=>by
  have e:i+1+l.length=i+(l.length+1):=by omega
  simp only [List.cons_append,joinF,joinF_snoc f sep (i+1) l x,zqP,zqU,e]
  try simp
theorem joinF_take {α:Type} (f:Nat→α→List UInt8) (sep:List UInt8) (l:List α) (i:Nat) (h:i<l.length):joinF f sep 0 (l.take (i+1))=joinF f sep 0 (l.take i)++((if i=0 then [] else sep)++f i l[i]):=by
 have e:l.take (i+1)=l.take i++[l[i]]:=by rw [List.take_add_one,zqF h]; rfl
 have e2:0+(l.take i).length=i:=by simp; omega
 rw [e,joinF_snoc,e2]
theorem joinF_app {α:Type} (f:Nat→α→List UInt8) (sep:List UInt8):∀ (i:Nat) (l m:List α),joinF f sep i (l++m)=joinF f sep i l++joinF f sep (i+l.length) m
 | i,[],m=>by simp [joinF]
 | i,x :: l,m=>by
  have e:i+1+l.length=i+(l.length+1):=by omega
  simp only [List.cons_append,joinF,joinF_app f sep (i+1) l m,zqP,zqU,e]
theorem joinF_le {α:Type} (f:Nat→α→List UInt8) (sep:List UInt8) (l:List α) (i:Nat):(joinF f sep 0 (l.take i)).length≤(joinF f sep 0 l).length:=by
 have:=joinF_app f sep 0 (l.take i) (l.drop i)
 rw [List.take_append_drop] at this
 rw [this,zqJ]; omega
theorem bld_app {σ τ:Heap} {id:Nat} {o:AObj} (h:id<σ.length):(σ.set id o++τ)[id]?=some o:=by
 rw [zqA (by simpa using h)]; simp [h]
theorem set_app {σ τ:Heap} {id:Nat} {o o':AObj} (h:id<σ.length):(σ.set id o++τ).set id o'=σ.set id o'++τ:=by
 rw [List.set_append_left _ _ (by simpa using h),List.set_set]
theorem take_app2 {σ τ ρ:Heap} {id:Nat} {o:AObj}:(σ.set id o++(τ++ρ)).take (σ.length+τ.length)=σ.set id o++τ:=by
 rw [←zqP,List.take_append_of_le_length (by simp),List.take_of_length_le (by simp)]
theorem ws_at {σ τ:Heap} {id t:Nat} {l:List UInt8} {s:ByteArray} (bs:Nat) (h:id<σ.length) (ht:t∈bldTs) (hl:l.length+s.size≤70368744177664) :
  callT T 102 [.ptr id 0,.str s] bs (σ.set id (.bld t 5 l)++τ)=some (.undef,σ.set id (.bld t 5 (l++s.data.toList))++τ):=by
 rw [callWS bs (bld_app h) ht hl,set_app h]
theorem wb_at {σ τ:Heap} {id t:Nat} {l:List UInt8} {n:Int} (bs:Nat) (h:id<σ.length) (ht:t∈bldTs) (hl:l.length+1≤70368744177664) (h0:0≤n) (h1:n<256) :
  callT T 107 [.ptr id 0,.int .u8 n] bs (σ.set id (.bld t 5 l)++τ)=some (.undef,σ.set id (.bld t 5 (l++[UInt8.ofNat n.toNat]))++τ):=by
 rw [callWB bs (bld_app h) ht hl h0 h1,set_app h]
theorem listTerm (w:Nat→GT→List UInt8) (s:ByteArray) (l:List GT) (g:Nat) (caps:List AV) (σ:Heap) (id t:Nat) (c0:List UInt8) (τ:Heap) (hid:id<σ.length) (ht:t∈bldTs) (hl:l.length≤100000000000) (hL:c0.length+(joinF w s.data.toList 0 l).length≤70368744177664)
  (hc:∀ (i:Nat) (hi:i<l.length) (cur:List UInt8) ρ bs,cur.length+(w i l[i]).length≤70368744177664→callT T g (.int .i64 (i:Int) :: l[i].enc :: caps) bs (σ.set id (.bld t 5 cur)++(τ++ρ))=some (.tup [],σ.set id (.bld t 5 (cur++w i l[i]))++(τ++ρ))) (bs:Nat) :
  callT T 126 [.ptr id 0,.isl (GT.encs l) false,.str s,.func g caps] bs (σ.set id (.bld t 5 c0)++τ)=some (.tup [],σ.set id (.bld t 5 (c0++joinF w s.data.toList 0 l))++τ):=by
 have hsl:(σ.set id (.bld t 5 c0)++τ).length=σ.length+τ.length:=by simp
 refine heap_enter (af:=c126) (args':=[.ptr id 0,.isl (GT.encs l) false,.str s,.func g caps]) (σ1:=σ.set id (.bld t 5 c0)++τ) rfl rfl (by simp [c126]) (by simp [c126]) rfl ?_
 simp [c126,baseA]
 refine W_for T _ 29 l.length (fun i f ρ=>f 0=.ptr id 0∧f 2=.str s∧f 3=.func g caps∧f 10=.isl (GT.encs l) false∧f 11=.int .i64 (l.length:Int)∧f 12=.int .i64 (i:Int)∧∃ rest,ρ=σ.set id (.bld t 5 (c0++joinF w s.data.toList 0 (l.take i)))++(τ++rest)) ?_ _ _ ?_
 ·rintro i f ρ hi ⟨g0,g2,g3,g10,g11,g12,rest,rfl⟩
  by_cases hlt:i<l.length
  ·have e1:l[i]?=some l[i]:=zqF hlt
   have hw:IntKind.i64.wrap ((i:Int)+1)=(i:Int)+1:=wr64 (by omega) (by omega)
   have hj:=joinF_take w s.data.toList l i hlt
   have hle:=joinF_le w s.data.toList l (i+1)
   rw [hj] at hle ⊢
   generalize joinF w s.data.toList 0 (l.take i)=cur at *
   have hss:s.data.toList.length=s.size:=by simp
   by_cases h0:i=0
   ·have h0':¬ (0<i):=by omega
    simp only [h0,if_true,List.nil_append,zqJ] at hle
    have hcl:=fun r bs=>hc i hlt (c0++cur) (rest++r) bs (by simp only [zqJ]; subst h0; omega)
    simp [g0,g2,g3,g10,g11,g12,hlt,hcl,hw,h0',←GT.enc_eq]
    exact ⟨_,by rw [if_pos h0]; rfl⟩
   ·have h0':0<i:=by omega
    simp only [h0,if_false,zqJ] at hle
    have hws:=fun r bs=>ws_at (σ:=σ) (τ:=τ++(rest++r)) (s:=s) (l:=c0++cur) bs hid ht (by simp only [zqJ]; omega)
    have hcl:=fun r bs=>hc i hlt (c0++cur++s.data.toList) (rest++r) bs (by simp only [zqJ]; omega)
    simp only [zqP] at hws hcl
    simp [g0,g2,g3,g10,g11,g12,hlt,hws,hcl,hw,h0',←GT.enc_eq]
    exact ⟨_,by rw [if_neg h0]⟩
  ·have he:i=l.length:=by omega
   subst he
   simp [g0,g2,g3,g10,g11,g12,dropA_gc,refLt,res1]
   exact take_app2
 ·simp [joinF]
theorem listLiteral (w:Nat→GL→List UInt8) (s:ByteArray) (l:List GL) (g:Nat) (caps:List AV) (σ:Heap) (id t:Nat) (c0:List UInt8) (τ:Heap) (hid:id<σ.length) (ht:t∈bldTs) (hl:l.length≤100000000000) (hL:c0.length+(joinF w s.data.toList 0 l).length≤70368744177664)
  (hc:∀ (i:Nat) (hi:i<l.length) (cur:List UInt8) ρ bs,cur.length+(w i l[i]).length≤70368744177664→callT T g (.int .i64 (i:Int) :: l[i].enc :: caps) bs (σ.set id (.bld t 5 cur)++(τ++ρ))=some (.tup [],σ.set id (.bld t 5 (cur++w i l[i]))++(τ++ρ))) (bs:Nat) :
  callT T 104 [.ptr id 0,.isl (l.map GL.enc) false,.str s,.func g caps] bs (σ.set id (.bld t 5 c0)++τ)=some (.tup [],σ.set id (.bld t 5 (c0++joinF w s.data.toList 0 l))++τ):=by
 have hsl:(σ.set id (.bld t 5 c0)++τ).length=σ.length+τ.length:=by simp
 refine heap_enter (af:=c104) (args':=[.ptr id 0,.isl (l.map GL.enc) false,.str s,.func g caps]) (σ1:=σ.set id (.bld t 5 c0)++τ) rfl rfl (by simp [c104]) (by simp [c104]) rfl ?_
 simp [c104,baseA]
 refine W_for T _ 29 l.length (fun i f ρ=>f 0=.ptr id 0∧f 2=.str s∧f 3=.func g caps∧f 10=.isl (l.map GL.enc) false∧f 11=.int .i64 (l.length:Int)∧f 12=.int .i64 (i:Int)∧∃ rest,ρ=σ.set id (.bld t 5 (c0++joinF w s.data.toList 0 (l.take i)))++(τ++rest)) ?_ _ _ ?_
 ·rintro i f ρ hi ⟨g0,g2,g3,g10,g11,g12,rest,rfl⟩
  by_cases hlt:i<l.length
  ·have e1:l[i]?=some l[i]:=zqF hlt
   have hw:IntKind.i64.wrap ((i:Int)+1)=(i:Int)+1:=wr64 (by omega) (by omega)
   have hj:=joinF_take w s.data.toList l i hlt
   have hle:=joinF_le w s.data.toList l (i+1)
   rw [hj] at hle ⊢
   generalize joinF w s.data.toList 0 (l.take i)=cur at *
   have hss:s.data.toList.length=s.size:=by simp
   by_cases h0:i=0
   ·have h0':¬ (0<i):=by omega
    simp only [h0,if_true,List.nil_append,zqJ] at hle
    have hcl:=fun r bs=>hc i hlt (c0++cur) (rest++r) bs (by simp only [zqJ]; subst h0; omega)
    simp [g0,g2,g3,g10,g11,g12,hlt,hcl,hw,h0',←GL.enc_eq]
    exact ⟨_,by rw [if_pos h0]; rfl⟩
   ·have h0':0<i:=by omega
    simp only [h0,if_false,zqJ] at hle
    have hws:=fun r bs=>ws_at (σ:=σ) (τ:=τ++(rest++r)) (s:=s) (l:=c0++cur) bs hid ht (by simp only [zqJ]; omega)
    have hcl:=fun r bs=>hc i hlt (c0++cur++s.data.toList) (rest++r) bs (by simp only [zqJ]; omega)
    simp only [zqP] at hws hcl
    simp [g0,g2,g3,g10,g11,g12,hlt,hws,hcl,hw,h0',←GL.enc_eq]
    exact ⟨_,by rw [if_neg h0]⟩
  ·have he:i=l.length:=by omega
   subst he
   simp [g0,g2,g3,g10,g11,g12,dropA_gc,refLt,res1]
   exact take_app2
 ·simp [joinF]
end Go.Proofs.YtpgakkhfjjhpdaaGreatDoor
end
