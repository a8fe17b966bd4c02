import Derived.Test.YtkfiepnkedcmgaaC4
import Derived.Lib.ItoaNum
import Derived.Lib.ItoaLen
import Derived.Test.YtkfiepnkedcmgaaChecked
import Derived.KernelRfl
import Derived.Test.YtkfiepnkedcmgaaC3
set_option linter.unusedVariables false
set_option linter.unusedSimpArgs false
set_option linter.unnecessarySimpa false
section
namespace Go.Mach
def bv (l:List UInt8):List AV:=l.map fun b=>.int .u8 (b.toNat:Int)
theorem u8s_bv (s:ByteArray):u8s s=bv s.data.toList:=rfl
@[simp] theorem bv_length (l:List UInt8):(bv l).length=l.length:=by simp [bv]
theorem bv_set (l:List UInt8) (i:Nat) (b:UInt8):(bv l).set i (.int .u8 (b.toNat:Int))=bv (l.set i b):=by simp [bv,List.map_set]
theorem bv_win {l:List UInt8} {i:Nat} (h:i<l.length):window (bv l) i 1=some [.int .u8 (l[i].toNat:Int)]:=by
 unfold window
 rw [if_pos (by simp; omega)]
 congr 1
 apply List.ext_getElem?
 intro j
 rw [List.getElem?_take,List.getElem?_drop]
 cases j with
 | zero=>simp [bv,h]
 | succ j=>simp
theorem bv_all (l:List UInt8):window (bv l) 0 l.length=some (bv l):=by
 unfold window
 rw [if_pos (by simp)]
 rw [List.drop_zero,List.take_of_length_le (by simp)]
theorem chunk_one:∀ l:List AV,chunk 1 false l.length l=some l
 | []=>rfl
 | x :: l=>by simp [chunk_one l]
theorem bytesA_bv (l:List UInt8):bytesA (bv l)=some ⟨l.toArray⟩:=by
 have:(bv l).mapM ofU8=some l:=by
  induction l with
  | nil=>rfl
  | cons b l ih=>
   show (AV.int .u8 (b.toNat:Int) :: bv l).mapM ofU8=some (b :: l)
   rw [List.mapM_cons,ih]
   simp [ofU8]
 unfold bytesA; rw [this]; rfl
theorem elems_bv {σ:Heap} {id:Nat} {l:List UInt8} {fz:Nat} {ext:Bool} {n:Nat} (h:σ[id]?=some (.cells (bv l) fz ext)) (hn:n=l.length):elemsA σ 1 false (.sl id 0 n 1 false)=some (bv l):=by
 subst hn
 simp only [elemsA,h,Nat.mul_one,bv_all,Option.bind_some]
 have:=chunk_one (bv l)
 rwa [bv_length] at this
theorem b2s_bv {σ:Heap} {id:Nat} {l:List UInt8} {fz:Nat} {ext:Bool} {n:Nat} (h:σ[id]?=some (.cells (bv l) fz ext)) (hn:n=l.length):b2sV σ (.sl id 0 n 1 false)=some (.str ⟨l.toArray⟩):=by
 simp [b2sV,isSl,elems_bv h hn,bytesA_bv]
theorem setRun_one (cs:List AV) (i:Nat) (v:AV):setRun cs i [v]=cs.set i v:=rfl
def mp {α:Type} (g:α→α) (l:List α) (i:Nat):List α:=(l.take i).map g++l.drop i
section
variable {α:Type} {g:α→α} {l:List α} {i:Nat}
@[simp] theorem mp_len:(mp g l i).length=l.length:=by simp [mp]; omega
theorem mp_zero:mp g l 0=l:=by simp [mp]
theorem mp_all:mp g l l.length=l.map g:=by simp [mp]
theorem mp_get (h:i<l.length):(mp g l i)[i]'(by simpa using h)=l[i]:=by
 simp only [mp]
 rw [List.getElem_append_right (by simp; omega)]
 simp [Nat.min_eq_left (Nat.le_of_lt h)]
theorem mp_set (h:i<l.length):(mp g l i).set i (g l[i])=mp g l (i+1):=by
 simp only [mp]
 rw [List.set_append_right _ _ (by simp; omega)]
 have:i - ((l.take i).map g).length=0:=by simp; omega
 rw [this,zqM h,List.set_cons_zero,List.take_add_one,zqF h,List.map_append]
 simp
end
end Go.Mach
namespace Go.Proofs.Ytkfiepnkedcmgaa
open Go.Mach
def pickN (c:Int) (n:Nat):Nat:=((if c<0 then -(c+1) else c).toNat) % n
theorem pickN_lt {c:Int} {n:Nat} (h:0<n):pickN c n<n:=Nat.mod_lt _ h
theorem pick_eq (c:Int) (n:Nat) (h:0<n) (h1:-9223372036854775808≤c) (h2:c≤9223372036854775807) :
  ((if c<0 then IntKind.i64.wrap (0 - IntKind.i64.wrap (c+1)) else c).tmod n)=(pickN c n:Int):=by
 by_cases hc:c<0
 ·rw [if_pos hc,wr64 (n:=c+1) (by omega) (by omega),wr64 (by omega) (by omega)]
  simp only [pickN,if_pos hc]
  have:(0 - (c+1):Int)=(((-(c+1)).toNat:Nat):Int):=by omega
  rw [this]; rfl
 ·rw [if_neg hc]
  simp only [pickN,if_neg hc]
  have:c=((c.toNat:Nat):Int):=by omega
  rw [this,Int.toNat_natCast]; rfl
theorem pick1_ok (c n:Int) (h:n≠0):pureT T c73 [.int .i64 c,.int .i64 n]=some (.int .i64 ((if c<0 then IntKind.i64.wrap (0 - IntKind.i64.wrap (c+1)) else c).tmod n)):=by
 apply pure_enter (by simp [c73])
 by_cases hc:c<0
 ·simp [c73,hc,h]
 ·simp [c73,hc,h]
theorem pick1 (c:Int) (n:Nat) (h:0<n) (h1:GV.i64ok c) (bs:Nat) (σ:Heap) :
  callT T 73 [.int .i64 c,.int .i64 (n:Int)] bs σ=some (.int .i64 (pickN c n:Int),σ):=by
 refine call_clean rfl rfl rfl rfl ?_
 rw [pick1_ok c n (by omega),pick_eq c n h h1.1 h1.2]
theorem pick4 (c:Int) (h1:GV.i64ok c) (bs:Nat) (σ:Heap):callT T 73 [.int .i64 c,.int .i64 4] bs σ=some (.int .i64 (pickN c 4:Int),σ):=pick1 c 4 (by omega) h1 bs σ
theorem pickM (c:Int) (h1:GV.i64ok c) (bs:Nat) (σ:Heap):callT T 73 [.int .i64 c,.int .i64 4294967295] bs σ=some (.int .i64 (pickN c 4294967295:Int),σ):=pick1 c 4294967295 (by omega) h1 bs σ
def nameC (b:UInt8):UInt8:=if b.toNat % 37<26 then UInt8.ofNat (97+b.toNat % 37) else if b.toNat % 37<36 then UInt8.ofNat (22+b.toNat % 37) else 95
def nameFit (s:ByteArray):ByteArray:=⟨(110 :: (s.data.toList.take 15).map nameC).toArray⟩
theorem tm (n m:Nat):((n:Int)).tmod (m:Int)=((n % m:Nat):Int):=rfl
theorem u8of {n:Nat} (h:n<256):((UInt8.ofNat n).toNat:Int)=(n:Int):=by rw [UInt8.toNat_ofNat',Nat.mod_eq_of_lt h]
theorem lawName_ok (s:ByteArray) (hs:s.size≤100000000000):pureT T c74 [.str s]=some (.str (nameFit s)):=by
 apply pure_enter (by simp [c74])
 obtain ⟨m,hm,hmin⟩:∃ m:Nat,m=min s.size 15∧(if (15:Int)<(s.size:Int) then (15:Int) else (s.size:Int))=(m:Int):=⟨_,rfl,by split <;> omega⟩
 generalize hl:s.data.toList.take m=l
 have hll:l.length=m:=by rw [←hl]; simp; omega
 have hcat:u8s (⟨#[110]⟩++s.extract 0 m)=bv (110 :: l):=by
  rw [u8s_bv]; congr 1; rw [←hl]; simp [ByteArray.data_append,ByteArray.data_extract]
 have hsz:(⟨#[110]⟩++s.extract 0 m:ByteArray).size=m+1:=by
  have:=congrArg List.length hcat
  rw [u8s_len] at this; rw [this]; simp [hll]
 have hle:m≤s.size:=by omega
 have hadd:(1:Int)+(m:Int)≤9223372036854775807:=by omega
 have hone:(⟨#[110]⟩:ByteArray).size=1:=rfl
 have hfit:nameFit s=⟨(110 :: l.map nameC).toArray⟩:=by
  simp only [nameFit]
  rw [←hl,hm]
  congr 3
  rcases Nat.lt_or_ge s.size 15 with h | h
  ·rw [List.take_of_length_le (by simp; omega),List.take_of_length_le (by simp; omega)]
  ·rw [Nat.min_eq_right h]
 simp [c74,hmin,hcat,hle,hadd,hsz,hone]
 subst hll
 refine W_for T 0 44 l.length (fun i f σ=>f 3=.sl 0 0 (l.length+1) 1 false∧f 4=.int .i64 ((i:Int)+1)∧σ=[.cells (bv (110 :: mp nameC l i)) 0 true]) ?_ _ _ ?_
 ·rintro i f σ hi ⟨h3,h4,rfl⟩
  by_cases hlt:i<l.length
  ·have hw:IntKind.i64.wrap ((i:Int)+1+1)=(i:Int)+1+1:=wr64 (by omega) (by omega)
   have hc2:(0:Int)≤(i:Int)+1:=by omega
   have hc3:((i:Int)+1).toNat=i+1:=by omega
   have hc4:i+1≤l.length:=hlt
   have hwin:=bv_win (l:=110 :: mp nameC l i) (i:=i+1) (by simp; omega)
   simp [mp_get hlt] at hwin
   have htm:((l[i].toNat:Int)).tmod 37=((l[i].toNat % 37:Nat):Int):=rfl
   have hfin:∀ v:Int,v=((nameC l[i]).toNat:Int)→(bv (110 :: mp nameC l i)).set (i+1) (.int .u8 v)=bv (110 :: mp nameC l (i+1)):=by
    rintro _ rfl; rw [bv_set,List.set_cons_succ,mp_set hlt]
   generalize hk:l[i].toNat % 37=k at *
   have hk37:k<37:=by omega
   have hn:nameC l[i]=(if k<26 then UInt8.ofNat (97+k) else if k<36 then UInt8.ofNat (22+k) else 95):=by simp only [nameC,hk]
   simp [h3,h4,hc2,hc3,hc4,hw,hlt,hwin,htm,setRun_one]
   refine ⟨fun h=>hfin _ ?_,fun h=>⟨fun h2=>hfin _ ?_,fun h2=>hfin _ ?_⟩⟩
   ·rw [hn,if_pos (by omega),u8of (by omega),wru8 (by omega) (by omega)]; omega
   ·rw [hn,if_neg (by omega),if_pos (by omega),u8of (by omega),wru8 (n:=48+(k:Int)) (by omega) (by omega),wru8 (by omega) (by omega)]; omega
   ·rw [hn,if_neg (by omega),if_neg (by omega)]; rfl
  ·have he:i=l.length:=by omega
   subst he
   have hel:=b2s_bv (σ:=[.cells (bv (110 :: mp nameC l l.length)) 0 true]) (id:=0) (l:=110 :: mp nameC l l.length) rfl (n:=l.length+1) (by simp)
   rw [mp_all] at hel
   simp [h3,h4,mp_all,hel,hfit]
 ·simp [mp_zero]
theorem lawName (s:ByteArray) (hs:s.size≤100000000000) (bs:Nat) (σ:Heap):callT T 74 [.str s] bs σ=some (.str (nameFit s),σ):=call_clean rfl rfl rfl (by simp) (lawName_ok s hs)
def textC (b:UInt8):UInt8:=if 32+b.toNat % 95=34∨32+b.toNat % 95=92 then 32 else UInt8.ofNat (32+b.toNat % 95)
def textFit (s:ByteArray):ByteArray:=⟨((s.data.toList.take 32).map textC).toArray⟩
def fitV:Nat→GV→GV
 | d,v=>
  if pickN v.kind 4=0 then .mk 1 ((pickN v.num 4294967295:Int) - 2147483647) ⟨#[]⟩ []
  else if pickN v.kind 4=1 then .mk 2 0 (textFit v.text) []
  else if pickN v.kind 4=2 then .mk 3 0 (nameFit v.text) []
  else match d with
   | 0=>.mk 4 0 ⟨#[]⟩ []
   | d+1=>.mk 4 0 ⟨#[]⟩ ((v.items.take 16).map fun x=>fitV d (if d=0∧pickN x.kind 4=3 then .mk 0 x.num x.text x.items else x))
theorem fit_text (d:Int) (v:GV) (hv:v.ok) (hs:v.text.size≤100000000000) (hk:pickN v.kind 4=1):pureT T c61 [v.enc,.int .i64 d]=some (GV.mk 2 0 (textFit v.text) []).enc:=by
 apply pure_enter (by simp [c61])
 obtain ⟨k,n,s,items⟩:=v
 simp only [GV.ok] at hv
 replace hk:pickN k 4=1:=hk
 replace hs:s.size≤100000000000:=hs
 have hp:=pick4 k hv.1
 rw [hk] at hp
 obtain ⟨m,hm,hmin⟩:∃ m:Nat,m=min s.size 32∧(if (32:Int)<(s.size:Int) then (32:Int) else (s.size:Int))=(m:Int):=⟨_,rfl,by split <;> omega⟩
 generalize hl:s.data.toList.take m=l
 have hll:l.length=m:=by rw [←hl]; simp; omega
 have hcat:u8s (s.extract 0 m)=bv l:=by
  rw [u8s_bv]; congr 1; rw [←hl]; simp [ByteArray.data_append,ByteArray.data_extract]
 have hle:m≤s.size:=by omega
 have hsz:(s.extract 0 m:ByteArray).size=m:=by rw [ByteArray.size_extract]; omega
 have hfit:textFit s=⟨(l.map textC).toArray⟩:=by
  simp only [textFit]
  rw [←hl,hm]
  congr 3
  rcases Nat.lt_or_ge s.size 32 with h | h
  ·rw [List.take_of_length_le (by simp; omega),List.take_of_length_le (by simp; omega)]
  ·rw [Nat.min_eq_right h]
 simp [c61,GV.enc_eq,GV.kind,GV.num,GV.text,GV.items,hp,hmin,hle,hcat,hsz]
 subst hll
 refine W_for T 0 107 l.length (fun i f σ=>f 4=.ptr 1 0∧f 6=.sl 2 0 l.length 1 false∧f 7=.int .i64 (i:Int)∧∃ A,σ=[A,.cells [.int .i64 0,.int .i64 0,.str ⟨#[]⟩,.isl [] true] 0 false,.cells (bv (mp textC l i)) 0 true]) ?_ _ _ ?_
 ·rintro i f σ hi ⟨h4,h6,h7,A,rfl⟩
  by_cases hlt:i<l.length
  ·have hw:IntKind.i64.wrap ((i:Int)+1)=(i:Int)+1:=wr64 (by omega) (by omega)
   have hc4:i+1≤l.length:=hlt
   have hwin:=bv_win (l:=mp textC l i) (i:=i) (by simp; omega)
   simp [mp_get hlt] at hwin
   have htm:((l[i].toNat:Int)).tmod 95=((l[i].toNat % 95:Nat):Int):=rfl
   generalize hk:l[i].toNat % 95=k at *
   have hk37:k<95:=by omega
   obtain ⟨b,hb,hbn⟩:∃ b:UInt8,b=UInt8.ofNat (32+k)∧b.toNat=32+k:=⟨_,rfl,by rw [UInt8.toNat_ofNat',Nat.mod_eq_of_lt (by omega)]⟩
   have hn:textC l[i]=(if b.toNat=34∨b.toNat=92 then 32 else b):=by simp only [textC,hk,hbn]; rw [hb]
   have hv:IntKind.u8.wrap (32+(k:Int))=(b.toNat:Int):=by rw [wru8 (by omega) (by omega)]; omega
   have hst:(bv (mp textC l i)).set i (.int .u8 (b.toNat:Int))=bv ((mp textC l i).set i b):=bv_set ..
   have hwin2:=bv_win (l:=(mp textC l i).set i b) (i:=i) (by simp; omega)
   rw [List.getElem_set_self] at hwin2
   have hst2:(bv ((mp textC l i).set i b)).set i (.int .u8 32)=bv ((mp textC l i).set i 32):=by
    have:=bv_set ((mp textC l i).set i b) i 32
    rw [List.set_set] at this; exact this
   have e1:b.toNat=34∨b.toNat=92→(mp textC l i).set i 32=mp textC l (i+1):=fun h=>by rw [←mp_set hlt,hn,if_pos h]
   have e2:¬ (b.toNat=34∨b.toNat=92)→(mp textC l i).set i b=mp textC l (i+1):=fun h=>by rw [←mp_set hlt,hn,if_neg h]
   simp [h4,h6,h7,hc4,hw,hlt,hwin,htm,hv,setRun_one,hst,hwin2,hst2]
   refine ⟨fun h=>by rw [e1 (by omega)],fun h=>⟨fun h=>by rw [e1 (by omega)],fun h=>by rw [e2 (by omega)]⟩⟩
  ·have he:i=l.length:=by omega
   subst he
   have hel:=b2s_bv (σ:=[A,.cells [.int .i64 0,.int .i64 0,.str ⟨#[]⟩,.isl [] true] 0 false,.cells (bv (mp textC l l.length)) 0 true]) (id:=2) (l:=mp textC l l.length) rfl (n:=l.length) (by simp)
   rw [mp_all] at hel
   simp [h4,h6,h7,mp_all,hel,hfit,setRun,GV.encs]
 ·simp [mp_zero]
end Go.Proofs.Ytkfiepnkedcmgaa
end
section
namespace Go.Proofs.Ytkfiepnkedcmgaa
open Go.Mach
theorem enc_mk (k n:Int) (t:ByteArray) (l:List GV):AV.agg [.int .i64 k,.int .i64 n,.str t,.isl (GV.encs l) false]=(GV.mk k n t l).enc:=by simp only [GV.enc]
@[simp] theorem gv_eta (v:GV):GV.mk v.kind v.num v.text v.items=v:=by cases v; rfl
@[simp] theorem encs_nil':GV.encs []=[]:=rfl
@[simp] theorem encs_one (v:GV):GV.encs [v]=[v.enc]:=rfl
@[simp] theorem encs_snoc (l:List GV) (v:GV):GV.encs l++[v.enc]=GV.encs (l++[v]):=by simp [GV.encs_map]
@[simp] theorem encs_okEl (l:List GV):(GV.encs l).all (okEl 4 true)=true:=by
 rw [zqQ]
 intro x hx
 rw [GV.encs_map] at hx
 obtain ⟨v,_,rfl⟩:=List.mem_map.1 hx
 rw [GV.enc_eq]; rfl
def LstAt (rest:Heap) (off:Nat) (es:List AV) (sz:Nat) (lst:AV):Prop:=
 (es=[]∧lst=.isl [] true)∨(∃ k,lst=.own (k+off) es∧k<rest.length∧rest[k]?=some (.tok es.length sz))
theorem fit_list (d:Nat) (hd:d≤100) (k n:Int) (t:ByteArray) (items:List GV) (hv:(GV.mk k n t items).ok) (hl:items.length≤100000000000) (hk:pickN k 4=3) (g:GV→GV)
  (hg:∀ x∈items,∀ bs σ,callT T 61 [(if d≤1∧pickN x.kind 4=3 then GV.mk 0 x.num x.text x.items else x).enc,.int .i64 ((d:Int) - 1)] bs σ=some ((g x).enc,σ)) :
  pureT T c61 [(GV.mk k n t items).enc,.int .i64 d]=some (GV.mk 4 0 ⟨#[]⟩ ((items.take 16).map g)).enc:=by
 apply pure_enter (by simp [c61])
 simp only [GV.ok] at hv
 have hp:=pick4 k hv.1
 rw [hk] at hp
 simp [c61,hp,setRun]
 refine W_for T 0 107 (min items.length 16) (fun i f σ=>f 1=.int .i64 (d:Int)∧f 2=.ptr 0 0∧f 4=.ptr 1 0∧f 8=.ptr 2 0∧f 9=.int .i64 (i:Int)∧∃ lst rest,
  σ=[.cells [.int .i64 k,.int .i64 n,.str t,.isl (GV.encs items) false] 0 false,.cells [.int .i64 0,.int .i64 0,.str ⟨#[]⟩,.isl [] true] 0 false,.cells [.int .i64 4,.int .i64 0,.str ⟨#[]⟩,lst] 0 false]++rest ∧
  LstAt rest 3 (GV.encs ((items.take i).map g)) 4 lst) ?_ _ _ ?_
 ·rintro i f σ hi ⟨h1,h2,h4,h8,h9,lst,rest,rfl,hlst⟩
  by_cases hlt:i<min items.length 16
  ·have hw:IntKind.i64.wrap ((i:Int)+1)=(i:Int)+1:=wr64 (by omega) (by omega)
   have hwd:IntKind.i64.wrap ((d:Int) - 1)=(d:Int) - 1:=wr64 (by omega) (by omega)
   have hc1:i<items.length:=by omega
   have hc2:(i:Int)<16:=by omega
   have hok:GV.ok items[i]:=(GV.oks_iff items).1 hv.2.2 _ (zqT hc1)
   have hpk:=pick4 items[i].kind (by revert hok; cases items[i]; simp only [GV.ok]; exact fun h=>h.1)
   have hcl:=hg items[i] (zqT hc1)
   have htk:(items.take (i+1)).map g=(items.take i).map g++[g items[i]]:=by rw [List.take_add_one,zqF hc1,List.map_append]; rfl
   have hlen:((items.take i).map g).length=i:=by simp; omega
   generalize (items.take i).map g=done at *
   rw [htk]
   have hdl:done.length≤10000000000:=by omega
   have hown:∀ kk X,kk<rest.length→LstAt (rest.set kk (.tok (done.length+1) 4)++X) 3 (GV.encs (done++[g items[i]])) 4 (.own (kk+3) (GV.encs (done++[g items[i]]))):=fun kk X hk=>.inr ⟨kk,rfl,by simp; omega,by rw [zqA (by simpa using hk)]; simp [hk]⟩
   by_cases hc3:d≤1
   ·have hc4:(d:Int)≤1:=by omega
    by_cases hc6:pickN items[i].kind 4=3
    ·simp only [hc3,hc6,and_self,if_true] at hcl
     rcases hlst with ⟨he,rfl⟩ | ⟨kk,rfl,hkl,hkk⟩
     ·have hd0:done=[]:=(encs_nil _).1 he
      simp [h1,h2,h4,h8,h9,hc1,hc2,hw,hwd,hpk,setRun,enc_mk,hc4,hcl,gv_eta,hc6]
      refine ⟨by omega,_,_,⟨rfl,rfl⟩,.inr ⟨rest.length+2,?_,by simp,by simp [hd0]⟩⟩
      simp [hd0]
     ·simp [h1,h2,h4,h8,h9,hc1,hc2,hw,hwd,hpk,setRun,enc_mk,hc4,hcl,gv_eta,hc6,zqA hkl,hkk,List.set_append_left _ _ hkl,hdl]
      exact ⟨by omega,_,_,⟨rfl,rfl⟩,hown kk _ hkl⟩
    ·have hc5:¬ (d≤1∧pickN items[i].kind 4=3):=by omega
     have hc7:¬ ((pickN items[i].kind 4:Int)=3):=by omega
     simp only [if_neg hc5] at hcl
     rcases hlst with ⟨he,rfl⟩ | ⟨kk,rfl,hkl,hkk⟩
     ·have hd0:done=[]:=(encs_nil _).1 he
      simp [h1,h2,h4,h8,h9,hc1,hc2,hw,hwd,hpk,setRun,enc_mk,hc4,hcl,gv_eta,hc7]
      refine ⟨by omega,_,_,⟨rfl,rfl⟩,.inr ⟨rest.length+2,?_,by simp,by simp [hd0]⟩⟩
      simp [hd0]
     ·simp [h1,h2,h4,h8,h9,hc1,hc2,hw,hwd,hpk,setRun,enc_mk,hc4,hcl,gv_eta,hc7,zqA hkl,hkk,List.set_append_left _ _ hkl,hdl]
      exact ⟨by omega,_,_,⟨rfl,rfl⟩,hown kk _ hkl⟩
   ·have hc4:¬ (d:Int)≤1:=by omega
    have hc5:¬ (d≤1∧pickN items[i].kind 4=3):=by omega
    simp only [if_neg hc5] at hcl
    rcases hlst with ⟨he,rfl⟩ | ⟨kk,rfl,hkl,hkk⟩
    ·have hd0:done=[]:=(encs_nil _).1 he
     simp [h1,h2,h4,h8,h9,hc1,hc2,hw,hwd,hpk,setRun,enc_mk,hc4,hcl,gv_eta]
     refine ⟨by omega,_,_,⟨rfl,rfl⟩,.inr ⟨rest.length+2,?_,by simp,by simp [hd0]⟩⟩
     simp [hd0]
    ·simp [h1,h2,h4,h8,h9,hc1,hc2,hw,hwd,hpk,setRun,enc_mk,hc4,hcl,gv_eta,zqA hkl,hkk,List.set_append_left _ _ hkl,hdl]
     exact ⟨by omega,_,_,⟨rfl,rfl⟩,hown kk _ hkl⟩
  ·have he:i=min items.length 16:=by omega
   have htake:items.take i=items.take 16:=by
    rw [he]
    rcases Nat.lt_or_ge items.length 16 with h | h
    ·rw [List.take_of_length_le (by omega),List.take_of_length_le (by omega)]
    ·rw [Nat.min_eq_right h]
   rw [htake] at hlst
   have hb:¬ i<items.length∨(i<items.length∧¬ (i:Int)<16):=by omega
   rcases hb with hb | ⟨hb,hb2⟩
   ·rcases hlst with ⟨he2,rfl⟩ | ⟨kk,rfl,hkl,hkk⟩
    ·simp [h1,h2,h4,h8,h9,setRun,hb,GV.enc,←List.map_take,he2]
    ·simp [h1,h2,h4,h8,h9,setRun,hb,GV.enc,←List.map_take]
   ·rcases hlst with ⟨he2,rfl⟩ | ⟨kk,rfl,hkl,hkk⟩
    ·simp [h1,h2,h4,h8,h9,setRun,hb,hb2,GV.enc,←List.map_take,he2]
    ·simp [h1,h2,h4,h8,h9,setRun,hb,hb2,GV.enc,←List.map_take]
 ·exact ⟨by simp,by simp,by simp,by simp,by simp,_,[],by simp,.inl ⟨by simp,rfl⟩⟩
theorem text_le (v:GV):v.text.size≤v.size:=by obtain ⟨k,n,t,l⟩:=v; show t.size≤_; simp only [GV.size]; omega
theorem items_le (v:GV):GV.sizes v.items+5≤v.size:=by obtain ⟨k,n,t,l⟩:=v; show GV.sizes l+5≤_; simp only [GV.size]; omega
theorem gv_ext (a b:GV):a=b↔a.kind=b.kind∧a.num=b.num∧a.text=b.text∧a.items=b.items:=by
 obtain ⟨k,n,t,l⟩:=a; obtain ⟨k2,n2,t2,l2⟩:=b; simp [GV.kind,GV.num,GV.text,GV.items]
theorem fit_other (d:Int) (v:GV) (hv:v.ok) (hs:v.size≤100000000000) (hk:pickN v.kind 4≠3) (dd:Nat):pureT T c61 [v.enc,.int .i64 d]=some (fitV dd v).enc:=by
 have hlt:=pickN_lt (c:=v.kind) (n:=4) (by omega)
 have hts:v.text.size≤100000000000:=Nat.le_trans (text_le v) hs
 have hkk:GV.i64ok v.kind∧GV.i64ok v.num:=by revert hv; cases v; simp only [GV.ok]; exact fun h=>⟨h.1,h.2.1⟩
 have hp:=pick4 v.kind hkk.1
 have hpm:=pickM v.num hkk.2
 have hn:=lawName v.text hts
 have hm:=pickN_lt (c:=v.num) (n:=4294967295) (by omega)
 have hw:IntKind.i64.wrap ((pickN v.num 4294967295:Int) - 2147483647)=(pickN v.num 4294967295:Int) - 2147483647:=wr64 (by omega) (by omega)
 have hcase:pickN v.kind 4=0∨pickN v.kind 4=1∨pickN v.kind 4=2:=by omega
 rcases hcase with h | h | h
 ·rw [h] at hp
  apply pure_enter (by simp [c61])
  cases dd <;> simp [c61,hp,hpm,hw,setRun,fitV,h,GV.enc]
 ·have:=fit_text d v hv hts h
  rw [this]
  cases dd <;> simp [fitV,h]
 ·rw [h] at hp
  apply pure_enter (by simp [c61])
  cases dd <;> simp [c61,hp,hn,setRun,fitV,h,GV.enc]
theorem fit_ok:∀ (d:Nat) (v:GV),d≤100→v.ok→v.size≤100000000000→(d=0→pickN v.kind 4≠3)→pureT T c61 [v.enc,.int .i64 d]=some (fitV d v).enc:=by
 intro d
 induction d with
 | zero=>intro v hd hv hs h0; exact fit_other _ v hv hs (h0 rfl) 0
 | succ d ih=>
  intro v hd hv hs _
  by_cases hk:pickN v.kind 4=3
  ·obtain ⟨k,n,t,items⟩:=v
   have hk':pickN k 4=3:=hk
   have hv':=hv
   simp only [GV.ok] at hv'
   have hs':=hs
   simp only [GV.size] at hs'
   have hl:=len_sizes items
   rw [fit_list (d+1) hd k n t items hv (by omega) hk' (fun x=>fitV d (if d=0∧pickN x.kind 4=3 then .mk 0 x.num x.text x.items else x)) (fun x hx bs σ=>?_)]
   ·simp only [fitV]
    rw [if_neg (by show ¬ pickN k 4=0; omega),if_neg (by show ¬ pickN k 4=1; omega),if_neg (by show ¬ pickN k 4=2; omega)]
   ·have hxo:x.ok:=(GV.oks_iff items).1 hv'.2.2 x hx
    have hxs:=(sizes_mem hx).1
    have e:(((d+1:Nat):Int) - 1)=(d:Int):=by omega
    rw [e]
    have hcond:(d+1≤1∧pickN x.kind 4=3)↔(d=0∧pickN x.kind 4=3):=by omega
    simp only [hcond]
    refine call_clean rfl rfl rfl (by simp) (ih _ (by omega) ?_ ?_ ?_)
    ·split
     ·revert hxo; cases x; simp only [GV.ok]; exact fun h=>⟨by simp [GV.i64ok],h.2.1,h.2.2⟩
     ·exact hxo
    ·split
     ·have:(GV.mk 0 x.num x.text x.items).size=x.size:=by cases x; simp only [GV.size]
      omega
     ·omega
    ·intro h0
     split
     ·show pickN 0 4≠3; decide
     ·rename_i hc; intro h3; exact hc ⟨h0,h3⟩
  ·exact fit_other _ v hv hs hk (d+1)
def fit (v:GV):GV:=fitV 4 v
theorem Fit_ok (v:GV) (hv:v.ok) (hs:v.size≤100000000000):pureT T c38 [v.enc]=some (fit v).enc:=by
 have hr:∀ bs σ,callT T 61 [v.enc,.int .i64 4] bs σ=some ((fit v).enc,σ):=fun bs σ=>call_clean rfl rfl rfl (by simp) (fit_ok 4 v (by omega) hv hs (by omega))
 apply pure_enter (by simp [c38])
 simp [c38,hr,setRun,enc_mk]
theorem callFit (v:GV) (hv:v.ok) (hs:v.size≤100000000000) (bs:Nat) (σ:Heap):callT T 38 [v.enc] bs σ=some ((fit v).enc,σ):=call_clean rfl rfl rfl (by simp) (Fit_ok v hv hs)
mutual
def sameV:GV→GV→Bool
 | .mk k n t l,b=>decide (k=b.kind) && decide (n=b.num) && decide (t=b.text) && sameVs l b.items
def sameVs:List GV→List GV→Bool
 | [],[]=>true
 | x :: xs,y :: ys=>sameV x y && sameVs xs ys
 | _,_=>false
end
mutual
theorem sameV_iff:∀ a b:GV,sameV a b=true↔a=b
 | .mk k n t l,.mk k2 n2 t2 l2=>by
  have:=sameVs_iff l l2
  simp [sameV,this,and_assoc]
theorem sameVs_iff:∀ a b:List GV,sameVs a b=true↔a=b
 | [],[]=>by simp [sameVs]
 | [],_ :: _=>by simp [sameVs]
 | _ :: _,[]=>by simp [sameVs]
 | x :: xs,y :: ys=>by
  have h1:=sameV_iff x y
  have h2:=sameVs_iff xs ys
  simp [sameVs,h1,h2]
end
instance:DecidableEq GV:=fun a b=>decidable_of_iff _ (sameV_iff a b)
theorem values_ok (l l2:List GV) (hl:l.length≤100000000000) (hc:∀ x∈l,∀ y∈l2,∀ bs σ,callT T 46 [x.enc,y.enc] bs σ=some (.bool (sym (decide (x=y))),σ)) :
  pureT T c28 [.isl (GV.encs l) false,.isl (GV.encs l2) false]=some (.bool (decide (l=l2))):=by
 apply pure_enter (by simp [c28])
 by_cases hlen:l.length=l2.length
 ·simp [c28,hlen]
  refine W_for T 0 29 l.length (fun i f σ=>f 0=.isl (GV.encs l) false∧f 1=.isl (GV.encs l2) false∧f 5=.int .i64 (i:Int)∧σ=[]∧∀ j,(h1:j<l.length)→(h2:j<l2.length)→j<i→l[j]=l2[j]) ?_ _ _ ?_
  ·rintro i f σ hi ⟨h0,h1,h5,rfl,hall⟩
   by_cases hlt:i<l.length
   ·have hlt2:i<l2.length:=by omega
    have hw:IntKind.i64.wrap ((i:Int)+1)=(i:Int)+1:=wr64 (by omega) (by omega)
    have hcl:=hc l[i] (zqT hlt) l2[i] (zqT hlt2)
    simp [h0,h1,h5,hlt,hlt2,hw,hcl]
    refine ⟨fun h j h1 h2 hj=>?_,fun h e=>?_⟩
    ·by_cases e:j=i
     ·subst e; exact h
     ·exact hall j h1 h2 (by omega)
    ·subst e; exact h rfl
   ·have he:i=l.length:=by omega
    subst he
    simp [h0,h1,h5]
    exact List.ext_getElem hlen fun j h1 h2=>hall j h1 h2 h1
  ·simp
 ·have hne:¬ l=l2:=fun e=>hlen (by rw [e])
  have hlen':¬ (l.length:Int)=(l2.length:Int):=by omega
  simp [c28,hlen',hne]
theorem same_ok:∀ (n:Nat) (a b:GV),a.size≤n→n≤100000000000→pureT T c46 [a.enc,b.enc]=some (.bool (decide (a=b))):=by
 intro n
 induction n with
 | zero=>intro a b h; cases a; simp [GV.size] at h
 | succ n ih=>
  intro a b hs hn
  have hl:GV.sizes a.items≤n:=by have:=items_le a; omega
  have hlen:=len_sizes a.items
  have hv:∀ bs σ,callT T 28 [.isl (GV.encs a.items) false,.isl (GV.encs b.items) false] bs σ=some (.bool (sym (decide (a.items=b.items))),σ):=fun bs σ=>
   call_clean rfl rfl rfl (by simp) (values_ok a.items b.items (by omega) fun x hx y hy bs σ=>call_clean rfl rfl rfl (by simp) (ih x y (by have:=(sizes_mem hx).1; omega) (by omega)))
  apply pure_enter (by simp [c46])
  simp [c46,hv,setRun,enc_mk]
  have:=gv_ext a b
  grind
theorem callSame (a b:GV) (hs:a.size≤100000000000) (bs:Nat) (σ:Heap):callT T 46 [a.enc,b.enc] bs σ=some (.bool (sym (decide (a=b))),σ):=call_clean rfl rfl rfl (by simp) (same_ok a.size a b (Nat.le_refl _) hs)
open Go.Mach
theorem ba_list (t:ByteArray) (l:List UInt8) (h:t=⟨l.toArray⟩):t.data.toList=l∧t.size=l.length:=by
 subst h; exact ⟨rfl,by show l.toArray.size=_; rw [List.size_toArray]⟩
theorem nameC_inner (b:UInt8):innerB (nameC b).toNat=true:=by
 have hb:=b.toNat_lt
 generalize hk:b.toNat % 37=k
 have hk37:k<37:=by omega
 simp only [nameC,hk]
 split
 ·rw [UInt8.toNat_ofNat',Nat.mod_eq_of_lt (by omega)]; simp [innerB,letterB]; omega
 ·split
  ·rw [UInt8.toNat_ofNat',Nat.mod_eq_of_lt (by omega)]; simp [innerB,letterB]; omega
  ·decide
theorem nameFit_list (s:ByteArray):(nameFit s).data.toList=110 :: (s.data.toList.take 15).map nameC∧(nameFit s).size=(110 :: (s.data.toList.take 15).map nameC:List UInt8).length:=ba_list _ _ rfl
theorem nameFit_ok (s:ByteArray):nameOK (nameFit s)=true:=by
 obtain ⟨h1,h2⟩:=nameFit_list s
 simp only [nameOK,h1,h2,nameL,zqL,decide_eq_true_eq,zqQ,zqU,List.length_map,List.length_take]
 refine ⟨⟨by decide,fun c hc=>?_⟩,by omega⟩
 obtain ⟨b,_,rfl⟩:=List.mem_map.1 hc
 exact nameC_inner b
theorem nameFit_size (s:ByteArray):1≤(nameFit s).size∧(nameFit s).size≤16:=by
 rw [(nameFit_list s).2]
 simp only [zqU,List.length_map,List.length_take]
 omega
theorem textC_plain (b:UInt8):plainB (textC b).toNat=true:=by
 generalize hk:b.toNat % 95=k
 have hk37:k<95:=by omega
 simp only [textC,hk]
 split
 ·decide
 ·rw [UInt8.toNat_ofNat',Nat.mod_eq_of_lt (by omega)]; simp [plainB]; omega
theorem textFit_ok (s:ByteArray):textOK (textFit s)=true:=by
 obtain ⟨h1,h2⟩:=ba_list (textFit s) _ rfl
 simp only [textOK,h1,h2,zqL,decide_eq_true_eq,zqQ,List.length_map,List.length_take]
 refine ⟨fun c hc=>?_,by omega⟩
 obtain ⟨b,_,rfl⟩:=List.mem_map.1 hc
 exact textC_plain b
theorem rb1 (m:Nat) (h:m<4294967295) (lst:Bool):rightB (.mk 1 ((m:Int) - 2147483647) ⟨#[]⟩ []) lst=true:=by
 simp [rightB,GV.kind,GV.num,GV.text,GV.items]; omega
theorem rb2 (t:ByteArray) (h:textOK t=true) (lst:Bool):rightB (.mk 2 0 t []) lst=true:=by
 simp [rightB,GV.kind,GV.num,GV.text,GV.items,h]
theorem rb3 (t:ByteArray) (h:nameOK t=true) (lst:Bool):rightB (.mk 3 0 t []) lst=true:=by
 simp [rightB,GV.kind,GV.num,GV.text,GV.items,h]
theorem rb4 (l:List GV) (lst:Bool) (h:lst=true):rightB (.mk 4 0 ⟨#[]⟩ l) lst=true:=by
 simp [rightB,GV.kind,GV.num,GV.text,GV.items,h]
theorem rb_right (d:Nat) (v:GV) (h:∀ lst,rightB v lst=true):rightV d v=true:=by cases d <;> exact h _
theorem fitV_right:∀ (d:Nat) (v:GV),(d=0→pickN v.kind 4≠3)→rightV d (fitV d v)=true:=by
 intro d
 induction d with
 | zero=>
  intro v h0
  have hlt:=pickN_lt (c:=v.kind) (n:=4) (by omega)
  have hm:=pickN_lt (c:=v.num) (n:=4294967295) (by omega)
  have h3:=h0 rfl
  unfold fitV
  by_cases h0:pickN v.kind 4=0
  ·rw [if_pos h0]; exact rb_right _ _ (rb1 _ hm)
  ·rw [if_neg h0]
   by_cases h1:pickN v.kind 4=1
   ·rw [if_pos h1]; exact rb_right _ _ (rb2 _ (textFit_ok _))
   ·have h2:pickN v.kind 4=2:=by omega
    rw [if_neg h1,if_pos h2]; exact rb_right _ _ (rb3 _ (nameFit_ok _))
 | succ d ih=>
  intro v _
  have hm:=pickN_lt (c:=v.num) (n:=4294967295) (by omega)
  unfold fitV
  by_cases h0:pickN v.kind 4=0
  ·rw [if_pos h0]; exact rb_right _ _ (rb1 _ hm)
  ·rw [if_neg h0]
   by_cases h1:pickN v.kind 4=1
   ·rw [if_pos h1]; exact rb_right _ _ (rb2 _ (textFit_ok _))
   ·rw [if_neg h1]
    by_cases h2:pickN v.kind 4=2
    ·rw [if_pos h2]; exact rb_right _ _ (rb3 _ (nameFit_ok _))
    ·rw [if_neg h2]
     refine rb4 _ _ (decide_eq_true ⟨by simp; omega,?_⟩)
     show ((v.items.take 16).map _).all (rightV d)=true
     rw [zqQ]
     intro x hx
     obtain ⟨y,_,rfl⟩:=List.mem_map.1 hx
     refine ih _ fun h0=>?_
     split
     ·show pickN 0 4≠3; decide
     ·rename_i hc; intro h3; exact hc ⟨h0,h3⟩
theorem fit_right (v:GV):rightT (fit v)=true:=fitV_right 4 v (by omega)
open Go.Mach
theorem cmpI_self (a:Int):cmpI a a=0:=by simp [cmpI]
theorem cmpI_neg (a b:Int):cmpI b a=-cmpI a b:=by unfold cmpI; grind
theorem cmpI_range (a b:Int):-1≤cmpI a b∧cmpI a b≤1:=by unfold cmpI; grind
theorem cmpI_tr (a b c:Int):(cmpI a b≤0→cmpI b c≤0→cmpI a c≤0)∧(cmpI a b<0→cmpI b c≤0→cmpI a c<0)∧(cmpI a b≤0→cmpI b c<0→cmpI a c<0):=by unfold cmpI; grind
theorem cmpB_range:∀ a b:List UInt8,-1≤Lib.compareBytes a b∧Lib.compareBytes a b≤1
 | [],[]=>by simp [Lib.compareBytes]
 | [],_ :: _=>by simp [Lib.compareBytes]
 | _ :: _,[]=>by simp [Lib.compareBytes]
 | a :: l,b :: m=>by
  have ih:=cmpB_range l m
  simp only [Lib.compareBytes]
  split
  ·omega
  ·split <;> omega
theorem cmpB_neg:∀ a b:List UInt8,Lib.compareBytes b a=-Lib.compareBytes a b
 | [],[]=>by simp [Lib.compareBytes]
 | [],_ :: _=>by simp [Lib.compareBytes]
 | _ :: _,[]=>by simp [Lib.compareBytes]
 | a :: l,b :: m=>by
  have ih:=cmpB_neg l m
  simp only [Lib.compareBytes]
  by_cases h1:a<b
  ·have h2:¬ b<a:=UInt8.lt_asymm h1
   simp [h1,h2]
  ·by_cases h2:b<a
   ·simp [h1,h2]
   ·simp [h1,h2,ih]
theorem cmpB_tr:∀ a b c:List UInt8,(Lib.compareBytes a b≤0→Lib.compareBytes b c≤0→Lib.compareBytes a c≤0)∧(Lib.compareBytes a b<0→Lib.compareBytes b c≤0→Lib.compareBytes a c<0)∧(Lib.compareBytes a b≤0→Lib.compareBytes b c<0→Lib.compareBytes a c<0)
 | [],[],[]=>by simp [Lib.compareBytes]
 | [],[],_ :: _=>by simp [Lib.compareBytes]
 | [],_ :: _,[]=>by simp [Lib.compareBytes]
 | [],_ :: _,_ :: _=>by simp [Lib.compareBytes]
 | _ :: _,[],[]=>by simp [Lib.compareBytes]
 | _ :: _,[],_ :: _=>by simp [Lib.compareBytes]
 | _ :: _,_ :: _,[]=>by simp [Lib.compareBytes]
 | a :: l,b :: m,c :: k=>by
  have ih:=cmpB_tr l m k
  have e1:=@UInt8.lt_iff_toNat_lt a b
  have e2:=@UInt8.lt_iff_toNat_lt b a
  have e3:=@UInt8.lt_iff_toNat_lt b c
  have e4:=@UInt8.lt_iff_toNat_lt c b
  have e5:=@UInt8.lt_iff_toNat_lt a c
  have e6:=@UInt8.lt_iff_toNat_lt c a
  simp only [Lib.compareBytes,e1,e2,e3,e4,e5,e6]
  generalize Lib.compareBytes l m=x at *
  generalize Lib.compareBytes m k=y at *
  generalize Lib.compareBytes l k=z at *
  grind
mutual
theorem cmpV_range:∀ a b:GV,-1≤cmpV a b∧cmpV a b≤1
 | .mk k n t l,b=>by
  have h1:=cmpI_range k b.kind
  have h2:=cmpI_range n b.num
  have h3:=cmpB_range t.data.toList b.text.data.toList
  have h4:=cmpVs_range l b.items
  simp only [cmpV]
  split
  ·exact h1
  ·split
   ·exact h2
   ·split
    ·exact h3
    ·split
     ·exact h4
     ·omega
theorem cmpVs_range:∀ a b:List GV,-1≤cmpVs a b∧cmpVs a b≤1
 | [],[]=>by simp [cmpVs]
 | [],_ :: _=>by simp [cmpVs]
 | _ :: _,[]=>by simp [cmpVs]
 | x :: a,y :: b=>by
  have h1:=cmpV_range x y
  have h2:=cmpVs_range a b
  simp only [cmpVs]
  split
  ·exact h1
  ·exact h2
end
mutual
theorem cmpV_neg:∀ a b:GV,cmpV b a=-cmpV a b
 | .mk k n t l,.mk k2 n2 t2 l2=>by
  have h1:=cmpI_neg k k2
  have h2:=cmpI_neg n n2
  have h3:=cmpB_neg t.data.toList t2.data.toList
  have h4:=cmpVs_neg l l2
  simp only [cmpV,GV.kind,GV.num,GV.text,GV.items]
  by_cases hk:k=k2
  ·subst hk
   simp only [cmpI_self]
   split
   ·omega
   ·split
    ·exact h2
    ·split
     ·exact h3
     ·split
      ·exact h4
      ·rfl
  ·have hz:cmpI k k2≠0:=by unfold cmpI; grind
   have hz2:cmpI k2 k≠0:=by unfold cmpI; grind
   simp only [hz,hz2,ne_eq,not_false_eq_true,if_true]; exact h1
theorem cmpVs_neg:∀ a b:List GV,cmpVs b a=-cmpVs a b
 | [],[]=>by simp [cmpVs]
 | [],_ :: _=>by simp [cmpVs]
 | _ :: _,[]=>by simp [cmpVs]
 | x :: a,y :: b=>by
  have h1:=cmpV_neg x y
  have h2:=cmpVs_neg a b
  simp only [cmpVs]
  by_cases h:cmpV x y=0
  ·have:cmpV y x=0:=by omega
   simp [h,this,h2]
  ·have:cmpV y x≠0:=by omega
   simp [h,this,h1]
end
mutual
theorem cmpV_tr:∀ a b c:GV,(cmpV a b≤0→cmpV b c≤0→cmpV a c≤0)∧(cmpV a b<0→cmpV b c≤0→cmpV a c<0)∧(cmpV a b≤0→cmpV b c<0→cmpV a c<0)
 | .mk k n t l,.mk k2 n2 t2 l2,.mk k3 n3 t3 l3=>by
  have h1:=cmpI_tr k k2 k3
  have h2:=cmpI_tr n n2 n3
  have h3:=cmpB_tr t.data.toList t2.data.toList t3.data.toList
  have h4:=cmpVs_tr l l2 l3
  simp only [cmpV,GV.kind,GV.num,GV.text,GV.items]
  by_cases hk:k=k2
  ·subst hk
   by_cases hk2:k=k3
   ·subst hk2
    simp only [cmpI_self,ne_eq,not_true_eq_false,if_false]
    split
    ·exact h2
    ·split
     ·exact h3
     ·split
      ·exact h4
      ·simp
   ·have hz:cmpI k k3≠0:=by unfold cmpI; grind
    simp only [cmpI_self,ne_eq,not_true_eq_false,if_false,hz,not_false_eq_true,if_true]
    grind
  ·have hz:cmpI k k2≠0:=by unfold cmpI; grind
   by_cases hk2:k2=k3
   ·subst hk2
    simp only [cmpI_self,ne_eq,not_true_eq_false,if_false,hz,not_false_eq_true,if_true]
    grind
   ·have hz2:cmpI k2 k3≠0:=by unfold cmpI; grind
    simp only [ne_eq,hz,hz2,not_false_eq_true,if_true]
    by_cases hz3:cmpI k k3=0
    ·have e:k=k3:=by revert hz3; unfold cmpI; grind
     subst e
     have:=cmpI_neg k k2
     simp only [cmpI_self,not_true_eq_false,if_false]
     grind
    ·simp only [hz3,not_false_eq_true,if_true]; exact h1
theorem cmpVs_tr:∀ a b c:List GV,(cmpVs a b≤0→cmpVs b c≤0→cmpVs a c≤0)∧(cmpVs a b<0→cmpVs b c≤0→cmpVs a c<0)∧(cmpVs a b≤0→cmpVs b c<0→cmpVs a c<0)
 | [],[],[]=>by simp [cmpVs]
 | [],[],_ :: _=>by simp [cmpVs]
 | [],_ :: _,[]=>by simp [cmpVs]
 | [],_ :: _,_ :: _=>by simp [cmpVs]
 | _ :: _,[],[]=>by simp [cmpVs]
 | _ :: _,[],_ :: _=>by simp [cmpVs]
 | _ :: _,_ :: _,[]=>by simp [cmpVs]
 | x :: a,y :: b,z :: c=>by
  have h1:=cmpV_tr x y z
  have h1':=cmpV_tr z y x
  have n1:=cmpV_neg x y
  have n2:=cmpV_neg y z
  have n3:=cmpV_neg x z
  have h2:=cmpVs_tr a b c
  simp only [cmpVs]
  rw [n1,n2,n3] at h1'
  generalize cmpV x y=p at *
  generalize cmpV y z=q at *
  generalize cmpV x z=r at *
  generalize cmpVs a b=p' at *
  generalize cmpVs b c=q' at *
  generalize cmpVs a c=r' at *
  grind
end
open Go.Mach
theorem cmpI_zero {a b:Int}:cmpI a b=0↔a=b:=by unfold cmpI; grind
theorem cmpB_zero:∀ {a b:List UInt8},Lib.compareBytes a b=0↔a=b
 | [],[]=>by simp [Lib.compareBytes]
 | [],_ :: _=>by simp [Lib.compareBytes]
 | _ :: _,[]=>by simp [Lib.compareBytes]
 | x :: a,y :: b=>by
  have ih:=cmpB_zero (a:=a) (b:=b)
  simp only [Lib.compareBytes,List.cons.injEq]
  by_cases h1:x<y
  ·rw [if_pos h1]; constructor
   ·intro h; cases h
   ·rintro ⟨rfl,_⟩; exact absurd h1 (UInt8.lt_irrefl _)
  ·rw [if_neg h1]
   by_cases h2:y<x
   ·rw [if_pos h2]; constructor
    ·intro h; cases h
    ·rintro ⟨rfl,_⟩; exact absurd h2 (UInt8.lt_irrefl _)
   ·rw [if_neg h2,ih]
    have:x=y:=UInt8.le_antisymm (UInt8.not_lt.1 h2) (UInt8.not_lt.1 h1)
    simp [this]
theorem bytes_ext {s t:ByteArray} (h:s.data.toList=t.data.toList):s=t:=by
 cases s; cases t; simp only [ByteArray.mk.injEq]; exact Array.toList_inj.1 h
theorem rightB_spec {v:GV} {b:Bool} (h:rightB v b=true):(v.kind=1∧v.text=⟨#[]⟩∧v.items=[])∨((v.kind=2∨v.kind=3)∧v.num=0∧v.items=[])∨(v.kind=4∧v.num=0∧v.text=⟨#[]⟩∧b=true):=by
 obtain ⟨k,n,t,l⟩:=v
 simp only [rightB,GV.kind,GV.num,GV.text,GV.items] at h ⊢
 split at h
 ·have:=of_decide_eq_true h; exact .inl ⟨by assumption,this.1,this.2.1⟩
 ·split at h
  ·have:=of_decide_eq_true h; exact .inr (.inl ⟨.inl (by assumption),this.1,this.2.1⟩)
  ·split at h
   ·have:=of_decide_eq_true h; exact .inr (.inl ⟨.inr (by assumption),this.1,this.2.1⟩)
   ·split at h
    ·have:=of_decide_eq_true h; exact .inr (.inr ⟨by assumption,this.1,this.2.1,this.2.2⟩)
    ·cases h
mutual
theorem cmp_eq:∀ (a b:GV) (d e:Nat),rightV d a=true→rightV e b=true→cmpV a b=0→a=b
 | .mk k n t l,b,d,e,ha,hb,hc=>by
  obtain ⟨k2,n2,t2,l2⟩:=b
  have hA:∃ q,rightB (.mk k n t l) q=true∧(q=true→∃ d',l.all (rightV d')=true):=by
   cases d with
   | zero=>exact ⟨false,ha,by intro h; cases h⟩
   | succ d=>exact ⟨_,ha,fun h=>⟨d,(of_decide_eq_true h).2⟩⟩
  have hB:∃ q,rightB (.mk k2 n2 t2 l2) q=true∧(q=true→∃ d',l2.all (rightV d')=true):=by
   cases e with
   | zero=>exact ⟨false,hb,by intro h; cases h⟩
   | succ d=>exact ⟨_,hb,fun h=>⟨d,(of_decide_eq_true h).2⟩⟩
  obtain ⟨qa,hA1,hA2⟩:=hA
  obtain ⟨qb,hB1,hB2⟩:=hB
  have sa:=rightB_spec hA1
  have sb:=rightB_spec hB1
  simp only [cmpV,GV.kind,GV.num,GV.text,GV.items] at hc sa sb
  by_cases hk:k=k2
  ·subst hk
   rw [if_neg (by simp [cmpI_zero])] at hc
   rcases sa with ⟨h1,h2,h3⟩ | ⟨h1,h2,h3⟩ | ⟨h1,h2,h3,h4⟩
   ·subst h1
    rw [if_pos rfl,cmpI_zero] at hc
    grind
   ·rw [if_neg (by omega),if_pos h1,cmpB_zero] at hc
    have:=bytes_ext hc
    grind
   ·subst h1
    rw [if_neg (by decide),if_neg (by decide),if_pos rfl] at hc
    have s2:n2=0∧t2=⟨#[]⟩∧qb=true:=by grind
    obtain ⟨d',hd⟩:=hA2 h4
    obtain ⟨e',he⟩:=hB2 s2.2.2
    have:=cmps_eq l l2 d' e' hd he hc
    grind
  ·rw [if_pos (by rw [Ne,cmpI_zero]; exact hk)] at hc
   exact absurd (cmpI_zero.1 hc) hk
theorem cmps_eq:∀ (a b:List GV) (d e:Nat),a.all (rightV d)=true→b.all (rightV e)=true→cmpVs a b=0→a=b
 | [],[],d,e,ha,hb,hc=>rfl
 | [],_ :: _,d,e,ha,hb,hc=>by simp [cmpVs] at hc
 | _ :: _,[],d,e,ha,hb,hc=>by simp [cmpVs] at hc
 | x :: a,y :: b,d,e,ha,hb,hc=>by
  simp only [List.all_cons,zqL] at ha hb
  simp only [cmpVs] at hc
  by_cases hz:cmpV x y=0
  ·rw [if_neg (by simp [hz])] at hc
   rw [cmp_eq x y d e ha.1 hb.1 hz,cmps_eq a b d e ha.2 hb.2 hc]
  ·rw [if_pos hz] at hc; exact absurd hc hz
end
open Go.Mach
mutual
def pr:GV→List UInt8
 | .mk k n t l=>if k=1 then Lib.itoa n else if k=2 then 34 :: (t.data.toList++[34]) else if k=3 then t.data.toList else if k=4 then 91 :: (prs l++[93]) else []
def prs:List GV→List UInt8
 | []=>[]
 | x :: l=>pr x++prc l
def prc:List GV→List UInt8
 | []=>[]
 | x :: l=>44 :: (pr x++prc l)
end
open Go.Mach
def S (l:List UInt8):ByteArray:=⟨l.toArray⟩
end Go.Proofs.Ytkfiepnkedcmgaa
end
section
namespace Go.Mach
inductive GT where
 | mk (kind:Int) (name:ByteArray) (value:GV) (args:List GT)
 deriving Inhabited
namespace GT
abbrev kind:GT→Int | .mk k _ _ _=>k
abbrev name:GT→ByteArray | .mk _ n _ _=>n
abbrev value:GT→GV | .mk _ _ v _=>v
abbrev args:GT→List GT | .mk _ _ _ l=>l
mutual
def enc:GT→AV
 | .mk k n v l=>.agg [.int .i64 k,.str n,.int .i64 v.kind,.int .i64 v.num,.str v.text,.isl (GV.encs v.items) false,.isl (encs l) false]
def encs:List GT→List AV
 | []=>[]
 | v :: l=>enc v :: encs l
end
theorem encs_map:∀ l:List GT,encs l=l.map enc
 | []=>rfl
 | v :: l=>by simp only [encs,List.map_cons,encs_map l]
@[simp] theorem encs_length (l:List GT):(encs l).length=l.length:=by simp [encs_map]
@[simp] theorem encs_get (l:List GT) (i:Nat):(encs l)[i]?=l[i]?.map enc:=by simp [encs_map]
@[simp] theorem encs_getE (l:List GT) (i:Nat) (h:i<(encs l).length):(encs l)[i]=(l[i]'(by simpa using h)).enc:=by simp [encs_map]
theorem encs_nil (l:List GT):encs l=[]↔l=[]:=by cases l <;> simp [encs]
@[simp] theorem encs_nil':encs []=[]:=rfl
@[simp] theorem encs_one (v:GT):encs [v]=[v.enc]:=rfl
@[simp] theorem encs_snoc (l:List GT) (v:GT):encs l++[v.enc]=encs (l++[v]):=by simp [encs_map]
@[simp] theorem eta (v:GT):GT.mk v.kind v.name v.value v.args=v:=by cases v; rfl
theorem enc_eq (v:GT):v.enc=.agg [.int .i64 v.kind,.str v.name,.int .i64 v.value.kind,.int .i64 v.value.num,.str v.value.text,.isl (GV.encs v.value.items) false,.isl (encs v.args) false]:=by cases v; simp only [enc]
theorem enc_mk (k:Int) (n:ByteArray) (vk vn:Int) (vt:ByteArray) (vl:List GV) (l:List GT) :
  AV.agg [.int .i64 k,.str n,.int .i64 vk,.int .i64 vn,.str vt,.isl (GV.encs vl) false,.isl (encs l) false]=(GT.mk k n (.mk vk vn vt vl) l).enc:=by simp only [enc]
@[simp] theorem enc_cells (v:GT):v.enc.cells=[.int .i64 v.kind,.str v.name,.int .i64 v.value.kind,.int .i64 v.value.num,.str v.value.text,.isl (GV.encs v.value.items) false,.isl (encs v.args) false]:=by rw [enc_eq]; rfl
@[simp] theorem enc_solid (v:GT):v.enc.solid=true:=by rw [enc_eq]; rfl
@[simp] theorem enc_head (v:GT) (xs:List AV):headYld (v.enc :: xs)=false:=by rw [enc_eq]; rfl
@[simp] theorem enc_clean (v:GT):v.enc.clean=true:=by rw [enc_eq]; rfl
@[simp] theorem enc_closeR (σ:Heap) (v:GT):closeR σ v.enc=some (v.enc,σ):=by rw [enc_eq]; rfl
@[simp] theorem enc_datR (v:GT):v.enc.datR=true:=by rw [enc_eq]; rfl
@[simp] theorem enc_dat (v:GT):v.enc.dat=true:=by rw [enc_eq]; rfl
@[simp] theorem enc_clo (v:GT):v.enc.clo=true:=by rw [enc_eq]; rfl
@[simp] theorem encs_okEl (l:List GT):(encs l).all (okEl 7 true)=true:=by
 rw [zqQ]
 intro x hx
 rw [encs_map] at hx
 obtain ⟨v,_,rfl⟩:=List.mem_map.1 hx
 rw [enc_eq]; rfl
mutual
def ok:GT→Prop
 | .mk k _ v l=>GV.i64ok k∧v.ok∧oks l
def oks:List GT→Prop
 | []=>True
 | v :: l=>ok v∧oks l
end
theorem oks_iff:∀ l:List GT,oks l↔∀ v∈l,ok v
 | []=>by simp [oks]
 | v :: l=>by simp [oks,oks_iff l]
mutual
def size:GT→Nat
 | .mk k n v l=>n.size+v.size+sizes l+3
def sizes:List GT→Nat
 | []=>0
 | v :: l=>size v+sizes l
end
theorem sizes_mem {l:List GT} {x:GT} (h:x∈l):x.size+5≤GT.sizes l+5∧l.length≤GT.sizes l:=by
 induction l with
 | nil=>cases h
 | cons y l ih=>
  have hy:5≤y.size:=by obtain ⟨k,n,v,l⟩:=y; cases v; simp [GT.size,GV.size]; omega
  rcases List.mem_cons.1 h with rfl | h
  ·refine ⟨by simp [GT.sizes],?_⟩
   have:∀ l:List GT,l.length≤GT.sizes l:=fun l=>by
    induction l with
    | nil=>simp [GT.sizes]
    | cons z l ih=>have:5≤z.size:=(by obtain ⟨k,n,v,l⟩:=z; cases v; simp [GT.size,GV.size]; omega); simp [GT.sizes]; omega
   have:=this l
   simp [GT.sizes]; omega
  ·obtain ⟨h1,h2⟩:=ih h
   simp [GT.sizes]; omega
theorem len_sizes (l:List GT):l.length≤GT.sizes l:=by
 cases l with
 | nil=>simp
 | cons x l=>exact (sizes_mem (List.mem_cons_self (a:=x) (l:=l))).2
end GT
structure GB where
 name:ByteArray
 value:GV
 deriving Inhabited
namespace GB
def enc (b:GB):AV:=.agg [.str b.name,.int .i64 b.value.kind,.int .i64 b.value.num,.str b.value.text,.isl (GV.encs b.value.items) false]
def encs (l:List GB):List AV:=l.map enc
@[simp] theorem encs_length (l:List GB):(encs l).length=l.length:=by simp [encs]
@[simp] theorem encs_get (l:List GB) (i:Nat):(encs l)[i]?=l[i]?.map enc:=by simp [encs]
@[simp] theorem encs_getE (l:List GB) (i:Nat) (h:i<(encs l).length):(encs l)[i]=(l[i]'(by simpa using h)).enc:=by simp [encs]
theorem encs_nil (l:List GB):encs l=[]↔l=[]:=by cases l <;> simp [encs]
@[simp] theorem encs_nil':encs []=[]:=rfl
@[simp] theorem encs_one (v:GB):encs [v]=[v.enc]:=rfl
@[simp] theorem encs_snoc (l:List GB) (v:GB):encs l++[v.enc]=encs (l++[v]):=by simp [encs]
theorem enc_mk (n:ByteArray) (vk vn:Int) (vt:ByteArray) (vl:List GV) :
  AV.agg [.str n,.int .i64 vk,.int .i64 vn,.str vt,.isl (GV.encs vl) false]=(GB.mk n (.mk vk vn vt vl)).enc:=rfl
@[simp] theorem enc_cells (b:GB):b.enc.cells=[.str b.name,.int .i64 b.value.kind,.int .i64 b.value.num,.str b.value.text,.isl (GV.encs b.value.items) false]:=rfl
@[simp] theorem enc_solid (v:GB):v.enc.solid=true:=rfl
@[simp] theorem enc_head (v:GB) (xs:List AV):headYld (v.enc :: xs)=false:=by cases v; rfl
@[simp] theorem enc_clean (v:GB):v.enc.clean=true:=rfl
@[simp] theorem enc_closeR (σ:Heap) (v:GB):closeR σ v.enc=some (v.enc,σ):=rfl
@[simp] theorem enc_datR (v:GB):v.enc.datR=true:=rfl
@[simp] theorem enc_dat (v:GB):v.enc.dat=true:=rfl
@[simp] theorem enc_clo (v:GB):v.enc.clo=true:=rfl
@[simp] theorem encs_okEl (l:List GB):(encs l).all (okEl 5 true)=true:=by
 rw [zqQ]
 intro x hx
 obtain ⟨v,_,rfl⟩:=List.mem_map.1 hx
 rfl
def size (b:GB):Nat:=b.name.size+b.value.size+1
def ok (b:GB):Prop:=b.value.ok
end GB
end Go.Mach
end
section
namespace Go.Proofs.Ytkfiepnkedcmgaa
open Go.Mach
end Go.Proofs.Ytkfiepnkedcmgaa
end
section
namespace Go.Mach
theorem setRun_take:∀ (vs cs:List AV) (o:Nat),o+vs.length≤cs.length→setRun cs o vs=cs.take o++vs++cs.drop (o+vs.length)
 | [],cs,o,h=>by simp [setRun]
 | v :: vs,cs,o,h=>by
  simp only [zqU] at h
  rw [setRun,setRun_take vs _ _ (by simp; omega)]
  rw [List.take_set,List.take_add_one,List.drop_set]
  have h1:o<cs.length:=by omega
  rw [if_pos (by omega)]
  simp only [zqF h1,Option.toList_some,zqU]
  rw [List.set_append_right _ _ (by simp; omega)]
  simp only [List.length_take,Nat.min_eq_left (Nat.le_of_lt h1),Nat.sub_self,List.set_cons_zero]
  rw [show o+1+vs.length=o+(vs.length+1) by omega]
  simp
theorem flat_cons (x:AV) (es:List AV):flat (x :: es)=x.cells++flat es:=by simp [flat]
theorem flat_len {s:Nat}:∀ {es:List AV},(∀ e∈es,e.cells.length=s)→(flat es).length=es.length * s
 | [],_=>by simp [flat]
 | x :: es,h=>by
  rw [flat_cons,zqJ,flat_len fun e he=>h e (by simp [he]),h x (by simp),zqU,Nat.add_mul]; omega
theorem flat_win {s:Nat}:∀ {es:List AV} {i:Nat} (hi:i<es.length),(∀ e∈es,e.cells.length=s)→window (flat es) (i * s) s=some es[i].cells
 | x :: es,0,hi,h=>by
  have hx:=h x (by simp)
  unfold window
  rw [flat_cons,if_pos (by simp; omega)]
  simp only [Nat.zero_mul,List.drop_zero,List.getElem_cons_zero]
  rw [List.take_append_of_le_length (by omega),List.take_of_length_le (by omega)]
 | x :: es,i+1,hi,h=>by
  have hx:=h x (by simp)
  have hi':i<es.length:=by simpa using hi
  have ih:=flat_win hi' (fun e he=>h e (by simp [he]))
  have hl:(flat es).length=es.length * s:=flat_len (fun e he=>h e (List.mem_cons_of_mem _ he))
  unfold window at ih ⊢
  split at ih
  ·rename_i hc
   rw [flat_cons,if_pos (by simp; rw [Nat.add_mul]; omega)]
   injection ih with ih
   rw [List.getElem_cons_succ,←ih]
   have e:(i+1) * s=x.cells.length+i * s:=by rw [Nat.add_mul]; omega
   rw [e,List.drop_append,List.drop_of_length_le (by omega),List.nil_append,Nat.add_sub_cancel_left]
  ·cases ih
theorem flat_set {s:Nat} {v:AV} (hv:v.cells.length=s):∀ {es:List AV} {i:Nat} (hi:i<es.length),(∀ e∈es,e.cells.length=s)→setRun (flat es) (i * s) v.cells=flat (es.set i v)
 | x :: es,0,hi,h=>by
  have hx:=h x (by simp)
  rw [setRun_take _ _ _ (by rw [flat_cons]; simp; omega),flat_cons,List.set_cons_zero,flat_cons]
  simp only [Nat.zero_mul,List.take_zero,List.nil_append,Nat.zero_add]
  rw [List.drop_append,List.drop_of_length_le (by omega),hv,hx]; simp
 | x :: es,i+1,hi,h=>by
  have hx:=h x (by simp)
  have hi':i<es.length:=by simpa using hi
  have ih:=flat_set hv hi' (fun e he=>h e (by simp [he]))
  have hl:(flat es).length=es.length * s:=flat_len (fun e he=>h e (List.mem_cons_of_mem _ he))
  have hle:i * s+s≤es.length * s:=by rw [←Nat.succ_mul]; exact Nat.mul_le_mul_right _ hi'
  have hl':(flat es).length=es.length * s:=flat_len fun e he=>h e (by simp [he])
  rw [setRun_take _ _ _ (by omega)] at ih
  rw [setRun_take _ _ _ (by rw [flat_cons,zqJ,hl,Nat.add_mul]; omega),flat_cons,List.set_cons_succ,flat_cons,←ih]
  have e:(i+1) * s=x.cells.length+i * s:=by rw [Nat.add_mul]; omega
  rw [e,List.take_append,List.drop_append]
  simp only [zqP]
  rw [List.take_of_length_le (by omega),List.drop_of_length_le (by omega)]
  simp only [List.nil_append]
  congr 2
  ·rw [Nat.add_sub_cancel_left]
  ·congr 2
   omega
theorem flat_chunk {s:Nat}:∀ {es:List AV},(∀ e∈es,∃ cs,e=.agg cs∧cs.length=s)→chunk s true es.length (flat es)=some es
 | [],_=>rfl
 | x :: es,h=>by
  obtain ⟨cs,rfl,hl⟩:=h x (by simp)
  have ih:=flat_chunk (es:=es) (fun e he=>h e (List.mem_cons_of_mem _ he))
  simp only [zqU,chunk]
  rw [flat_cons]
  show ((mk true ((cs++flat es).take s)).bind _)=_
  rw [List.take_append_of_le_length (by omega),List.take_of_length_le (by omega)]
  show ((chunk s true es.length ((cs++flat es).drop s)).map _)=_
  rw [List.drop_append,List.drop_of_length_le (by omega),hl,Nat.sub_self,List.drop_zero,List.nil_append,ih]; rfl
theorem encsV_len (l:List GV):∀ e∈GV.encs l,e.cells.length=4:=fun e he=>by
 rw [GV.encs_map] at he; obtain ⟨v,_,rfl⟩:=List.mem_map.1 he; simp
def clo1n:AV→Bool
 | .isl _ true=>false
 | x=>x.clo1
theorem clo1n_all {l:List AV} (h:l.all clo1n=true):l.all AV.clo1=true∧l.map AV.nrm=l:=by
 induction l with
 | nil=>exact ⟨rfl,rfl⟩
 | cons x l ih=>
  simp only [List.all_cons,zqL] at h
  obtain ⟨h1,h2⟩:=ih h.2
  have hx:x.clo1=true∧x.nrm=x:=by
   have:=h.1
   cases x <;> first | exact ⟨rfl,rfl⟩ | (cases this; done) | skip
   rename_i es c
   cases c
   ·exact ⟨rfl,rfl⟩
   ·cases this
  exact ⟨by simp [h1,hx.1],by simp only [List.map_cons,hx.2,h2]⟩
theorem encsV_clo (l:List GV):(flat (GV.encs l)).all clo1n=true:=by
 rw [zqQ]; intro x hx
 obtain ⟨e,he,hxe⟩:=List.mem_flatMap.1 hx
 rw [GV.encs_map] at he; obtain ⟨v,_,rfl⟩:=List.mem_map.1 he
 rw [GV.enc_cells] at hxe
 simp at hxe; rcases hxe with rfl | rfl | rfl | rfl <;> rfl
theorem close1_flat {σ:Heap} {id s fz:Nat} {ext:Bool} {es:List AV} (h:σ[id]?=some (.cells (flat es) fz ext)) (hne:es≠[]) (ha:∀ e∈es,∃ cs,e=.agg cs∧cs.length=s) (hc:(flat es).all clo1n=true) :
  close1 σ (.sl id 0 es.length s true)=some (.isl es false,frz σ id (es.length * s)):=by
 have hl:∀ e∈es,e.cells.length=s:=fun e he=>by obtain ⟨cs,rfl,hl⟩:=ha e he; exact hl
 have h0:es.length≠0:=fun e=>hne (List.eq_nil_of_length_eq_zero e)
 apply close1_of0
 simp only [close0,if_neg h0,h]
 rw [window_full (flat_len hl),Option.bind_some,if_pos (clo1n_all hc).1,(clo1n_all hc).2,flat_chunk ha]
 simp
end Go.Mach
end
section
namespace Go.Mach
structure IsT (P:Program) (tT tTL tV tL tI tS:TypeId):Prop where
 fs:∃ fs:Array Field,P.underlying tT=some (.struct fs)∧fs.toList.map (·.type)=[tI,tS,tV,tTL]
 list:P.underlying tTL=some (.slice tT)
 val:IsV P tV tL tI tS
structure IsB (P:Program) (tB tBL tV tL tI tS:TypeId):Prop where
 fs:∃ fs:Array Field,P.underlying tB=some (.struct fs)∧fs.toList.map (·.type)=[tS,tV]
 list:P.underlying tBL=some (.slice tB)
 val:IsV P tV tL tI tS
def fieldTys (P:Program) (t:TypeId):Option (List TypeId):=match P.underlying t with
 | some (.struct fs)=>some (fs.toList.map (·.type))
 | _=>none
theorem fieldTys_some {P:Program} {t:TypeId} {l:List TypeId} (h:fieldTys P t=some l):∃ fs:Array Field,P.underlying t=some (.struct fs)∧fs.toList.map (·.type)=l:=by
 unfold fieldTys at h
 split at h
 ·rename_i fs hu; injection h with h; exact ⟨fs,hu,h⟩
 ·cases h
theorem argI {P:Program} {tI:TypeId} (hS:P.underlying tI=some (.int .i64)) {x:AV} (h:TyA P tI x) (hb:bulkA x≤1048576):∃ n:Int,x=.int .i64 n∧GV.i64ok n:=by
 have e1:IntKind.i64.min=-9223372036854775808:=by decide
 have e2:IntKind.i64.max=9223372036854775807:=by decide
 obtain ⟨n,rfl,n1,n2⟩:=h.asInt hS
 rw [e1] at n1; rw [e2] at n2
 exact ⟨n,rfl,n1,n2⟩
end Go.Mach
namespace Go.Proofs.Ytkfiepnkedcmgaa
open Go.Mach
theorem tyV:IsV Try.prog 71 40 3 9:=⟨fieldTys_some (by kernel_rfl),by kernel_rfl,by kernel_rfl,by kernel_rfl⟩
end Go.Proofs.Ytkfiepnkedcmgaa
end
section
namespace Go.Mach
theorem bulk_mem {es:List AV} {x:AV} (h:x∈es):bulkA x≤bulkAs es:=by
 induction es with
 | nil=>cases h
 | cons y l ih=>
  simp only [bulkAs]
  rcases List.mem_cons.1 h with rfl | h
  ·omega
  ·have:=ih h; omega
theorem bulk_pos (x:AV):1≤bulkA x:=by cases x <;> simp [bulkA]
theorem bulk_len:∀ es:List AV,es.length≤bulkAs es
 | []=>by simp
 | x :: l=>by have:=bulk_len l; have:=bulk_pos x; simp only [bulkAs,zqU]; omega
theorem list_enc {α:Type} (enc:α→AV) (ok:α→Prop):∀ l:List AV,(∀ y∈l,∃ v:α,y=enc v∧ok v)→∃ l':List α,l=l'.map enc∧∀ b∈l',ok b
 | [],_=>⟨[],rfl,by simp⟩
 | y :: l,h=>by
  obtain ⟨v,rfl,hv⟩:=h y (by simp)
  obtain ⟨l',rfl,hl'⟩:=list_enc enc ok l fun z hz=>h z (by simp [hz])
  exact ⟨v :: l',rfl,fun b hb=>by rcases List.mem_cons.1 hb with rfl | hb; exact hv; exact hl' b hb⟩
structure GL where
 kind:Int
 name:ByteArray
 args:List GT
 deriving Inhabited
namespace GL
def enc (x:GL):AV:=.agg [.int .i64 x.kind,.str x.name,.isl (GT.encs x.args) false]
theorem enc_mk (kind':Int) (name':ByteArray) (args':List GT):AV.agg [.int .i64 kind',.str name',.isl (GT.encs args') false]=enc ⟨kind',name',args'⟩:=rfl
theorem enc_eq (x:GL):x.enc=.agg [.int .i64 x.kind,.str x.name,.isl (GT.encs x.args) false]:=rfl
@[simp] theorem eta (x:GL):(⟨x.kind,x.name,x.args⟩:GL)=x:=rfl
@[simp] theorem enc_cells (x:GL):x.enc.cells=[.int .i64 x.kind,.str x.name,.isl (GT.encs x.args) false]:=rfl
@[simp] theorem enc_solid (x:GL):x.enc.solid=true:=rfl
@[simp] theorem enc_head (x:GL) (xs:List AV):headYld (x.enc :: xs)=false:=by cases x; rfl
@[simp] theorem enc_clean (x:GL):x.enc.clean=true:=rfl
@[simp] theorem enc_datR (x:GL):x.enc.datR=true:=rfl
@[simp] theorem enc_dat (x:GL):x.enc.dat=true:=rfl
@[simp] theorem enc_clo (x:GL):x.enc.clo=true:=rfl
@[simp] theorem enc_clo1 (x:GL):x.enc.clo1=false:=rfl
@[simp] theorem enc_closeR (σ:Heap) (x:GL):closeR σ x.enc=some (x.enc,σ):=rfl
@[simp] theorem encs_okEl (l:List GL):(l.map enc).all (okEl 3 true)=true:=by
 rw [zqQ]; intro x hx
 obtain ⟨v,_,rfl⟩:=List.mem_map.1 hx
 rfl
def ok (x:GL):Prop:=GV.i64ok x.kind∧GT.oks x.args
def size (x:GL):Nat:=bulkA x.enc
end GL
structure GU where
 name:ByteArray
 args:List GV
 deriving Inhabited
namespace GU
def enc (x:GU):AV:=.agg [.str x.name,.isl (GV.encs x.args) false]
theorem enc_mk (name':ByteArray) (args':List GV):AV.agg [.str name',.isl (GV.encs args') false]=enc ⟨name',args'⟩:=rfl
theorem enc_eq (x:GU):x.enc=.agg [.str x.name,.isl (GV.encs x.args) false]:=rfl
@[simp] theorem eta (x:GU):(⟨x.name,x.args⟩:GU)=x:=rfl
@[simp] theorem enc_cells (x:GU):x.enc.cells=[.str x.name,.isl (GV.encs x.args) false]:=rfl
@[simp] theorem enc_solid (x:GU):x.enc.solid=true:=rfl
@[simp] theorem enc_head (x:GU) (xs:List AV):headYld (x.enc :: xs)=false:=by cases x; rfl
@[simp] theorem enc_clean (x:GU):x.enc.clean=true:=rfl
@[simp] theorem enc_datR (x:GU):x.enc.datR=true:=rfl
@[simp] theorem enc_dat (x:GU):x.enc.dat=true:=rfl
@[simp] theorem enc_clo (x:GU):x.enc.clo=true:=rfl
@[simp] theorem enc_clo1 (x:GU):x.enc.clo1=false:=rfl
@[simp] theorem enc_closeR (σ:Heap) (x:GU):closeR σ x.enc=some (x.enc,σ):=rfl
@[simp] theorem encs_okEl (l:List GU):(l.map enc).all (okEl 2 true)=true:=by
 rw [zqQ]; intro x hx
 obtain ⟨v,_,rfl⟩:=List.mem_map.1 hx
 rfl
def ok (x:GU):Prop:=GV.oks x.args
def size (x:GU):Nat:=bulkA x.enc
end GU
structure GD where
 name:ByteArray
 arity:Int
 deriving Inhabited
namespace GD
def enc (x:GD):AV:=.agg [.str x.name,.int .i64 x.arity]
theorem enc_mk (name':ByteArray) (arity':Int):AV.agg [.str name',.int .i64 arity']=enc ⟨name',arity'⟩:=rfl
theorem enc_eq (x:GD):x.enc=.agg [.str x.name,.int .i64 x.arity]:=rfl
@[simp] theorem eta (x:GD):(⟨x.name,x.arity⟩:GD)=x:=rfl
@[simp] theorem enc_cells (x:GD):x.enc.cells=[.str x.name,.int .i64 x.arity]:=rfl
@[simp] theorem enc_solid (x:GD):x.enc.solid=true:=rfl
@[simp] theorem enc_head (x:GD) (xs:List AV):headYld (x.enc :: xs)=false:=by cases x; rfl
@[simp] theorem enc_clean (x:GD):x.enc.clean=true:=rfl
@[simp] theorem enc_datR (x:GD):x.enc.datR=true:=rfl
@[simp] theorem enc_dat (x:GD):x.enc.dat=true:=rfl
@[simp] theorem enc_clo (x:GD):x.enc.clo=true:=rfl
@[simp] theorem enc_clo1 (x:GD):x.enc.clo1=false:=rfl
@[simp] theorem enc_closeR (σ:Heap) (x:GD):closeR σ x.enc=some (x.enc,σ):=rfl
@[simp] theorem encs_okEl (l:List GD):(l.map enc).all (okEl 2 true)=true:=by
 rw [zqQ]; intro x hx
 obtain ⟨v,_,rfl⟩:=List.mem_map.1 hx
 rfl
def ok (x:GD):Prop:=GV.i64ok x.arity
def size (x:GD):Nat:=bulkA x.enc
end GD
structure GR where
 label:ByteArray
 head:ByteArray
 args:List GT
 agg:ByteArray
 pos:Int
 body:List GL
 deriving Inhabited
namespace GR
def enc (x:GR):AV:=.agg [.str x.label,.str x.head,.isl (GT.encs x.args) false,.str x.agg,.int .i64 x.pos,.isl (x.body.map GL.enc) false]
theorem enc_mk (label':ByteArray) (head':ByteArray) (args':List GT) (agg':ByteArray) (pos':Int) (body':List GL):AV.agg [.str label',.str head',.isl (GT.encs args') false,.str agg',.int .i64 pos',.isl (body'.map GL.enc) false]=enc ⟨label',head',args',agg',pos',body'⟩:=rfl
theorem enc_eq (x:GR):x.enc=.agg [.str x.label,.str x.head,.isl (GT.encs x.args) false,.str x.agg,.int .i64 x.pos,.isl (x.body.map GL.enc) false]:=rfl
@[simp] theorem eta (x:GR):(⟨x.label,x.head,x.args,x.agg,x.pos,x.body⟩:GR)=x:=rfl
@[simp] theorem enc_cells (x:GR):x.enc.cells=[.str x.label,.str x.head,.isl (GT.encs x.args) false,.str x.agg,.int .i64 x.pos,.isl (x.body.map GL.enc) false]:=rfl
@[simp] theorem enc_solid (x:GR):x.enc.solid=true:=rfl
@[simp] theorem enc_head (x:GR) (xs:List AV):headYld (x.enc :: xs)=false:=by cases x; rfl
@[simp] theorem enc_clean (x:GR):x.enc.clean=true:=rfl
@[simp] theorem enc_datR (x:GR):x.enc.datR=true:=rfl
@[simp] theorem enc_dat (x:GR):x.enc.dat=true:=rfl
@[simp] theorem enc_clo (x:GR):x.enc.clo=true:=rfl
@[simp] theorem enc_clo1 (x:GR):x.enc.clo1=false:=rfl
@[simp] theorem enc_closeR (σ:Heap) (x:GR):closeR σ x.enc=some (x.enc,σ):=rfl
@[simp] theorem encs_okEl (l:List GR):(l.map enc).all (okEl 6 true)=true:=by
 rw [zqQ]; intro x hx
 obtain ⟨v,_,rfl⟩:=List.mem_map.1 hx
 rfl
def ok (x:GR):Prop:=GT.oks x.args∧GV.i64ok x.pos∧(∀ y∈x.body,y.ok)
def size (x:GR):Nat:=bulkA x.enc
end GR
structure GP where
 decls:List GD
 facts:List GU
 rules:List GR
 deriving Inhabited
namespace GP
def enc (x:GP):AV:=.agg [.isl (x.decls.map GD.enc) false,.isl (x.facts.map GU.enc) false,.isl (x.rules.map GR.enc) false]
theorem enc_mk (decls':List GD) (facts':List GU) (rules':List GR):AV.agg [.isl (decls'.map GD.enc) false,.isl (facts'.map GU.enc) false,.isl (rules'.map GR.enc) false]=enc ⟨decls',facts',rules'⟩:=rfl
theorem enc_eq (x:GP):x.enc=.agg [.isl (x.decls.map GD.enc) false,.isl (x.facts.map GU.enc) false,.isl (x.rules.map GR.enc) false]:=rfl
@[simp] theorem eta (x:GP):(⟨x.decls,x.facts,x.rules⟩:GP)=x:=rfl
@[simp] theorem enc_cells (x:GP):x.enc.cells=[.isl (x.decls.map GD.enc) false,.isl (x.facts.map GU.enc) false,.isl (x.rules.map GR.enc) false]:=rfl
@[simp] theorem enc_solid (x:GP):x.enc.solid=true:=rfl
@[simp] theorem enc_head (x:GP) (xs:List AV):headYld (x.enc :: xs)=false:=by cases x; rfl
@[simp] theorem enc_clean (x:GP):x.enc.clean=true:=rfl
@[simp] theorem enc_datR (x:GP):x.enc.datR=true:=rfl
@[simp] theorem enc_dat (x:GP):x.enc.dat=true:=rfl
@[simp] theorem enc_clo (x:GP):x.enc.clo=true:=rfl
@[simp] theorem enc_clo1 (x:GP):x.enc.clo1=false:=rfl
@[simp] theorem enc_closeR (σ:Heap) (x:GP):closeR σ x.enc=some (x.enc,σ):=rfl
@[simp] theorem encs_okEl (l:List GP):(l.map enc).all (okEl 3 true)=true:=by
 rw [zqQ]; intro x hx
 obtain ⟨v,_,rfl⟩:=List.mem_map.1 hx
 rfl
def ok (x:GP):Prop:=(∀ y∈x.decls,y.ok)∧(∀ y∈x.facts,y.ok)∧(∀ y∈x.rules,y.ok)
def size (x:GP):Nat:=bulkA x.enc
end GP
structure IsGL (P:Program) (tGL tT tTL tV tL tI tS:TypeId):Prop where
 fs:∃ fs:Array Field,P.underlying tGL=some (.struct fs)∧fs.toList.map (·.type)=[tI,tS,tTL]
 term:IsT P tT tTL tV tL tI tS
structure IsGU (P:Program) (tGU tT tTL tV tL tI tS:TypeId):Prop where
 fs:∃ fs:Array Field,P.underlying tGU=some (.struct fs)∧fs.toList.map (·.type)=[tS,tL]
 term:IsT P tT tTL tV tL tI tS
structure IsGD (P:Program) (tGD tT tTL tV tL tI tS:TypeId):Prop where
 fs:∃ fs:Array Field,P.underlying tGD=some (.struct fs)∧fs.toList.map (·.type)=[tS,tI]
 term:IsT P tT tTL tV tL tI tS
structure IsGR (P:Program) (tGR tGLL tGL tT tTL tV tL tI tS:TypeId):Prop where
 fs:∃ fs:Array Field,P.underlying tGR=some (.struct fs)∧fs.toList.map (·.type)=[tS,tS,tTL,tS,tI,tGLL]
 term:IsT P tT tTL tV tL tI tS
 bodyL:P.underlying tGLL=some (.slice tGL)
 bodyI:IsGL P tGL tT tTL tV tL tI tS
structure IsGP (P:Program) (tGP tGDL tGD tGUL tGU tGRL tGR tGLL tGL tT tTL tV tL tI tS:TypeId):Prop where
 fs:∃ fs:Array Field,P.underlying tGP=some (.struct fs)∧fs.toList.map (·.type)=[tGDL,tGUL,tGRL]
 term:IsT P tT tTL tV tL tI tS
 declsL:P.underlying tGDL=some (.slice tGD)
 declsI:IsGD P tGD tT tTL tV tL tI tS
 factsL:P.underlying tGUL=some (.slice tGU)
 factsI:IsGU P tGU tT tTL tV tL tI tS
 rulesL:P.underlying tGRL=some (.slice tGR)
 rulesI:IsGR P tGR tGLL tGL tT tTL tV tL tI tS
end Go.Mach
namespace Go.Proofs.Ytkfiepnkedcmgaa
open Go.Mach
open Go.Mach
open Go.Mach
abbrev sCons:ByteArray:=⟨#[102,95,99,111,110,115]⟩
abbrev sAppend:ByteArray:=⟨#[102,95,97,112,112,101,110,100]⟩
abbrev sConcat:ByteArray:=⟨#[102,95,99,111,110,99,97,116]⟩
abbrev sMember:ByteArray:=⟨#[102,95,109,101,109,98,101,114]⟩
abbrev sSize:ByteArray:=⟨#[102,95,115,105,122,101]⟩
abbrev sFirst:ByteArray:=⟨#[102,95,102,105,114,115,116]⟩
abbrev sLast:ByteArray:=⟨#[102,95,108,97,115,116]⟩
abbrev sRest:ByteArray:=⟨#[102,95,114,101,115,116]⟩
abbrev sReverse:ByteArray:=⟨#[102,95,114,101,118,101,114,115,101]⟩
def arityOf (s:ByteArray):Int:=
 if s=sCons∨s=sAppend∨s=sConcat∨s=sMember then 2
 else if s=sSize∨s=sFirst∨s=sLast∨s=sRest∨s=sReverse then 1 else -1
open Go.Mach
open Go.Mach
def upB (c:Nat):Bool:=decide (65≤c) && decide (c≤90)
def varL:List UInt8→Bool
 | []=>false
 | c :: l=>upB c.toNat && l.all (fun c=>upB c.toNat || innerB c.toNat)
def varOK (t:ByteArray):Bool:=varL t.data.toList && decide (t.size≤16)
def sMat:ByteArray:=⟨#[109,97,116,101,114,105,97,108,105,122,101]⟩
def relOK (s:ByteArray):Bool:=nameOK s && decide (arityOf s<0) && decide (s≠sMat)
def bareV (v:GV):Bool:=decide (v.kind=0∧v.num=0∧v.text=⟨#[]⟩∧v.items.length=0)
def opOK (n:ByteArray):Bool:=decide (n=⟨#[43]⟩∨n=⟨#[45]⟩∨n=⟨#[42]⟩)
def termB (t:GT) (ar:Bool):Bool:=
 if t.kind=1 then bareV t.value && decide (t.args.length=0) && varOK t.name
 else if t.kind=2 then rightT t.value && decide (t.args.length=0) && decide (t.name=⟨#[]⟩) && (decide (t.value.kind≠3) || decide (arityOf t.value.text<0))
 else if t.kind=3 then bareV t.value && decide (arityOf t.name=t.args.length) && ar
 else if t.kind=4 then bareV t.value && decide (t.args.length=2) && opOK t.name && ar
 else false
def termR:Nat→GT→Bool
 | 0,_=>false
 | d+1,t=>termB t (t.args.all (termR d))
open Go.Mach
def headOK (l:List GT):Bool:=match l with
 | t :: _=>decide (t.kind=1) || (decide (t.kind=2) && decide (t.value.kind=3))
 | []=>false
def argsB (l:List GT):Bool:=decide (1≤l.length∧l.length≤8) && l.all (termR 8) && headOK l
def tOK (n:ByteArray):Bool:=decide (n=⟨#[61,61]⟩∨n=⟨#[33,61]⟩∨n=⟨#[60]⟩∨n=⟨#[60,61]⟩∨n=⟨#[62]⟩∨n=⟨#[62,61]⟩)
def litB (l:GL):Bool:=
 if l.kind=1∨l.kind=2 then relOK l.name && argsB l.args
 else if l.kind=3 then tOK l.name && decide (l.args.length=2) && l.args.all (termR 8)
 else if l.kind=4 then varOK l.name && decide (l.args.length=1) && l.args.all (termR 8)
 else false
abbrev sMin:ByteArray:=⟨#[109,105,110]⟩
abbrev sMax:ByteArray:=⟨#[109,97,120]⟩
abbrev sCount:ByteArray:=⟨#[99,111,117,110,116]⟩
def aggB (r:GR):Bool:=
 if r.agg=⟨#[]⟩ then decide (r.pos=0)
 else decide (r.agg=sMin∨r.agg=sMax∨r.agg=sCount) && decide (1≤r.pos∧r.pos<r.args.length) && decide (((r.args[r.pos.toNat]?).map (·.kind))=some 1)
def ruleB (r:GR):Bool:=relOK r.label && relOK r.head && argsB r.args && decide (1≤r.body.length∧r.body.length≤8) && r.body.all litB && aggB r
def tupB (t:GU):Bool:=relOK t.name && decide (1≤t.args.length∧t.args.length≤8) && (match t.args with | v :: _=>decide (v.kind=3) | []=>false) && t.args.all rightT
def declB (d:GD):Bool:=relOK d.name && decide (1≤d.arity∧d.arity≤8)
open Go.Mach
inductive Ln where
 | d (x:GD) | u (x:GU) | r (x:GR)
def Ln.ok:Ln→Bool
 | .d x=>declB x | .u x=>tupB x | .r x=>ruleB x
def Ln.D:Ln→Option GD | .d x=>some x | _=>none
def Ln.U:Ln→Option GU | .u x=>some x | _=>none
def Ln.R:Ln→Option GR | .r x=>some x | _=>none
open Go.Mach
open Go.Mach
open Go.Mach
open Go.Mach
open Go.Mach
section
variable {bs n:Nat} {f:FR} {σ:Heap}
end
end Go.Proofs.Ytkfiepnkedcmgaa
end
section
namespace Go.Proofs.Ytkfiepnkedcmgaa
open Go.Mach
open Go.Mach
theorem take_set {σ τ:Heap} {k:Nat} {o:AObj} (hl:σ.length≤τ.length) (hk:k<σ.length) (h:∀ j,j<σ.length→j≠k→τ[j]?=σ[j]?) (hk2:τ[k]?=some o):τ.take σ.length=σ.set k o:=by
 apply List.ext_getElem?
 intro j
 rw [List.getElem?_take,List.getElem?_set]
 split
 ·rename_i hj
  by_cases e:k=j
  ·subst e; rw [if_pos rfl]; simp [hk,hk2]
  ·rw [if_neg e]; exact h j hj fun e'=>e e'.symm
 ·rename_i hj
  rw [if_neg (by omega),List.getElem?_eq_none (by omega)]
open Go.Mach
open Go.Mach
def relsD:List GD:=[⟨⟨#[108,105,110,107]⟩,3⟩,⟨⟨#[112]⟩,2⟩,⟨⟨#[113]⟩,2⟩,⟨⟨#[114]⟩,1⟩,⟨⟨#[115]⟩,3⟩,⟨⟨#[116]⟩,2⟩]
theorem relations6_ok:pureT T c71 []=some (.isl (relsD.map GD.enc) false):=by
 apply pure_enter (by simp [c71])
 simp [c71,setRun,endP,res1,relsD,GD.enc]
 exact ⟨_,rfl⟩
theorem callRelations6 (bs:Nat) (σ:Heap):callT T 71 [] bs σ=some (.isl (relsD.map GD.enc) false,σ):=call_clean rfl rfl rfl rfl relations6_ok
theorem pick6_ok (c n:Int) (h:n≠0):pureT T c72 [.int .i64 c,.int .i64 n]=some (.int .i64 ((if c<0 then IntKind.i64.wrap (0 - IntKind.i64.wrap (c+1)) else c).tmod n)):=by
 apply pure_enter (by simp [c72])
 by_cases hc:c<0
 ·simp [c72,hc,h]
 ·simp [c72,hc,h]
theorem pick6 (c:Int) (n:Nat) (h:0<n) (h1:GV.i64ok c) (bs:Nat) (σ:Heap) :
  callT T 72 [.int .i64 c,.int .i64 (n:Int)] bs σ=some (.int .i64 (pickN c n:Int),σ):=by
 refine call_clean rfl rfl rfl rfl ?_
 rw [pick6_ok c n (by omega),pick_eq c n h h1.1 h1.2]
open Go.Mach
structure GRaw where
 kind:Int
 name:Int
 n0:Int
 n1:Int
 n2:Int
 n3:Int
namespace GRaw
def enc (x:GRaw):AV:=.agg [.int .i64 x.kind,.int .i64 x.name,.int .i64 x.n0,.int .i64 x.n1,.int .i64 x.n2,.int .i64 x.n3]
def ok (x:GRaw):Prop:=GV.i64ok x.kind∧GV.i64ok x.name∧GV.i64ok x.n0∧GV.i64ok x.n1∧GV.i64ok x.n2∧GV.i64ok x.n3
def at' (x:GRaw) (i:Nat):Int:=if i=0 then x.n0 else if i=1 then x.n1 else if i=2 then x.n2 else x.n3
def zero:GRaw:=⟨0,0,0,0,0,0⟩
theorem enc_mk (k n a b c d:Int):AV.agg [.int .i64 k,.int .i64 n,.int .i64 a,.int .i64 b,.int .i64 c,.int .i64 d]=enc ⟨k,n,a,b,c,d⟩:=rfl
@[simp] theorem eta (x:GRaw):(⟨x.kind,x.name,x.n0,x.n1,x.n2,x.n3⟩:GRaw)=x:=rfl
theorem enc_eq (x:GRaw):x.enc=.agg [.int .i64 x.kind,.int .i64 x.name,.int .i64 x.n0,.int .i64 x.n1,.int .i64 x.n2,.int .i64 x.n3]:=rfl
@[simp] theorem enc_cells (x:GRaw):x.enc.cells=[.int .i64 x.kind,.int .i64 x.name,.int .i64 x.n0,.int .i64 x.n1,.int .i64 x.n2,.int .i64 x.n3]:=rfl
@[simp] theorem enc_solid (x:GRaw):x.enc.solid=true:=rfl
@[simp] theorem enc_head (x:GRaw) (xs:List AV):headYld (x.enc :: xs)=false:=by cases x; rfl
@[simp] theorem enc_clean (x:GRaw):x.enc.clean=true:=rfl
@[simp] theorem enc_datR (x:GRaw):x.enc.datR=true:=rfl
@[simp] theorem enc_dat (x:GRaw):x.enc.dat=true:=rfl
@[simp] theorem enc_clo (x:GRaw):x.enc.clo=true:=rfl
@[simp] theorem enc_clo1 (x:GRaw):x.enc.clo1=false:=rfl
@[simp] theorem enc_closeR (σ:Heap) (x:GRaw):closeR σ x.enc=some (x.enc,σ):=rfl
theorem at_ok {x:GRaw} (h:x.ok) (i:Nat):GV.i64ok (x.at' i):=by
 obtain ⟨h1,h2,h3,h4,h5,h6⟩:=h
 unfold at'
 split
 ·exact h3
 split
 ·exact h4
 split
 ·exact h5
 ·exact h6
end GRaw
def FactsOk (facts:List GRaw):Prop:=(∀ x∈facts,x.ok)∧facts.length≤100000000000
theorem tdiv_ok {k:Int} (h:GV.i64ok k) (n:Nat) (hn:2≤n):GV.i64ok (k.tdiv n):=by
 unfold GV.i64ok at h ⊢
 have h1:(k.tdiv n).natAbs=k.natAbs / n:=by rw [Int.natAbs_tdiv]; rfl
 have h2:k.natAbs / n * 2≤k.natAbs:=Nat.le_trans (Nat.mul_le_mul_left _ hn) (Nat.div_mul_le_self _ _)
 omega
def relR (x:GRaw):GD:=relsD.getD (pickN x.name 6) ⟨⟨#[]⟩,0⟩
def addrN (n:Nat):ByteArray:=[⟨#[97]⟩,⟨#[98]⟩,⟨#[99]⟩,⟨#[100]⟩].getD n ⟨#[]⟩
def addrV (n:Nat):GV:=.mk 3 0 (addrN n) []
def numV (n:Int):GV:=.mk 1 n ⟨#[]⟩ []
def fargR (x:GRaw) (i:Nat):GV:=if i=0∨i=1∧(pickN x.name 6=0∨pickN (x.at' i) 2=0) then addrV (pickN ((x.at' i).tdiv 2) 4) else numV (pickN ((x.at' i).tdiv 2) 5)
def factR (x:GRaw):GU:=⟨(relR x).name,(List.range (relR x).arity.toNat).map (fargR x)⟩
theorem rel_cases (x:GRaw):∃ n,n<6∧pickN x.name 6=n∧relR x=relsD.getD n ⟨⟨#[]⟩,0⟩:=⟨_,pickN_lt (by omega),rfl,rfl⟩
theorem rel_arity (x:GRaw):1≤(relR x).arity.toNat∧(relR x).arity.toNat≤3∧((relR x).arity.toNat:Int)=(relR x).arity:=by
 obtain ⟨n,hn,_,e⟩:=rel_cases x
 rw [e]
 match n,hn with
 | 0,_=>decide
 | 1,_=>decide
 | 2,_=>decide
 | 3,_=>decide
 | 4,_=>decide
 | 5,_=>decide
theorem rel_OK (x:GRaw):relOK (relR x).name=true:=by
 obtain ⟨n,hn,_,e⟩:=rel_cases x
 rw [e]
 match n,hn with
 | 0,_=>decide +kernel
 | 1,_=>decide +kernel
 | 2,_=>decide +kernel
 | 3,_=>decide +kernel
 | 4,_=>decide +kernel
 | 5,_=>decide +kernel
theorem addrV_R:∀ n,n<4→rightT (addrV n)=true:=by decide +kernel
theorem numV_R:∀ n:Nat,n<6→rightT (numV n)=true:=by decide +kernel
theorem fargR_R (x:GRaw) (i:Nat):rightT (fargR x i)=true:=by
 unfold fargR
 split
 ·exact addrV_R _ (pickN_lt (by omega))
 ·exact numV_R _ (Nat.lt_of_lt_of_le (pickN_lt (by omega)) (by omega))
theorem fargs_len (x:GRaw):(factR x).args.length=(relR x).arity.toNat:=by simp [factR]
end Go.Proofs.Ytkfiepnkedcmgaa
end
section
namespace Go.Mach
def LX (N sz:Nat) (σ:Heap) (es:List AV) (x:AV):Prop:=
 (es=[]∧x=.isl [] true) ∨
 (∃ k cs fz,x=.sl k 0 1 sz true∧N≤k∧σ[k]?=some (.cells cs fz false)∧cs.length=sz∧cs.all AV.clo1=true∧es=[.agg (cs.map AV.nrm)]) ∨
 (∃ k,x=.own k es∧N≤k∧σ[k]?=some (.tok es.length sz)∧es.all (okEl sz true)=true)
theorem closeX_idem {σ:Heap} {j off n sz fj:Nat} {ag ej:Bool} {ds:List AV} (hj:σ[j]?=some (.cells ds fj ej)) (hdc:ds.all AV.clo1=true):closeX σ (.sl j off n sz ag)=σ:=by
 simp only [closeX,hj,hdc,if_true]
theorem appendC_closeX {σ σ1:Heap} {sz bytes:Nat} {ag:Bool} {s x:AV} (h:closeX σ x=σ1) (h1:closeX σ1 x=σ1):appendC σ sz ag bytes false s x=appendC σ1 sz ag bytes false s x:=by
 unfold appendC; simp [h,h1]
theorem LX.closeS_len {σ:Heap} (id sz:Nat):(closeS σ (.sl id 0 1 sz true)).length=σ.length∧∀ i,i≠id→(closeS σ (.sl id 0 1 sz true))[i]?=σ[i]?:=by
 simp only [closeS]
 split
 ·rename_i cs fz ext h
  split
  ·exact ⟨by simp,fun i hi=>by rw [zqC (Ne.symm hi)]⟩
  ·exact ⟨rfl,fun _ _=>rfl⟩
 ·exact ⟨rfl,fun _ _=>rfl⟩
def LO (N sz:Nat) (ag:Bool) (σ:Heap) (es:List AV) (x:AV):Prop:=
 (es=[]∧x=.isl [] true)∨(∃ k,x=.own k es∧N≤k∧σ[k]?=some (.tok es.length sz)∧es.all (okEl sz ag)=true)
theorem LO.nil (N sz:Nat) (ag:Bool) (σ:Heap):LO N sz ag σ [] (.isl [] true):=.inl ⟨rfl,rfl⟩
theorem LO.toLX {N sz:Nat} {σ:Heap} {es:List AV} {x:AV} (h:LO N sz true σ es x):LX N sz σ es x:=by
 rcases h with h | ⟨k,h⟩
 ·exact .inl h
 ·exact .inr (.inr ⟨k,h⟩)
theorem LO.closeS {N sz:Nat} {ag:Bool} {σ:Heap} {es:List AV} {x:AV} (h:LO N sz ag σ es x) (τ:Heap):Go.Mach.closeS τ x=τ:=by
 rcases h with ⟨_,rfl⟩ | ⟨k,rfl,_⟩ <;> rfl
theorem LO.len {N sz:Nat} {ag:Bool} {σ:Heap} {es:List AV} {x:AV} (h:LO N sz ag σ es x):lenV false x=some (.int .i64 (es.length:Int)):=by
 rcases h with ⟨rfl,rfl⟩ | ⟨k,rfl,_⟩ <;> simp
theorem LO.solid {N sz:Nat} {ag:Bool} {σ:Heap} {es:List AV} {x:AV} (h:LO N sz ag σ es x):x.solid=true:=by
 rcases h with ⟨rfl,rfl⟩ | ⟨k,rfl,_⟩ <;> rfl
theorem LO.cells {N sz:Nat} {ag:Bool} {σ:Heap} {es:List AV} {x:AV} (h:LO N sz ag σ es x):x.cells=[x]:=by
 rcases h with ⟨rfl,rfl⟩ | ⟨k,rfl,_⟩ <;> rfl
theorem LO.close {N sz:Nat} {ag:Bool} {σ:Heap} {es:List AV} {x:AV} (h:LO N sz ag σ es x) (τ:Heap):close0 τ x=some (.isl es false,τ):=by
 rcases h with ⟨rfl,rfl⟩ | ⟨k,rfl,_⟩ <;> rfl
theorem LO.close1 {N sz:Nat} {ag:Bool} {σ:Heap} {es:List AV} {x:AV} (h:LO N sz ag σ es x) (τ:Heap):Go.Mach.close1 τ x=some (.isl es false,τ):=close1_of0 (h.close τ)
theorem LO.closeA {N sz:Nat} {ag:Bool} {σ:Heap} {es:List AV} {x:AV} (h:LO N sz ag σ es x) (τ:Heap):Go.Mach.closeA τ x=some (.isl es false,τ):=by
 have hc:=h.close1 τ
 rcases h with ⟨rfl,rfl⟩ | ⟨k,rfl,_⟩ <;> exact hc
theorem LO.keep {N sz:Nat} {ag:Bool} {σ τ:Heap} {es:List AV} {x:AV} (h:LO N sz ag σ es x) (hk:∀ i o,N≤i→σ[i]?=some o→τ[i]?=some o):LO N sz ag τ es x:=by
 rcases h with h | ⟨k,h1,h2,h3,h4⟩
 ·exact .inl h
 ·exact .inr ⟨k,h1,h2,hk _ _ h2 h3,h4⟩
theorem LO.at {N sz:Nat} {ag:Bool} {σ:Heap} {es:List AV} {x:AV} (h:LO N sz ag σ es x) {i:Nat} (hi:i<es.length) (hz:(es[i]).cells.length=sz):iaddrV sz x (.int .i64 (i:Int))=some (.iptr (es[i]).cells 0):=by
 rcases h with ⟨rfl,rfl⟩ | ⟨k,rfl,_⟩
 ·simp at hi
 ·simp [hi,hz]
theorem app_any0 {σ0 σ σ1:Heap} {j sz bytes fj N:Nat} {ej:Bool} {ds:List AV} {es:List AV} {x:AV}
  (hX:closeX σ (.sl j 0 1 sz true)=σ1) (hj:σ1[j]?=some (.cells ds fj ej)) (hd:ds.length=sz) (hdc:ds.all AV.clo1=true) (h0:0<sz) (hb:bytes≤1000)
  (hx:LX N sz σ0 es x) (hσ:∀ i,i<σ0.length→σ1[i]?=σ0[i]?) (hj0:σ0.length≤j) (hN:N≤σ0.length) (hl:es.length≤1000000000) :
  ∃ x' σ',appendC σ sz true bytes false x (.sl j 0 1 sz true)=some (x',σ')∧LO N sz true σ' (es++[.agg (ds.map AV.nrm)]) x'∧σ1.length≤σ'.length∧∀ i o,σ0[i]?=some o→(i<N∨((∀ n,o≠.tok n sz)∧∀ cs fz,o=.cells cs fz false→cs.length≠sz))→σ'[i]?=some o:=by
 have hjl:j<σ1.length:=(zqI.1 hj).1
 rw [appendC_closeX hX (closeX_idem hj hdc)]
 have o2:okEl sz true (.agg (ds.map AV.nrm))=true:=by simp only [okEl,AV.clo,nrm_all hdc,AV.cells,List.length_map,hd,decide_true,Bool.and_self]
 rcases hx with ⟨rfl,rfl⟩ | ⟨k,cs,fz,rfl,hkN,hk,hcl,hcc,rfl⟩ | ⟨k,rfl,hkN,hk,hes⟩
 ·refine ⟨.own σ1.length [.agg (ds.map AV.nrm)],σ1++[.tok 1 sz],by rw [appendC_clo hj hdc]; exact app_ag hj hd hdc h0 hb (app1_nil ..),.inr ⟨σ1.length,rfl,by omega,by simp,by simp [o2]⟩,by simp,fun i o hi h12=>?_⟩
  have hil:=(zqI.1 hi).1
  rw [zqA (by omega),hσ i hil]; exact hi
 ·have hkl:k<σ0.length:=(zqI.1 hk).1
  have hk1:σ1[k]?=some (.cells cs fz false):=by rw [hσ k hkl]; exact hk
  obtain ⟨c1,c2⟩:=LX.closeS_len (σ:=σ1) k sz
  have o1:okEl sz true (.agg (cs.map AV.nrm))=true:=by simp only [okEl,AV.clo,nrm_all hcc,AV.cells,List.length_map,hcl,decide_true,Bool.and_self]
  refine ⟨_,_,app_slC hk1 hj (by omega) hcl hd hcc hdc h0 hb,.inr ⟨σ1.length,rfl,by omega,?_,by simp [o1,o2]⟩,by simp [c1],fun i o hi h12=>?_⟩
  ·rw [←c1]; simp
  ·have hil:=(zqI.1 hi).1
   have hne:i≠k:=by
    rintro rfl
    rw [hk] at hi; injection hi with hi
    rcases h12 with h | ⟨_,h2⟩
    ·omega
    ·exact h2 cs fz hi.symm hcl
   rw [zqA (by rw [c1]; omega),c2 i hne,hσ i hil]; exact hi
 ·have hkl:k<σ0.length:=(zqI.1 hk).1
  have hk1:σ1[k]?=some (.tok es.length sz):=by rw [hσ k hkl]; exact hk
  refine ⟨.own k (es++[.agg (ds.map AV.nrm)]),σ1.set k (.tok (es.length+1) sz),by rw [appendC_clo hj hdc]; exact app_ag hj hd hdc h0 hb (app1_own hes (by omega) hk1),.inr ⟨k,rfl,hkN,?_,by simp [List.all_append,hes,o2]⟩,by simp,fun i o hi h12=>?_⟩
  ·rw [list_set_at (by omega)]; simp
  ·have hil:=(zqI.1 hi).1
   have hne:i≠k:=by
    rintro rfl
    rw [hk] at hi; injection hi with hi
    rcases h12 with h | ⟨h1,_⟩
    ·omega
    ·exact h1 _ hi.symm
   rw [zqC (Ne.symm hne),hσ i hil]; exact hi
theorem LX.other {N sz sz2:Nat} {σ0 σ':Heap} {es2:List AV} {y:AV} (hne:sz2≠sz) (h:LX N sz2 σ0 es2 y) (hk:∀ i o,σ0[i]?=some o→(i<N∨((∀ n,o≠.tok n sz)∧∀ cs fz,o=.cells cs fz false→cs.length≠sz))→σ'[i]?=some o):LX N sz2 σ' es2 y:=by
 rcases h with h | ⟨k,cs,fz,h1,h2,h3,h4,h5⟩ | ⟨k,h1,h2,h3,h4⟩
 ·exact .inl h
 ·exact .inr (.inl ⟨k,cs,fz,h1,h2,hk _ _ h3 (.inr ⟨fun n e=>(by cases e),fun cs' fz' e=>(by injection e with e1; subst e1; omega)⟩),h4,h5⟩)
 ·exact .inr (.inr ⟨k,h1,h2,hk _ _ h3 (.inr ⟨fun n e=>(by injection e with e1 e2; exact hne e2),fun cs' fz' e=>(by cases e)⟩),h4⟩)
theorem LO.other {N sz sz2:Nat} {σ0 σ':Heap} {es2:List AV} {y:AV} (hne:sz2≠sz) (h:LO N sz2 true σ0 es2 y) (hk:∀ i o,σ0[i]?=some o→(i<N∨((∀ n,o≠.tok n sz)∧∀ cs fz,o=.cells cs fz false→cs.length≠sz))→σ'[i]?=some o):LO N sz2 true σ' es2 y:=by
 rcases h with h | ⟨k,h1,h2,h3,h4⟩
 ·exact .inl h
 ·exact .inr ⟨k,h1,h2,hk _ _ h3 (.inr ⟨fun n e=>(by injection e with e1 e2; exact hne e2),fun cs' fz' e=>(by cases e)⟩),h4⟩
theorem app_any {σ0 σ σ1:Heap} {j sz bytes fj N:Nat} {ej:Bool} {ds:List AV} {es:List AV} {x:AV}
  (hX:closeX σ (.sl j 0 1 sz true)=σ1) (hj:σ1[j]?=some (.cells ds fj ej)) (hd:ds.length=sz) (hdc:ds.all AV.clo1=true) (h0:0<sz) (hb:bytes≤1000)
  (hx:LX N sz σ0 es x) (hσ:∀ i,i<σ0.length→σ1[i]?=σ0[i]?) (hj0:σ0.length≤j) (hN:N≤σ0.length) (hl:es.length≤1000000000) :
  ∃ x' σ',appendC σ sz true bytes false x (.sl j 0 1 sz true)=some (x',σ')∧LX N sz σ' (es++[.agg (ds.map AV.nrm)]) x'∧σ1.length≤σ'.length∧(∀ i,i<N→σ'[i]?=σ0[i]?)∧∀ sz2 es2 y,sz2≠sz→LX N sz2 σ0 es2 y→LX N sz2 σ' es2 y:=by
 obtain ⟨x',σ',h1,h2,h3,h4⟩:=app_any0 (bytes:=bytes) hX hj hd hdc h0 hb hx hσ hj0 hN hl
 exact ⟨x',σ',h1,h2.toLX,h3,fun i hi=>by rw [h4 i _ (zqF (by omega)) (.inl hi),zqF],fun sz2 es2 y hne hy=>hy.other hne h4⟩
theorem LX.len {N sz:Nat} {σ:Heap} {es:List AV} {x:AV} (h:LX N sz σ es x):lenV false x=some (.int .i64 (es.length:Int)):=by
 rcases h with ⟨rfl,rfl⟩ | ⟨k,cs,fz,rfl,_,_,_,_,rfl⟩ | ⟨k,rfl,_⟩ <;> simp
theorem LX.solid {N sz:Nat} {σ:Heap} {es:List AV} {x:AV} (h:LX N sz σ es x):x.solid=true:=by
 rcases h with ⟨rfl,rfl⟩ | ⟨k,cs,fz,rfl,_⟩ | ⟨k,rfl,_⟩ <;> rfl
theorem LX.cells {N sz:Nat} {σ:Heap} {es:List AV} {x:AV} (h:LX N sz σ es x):x.cells=[x]:=by
 rcases h with ⟨rfl,rfl⟩ | ⟨k,cs,fz,rfl,_⟩ | ⟨k,rfl,_⟩ <;> rfl
theorem LX.keep {N sz:Nat} {σ τ:Heap} {es:List AV} {x:AV} (h:LX N sz σ es x) (hk:∀ i o,N≤i→σ[i]?=some o→τ[i]?=some o):LX N sz τ es x:=by
 rcases h with h | ⟨k,cs,fz,h1,h2,h3,h4⟩ | ⟨k,h1,h2,h3,h4⟩
 ·exact .inl h
 ·exact .inr (.inl ⟨k,cs,fz,h1,h2,hk _ _ h2 h3,h4⟩)
 ·exact .inr (.inr ⟨k,h1,h2,hk _ _ h2 h3,h4⟩)
theorem LX.app {N sz:Nat} {σ:Heap} {es:List AV} {x:AV} (h:LX N sz σ es x) (l:Heap):LX N sz (σ++l) es x:=
 h.keep fun i o _ hi=>by rw [zqA (zqI.1 hi).1]; exact hi
theorem close0_one {σ:Heap} {k sz fz:Nat} {ext:Bool} {cs:List AV} (hk:σ[k]?=some (.cells cs fz ext)) (hl:cs.length=sz) (hc:cs.all AV.clo1=true):close0 σ (.sl k 0 1 sz true)=some (.isl [.agg (cs.map AV.nrm)] false,frz σ k sz):=by
 subst hl
 have hw:window cs 0 cs.length=some cs:=window_full rfl
 have hc2:¬ (1:Nat)=0:=by decide
 simp only [close0,if_neg hc2,hk,Nat.one_mul,Nat.zero_add,hw,Option.bind_some,hc,if_true]
 have ht:List.take cs.length (List.map AV.nrm cs)=List.map AV.nrm cs:=List.take_of_length_le (by simp)
 simp [chunk,mk,ht]
theorem LX.frz {N sz k m:Nat} {σ:Heap} {es:List AV} {y:AV} (h:LX N sz σ es y):LX N sz (Go.Mach.frz σ k m) es y:=by
 unfold Go.Mach.frz
 split
 ·rename_i cs0 fz0 ext0 h0
  have hk:=(zqI.1 h0).1
  rcases h with h | ⟨j,cs,fz,h1,h2,h3,h4⟩ | ⟨j,h1,h2,h3,h4⟩
  ·exact .inl h
  ·by_cases e:k=j
   ·subst e
    rw [h0] at h3; injection h3 with h3; injection h3 with e1 e2 e3; subst e1 e3
    exact .inr (.inl ⟨k,cs0,_,h1,h2,list_set_at hk,h4⟩)
   ·exact .inr (.inl ⟨j,cs,fz,h1,h2,by rw [zqC e]; exact h3,h4⟩)
  ·have e:k≠j:=by rintro rfl; rw [h0] at h3; cases h3
   exact .inr (.inr ⟨j,h1,h2,by rw [zqC e]; exact h3,h4⟩)
 ·exact h
theorem LX.close {N sz:Nat} {σ:Heap} {es:List AV} {x:AV} (h:LX N sz σ es x):∃ σ',close0 σ x=some (.isl es false,σ')∧σ'.length=σ.length∧(∀ i,i<N→σ'[i]?=σ[i]?)∧∀ N2 sz2 es2 y,LX N2 sz2 σ es2 y→LX N2 sz2 σ' es2 y:=by
 rcases h with ⟨rfl,rfl⟩ | ⟨k,cs,fz,rfl,hN,hk,hl,hc,rfl⟩ | ⟨k,rfl,_⟩
 ·exact ⟨σ,rfl,rfl,fun _ _=>rfl,fun _ _ _ _ h=>h⟩
 ·refine ⟨_,close0_one hk hl hc,?_,fun i hi=>?_,fun _ _ _ _ h=>h.frz⟩
  ·simp only [Go.Mach.frz,hk,List.length_set]
  ·simp only [Go.Mach.frz,hk]; rw [zqC (by omega)]
 ·exact ⟨σ,rfl,rfl,fun _ _=>rfl,fun _ _ _ _ h=>h⟩
theorem LX.closeA {N sz:Nat} {σ:Heap} {es:List AV} {x:AV} (h:LX N sz σ es x):∃ σ',Go.Mach.closeA σ x=some (.isl es false,σ')∧σ'.length=σ.length∧∀ i,i<N→σ'[i]?=σ[i]?:=by
 obtain ⟨σ',h1,h2,h3,_⟩:=h.close
 refine ⟨σ',?_,h2,h3⟩
 rcases h with ⟨rfl,rfl⟩ | ⟨k,cs,fz,rfl,hN,hk,hl,hc,rfl⟩ | ⟨k,rfl,_⟩ <;> exact close1_of0 h1
theorem chkO_l (ρ:Regs) (σ σ':Heap) (l:List AX):(chkO ρ σ σ' l=some ())=∀ x∈l,objOf σ (ev ρ x)=objOf σ' (ev ρ x):=by
 apply propext
 constructor
 ·exact fun h=>chkO_some h
 ·intro h
  unfold chkO
  rw [if_pos (zqQ.2 fun x hx=>(sameO_iff _ _).2 (h x hx))]
theorem slI_drop {sz:Nat} {es:List AV} {c:Bool} {n:Nat} (h:n≤es.length) (hz:es.all (lenIs sz)=true):slSlV sz (some (.int .i64 (n:Int))) none (.isl es c)=some (.isl (es.drop n) false):=by
 have h1:slSlA sz n es.length (.isl es c)=some (.isl (es.drop n) false):=by
  have hc:n≤es.length∧es.length≤es.length∧(n=0∨es.all (lenIs sz)=true):=⟨h,Nat.le_refl _,.inr hz⟩
  simp only [slSlA,if_pos hc,List.take_of_length_le (Nat.le_refl _)]
 have h2:bndV es.length 0 (some (.int .i64 (n:Int)))=some n:=by
  simp only [bndV]; rw [if_pos ⟨by omega,by omega⟩]; rfl
 have h0:¬ isSl (.isl es c)=false:=by simp [isSl]
 have hl:lenA (.isl es c)=some es.length:=rfl
 unfold slSlV
 rw [if_neg h0,hl]
 simp only [Option.bind_some,bndV_none,h2,h1]
theorem LO.isl {N sz bytes:Nat} {ag b:Bool} {σ:Heap} {es:List AV} {x:AV} (h:LO N sz ag σ es x) (ys:List AV) (hok:ys.all (okEl sz ag)=true) (hl:es.length+ys.length≤1000000000) (h0:0<sz) (hb:bytes≤1000) (hN:N≤σ.length) :
  ∃ x' σ',appendA σ sz ag bytes false x (.isl ys b)=some (x',σ')∧LO N sz ag σ' (es++ys) x'∧σ.length≤σ'.length∧∀ i,i<N→σ'[i]?=σ[i]?:=by
 cases ys with
 | nil=>
  refine ⟨x,σ,?_,by simpa using h,Nat.le_refl _,fun _ _=>rfl⟩
  rcases h with ⟨_,rfl⟩ | ⟨k,rfl,_⟩ <;> simp [appendA,elemsN,elemsA,isSl]
 | cons y ys=>
  have hn:¬ (sz=0∨(es.length+(y :: ys).length) * bytes > 70368744177664∨es.length+(y :: ys).length > 70368744177664):=by
   have:(es.length+(y :: ys).length) * bytes≤1000000000 * 1000:=Nat.mul_le_mul hl hb
   omega
  have hne:(y :: ys)≠[]:=by simp
  have he2:elemsN σ sz ag (.isl (y :: ys) b)=some (y :: ys):=rfl
  rcases h with ⟨rfl,rfl⟩ | ⟨k,rfl,hkN,ht,hes⟩
  ·refine ⟨.own σ.length (y :: ys),σ++[.tok (y :: ys).length sz],?_,.inr ⟨σ.length,by simp,hN,by simp,hok⟩,by simp,fun j hj=>by rw [zqA (by omega)]⟩
   have he1:elemsA σ sz ag (.isl [] true)=some []:=rfl
   simp only [List.length_nil] at hn
   simp only [appendA,he1,he2,Option.bind_some,isSl,if_neg hne,List.length_nil,if_neg hn,hok,Bool.false_eq_true,if_false]
   simp
  ·have hk:=(zqI.1 ht).1
   refine ⟨.own k (es++y :: ys),σ.set k (.tok (es++y :: ys).length sz),?_,.inr ⟨k,rfl,hkN,list_set_at hk,by rw [List.all_append,hes,hok]; rfl⟩,by simp,fun j hj=>by rw [zqC (by omega)]⟩
   have he1:elemsA σ sz ag (.own k es)=some es:=rfl
   simp only [appendA,he1,he2,Option.bind_some,isSl,if_neg hne,ht,hok,hes,Bool.false_eq_true,if_false]
   rw [if_neg hn]
   simp
section
variable {T:Tab} {bs n:Nat}
theorem stW_appX {σ0 σ σ1:Heap} {j sz bytes fj N:Nat} {ej:Bool} {ds:List AV} {es:List AV} {x:AV} {d:Option Nat} {os:List AOper} {k:List Fr} {f:FR} {τ:Heap} {Q:AExit→FR→Heap→Prop}
  (hX:closeX σ (.sl j 0 1 sz true)=σ1) (hj:σ1[j]?=some (.cells ds fj ej)) (hd:ds.length=sz) (hdc:ds.all AV.clo1=true) (h0:0<sz) (hb:bytes≤1000)
  (hx:LX N sz σ0 es x) (hσ:∀ i,i<σ0.length→σ1[i]?=σ0[i]?) (hj0:σ0.length≤j) (hN:N≤σ0.length) (hl:es.length≤1000000000)
  (h:∀ x' σ',LX N sz σ' (es++[.agg (ds.map AV.nrm)]) x'→σ1.length≤σ'.length→(∀ i,i<N→σ'[i]?=σ0[i]?)→wpK T bs n (.ops os :: k) (updO f d x') σ' Q) :
  stW T bs n (appendC σ sz true bytes false x (.sl j 0 1 sz true)) d [] os k f τ Q:=by
 obtain ⟨x',σ',h1,h2,h3,h4,_⟩:=app_any (bytes:=bytes) hX hj hd hdc h0 hb hx hσ hj0 hN hl
 rw [h1]
 exact ⟨rfl,h x' σ' h2 h3 h4⟩
theorem stW_app1 {σ0:Heap} {sz bytes fj N:Nat} {ej:Bool} {ds:List AV} {es:List AV} {x:AV} {d:Option Nat} {os:List AOper} {k:List Fr} {f:FR} {τ:Heap} {Q:AExit→FR→Heap→Prop}
  (hx:LX N sz σ0 es x) (hd:ds.length=sz) (hdc:ds.all AV.clo1=true) (h0:0<sz) (hb:bytes≤1000) (hN:N≤σ0.length) (hl:es.length≤1000000000)
  (h:∀ x' σ',LX N sz σ' (es++[.agg (ds.map AV.nrm)]) x'→σ0.length+1≤σ'.length→(∀ i,i<N→σ'[i]?=σ0[i]?)→wpK T bs n (.ops os :: k) (updO f d x') σ' Q) :
  stW T bs n (appendC (σ0++[.cells ds fj ej]) sz true bytes false x (.sl σ0.length 0 1 sz true)) d [] os k f τ Q:=by
 have hj:(σ0++[.cells ds fj ej])[σ0.length]?=some (.cells ds fj ej):=List.getElem?_concat_length
 exact stW_appX (closeX_idem hj hdc) hj hd hdc h0 hb hx (fun i hi=>zqA hi) (Nat.le_refl _) hN hl fun x' σ' h1 h2 h3=>h x' σ' h1 (by simpa using h2) h3
def LastOk (y z:AV):Prop:=(y.clo1=true∧y.nrm=z)∨∃ k ys,y=.own k ys∧z=.isl ys false
theorem LO.last {N sz:Nat} {ag:Bool} {σ:Heap} {es:List AV} {y:AV} (h:LO N sz ag σ es y):LastOk y (.isl es false):=by
 rcases h with ⟨rfl,rfl⟩ | ⟨k,rfl,_⟩
 ·exact .inl ⟨rfl,rfl⟩
 ·exact .inr ⟨k,_,rfl,rfl⟩
theorem LastOk.isl (es:List AV) (b:Bool):LastOk (.isl es b) (.isl es false):=.inl ⟨rfl,rfl⟩
theorem list_set_same {σ:Heap} {i:Nat} {o:AObj} (h:σ[i]?=some o):σ.set i o=σ:=by
 apply List.ext_getElem?
 intro j
 by_cases e:i=j
 ·subst e
  rw [list_set_at (zqI.1 h).1,h]
 ·rw [zqC e]
theorem stW_app2 {σ0:Heap} {o:AObj} {sz bytes fj N:Nat} {ej:Bool} {ds:List AV} {es:List AV} {x:AV} {d:Option Nat} {os:List AOper} {k:List Fr} {f:FR} {τ:Heap} {Q:AExit→FR→Heap→Prop}
  (hx:LX N sz σ0 es x) (hd:ds.length=sz) (hdc:ds.all AV.clo1=true) (h0:0<sz) (hb:bytes≤1000) (hN:N≤σ0.length) (hl:es.length≤1000000000)
  (h:∀ x' σ',LX N sz σ' (es++[.agg (ds.map AV.nrm)]) x'→σ0.length+2≤σ'.length→(∀ i,i<N→σ'[i]?=σ0[i]?)→wpK T bs n (.ops os :: k) (updO f d x') σ' Q) :
  stW T bs n (appendC (σ0++[o,.cells ds fj ej]) sz true bytes false x (.sl (σ0.length+1) 0 1 sz true)) d [] os k f τ Q:=by
 have hj:(σ0++[o,.cells ds fj ej])[σ0.length+1]?=some (.cells ds fj ej):=by simp
 exact stW_appX (closeX_idem hj hdc) hj hd hdc h0 hb hx (fun i hi=>zqA hi) (by omega) hN hl fun x' σ' h1 h2 h3=>h x' σ' h1 (by simpa using h2) h3
end
end Go.Mach
end
section
namespace Go.Mach
def apart (x y:AV):Prop:=∀ k es es2,x=.own k es→y≠.own k es2
theorem apart.symm {x y:AV} (h:apart x y):apart y x:=fun k es es2 h1 h2=>h k es2 es h2 h1
section
variable {T:Tab} {bs n:Nat}
end
end Go.Mach
end
section
namespace Go.Mach
variable {T:Tab} {bs n:Nat}
theorem frz_get {σ:Heap} {k m i:Nat} (h:i≠k):(frz σ k m)[i]?=σ[i]?:=by
 unfold frz
 cases hk:σ[k]? with
 | none=>rfl
 | some o=>
  cases o with
  | cells cs fz ext=>show (σ.set k _)[i]?=_; rw [zqC (by omega)]
  | _=>rfl
theorem frz_len (σ:Heap) (k m:Nat):(frz σ k m).length=σ.length:=by
 unfold frz
 cases hk:σ[k]? with
 | none=>rfl
 | some o=>
  cases o with
  | cells cs fz ext=>simp
  | _=>rfl
end Go.Mach
end
section
set_option maxRecDepth 100000
namespace Go.Proofs.Ytkfiepnkedcmgaa
open Go.Mach
theorem rels_get (x:GRaw):(relsD.map GD.enc)[pickN x.name 6]?=some (relR x).enc:=by
 have hlt:=pickN_lt (c:=x.name) (n:=6) (by omega)
 rw [List.getElem?_map]
 have:relsD[pickN x.name 6]?=some (relR x):=by
  unfold relR
  generalize pickN x.name 6=n at *
  match n,hlt with
  | 0,_=>rfl
  | 1,_=>rfl
  | 2,_=>rfl
  | 3,_=>rfl
  | 4,_=>rfl
  | 5,_=>rfl
 rw [this]; rfl
theorem raw_at (x:GRaw) (i:Nat) (h:i<4):window [AV.int .i64 x.kind,.int .i64 x.name,.int .i64 x.n0,.int .i64 x.n1,.int .i64 x.n2,.int .i64 x.n3] (2+i) 1=some [.int .i64 (x.at' i)]:=by
 match i,h with
 | 0,_=>rfl
 | 1,_=>rfl
 | 2,_=>rfl
 | 3,_=>rfl
theorem pick6_6 (c:Int) (h1:GV.i64ok c) (bs:Nat) (σ:Heap):callT T 72 [.int .i64 c,.int .i64 6] bs σ=some (.int .i64 (pickN c 6:Int),σ):=pick6 c 6 (by omega) h1 bs σ
theorem pick6_4 (c:Int) (h1:GV.i64ok c) (bs:Nat) (σ:Heap):callT T 72 [.int .i64 c,.int .i64 4] bs σ=some (.int .i64 (pickN c 4:Int),σ):=pick6 c 4 (by omega) h1 bs σ
theorem pick6_2 (c:Int) (h1:GV.i64ok c) (bs:Nat) (σ:Heap):callT T 72 [.int .i64 c,.int .i64 2] bs σ=some (.int .i64 (pickN c 2:Int),σ):=pick6 c 2 (by omega) h1 bs σ
theorem pick6_5 (c:Int) (h1:GV.i64ok c) (bs:Nat) (σ:Heap):callT T 72 [.int .i64 c,.int .i64 5] bs σ=some (.int .i64 (pickN c 5:Int),σ):=pick6 c 5 (by omega) h1 bs σ
set_option maxRecDepth 100000
open Go.Mach
theorem rel_link (x:GRaw):(relR x).name=⟨#[108,105,110,107]⟩↔pickN x.name 6=0:=by
 obtain ⟨n,hn,e1,e⟩:=rel_cases x
 rw [e,e1]
 match n,hn with
 | 0,_=>decide
 | 1,_=>decide
 | 2,_=>decide
 | 3,_=>decide
 | 4,_=>decide
 | 5,_=>decide
abbrev cV (t:GV):List AV:=[.int .i64 t.kind,.int .i64 t.num,.str t.text,.isl (GV.encs t.items) false]
theorem addr_get (q:Nat) (h:q<4):window [AV.str ⟨#[97]⟩,.str ⟨#[98]⟩,.str ⟨#[99]⟩,.str ⟨#[100]⟩] q 1=some [.str (addrN q)]:=by
 match q,h with
 | 0,_=>rfl
 | 1,_=>rfl
 | 2,_=>rfl
 | 3,_=>rfl
theorem fact_ok (x:GRaw) (hx:x.ok):pureT T c59 [x.enc]=some (factR x).enc:=by
 have hp:=pick6_6 x.name hx.2.1
 have hr:=rels_get x
 obtain ⟨a1,a2,a3⟩:=rel_arity x
 have hlt:=pickN_lt (c:=x.name) (n:=6) (by omega)
 have hlt':(pickN x.name 6:Int)<6:=by omega
 have hl6:relsD.length=6:=rfl
 have hlink:=rel_link x
 unfold factR
 generalize hn:(relR x).arity.toNat=n at *
 apply pure_enter (by simp [c59])
 simp [c59,callRelations6,setRun,hp,hr]
 refine W_for T 0 68 n (fun i f σ=>f 1=.ptr 0 0∧f 2=.ptr 1 0∧f 3=.ptr 2 0∧f 4=.ptr 3 0∧f 5=.int .i64 (i:Int)∧4≤σ.length∧σ[0]?=some (.cells x.enc.cells 0 false)∧(∃ a b,σ[1]?=some (.cells [a,b] 0 false))∧σ[2]?=some (.cells (relR x).enc.cells 0 false)∧∃ l,σ[3]?=some (.cells [.str (relR x).name,l] 0 false)∧LX 4 4 σ (GV.encs ((List.range i).map (fargR x))) l) ?_ _ _ ?_
 ·rintro i f σ hi ⟨h1,h2,h3,h4,h5,hN,h0,ho,hd,l,hl3,hL⟩
  by_cases hlt:i<n
  ·have hlt2:(i:Int)<(n:Int):=by omega
   have hb4:0≤(i:Int)∧(i:Int)<4:=by omega
   have hw:IntKind.i64.wrap ((i:Int)+1)=(i:Int)+1:=wr64 (by omega) (by omega)
   have hk:=GRaw.at_ok hx i
   have hx0:=raw_at x i (by omega)
   have hsucc:(List.range (i+1)).map (fargR x)=(List.range i).map (fargR x)++[fargR x i]:=by
    rw [List.range_succ,List.map_append]; rfl
   have hal:((List.range i).map (fargR x)).length=i:=by simp
   have hf:fargR x i=if i=0∨i=1∧(pickN x.name 6=0∨pickN (x.at' i) 2=0) then addrV (pickN ((x.at' i).tdiv 2) 4) else numV (pickN ((x.at' i).tdiv 2) 5):=rfl
   rw [hsucc,hf]
   generalize (List.range i).map (fargR x)=es at *
   generalize x.at' i=m at *
   have hq:GV.i64ok (m.tdiv 2):=tdiv_ok hk 2 (by omega)
   have hwm:IntKind.i64.wrap (m.tdiv 2)=m.tdiv 2:=wr64 hq.1 hq.2
   have hel:(GV.encs es).length≤1000000000:=by simp; omega
   have p2:=pick6_2 m hk
   have p4:=pick6_4 _ hq
   have p5:=pick6_5 _ hq
   have q4:=pickN_lt (c:=m.tdiv 2) (n:=4) (by omega)
   have q4':(pickN (m.tdiv 2) 4:Int)<4:=by omega
   have hget:=addr_get _ q4
   have w1:IntKind.i64.wrap 1=1:=by decide
   have w2:IntKind.i64.wrap 2=2:=by decide
   have fin:∀ (v:GV) (σ':Heap) x' (es':List AV),es'=GV.encs (es++[v])→LX 4 4 σ' es' x'→σ.length+1≤σ'.length→(∀ i,i<4→σ'[i]?=σ[i]?) →
     4≤σ'.length∧(∃ a b,σ[1]?=some (AObj.cells [a,b] 0 false))∧(relR x).arity=(n:Int)∧∃ l,(List.set σ' 3 (AObj.cells [AV.str (relR x).name,x'] 0 false))[3]?=some (AObj.cells [AV.str (relR x).name,l] 0 false) ∧
      LX 4 4 (List.set σ' 3 (AObj.cells [AV.str (relR x).name,x'] 0 false)) (GV.encs (es++[v])) l:=fun v σ' x' es' he hL' hl' hk'=>by
    subst he
    exact ⟨by omega,ho,a3.symm,x',list_set_at (by omega),hL'.keep fun i o hi ho=>by rw [zqC (by omega)]; exact ho⟩
   have h02:∀ o (h:0<(σ++[o]).length),(σ++[o])[0]'h=.cells [.int .i64 x.kind,.int .i64 x.name,.int .i64 x.n0,.int .i64 x.n1,.int .i64 x.n2,.int .i64 x.n3] 0 false:=fun o h=>Option.some_inj.1 ((zqF h).symm.trans (by rw [zqA (by omega)]; exact h0))
   by_cases c0:i=0
   ·subst c0
    simp at hlt2
    simp [h1,h2,h3,h4,h5,h0,hd,←a3,hn,hlt2,hx0,h02,p4,hwm,mk,setRun,hl3,q4',hget,-appendA_ag]
    refine stW_app2 (N:=4) hL rfl rfl (by omega) (by omega) hN hel fun x' σ' hL' hlen' hk'=>?_
    simp [h1,h2,h3,h4,h5,hw,hk',h0,hd,hl3,hL'.solid,hL'.cells,setRun,w1,w2]
    first | exact fin (addrV (pickN (m.tdiv 2) 4)) σ' x' _ (by rw [←encs_snoc,GV.enc_eq]; rfl) hL' (by omega) hk' | exact ⟨by omega,fin (addrV (pickN (m.tdiv 2) 4)) σ' x' _ (by rw [←encs_snoc,GV.enc_eq]; rfl) hL' (by omega) hk'⟩
   ·by_cases c1:i=1
    ·subst c1
     by_cases cl:pickN x.name 6=0
     ·have hln:=eq_true (hlink.2 cl)
      simp at hlt2
      simp [h1,h2,h3,h4,h5,h0,hd,←a3,hn,hlt2,hx0,h02,p4,hwm,mk,setRun,hl3,q4',hget,hln,cl,-appendA_ag]
      refine stW_app2 (N:=4) hL rfl rfl (by omega) (by omega) hN hel fun x' σ' hL' hlen' hk'=>?_
      simp [h1,h2,h3,h4,h5,hw,hk',h0,hd,hl3,hL'.solid,hL'.cells,setRun,w1,w2]
      first | exact fin (addrV (pickN (m.tdiv 2) 4)) σ' x' _ (by rw [←encs_snoc,GV.enc_eq]; rfl) hL' (by omega) hk' | exact ⟨by omega,fin (addrV (pickN (m.tdiv 2) 4)) σ' x' _ (by rw [←encs_snoc,GV.enc_eq]; rfl) hL' (by omega) hk'⟩
     ·have hln:¬ (relR x).name=⟨#[108,105,110,107]⟩:=fun h=>cl (hlink.1 h)
      by_cases c2:pickN m 2=0
      ·rw [c2] at p2
       simp at hlt2
       simp [h1,h2,h3,h4,h5,h0,hd,←a3,hn,hlt2,hx0,h02,p4,p2,hwm,mk,setRun,hl3,q4',hget,hln,cl,c2,-appendA_ag]
       refine stW_app2 (N:=4) hL rfl rfl (by omega) (by omega) hN hel fun x' σ' hL' hlen' hk'=>?_
       simp [h1,h2,h3,h4,h5,hw,hk',h0,hd,hl3,hL'.solid,hL'.cells,setRun,w1,w2]
       first | exact fin (addrV (pickN (m.tdiv 2) 4)) σ' x' _ (by rw [←encs_snoc,GV.enc_eq]; rfl) hL' (by omega) hk' | exact ⟨by omega,fin (addrV (pickN (m.tdiv 2) 4)) σ' x' _ (by rw [←encs_snoc,GV.enc_eq]; rfl) hL' (by omega) hk'⟩
      ·have c2':¬ (pickN m 2:Int)=0:=by omega
       simp at hlt2
       simp [h1,h2,h3,h4,h5,h0,hd,←a3,hn,hlt2,hx0,p5,p2,hwm,mk,setRun,hl3,hln,cl,c2,c2',-appendA_ag]
       refine stW_app1 (N:=4) hL rfl rfl (by omega) (by omega) hN hel fun x' σ' hL' hlen' hk'=>?_
       simp [h1,h2,h3,h4,h5,hw,hk',h0,hd,hl3,hL'.solid,hL'.cells,setRun,w1,w2]
       first | exact fin (numV (pickN (m.tdiv 2) 5)) σ' x' _ (by rw [←encs_snoc,GV.enc_eq]; rfl) hL' (by omega) hk' | exact ⟨by omega,fin (numV (pickN (m.tdiv 2) 5)) σ' x' _ (by rw [←encs_snoc,GV.enc_eq]; rfl) hL' (by omega) hk'⟩
    ·have c0':¬ (i:Int)=0:=by omega
     have c1':¬ (i:Int)=1:=by omega
     simp [h1,h2,h3,h4,h5,h0,hd,←a3,hn,hlt2,hb4,hx0,p5,hwm,mk,setRun,hl3,c0,c1,c1',-appendA_ag]
     refine stW_app1 (N:=4) hL rfl rfl (by omega) (by omega) hN hel fun x' σ' hL' hlen' hk'=>?_
     simp [h1,h2,h3,h4,h5,hw,hk',h0,hd,hl3,hL'.solid,hL'.cells,setRun,w1,w2]
     first | exact fin (numV (pickN (m.tdiv 2) 5)) σ' x' _ (by rw [←encs_snoc,GV.enc_eq]; rfl) hL' (by omega) hk' | exact ⟨by omega,fin (numV (pickN (m.tdiv 2) 5)) σ' x' _ (by rw [←encs_snoc,GV.enc_eq]; rfl) hL' (by omega) hk'⟩
  ·have he:i=n:=by omega
   subst he
   obtain ⟨a,b,ho⟩:=ho
   obtain ⟨σ',hcl,_⟩:=(hL.keep (τ:=σ.set 1 (.cells [.str (relR x).name,l] 0 false)) fun i o hi ho=>by rw [zqC (by omega)]; exact ho).close
   have hcl1:=close1_of0 hcl
   have hlt2:¬ (i:Int)<(i:Int):=by omega
   have hs1:(σ.set 1 (.cells [.str (relR x).name,l] 0 false))[1]?=some (.cells [.str (relR x).name,l] 0 false):=list_set_at (by omega)
   simp [h1,h2,h3,h4,h5,h0,hd,←a3,hn,hlt2,hl3,ho,hs1,hcl1,GU.enc_eq]
 ·simp
  exact .inl ⟨rfl,rfl⟩
theorem callFact6 (x:GRaw) (hx:x.ok) (bs:Nat) (σ:Heap):callT T 59 [x.enc] bs σ=some ((factR x).enc,σ):=call_clean rfl rfl rfl (by simp) (fact_ok x hx)
open Go.Mach
structure IsRaw (P:Program) (tR tA tI:TypeId):Prop where
 fs:∃ fs:Array Field,P.underlying tR=some (.struct fs)∧fs.toList.map (·.type)=[tI,tI,tA]
 arr:P.underlying tA=some (.array 4 tI)
 int:P.underlying tI=some (.int .i64)
theorem asRaw {P:Program} {tR tA tI:TypeId} (hT:IsRaw P tR tA tI) {x:AV} (h:TyA P tR x):∃ v:GRaw,x=v.enc∧v.ok:=by
 have e1:IntKind.i64.min=-9223372036854775808:=by decide
 have e2:IntKind.i64.max=9223372036854775807:=by decide
 obtain ⟨fs0,hf0,hts⟩:=hT.fs
 obtain ⟨vs,rfl,hl,hv⟩:=h.asStruct hf0
 have hlen:vs.length=3:=by rw [hl,←List.length_map (f:=(·.type)),hts]; rfl
 match vs,hlen with
 | [x0,x1,x2],_=>
  obtain ⟨y0,rfl,p0,q0⟩:=(field_ty hts hv (i:=0) rfl rfl).asInt hT.int
  obtain ⟨y1,rfl,p1,q1⟩:=(field_ty hts hv (i:=1) rfl rfl).asInt hT.int
  obtain ⟨ws,rfl,hwl,hw⟩:=(field_ty hts hv (i:=2) rfl rfl).asArray hT.arr
  match ws,hwl with
  | [w0,w1,w2,w3],_=>
   obtain ⟨z0,rfl,a0,b0⟩:=(hw w0 (by simp)).asInt hT.int
   obtain ⟨z1,rfl,a1,b1⟩:=(hw w1 (by simp)).asInt hT.int
   obtain ⟨z2,rfl,a2,b2⟩:=(hw w2 (by simp)).asInt hT.int
   obtain ⟨z3,rfl,a3,b3⟩:=(hw w3 (by simp)).asInt hT.int
   rw [e1] at p0 p1 a0 a1 a2 a3; rw [e2] at q0 q1 b0 b1 b2 b3
   exact ⟨⟨y0,y1,z0,z1,z2,z3⟩,by simp [GRaw.enc,flat],⟨p0,q0⟩,⟨p1,q1⟩,⟨a0,b0⟩,⟨a1,b1⟩,⟨a2,b2⟩,⟨a3,b3⟩⟩
theorem argRaws {P:Program} {tL tR tA tI:TypeId} (hT:IsRaw P tR tA tI) (hL:P.underlying tL=some (.slice tR)) {x:AV} (h:TyA P tL x) (hb:bulkA x≤1048576):∃ l:List GRaw,x=.isl (l.map GRaw.enc) false∧FactsOk l:=by
 obtain ⟨es,rfl,hes⟩:=h.asSlice hL
 obtain ⟨l,rfl,hl⟩:=list_enc GRaw.enc GRaw.ok es fun z hz=>asRaw hT (hes z hz)
 have:=bulk_len (l.map GRaw.enc)
 simp only [bulkA,List.length_map] at hb this
 exact ⟨l,rfl,hl,by omega⟩
theorem tyRaw:IsRaw Try.prog 95 93 3:=⟨fieldTys_some (by kernel_rfl),by kernel_rfl,by kernel_rfl⟩
open Go.RowKit Go.Mach
structure GW where
 name:ByteArray
 args:List GV
 stamp:Int
 deriving Inhabited
namespace GW
def cls (x:GW):List AV:=[.str x.name,.isl (GV.encs x.args) false,.int .i64 x.stamp]
def enc (x:GW):AV:=.agg x.cls
theorem enc_eq (x:GW):x.enc=.agg [.str x.name,.isl (GV.encs x.args) false,.int .i64 x.stamp]:=rfl
theorem enc_mk (n:ByteArray) (l:List GV) (s:Int):AV.agg [.str n,.isl (GV.encs l) false,.int .i64 s]=enc ⟨n,l,s⟩:=rfl
@[simp] theorem enc_cells (x:GW):x.enc.cells=x.cls:=rfl
@[simp] theorem cls_length (x:GW):x.cls.length=3:=rfl
@[simp] theorem enc_solid (x:GW):x.enc.solid=true:=rfl
@[simp] theorem enc_head (x:GW) (xs:List AV):headYld (x.enc :: xs)=false:=by cases x; exact headYld_agg _ _
@[simp] theorem enc_clean (x:GW):x.enc.clean=true:=rfl
@[simp] theorem enc_datR (x:GW):x.enc.datR=true:=rfl
@[simp] theorem enc_dat (x:GW):x.enc.dat=true:=rfl
@[simp] theorem enc_clo (x:GW):x.enc.clo=true:=rfl
@[simp] theorem cls_clo (x:GW):x.cls.all AV.clo1=true:=rfl
@[simp] theorem enc_clo1 (x:GW):x.enc.clo1=false:=rfl
@[simp] theorem enc_closeR (σ:Heap) (x:GW):closeR σ x.enc=some (x.enc,σ):=rfl
@[simp] theorem encs_okEl (l:List GW):(l.map enc).all (okEl 3 true)=true:=by
 rw [zqQ]; intro x hx
 obtain ⟨v,_,rfl⟩:=List.mem_map.1 hx
 rfl
def ok (x:GW):Prop:=GV.oks x.args∧GV.i64ok x.stamp
def size (x:GW):Nat:=bulkA x.enc
end GW
def cmpW (a b:GW):Int:=if Lib.compareBytes a.name.data.toList b.name.data.toList=0 then cmpVs a.args b.args else Lib.compareBytes a.name.data.toList b.name.data.toList
def cmpM (a b:GW):Int:=if cmpW a b=0 then cmpI b.stamp a.stamp else cmpW a b
theorem cmpW_neg (a b:GW):cmpW b a=-cmpW a b:=by
 have h1:=cmpB_neg a.name.data.toList b.name.data.toList
 have h2:=cmpVs_neg a.args b.args
 unfold cmpW; grind
theorem cmpW_self (a:GW):cmpW a a=0:=by have:=cmpW_neg a a; omega
theorem lex_tr {α:Type} (f g:α→α→Int) (a b c:α) (fn:∀ x y,f y x=-f x y)
  (hf:∀ a b c,(f a b≤0→f b c≤0→f a c≤0)∧(f a b<0→f b c≤0→f a c<0)∧(f a b≤0→f b c<0→f a c<0))
  (hg:(g a b≤0→g b c≤0→g a c≤0)∧(g a b<0→g b c≤0→g a c<0)∧(g a b≤0→g b c<0→g a c<0)) :
  ((if f a b=0 then g a b else f a b)≤0→(if f b c=0 then g b c else f b c)≤0→(if f a c=0 then g a c else f a c)≤0) ∧
  ((if f a b=0 then g a b else f a b)<0→(if f b c=0 then g b c else f b c)≤0→(if f a c=0 then g a c else f a c)<0) ∧
  ((if f a b=0 then g a b else f a b)≤0→(if f b c=0 then g b c else f b c)<0→(if f a c=0 then g a c else f a c)<0):=by
 have h1:=hf a b c
 have h2:=hf c b a
 have e1:=fn a b
 have e2:=fn b c
 have e3:=fn a c
 rw [e1,e2,e3] at h2
 by_cases x:f a b=0 <;> by_cases y:f b c=0
 ·have z:f a c=0:=by omega
  rw [if_pos x,if_pos y,if_pos z]; exact hg
 ·have z:f a c≠0:=by omega
  rw [if_pos x,if_neg y,if_neg z]; omega
 ·have z:f a c≠0:=by omega
  rw [if_neg x,if_pos y,if_neg z]; omega
 ·refine ⟨fun p q=>?_,fun p q=>?_,fun p q=>?_⟩ <;>
  ·rw [if_neg x] at p; rw [if_neg y] at q
   have:f a c<0:=by omega
   rw [if_neg (by omega)]; omega
theorem cmpW_tr (a b c:GW):(cmpW a b≤0→cmpW b c≤0→cmpW a c≤0)∧(cmpW a b<0→cmpW b c≤0→cmpW a c<0)∧(cmpW a b≤0→cmpW b c<0→cmpW a c<0):=
 lex_tr (fun a b:GW=>Lib.compareBytes a.name.data.toList b.name.data.toList) (fun a b=>cmpVs a.args b.args) a b c (fun _ _=>cmpB_neg _ _) (fun _ _ _=>cmpB_tr _ _ _) (cmpVs_tr _ _ _)
theorem cmpM_neg (a b:GW):cmpM b a=-cmpM a b:=by
 have h1:=cmpW_neg a b
 have h2:=cmpI_neg a.stamp b.stamp
 unfold cmpM; grind
theorem cmpM_tr (a b c:GW):(cmpM a b≤0→cmpM b c≤0→cmpM a c≤0)∧(cmpM a b<0→cmpM b c≤0→cmpM a c<0)∧(cmpM a b≤0→cmpM b c<0→cmpM a c<0):=by
 refine lex_tr (fun a b:GW=>cmpW a b) (fun a b=>cmpI b.stamp a.stamp) a b c cmpW_neg cmpW_tr ?_
 have:=cmpI_tr c.stamp b.stamp a.stamp
 exact ⟨fun p q=>this.1 q p,fun p q=>this.2.2 q p,fun p q=>this.2.1 q p⟩
theorem cmpM_le {a b:GW} (h:cmpM a b≤0):cmpW a b≤0:=by
 unfold cmpM at h; split at h <;> omega
def szW (x:GW):Prop:=GV.sizes x.args≤100000000000
theorem cmpW_ok (a b:GW) (hs:szW a):pureT T c56 [a.enc,b.enc]=some (.int .i64 (cmpW a b)):=by
 have hf:∀ bs σ,callT T 69 [.isl (GV.encs a.args) false,.isl (GV.encs b.args) false,.func 70 []] bs σ=some (.int .i64 (cmpVs a.args b.args),σ):=fun bs σ=>
  call_clean rfl rfl rfl rfl (cmpFunc a.args b.args (Nat.le_trans (len_sizes a.args) hs) fun x hx y _ bs σ=>valCmp x y (by have:=(sizes_mem hx).1; unfold szW at hs; omega) bs σ)
 apply pure_enter (by simp [c56])
 by_cases h:Lib.compareBytes a.name.data.toList b.name.data.toList=0
 ·simp [c56,GW.enc_eq,call56,hf,cmpW,h]
 ·simp [c56,GW.enc_eq,call56,hf,cmpW,h]
theorem callCmpW (a b:GW) (hs:szW a) (bs:Nat) (σ:Heap):callT T 56 [a.enc,b.enc] bs σ=some (.int .i64 (cmpW a b),σ):=call_clean rfl rfl rfl (by simp) (cmpW_ok a b hs)
theorem cmpM_ok (a b:GW) (hs:szW a):pureT T c55 [a.enc,b.enc]=some (.int .i64 (cmpM a b)):=by
 have h1:=callCmpW a b hs
 rw [GW.enc_eq,GW.enc_eq] at h1
 apply pure_enter (by simp [c55])
 by_cases h:cmpW a b=0
 ·simp [c55,GW.enc_eq,h1,call68,cmpM,h]
 ·simp [c55,GW.enc_eq,h1,call68,cmpM,h]
theorem callCmpM (a b:GW) (hs:szW a) (bs:Nat) (σ:Heap):callT T 55 [a.enc,b.enc] bs σ=some (.int .i64 (cmpM a b),σ):=call_clean rfl rfl rfl (by simp) (cmpM_ok a b hs)
theorem eqW_ok (a b:GW) (hs:szW a):pureT T c58 [a.enc,b.enc]=some (.bool (decide (cmpW a b=0))):=by
 have h1:=callCmpW a b hs
 rw [GW.enc_eq,GW.enc_eq] at h1
 apply pure_enter (by simp [c58])
 by_cases h:cmpW a b=0
 ·simp [c58,GW.enc_eq,h1,h]
 ·simp [c58,GW.enc_eq,h1,h]
theorem callEqW (a b:GW) (hs:szW a) (bs:Nat) (σ:Heap):callT T 58 [a.enc,b.enc] bs σ=some (.bool (sym (decide (cmpW a b=0))),σ):=call_clean rfl rfl rfl (by simp) (eqW_ok a b hs)
def fW (l:List GW):List AV:=l.flatMap GW.cls
@[simp] theorem fW_nil:fW []=[]:=rfl
theorem fW_cons (x:GW) (l:List GW):fW (x :: l)=.str x.name :: .isl (GV.encs x.args) false :: .int .i64 x.stamp :: fW l:=rfl
theorem fW_len:∀ l:List GW,(fW l).length=l.length * 3
 | []=>rfl
 | x :: l=>by rw [fW_cons]; simp only [zqU,fW_len l]; omega
theorem fW_win:∀ (l:List GW) (i:Nat) (h:i<l.length),window (fW l) (i * 3) 3=some l[i].cls
 | x :: l,0,_=>by
  rw [fW_cons]; simp [window,GW.cls]
 | x :: l,i+1,h=>by
  have ih:=fW_win l i (by simpa using h)
  have hl:=fW_len l
  have h':i<l.length:=by simpa using h
  unfold window at ih ⊢
  rw [if_pos (by omega)] at ih
  rw [if_pos (by rw [fW_len]; simp only [zqU]; omega)]
  rw [fW_cons,show (i+1) * 3=i * 3+3 by omega]
  simpa using ih
theorem fW_set:∀ (l:List GW) (i:Nat) (y:GW) (h:i<l.length),setRun (fW l) (i * 3) y.cls=fW (l.set i y)
 | x :: l,0,y,_=>rfl
 | x :: l,i+1,y,h=>by
  have ih:=fW_set l i y (by simpa using h)
  simp only [GW.cls,setRun] at ih
  rw [List.set_cons_succ,fW_cons,fW_cons,show (i+1) * 3=i * 3+3 by omega,←ih]
  rfl
theorem load_W {σ:Heap} {id fz:Nat} {ext:Bool} {l:List GW} (h:σ[id]?=some (.cells (fW l) 0 ext)) {i:Nat} (hi:i<l.length):loadA σ 3 true (.ptr id (0+i * 3))=some l[i].enc:=by
 simp only [loadA,h,Nat.zero_add,fW_win l i hi]; rfl
theorem store_W {σ:Heap} {bs id:Nat} {ext:Bool} {l:List GW} (h:σ[id]?=some (.cells (fW l) 0 ext)) {i:Nat} (hi:i<l.length) (y:GW) :
  storeA bs σ 3 y.enc (.ptr id (0+i * 3))=some (σ.set id (.cells (fW (l.set i y)) 0 ext)):=by
 have:0+i * 3+3≤(fW l).length:=by rw [fW_len]; omega
 simp only [storeA,h]
 rw [if_pos ⟨Nat.zero_le _,this,rfl,rfl,.inr rfl⟩,Nat.zero_add,GW.enc_cells,fW_set l i y hi]
open Go.RowKit Go.Mach
theorem setSame {σ:Heap} {id:Nat} {o:AObj} (h:σ[id]?=some o):σ.set id o=σ:=by
 obtain ⟨h1,h2⟩:=zqI.1 h
 rw [←h2]; exact List.set_getElem_self h1
theorem get_mid {α:Type} (A:List α) (x:α) (B:List α) {p:Nat} (hp:p=A.length):(A++x :: B)[p]?=some x:=by
 subst hp; simp
theorem set_mid {α:Type} (A:List α) (x y:α) (B:List α) {p:Nat} (hp:p=A.length):(A++x :: B).set p y=A++y :: B:=by
 subst hp; simp
theorem load_M {σ:Heap} {id:Nat} {ext:Bool} {A B:List GW} {x:GW} (h:σ[id]?=some (.cells (fW (A++x :: B)) 0 ext)) {p:Nat} (hp:p=A.length):loadA σ 3 true (.ptr id (p * 3))=some x.enc:=by
 have e:=get_mid A x B hp
 have hlt:p<(A++x :: B).length:=by simp; omega
 have e2:(A++x :: B)[p]=x:=by rw [zqF hlt] at e; exact Option.some.inj e
 have:=load_W (fz:=0) h hlt
 rw [Nat.zero_add,e2] at this; exact this
theorem store_M {σ:Heap} {bs id:Nat} {ext:Bool} {A B:List GW} {x:GW} (h:σ[id]?=some (.cells (fW (A++x :: B)) 0 ext)) {p:Nat} (hp:p=A.length) (y:GW) :
  storeA bs σ 3 y.enc (.ptr id (p * 3))=some (σ.set id (.cells (fW (A++y :: B)) 0 ext)):=by
 have:=store_W (bs:=bs) h (i:=p) (by simp; omega) y
 rw [Nat.zero_add,set_mid A x y B hp] at this
 exact this
theorem id_lt {σ:Heap} {id:Nat} {o:AObj} (h:σ[id]?=some o):id<σ.length:=(zqI.1 h).1
theorem get_set {σ:Heap} {id:Nat} {o o':AObj} (h:σ[id]?=some o):(σ.set id o')[id]?=some o':=by
 have:=id_lt h; simp [this]
theorem swp {σ σ2:Heap} {id:Nat} {ext:Bool} {A B C:List GW} {x y:GW} {p q:Nat} (h:σ[id]?=some (.cells (fW (A++x :: (B++y :: C))) 0 ext)) (hp:p=A.length) (hq:q=p+1+B.length) (bs:Nat)
  (h2:σ2=σ.set id (.cells (fW (A++y :: (B++x :: C))) 0 ext)) :
  loadA σ 3 true (.ptr id (p * 3))=some x.enc∧loadA σ 3 true (.ptr id (q * 3))=some y.enc ∧
  (∃ σ1,storeA bs σ 3 y.enc (.ptr id (p * 3))=some σ1∧storeA bs σ1 3 x.enc (.ptr id (q * 3))=some σ2) ∧
  (∃ σ1,storeA bs σ 3 x.enc (.ptr id (q * 3))=some σ1∧storeA bs σ1 3 y.enc (.ptr id (p * 3))=some σ2):=by
 subst h2
 have e:∀ u v:GW,A++u :: (B++v :: C)=(A++u :: B)++v :: C:=fun u v=>by simp
 have hq':∀ u:GW,q=(A++u :: B).length:=fun u=>by simp; omega
 refine ⟨load_M h hp,?_,⟨_,store_M h hp y,?_⟩,σ.set id (.cells (fW (A++x :: (B++x :: C))) 0 ext),?_,?_⟩
 ·rw [e] at h; exact load_M h (hq' x)
 ·rw [e,e]
  have:=store_M (bs:=bs) (get_set (o':=.cells (fW ((A++y :: B)++y :: C)) 0 ext) h) (hq' y) x
  rw [List.set_set] at this; exact this
 ·rw [e] at h; rw [e]; exact store_M h (hq' x) x
 ·have:=store_M (bs:=bs) (get_set (o':=.cells (fW (A++x :: (B++x :: C))) 0 ext) h) hp y
  rw [List.set_set] at this; exact this
def swR (X U Y V Z:List GW) (i:Nat):List GW:=X++(V.take i++U.drop i)++Y++(U.take i++V.drop i)++Z
theorem swR_at (X U Y V Z:List GW) {i:Nat} (hu:i<U.length) (hv:i<V.length) :
  swR X U Y V Z i=(X++V.take i)++U[i] :: ((U.drop (i+1)++Y++U.take i)++V[i] :: (V.drop (i+1)++Z)):=by
 unfold swR; rw [zqM hu,zqM hv]; simp only [zqP,List.cons_append]
theorem swR_to (X U Y V Z:List GW) {i:Nat} (hu:i<U.length) (hv:i<V.length) :
  (X++V.take i)++V[i] :: ((U.drop (i+1)++Y++U.take i)++U[i] :: (V.drop (i+1)++Z))=swR X U Y V Z (i+1):=by
 unfold swR; rw [←List.take_append_getElem hu,←List.take_append_getElem hv]; simp only [zqP,List.cons_append,List.nil_append]
set_option maxHeartbeats 2000000 in
theorem swapR (X U Y V Z:List GW) {a b m n id:Nat} {σ:Heap} {ext:Bool} (ha:a=X.length) (hm:U.length=m) (hm':V.length=m) (hb:b=a+m+Y.length) (hn:n=b+m+Z.length) (hn':n≤100000000000)
  {L L':List GW} (hL:L=X++U++Y++V++Z) (hL':L'=X++V++Y++U++Z) (h:σ[id]?=some (.cells (fW L) 0 ext)) (g:AV) (bs:Nat) :
  callT T 88 [.sl id 0 n 3 true,.int .i64 a,.int .i64 b,.int .i64 m,g] bs σ=some (.tup [],σ.set id (.cells (fW L') 0 ext)):=by
 subst hL hL'
 have h0:swR X U Y V Z 0=X++U++Y++V++Z:=by simp [swR]
 have h1:swR X U Y V Z m=X++V++Y++U++Z:=by unfold swR; rw [List.take_of_length_le (by omega),List.take_of_length_le (by omega),List.drop_of_length_le (by omega),List.drop_of_length_le (by omega)]; simp
 rw [←h0] at h; rw [←h1]
 have hid:=id_lt h
 refine heap_enter (af:=c88) (args':=[.sl id 0 n 3 true,.int .i64 a,.int .i64 b,.int .i64 m,g]) (σ1:=σ) rfl rfl (by simp [c88]) (by simp [c88]) rfl ?_
 simp [c88,baseA]
 refine W_for T _ 38 m (fun i f τ=>f 0=.sl id 0 n 3 true∧f 1=.int .i64 a∧f 2=.int .i64 b∧f 3=.int .i64 m∧f 10=.int .i64 (i:Int)∧τ=σ.set id (.cells (fW (swR X U Y V Z i)) 0 ext)) ?_ _ _ ?_
 ·rintro i f τ hi ⟨f0,f1,f2,f3,f10,rfl⟩
  by_cases hlt:i<m
  ·obtain ⟨p,hp⟩:∃ p,p=a+i:=⟨_,rfl⟩
   obtain ⟨q,hq⟩:∃ q,q=b+i:=⟨_,rfl⟩
   have hu:i<U.length:=by omega
   have hv:i<V.length:=by omega
   have hs:=get_set (o':=.cells (fW (swR X U Y V Z i)) 0 ext) h
   rw [swR_at X U Y V Z hu hv] at hs
   obtain ⟨s1,s2,⟨σ1,s3,s4⟩,_⟩:=swp hs (p:=p) (q:=q) (by simp; omega) (by simp; omega) σ.length (by rw [List.set_set,swR_to X U Y V Z hu hv])
   rw [←swR_at X U Y V Z hu hv] at s1 s2 s3
   have w1:IntKind.i64.wrap ((a:Int)+(i:Int))=(p:Int):=by rw [hp,wr64 (by omega) (by omega)]; omega
   have w2:IntKind.i64.wrap ((b:Int)+(i:Int))=(q:Int):=by rw [hq,wr64 (by omega) (by omega)]; omega
   have w3:IntKind.i64.wrap ((i:Int)+1)=((i+1:Nat):Int):=by rw [wr64 (by omega) (by omega)]; omega
   have l1:p<n:=by omega
   have l2:q<n:=by omega
   simp [-loadA_ptr,-storeA_ptr,f0,f1,f2,f3,f10,hlt,w1,w2,l1,l2,s1,s2,s3,s4]
   exact w3
  ·have he:i=m:=by omega
   subst he
   simp [f0,f1,f2,f3,f10,dropA_gc,refLt,List.take_of_length_le]
 ·simp [setSame h]
open Go.RowKit Go.Mach
def iN:AV→Nat
 | .int _ n=>n.toNat
 | _=>0
@[simp] theorem iN_int (k:IntKind) (n:Nat):iN (.int k (n:Int))=n:=rfl
def RotI (final:List GW) (m n id:Nat) (ext:Bool) (σ:Heap) (g:AV) (f:FR) (τ:Heap):Prop:=
 ∃ (X U V Z L:List GW) (i j p:Nat),f 0=.sl id 0 n 3 true∧f 2=.int .i64 m∧f 4=g∧f 10=.int .i64 (i:Int)∧f 11=.int .i64 (j:Int)∧τ=σ.set id (.cells (fW L) 0 ext)∧L=X++U++V++Z ∧
  U.length=i∧V.length=j∧X.length=p∧m=p+i∧n=m+j+Z.length∧1≤i∧1≤j∧X++V++U++Z=final
theorem i64sub {a b c:Nat} (h:a=c+b) (ha:a≤1000000000000):IntKind.i64.wrap ((a:Int) - (b:Int))=(c:Int):=by rw [wr64 (by omega) (by omega)]; omega
theorem i64add {a b c:Nat} (h:c=a+b) (ha:c≤1000000000000):IntKind.i64.wrap ((a:Int)+(b:Int))=(c:Int):=by rw [wr64 (by omega) (by omega)]; omega
set_option maxHeartbeats 2000000 in
theorem rotate_ok (X U V Z:List GW) {a m b n id:Nat} {σ:Heap} {ext:Bool} (ha:a=X.length) (hm:m=a+U.length) (hb:b=m+V.length) (hn:n=b+Z.length) (hu:1≤U.length) (hv:1≤V.length) (hn':n≤100000000000)
  {L L':List GW} (hL:L=X++U++V++Z) (hL':X++V++U++Z=L') (h:σ[id]?=some (.cells (fW L) 0 ext)) (g:AV) (bs:Nat) :
  callT T 82 [.sl id 0 n 3 true,.int .i64 a,.int .i64 m,.int .i64 b,g] bs σ=some (.tup [],σ.set id (.cells (fW L') 0 ext)):=by
 have hid:=id_lt h
 refine heap_enter (af:=c82) (args':=[.sl id 0 n 3 true,.int .i64 a,.int .i64 m,.int .i64 b,g]) (σ1:=σ) rfl rfl (by simp [c82]) (by simp [c82]) rfl ?_
 simp [c82,baseA,i64sub (show m=U.length+a by omega) (by omega),i64sub (show b=V.length+m by omega) (by omega)]
 refine W_while T _ 58 (RotI L' m n id ext σ g) (fun f τ=>iN (f 10)+iN (f 11)) ?_ _ _ ?_
 ·rintro f τ ⟨X1,U1,V1,Z1,L1,i,j,p,f0,f2,f4,f10,f11,rfl,hL1,hi,hj,hp,hmp,hnn,hi1,hj1,hfin⟩
  have hs:=get_set (o':=.cells (fW L1) 0 ext) h
  have hsl:∀ o,(σ.set id o).length=σ.length:=fun o=>List.length_set
  have w1:IntKind.i64.wrap ((m:Int) - (i:Int))=(p:Int):=i64sub (by omega) (by omega)
  by_cases heq:i=j
  ·subst heq
   have:=swapR X1 U1 [] V1 Z1 (a:=p) (b:=m) (m:=i) (n:=n) hp.symm hi hj (by simp; omega) (by omega) hn' (L':=L') (by rw [List.append_nil]; exact hL1) (by rw [List.append_nil]; exact hfin.symm) hs g
   simp [f0,f2,f4,f10,f11,w1,this,dropA_gc,refLt,List.take_of_length_le]
  ·have hne:¬ ((i:Int)=(j:Int)):=by omega
   by_cases hgt:j<i
   ·have h3:U1=U1.take j++U1.drop j:=(List.take_append_drop j U1).symm
    have w2:IntKind.i64.wrap ((i:Int) - (j:Int))=((i - j:Nat):Int):=i64sub (by omega) (by omega)
    have:=swapR X1 (U1.take j) (U1.drop j) V1 Z1 (a:=p) (b:=m) (m:=j) (n:=n) hp.symm (by simp; omega) hj (by simp; omega) (by omega) hn' (L':=X1++V1++U1.drop j++U1.take j++Z1)
     (by rw [hL1]; simp [zqP,←zqP (U1.take j)]) rfl hs g
    rw [List.set_set] at this
    generalize hL2:X1++V1++U1.drop j++U1.take j++Z1=L2 at this
    simp [f0,f2,f4,f10,f11,w1,w2,this,hne,hgt]
    refine ⟨by omega,X1++V1,U1.drop j,U1.take j,Z1,L2,i - j,j,p+j,?_⟩
    simp [f0,f2,f4,f11,←hL2]
    refine ⟨by omega,by omega,by omega,by omega,by omega,by omega,by omega,?_⟩
    rw [←hfin]; simp [←zqP (U1.take j)]
   ·have w2:IntKind.i64.wrap ((j:Int) - (i:Int))=((j - i:Nat):Int):=i64sub (by omega) (by omega)
    obtain ⟨q,hq⟩:∃ q,q=m+j:=⟨_,rfl⟩
    have w3:IntKind.i64.wrap ((m:Int)+(j:Int))=(q:Int):=i64add hq (by omega)
    have w4:IntKind.i64.wrap ((q:Int) - (i:Int))=((q - i:Nat):Int):=i64sub (by omega) (by omega)
    have:=swapR X1 U1 (V1.take (j - i)) (V1.drop (j - i)) Z1 (a:=p) (b:=q - i) (m:=i) (n:=n) hp.symm hi (by simp; omega) (by simp; omega) (by omega) hn' (L':=X1++V1.drop (j - i)++V1.take (j - i)++U1++Z1)
     (by rw [hL1]; simp [←zqP (V1.take (j - i))]) rfl hs g
    rw [List.set_set] at this
    generalize hL2:X1++V1.drop (j - i)++V1.take (j - i)++U1++Z1=L2 at this
    simp [f0,f2,f4,f10,f11,w1,w2,w3,w4,this,hne,hgt]
    refine ⟨by omega,X1,V1.drop (j - i),V1.take (j - i),U1++Z1,L2,i,j - i,p,?_⟩
    simp [f0,f2,f4,f10,←hL2]
    refine ⟨by omega,by omega,by omega,by omega,by omega,by omega,by omega,?_⟩
    rw [←hfin]; simp [←zqP (V1.take (j - i))]
 ·refine ⟨X,U,V,Z,L,U.length,V.length,a,?_⟩
  simp [setSame h]
  exact ⟨by simpa using hL,ha.symm,hm,by omega,hu,hv,by simpa using hL'⟩
open Go.RowKit Go.Mach
abbrev leM (x y:GW):Prop:=cmpM x y≤0
abbrev SrtM (l:List GW):Prop:=l.Pairwise leM
theorem leM_tr {a b c:GW} (h:leM a b) (k:leM b c):leM a c:=(cmpM_tr a b c).1 h k
theorem leM_not {a b:GW} (h:¬ cmpM a b<0):leM b a:=by have:=cmpM_neg a b; unfold leM; omega
theorem leM_lt {a b:GW} (h:cmpM a b<0):leM a b:=by unfold leM; omega
theorem ins_sorted {S1 S2:List GW} {e:GW} (h:SrtM (S1++S2)) (h2:∀ y∈S2,cmpM e y<0) (h1:S1=[]∨∃ S y,S1=S++[y]∧¬ cmpM e y<0):SrtM (S1++e :: S2):=by
 rw [SrtM,List.pairwise_append] at h ⊢
 obtain ⟨p1,p2,p3⟩:=h
 refine ⟨p1,List.pairwise_cons.2 ⟨fun y hy=>leM_lt (h2 y hy),p2⟩,fun x hx y hy=>?_⟩
 rcases List.mem_cons.1 hy with rfl | hy
 ·rcases h1 with rfl | ⟨S,z,rfl,hz⟩
  ·cases hx
  ·have hz':=leM_not hz
   rcases List.mem_append.1 hx with hx | hx
   ·exact leM_tr ((List.pairwise_append.1 p1).2.2 x hx z (by simp)) hz'
   ·simp at hx; subst hx; exact hz'
 ·exact p3 x hx y hy
def InsI (X S R Z:List GW) (e:GW) (n id a b i:Nat) (ext:Bool) (σ:Heap) (f:FR) (τ:Heap):Prop:=
 ∃ (S1 S2 L:List GW) (j:Nat),f 0=.sl id 0 n 3 true∧f 1=.int .i64 a∧f 2=.int .i64 b∧f 3=.func 55 []∧f 8=.int .i64 (i:Int)∧f 9=.int .i64 (j:Int)∧τ=σ.set id (.cells (fW L) 0 ext) ∧
  L=(X++S1)++e :: (S2++R++Z)∧S1++S2=S∧j=a+S1.length∧∀ y∈S2,cmpM e y<0
def OutI (X A Z:List GW) (n id a b:Nat) (ext:Bool) (σ:Heap) (k:Nat) (f:FR) (τ:Heap):Prop:=
 ∃ (S R L:List GW) (i:Nat),f 0=.sl id 0 n 3 true∧f 1=.int .i64 a∧f 2=.int .i64 b∧f 3=.func 55 []∧f 8=.int .i64 (i:Int)∧τ=σ.set id (.cells (fW L) 0 ext) ∧
  L=X++S++R++Z∧(S++R).Perm A∧SrtM S∧i=a+1+k∧(S.length=k+1∨(k=0∧A=[]))
def SortedTo (X A Z:List GW) (id:Nat) (ext:Bool) (σ:Heap) (r:AV × Heap):Prop:=∃ A' L',A'.Perm A∧SrtM A'∧L'=X++A'++Z∧r=(.tup [],σ.set id (.cells (fW L') 0 ext))
set_option maxHeartbeats 4000000 in
theorem insertion_ok (X A Z:List GW) {a b n id:Nat} {σ:Heap} {ext:Bool} (ha:a=X.length) (hb:b=a+A.length) (hn:n=b+Z.length) (hn':n≤100000000000) (hsz:∀ x∈A,szW x)
  {L:List GW} (hL:L=X++A++Z) (h:σ[id]?=some (.cells (fW L) 0 ext)) (bs:Nat) :
  ∃ r,callT T 78 [.sl id 0 n 3 true,.int .i64 a,.int .i64 b,.func 55 []] bs σ=some r∧SortedTo X A Z id ext σ r:=by
 have hid:=id_lt h
 refine heap_enterE (af:=c78) (args':=[.sl id 0 n 3 true,.int .i64 a,.int .i64 b,.func 55 []]) (σ1:=σ) rfl rfl (by simp [c78]) (by simp [c78]) rfl ?_
 simp [c78,baseA]
 refine W_for T _ 53 (A.length - 1) (OutI X A Z n id a b ext σ) ?_ _ _ ?_
 ·rintro k f τ hk ⟨S,R,L1,i,f0,f1,f2,f3,f8,rfl,hL1,hperm,hsrt,hi,hS⟩
  by_cases hlt:i<b
  ·have hS:S.length=k+1:=by rcases hS with hS | ⟨rfl,rfl⟩; exact hS; simp at hb; omega
   have hAl:S.length+R.length=A.length:=by rw [←zqJ]; exact hperm.length_eq
   obtain ⟨e,R',rfl⟩:∃ e R',R=e :: R':=by
    cases R with
    | nil=>simp at hAl; omega
    | cons e R'=>exact ⟨e,R',rfl⟩
   simp [f0,f1,f2,f3,f8,hlt]
   refine W_while T _ 53 (InsI X S R' Z e n id a b i ext σ) (fun f τ=>iN (f 9)) ?_ _ _ ?_
   ·clear f0 f1 f2 f3 f8
    rintro f τ ⟨S1,S2,L2,j,f0,f1,f2,f3,f8,f9,rfl,hL2,hS12,hj,hlow⟩
    have hsl:∀ o,(σ.set id o).length=σ.length:=fun o=>List.length_set
    have hlen:S1.length+S2.length=k+1:=by rw [←zqJ,hS12]; exact hS
    have wi:IntKind.i64.wrap ((i:Int)+1)=((i+1:Nat):Int):=i64add rfl (by omega)
    have hfin:∀ f',f' 0=.sl id 0 n 3 true→f' 1=.int .i64 a→f' 2=.int .i64 b→f' 3=.func 55 []→f' 8=.int .i64 (IntKind.i64.wrap ((i:Int)+1))→SrtM (S1++e :: S2) →
      OutI X A Z n id a b ext σ (k+1) f' (σ.set id (.cells (fW L2) 0 ext)):=fun f' g0 g1 g2 g3 g8 hss=>by
     refine ⟨S1++e :: S2,R',L2,i+1,g0,g1,g2,g3,by rw [g8,wi],rfl,?_,?_,hss,by omega,.inl (by simp; omega)⟩
     ·rw [hL2]; simp
     ·refine List.Perm.trans ?_ hperm
      rw [←hS12]; simp only [zqP,List.cons_append]
      exact (List.Perm.append_left S1 (List.perm_middle.symm))
    by_cases hja:a<j
    ·obtain ⟨S0,y,rfl⟩:∃ S0 y,S1=S0++[y]:=by
      rcases List.eq_nil_or_concat S1 with rfl | ⟨S0,y,rfl⟩
      ·simp at hj; omega
      ·exact ⟨S0,y,by simp⟩
     obtain ⟨p,hp⟩:∃ p,j=p+1:=⟨j - 1,by omega⟩
     have hps:p=a+S0.length:=by simp at hj; omega
     have hs:=get_set (o':=.cells (fW L2) 0 ext) h
     have hL2':L2=(X++S0)++y :: ([]++e :: (S2++R'++Z)):=by rw [hL2]; simp
     rw [hL2'] at hs
     obtain ⟨L3,hL3⟩:∃ L3,L3=(X++S0)++e :: ([]++y :: (S2++R'++Z)):=⟨_,rfl⟩
     obtain ⟨s1,s2,_,⟨σ1,s3,s4⟩⟩:=swp hs (p:=p) (q:=j) (by simp; omega) (by simp; omega) σ.length (by rw [List.set_set,←hL3])
     rw [←hL2'] at s1 s2 s3
     have w1:IntKind.i64.wrap ((j:Int) - 1)=(p:Int):=by rw [wr64 (by omega) (by omega)]; omega
     have hmem:e∈A:=hperm.mem_iff.1 (by simp)
     have hc:=fun bs σ=>callCmpM e y (hsz e hmem) bs σ
     have l1:j<n:=by simp at hlen; omega
     have l2:p<n:=by omega
     by_cases hlt2:cmpM e y<0
     ·simp [-loadA_ptr,-storeA_ptr,f0,f1,f2,f3,f8,f9,hja,w1,l1,l2,s1,s2,s3,s4,hc,hlt2]
      refine ⟨by omega,S0,y :: S2,L3,p,?_⟩
      simp [f0,f1,f2,f3,f8]
      exact ⟨by rw [hL3]; simp,by rw [←hS12]; simp,hps,hlt2,hlow⟩
     ·simp [-loadA_ptr,-storeA_ptr,f0,f1,f2,f3,f8,f9,hja,w1,l1,l2,s1,s2,s3,s4,hc,hlt2]
      exact ⟨by omega,hfin _ (by simp [f0]) (by simp [f1]) (by simp [f2]) (by simp [f3]) (by simp) (ins_sorted (by rw [hS12]; exact hsrt) hlow (.inr ⟨S0,y,rfl,hlt2⟩))⟩
    ·simp [f0,f1,f2,f3,f8,f9,hja]
     have:S1=[]:=by cases S1 with
      | nil=>rfl
      | cons x l=>simp at hj; omega
     exact ⟨by omega,hfin _ (by simp [f0]) (by simp [f1]) (by simp [f2]) (by simp [f3]) (by simp) (ins_sorted (by rw [hS12]; exact hsrt) hlow (.inl this))⟩
   ·refine ⟨S,[],L1,i,?_⟩
    simp [f0,f1,f2,f3,f8]
    exact ⟨by simpa using hL1,by omega⟩
  ·simp [f0,f1,f2,f3,f8,hlt,dropA_gc,refLt,List.take_of_length_le]
   have hR:R=[]:=by
    have:=hperm.length_eq
    rw [zqJ] at this
    rcases hS with hS | ⟨_,hA⟩
    ·exact List.length_eq_zero_iff.1 (by omega)
    ·rw [hA] at this; simp at this; exact this.2
   subst hR
   rw [List.append_nil] at hperm
   exact ⟨S,L1,hperm,hsrt,by rw [hL1]; simp,rfl⟩
 ·refine ⟨A.take 1,A.drop 1,L,a+1,?_⟩
  simp [setSame h]
  have e1:A.take 1++A.tail=A:=by cases A <;> rfl
  refine ⟨wr64 (by omega) (by omega),by rw [hL,←zqP (A.take 1),e1]; simp,by rw [e1],?_,?_⟩
  ·cases A <;> simp
  ·cases A <;> simp
open Go.RowKit Go.Mach
def BinI (P:Nat→Prop) (lo hi i j:Nat):Prop:=lo≤i∧i≤j∧j≤hi∧(i=lo∨P (i - 1))∧(j=hi∨¬ P j)
theorem BinI.up {P:Nat→Prop} {lo hi i j h:Nat} (b:BinI P lo hi i j) (h1:i≤h) (h2:h<j) (hp:P h):BinI P lo hi (h+1) j:=
 ⟨by have:=b.1; omega,by omega,b.2.2.1,.inr (by simpa using hp),b.2.2.2.2⟩
theorem BinI.dn {P:Nat→Prop} {lo hi i j h:Nat} (b:BinI P lo hi i j) (h1:i≤h) (h2:h<j) (hp:¬ P h):BinI P lo hi i h:=
 ⟨b.1,h1,by have:=b.2.2.1; omega,b.2.2.2.1,.inr hp⟩
theorem u64nat {s:Nat} (h:s≤1000000000000):IntKind.u64.wrap (s:Int)=(s:Int):=by
 simp only [IntKind.wrap,IntKind.signed,IntKind.bits]
 have:(s:Int) % (18446744073709551616:Int)=s:=Int.emod_eq_of_lt (by omega) (by omega)
 simp [this]
theorem i64nat {s:Nat} (h:s≤1000000000000):IntKind.i64.wrap (s:Int)=(s:Int):=wr64 (by omega) (by omega)
theorem fdiv2 (s:Nat):(s:Int).fdiv 2=((s / 2:Nat):Int):=by
 rw [Int.fdiv_eq_ediv_of_nonneg _ (by omega)]; rfl
theorem load_I {σ:Heap} {id:Nat} {ext:Bool} {l:List GW} (h:σ[id]?=some (.cells (fW l) 0 ext)) {i:Nat} {x:GW} (hx:l[i]?=some x):loadA σ 3 true (.ptr id (i * 3))=some x.enc:=by
 obtain ⟨hi,rfl⟩:=zqI.1 hx
 have:=load_W (fz:=0) h hi
 rwa [Nat.zero_add] at this
def SymA (L:List GW) (e:GW) (n id a m b:Nat) (f:FR) (P:Nat→Prop):Prop:=
 ∃ i j:Nat,f 0=.sl id 0 n 3 true∧f 1=.int .i64 a∧f 4=.func 55 []∧f 10=.int .i64 (i:Int)∧f 11=.int .i64 (j:Int)∧BinI P m b i j
def SymA2 (X V1 V3 Z:List GW) (e:GW) (n id a i:Nat) (ext:Bool) (σ:Heap) (f:FR) (τ:Heap):Prop:=
 ∃ (Va Vb L:List GW) (k:Nat),f 0=.sl id 0 n 3 true∧f 10=.int .i64 (i:Int)∧f 13=.int .i64 (k:Int)∧τ=σ.set id (.cells (fW L) 0 ext)∧L=(X++Va)++e :: (Vb++V3++Z)∧Va++Vb=V1∧k=a+Va.length
theorem mid_sorted {V1 V3:List GW} {e:GW} (h:SrtM (V1++V3)) (h1:∀ x∈V1,leM x e) (h3:∀ x∈V3,leM e x):SrtM (V1++e :: V3):=by
 rw [SrtM,List.pairwise_append] at h ⊢
 obtain ⟨p1,p2,p3⟩:=h
 refine ⟨p1,List.pairwise_cons.2 ⟨h3,p2⟩,fun x hx y hy=>?_⟩
 rcases List.mem_cons.1 hy with rfl | hy
 ·exact h1 x hx
 ·exact p3 x hx y hy
theorem srt_get {V:List GW} (h:SrtM V) {i j:Nat} {x y:GW} (hx:V[i]?=some x) (hy:V[j]?=some y) (hij:i<j):leM x y:=by
 obtain ⟨hi,rfl⟩:=zqI.1 hx
 obtain ⟨hj,rfl⟩:=zqI.1 hy
 exact List.pairwise_iff_getElem.1 h i j hi hj hij
theorem bin_parts {V:List GW} (hV:SrtM V) (Q:GW→Prop) (hdn:∀ x y,leM x y→Q y→Q x) {L:List GW} {m i b:Nat} (hb:b=m+V.length) (hP:∀ t,t<V.length→L[m+t]?=V[t]?) (hB:BinI (fun t=>∃ x,L[t]?=some x∧Q x) m b i i) :
  (∀ x∈V.take (i - m),Q x)∧∀ x∈V.drop (i - m),¬ Q x:=by
 obtain ⟨h1,_,h3,h4,h5⟩:=hB
 refine ⟨fun x hx=>?_,fun x hx hq=>?_⟩
 ·obtain ⟨t,ht⟩:=List.mem_iff_getElem?.1 hx
  rw [List.getElem?_take] at ht
  split at ht
  ·rename_i hlt
   rcases h4 with rfl | ⟨y,hy,hq⟩
   ·omega
   ·have hil:i - 1 - m<V.length:=by omega
    have e:m+(i - 1 - m)=i - 1:=by omega
    have:=hP (i - 1 - m) hil
    rw [e,hy] at this
    by_cases h:t=i - 1 - m
    ·subst h; rw [ht] at this; injection this with this; subst this; exact hq
    ·exact hdn _ _ (srt_get hV ht this.symm (by omega)) hq
  ·cases ht
 ·obtain ⟨t,ht⟩:=List.mem_iff_getElem?.1 hx
  rw [List.getElem?_drop] at ht
  have hlt:=(zqI.1 ht).1
  rcases h5 with rfl | h5
  ·omega
  ·have e:m+(i - m)=i:=by omega
   have hget:=hP (i - m) (by omega)
   rw [e] at hget
   obtain ⟨y,hy⟩:∃ y,V[i - m]?=some y:=⟨_,zqF (by omega)⟩
   rw [hy] at hget
   refine h5 ⟨y,hget,?_⟩
   by_cases h:t=0
   ·subst h; rw [Nat.add_zero,hy] at ht; injection ht with ht; subst ht; exact hq
   ·exact hdn _ _ (srt_get hV hy ht (by omega)) hq
set_option maxHeartbeats 4000000 in
theorem symA_ok (X V Z:List GW) (e:GW) {a m b n id:Nat} {σ:Heap} {ext:Bool} (ha:a=X.length) (hm:m=a+1) (hb:b=m+V.length) (hn:n=b+Z.length) (hn':n≤100000000000) (hsz:∀ x∈V,szW x) (hV:SrtM V)
  {L:List GW} (hL:L=X++e :: (V++Z)) (h:σ[id]?=some (.cells (fW L) 0 ext)) (bs:Nat) :
  ∃ r,callT T 79 [.sl id 0 n 3 true,.int .i64 a,.int .i64 m,.int .i64 b,.func 55 []] bs σ=some r∧SortedTo X ([e]++V) Z id ext σ r:=by
 have hid:=id_lt h
 have hw0:IntKind.i64.wrap ((m:Int) - (a:Int))=1:=by rw [wr64 (by omega) (by omega)]; omega
 refine heap_enterE (af:=c79) (args':=[.sl id 0 n 3 true,.int .i64 a,.int .i64 m,.int .i64 b,.func 55 []]) (σ1:=σ) rfl rfl (by simp [c79]) (by simp [c79]) rfl ?_
 simp [c79,baseA,hw0]
 have hP:∀ t,t<V.length→L[m+t]?=V[t]?:=fun t ht=>by
  rw [hL,hm,ha,zqB (by omega),show X.length+1+t - X.length=t+1 by omega,zqD,zqA ht]
 have hLe:L[a]?=some e:=by rw [hL]; exact get_mid X e _ ha
 refine W_while T _ 220 (fun f τ=>τ=σ∧SymA L e n id a m b f (fun t=>∃ x,L[t]?=some x∧cmpM x e<0)) (fun f τ=>iN (f 11) - iN (f 10)) ?_ _ _ ?_
 ·rintro f τ ⟨rfl,i,j,f0,f1,f4,f10,f11,hB⟩
  obtain ⟨hB1,hB2,hB3,hB4,hB5⟩:=hB
  by_cases hlt:i<j
  ·obtain ⟨s,hs⟩:∃ s,s=i+j:=⟨_,rfl⟩
   obtain ⟨u,hu⟩:∃ u,u=s / 2:=⟨_,rfl⟩
   have w1:IntKind.i64.wrap ((i:Int)+(j:Int))=(s:Int):=i64add hs (by omega)
   have w2:=u64nat (s:=s) (by omega)
   have w3:=fdiv2 s
   rw [←hu] at w3
   have w4:=i64nat (s:=u) (by omega)
   obtain ⟨u1,hu1⟩:∃ u1,u1=u+1:=⟨_,rfl⟩
   have w5:IntKind.i64.wrap ((u:Int)+1)=(u1:Int):=by rw [wr64 (by omega) (by omega)]; omega
   obtain ⟨y,hy⟩:∃ y,V[u - m]?=some y:=⟨_,zqF (by omega)⟩
   have hLy:L[u]?=some y:=by rw [←hy,←hP (u - m) (by omega)]; congr 1; omega
   have s1:=load_I h hLy
   have s2:=load_I h hLe
   have l1:u<n:=by omega
   have l2:a<n:=by omega
   have hc:=fun bs σ=>callCmpM y e (hsz y (zqR hy)) bs σ
   by_cases hlt2:cmpM y e<0
   ·simp [-loadA_ptr,f0,f1,f4,f10,f11,hlt,w1,w2,w3,w4,w5,l1,l2,s1,s2,hc,hlt2]
    refine ⟨by omega,u1,j,?_⟩
    simp [f0,f1,f4,f11]
    rw [hu1]
    exact BinI.up ⟨hB1,hB2,hB3,hB4,hB5⟩ (by omega) (by omega) ⟨y,hLy,hlt2⟩
   ·simp [-loadA_ptr,f0,f1,f4,f10,f11,hlt,w1,w2,w3,w4,l1,l2,s1,s2,hc,hlt2]
    refine ⟨by omega,i,u,?_⟩
    simp [f0,f1,f4,f10]
    exact BinI.dn ⟨hB1,hB2,hB3,hB4,hB5⟩ (by omega) (by omega) (fun ⟨x,hx,hx2⟩=>by rw [hLy] at hx; injection hx with hx; subst hx; exact hlt2 hx2)
  ·have hij:i=j:=by omega
   subst hij
   simp [f0,f1,f4,f10,f11]
   obtain ⟨q1,q3⟩:=bin_parts hV (fun x=>cmpM x e<0) (fun x y hxy hy=>(cmpM_tr x y e).2.2 hxy hy) hb hP ⟨hB1,hB2,hB3,hB4,hB5⟩
   have hV13:V.take (i - m)++V.drop (i - m)=V:=List.take_append_drop ..
   generalize hV1:V.take (i - m)=V1 at q1 hV13
   generalize hV3:V.drop (i - m)=V3 at q3 hV13
   have hl1:V1.length=i - m:=by rw [←hV1,List.length_take]; omega
   clear hV1 hV3
   refine W_while T _ 220 (SymA2 X V1 V3 Z e n id a i ext τ) (fun f τ=>n - iN (f 13)) ?_ _ _ ?_
   ·clear f0 f1 f4 f10 f11
    rintro f τ' ⟨Va,Vb,L',k,f0,f10,f13,rfl,hL',hVab,hk⟩
    have hsl:∀ o,(τ.set id o).length=τ.length:=fun o=>List.length_set
    have hlab:Va.length+Vb.length=V1.length:=by rw [←zqJ,hVab]
    have w6:IntKind.i64.wrap ((i:Int) - 1)=((i - 1:Nat):Int):=by rw [wr64 (by omega) (by omega)]; omega
    by_cases hk2:k<i - 1
    ·obtain ⟨y,Vc,rfl⟩:∃ y Vc,Vb=y :: Vc:=by
      cases Vb with
      | nil=>simp at hlab; omega
      | cons y Vc=>exact ⟨y,Vc,rfl⟩
     obtain ⟨q,hq⟩:∃ q,q=k+1:=⟨_,rfl⟩
     have w7:IntKind.i64.wrap ((k:Int)+1)=(q:Int):=by rw [wr64 (by omega) (by omega)]; omega
     have hs:=get_set (o':=.cells (fW L') 0 ext) h
     have hL2:L'=(X++Va)++e :: ([]++y :: (Vc++V3++Z)):=by rw [hL']; simp
     rw [hL2] at hs
     obtain ⟨L3,hL3⟩:∃ L3,L3=(X++Va)++y :: ([]++e :: (Vc++V3++Z)):=⟨_,rfl⟩
     obtain ⟨s1,s2,⟨σ1,s3,s4⟩,_⟩:=swp hs (p:=k) (q:=q) (by simp; omega) (by simp; omega) τ.length (by rw [List.set_set,←hL3])
     rw [←hL2] at s1 s2 s3
     have l1:k<n:=by simp at hlab; omega
     have l2:q<n:=by simp at hlab; omega
     simp [-loadA_ptr,-storeA_ptr,f0,f10,f13,w6,w7,hk2,l1,l2,s1,s2,s3,s4]
     refine ⟨by omega,Va++[y],Vc,L3,q,?_⟩
     simp [f0,f10,hL3]
     exact ⟨by simpa using hVab,by omega⟩
    ·simp [f0,f10,f13,w6,hk2,dropA_gc,refLt,List.take_of_length_le]
     have:Vb=[]:=by
      cases Vb with
      | nil=>rfl
      | cons y Vc=>simp at hlab; omega
     subst this
     rw [List.append_nil] at hVab; subst hVab
     refine ⟨Va++e :: V3,L',?_,?_,?_,rfl⟩
     ·rw [←hV13]; exact List.perm_middle
     ·rw [←hV13] at hV
      exact mid_sorted hV (fun x hx=>leM_lt (q1 x hx)) fun x hx=>leM_not (q3 x hx)
     ·rw [hL']; simp
   ·refine ⟨[],V1,L,a,?_⟩
    simp [f0,f10,setSame h,f1]
    rw [hL,←hV13]; simp
 ·refine ⟨rfl,m,b,?_⟩
  simp
  exact ⟨Nat.le_refl _,by omega,Nat.le_refl _,.inl rfl,.inl rfl⟩
open Go.RowKit Go.Mach
def SymB (n id a m b:Nat) (f:FR) (P:Nat→Prop):Prop:=
 ∃ i j:Nat,f 0=.sl id 0 n 3 true∧f 2=.int .i64 m∧f 4=.func 55 []∧f 14=.int .i64 (i:Int)∧f 15=.int .i64 (j:Int)∧BinI P a m i j
def SymB2 (X U1 U3 Z:List GW) (e:GW) (n id i:Nat) (ext:Bool) (σ:Heap) (f:FR) (τ:Heap):Prop:=
 ∃ (Wa Wb L:List GW) (k:Nat),f 0=.sl id 0 n 3 true∧f 14=.int .i64 (i:Int)∧f 17=.int .i64 (k:Int)∧τ=σ.set id (.cells (fW L) 0 ext)∧L=(X++U1++Wa)++e :: (Wb++Z)∧Wa++Wb=U3∧k=i+Wa.length
set_option maxHeartbeats 4000000 in
theorem symB_ok (X U Z:List GW) (e:GW) {a m b n id:Nat} {σ:Heap} {ext:Bool} (ha:a=X.length) (hm:m=a+U.length) (hU1:U.length≠1) (hb:b=m+1) (hn:n=b+Z.length) (hn':n≤100000000000) (hsz:szW e) (hU:SrtM U)
  {L:List GW} (hL:L=X++(U++e :: Z)) (h:σ[id]?=some (.cells (fW L) 0 ext)) (bs:Nat) :
  ∃ r,callT T 79 [.sl id 0 n 3 true,.int .i64 a,.int .i64 m,.int .i64 b,.func 55 []] bs σ=some r∧SortedTo X (U++[e]) Z id ext σ r:=by
 have hid:=id_lt h
 have hw0:IntKind.i64.wrap ((m:Int) - (a:Int))=(U.length:Int):=by rw [wr64 (by omega) (by omega)]; omega
 have hw1:IntKind.i64.wrap ((b:Int) - (m:Int))=1:=by rw [wr64 (by omega) (by omega)]; omega
 have hne:¬ ((U.length:Int)=1):=by omega
 refine heap_enterE (af:=c79) (args':=[.sl id 0 n 3 true,.int .i64 a,.int .i64 m,.int .i64 b,.func 55 []]) (σ1:=σ) rfl rfl (by simp [c79]) (by simp [c79]) rfl ?_
 simp [c79,baseA,hw0,hw1,hne]
 have hP:∀ t,t<U.length→L[a+t]?=U[t]?:=fun t ht=>by
  rw [hL,ha,zqB (by omega),show X.length+t - X.length=t by omega,zqA ht]
 have hLe:L[m]?=some e:=by rw [hL,←zqP]; exact get_mid (X++U) e _ (by simp; omega)
 refine W_while T _ 220 (fun f τ=>τ=σ∧SymB n id a m b f (fun t=>∃ x,L[t]?=some x∧0≤cmpM e x)) (fun f τ=>iN (f 15) - iN (f 14)) ?_ _ _ ?_
 ·rintro f τ ⟨rfl,i,j,f0,f2,f4,f14,f15,hB⟩
  obtain ⟨hB1,hB2,hB3,hB4,hB5⟩:=hB
  by_cases hlt:i<j
  ·obtain ⟨s,hs⟩:∃ s,s=i+j:=⟨_,rfl⟩
   obtain ⟨u,hu⟩:∃ u,u=s / 2:=⟨_,rfl⟩
   have w1:IntKind.i64.wrap ((i:Int)+(j:Int))=(s:Int):=i64add hs (by omega)
   have w2:=u64nat (s:=s) (by omega)
   have w3:=fdiv2 s
   rw [←hu] at w3
   have w4:=i64nat (s:=u) (by omega)
   obtain ⟨u1,hu1⟩:∃ u1,u1=u+1:=⟨_,rfl⟩
   have w5:IntKind.i64.wrap ((u:Int)+1)=(u1:Int):=by rw [wr64 (by omega) (by omega)]; omega
   obtain ⟨y,hy⟩:∃ y,U[u - a]?=some y:=⟨_,zqF (by omega)⟩
   have hLy:L[u]?=some y:=by rw [←hy,←hP (u - a) (by omega)]; congr 1; omega
   have s1:=load_I h hLy
   have s2:=load_I h hLe
   have l1:u<n:=by omega
   have l2:m<n:=by omega
   have hc:=fun bs σ=>callCmpM e y hsz bs σ
   by_cases hlt2:cmpM e y<0
   ·simp [-loadA_ptr,f0,f2,f4,f14,f15,hlt,w1,w2,w3,w4,l1,l2,s1,s2,hc,hlt2]
    refine ⟨by omega,i,u,?_⟩
    simp [f0,f2,f4,f14]
    exact BinI.dn ⟨hB1,hB2,hB3,hB4,hB5⟩ (by omega) (by omega) (fun ⟨x,hx,hx2⟩=>by rw [hLy] at hx; injection hx with hx; subst hx; omega)
   ·simp [-loadA_ptr,f0,f2,f4,f14,f15,hlt,w1,w2,w3,w4,w5,l1,l2,s1,s2,hc,hlt2]
    refine ⟨by omega,u1,j,?_⟩
    simp [f0,f2,f4,f15]
    rw [hu1]
    exact BinI.up ⟨hB1,hB2,hB3,hB4,hB5⟩ (by omega) (by omega) ⟨y,hLy,by omega⟩
  ·have hij:i=j:=by omega
   subst hij
   simp [f0,f2,f4,f14,f15]
   obtain ⟨q1,q3⟩:=bin_parts hU (fun x=>0≤cmpM e x) (fun x y hxy hy=>by have h1:=leM_not (show ¬ cmpM e y<0 by omega); have h2:=leM_tr hxy h1; have h3:=cmpM_neg x e; unfold leM at h2; omega) hm hP ⟨hB1,hB2,hB3,hB4,hB5⟩
   have hU13:U.take (i - a)++U.drop (i - a)=U:=List.take_append_drop ..
   have hl1:(U.take (i - a)).length=i - a:=by rw [List.length_take]; omega
   generalize hV1:U.take (i - a)=U1 at q1 hU13 hl1
   generalize hV3:U.drop (i - a)=U3 at q3 hU13
   clear hV1 hV3
   have hll:U1.length+U3.length=U.length:=by rw [←zqJ,hU13]
   refine W_while T _ 220 (SymB2 X U1 U3 Z e n id i ext τ) (fun f τ=>iN (f 17)) ?_ _ _ ?_
   ·clear f0 f2 f4 f14 f15
    rintro f τ' ⟨Wa,Wb,L',k,f0,f14,f17,rfl,hL',hWab,hk⟩
    have hsl:∀ o,(τ.set id o).length=τ.length:=fun o=>List.length_set
    have hlab:Wa.length+Wb.length=U3.length:=by rw [←zqJ,hWab]
    by_cases hk2:i<k
    ·obtain ⟨W0,y,rfl⟩:∃ W0 y,Wa=W0++[y]:=by
      rcases List.eq_nil_or_concat Wa with rfl | ⟨S0,y,rfl⟩
      ·simp at hk; omega
      ·exact ⟨S0,y,by simp⟩
     obtain ⟨p,hp⟩:∃ p,k=p+1:=⟨k - 1,by omega⟩
     have w7:IntKind.i64.wrap ((k:Int) - 1)=(p:Int):=by rw [wr64 (by omega) (by omega)]; omega
     have hs:=get_set (o':=.cells (fW L') 0 ext) h
     have hL2:L'=(X++U1++W0)++y :: ([]++e :: (Wb++Z)):=by rw [hL']; simp
     rw [hL2] at hs
     obtain ⟨L3,hL3⟩:∃ L3,L3=(X++U1++W0)++e :: ([]++y :: (Wb++Z)):=⟨_,rfl⟩
     have hkk:k=i+W0.length+1:=by simp at hk; omega
     obtain ⟨s1,s2,_,⟨σ1,s3,s4⟩⟩:=swp hs (p:=p) (q:=k) (by simp; omega) (by simp; omega) τ.length (by rw [List.set_set,←hL3])
     rw [←hL2] at s1 s2 s3
     have l1:k<n:=by simp at hlab; omega
     have l2:p<n:=by omega
     simp [-loadA_ptr,-storeA_ptr,f0,f14,f17,w7,hk2,l1,l2,s1,s2,s3,s4]
     refine ⟨by omega,W0,y :: Wb,L3,p,?_⟩
     simp [f0,f14,hL3]
     exact ⟨by simpa using hWab,by omega⟩
    ·simp [f0,f14,f17,hk2,dropA_gc,refLt,List.take_of_length_le]
     have:Wa=[]:=by
      cases Wa with
      | nil=>rfl
      | cons y Vc=>simp at hk; omega
     subst this
     rw [List.nil_append] at hWab; subst hWab
     refine ⟨U1++e :: Wb,L',?_,?_,?_,rfl⟩
     ·rw [←hU13]; simp only [zqP]
      exact List.Perm.append_left U1 (List.perm_append_comm (l₁:=[e]) (l₂:=Wb))
     ·rw [←hU13] at hU
      exact mid_sorted hU (fun x hx=>leM_not (by have:=q1 x hx; omega)) fun x hx=>leM_lt (by have:=q3 x hx; omega)
     ·rw [hL']; simp
   ·refine ⟨U3,[],L,m,?_⟩
    simp [f0,f14,f2,setSame h]
    exact ⟨by rw [hL,←hU13]; simp,by omega⟩
 ·refine ⟨rfl,a,m,?_⟩
  simp
  exact ⟨Nat.le_refl _,by omega,Nat.le_refl _,.inl rfl,.inl rfl⟩
open Go.RowKit Go.Mach
theorem cmpM_self (x:GW):cmpM x x=0:=by have:=cmpM_neg x x; omega
theorem srt_take {V:List GW} (h:SrtM V) {k:Nat} {x y:GW} (hx:x∈V.take (k+1)) (hy:V[k]?=some y):leM x y:=by
 obtain ⟨t,ht⟩:=List.mem_iff_getElem?.1 hx
 rw [List.getElem?_take] at ht
 split at ht
 ·by_cases e:t=k
  ·subst e; rw [hy] at ht; injection ht with ht; subst ht; simp [leM,cmpM_self]
  ·exact srt_get h ht hy (by omega)
 ·cases ht
theorem srt_drop {V:List GW} (h:SrtM V) {k:Nat} {x y:GW} (hy:y∈V.drop k) (hx:V[k]?=some x):leM x y:=by
 obtain ⟨t,ht⟩:=List.mem_iff_getElem?.1 hy
 rw [List.getElem?_drop] at ht
 by_cases e:t=0
 ·subst e; rw [Nat.add_zero,hx] at ht; injection ht with ht; subst ht; simp [leM,cmpM_self]
 ·exact srt_get h hx ht (by omega)
def lohi (a m b mid:Nat):Nat × Nat:=if mid<m then (mid+m - b,mid) else (a,m)
def SymP (L:List GW) (p:Nat) (c:Nat):Prop:=∃ x y,L[c]?=some x∧L[p - c]?=some y∧0≤cmpM y x
theorem sym_parts {X U V Z L:List GW} {a m b mid s en:Nat} (hL:L=X++U++V++Z) (ha:a=X.length) (hm:m=a+U.length) (hb:b=m+V.length) (hmid:mid=(a+b) / 2) (hu:1≤U.length) (hv:1≤V.length)
  (hU:SrtM U) (hV:SrtM V) (hB:BinI (SymP L (mid+m - 1)) (lohi a m b mid).1 (lohi a m b mid).2 s s) (hen:en=mid+m - s) :
  a≤s∧s≤m∧s≤mid∧m≤en∧en≤b∧(∀ x∈U.take (s - a),∀ y∈V.drop (en - m),leM x y)∧∀ x∈V.take (en - m),∀ y∈U.drop (s - a),leM x y:=by
 have hgU:∀ c,a≤c→c<m→L[c]?=U[c - a]?:=fun c h1 h2=>by
  rw [hL,zqP,zqP,zqB (by omega),zqA (by omega),ha]
 have hgV:∀ c,m≤c→c<b→L[c]?=V[c - m]?:=fun c h1 h2=>by
  rw [hL,zqP,zqB (by simp; omega),zqA (by simp; omega)]
  congr 1; simp; omega
 obtain ⟨h1,_,h3,h4,h5⟩:=hB
 have hbd:a≤s∧s≤m∧s≤mid∧m≤en∧en≤b:=by
  unfold lohi at h1 h3
  split at h1
  ·rename_i hc; rw [if_pos hc] at h3; simp only at h1 h3; omega
  ·rename_i hc; rw [if_neg hc] at h3; simp only at h1 h3; omega
 obtain ⟨b1,b2,b3,b4,b5⟩:=hbd
 refine ⟨b1,b2,b3,b4,b5,fun x hx y hy=>?_,fun x hx y hy=>?_⟩
 ·rcases h4 with h4 | ⟨x0,y0,e1,e2,e3⟩
  ·unfold lohi at h4
   split at h4
   ·simp only at h4
    have:V.drop (en - m)=[]:=List.drop_of_length_le (by omega)
    rw [this] at hy; cases hy
   ·simp only at h4
    rw [h4,Nat.sub_self] at hx; cases hx
  ·have hx0:s≠a:=fun e=>by rw [e,Nat.sub_self] at hx; cases hx
   have hy0:en<b:=by
    have:V.drop (en - m)≠[]:=fun e=>by rw [e] at hy; cases hy
    have:=List.length_pos_iff.2 this
    rw [List.length_drop] at this; omega
   rw [hgU _ (by omega) (by omega)] at e1
   rw [show mid+m - 1 - (s - 1)=en by omega,hgV _ b4 hy0] at e2
   have e4:=srt_take hU (k:=s - 1 - a) (by rw [show s - 1 - a+1=s - a by omega]; exact hx) e1
   have e5:=srt_drop hV hy e2
   have e6:leM x0 y0:=leM_not (by omega)
   exact leM_tr (leM_tr e4 e6) e5
 ·rcases h5 with h5 | h5
  ·unfold lohi at h5
   split at h5
   ·simp only at h5
    rw [show en - m=0 by omega] at hx; cases hx
   ·simp only at h5
    have:U.drop (s - a)=[]:=List.drop_of_length_le (by omega)
    rw [this] at hy; cases hy
  ·have hs:s<m:=by
    have:U.drop (s - a)≠[]:=fun e=>by rw [e] at hy; cases hy
    have:=List.length_pos_iff.2 this
    rw [List.length_drop] at this; omega
   have hen2:m<en:=by
    rcases Nat.lt_or_ge m en with h | h
    ·exact h
    ·rw [show en - m=0 by omega] at hx; cases hx
   obtain ⟨x0,hx0⟩:∃ x0,U[s - a]?=some x0:=⟨_,zqF (by omega)⟩
   obtain ⟨y0,hy0⟩:∃ y0,V[en - 1 - m]?=some y0:=⟨_,zqF (by omega)⟩
   have e6:cmpM y0 x0<0:=by
    refine Int.not_le.1 fun hc=>h5 ⟨x0,y0,?_,?_,hc⟩
    ·rw [hgU s b1 hs]; exact hx0
    ·rw [show mid+m - 1 - s=en - 1 by omega,hgV _ (by omega) (by omega)]; exact hy0
   have e4:=srt_take hV (k:=en - 1 - m) (by rw [show en - 1 - m+1=en - m by omega]; exact hx) hy0
   have e5:=srt_drop hU hy hx0
   exact leM_tr (leM_tr e4 (leM_lt e6)) e5
theorem sym_join {U V W1 W2:List GW} {s e:Nat} (h1:W1.Perm (U.take s++V.take e)) (h2:W2.Perm (U.drop s++V.drop e)) (s1:SrtM W1) (s2:SrtM W2) (hU:SrtM U) (hV:SrtM V)
  (c1:∀ x∈U.take s,∀ y∈V.drop e,leM x y) (c2:∀ x∈V.take e,∀ y∈U.drop s,leM x y):(W1++W2).Perm (U++V)∧SrtM (W1++W2):=by
 have eU:=List.take_append_drop s U
 have eV:=List.take_append_drop e V
 constructor
 ·refine (h1.append h2).trans ?_
  have:(U++V).Perm (U.take s++U.drop s++(V.take e++V.drop e)):=by rw [eU,eV]
  refine List.Perm.trans ?_ this.symm
  simp only [zqP]
  refine List.Perm.append_left _ ?_
  rw [←zqP,←zqP]
  exact List.Perm.append_right _ List.perm_append_comm
 ·refine List.pairwise_append.2 ⟨s1,s2,fun x hx y hy=>?_⟩
  have hx:=List.mem_append.1 (h1.mem_iff.1 hx)
  have hy:=List.mem_append.1 (h2.mem_iff.1 hy)
  rw [←eU] at hU; rw [←eV] at hV
  rcases hx with hx | hx <;> rcases hy with hy | hy
  ·exact (List.pairwise_append.1 hU).2.2 x hx y hy
  ·exact c1 x hx y hy
  ·exact c2 x hx y hy
  ·exact (List.pairwise_append.1 hV).2.2 x hx y hy
open Go.RowKit Go.Mach
def SymC (L:List GW) (n id a m b mid nn p:Nat) (f:FR):Prop:=
 ∃ i j:Nat,f 0=.sl id 0 n 3 true∧f 1=.int .i64 a∧f 2=.int .i64 m∧f 3=.int .i64 b∧f 4=.func 55 []∧f 18=.int .i64 (mid:Int)∧f 19=.int .i64 (nn:Int)∧f 22=.int .i64 (p:Int) ∧
  f 20=.int .i64 (i:Int)∧f 21=.int .i64 (j:Int)∧BinI (SymP L p) (lohi a m b mid).1 (lohi a m b mid).2 i j
def SymSpec (k:Nat):Prop:=∀ (X U V Z:List GW) (a m b n id:Nat) (σ:Heap) (ext:Bool) (L:List GW) (bs:Nat),U.length+V.length≤k→a=X.length→m=a+U.length→b=m+V.length→n=b+Z.length→1≤U.length→1≤V.length→n≤100000000000 →
 (∀ x∈U,szW x)→(∀ x∈V,szW x)→SrtM U→SrtM V→L=X++U++V++Z→σ[id]?=some (.cells (fW L) 0 ext) →
 ∃ r,callT T 79 [.sl id 0 n 3 true,.int .i64 a,.int .i64 m,.int .i64 b,.func 55 []] bs σ=some r∧SortedTo X (U++V) Z id ext σ r
theorem sym_may {k:Nat} (hk:SymSpec k) (X U V Z:List GW) {a m b n id:Nat} {σ:Heap} {ext:Bool} {L:List GW} (bs:Nat) (h1:U.length+V.length≤k) (ha:a=X.length) (hm:m=a+U.length) (hb:b=m+V.length) (hn:n=b+Z.length) (hn':n≤100000000000)
  (hu:∀ x∈U,szW x) (hv:∀ x∈V,szW x) (hU:SrtM U) (hV:SrtM V) (hL:L=X++U++V++Z) (h:σ[id]?=some (.cells (fW L) 0 ext)) :
  ∃ W L' σ',W.Perm (U++V)∧SrtM W∧L'=X++W++Z∧σ'=σ.set id (.cells (fW L') 0 ext) ∧
   ((a<m∧m<b)→callT T 79 [.sl id 0 n 3 true,.int .i64 a,.int .i64 m,.int .i64 b,.func 55 []] bs σ=some (.tup [],σ'))∧(¬ (a<m∧m<b)→σ'=σ):=by
 by_cases hc:a<m∧m<b
 ·obtain ⟨r,hr,W,L',p1,p2,p3,rfl⟩:=hk X U V Z a m b n id σ ext L bs h1 ha hm hb hn (by omega) (by omega) hn' hu hv hU hV hL h
  exact ⟨W,L',_,p1,p2,p3,rfl,fun _=>hr,fun hh=>absurd hc hh⟩
 ·have:U=[]∨V=[]:=by
   rcases Nat.eq_zero_or_pos U.length with e | e
   ·exact .inl (List.length_eq_zero_iff.1 e)
   ·exact .inr (List.length_eq_zero_iff.1 (by omega))
  refine ⟨U++V,L,σ,.refl _,?_,by rw [hL]; simp,(setSame h).symm,fun hh=>absurd hh hc,fun _=>rfl⟩
  rcases this with rfl | rfl
  ·simpa using hV
  ·simpa using hU
theorem rot_may (X U V Z:List GW) {a m b n id:Nat} {σ:Heap} {ext:Bool} {L:List GW} (bs:Nat) (ha:a=X.length) (hm:m=a+U.length) (hb:b=m+V.length) (hn:n=b+Z.length) (hn':n≤100000000000) (g:AV)
  (hL:L=X++U++V++Z) (h:σ[id]?=some (.cells (fW L) 0 ext)) :
  ∃ L' σ',L'=X++V++U++Z∧σ'=σ.set id (.cells (fW L') 0 ext) ∧
   ((a<m∧m<b)→callT T 82 [.sl id 0 n 3 true,.int .i64 a,.int .i64 m,.int .i64 b,g] bs σ=some (.tup [],σ'))∧(¬ (a<m∧m<b)→σ'=σ):=by
 by_cases hc:a<m∧m<b
 ·exact ⟨_,_,rfl,rfl,fun _=>rotate_ok X U V Z ha hm hb hn (by omega) (by omega) hn' hL rfl h g bs,fun hh=>absurd hc hh⟩
 ·refine ⟨L,σ,?_,(setSame h).symm,fun hh=>absurd hh hc,fun _=>rfl⟩
  have:U=[]∨V=[]:=by
   rcases Nat.eq_zero_or_pos U.length with e | e
   ·exact .inl (List.length_eq_zero_iff.1 e)
   ·exact .inr (List.length_eq_zero_iff.1 (by omega))
  rw [hL]
  rcases this with rfl | rfl <;> simp
theorem sym_plan {k:Nat} (hk:SymSpec k) {X U V Z:List GW} {a m b n id mid i en p:Nat} {τ:Heap} {ext:Bool} {L:List GW} (hlen:U.length+V.length≤k+1) (ha:a=X.length) (hm:m=a+U.length) (hb:b=m+V.length) (hn:n=b+Z.length)
  (hu:2≤U.length) (hv:2≤V.length) (hn':n≤100000000000) (hsU:∀ x∈U,szW x) (hsV:∀ x∈V,szW x) (hU:SrtM U) (hV:SrtM V) (hL:L=X++U++V++Z) (h:τ[id]?=some (.cells (fW L) 0 ext))
  (hmid:mid=(a+b) / 2) (hp:p=mid+m - 1) (hB:BinI (SymP L p) (lohi a m b mid).1 (lohi a m b mid).2 i i) (hen:en=mid+m - i) (bs:Nat) :
  a≤i∧i≤m∧i≤mid∧m≤en∧en≤b∧∃ σ1 σ2 σ3,
   ((i<m∧m<en)→callT T 82 [.sl id 0 n 3 true,.int .i64 i,.int .i64 m,.int .i64 en,.func 55 []] bs τ=some (.tup [],σ1))∧(¬ (i<m∧m<en)→σ1=τ) ∧
   ((a<i∧i<mid)→callT T 79 [.sl id 0 n 3 true,.int .i64 a,.int .i64 i,.int .i64 mid,.func 55 []] bs σ1=some (.tup [],σ2))∧(¬ (a<i∧i<mid)→σ2=σ1) ∧
   ((mid<en∧en<b)→callT T 79 [.sl id 0 n 3 true,.int .i64 mid,.int .i64 en,.int .i64 b,.func 55 []] bs σ2=some (.tup [],σ3))∧(¬ (mid<en∧en<b)→σ3=σ2) ∧
   SortedTo X (U++V) Z id ext τ (.tup [],σ3)∧σ3.take τ.length=σ3:=by
 obtain ⟨b1,b2,b3,b4,b5,c1,c2⟩:=sym_parts hL ha hm hb hmid (by omega) (by omega) hU hV (by rw [←hp]; exact hB) hen
 refine ⟨b1,b2,b3,b4,b5,?_⟩
 have tU:(U.take (i - a)).length=i - a:=by rw [List.length_take]; omega
 have dU:(U.drop (i - a)).length=m - i:=by rw [List.length_drop]; omega
 have tV:(V.take (en - m)).length=en - m:=by rw [List.length_take]; omega
 have dV:(V.drop (en - m)).length=b - en:=by rw [List.length_drop]; omega
 have pU:=hU; rw [←List.take_append_drop (i - a) U] at pU
 have pV:=hV; rw [←List.take_append_drop (en - m) V] at pV
 have pU:=List.pairwise_append.1 pU
 have pV:=List.pairwise_append.1 pV
 have eL:L=(X++U.take (i - a))++U.drop (i - a)++V.take (en - m)++(V.drop (en - m)++Z):=by
  have e:X++U++V++Z=X++(U.take (i - a)++U.drop (i - a))++(V.take (en - m)++V.drop (en - m))++Z:=by rw [List.take_append_drop,List.take_append_drop]
  rw [hL,e]; simp only [zqP]
 have hw1:mid - a=(i - a)+(en - m):=by omega
 have hw2:(m - i)+(b - en)≤k:=by omega
 have hw3:(i - a)+(en - m)≤k:=by omega
 have hw4:en=mid+(m - i):=by omega
 obtain ⟨L1,σ1,hL1,hσ1,k1,n1⟩:=rot_may (X++U.take (i - a)) (U.drop (i - a)) (V.take (en - m)) (V.drop (en - m)++Z) (a:=i) (m:=m) (b:=en) (n:=n) (L:=L) bs (by rw [zqJ,tU]; omega) (by omega) (by omega) (by rw [zqJ,dV]; omega) hn' (.func 55 []) eL h
 have h1:=get_set (o':=.cells (fW L1) 0 ext) h
 rw [←hσ1] at h1
 obtain ⟨W1,L2,σ2,q1,q2,hL2,hσ2,k2,n2⟩:=sym_may hk X (U.take (i - a)) (V.take (en - m)) (U.drop (i - a)++V.drop (en - m)++Z) (a:=a) (m:=i) (b:=mid) (n:=n) (L:=L1) bs (by rw [tU,tV]; exact hw3) ha (by omega) (by omega) (by simp only [zqJ,dU,dV]; omega) hn'
  (fun x hx=>hsU x (List.mem_of_mem_take hx)) (fun x hx=>hsV x (List.mem_of_mem_take hx)) pU.1 pV.1 (by rw [hL1]; simp only [zqP]) h1
 have h2:=get_set (o':=.cells (fW L2) 0 ext) h1
 rw [←hσ2] at h2
 have hw:W1.length=mid - a:=by rw [q1.length_eq,zqJ,tU,tV]; exact hw1.symm
 obtain ⟨W2,L3,σ3,r1,r2,hL3,hσ3,k3,n3⟩:=sym_may hk (X++W1) (U.drop (i - a)) (V.drop (en - m)) Z (a:=mid) (m:=en) (b:=b) (n:=n) (L:=L2) bs (by rw [dU,dV]; exact hw2) (by rw [zqJ,hw]; omega) (by rw [dU]; exact hw4) (by omega) hn hn'
  (fun x hx=>hsU x (List.mem_of_mem_drop hx)) (fun x hx=>hsV x (List.mem_of_mem_drop hx)) pU.2.1 pV.2.1 (by rw [hL2]; simp only [zqP]) h2
 refine ⟨σ1,σ2,σ3,k1,n1,k2,n2,k3,n3,?_,?_⟩
 ·obtain ⟨j1,j2⟩:=sym_join q1 r1 q2 r2 hU hV c1 c2
  refine ⟨W1++W2,L3,j1,j2,by rw [hL3]; simp only [zqP],?_⟩
  rw [hσ3,hσ2,hσ1,List.set_set,List.set_set]
 ·rw [List.take_of_length_le]; rw [hσ3,hσ2,hσ1]; simp
set_option maxHeartbeats 8000000 in
theorem sym_step {k:Nat} (hk:SymSpec k):SymSpec (k+1):=by
 intro X U V Z a m b n id σ ext L bs hlen ha hm hb hn hu hv hn' hsU hsV hU hV hL h
 by_cases hU1:U.length=1
 ·obtain ⟨e,rfl⟩:=List.length_eq_one_iff.1 hU1
  exact symA_ok X V Z e ha hm hb hn hn' hsV hV (by rw [hL]; simp) h bs
 by_cases hV1:V.length=1
 ·obtain ⟨e,rfl⟩:=List.length_eq_one_iff.1 hV1
  exact symB_ok X U Z e ha hm hU1 hb hn hn' (hsV e (by simp)) hU (by rw [hL]; simp) h bs
 have hid:=id_lt h
 have hw0:IntKind.i64.wrap ((m:Int) - (a:Int))=(U.length:Int):=by rw [wr64 (by omega) (by omega)]; omega
 have hw1:IntKind.i64.wrap ((b:Int) - (m:Int))=(V.length:Int):=by rw [wr64 (by omega) (by omega)]; omega
 have hne:¬ ((U.length:Int)=1):=by omega
 have hne1:¬ ((V.length:Int)=1):=by omega
 obtain ⟨ab,hab⟩:∃ ab,ab=a+b:=⟨_,rfl⟩
 obtain ⟨mid,hmid⟩:∃ mid,mid=ab / 2:=⟨_,rfl⟩
 obtain ⟨nn,hnn⟩:∃ nn,nn=mid+m:=⟨_,rfl⟩
 obtain ⟨p,hp⟩:∃ p,p=nn - 1:=⟨_,rfl⟩
 have v1:IntKind.i64.wrap ((a:Int)+(b:Int))=(ab:Int):=i64add hab (by omega)
 have v2:=u64nat (s:=ab) (by omega)
 have v3:=fdiv2 ab
 rw [←hmid] at v3
 have v4:=i64nat (s:=mid) (by omega)
 have v5:IntKind.i64.wrap ((mid:Int)+(m:Int))=(nn:Int):=i64add hnn (by omega)
 have v6:IntKind.i64.wrap ((nn:Int) - 1)=(p:Int):=by rw [wr64 (by omega) (by omega)]; omega
 refine heap_enterE (af:=c79) (args':=[.sl id 0 n 3 true,.int .i64 a,.int .i64 m,.int .i64 b,.func 55 []]) (σ1:=σ) rfl rfl (by simp [c79]) (by simp [c79]) rfl ?_
 have hgU:∀ c,a≤c→c<m→L[c]?=U[c - a]?:=fun c h1 h2=>by
  rw [hL,zqP,zqP,zqB (by omega),zqA (by omega),ha]
 have hgV:∀ c,m≤c→c<b→L[c]?=V[c - m]?:=fun c h1 h2=>by
  rw [hL,zqP,zqB (by simp; omega),zqA (by simp; omega)]
  congr 1; simp; omega
 by_cases hmm:mid<m
 have v7:IntKind.i64.wrap ((nn:Int) - (b:Int))=((nn - b:Nat):Int):=i64sub (by omega) (by omega)
 simp [c79,baseA,hw0,hw1,hne,hne1,v1,v2,v3,v4,v5,v6,v7,hmm]
 refine W_while T _ 220 (fun f τ=>τ=σ∧SymC L n id a m b mid nn p f) (fun f τ=>iN (f 21) - iN (f 20)) ?_ _ _ ?_
 rotate_left
 refine ⟨rfl,nn - b,mid,?_⟩
 simp [lohi,hmm]
 exact ⟨by omega,by omega,Nat.le_refl _,.inl (by omega),.inl rfl⟩
 simp [c79,baseA,hw0,hw1,hne,hne1,v1,v2,v3,v4,v5,v6,hmm]
 refine W_while T _ 220 (fun f τ=>τ=σ∧SymC L n id a m b mid nn p f) (fun f τ=>iN (f 21) - iN (f 20)) ?_ _ _ ?_
 rotate_left
 refine ⟨rfl,a,m,?_⟩
 simp [lohi,hmm]
 exact ⟨by omega,by omega,Nat.le_refl _,.inl rfl,.inl rfl⟩
 all_goals
  clear hw0 hw1 v1 v2 v3 v4 v5 v6
  try clear v7
  rintro f τ ⟨rfl,i,j,f0,f1,f2,f3,f4,f18,f19,f22,f20,f21,hB⟩
  have hbd:(lohi a m b mid).1=(if mid<m then nn - b else a)∧(lohi a m b mid).2=(if mid<m then mid else m):=by
   unfold lohi; rw [hnn]; split <;> exact ⟨rfl,rfl⟩
  have hB':=hB
  obtain ⟨hB1,hB2,hB3,_,_⟩:=hB'
  rw [hbd.1] at hB1; rw [hbd.2] at hB3
  by_cases hlt:i<j
  ·obtain ⟨s,hs⟩:∃ s,s=i+j:=⟨_,rfl⟩
   obtain ⟨u,hu'⟩:∃ u,u=s / 2:=⟨_,rfl⟩
   obtain ⟨q,hq⟩:∃ q,q=p - u:=⟨_,rfl⟩
   have hq2:u≤p∧a≤u∧u<m∧m≤q∧q<b:=by
    first
    | (rw [if_pos hmm] at hB1 hB3; omega)
    | (rw [if_neg hmm] at hB1 hB3; omega)
   have w1:IntKind.i64.wrap ((i:Int)+(j:Int))=(s:Int):=i64add hs (by omega)
   have w2:=u64nat (s:=s) (by omega)
   have w3:=fdiv2 s
   rw [←hu'] at w3
   have w4:=i64nat (s:=u) (by omega)
   obtain ⟨u1,hu1⟩:∃ u1,u1=u+1:=⟨_,rfl⟩
   have w5:IntKind.i64.wrap ((u:Int)+1)=(u1:Int):=by rw [wr64 (by omega) (by omega)]; omega
   have w6:IntKind.i64.wrap ((p:Int) - (u:Int))=(q:Int):=i64sub (by omega) (by omega)
   obtain ⟨x,hx⟩:∃ x,U[u - a]?=some x:=⟨_,zqF (by omega)⟩
   obtain ⟨y,hy⟩:∃ y,V[q - m]?=some y:=⟨_,zqF (by omega)⟩
   have hLx:L[u]?=some x:=by rw [hgU u (by omega) (by omega),hx]
   have hLy:L[q]?=some y:=by rw [hgV q (by omega) (by omega),hy]
   have s1:=load_I h hLx
   have s2:=load_I h hLy
   have l1:u<n:=by omega
   have l2:q<n:=by omega
   have hc:=fun bs σ=>callCmpM y x (hsV y (zqR hy)) bs σ
   by_cases hlt2:cmpM y x<0
   ·simp [-loadA_ptr,f0,f1,f2,f3,f4,f18,f19,f20,f21,f22,hlt,w1,w2,w3,w4,w5,w6,l1,l2,s1,s2,hc,hlt2]
    refine ⟨by omega,i,u,?_⟩
    simp [f0,f1,f2,f3,f4,f18,f19,f20,f22]
    exact BinI.dn hB (by omega) (by omega) (fun ⟨x',y',e1,e2,e3⟩=>by
     rw [hLx] at e1; rw [←hq,hLy] at e2; injection e1 with e1; injection e2 with e2; subst e1 e2; omega)
   ·simp [-loadA_ptr,f0,f1,f2,f3,f4,f18,f19,f20,f21,f22,hlt,w1,w2,w3,w4,w5,w6,l1,l2,s1,s2,hc,hlt2]
    refine ⟨by omega,u1,j,?_⟩
    simp [f0,f1,f2,f3,f4,f18,f19,f21,f22]
    rw [hu1]
    exact BinI.up hB (by omega) (by omega) ⟨x,y,hLx,by rw [←hq]; exact hLy,by omega⟩
  ·have hij:i=j:=by omega
   subst hij
   obtain ⟨en,hen⟩:∃ en,en=nn - i:=⟨_,rfl⟩
   obtain ⟨b1,b2,b3,b4,b5,σ1,σ2,σ3,k1,n1,k2,n2,k3,n3,hfin,htk⟩:=sym_plan hk hlen ha hm hb hn (by omega) (by omega) hn' hsU hsV hU hV hL h (by rw [hmid,hab]) (by rw [hp,hnn]) hB (show en=mid+m - i by rw [hen,hnn]) τ.length
   have w1:IntKind.i64.wrap ((nn:Int) - (i:Int))=(en:Int):=i64sub (by omega) (by omega)
   have hE:(m<en)=(i<mid):=propext ⟨fun _=>by omega,fun _=>by omega⟩
   have hF:(mid<en)=(i<m):=propext ⟨fun _=>by omega,fun _=>by omega⟩
   rw [hE] at k1 n1
   rw [hF] at k3 n3
   clear hB hB1 hB2 hB3 hbd hgU hgV
   by_cases hA:i<m <;> by_cases hB:i<mid <;> by_cases hC:a<i <;> by_cases hD:en<b
   all_goals
    first
    | have h1:=k1 ⟨hA,hB⟩
    | (have h0:=n1 (fun hh=>absurd hh.1 hA); subst h0; have h1:=True.intro)
    | (have h0:=n1 (fun hh=>absurd hh.2 hB); subst h0; have h1:=True.intro)
    first
    | have h2:=k2 ⟨hC,hB⟩
    | (have h0:=n2 (fun hh=>absurd hh.1 hC); subst h0; have h2:=True.intro)
    | (have h0:=n2 (fun hh=>absurd hh.2 hB); subst h0; have h2:=True.intro)
    first
    | have h3:=k3 ⟨hA,hD⟩
    | (have h0:=n3 (fun hh=>absurd hh.1 hA); subst h0; have h3:=True.intro)
    | (have h0:=n3 (fun hh=>absurd hh.2 hD); subst h0; have h3:=True.intro)
    simp [f0,f1,f2,f3,f4,f18,f19,f20,f21,f22,w1,hE,hF,hA,hB,hC,hD,h1,h2,h3,dropA_gc,refLt,htk]
    exact hfin
theorem sym_all:∀ k,SymSpec k
 | 0=>fun X U V Z a m b n id σ ext L bs hlen _ _ _ _ hu=>by omega
 | k+1=>sym_step (sym_all k)
open Go.RowKit Go.Mach
def Bl (s:Nat):List (List GW)→Prop
 | []=>True
 | [B]=>1≤B.length∧B.length≤s∧SrtM B
 | B :: C :: R=>B.length=s∧SrtM B∧Bl s (C :: R)
theorem Bl.tail {s:Nat}:∀ {B:List GW} {R:List (List GW)},Bl s (B :: R)→Bl s R
 | _,[],_=>trivial
 | _,_ :: _,h=>h.2.2
theorem Bl.head {s:Nat}:∀ {B:List GW} {R:List (List GW)},Bl s (B :: R)→B.length≤s∧SrtM B
 | _,[],h=>h.2
 | _,_ :: _,h=>⟨by have:=h.1; omega,h.2.1⟩
def Full (s:Nat) (D:List (List GW)):Prop:=∀ B∈D,B.length=s∧SrtM B
theorem Bl.full {s:Nat} (hs:1≤s) {T:List (List GW)} (hT:Bl s T):∀ {D:List (List GW)},Full s D→Bl s (D++T)
 | [],_=>hT
 | B :: D,h=>by
  have hB:=h B (by simp)
  have ih:=Bl.full hs hT (D:=D) fun x hx=>h x (by simp [hx])
  rw [List.cons_append]
  cases hR:D++T with
  | nil=>exact ⟨by omega,by omega,hB.2⟩
  | cons C R=>rw [hR] at ih; exact ⟨hB.1,hB.2,ih⟩
theorem Bl.two {s:Nat} {R:List (List GW)} (h:Bl s R) (hl:2 * s≤R.flatten.length) (hs:1≤s):∃ U V R',R=U :: V :: R'∧U.length=s∧V.length=s∧SrtM U∧SrtM V∧Bl s R':=by
 match R,h with
 | [],_=>simp at hl; omega
 | [B],h=>simp at hl; have:=h.2.1; omega
 | [B,C],h=>
  have h2:=h.2.2
  have:=h.1
  have:=h2.2.1
  simp at hl
  exact ⟨B,C,[],rfl,h.1,by omega,h.2.1,h2.2.2,trivial⟩
 | B :: C :: E :: R',h=>exact ⟨B,C,E :: R',rfl,h.1,h.2.2.1,h.2.1,h.2.2.2.1,h.2.2.2.2⟩
theorem Bl.few {s:Nat} {R:List (List GW)} (h:Bl s R) (hl:R.flatten.length<2 * s) (hs:1≤s):(R=[]∨(∃ B,R=[B]∧1≤B.length∧B.length≤s∧SrtM B))∨∃ U V,R=[U,V]∧U.length=s∧1≤V.length∧V.length≤s∧SrtM U∧SrtM V:=by
 match R,h with
 | [],_=>exact .inl (.inl rfl)
 | [B],h=>exact .inl (.inr ⟨B,rfl,h⟩)
 | [B,C],h=>exact .inr ⟨B,C,rfl,h.1,h.2.2.1,h.2.2.2.1,h.2.1,h.2.2.2.2⟩
 | B :: C :: E :: R',h=>
  have h1:=h.1
  have h2:=h.2.2.1
  simp at hl; omega
theorem Bl.one {s:Nat} {R:List (List GW)} (h:Bl s R) (hl:R.flatten.length≤s) (hs:1≤s):SrtM R.flatten:=by
 match R,h with
 | [],_=>exact List.Pairwise.nil
 | [B],h=>simpa using h.2.2
 | B :: C :: R',h=>
  have h1:=h.1
  have h2:=h.2.2
  have:1≤C.length:=by
   cases R' with
   | nil=>exact h2.1
   | cons E R'=>have:=h2.1; omega
  simp at hl; omega
def StA (A:List GW) (n id:Nat) (ext:Bool) (σ:Heap) (f:FR) (τ:Heap):Prop:=
 ∃ (D:List (List GW)) (R L:List GW) (a b:Nat),f 0=.sl id 0 n 3 true∧f 1=.int .i64 (n:Int)∧f 2=.func 55 []∧f 6=.int .i64 20∧f 7=.int .i64 (a:Int)∧f 8=.int .i64 (b:Int) ∧
  τ=σ.set id (.cells (fW L) 0 ext)∧L=D.flatten++R∧L.Perm A∧a=D.flatten.length∧b=a+20∧a≤n∧Full 20 D
def StB (A:List GW) (n id:Nat) (ext:Bool) (σ:Heap) (f:FR) (τ:Heap):Prop:=
 ∃ (R:List (List GW)) (L:List GW) (s:Nat),f 0=.sl id 0 n 3 true∧f 1=.int .i64 (n:Int)∧f 2=.func 55 []∧f 6=.int .i64 (s:Int) ∧
  τ=σ.set id (.cells (fW L) 0 ext)∧L=R.flatten∧L.Perm A∧Bl s R∧1≤s∧s≤300000000000
def StC (A:List GW) (n id s:Nat) (ext:Bool) (σ:Heap) (f:FR) (τ:Heap):Prop:=
 ∃ (D R:List (List GW)) (L:List GW) (a b:Nat),f 0=.sl id 0 n 3 true∧f 1=.int .i64 (n:Int)∧f 2=.func 55 []∧f 6=.int .i64 (s:Int)∧f 7=.int .i64 (a:Int)∧f 8=.int .i64 (b:Int) ∧
  τ=σ.set id (.cells (fW L) 0 ext)∧L=D.flatten++R.flatten∧L.Perm A∧a=D.flatten.length∧b=a+2 * s∧a≤n∧Full (2 * s) D∧Bl s R
set_option maxHeartbeats 8000000 in
theorem stable_ok (A:List GW) {n id:Nat} {σ:Heap} {ext:Bool} (hn:n=A.length) (hn':n≤100000000000) (hsz:∀ x∈A,szW x) (h:σ[id]?=some (.cells (fW A) 0 ext)) (bs:Nat) :
  ∃ r,callT T 67 [.sl id 0 n 3 true,.int .i64 n,.func 55 []] bs σ=some r∧SortedTo [] A [] id ext σ r:=by
 have hid:=id_lt h
 have hsl:∀ o,(σ.set id o).length=σ.length:=fun o=>List.length_set
 refine heap_enterE (af:=c67) (args':=[.sl id 0 n 3 true,.int .i64 n,.func 55 []]) (σ1:=σ) rfl rfl (by simp [c67]) (by simp [c67]) rfl ?_
 simp [c67,baseA]
 refine W_while T _ 63 (StA A n id ext σ) (fun f τ=>n+20 - iN (f 8)) ?_ _ _ ?_
 ·rintro f τ ⟨D,R,L,a,b,f0,f1,f2,f6,f7,f8,rfl,hL,hp,ha,hb,han,hD⟩
  have hll:n=a+R.length:=by rw [hn,←hp.length_eq,hL,zqJ]; omega
  have hs:=get_set (o':=.cells (fW L) 0 ext) h
  by_cases hlt:b≤n
  ·obtain ⟨r,hr,B,L',q1,q2,hL',rfl⟩:=insertion_ok D.flatten (R.take 20) (R.drop 20) (a:=a) (b:=b) (n:=n) ha (by rw [List.length_take]; omega) (by rw [List.length_drop]; omega) hn'
    (fun x hx=>hsz x (hp.mem_iff.1 (by rw [hL]; exact List.mem_append_right _ (List.mem_of_mem_take hx)))) (L:=L) (by rw [zqP,List.take_append_drop]; exact hL) hs σ.length
   obtain ⟨b1,hb1⟩:∃ b1,b1=b+20:=⟨_,rfl⟩
   have w1:IntKind.i64.wrap ((b:Int)+20)=(b1:Int):=by rw [wr64 (by omega) (by omega)]; omega
   rw [List.set_set] at hr
   simp [f0,f1,f2,f6,f7,f8,hlt,hr,w1]
   have hB:B.length=20:=by rw [q1.length_eq,List.length_take]; omega
   refine ⟨by omega,D++[B],R.drop 20,L',b,b1,?_⟩
   simp [-List.length_flatten,f0,f1,f2,f6]
   refine ⟨by rw [hL']; simp,?_,by omega,by omega,by omega,?_⟩
   ·refine List.Perm.trans ?_ hp
    rw [hL',hL,zqP]
    refine List.Perm.append_left _ ?_
    conv=>rhs; rw [←List.take_append_drop 20 R]
    exact List.Perm.append_right _ q1
   ·intro x hx
    rcases List.mem_append.1 hx with hx | hx
    ·exact hD x hx
    ·simp at hx; subst hx; exact ⟨hB,q2⟩
  ·obtain ⟨r,hr,B,L',q1,q2,hL',rfl⟩:=insertion_ok D.flatten R [] (a:=a) (b:=n) (n:=n) ha hll (by simp) hn'
    (fun x hx=>hsz x (hp.mem_iff.1 (by rw [hL]; exact List.mem_append_right _ hx))) (L:=L) (by rw [List.append_nil]; exact hL) hs σ.length
   rw [List.set_set] at hr
   rw [List.append_nil] at hL'
   have hB:B.length=R.length:=q1.length_eq
   have hBl:Bl 20 (D++if B=[] then [] else [B]):=by
    refine Bl.full (by omega) ?_ hD
    split
    ·trivial
    ·rename_i hne; exact ⟨List.length_pos_iff.2 hne,by omega,q2⟩
   have hfl:L'=(D++if B=[] then [] else [B]).flatten:=by
    rw [hL']; split
    ·rename_i e; rw [e]; simp
    ·simp
   have hp':L'.Perm A:=by
    refine List.Perm.trans ?_ hp
    rw [hL',hL]; exact List.Perm.append_left _ q1
   generalize (D++if B=[] then [] else [B])=R1 at hBl hfl
   simp [f0,f1,f2,f6,f7,f8,hlt,hr]
   clear hlt hr hB hL' q1 q2 hs hll hD han hb ha hp hL
   refine W_while T _ 63 (StB A n id ext σ) (fun f τ=>n - iN (f 6)) ?_ _ _ ?_
   ·clear f0 f1 f2 f6 f7 f8 hBl hfl hp'
    rintro f τ ⟨R,L,s,f0,f1,f2,f6,rfl,hL,hp,hBl,hs1,hs2⟩
    have hlL:n=R.flatten.length:=by rw [hn,←hp.length_eq,hL]
    by_cases hlt:s<n
    ·obtain ⟨s2,hs2'⟩:∃ s2,s2=2 * s:=⟨_,rfl⟩
     have w0:IntKind.i64.wrap (2 * (s:Int))=(s2:Int):=by rw [wr64 (by omega) (by omega)]; omega
     have w0':IntKind.i64.wrap ((s:Int) * 2)=(s2:Int):=by rw [wr64 (by omega) (by omega)]; omega
     simp [f0,f1,f2,f6,hlt,w0]
     refine W_while T _ 63 (StC A n id s ext σ) (fun f τ=>n+s2 - iN (f 8)) ?_ _ _ ?_
     ·clear f0 f1 f2 f6 hL hp hBl hlL
      rintro f τ ⟨D,R,L,a,b,f0,f1,f2,f6,f7,f8,rfl,hL,hp,ha,hb,han,hD,hBl⟩
      have hll:n=a+R.flatten.length:=by rw [hn,←hp.length_eq,hL,zqJ]; omega
      have hs:=get_set (o':=.cells (fW L) 0 ext) h
      obtain ⟨m,hm⟩:∃ m,m=a+s:=⟨_,rfl⟩
      have w2:IntKind.i64.wrap ((a:Int)+(s:Int))=(m:Int):=i64add hm (by omega)
      by_cases hlt2:b≤n
      ·obtain ⟨U,V,R',rfl,hU,hV,sU,sV,hR'⟩:=hBl.two (by omega) hs1
       obtain ⟨r,hr,W,L',q1,q2,hL',rfl⟩:=sym_all _ D.flatten U V R'.flatten a m b n id _ ext L σ.length (Nat.le_refl _) ha (by omega) (by omega) (by simp only [List.flatten_cons,zqJ] at hll; omega) (by omega) (by omega) hn'
        (fun x hx=>hsz x (hp.mem_iff.1 (by rw [hL]; simp [hx]))) (fun x hx=>hsz x (hp.mem_iff.1 (by rw [hL]; simp [hx]))) sU sV (by rw [hL]; simp) hs
       obtain ⟨b1,hb1⟩:∃ b1,b1=b+s2:=⟨_,rfl⟩
       have w1:IntKind.i64.wrap ((b:Int)+(s2:Int))=(b1:Int):=i64add hb1 (by omega)
       rw [List.set_set] at hr
       simp [f0,f1,f2,f6,f7,f8,hlt2,hr,w0,w1,w2]
       have hW:W.length=2 * s:=by rw [q1.length_eq,zqJ]; omega
       refine ⟨by omega,D++[W],R',L',b,b1,?_⟩
       simp [-List.length_flatten,f0,f1,f2,f6]
       refine ⟨by rw [hL']; simp,?_,by omega,by omega,by omega,?_,hR'⟩
       ·refine List.Perm.trans ?_ hp
        rw [hL',hL,zqP,List.flatten_cons,List.flatten_cons,←zqP U]
        exact List.Perm.append_left _ (List.Perm.append_right _ q1)
       ·intro x hx
        rcases List.mem_append.1 hx with hx | hx
        ·exact hD x hx
        ·simp at hx; subst hx; exact ⟨hW,q2⟩
      ·rcases hBl.few (by omega) hs1 with hfew | ⟨U,V,rfl,hU,hV1,hV2,sU,sV⟩
       ·have hms:¬ m<n:=by
         rcases hfew with rfl | ⟨B,rfl,_,hB,_⟩
         ·simp at hll; omega
         ·simp at hll; omega
        simp [f0,f1,f2,f6,f7,f8,hlt2,w0',w2,hms]
        refine ⟨by omega,D++R,L,s2,?_⟩
        simp [f0,f1,f2]
        refine ⟨by rw [hL],hp,?_,by omega,by omega⟩
        rw [hs2']
        refine Bl.full (by omega) ?_ hD
        rcases hfew with rfl | ⟨B,rfl,b1,b2,b3⟩
        ·trivial
        ·exact ⟨b1,by omega,b3⟩
       ·have hll2:n=m+V.length:=by simp at hll; omega
        have hms:m<n:=by omega
        obtain ⟨r,hr,W,L',q1,q2,hL',rfl⟩:=sym_all _ D.flatten U V [] a m n n id _ ext L σ.length (Nat.le_refl _) ha (by omega) hll2 (by simp) (by omega) (by omega) hn'
         (fun x hx=>hsz x (hp.mem_iff.1 (by rw [hL]; simp [hx]))) (fun x hx=>hsz x (hp.mem_iff.1 (by rw [hL]; simp [hx]))) sU sV (by rw [hL]; simp) hs
        rw [List.set_set] at hr
        rw [List.append_nil] at hL'
        have hW:W.length=s+V.length:=by rw [q1.length_eq,zqJ]; omega
        simp [f0,f1,f2,f6,f7,f8,hlt2,w0',w2,hms,hr]
        refine ⟨by omega,D++[W],L',s2,?_⟩
        simp [f0,f1,f2]
        refine ⟨hL',?_,?_,by omega,by omega⟩
        ·refine List.Perm.trans ?_ hp
         rw [hL',hL]
         exact List.Perm.append_left _ (by simpa using q1)
        ·rw [hs2']
         refine Bl.full (T:=[W]) (by omega) ?_ hD
         exact ⟨by omega,by omega,q2⟩
     ·refine ⟨[],R,L,0,s2,?_⟩
      simp [f0,f1,f2,f6]
      exact ⟨hL,hp,hs2',(fun x hx=>by cases hx),hBl⟩
    ·simp [f0,f1,f2,f6,hlt,dropA_gc,refLt,List.take_of_length_le]
     refine ⟨L,L,hp,?_,by simp,rfl⟩
     rw [hL]; exact Bl.one hBl (by omega) hs1
   ·refine ⟨R1,L',20,?_⟩
    simp [f0,f1,f2,f6]
    exact ⟨hfl,hp',hBl⟩
 ·refine ⟨[],A,A,0,20,?_⟩
  simp [setSame h]
  intro x hx; cases hx
open Go.RowKit Go.Mach
theorem sortStable_ok (A:List GW) {n id:Nat} {σ:Heap} {ext:Bool} (hn:n=A.length) (hn':n≤100000000000) (hsz:∀ x∈A,szW x) (h:σ[id]?=some (.cells (fW A) 0 ext)) (bs:Nat) :
  ∃ A':List GW,A'.Perm A∧SrtM A'∧callT T 54 [.sl id 0 n 3 true,.func 55 []] bs σ=some (.tup [],σ.set id (.cells (fW A') 0 ext)):=by
 have hid:=id_lt h
 obtain ⟨r,hr,A',L',h1,h2,h3,rfl⟩:=stable_ok A hn hn' hsz h σ.length
 rw [List.nil_append,List.append_nil] at h3; subst h3
 refine ⟨_,h1,h2,?_⟩
 refine heap_enter (af:=c54) (args':=[.sl id 0 n 3 true,.func 55 []]) (σ1:=σ) rfl rfl (by simp [c54]) (by simp [c54]) rfl ?_
 simp [c54,baseA,hr,dropA_gc,refLt,List.take_of_length_le]
def dd:GW→List GW→List GW
 | _,[]=>[]
 | p,x :: l=>if cmpW x p=0 then dd x l else x :: dd x l
def ddL:List GW→List GW
 | []=>[]
 | x :: l=>x :: dd x l
theorem dd_sub:∀ (l:List GW) (p:GW),∀ x∈dd p l,x∈l
 | [],_,x,h=>by cases h
 | y :: l,p,x,h=>by
  unfold dd at h
  split at h
  ·exact List.mem_cons_of_mem _ (dd_sub l y x h)
  ·rcases List.mem_cons.1 h with rfl | h
   ·simp
   ·exact List.mem_cons_of_mem _ (dd_sub l y x h)
theorem dd_len:∀ (l:List GW) (p:GW),(dd p l).length≤l.length
 | [],_=>by simp [dd]
 | y :: l,p=>by
  have:=dd_len l y
  unfold dd; split <;> simp <;> omega
theorem ddL_sub (l:List GW):∀ x∈ddL l,x∈l:=by
 cases l with
 | nil=>exact fun x h=>h
 | cons y l=>
  intro x h
  rcases List.mem_cons.1 h with rfl | h
  ·simp
  ·exact List.mem_cons_of_mem _ (dd_sub l y x h)
theorem ddL_len (l:List GW):(ddL l).length≤l.length:=by
 cases l with
 | nil=>exact Nat.le_refl _
 | cons y l=>have:=dd_len l y; simp [ddL]; omega
abbrev UpW (l:List GW):Prop:=l.Pairwise fun a b=>cmpW a b<0
theorem dd_up:∀ (l:List GW) (p:GW),(p :: l).Pairwise (fun a b=>cmpW a b≤0)→UpW (dd p l)∧∀ y∈dd p l,cmpW p y<0
 | [],p,_=>⟨List.Pairwise.nil,fun y h=>by cases h⟩
 | x :: l,p,h=>by
  obtain ⟨h1,h2⟩:=List.pairwise_cons.1 h
  obtain ⟨i1,i2⟩:=dd_up l x h2
  have hpx:=h1 x (by simp)
  have hn:=cmpW_neg p x
  unfold dd
  split
  ·exact ⟨i1,fun y hy=>(cmpW_tr p x y).2.2 hpx (i2 y hy)⟩
  ·refine ⟨List.pairwise_cons.2 ⟨i2,i1⟩,fun y hy=>?_⟩
   rcases List.mem_cons.1 hy with rfl | hy
   ·omega
   ·exact (cmpW_tr p x y).2.2 hpx (i2 y hy)
def Cov (l K:List GW):Prop:=∀ x∈l,∃ y∈K,cmpW y x=0∧x.stamp≤y.stamp
theorem cmpM_stamp {p y:GW} (h:cmpM p y≤0) (h0:cmpW p y=0):y.stamp≤p.stamp:=by
 unfold cmpM at h; rw [if_pos h0] at h
 unfold cmpI at h
 split at h
 ·omega
 ·split at h <;> omega
theorem cmpW_zero_tr {a b c:GW} (h1:cmpW a b=0) (h2:cmpW b c=0):cmpW a c=0:=by
 have t1:=(cmpW_tr a b c).1 (by omega) (by omega)
 have n1:=cmpW_neg a b
 have n2:=cmpW_neg b c
 have n3:=cmpW_neg a c
 have t2:=(cmpW_tr c b a).1 (by omega) (by omega)
 omega
theorem dd_cov:∀ (l:List GW) (p:GW),(p :: l).Pairwise (fun a b=>cmpM a b≤0)→∀ x∈l,∃ y∈p :: dd p l,cmpW y x=0∧x.stamp≤y.stamp
 | [],_,_,x,h=>by cases h
 | y :: l,p,h,x,hx=>by
  obtain ⟨h1,h2⟩:=List.pairwise_cons.1 h
  have ih:=dd_cov l y h2
  have hy0:cmpW y y=0:=by have:=cmpW_neg y y; omega
  unfold dd
  split
  ·rename_i h0
   have h0:cmpW p y=0:=by have:=cmpW_neg p y; omega
   have hst:=cmpM_stamp (h1 y (by simp)) h0
   rcases List.mem_cons.1 hx with rfl | hx
   ·exact ⟨p,by simp,h0,hst⟩
   ·obtain ⟨z,hz,z1,z2⟩:=ih x hx
    rcases List.mem_cons.1 hz with rfl | hz
    ·exact ⟨p,by simp,cmpW_zero_tr h0 z1,by omega⟩
    ·exact ⟨z,by simp [hz],z1,z2⟩
  ·rcases List.mem_cons.1 hx with rfl | hx
   ·exact ⟨x,by simp,hy0,by omega⟩
   ·obtain ⟨z,hz,z1,z2⟩:=ih x hx
    exact ⟨z,List.mem_cons_of_mem _ hz,z1,z2⟩
theorem ddL_cov {l:List GW} (h:SrtM l):Cov l (ddL l):=by
 cases l with
 | nil=>exact fun x h=>by cases h
 | cons y l=>
  intro x hx
  rcases List.mem_cons.1 hx with rfl | hx
  ·exact ⟨x,by simp [ddL],by have:=cmpW_neg x x; omega,by omega⟩
  ·exact dd_cov l y h x hx
theorem ddL_up {l:List GW} (h:SrtM l):UpW (ddL l):=by
 cases l with
 | nil=>exact List.Pairwise.nil
 | cons y l=>
  obtain ⟨i1,i2⟩:=dd_up l y (h.imp cmpM_le)
  exact List.pairwise_cons.2 ⟨i2,i1⟩
theorem refLt2_sl (n id off l s:Nat) (a:Bool):refLt2 n (.sl id off l s a)=decide (id<n):=rfl
theorem refLt2_isl0 (n:Nat) (b:Bool):refLt2 n (.isl [] b)=true:=rfl
theorem sl_from {id n k:Nat} (h:k<n):slSlV 3 (some (.int .i64 (k:Int))) none (.sl id 0 n 3 true)=some (.sl id (k * 3) (n - k) 3 true):=by
 have h1:(k:Int)≤n:=by omega
 have h2:k≤n:=by omega
 have h3:¬ k=n:=by omega
 simp [slSlV,isSl,bndV,slSlA,h1,h2,h3]
theorem sl_to {id n k:Nat} (h:k≤n) (h0:0<k):slSlV 3 none (some (.int .i64 (k:Int))) (.sl id 0 n 3 true)=some (.sl id 0 k 3 true):=by
 have h1:(k:Int)≤n:=by omega
 have h3:¬ 0=k:=by omega
 simp [slSlV,isSl,bndV,slSlA,h1,h,h3]
theorem setRun_mid:∀ (zs A B:List AV),setRun (A++B) A.length zs=A++(zs++B.drop zs.length)∨B.length<zs.length
 | [],A,B=>.inl (by simp [setRun])
 | z :: zs,A,[]=>.inr (by simp)
 | z :: zs,A,b :: B=>by
  rcases setRun_mid zs (A++[z]) B with h | h
  ·refine .inl ?_
   simp only [setRun]
   rw [List.set_append_right _ _ (Nat.le_refl _),Nat.sub_self,List.set_cons_zero]
   rw [zqP,zqJ] at h
   simpa using h
  ·exact .inr (by simp; omega)
theorem clear_W {σ:Heap} {bs id:Nat} {ext:Bool} {K R:List GW} (h:σ[id]?=some (.cells (fW (K++R)) 0 ext)) {k m:Nat} (hk:k=K.length) (hm:m=R.length) (h0:0<m) :
  ∃ Zs:List AV,clearA bs σ 3 [.str ⟨#[]⟩,.isl [] true,.int .i64 0] (.sl id (k * 3) m 3 true)=some (σ.set id (.cells (fW K++Zs) 0 ext)):=by
 have hf:fW (K++R)=fW K++fW R:=by simp [fW]
 have hl:=fW_len K
 have hr:=fW_len R
 refine ⟨(List.replicate m [.str ⟨#[]⟩,.isl [] true,.int .i64 0]).flatten,?_⟩
 have hz:((List.replicate m [AV.str ⟨#[]⟩,.isl [] true,.int .i64 0]).flatten).length=m * 3:=by simp
 have ha:((List.replicate m [AV.str ⟨#[]⟩,.isl [] true,.int .i64 0]).flatten).all AV.clo1=true:=by
  rw [zqQ]; intro x hx
  obtain ⟨l,hl,hx⟩:=List.mem_flatten.1 hx
  obtain ⟨_,rfl⟩:=List.mem_replicate.1 hl
  simp at hx; rcases hx with rfl | rfl | rfl <;> rfl
 simp only [clearA]
 rw [if_neg (by omega),if_pos trivial]
 generalize (List.replicate m [AV.str ⟨#[]⟩,.isl [] true,.int .i64 0]).flatten=zs at *
 have hs:=setRun_mid zs (fW K) (fW R)
 rw [←hf] at hs
 rcases hs with hs | hs
 ·simp only [storeA,h]
  rw [if_pos ⟨Nat.zero_le _,by rw [hf,zqJ]; omega,rfl,hz,.inr ha⟩]
  show some (σ.set id (.cells (setRun (fW (K++R)) (k * 3) zs) 0 ext))=_
  rw [hk,←hl,hs,List.drop_of_length_le (by omega),List.append_nil]
 ·omega
def Cp1 (A:List GW) (n id:Nat) (f:FR):Prop:=
 ∃ (P R:List GW) (p:GW) (k:Nat),f 0=.sl id 0 n 3 true∧f 1=.func 58 []∧f 5=.int .i64 (k:Int)∧A=P++p :: R∧ddL A=P++p :: dd p R∧k=P.length+1
def Cp2 (A:List GW) (n id k0:Nat) (ext:Bool) (σ:Heap) (f:FR) (τ:Heap):Prop:=
 ∃ (K G R L:List GW) (y:GW) (k k2:Nat),f 0=.sl id 0 n 3 true∧f 1=.func 58 []∧f 5=.int .i64 (k:Int)∧f 6=.sl id (k0 * 3) (n - k0) 3 true∧f 7=.int .i64 (k2:Int)∧τ=σ.set id (.cells (fW L) 0 ext) ∧
  L=K++(G++y :: R)∧ddL A=K++dd y R∧k=K.length∧k0+k2=K.length+G.length+1∧n=k0+k2+R.length∧1≤k2∧(∀ x∈L,szW x)
def CompTo (A:List GW) (id:Nat) (ext:Bool) (σ:Heap) (r:AV × Heap):Prop:=∃ (Zs:List AV) (m:Nat),m=(ddL A).length∧r=(.sl id 0 m 3 true,σ.set id (.cells (fW (ddL A)++Zs) 0 ext))
set_option maxHeartbeats 8000000 in
theorem compact_ok (A:List GW) {n id:Nat} {σ:Heap} {ext:Bool} (hn:n=A.length) (hn':n≤100000000000) (hsz:∀ x∈A,szW x) (h:σ[id]?=some (.cells (fW A) 0 ext)) (bs:Nat) :
  ∃ r,callT T 57 [.sl id 0 n 3 true,.func 58 []] bs σ=some r∧CompTo A id ext σ r:=by
 have hid:=id_lt h
 have hsl:∀ o,(σ.set id o).length=σ.length:=fun o=>List.length_set
 refine heap_enterE (af:=c57) (args':=[.sl id 0 n 3 true,.func 58 []]) (σ1:=σ) rfl rfl (by simp [c57]) (by simp [c57]) rfl ?_
 by_cases h2:n<2
 ·have h2':(n:Int)<2:=by omega
  simp [c57,baseA,h2',dropA_gc,refLt,refLt2_sl,hid,List.take_of_length_le]
  have e:ddL A=A:=by
   match A,hn with
   | [],_=>rfl
   | [x],_=>rfl
   | x :: y :: l,hn=>simp at hn; omega
  exact ⟨[],n,by rw [e,hn],by rw [e,List.append_nil,setSame h]⟩
 ·have h2':¬ (n:Int)<2:=by omega
  simp [c57,baseA,h2']
  refine W_while T _ 66 (fun f τ=>τ=σ∧Cp1 A n id f) (fun f τ=>n - iN (f 5)) ?_ _ _ ?_
  ·rintro f τ ⟨rfl,P,R,p,k,f0,f1,f5,hA,hd,hk⟩
   have hll:n=k+R.length:=by rw [hn,hA]; simp; omega
   by_cases hlt:k<n
   ·obtain ⟨x,R',rfl⟩:∃ x R',R=x :: R':=by
     cases R with
     | nil=>simp at hll; omega
     | cons x R'=>exact ⟨x,R',rfl⟩
    obtain ⟨k1,hk1⟩:∃ k1,k=k1+1:=⟨k - 1,by omega⟩
    have w1:IntKind.i64.wrap ((k:Int) - 1)=(k1:Int):=by rw [wr64 (by omega) (by omega)]; omega
    obtain ⟨k3,hk3⟩:∃ k3,k3=k+1:=⟨_,rfl⟩
    have w2:IntKind.i64.wrap ((k:Int)+1)=(k3:Int):=by rw [wr64 (by omega) (by omega)]; omega
    have s1:=load_I h (i:=k1) (x:=p) (by rw [hA]; exact get_mid P p _ (by omega))
    have s2:=load_I h (i:=k) (x:=x) (by rw [hA,show P++p :: x :: R'=(P++[p])++x :: R' by simp]; exact get_mid (P++[p]) x _ (by simp; omega))
    have l1:k1<n:=by omega
    have hc:=fun bs σ=>callEqW x p (hsz x (by rw [hA]; simp)) bs σ
    by_cases heq:cmpW x p=0
    ·simp [-loadA_ptr,f0,f1,f5,hlt,w1,l1,s1,s2,hc,heq,sym,sl_from hlt]
     refine W_while T _ 66 (Cp2 A n id k ext τ) (fun f τ=>n - iN (f 7)) ?_ _ _ ?_
     ·clear f0 f1 f5 hlt
      rintro f τ' ⟨K,G,R,L,y,k',k2,f0,f1,f5,f6,f7,rfl,hL,hdA,hk',hkk,hnn,hk21,hszL⟩
      have hs:=get_set (o':=.cells (fW L) 0 ext) h
      have hkn:k≤n:=by omega
      by_cases hlt:k2<n - k
      ·obtain ⟨z,R3,rfl⟩:∃ z R3,R=z :: R3:=by
        cases R with
        | nil=>simp at hnn; omega
        | cons z R3=>exact ⟨z,R3,rfl⟩
       obtain ⟨q1,hq1⟩:∃ q1,k2=q1+1:=⟨k2 - 1,by omega⟩
       obtain ⟨q3,hq3⟩:∃ q3,q3=k2+1:=⟨_,rfl⟩
       obtain ⟨k4,hk4⟩:∃ k4,k4=k'+1:=⟨_,rfl⟩
       have w1:IntKind.i64.wrap ((k2:Int) - 1)=(q1:Int):=by rw [wr64 (by omega) (by omega)]; omega
       have w2:IntKind.i64.wrap ((k2:Int)+1)=(q3:Int):=by rw [wr64 (by omega) (by omega)]; omega
       have w3:IntKind.i64.wrap ((k':Int)+1)=(k4:Int):=by rw [wr64 (by omega) (by omega)]; omega
       have s1:=load_I hs (i:=k+q1) (x:=y) (by rw [hL,←zqP]; exact get_mid (K++G) y _ (by simp; omega))
       have s2:=load_I hs (i:=k+k2) (x:=z) (by rw [hL,show K++(G++y :: z :: R3)=(K++G++[y])++z :: R3 by simp]; exact get_mid (K++G++[y]) z _ (by simp; omega))
       rw [Nat.add_mul] at s1 s2
       have l1:q1<n - k:=by omega
       have l3:k'<n:=by omega
       have hc:=fun bs σ=>callEqW z y (hszL z (by rw [hL]; simp)) bs σ
       by_cases heq2:cmpW z y=0
       ·simp [-loadA_ptr,f0,f1,f5,f6,f7,hlt,w1,w2,l1,s1,s2,hc,heq2,sym]
        refine ⟨by omega,K,G++[y],R3,L,z,k',q3,?_⟩
        simp [f0,f1,f5,f6]
        exact ⟨by rw [hL],by rw [hdA]; simp [dd,heq2],hk',by omega,by simp at hnn; omega,by omega,hszL⟩
       ·obtain ⟨g,G2,hg⟩:∃ g G2,G++[y]=g :: G2:=by
         cases G with
         | nil=>exact ⟨y,[],rfl⟩
         | cons g G2=>exact ⟨g,G2++[y],rfl⟩
        have hG2:G2.length=G.length:=by have:=congrArg List.length hg; simp at this; omega
        have eL:L=K++g :: (G2++z :: R3):=by rw [hL,show G++y :: z :: R3=(G++[y])++z :: R3 by simp,hg]; simp
        obtain ⟨L3,hL3⟩:∃ L3,L3=K++z :: (G2++z :: R3):=⟨_,rfl⟩
        have hs':=hs
        rw [eL] at hs'
        have s3:=store_M (bs:=τ.length) hs' hk' z
        rw [←eL,←hL3,List.set_set] at s3
        simp [-loadA_ptr,-storeA_ptr,f0,f1,f5,f6,f7,hlt,w1,w2,w3,l1,l3,s1,s2,s3,hc,heq2,sym]
        refine ⟨by omega,K++[z],G2,R3,L3,z,k4,q3,?_⟩
        simp [f0,f1,f6]
        refine ⟨hL3,by rw [hdA]; simp [dd,heq2],by omega,by omega,by simp at hnn; omega,by omega,fun x hx=>?_⟩
        rw [hL3] at hx
        refine hszL x ?_
        rw [eL]
        simp only [List.mem_append,List.mem_cons] at hx ⊢
        rcases hx with hx | rfl | hx | rfl | hx
        ·exact .inl hx
        ·exact .inr (.inr (.inr (.inl rfl)))
        ·exact .inr (.inr (.inl hx))
        ·exact .inr (.inr (.inr (.inl rfl)))
        ·exact .inr (.inr (.inr (.inr hx)))
      ·have hR:R=[]:=List.length_eq_zero_iff.1 (by omega)
       subst hR
       rw [show dd y []=[] from rfl,List.append_nil] at hdA
       have hkl:k'<n:=by simp at hnn; omega
       have hk0:0<k':=by
        have:K≠[]:=fun e=>by
         rw [←hdA] at e
         match A,hn,e with
         | [],hn,_=>simp at hn; omega
         | _ :: _,_,e=>cases e
        rw [hk']; exact List.length_pos_iff.2 this
       rw [hL] at hs
       obtain ⟨Zs,hcl⟩:=clear_W (bs:=τ.length) hs hk' (m:=n - k') (by simp at hnn ⊢; omega) (by omega)
       rw [←hL,List.set_set] at hcl
       simp [f0,f1,f5,f6,f7,hlt,sl_from hkl,sl_to (show k'≤n by omega) hk0,hcl,dropA_gc,refLt,refLt2_sl,hid,List.take_of_length_le]
       exact ⟨Zs,k',by rw [hdA,hk'],by rw [hdA]⟩
     ·refine ⟨P++[p],[],R',A,x,k,1,?_⟩
      simp [f0,f1,f5,setSame h]
      exact ⟨hA,by rw [hd]; simp [dd,heq],hk,by simp at hll; omega,hsz⟩
    ·simp [-loadA_ptr,f0,f1,f5,hlt,w1,w2,l1,s1,s2,hc,heq,sym]
     refine ⟨by omega,P++[p],R',x,k3,?_⟩
     simp [f0,f1]
     exact ⟨hA,by rw [hd]; simp [dd,heq],by omega⟩
   ·simp [f0,f1,f5,hlt,dropA_gc,refLt,refLt2_sl,hid,List.take_of_length_le]
    have e:R=[]:=List.length_eq_zero_iff.1 (by omega)
    subst e
    have e:ddL A=A:=by rw [hd,hA]; rfl
    exact ⟨[],n,by rw [e,hn],by rw [e,List.append_nil,setSame h]⟩
  ·refine ⟨rfl,?_⟩
   match A,hn with
   | [],hn=>simp at hn; omega
   | x :: l,hn=>
    refine ⟨[],l,x,1,?_⟩
    simp; rfl
open Go.RowKit Go.Mach
theorem fW_flat (l:List GW):flat (l.map GW.enc)=fW l:=by
 simp [flat,fW,List.flatMap_map,GW.enc,AV.cells]
theorem callCloneW (l:List GW) (c:Bool) (hne:l≠[]) (hl:l.length≤10000000000) (bs:Nat) (σ:Heap):callT T 53 [.isl (l.map GW.enc) c] bs σ=some (.sl (σ.length+1) 0 l.length 3 true,σ++[.cells [] 0 false,.cells (fW l) 0 true]):=by
 rw [callT_pr (p:=cloneWP) _ _ _ rfl _]
 have hf:(flat (l.map GW.enc)).length=l.length * 3:=by rw [fW_flat,fW_len]
 simp only [cloneWP,if_neg (fun h=>hne (List.map_eq_nil_iff.1 h)),List.length_map]
 rw [if_pos ⟨hf,hl⟩,fW_flat]
theorem callCloneW0 (c:Bool) (bs:Nat) (σ:Heap):callT T 53 [.isl [] c] bs σ=some (.isl [] true,σ):=callT_pr (p:=cloneWP) _ _ _ rfl _
def MergedTo (l:List GW) (σ:Heap) (r:AV × Heap):Prop:=∃ (K:List GW) (m id:Nat) (Zs:List AV) (o1:AObj),m=K.length∧UpW K∧(∀ x∈K,x∈l)∧K.length≤l.length∧Cov l K∧id=σ.length+1∧0<m ∧
 r=(.sl id 0 m 3 true,σ++[o1,.cells (fW K++Zs) 0 true])
theorem merged_ok (l:List GW) (hne:l≠[]) (hl:l.length≤10000000000) (hsz:∀ x∈l,szW x) (bs:Nat) (σ:Heap) :
  ∃ r,callT T 33 [.isl (l.map GW.enc) false] bs σ=some r∧MergedTo l σ r:=by
 have h1:=fun bs=>callCloneW l false hne hl bs σ
 obtain ⟨id,hid⟩:∃ id,id=σ.length+1:=⟨_,rfl⟩
 obtain ⟨n,hn⟩:∃ n,n=l.length:=⟨_,rfl⟩
 obtain ⟨τ,hτ⟩:∃ τ:Heap,τ=σ++[.cells [] 0 false,.cells (fW l) 0 true]:=⟨_,rfl⟩
 rw [←hid,←hn,←hτ] at h1
 have hat:τ[id]?=some (.cells (fW l) 0 true):=by rw [hτ,hid]; simp
 obtain ⟨A',p1,p2,h2⟩:=sortStable_ok l hn (by omega) hsz hat bs
 have hat2:=get_set (o':=.cells (fW A') 0 true) hat
 obtain ⟨r,h3,Zs,m,hm,rfl⟩:=compact_ok A' (n:=n) (by rw [hn,p1.length_eq]) (by omega) (fun x hx=>hsz x (p1.mem_iff.1 hx)) hat2 bs
 rw [List.set_set] at h3
 have hA0:A'≠[]:=fun e=>by subst e; exact hne (List.Perm.eq_nil p1.symm)
 have hfin:MergedTo l σ (.sl id 0 m 3 true,τ.set id (.cells (fW (ddL A')++Zs) 0 true)):=by
  refine ⟨ddL A',m,id,Zs,.cells [] 0 false,hm,ddL_up p2,fun x hx=>p1.mem_iff.1 (ddL_sub A' x hx),by rw [←p1.length_eq]; exact ddL_len A',fun x hx=>ddL_cov p2 x (p1.mem_iff.2 hx),hid,?_,?_⟩
  ·rw [hm]
   cases A' with
   | nil=>exact absurd rfl hA0
   | cons x l=>simp [ddL]
  ·rw [hτ,hid]; simp
 generalize τ.set id (.cells (fW (ddL A')++Zs) 0 true)=τ3 at h3 hfin
 generalize τ.set id (.cells (fW A') 0 true)=τ2 at h2 h3
 refine heap_enterE (af:=c33) (args':=[.isl (l.map GW.enc) false]) (σ1:=σ) rfl rfl (by simp [c33]) (by simp [c33]) (by simp [closeArgs,c33]) ?_
 simp [c33,baseA,h1,h2,h3]
 exact hfin
open Go.RowKit Go.Mach
theorem vClone (l:List GV) (c:Bool) (hne:l≠[]) (hl:l.length≤10000000000) (bs:Nat) (σ:Heap):callT T 34 [.isl (GV.encs l) c] bs σ=some (.sl (σ.length+1) 0 l.length 4 true,σ++[.cells [] 0 false,.cells (flat (GV.encs l)) 0 true]):=by
 rw [callT_pr (p:=cloneVP) _ _ _ rfl _]
 have hf:=flat_len (encsV_len l)
 rw [GV.encs_length] at hf
 simp only [cloneVP,if_neg (fun h=>hne ((encs_nil l).1 h)),GV.encs_length]
 rw [if_pos ⟨hf,hl⟩]
theorem V_load {σ:Heap} {id:Nat} {ext:Bool} {l:List GV} (h:σ[id]?=some (.cells (flat (GV.encs l)) 0 ext)) {i:Nat} (hi:i<l.length):loadA σ 4 true (.ptr id (i * 4))=some l[i].enc:=by
 have hw:=flat_win (es:=GV.encs l) (i:=i) (by simpa using hi) (encsV_len l)
 simp only [loadA,h,hw,Option.bind_some,mk]
 rw [GV.encs_getE,GV.enc_cells,GV.enc_eq]
theorem V_store {σ:Heap} {bs id:Nat} {ext:Bool} {l:List GV} (h:σ[id]?=some (.cells (flat (GV.encs l)) 0 ext)) {i:Nat} (hi:i<l.length):storeA bs σ 4 l[i].enc (.ptr id (i * 4))=some σ:=by
 have hf:=flat_len (encsV_len l)
 rw [GV.encs_length] at hf
 have hi':i<(GV.encs l).length:=by simpa using hi
 have hs:=flat_set (s:=4) (v:=l[i].enc) (by simp) (es:=GV.encs l) (i:=i) hi' (encsV_len l)
 have he:(GV.encs l).set i l[i].enc=GV.encs l:=by
  rw [←GV.encs_getE l i hi']; exact List.set_getElem_self hi'
 rw [he] at hs
 simp only [storeA,h]
 rw [if_pos ⟨Nat.zero_le _,by omega,by simp,by simp,.inr (by simp [AV.clo1])⟩,hs,setSame h]
set_option maxHeartbeats 2000000 in
theorem fresh_ok:∀ (n:Nat) (v:GV),v.size≤n→n≤10000000000→pureT T c35 [v.enc]=some v.enc:=by
 intro n
 induction n with
 | zero=>intro v h; cases v; simp [GV.size] at h
 | succ n ih=>
  intro v hs hn
  obtain ⟨k,num,t,l⟩:=v
  have hl:GV.sizes l≤n:=by simp [GV.size] at hs; omega
  have hll:=len_sizes l
  have hcall:∀ x∈l,∀ bs σ,callT T 35 [x.enc] bs σ=some (x.enc,σ):=fun x hx bs σ=>
   call_clean rfl rfl rfl (by simp) (ih x (by have:=(sizes_mem hx).1; omega) (by omega))
  apply pure_enter (by simp [c35])
  by_cases hne:l=[]
  ·subst hne
   simp [c35,GV.enc_eq,GV.kind,GV.num,GV.text,GV.items,GV.encs,setRun]
  ·have h1:0<l.length:=List.length_pos_iff.2 hne
   have hcl:=fun σ=>vClone l false hne (by omega) 0 σ
   obtain ⟨m,hm⟩:∃ m,m=l.length:=⟨_,rfl⟩
   simp [c35,GV.enc_eq,GV.kind,GV.num,GV.text,GV.items,setRun,h1,hcl,hne]
   refine W_for T 0 29 l.length (fun i f τ=>f 1=.ptr 0 0∧f 2=.ptr 1 0∧f 14=.sl 3 0 l.length 4 true∧f 15=.int .i64 (l.length:Int)∧f 16=.int .i64 (i:Int)∧∃ J:Heap,
    τ=[.cells [.int .i64 k,.int .i64 num,.str t,.sl 3 0 l.length 4 true] 0 false,.cells [.int .i64 0,.int .i64 0,.str ⟨#[]⟩,.isl [] true] 0 false,.cells [] 0 false,.cells (flat (GV.encs l)) 0 true]++J) ?_ _ _ ?_
   ·rintro i f τ hi ⟨f1,f2,f14,f15,f16,J,rfl⟩
    by_cases hlt:i<l.length
    ·have w1:IntKind.i64.wrap ((i:Int)+1)=(i:Int)+1:=wr64 (by omega) (by omega)
     have hi':i<(GV.encs l).length:=by simpa using hlt
     have hw:=flat_win (es:=GV.encs l) (i:=i) hi' (encsV_len l)
     rw [GV.encs_getE,GV.enc_cells] at hw
     have hst:=flat_set (s:=4) (v:=l[i].enc) (by simp) (es:=GV.encs l) (i:=i) hi' (encsV_len l)
     have he:(GV.encs l).set i l[i].enc=GV.encs l:=by rw [←GV.encs_getE l i hi']; exact List.set_getElem_self hi'
     rw [he,GV.enc_cells] at hst
     have hf:i * 4+4≤(flat (GV.encs l)).length:=by rw [flat_len (encsV_len l),GV.encs_length]; omega
     have hc:=hcall l[i] (zqT hlt)
     rw [GV.enc_eq] at hc
     simp [-GV.enc_fold,f1,f2,f14,f15,f16,hlt,w1,hw,hst,hc,hf,setRun,AV.clo1]
    ·have hc3:=fun J=>close1_flat (σ:=[.cells [.int .i64 k,.int .i64 num,.str t,.sl 3 0 l.length 4 true] 0 false,.cells [.int .i64 k,.int .i64 num,.str t,.sl 3 0 l.length 4 true] 0 false,.cells [] 0 false,.cells (flat (GV.encs l)) 0 true]++J) (id:=3) (s:=4) (es:=GV.encs l) rfl
      (fun e=>hne ((encs_nil l).1 e)) (fun e he=>by rw [GV.encs_map] at he; obtain ⟨v,_,rfl⟩:=List.mem_map.1 he; exact ⟨_,GV.enc_eq v,rfl⟩) (encsV_clo l)
     simp only [GV.encs_length,List.cons_append,List.nil_append] at hc3
     simp [f1,f2,f14,f15,f16,hlt,setRun,hc3]
   ·simp
theorem callFresh (v:GV) (hs:v.size≤10000000000) (bs:Nat) (σ:Heap):callT T 35 [v.enc] bs σ=some (v.enc,σ):=call_clean rfl rfl rfl (by simp) (fresh_ok v.size v (Nat.le_refl _) hs)
open Go.RowKit Go.Mach
def clsO (x:GW) (a:Nat):List AV:=[.str x.name,.sl a 0 x.args.length 4 true,.int .i64 x.stamp]
theorem closeLW_id {c:Heap→AV→Option (AV × Heap)} (hc:∀ σ v,clo1n v=true→c σ v=some (v,σ)):∀ (l:List AV) (σ:Heap),l.all clo1n=true→closeLW c σ l=some (l,σ)
 | [],_,_=>rfl
 | v :: l,σ,h=>by
  simp only [List.all_cons,zqL] at h
  simp only [closeLW,hc σ v h.1,Option.bind_some,closeLW_id hc l σ h.2,Option.map_some]
theorem close0_id (σ:Heap) (v:AV) (h:clo1n v=true):close0 σ v=some (v,σ):=by
 cases v <;> first | rfl | (simp [clo1n,AV.clo1] at h; done) | skip
 rename_i es b
 cases b
 ·rfl
 ·simp [clo1n] at h
theorem closeUp_id {c:Heap→AV→Option (AV × Heap)} (σ:Heap) (v:AV) (h:clo1n v=true):closeUp c σ v=some (v,σ):=by
 have:=close0_id σ v h
 cases v <;> first | exact this | (simp [clo1n,AV.clo1] at h; done)
def Holds (σ:Heap) (a:Nat) (cs:List AV):Prop:=∃ fz e,σ[a]?=some (.cells cs fz e)
theorem Holds.frz {σ:Heap} {a:Nat} {cs:List AV} (h:Holds σ a cs) (id n:Nat):Holds (Mach.frz σ id n) a cs:=by
 obtain ⟨fz,e,h⟩:=h
 unfold Mach.frz
 split
 ·rename_i cs' fz' e' h'
  by_cases hh:id=a
  ·subst hh
   rw [h] at h'; injection h' with h'; injection h' with h1 h2 h3; subst h1 h2 h3
   exact ⟨_,_,get_set h⟩
  ·exact ⟨fz,e,by rw [zqC hh]; exact h⟩
 ·exact ⟨fz,e,h⟩
theorem close_args {c:Heap→AV→Option (AV × Heap)} (hc:∀ σ v,clo1n v=true→c σ v=some (v,σ)) {σ:Heap} {a:Nat} {l:List GV} (hne:l≠[]) (h:Holds σ a (flat (GV.encs l))) :
  closeUp c σ (.sl a 0 l.length 4 true)=some (.isl (GV.encs l) false,Mach.frz σ a (l.length * 4)):=by
 obtain ⟨fz,e,h⟩:=h
 have hf:=flat_len (encsV_len l)
 rw [GV.encs_length] at hf
 have hcl:=encsV_clo l
 simp only [closeUp,h]
 rw [window_full hf,Option.bind_some,closeLW_id hc _ _ hcl,Option.bind_some,if_pos (clo1n_all hcl).1]
 have:=flat_chunk (s:=4) (es:=GV.encs l) (fun e he=>by rw [GV.encs_map] at he; obtain ⟨v,_,rfl⟩:=List.mem_map.1 he; exact ⟨_,GV.enc_eq v,rfl⟩)
 rw [GV.encs_length] at this
 rw [this]; simp
theorem closeLW_rows {c:Heap→AV→Option (AV × Heap)} (hc:∀ σ v,clo1n v=true→c σ v=some (v,σ)):∀ (ps:List (GW × Nat)) (σ:Heap),(∀ p∈ps,p.1.args≠[]∧Holds σ p.2 (flat (GV.encs p.1.args))) →
  ∃ σ',closeLW (closeUp c) σ (ps.flatMap fun p=>clsO p.1 p.2)=some (fW (ps.map (·.1)),σ')
 | [],σ,_=>⟨σ,rfl⟩
 | (x,a) :: ps,σ,h=>by
  have h1:=h (x,a) (by simp)
  obtain ⟨σ',ih⟩:=closeLW_rows hc ps (Mach.frz σ a (x.args.length * 4)) fun p hp=>⟨(h p (by simp [hp])).1,((h p (by simp [hp])).2).frz _ _⟩
  refine ⟨σ',?_⟩
  have e1:=closeUp_id (c:=c) σ (.str x.name) rfl
  have e2:=close_args hc h1.1 h1.2
  have e3:=closeUp_id (c:=c) (Mach.frz σ a (x.args.length * 4)) (.int .i64 x.stamp) rfl
  rw [List.flatMap_cons,List.map_cons,fW_cons]
  rw [show clsO x a=[.str x.name,.sl a 0 x.args.length 4 true,.int .i64 x.stamp] from rfl]
  simp only [List.cons_append,List.nil_append,closeLW,e1,e2,e3,Option.bind_some,ih,Option.map_some]
theorem closeUp_sl (c:Heap→AV→Option (AV × Heap)) {σ:Heap} {id:Nat} (off len sz:Nat) (ag:Bool) {cs:List AV} {fz:Nat} {ext:Bool} (h:σ[id]?=some (.cells cs fz ext)):closeUp c σ (.sl id off len sz ag) =
  (window cs off (len * sz)).bind fun win=>(closeLW c (Mach.frz σ id (off+len * sz)) win).bind fun r=>if r.1.all AV.clo1=true then (chunk sz ag len r.1).map fun es=>(.isl es false,r.2) else none:=by
 simp only [closeUp,h]
theorem close_rows {σ:Heap} {id m:Nat} {ext:Bool} (ps:List (GW × Nat)) (Zs:List AV) (hm:m=ps.length) (hne:ps≠[]) (h:σ[id]?=some (.cells ((ps.flatMap fun p=>clsO p.1 p.2)++Zs) 0 ext)) (hp:∀ p∈ps,p.1.args≠[]∧Holds σ p.2 (flat (GV.encs p.1.args))) :
  ∃ σ',close1 σ (.sl id 0 m 3 true)=some (.isl ((ps.map (·.1)).map GW.enc) false,σ'):=by
 have hl:(ps.flatMap fun p=>clsO p.1 p.2).length=m * 3:=by
  rw [hm]; clear h hp hm hne
  induction ps with
  | nil=>rfl
  | cons p ps ih=>rw [List.flatMap_cons,zqJ,ih]; simp [clsO]; omega
 have h0:m≠0:=fun e=>hne (List.length_eq_zero_iff.1 (by omega))
 have hw:window ((ps.flatMap fun p=>clsO p.1 p.2)++Zs) 0 (m * 3)=some (ps.flatMap fun p=>clsO p.1 p.2):=by
  unfold window; rw [if_pos (by rw [zqJ]; omega),List.drop_zero,List.take_append_of_le_length (by omega),List.take_of_length_le (by omega)]
 have hn:close0 σ (.sl id 0 m 3 true)=none:=by
  simp only [close0,if_neg h0,h,hw,Option.bind_some]
  rw [if_neg]
  intro hh
  obtain ⟨p,ps',rfl⟩:=List.exists_cons_of_ne_nil hne
  simp [clsO,AV.clo1] at hh
 have hp':∀ p∈ps,p.1.args≠[]∧Holds (Mach.frz σ id (0+m * 3)) p.2 (flat (GV.encs p.1.args)):=fun p hh=>⟨(hp p hh).1,(hp p hh).2.frz _ _⟩
 obtain ⟨σ',hr⟩:=closeLW_rows (c:=closeUp (closeUp close0)) (fun σ v h=>closeUp_id σ v h) ps _ hp'
 refine ⟨σ',?_⟩
 unfold close1
 rw [hn]
 have hfl:=fW_flat (ps.map (·.1))
 have hch:=flat_chunk (s:=3) (es:=(ps.map (·.1)).map GW.enc) (fun e he=>by obtain ⟨v,_,rfl⟩:=List.mem_map.1 he; exact ⟨_,rfl,rfl⟩)
 rw [List.length_map,List.length_map,hfl,←hm] at hch
 have hcl:(fW (ps.map (·.1))).all AV.clo1=true:=by
  rw [←hfl,zqQ]; intro y hy
  obtain ⟨e,he,hxe⟩:=List.mem_flatMap.1 hy
  obtain ⟨v,_,rfl⟩:=List.mem_map.1 he
  exact zqQ.1 (GW.cls_clo v) y hxe
 show closeUp (closeUp (closeUp (closeUp close0))) σ (.sl id 0 m 3 true)=_
 rw [closeUp_sl _ 0 m 3 true h,hw,Option.bind_some,hr,Option.bind_some]
 rw [if_pos hcl,hch]; rfl
end Go.Proofs.Ytkfiepnkedcmgaa
end
