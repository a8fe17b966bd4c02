import Derived.Test.YtjfgjnlocadpbaaGreatDoorC5
import Derived.Lib.ItoaNum
import Derived.Lib.ItoaLen
import Derived.Test.YtjfgjnlocadpbaaGreatDoorChecked
import Derived.KernelRfl
set_option linter.unusedVariables false
set_option linter.unusedSimpArgs false
set_option linter.unnecessarySimpa false
section
namespace Go.Mach
def bv (l:List UInt8):List AV:=l.map fun b=>.int .u8 (b.toNat:Int)
theorem u8s_bv (s:ByteArray):u8s s=bv s.data.toList:=rfl
@[simp] theorem bv_length (l:List UInt8):(bv l).length=l.length:=by simp [bv]
theorem bv_set (l:List UInt8) (i:Nat) (b:UInt8):(bv l).set i (.int .u8 (b.toNat:Int))=bv (l.set i b):=by simp [bv,List.map_set]
theorem bv_win {l:List UInt8} {i:Nat} (h:i<l.length):window (bv l) i 1=some [.int .u8 (l[i].toNat:Int)]:=by
 unfold window
 rw [if_pos (by simp; omega)]
 congr 1
 apply List.ext_getElem?
 intro j
 rw [List.getElem?_take,List.getElem?_drop]
 cases j with
 | zero=>simp [bv,h]
 | succ j=>simp
theorem bv_all (l:List UInt8):window (bv l) 0 l.length=some (bv l):=by
 unfold window
 rw [if_pos (by simp)]
 rw [List.drop_zero,List.take_of_length_le (by simp)]
theorem chunk_one:∀ l:List AV,chunk 1 false l.length l=some l
 | []=>rfl
 | x :: l=>by simp [chunk_one l]
theorem bytesA_bv (l:List UInt8):bytesA (bv l)=some ⟨l.toArray⟩:=by
 have:(bv l).mapM ofU8=some l:=by
  induction l with
  | nil=>rfl
  | cons b l ih=>
   show (AV.int .u8 (b.toNat:Int) :: bv l).mapM ofU8=some (b :: l)
   rw [List.mapM_cons,ih]
   simp [ofU8]
 unfold bytesA; rw [this]; rfl
theorem elems_bv {σ:Heap} {id:Nat} {l:List UInt8} {fz:Nat} {ext:Bool} {n:Nat} (h:σ[id]?=some (.cells (bv l) fz ext)) (hn:n=l.length):elemsA σ 1 false (.sl id 0 n 1 false)=some (bv l):=by
 subst hn
 simp only [elemsA,h,Nat.mul_one,bv_all,Option.bind_some]
 have:=chunk_one (bv l)
 rwa [bv_length] at this
theorem b2s_bv {σ:Heap} {id:Nat} {l:List UInt8} {fz:Nat} {ext:Bool} {n:Nat} (h:σ[id]?=some (.cells (bv l) fz ext)) (hn:n=l.length):b2sV σ (.sl id 0 n 1 false)=some (.str ⟨l.toArray⟩):=by
 simp [b2sV,isSl,elems_bv h hn,bytesA_bv]
theorem setRun_one (cs:List AV) (i:Nat) (v:AV):setRun cs i [v]=cs.set i v:=rfl
def mp {α:Type} (g:α→α) (l:List α) (i:Nat):List α:=(l.take i).map g++l.drop i
section
variable {α:Type} {g:α→α} {l:List α} {i:Nat}
theorem mp_zero:mp g l 0=l:=by simp [mp]
theorem mp_all:mp g l l.length=l.map g:=by simp [mp]
theorem mp_get (h:i<l.length):(mp g l i)[i]'(by simpa using h)=l[i]:=by
 simp only [mp]
 rw [List.getElem_append_right (by simp; omega)]
 simp [Nat.min_eq_left (Nat.le_of_lt h)]
theorem mp_set (h:i<l.length):(mp g l i).set i (g l[i])=mp g l (i+1):=by
 simp only [mp]
 rw [List.set_append_right _ _ (by simp; omega)]
 have:i - ((l.take i).map g).length=0:=by simp; omega
 rw [this,zqM h,List.set_cons_zero,List.take_add_one,zqF h,List.map_append]
 simp
end
end Go.Mach
namespace Go.Proofs.YtjfgjnlocadpbaaGreatDoor
open Go.Mach
def pickN (c:Int) (n:Nat):Nat:=((if c<0 then -(c+1) else c).toNat) % n
theorem pickN_lt {c:Int} {n:Nat} (h:0<n):pickN c n<n:=Nat.mod_lt _ h
theorem pick_eq (c:Int) (n:Nat) (h:0<n) (h1:-9223372036854775808≤c) (h2:c≤9223372036854775807) :
  ((if c<0 then IntKind.i64.wrap (0 - IntKind.i64.wrap (c+1)) else c).tmod n)=(pickN c n:Int):=by
 by_cases hc:c<0
 ·rw [if_pos hc,wr64 (n:=c+1) (by omega) (by omega),wr64 (by omega) (by omega)]
  simp only [pickN,if_pos hc]
  have:(0 - (c+1):Int)=(((-(c+1)).toNat:Nat):Int):=by omega
  rw [this]; rfl
 ·rw [if_neg hc]
  simp only [pickN,if_neg hc]
  have:c=((c.toNat:Nat):Int):=by omega
  rw [this,Int.toNat_natCast]; rfl
theorem pick1_ok (c n:Int) (h:n≠0):pureT T c86 [.int .i64 c,.int .i64 n]=some (.int .i64 ((if c<0 then IntKind.i64.wrap (0 - IntKind.i64.wrap (c+1)) else c).tmod n)):=by
 apply pure_enter (by simp [c86])
 by_cases hc:c<0
 ·simp [c86,hc,h]
 ·simp [c86,hc,h]
theorem pick1 (c:Int) (n:Nat) (h:0<n) (h1:GV.i64ok c) (bs:Nat) (σ:Heap) :
  callT T 86 [.int .i64 c,.int .i64 (n:Int)] bs σ=some (.int .i64 (pickN c n:Int),σ):=by
 refine call_clean rfl rfl rfl rfl ?_
 rw [pick1_ok c n (by omega),pick_eq c n h h1.1 h1.2]
theorem pick4 (c:Int) (h1:GV.i64ok c) (bs:Nat) (σ:Heap):callT T 86 [.int .i64 c,.int .i64 4] bs σ=some (.int .i64 (pickN c 4:Int),σ):=pick1 c 4 (by omega) h1 bs σ
theorem pickM (c:Int) (h1:GV.i64ok c) (bs:Nat) (σ:Heap):callT T 86 [.int .i64 c,.int .i64 4294967295] bs σ=some (.int .i64 (pickN c 4294967295:Int),σ):=pick1 c 4294967295 (by omega) h1 bs σ
def nameC (b:UInt8):UInt8:=if b.toNat % 37<26 then UInt8.ofNat (97+b.toNat % 37) else if b.toNat % 37<36 then UInt8.ofNat (22+b.toNat % 37) else 95
def nameFit (s:ByteArray):ByteArray:=⟨(110 :: (s.data.toList.take 15).map nameC).toArray⟩
theorem tm (n m:Nat):((n:Int)).tmod (m:Int)=((n % m:Nat):Int):=rfl
theorem u8of {n:Nat} (h:n<256):((UInt8.ofNat n).toNat:Int)=(n:Int):=by rw [UInt8.toNat_ofNat',Nat.mod_eq_of_lt h]
theorem lawName_ok (s:ByteArray) (hs:s.size≤100000000000):pureT T c52 [.str s]=some (.str (nameFit s)):=by
 apply pure_enter (by simp [c52])
 obtain ⟨m,hm,hmin⟩:∃ m:Nat,m=min s.size 15∧(if (15:Int)<(s.size:Int) then (15:Int) else (s.size:Int))=(m:Int):=⟨_,rfl,by split <;> omega⟩
 generalize hl:s.data.toList.take m=l
 have hll:l.length=m:=by rw [←hl]; simp; omega
 have hcat:u8s (⟨#[110]⟩++s.extract 0 m)=bv (110 :: l):=by
  rw [u8s_bv]; congr 1; rw [←hl]; simp [ByteArray.data_append,ByteArray.data_extract]
 have hsz:(⟨#[110]⟩++s.extract 0 m:ByteArray).size=m+1:=by
  have:=congrArg List.length hcat
  rw [u8s_len] at this; rw [this]; simp [hll]
 have hle:m≤s.size:=by omega
 have hadd:(1:Int)+(m:Int)≤9223372036854775807:=by omega
 have hone:(⟨#[110]⟩:ByteArray).size=1:=rfl
 have hfit:nameFit s=⟨(110 :: l.map nameC).toArray⟩:=by
  simp only [nameFit]
  rw [←hl,hm]
  congr 3
  rcases Nat.lt_or_ge s.size 15 with h | h
  ·rw [List.take_of_length_le (by simp; omega),List.take_of_length_le (by simp; omega)]
  ·rw [Nat.min_eq_right h]
 simp [c52,hmin,hcat,hle,hadd,hsz,hone]
 subst hll
 refine W_for T 0 44 l.length (fun i f σ=>f 3=.sl 0 0 (l.length+1) 1 false∧f 4=.int .i64 ((i:Int)+1)∧σ=[.cells (bv (110 :: mp nameC l i)) 0 true]) ?_ _ _ ?_
 ·rintro i f σ hi ⟨h3,h4,rfl⟩
  by_cases hlt:i<l.length
  ·have hw:IntKind.i64.wrap ((i:Int)+1+1)=(i:Int)+1+1:=wr64 (by omega) (by omega)
   have hc2:(0:Int)≤(i:Int)+1:=by omega
   have hc3:((i:Int)+1).toNat=i+1:=by omega
   have hc4:i+1≤l.length:=hlt
   have hwin:=bv_win (l:=110 :: mp nameC l i) (i:=i+1) (by simp; omega)
   simp [mp_get hlt] at hwin
   have htm:((l[i].toNat:Int)).tmod 37=((l[i].toNat % 37:Nat):Int):=rfl
   have hfin:∀ v:Int,v=((nameC l[i]).toNat:Int)→(bv (110 :: mp nameC l i)).set (i+1) (.int .u8 v)=bv (110 :: mp nameC l (i+1)):=by
    rintro _ rfl; rw [bv_set,List.set_cons_succ,mp_set hlt]
   generalize hk:l[i].toNat % 37=k at *
   have hk37:k<37:=by omega
   have hn:nameC l[i]=(if k<26 then UInt8.ofNat (97+k) else if k<36 then UInt8.ofNat (22+k) else 95):=by simp only [nameC,hk]
   simp [h3,h4,hc2,hc3,hc4,hw,hlt,hwin,htm,setRun_one]
   refine ⟨fun h=>hfin _ ?_,fun h=>⟨fun h2=>hfin _ ?_,fun h2=>hfin _ ?_⟩⟩
   ·rw [hn,if_pos (by omega),u8of (by omega),wru8 (by omega) (by omega)]; omega
   ·rw [hn,if_neg (by omega),if_pos (by omega),u8of (by omega),wru8 (n:=48+(k:Int)) (by omega) (by omega),wru8 (by omega) (by omega)]; omega
   ·rw [hn,if_neg (by omega),if_neg (by omega)]; rfl
  ·have he:i=l.length:=by omega
   subst he
   have hel:=b2s_bv (σ:=[.cells (bv (110 :: mp nameC l l.length)) 0 true]) (id:=0) (l:=110 :: mp nameC l l.length) rfl (n:=l.length+1) (by simp)
   rw [mp_all] at hel
   simp [h3,h4,mp_all,hel,hfit]
 ·simp [mp_zero]
theorem lawName (s:ByteArray) (hs:s.size≤100000000000) (bs:Nat) (σ:Heap):callT T 52 [.str s] bs σ=some (.str (nameFit s),σ):=call_clean rfl rfl rfl (by simp) (lawName_ok s hs)
def textC (b:UInt8):UInt8:=if 32+b.toNat % 95=34∨32+b.toNat % 95=92 then 32 else UInt8.ofNat (32+b.toNat % 95)
def textFit (s:ByteArray):ByteArray:=⟨((s.data.toList.take 32).map textC).toArray⟩
def fitV:Nat→GV→GV
 | d,v=>
  if pickN v.kind 4=0 then .mk 1 ((pickN v.num 4294967295:Int) - 2147483647) ⟨#[]⟩ []
  else if pickN v.kind 4=1 then .mk 2 0 (textFit v.text) []
  else if pickN v.kind 4=2 then .mk 3 0 (nameFit v.text) []
  else match d with
   | 0=>.mk 4 0 ⟨#[]⟩ []
   | d+1=>.mk 4 0 ⟨#[]⟩ ((v.items.take 16).map fun x=>fitV d (if d=0∧pickN x.kind 4=3 then .mk 0 x.num x.text x.items else x))
theorem fit_text (d:Int) (v:GV) (hv:v.ok) (hs:v.text.size≤100000000000) (hk:pickN v.kind 4=1):pureT T c54 [v.enc,.int .i64 d]=some (GV.mk 2 0 (textFit v.text) []).enc:=by
 apply pure_enter (by simp [c54])
 obtain ⟨k,n,s,items⟩:=v
 simp only [GV.ok] at hv
 replace hk:pickN k 4=1:=hk
 replace hs:s.size≤100000000000:=hs
 have hp:=pick4 k hv.1
 rw [hk] at hp
 obtain ⟨m,hm,hmin⟩:∃ m:Nat,m=min s.size 32∧(if (32:Int)<(s.size:Int) then (32:Int) else (s.size:Int))=(m:Int):=⟨_,rfl,by split <;> omega⟩
 generalize hl:s.data.toList.take m=l
 have hll:l.length=m:=by rw [←hl]; simp; omega
 have hcat:u8s (s.extract 0 m)=bv l:=by
  rw [u8s_bv]; congr 1; rw [←hl]; simp [ByteArray.data_append,ByteArray.data_extract]
 have hle:m≤s.size:=by omega
 have hsz:(s.extract 0 m:ByteArray).size=m:=by rw [ByteArray.size_extract]; omega
 have hfit:textFit s=⟨(l.map textC).toArray⟩:=by
  simp only [textFit]
  rw [←hl,hm]
  congr 3
  rcases Nat.lt_or_ge s.size 32 with h | h
  ·rw [List.take_of_length_le (by simp; omega),List.take_of_length_le (by simp; omega)]
  ·rw [Nat.min_eq_right h]
 simp [c54,GV.enc_eq,GV.kind,GV.num,GV.text,GV.items,hp,hmin,hle,hcat,hsz]
 subst hll
 refine W_for T 0 107 l.length (fun i f σ=>f 4=.ptr 1 0∧f 6=.sl 2 0 l.length 1 false∧f 7=.int .i64 (i:Int)∧∃ A,σ=[A,.cells [.int .i64 0,.int .i64 0,.str ⟨#[]⟩,.isl [] true] 0 false,.cells (bv (mp textC l i)) 0 true]) ?_ _ _ ?_
 ·rintro i f σ hi ⟨h4,h6,h7,A,rfl⟩
  by_cases hlt:i<l.length
  ·have hw:IntKind.i64.wrap ((i:Int)+1)=(i:Int)+1:=wr64 (by omega) (by omega)
   have hc4:i+1≤l.length:=hlt
   have hwin:=bv_win (l:=mp textC l i) (i:=i) (by simp; omega)
   simp [mp_get hlt] at hwin
   have htm:((l[i].toNat:Int)).tmod 95=((l[i].toNat % 95:Nat):Int):=rfl
   generalize hk:l[i].toNat % 95=k at *
   have hk37:k<95:=by omega
   obtain ⟨b,hb,hbn⟩:∃ b:UInt8,b=UInt8.ofNat (32+k)∧b.toNat=32+k:=⟨_,rfl,by rw [UInt8.toNat_ofNat',Nat.mod_eq_of_lt (by omega)]⟩
   have hn:textC l[i]=(if b.toNat=34∨b.toNat=92 then 32 else b):=by simp only [textC,hk,hbn]; rw [hb]
   have hv:IntKind.u8.wrap (32+(k:Int))=(b.toNat:Int):=by rw [wru8 (by omega) (by omega)]; omega
   have hst:(bv (mp textC l i)).set i (.int .u8 (b.toNat:Int))=bv ((mp textC l i).set i b):=bv_set ..
   have hwin2:=bv_win (l:=(mp textC l i).set i b) (i:=i) (by simp; omega)
   rw [List.getElem_set_self] at hwin2
   have hst2:(bv ((mp textC l i).set i b)).set i (.int .u8 32)=bv ((mp textC l i).set i 32):=by
    have:=bv_set ((mp textC l i).set i b) i 32
    rw [List.set_set] at this; exact this
   have e1:b.toNat=34∨b.toNat=92→(mp textC l i).set i 32=mp textC l (i+1):=fun h=>by rw [←mp_set hlt,hn,if_pos h]
   have e2:¬ (b.toNat=34∨b.toNat=92)→(mp textC l i).set i b=mp textC l (i+1):=fun h=>by rw [←mp_set hlt,hn,if_neg h]
   simp [h4,h6,h7,hc4,hw,hlt,hwin,htm,hv,setRun_one,hst,hwin2,hst2]
   refine ⟨fun h=>by rw [e1 (by omega)],fun h=>⟨fun h=>by rw [e1 (by omega)],fun h=>by rw [e2 (by omega)]⟩⟩
  ·have he:i=l.length:=by omega
   subst he
   have hel:=b2s_bv (σ:=[A,.cells [.int .i64 0,.int .i64 0,.str ⟨#[]⟩,.isl [] true] 0 false,.cells (bv (mp textC l l.length)) 0 true]) (id:=2) (l:=mp textC l l.length) rfl (n:=l.length) (by simp)
   rw [mp_all] at hel
   simp [h4,h6,h7,mp_all,hel,hfit,setRun,GV.encs]
 ·simp [mp_zero]
end Go.Proofs.YtjfgjnlocadpbaaGreatDoor
end
section
namespace Go.Proofs.YtjfgjnlocadpbaaGreatDoor
open Go.Mach
theorem enc_mk (k n:Int) (t:ByteArray) (l:List GV):AV.agg [.int .i64 k,.int .i64 n,.str t,.isl (GV.encs l) false]=(GV.mk k n t l).enc:=by simp only [GV.enc]
@[simp] theorem gv_eta (v:GV):GV.mk v.kind v.num v.text v.items=v:=by cases v; rfl
@[simp] theorem encs_snoc (l:List GV) (v:GV):GV.encs l++[v.enc]=GV.encs (l++[v]):=by simp [GV.encs_map]
@[simp] theorem encs_okEl (l:List GV):(GV.encs l).all (okEl 4 true)=true:=by
 rw [zqQ]
 intro x hx
 rw [GV.encs_map] at hx
 obtain ⟨v,_,rfl⟩:=List.mem_map.1 hx
 rw [GV.enc_eq]; rfl
def LstAt (rest:Heap) (off:Nat) (es:List AV) (sz:Nat) (lst:AV):Prop:=
 (es=[]∧lst=.isl [] true)∨(∃ k,lst=.own (k+off) es∧k<rest.length∧rest[k]?=some (.tok es.length sz))
theorem fit_list (d:Nat) (hd:d≤100) (k n:Int) (t:ByteArray) (items:List GV) (hv:(GV.mk k n t items).ok) (hl:items.length≤100000000000) (hk:pickN k 4=3) (g:GV→GV)
  (hg:∀ x∈items,∀ bs σ,callT T 54 [(if d≤1∧pickN x.kind 4=3 then GV.mk 0 x.num x.text x.items else x).enc,.int .i64 ((d:Int) - 1)] bs σ=some ((g x).enc,σ)) :
  pureT T c54 [(GV.mk k n t items).enc,.int .i64 d]=some (GV.mk 4 0 ⟨#[]⟩ ((items.take 16).map g)).enc:=by
 apply pure_enter (by simp [c54])
 simp only [GV.ok] at hv
 have hp:=pick4 k hv.1
 rw [hk] at hp
 simp [c54,hp,setRun]
 refine W_for T 0 107 (min items.length 16) (fun i f σ=>f 1=.int .i64 (d:Int)∧f 2=.ptr 0 0∧f 4=.ptr 1 0∧f 8=.ptr 2 0∧f 9=.int .i64 (i:Int)∧∃ lst rest,
  σ=[.cells [.int .i64 k,.int .i64 n,.str t,.isl (GV.encs items) false] 0 false,.cells [.int .i64 0,.int .i64 0,.str ⟨#[]⟩,.isl [] true] 0 false,.cells [.int .i64 4,.int .i64 0,.str ⟨#[]⟩,lst] 0 false]++rest ∧
  LstAt rest 3 (GV.encs ((items.take i).map g)) 4 lst) ?_ _ _ ?_
 ·rintro i f σ hi ⟨h1,h2,h4,h8,h9,lst,rest,rfl,hlst⟩
  by_cases hlt:i<min items.length 16
  ·have hw:IntKind.i64.wrap ((i:Int)+1)=(i:Int)+1:=wr64 (by omega) (by omega)
   have hwd:IntKind.i64.wrap ((d:Int) - 1)=(d:Int) - 1:=wr64 (by omega) (by omega)
   have hc1:i<items.length:=by omega
   have hc2:(i:Int)<16:=by omega
   have hok:GV.ok items[i]:=(GV.oks_iff items).1 hv.2.2 _ (zqT hc1)
   have hpk:=pick4 items[i].kind (by revert hok; cases items[i]; simp only [GV.ok]; exact fun h=>h.1)
   have hcl:=hg items[i] (zqT hc1)
   have htk:(items.take (i+1)).map g=(items.take i).map g++[g items[i]]:=by rw [List.take_add_one,zqF hc1,List.map_append]; rfl
   have hlen:((items.take i).map g).length=i:=by simp; omega
   generalize (items.take i).map g=done at *
   rw [htk]
   have hdl:done.length≤10000000000:=by omega
   have hown:∀ kk X,kk<rest.length→LstAt (rest.set kk (.tok (done.length+1) 4)++X) 3 (GV.encs (done++[g items[i]])) 4 (.own (kk+3) (GV.encs (done++[g items[i]]))):=fun kk X hk=>.inr ⟨kk,rfl,by simp; omega,by rw [zqA (by simpa using hk)]; simp [hk]⟩
   by_cases hc3:d≤1
   ·have hc4:(d:Int)≤1:=by omega
    by_cases hc6:pickN items[i].kind 4=3
    ·simp only [hc3,hc6,and_self,if_true] at hcl
     rcases hlst with ⟨he,rfl⟩ | ⟨kk,rfl,hkl,hkk⟩
     ·have hd0:done=[]:=(encs_nil _).1 he
      simp [h1,h2,h4,h8,h9,hc1,hc2,hw,hwd,hpk,setRun,enc_mk,hc4,hcl,gv_eta,hc6]
      refine ⟨by omega,_,_,⟨rfl,rfl⟩,.inr ⟨rest.length+2,?_,by simp,by simp [hd0]⟩⟩
      simp [hd0]
     ·simp [h1,h2,h4,h8,h9,hc1,hc2,hw,hwd,hpk,setRun,enc_mk,hc4,hcl,gv_eta,hc6,zqA hkl,hkk,List.set_append_left _ _ hkl,hdl]
      exact ⟨by omega,_,_,⟨rfl,rfl⟩,hown kk _ hkl⟩
    ·have hc5:¬ (d≤1∧pickN items[i].kind 4=3):=by omega
     have hc7:¬ ((pickN items[i].kind 4:Int)=3):=by omega
     simp only [if_neg hc5] at hcl
     rcases hlst with ⟨he,rfl⟩ | ⟨kk,rfl,hkl,hkk⟩
     ·have hd0:done=[]:=(encs_nil _).1 he
      simp [h1,h2,h4,h8,h9,hc1,hc2,hw,hwd,hpk,setRun,enc_mk,hc4,hcl,gv_eta,hc7]
      refine ⟨by omega,_,_,⟨rfl,rfl⟩,.inr ⟨rest.length+2,?_,by simp,by simp [hd0]⟩⟩
      simp [hd0]
     ·simp [h1,h2,h4,h8,h9,hc1,hc2,hw,hwd,hpk,setRun,enc_mk,hc4,hcl,gv_eta,hc7,zqA hkl,hkk,List.set_append_left _ _ hkl,hdl]
      exact ⟨by omega,_,_,⟨rfl,rfl⟩,hown kk _ hkl⟩
   ·have hc4:¬ (d:Int)≤1:=by omega
    have hc5:¬ (d≤1∧pickN items[i].kind 4=3):=by omega
    simp only [if_neg hc5] at hcl
    rcases hlst with ⟨he,rfl⟩ | ⟨kk,rfl,hkl,hkk⟩
    ·have hd0:done=[]:=(encs_nil _).1 he
     simp [h1,h2,h4,h8,h9,hc1,hc2,hw,hwd,hpk,setRun,enc_mk,hc4,hcl,gv_eta]
     refine ⟨by omega,_,_,⟨rfl,rfl⟩,.inr ⟨rest.length+2,?_,by simp,by simp [hd0]⟩⟩
     simp [hd0]
    ·simp [h1,h2,h4,h8,h9,hc1,hc2,hw,hwd,hpk,setRun,enc_mk,hc4,hcl,gv_eta,zqA hkl,hkk,List.set_append_left _ _ hkl,hdl]
     exact ⟨by omega,_,_,⟨rfl,rfl⟩,hown kk _ hkl⟩
  ·have he:i=min items.length 16:=by omega
   have htake:items.take i=items.take 16:=by
    rw [he]
    rcases Nat.lt_or_ge items.length 16 with h | h
    ·rw [List.take_of_length_le (by omega),List.take_of_length_le (by omega)]
    ·rw [Nat.min_eq_right h]
   rw [htake] at hlst
   have hb:¬ i<items.length∨(i<items.length∧¬ (i:Int)<16):=by omega
   rcases hb with hb | ⟨hb,hb2⟩
   ·rcases hlst with ⟨he2,rfl⟩ | ⟨kk,rfl,hkl,hkk⟩
    ·simp [h1,h2,h4,h8,h9,setRun,hb,GV.enc,←List.map_take,he2]
    ·simp [h1,h2,h4,h8,h9,setRun,hb,GV.enc,←List.map_take]
   ·rcases hlst with ⟨he2,rfl⟩ | ⟨kk,rfl,hkl,hkk⟩
    ·simp [h1,h2,h4,h8,h9,setRun,hb,hb2,GV.enc,←List.map_take,he2]
    ·simp [h1,h2,h4,h8,h9,setRun,hb,hb2,GV.enc,←List.map_take]
 ·exact ⟨by simp,by simp,by simp,by simp,by simp,_,[],by simp,.inl ⟨by simp,rfl⟩⟩
theorem text_le (v:GV):v.text.size≤v.size:=by obtain ⟨k,n,t,l⟩:=v; show t.size≤_; simp only [GV.size]; omega
theorem fit_other (d:Int) (v:GV) (hv:v.ok) (hs:v.size≤100000000000) (hk:pickN v.kind 4≠3) (dd:Nat):pureT T c54 [v.enc,.int .i64 d]=some (fitV dd v).enc:=by
 have hlt:=pickN_lt (c:=v.kind) (n:=4) (by omega)
 have hts:v.text.size≤100000000000:=Nat.le_trans (text_le v) hs
 have hkk:GV.i64ok v.kind∧GV.i64ok v.num:=by revert hv; cases v; simp only [GV.ok]; exact fun h=>⟨h.1,h.2.1⟩
 have hp:=pick4 v.kind hkk.1
 have hpm:=pickM v.num hkk.2
 have hn:=lawName v.text hts
 have hm:=pickN_lt (c:=v.num) (n:=4294967295) (by omega)
 have hw:IntKind.i64.wrap ((pickN v.num 4294967295:Int) - 2147483647)=(pickN v.num 4294967295:Int) - 2147483647:=wr64 (by omega) (by omega)
 have hcase:pickN v.kind 4=0∨pickN v.kind 4=1∨pickN v.kind 4=2:=by omega
 rcases hcase with h | h | h
 ·rw [h] at hp
  apply pure_enter (by simp [c54])
  cases dd <;> simp [c54,hp,hpm,hw,setRun,fitV,h,GV.enc]
 ·have:=fit_text d v hv hts h
  rw [this]
  cases dd <;> simp [fitV,h]
 ·rw [h] at hp
  apply pure_enter (by simp [c54])
  cases dd <;> simp [c54,hp,hn,setRun,fitV,h,GV.enc]
theorem fit_ok:∀ (d:Nat) (v:GV),d≤100→v.ok→v.size≤100000000000→(d=0→pickN v.kind 4≠3)→pureT T c54 [v.enc,.int .i64 d]=some (fitV d v).enc:=by
 intro d
 induction d with
 | zero=>intro v hd hv hs h0; exact fit_other _ v hv hs (h0 rfl) 0
 | succ d ih=>
  intro v hd hv hs _
  by_cases hk:pickN v.kind 4=3
  ·obtain ⟨k,n,t,items⟩:=v
   have hk':pickN k 4=3:=hk
   have hv':=hv
   simp only [GV.ok] at hv'
   have hs':=hs
   simp only [GV.size] at hs'
   have hl:=len_sizes items
   rw [fit_list (d+1) hd k n t items hv (by omega) hk' (fun x=>fitV d (if d=0∧pickN x.kind 4=3 then .mk 0 x.num x.text x.items else x)) (fun x hx bs σ=>?_)]
   ·simp only [fitV]
    rw [if_neg (by show ¬ pickN k 4=0; omega),if_neg (by show ¬ pickN k 4=1; omega),if_neg (by show ¬ pickN k 4=2; omega)]
   ·have hxo:x.ok:=(GV.oks_iff items).1 hv'.2.2 x hx
    have hxs:=(sizes_mem hx).1
    have e:(((d+1:Nat):Int) - 1)=(d:Int):=by omega
    rw [e]
    have hcond:(d+1≤1∧pickN x.kind 4=3)↔(d=0∧pickN x.kind 4=3):=by omega
    simp only [hcond]
    refine call_clean rfl rfl rfl (by simp) (ih _ (by omega) ?_ ?_ ?_)
    ·split
     ·revert hxo; cases x; simp only [GV.ok]; exact fun h=>⟨by simp [GV.i64ok],h.2.1,h.2.2⟩
     ·exact hxo
    ·split
     ·have:(GV.mk 0 x.num x.text x.items).size=x.size:=by cases x; simp only [GV.size]
      omega
     ·omega
    ·intro h0
     split
     ·show pickN 0 4≠3; decide
     ·rename_i hc; intro h3; exact hc ⟨h0,h3⟩
  ·exact fit_other _ v hv hs hk (d+1)
def fit (v:GV):GV:=fitV 4 v
theorem Fit_ok (v:GV) (hv:v.ok) (hs:v.size≤100000000000):pureT T c32 [v.enc]=some (fit v).enc:=by
 have hr:∀ bs σ,callT T 54 [v.enc,.int .i64 4] bs σ=some ((fit v).enc,σ):=fun bs σ=>call_clean rfl rfl rfl (by simp) (fit_ok 4 v (by omega) hv hs (by omega))
 apply pure_enter (by simp [c32])
 simp [c32,hr,setRun,enc_mk]
theorem callFit (v:GV) (hv:v.ok) (hs:v.size≤100000000000) (bs:Nat) (σ:Heap):callT T 32 [v.enc] bs σ=some ((fit v).enc,σ):=call_clean rfl rfl rfl (by simp) (Fit_ok v hv hs)
mutual
def sameV:GV→GV→Bool
 | .mk k n t l,b=>decide (k=b.kind) && decide (n=b.num) && decide (t=b.text) && sameVs l b.items
def sameVs:List GV→List GV→Bool
 | [],[]=>true
 | x :: xs,y :: ys=>sameV x y && sameVs xs ys
 | _,_=>false
end
mutual
theorem sameV_iff:∀ a b:GV,sameV a b=true↔a=b
 | .mk k n t l,.mk k2 n2 t2 l2=>by
  have:=sameVs_iff l l2
  simp [sameV,this,and_assoc]
theorem sameVs_iff:∀ a b:List GV,sameVs a b=true↔a=b
 | [],[]=>by simp [sameVs]
 | [],_ :: _=>by simp [sameVs]
 | _ :: _,[]=>by simp [sameVs]
 | x :: xs,y :: ys=>by
  have h1:=sameV_iff x y
  have h2:=sameVs_iff xs ys
  simp [sameVs,h1,h2]
end
instance:DecidableEq GV:=fun a b=>decidable_of_iff _ (sameV_iff a b)
end Go.Proofs.YtjfgjnlocadpbaaGreatDoor
end
section
namespace Go.Proofs.YtjfgjnlocadpbaaGreatDoor
open Go.Mach
theorem ba_list (t:ByteArray) (l:List UInt8) (h:t=⟨l.toArray⟩):t.data.toList=l∧t.size=l.length:=by
 subst h; exact ⟨rfl,by show l.toArray.size=_; rw [List.size_toArray]⟩
theorem nameC_inner (b:UInt8):innerB (nameC b).toNat=true:=by
 have hb:=b.toNat_lt
 generalize hk:b.toNat % 37=k
 have hk37:k<37:=by omega
 simp only [nameC,hk]
 split
 ·rw [UInt8.toNat_ofNat',Nat.mod_eq_of_lt (by omega)]; simp [innerB,letterB]; omega
 ·split
  ·rw [UInt8.toNat_ofNat',Nat.mod_eq_of_lt (by omega)]; simp [innerB,letterB]; omega
  ·decide
theorem nameFit_list (s:ByteArray):(nameFit s).data.toList=110 :: (s.data.toList.take 15).map nameC∧(nameFit s).size=(110 :: (s.data.toList.take 15).map nameC:List UInt8).length:=ba_list _ _ rfl
theorem nameFit_ok (s:ByteArray):nameOK (nameFit s)=true:=by
 obtain ⟨h1,h2⟩:=nameFit_list s
 simp only [nameOK,h1,h2,nameL,zqL,decide_eq_true_eq,zqQ,zqU,List.length_map,List.length_take]
 refine ⟨⟨by decide,fun c hc=>?_⟩,by omega⟩
 obtain ⟨b,_,rfl⟩:=List.mem_map.1 hc
 exact nameC_inner b
theorem nameFit_size (s:ByteArray):1≤(nameFit s).size∧(nameFit s).size≤16:=by
 rw [(nameFit_list s).2]
 simp only [zqU,List.length_map,List.length_take]
 omega
theorem textC_plain (b:UInt8):plainB (textC b).toNat=true:=by
 generalize hk:b.toNat % 95=k
 have hk37:k<95:=by omega
 simp only [textC,hk]
 split
 ·decide
 ·rw [UInt8.toNat_ofNat',Nat.mod_eq_of_lt (by omega)]; simp [plainB]; omega
theorem textFit_ok (s:ByteArray):textOK (textFit s)=true:=by
 obtain ⟨h1,h2⟩:=ba_list (textFit s) _ rfl
 simp only [textOK,h1,h2,zqL,decide_eq_true_eq,zqQ,List.length_map,List.length_take]
 refine ⟨fun c hc=>?_,by omega⟩
 obtain ⟨b,_,rfl⟩:=List.mem_map.1 hc
 exact textC_plain b
theorem rb1 (m:Nat) (h:m<4294967295) (lst:Bool):rightB (.mk 1 ((m:Int) - 2147483647) ⟨#[]⟩ []) lst=true:=by
 simp [rightB,GV.kind,GV.num,GV.text,GV.items]; omega
theorem rb2 (t:ByteArray) (h:textOK t=true) (lst:Bool):rightB (.mk 2 0 t []) lst=true:=by
 simp [rightB,GV.kind,GV.num,GV.text,GV.items,h]
theorem rb3 (t:ByteArray) (h:nameOK t=true) (lst:Bool):rightB (.mk 3 0 t []) lst=true:=by
 simp [rightB,GV.kind,GV.num,GV.text,GV.items,h]
theorem rb4 (l:List GV) (lst:Bool) (h:lst=true):rightB (.mk 4 0 ⟨#[]⟩ l) lst=true:=by
 simp [rightB,GV.kind,GV.num,GV.text,GV.items,h]
theorem rb_right (d:Nat) (v:GV) (h:∀ lst,rightB v lst=true):rightV d v=true:=by cases d <;> exact h _
theorem fitV_right:∀ (d:Nat) (v:GV),(d=0→pickN v.kind 4≠3)→rightV d (fitV d v)=true:=by
 intro d
 induction d with
 | zero=>
  intro v h0
  have hlt:=pickN_lt (c:=v.kind) (n:=4) (by omega)
  have hm:=pickN_lt (c:=v.num) (n:=4294967295) (by omega)
  have h3:=h0 rfl
  unfold fitV
  by_cases h0:pickN v.kind 4=0
  ·rw [if_pos h0]; exact rb_right _ _ (rb1 _ hm)
  ·rw [if_neg h0]
   by_cases h1:pickN v.kind 4=1
   ·rw [if_pos h1]; exact rb_right _ _ (rb2 _ (textFit_ok _))
   ·have h2:pickN v.kind 4=2:=by omega
    rw [if_neg h1,if_pos h2]; exact rb_right _ _ (rb3 _ (nameFit_ok _))
 | succ d ih=>
  intro v _
  have hm:=pickN_lt (c:=v.num) (n:=4294967295) (by omega)
  unfold fitV
  by_cases h0:pickN v.kind 4=0
  ·rw [if_pos h0]; exact rb_right _ _ (rb1 _ hm)
  ·rw [if_neg h0]
   by_cases h1:pickN v.kind 4=1
   ·rw [if_pos h1]; exact rb_right _ _ (rb2 _ (textFit_ok _))
   ·rw [if_neg h1]
    by_cases h2:pickN v.kind 4=2
    ·rw [if_pos h2]; exact rb_right _ _ (rb3 _ (nameFit_ok _))
    ·rw [if_neg h2]
     refine rb4 _ _ (decide_eq_true ⟨by simp; omega,?_⟩)
     show ((v.items.take 16).map _).all (rightV d)=true
     rw [zqQ]
     intro x hx
     obtain ⟨y,_,rfl⟩:=List.mem_map.1 hx
     refine ih _ fun h0=>?_
     split
     ·show pickN 0 4≠3; decide
     ·rename_i hc; intro h3; exact hc ⟨h0,h3⟩
theorem fit_right (v:GV):rightT (fit v)=true:=fitV_right 4 v (by omega)
def maxSize:Nat→Nat
 | 0=>42
 | d+1=>42+16 * maxSize d
theorem sizes_le {l:List GV} {m:Nat} (h:∀ x∈l,x.size≤m):GV.sizes l≤l.length * m:=by
 induction l with
 | nil=>simp [GV.sizes]
 | cons x l ih=>
  have h1:=h x (by simp)
  have h2:=ih fun y hy=>h y (by simp [hy])
  simp only [GV.sizes,zqU,Nat.add_mul]; omega
theorem right_size:∀ (d:Nat) (v:GV),rightV d v=true→v.size≤maxSize d:=by
 have base:∀ (v:GV) (lst:Bool),rightB v lst=true→(lst=true→GV.sizes v.items≤16 * 0+GV.sizes v.items)→v.size≤42+(if v.kind=4∧lst=true then GV.sizes v.items else 0):=by
  intro v lst h _
  obtain ⟨k,n,t,l⟩:=v
  simp only [rightB,GV.kind,GV.num,GV.text,GV.items] at h
  simp only [GV.size,GV.kind,GV.items]
  have hnil:l=[]→GV.sizes l=0:=fun e=>by subst e; rfl
  by_cases h1:k=1
  ·rw [if_pos h1,decide_eq_true_eq] at h; have:=hnil h.2.1; have ht:t.size=0:=by rw [h.1]; rfl
   omega
  ·rw [if_neg h1] at h
   by_cases h2:k=2
   ·rw [if_pos h2,decide_eq_true_eq] at h; have:=hnil h.2.1; have:=((textOK_iff t).1 h.2.2).2; omega
   ·rw [if_neg h2] at h
    by_cases h3:k=3
    ·rw [if_pos h3,decide_eq_true_eq] at h; have:=hnil h.2.1; have:=((nameOK_iff t).1 h.2.2).2.2; omega
    ·rw [if_neg h3] at h
     by_cases h4:k=4
     ·rw [if_pos h4,decide_eq_true_eq] at h
      have ht:t.size=0:=by rw [h.2.1]; rfl
      rw [if_pos ⟨h4,h.2.2⟩]; omega
     ·rw [if_neg h4] at h; cases h
 intro d
 induction d with
 | zero=>
  intro v h
  have:=base v false h (fun h=>by cases h)
  simp only [Bool.false_eq_true,and_false,if_false] at this
  simpa [maxSize] using this
 | succ d ih=>
  intro v h
  have hb:=base v _ h (fun _=>by omega)
  simp only [maxSize]
  split at hb
  ·rename_i hc
   have hl:=hc.2
   rw [decide_eq_true_eq] at hl
   have hs:=sizes_le (l:=v.items) (m:=maxSize d) fun x hx=>ih x (zqQ.1 hl.2 x hx)
   have:v.items.length * maxSize d≤16 * maxSize d:=Nat.mul_le_mul_right _ hl.1
   omega
  ·omega
theorem rightT_size {v:GV} (h:rightT v=true):v.size≤2936010:=Nat.le_trans (right_size 4 v h) (by decide)
theorem fit_size (v:GV):(fit v).size≤2936010:=rightT_size (fit_right v)
end Go.Proofs.YtjfgjnlocadpbaaGreatDoor
end
section
namespace Go.Proofs.YtjfgjnlocadpbaaGreatDoor
open Go.Mach
mutual
theorem cmpV_self:∀ v:GV,cmpV v v=0
 | .mk k n t l=>by
  have:=cmpVs_self l
  simp only [cmpV,cmpI_self,cmpB_self,this]
  simp
theorem cmpVs_self:∀ l:List GV,cmpVs l l=0
 | []=>rfl
 | x :: l=>by
  have h1:=cmpV_self x
  have h2:=cmpVs_self l
  simp [cmpVs,h1,h2]
end
mutual
theorem cmpV_range:∀ a b:GV,-1≤cmpV a b∧cmpV a b≤1
 | .mk k n t l,b=>by
  have h1:=cmpI_range k b.kind
  have h2:=cmpI_range n b.num
  have h3:=cmpB_range t.data.toList b.text.data.toList
  have h4:=cmpVs_range l b.items
  simp only [cmpV]
  split
  ·exact h1
  ·split
   ·exact h2
   ·split
    ·exact h3
    ·split
     ·exact h4
     ·omega
theorem cmpVs_range:∀ a b:List GV,-1≤cmpVs a b∧cmpVs a b≤1
 | [],[]=>by simp [cmpVs]
 | [],_ :: _=>by simp [cmpVs]
 | _ :: _,[]=>by simp [cmpVs]
 | x :: a,y :: b=>by
  have h1:=cmpV_range x y
  have h2:=cmpVs_range a b
  simp only [cmpVs]
  split
  ·exact h1
  ·exact h2
end
mutual
theorem cmpV_neg:∀ a b:GV,cmpV b a=-cmpV a b
 | .mk k n t l,.mk k2 n2 t2 l2=>by
  have h1:=cmpI_neg k k2
  have h2:=cmpI_neg n n2
  have h3:=cmpB_neg t.data.toList t2.data.toList
  have h4:=cmpVs_neg l l2
  simp only [cmpV,GV.kind,GV.num,GV.text,GV.items]
  by_cases hk:k=k2
  ·subst hk
   simp only [cmpI_self]
   split
   ·omega
   ·split
    ·exact h2
    ·split
     ·exact h3
     ·split
      ·exact h4
      ·rfl
  ·have hz:cmpI k k2≠0:=by unfold cmpI; grind
   have hz2:cmpI k2 k≠0:=by unfold cmpI; grind
   simp only [hz,hz2,ne_eq,not_false_eq_true,if_true]; exact h1
theorem cmpVs_neg:∀ a b:List GV,cmpVs b a=-cmpVs a b
 | [],[]=>by simp [cmpVs]
 | [],_ :: _=>by simp [cmpVs]
 | _ :: _,[]=>by simp [cmpVs]
 | x :: a,y :: b=>by
  have h1:=cmpV_neg x y
  have h2:=cmpVs_neg a b
  simp only [cmpVs]
  by_cases h:cmpV x y=0
  ·have:cmpV y x=0:=by omega
   simp [h,this,h2]
  ·have:cmpV y x≠0:=by omega
   simp [h,this,h1]
end
mutual
theorem cmpV_tr:∀ a b c:GV,(cmpV a b≤0→cmpV b c≤0→cmpV a c≤0)∧(cmpV a b<0→cmpV b c≤0→cmpV a c<0)∧(cmpV a b≤0→cmpV b c<0→cmpV a c<0)
 | .mk k n t l,.mk k2 n2 t2 l2,.mk k3 n3 t3 l3=>by
  have h1:=cmpI_tr k k2 k3
  have h2:=cmpI_tr n n2 n3
  have h3:=cmpB_tr t.data.toList t2.data.toList t3.data.toList
  have h4:=cmpVs_tr l l2 l3
  simp only [cmpV,GV.kind,GV.num,GV.text,GV.items]
  by_cases hk:k=k2
  ·subst hk
   by_cases hk2:k=k3
   ·subst hk2
    simp only [cmpI_self,ne_eq,not_true_eq_false,if_false]
    split
    ·exact h2
    ·split
     ·exact h3
     ·split
      ·exact h4
      ·simp
   ·have hz:cmpI k k3≠0:=by unfold cmpI; grind
    simp only [cmpI_self,ne_eq,not_true_eq_false,if_false,hz,not_false_eq_true,if_true]
    grind
  ·have hz:cmpI k k2≠0:=by unfold cmpI; grind
   by_cases hk2:k2=k3
   ·subst hk2
    simp only [cmpI_self,ne_eq,not_true_eq_false,if_false,hz,not_false_eq_true,if_true]
    grind
   ·have hz2:cmpI k2 k3≠0:=by unfold cmpI; grind
    simp only [ne_eq,hz,hz2,not_false_eq_true,if_true]
    by_cases hz3:cmpI k k3=0
    ·have e:k=k3:=by revert hz3; unfold cmpI; grind
     subst e
     have:=cmpI_neg k k2
     simp only [cmpI_self,not_true_eq_false,if_false]
     grind
    ·simp only [hz3,not_false_eq_true,if_true]; exact h1
theorem cmpVs_tr:∀ a b c:List GV,(cmpVs a b≤0→cmpVs b c≤0→cmpVs a c≤0)∧(cmpVs a b<0→cmpVs b c≤0→cmpVs a c<0)∧(cmpVs a b≤0→cmpVs b c<0→cmpVs a c<0)
 | [],[],[]=>by simp [cmpVs]
 | [],[],_ :: _=>by simp [cmpVs]
 | [],_ :: _,[]=>by simp [cmpVs]
 | [],_ :: _,_ :: _=>by simp [cmpVs]
 | _ :: _,[],[]=>by simp [cmpVs]
 | _ :: _,[],_ :: _=>by simp [cmpVs]
 | _ :: _,_ :: _,[]=>by simp [cmpVs]
 | x :: a,y :: b,z :: c=>by
  have h1:=cmpV_tr x y z
  have h1':=cmpV_tr z y x
  have n1:=cmpV_neg x y
  have n2:=cmpV_neg y z
  have n3:=cmpV_neg x z
  have h2:=cmpVs_tr a b c
  simp only [cmpVs]
  rw [n1,n2,n3] at h1'
  generalize cmpV x y=p at *
  generalize cmpV y z=q at *
  generalize cmpV x z=r at *
  generalize cmpVs a b=p' at *
  generalize cmpVs b c=q' at *
  generalize cmpVs a c=r' at *
  grind
end
end Go.Proofs.YtjfgjnlocadpbaaGreatDoor
end
section
namespace Go.Proofs.YtjfgjnlocadpbaaGreatDoor
open Go.Mach
theorem bytes_ext {s t:ByteArray} (h:s.data.toList=t.data.toList):s=t:=by
 cases s; cases t; simp only [ByteArray.mk.injEq]; exact Array.toList_inj.1 h
theorem rightB_spec {v:GV} {b:Bool} (h:rightB v b=true):(v.kind=1∧v.text=⟨#[]⟩∧v.items=[])∨((v.kind=2∨v.kind=3)∧v.num=0∧v.items=[])∨(v.kind=4∧v.num=0∧v.text=⟨#[]⟩∧b=true):=by
 obtain ⟨k,n,t,l⟩:=v
 simp only [rightB,GV.kind,GV.num,GV.text,GV.items] at h ⊢
 split at h
 ·have:=of_decide_eq_true h; exact .inl ⟨by assumption,this.1,this.2.1⟩
 ·split at h
  ·have:=of_decide_eq_true h; exact .inr (.inl ⟨.inl (by assumption),this.1,this.2.1⟩)
  ·split at h
   ·have:=of_decide_eq_true h; exact .inr (.inl ⟨.inr (by assumption),this.1,this.2.1⟩)
   ·split at h
    ·have:=of_decide_eq_true h; exact .inr (.inr ⟨by assumption,this.1,this.2.1,this.2.2⟩)
    ·cases h
mutual
theorem cmp_eq:∀ (a b:GV) (d e:Nat),rightV d a=true→rightV e b=true→cmpV a b=0→a=b
 | .mk k n t l,b,d,e,ha,hb,hc=>by
  obtain ⟨k2,n2,t2,l2⟩:=b
  have hA:∃ q,rightB (.mk k n t l) q=true∧(q=true→∃ d',l.all (rightV d')=true):=by
   cases d with
   | zero=>exact ⟨false,ha,by intro h; cases h⟩
   | succ d=>exact ⟨_,ha,fun h=>⟨d,(of_decide_eq_true h).2⟩⟩
  have hB:∃ q,rightB (.mk k2 n2 t2 l2) q=true∧(q=true→∃ d',l2.all (rightV d')=true):=by
   cases e with
   | zero=>exact ⟨false,hb,by intro h; cases h⟩
   | succ d=>exact ⟨_,hb,fun h=>⟨d,(of_decide_eq_true h).2⟩⟩
  obtain ⟨qa,hA1,hA2⟩:=hA
  obtain ⟨qb,hB1,hB2⟩:=hB
  have sa:=rightB_spec hA1
  have sb:=rightB_spec hB1
  simp only [cmpV,GV.kind,GV.num,GV.text,GV.items] at hc sa sb
  by_cases hk:k=k2
  ·subst hk
   rw [if_neg (by simp [cmpI_zero])] at hc
   rcases sa with ⟨h1,h2,h3⟩ | ⟨h1,h2,h3⟩ | ⟨h1,h2,h3,h4⟩
   ·subst h1
    rw [if_pos rfl,cmpI_zero] at hc
    grind
   ·rw [if_neg (by omega),if_pos h1,cmpB_zero] at hc
    have:=bytes_ext hc
    grind
   ·subst h1
    rw [if_neg (by decide),if_neg (by decide),if_pos rfl] at hc
    have s2:n2=0∧t2=⟨#[]⟩∧qb=true:=by grind
    obtain ⟨d',hd⟩:=hA2 h4
    obtain ⟨e',he⟩:=hB2 s2.2.2
    have:=cmps_eq l l2 d' e' hd he hc
    grind
  ·rw [if_pos (by rw [Ne,cmpI_zero]; exact hk)] at hc
   exact absurd (cmpI_zero.1 hc) hk
theorem cmps_eq:∀ (a b:List GV) (d e:Nat),a.all (rightV d)=true→b.all (rightV e)=true→cmpVs a b=0→a=b
 | [],[],d,e,ha,hb,hc=>rfl
 | [],_ :: _,d,e,ha,hb,hc=>by simp [cmpVs] at hc
 | _ :: _,[],d,e,ha,hb,hc=>by simp [cmpVs] at hc
 | x :: a,y :: b,d,e,ha,hb,hc=>by
  simp only [List.all_cons,zqL] at ha hb
  simp only [cmpVs] at hc
  by_cases hz:cmpV x y=0
  ·rw [if_neg (by simp [hz])] at hc
   rw [cmp_eq x y d e ha.1 hb.1 hz,cmps_eq a b d e ha.2 hb.2 hc]
  ·rw [if_pos hz] at hc; exact absurd hc hz
end
theorem right_mono:∀ (d:Nat) (v:GV),rightV d v=true→rightV (d+1) v=true
 | 0,v,h=>by
  have:=rightB_spec h
  obtain ⟨k,n,t,l⟩:=v
  simp only [rightV,GV.items] at h ⊢
  rcases rightB_spec h with ⟨h1,_⟩ | ⟨h1,_⟩ | ⟨h1,_,_,h4⟩
  ·simp only [rightB,h1,if_true] at h ⊢; exact h
  ·rcases h1 with h1 | h1 <;> (simp only [rightB,h1] at h ⊢; simpa using h)
  ·cases h4
 | d+1,v,h=>by
  obtain ⟨k,n,t,l⟩:=v
  simp only [rightV,GV.items] at h ⊢
  have hm:decide (l.length≤16∧l.all (rightV d)=true)=true→decide (l.length≤16∧l.all (rightV (d+1))=true)=true:=fun h=>by
   have h:=of_decide_eq_true h
   refine decide_eq_true ⟨h.1,?_⟩
   rw [zqQ] at h ⊢
   exact fun x hx=>right_mono d x (h.2 x hx)
  rcases rightB_spec h with ⟨h1,_⟩ | ⟨h1,_⟩ | ⟨h1,h2,h3,h4⟩
  ·simp only [rightB,h1,if_true] at h ⊢; exact h
  ·rcases h1 with h1 | h1 <;> (simp only [rightB,h1] at h ⊢; simpa using h)
  ·simp only [GV.kind,GV.num,GV.text] at h1 h2 h3
   subst h1 h2 h3
   exact rb4 _ _ (hm h4)
theorem right_items {d:Nat} {v:GV} (h:rightV (d+1) v=true) (hk:v.kind=4):∀ x∈v.items,rightV d x=true:=by
 have h:rightB v (decide (v.items.length≤16∧v.items.all (rightV d)=true))=true:=h
 rcases rightB_spec h with ⟨h1,_⟩ | ⟨h1,_⟩ | ⟨_,_,_,h4⟩
 ·omega
 ·omega
 ·exact zqQ.1 (of_decide_eq_true h4).2
end Go.Proofs.YtjfgjnlocadpbaaGreatDoor
end
section
namespace Go.Proofs.YtjfgjnlocadpbaaGreatDoor
open Go.Mach
mutual
def pr:GV→List UInt8
 | .mk k n t l=>if k=1 then Lib.itoa n else if k=2 then 34 :: (t.data.toList++[34]) else if k=3 then t.data.toList else if k=4 then 91 :: (prs l++[93]) else []
def prs:List GV→List UInt8
 | []=>[]
 | x :: l=>pr x++prc l
def prc:List GV→List UInt8
 | []=>[]
 | x :: l=>44 :: (pr x++prc l)
end
theorem prc_append (a b:List GV):prc (a++b)=prc a++prc b:=by
 induction a with
 | nil=>simp [prc]
 | cons x a ih=>simp [prc,ih]
theorem prs_snoc {a:List GV} (h:a≠[]) (x:GV):prs (a++[x])=prs a++44 :: pr x:=by
 cases a with
 | nil=>exact absurd rfl h
 | cons y a=>simp [prs,prc_append,prc]
theorem prs_append (a b:List GV):prs (a++b)=prs a++(if a=[] then prs b else prc b):=by
 cases a with
 | nil=>simp [prs]
 | cons y a=>simp [prs,prc_append]
theorem prs_take_le (a:List GV) (i:Nat):(prs (a.take i)).length≤(prs a).length:=by
 have h:=prs_append (a.take i) (a.drop i)
 rw [List.take_append_drop] at h
 rw [h,zqJ]; omega
theorem callWS {σ:Heap} {id t:Nat} {l:List UInt8} {s:ByteArray} (bs:Nat) (h:σ[id]?=some (.bld t 5 l)) (ht:t∈bldTs) (hl:l.length+s.size≤70368744177664) :
  callT T 79 [.ptr id 0,.str s] bs σ=some (.undef,σ.set id (.bld t 5 (l++s.data.toList))):=by
 rw [callT_pr (p:=wsP) _ _ _ rfl _]
 simp only [wsP,h]; rw [if_pos (by simp [ht,hl])]
theorem callWB {σ:Heap} {id t:Nat} {l:List UInt8} {n:Int} (bs:Nat) (h:σ[id]?=some (.bld t 5 l)) (ht:t∈bldTs) (hl:l.length+1≤70368744177664) (h0:0≤n) (h1:n<256) :
  callT T 84 [.ptr id 0,.int .u8 n] bs σ=some (.undef,σ.set id (.bld t 5 (l++[UInt8.ofNat n.toNat]))):=by
 rw [callT_pr (p:=wbP) _ _ _ rfl _]
 simp only [wbP,h]; rw [if_pos (by simp [ht,hl,h0,h1])]
theorem callStr {σ:Heap} {id t:Nat} {l:List UInt8} (bs:Nat) (h:σ[id]?=some (.bld t 5 l)) (hl:l.length≤70368744177664) :
  callT T 75 [.ptr id 0] bs σ=some (.str ⟨l.toArray⟩,σ.set id .dead):=by
 rw [callT_pr (p:=strP) _ _ _ rfl _]
 simp only [strP,h]; rw [if_pos (by simp [hl])]
theorem callItoa {n:Int} (bs:Nat) (σ:Heap) (h:GV.i64ok n):callT T 165 [.int .i64 n] bs σ=some (.str ⟨(Lib.itoa n).toArray⟩,σ):=by
 rw [callT_pr (p:=itoaP) _ _ _ rfl _]
 simp only [itoaP]; rw [if_pos (show _∧_ from h)]
theorem ba_size (l:List UInt8):(ByteArray.mk l.toArray).size=l.length:=rfl
theorem hp_bld {σ τ:Heap} {n id:Nat} {o:AObj} (h:τ.take n=σ.set id o) (hid:id<σ.length) (hn:n=σ.length):τ[id]?=some o:=by
 have h1:(τ.take n)[id]?=some o:=by rw [h]; simp [hid]
 rw [List.getElem?_take,if_pos (by omega)] at h1; exact h1
theorem write_ok:∀ (m:Nat) (v:GV),v.size≤m→m≤100000000000→v.ok→∀ (σ:Heap) (id t:Nat) (l:List UInt8) (bs:Nat),σ[id]?=some (.bld t 5 l)→t∈bldTs→l.length+(pr v).length≤70368744177664 →
  callT T 154 [.ptr id 0,v.enc] bs σ=some (.tup [],σ.set id (.bld t 5 (l++pr v))):=by
 intro m
 induction m with
 | zero=>intro v h; cases v; simp [GV.size] at h
 | succ m ih=>
  intro v hs hm hv σ id t l bs hid ht hl
  obtain ⟨k,n,s,items⟩:=v
  simp only [GV.ok] at hv
  have hidl:id<σ.length:=(zqI.1 hid).1
  have hget:∀ τ:Heap,(σ++τ)[id]?=some (.bld t 5 l):=fun τ=>by rw [zqA hidl]; exact hid
  have hset:∀ (τ:Heap) o,(σ++τ).set id o=σ.set id o++τ:=fun τ o=>List.set_append_left _ _ hidl
  have htk:∀ (τ:Heap) o,(σ.set id o++τ).take σ.length=σ.set id o:=fun τ o=>by rw [List.take_append_of_le_length (by simp),List.take_of_length_le (by simp)]
  have hself:σ.set id (.bld t 5 l)=σ:=by
   apply List.ext_getElem?
   intro j
   by_cases e:id=j
   ·subst e; rw [hid]; simp [hidl]
   ·rw [List.getElem?_set,if_neg e]
  refine heap_enter (af:=c154) (args':=[.ptr id 0,(GV.mk k n s items).enc]) (σ1:=σ) rfl rfl (by simp [c154]) (by simp [c154]) rfl ?_
  by_cases h1:k=1
  ·subst h1
   simp only [pr,if_true] at hl ⊢
   have hi:=callItoa (n:=n) (h:=hv.2.1)
   have hw:=fun bs τ=>callWS (σ:=σ++τ) (s:=⟨(Lib.itoa n).toArray⟩) bs (hget τ) ht (by rw [ba_size]; exact hl)
   simp only [hset] at hw
   simp [c154,baseA,GV.enc_eq,GV.kind,GV.num,GV.text,GV.items,hi,hw,dropA_gc,refLt,res1]
  by_cases h2:k=2
  ·subst h2
   have hp:pr (.mk 2 n s items)=34 :: (s.data.toList++[34]):=by simp [pr]
   rw [hp] at hl ⊢
   have hsz:s.data.toList.length=s.size:=by simp
   simp only [zqU,zqJ,List.length_nil,hsz] at hl
   have hw:=fun bs τ=>callWS (σ:=σ++τ) (s:=(⟨#[34]⟩++s)++⟨#[34]⟩) bs (hget τ) ht (by have:(ByteArray.mk #[34]).size=1:=rfl; simp only [ByteArray.size_append,this]; omega)
   simp only [hset] at hw
   have hq:(ByteArray.mk #[34]).size=1:=rfl
   have hq2:(1:Int)+(s.size:Int)≤9223372036854775807:=by omega
   have hq3:(1:Int)+(s.size:Int)+1≤9223372036854775807:=by omega
   simp [c154,baseA,GV.enc_eq,GV.kind,GV.num,GV.text,GV.items,hw,dropA_gc,refLt,res1,hq,hq2,hq3,ByteArray.size_append]
  by_cases h3:k=3
  ·subst h3
   have hp:pr (.mk 3 n s items)=s.data.toList:=by simp [pr]
   rw [hp] at hl ⊢
   have hsz:s.data.toList.length=s.size:=by simp
   have hw:=fun bs τ=>callWS (σ:=σ++τ) (s:=s) bs (hget τ) ht (by omega)
   simp only [hset] at hw
   simp [c154,baseA,GV.enc_eq,GV.kind,GV.num,GV.text,GV.items,hw,dropA_gc,refLt,res1]
  by_cases h4:k=4
  ·subst h4
   have hp:pr (.mk 4 n s items)=91 :: (prs items++[93]):=by simp [pr]
   rw [hp] at hl ⊢
   simp [c154,baseA,GV.enc_eq,GV.kind,GV.num,GV.text,GV.items]
   refine W_for T _ 55 items.length (fun i f τ=>f 0=.ptr id 0∧f 3=.ptr σ.length 0∧f 32=.isl (GV.encs items) false∧f 33=.int .i64 (items.length:Int)∧f 34=.int .i64 (i:Int) ∧
    τ[σ.length]?=some (.cells [.int .i64 4,.int .i64 n,.str s,.isl (GV.encs items) false] 0 false)∧τ.take σ.length=σ.set id (.bld t 5 (l++(if i=0 then [] else 91 :: prs (items.take i))))) ?_ _ _ ?_
   ·rintro i f τ hi ⟨g0,g3,g32,g33,g34,ge,gt⟩
    have hτl:σ.length<τ.length:=(zqI.1 ge).1
    have hidt:=hp_bld gt hidl rfl
    have hidl2:id<τ.length:=by omega
    by_cases hlt:i<items.length
    ·have htk1:items.take (i+1)=items.take i++[items[i]]:=by rw [List.take_add_one,zqF hlt]; rfl
     have hle:=prs_take_le items (i+1)
     have hx:=(GV.oks_iff items).1 hv.2.2 _ (zqT hlt)
     have hsx:items[i].size≤m:=by have:=(sizes_mem (zqT hlt)).1; simp only [GV.size] at hs; omega
     have hw:IntKind.i64.wrap ((i:Int)+1)=(i:Int)+1:=wr64 (by have:=len_sizes items; simp only [GV.size] at hs; omega) (by have:=len_sizes items; simp only [GV.size] at hs; omega)
     generalize hcur:l++(if i=0 then [] else 91 :: prs (items.take i))=cur at gt hidt
     generalize hch:(if i=0 then (91:UInt8) else 44)=ch
     have hnew:cur++[ch]++pr items[i]=l++91 :: prs (items.take (i+1)):=by
      by_cases h0:i=0
      ·subst h0; simp at hcur hch; subst hcur hch; rw [htk1]; simp [prs,prc]
      ·rw [if_neg h0] at hcur hch; subst hcur hch
       rw [htk1,prs_snoc (fun e=>by have:=congrArg List.length e; simp at this; rcases this with h | h <;> simp_all)]
       simp
     have hlen:cur.length+1+(pr items[i]).length≤70368744177664:=by
      have:=congrArg List.length hnew
      simp only [zqJ,zqU,List.length_nil] at this hl
      omega
     have hwb:∀ r bs,callT T 84 [.ptr id 0,.int .u8 (ch.toNat:Int)] bs (τ++r)=some (.undef,τ.set id (.bld t 5 (cur++[ch]))++r):=fun r bs=>by
      have:=callWB (σ:=τ++r) (n:=(ch.toNat:Int)) bs (by rw [zqA hidl2]; exact hidt) ht (by omega) (by omega) (by have:=UInt8.toNat_lt ch; omega)
      rw [this,List.set_append_left _ _ hidl2]
      have e:UInt8.ofNat (ch.toNat:Int).toNat=ch:=by simp
      rw [e]
     have hwr:∀ r bs,callT T 154 [.ptr id 0,items[i].enc] bs (τ.set id (.bld t 5 (cur++[ch]))++r)=some (.tup [],τ.set id (.bld t 5 (cur++[ch]++pr items[i]))++r):=fun r bs=>by
      have:=ih items[i] hsx (by omega) hx (τ.set id (.bld t 5 (cur++[ch]))++r) id t (cur++[ch]) bs (by rw [zqA (by simpa using hidl2)]; simp [hidl2]) ht (by simp; omega)
      rw [this,List.set_append_left _ _ (by simpa using hidl2),List.set_set]
     rw [hnew] at hwr
     have hmin:(if (1:Int)<(i:Int) then (1:Int) else (i:Int))=if i=0 then 0 else 1:=by split <;> split <;> omega
     have hgot:(τ.set id (.bld t 5 (l++91 :: prs (items.take (i+1))))++[AObj.cells [.int .i64 items[i].kind,.int .i64 items[i].num,.str items[i].text,.isl (GV.encs items[i].items) false] 0 false])[σ.length]?=τ[σ.length]?:=by
      rw [zqA (by simpa using hτl),List.getElem?_set,if_neg (by omega)]
     have hgt2:(τ.set id (.bld t 5 (l++91 :: prs (items.take (i+1))))++[AObj.cells [.int .i64 items[i].kind,.int .i64 items[i].num,.str items[i].text,.isl (GV.encs items[i].items) false] 0 false]).take σ.length=σ.set id (.bld t 5 (l++91 :: prs (items.take (i+1)))):=by
      rw [List.take_append_of_le_length (by simp; omega),List.take_set,gt,List.set_set]
     by_cases h0:i=0
     ·rw [if_pos h0] at hch hmin; subst hch
      have hwb2:∀ r bs,callT T 84 [.ptr id 0,.int .u8 91] bs (τ++r)=some (.undef,τ.set id (.bld t 5 (cur++[91]))++r):=hwb
      have hg:(τ.set id (.bld t 5 (cur++[91]))++[AObj.cells [.int .i64 items[i].kind,.int .i64 items[i].num,.str items[i].text,.isl (GV.encs items[i].items) false] 0 false])[τ.length]?=some (AObj.cells [.int .i64 items[i].kind,.int .i64 items[i].num,.str items[i].text,.isl (GV.encs items[i].items) false] 0 false):=by
       rw [zqB (by simp)]; simp
      simp [g0,g3,g32,g33,g34,hlt,hmin,enc_mk,hwb2,hwr,hw,hg]
      exact ⟨hgot.trans ge,hgt2⟩
     ·rw [if_neg h0] at hch hmin; subst hch
      have hwb2:∀ r bs,callT T 84 [.ptr id 0,.int .u8 44] bs (τ++r)=some (.undef,τ.set id (.bld t 5 (cur++[44]))++r):=hwb
      have hg:(τ.set id (.bld t 5 (cur++[44]))++[AObj.cells [.int .i64 items[i].kind,.int .i64 items[i].num,.str items[i].text,.isl (GV.encs items[i].items) false] 0 false])[τ.length]?=some (AObj.cells [.int .i64 items[i].kind,.int .i64 items[i].num,.str items[i].text,.isl (GV.encs items[i].items) false] 0 false):=by
       rw [zqB (by simp)]; simp
      simp [g0,g3,g32,g33,g34,hlt,hmin,enc_mk,hwb2,hwr,hw,hg]
      exact ⟨hgot.trans ge,hgt2⟩
    ·have he:i=items.length:=by omega
     subst he
     rw [List.take_length] at gt
     by_cases h0:items.length=0
     ·have hnil:items=[]:=List.eq_nil_of_length_eq_zero h0
      subst hnil
      simp at gt
      have hw:=fun bs=>callWS (σ:=τ) (s:=⟨#[91,93]⟩) bs hidt ht (by simp [prs] at hl ⊢; have:(ByteArray.mk #[91,93]).size=2:=rfl; omega)
      simp at hw
      simp [g0,g3,g32,g33,g34,ge,hw,dropA_gc,refLt,res1]
      rw [List.take_set,gt,List.set_set]; simp [prs]
     ·have hw:=fun bs=>callWS (σ:=τ) (s:=⟨#[93]⟩) bs hidt ht (by simp [h0] at hl ⊢; have:(ByteArray.mk #[93]).size=1:=rfl; omega)
      simp [h0] at hw gt
      have hmin:(if (1:Int)<(items.length:Int) then (1:Int) else (items.length:Int))=1:=by split <;> omega
      have hq:(ByteArray.mk #[91,93]).size=2:=rfl
      have hq2:(ByteArray.mk #[91,93]).extract 1 2=⟨#[93]⟩:=rfl
      simp [g0,g3,g32,g33,g34,ge,hw,hmin,hq,hq2,dropA_gc,refLt,res1]
      rw [List.take_set,gt,List.set_set]
   ·simp [hself]
  ·have hp:pr (.mk k n s items)=[]:=by simp [pr,h1,h2,h3,h4]
   rw [hp] at hl ⊢
   simp [c154,baseA,GV.enc_eq,GV.kind,GV.num,GV.text,GV.items,h1,h2,h3,h4,dropA_gc,refLt,res1,hself]
end Go.Proofs.YtjfgjnlocadpbaaGreatDoor
end
section
namespace Go.Proofs.YtjfgjnlocadpbaaGreatDoor
open Go.Mach
def S (l:List UInt8):ByteArray:=⟨l.toArray⟩
theorem S_size (l:List UInt8):(S l).size=l.length:=rfl
theorem S_append (a b:List UInt8):S a++S b=S (a++b):=by
 apply ByteArray.ext; simp [S]
theorem S_data (t:ByteArray):S t.data.toList=t:=by cases t; rfl
theorem S_toList (l:List UInt8):(S l).data.toList=l:=by simp [S]
mutual
theorem pr_len:∀ v:GV,v.ok→(pr v).length+1≤26 * v.size
 | .mk k n t l,hv=>by
  simp only [GV.ok] at hv
  have hl:=prc_len l hv.2.2
  have hpl:(prs l).length≤(prc l).length:=by cases l <;> simp [prs,prc]
  have hi:=Lib.itoa_length_le n hv.2.1.1 hv.2.1.2
  have ht:t.data.toList.length=t.size:=by simp
  simp only [pr,GV.size]
  split
  ·omega
  ·split
   ·simp only [zqU,zqJ,List.length_nil]; omega
   ·split
    ·omega
    ·split
     ·simp only [zqU,zqJ,List.length_nil]; omega
     ·simp; omega
theorem prc_len:∀ l:List GV,GV.oks l→(prc l).length≤26 * GV.sizes l
 | [],_=>by simp [prc]
 | x :: l,h=>by
  simp only [GV.oks] at h
  have h1:=pr_len x h.1
  have h2:=prc_len l h.2
  simp only [prc,GV.sizes,zqU,zqJ]; omega
end
def printV (v:GV):ByteArray:=if rightT v=true then S (pr v) else S []
theorem valPrint_ok (v:GV) (hv:v.ok) (hs:v.size≤1000000000):pureT T c135 [v.enc]=some (.str (printV v)):=by
 have hr:=fun bs σ=>valRight v (by omega) bs σ
 have hlen:=pr_len v hv
 apply pure_enter (by simp [c135])
 have hw:=fun bs (σ:Heap)=>write_ok v.size v (Nat.le_refl _) (by omega) hv (σ++[.bld 122 5 []]) σ.length 122 [] bs (by simp) (by simp [bldTs]) (by simp; omega)
 have hst:=fun bs (σ:Heap)=>callStr (σ:=σ++[.bld 122 5 (pr v)]) (id:=σ.length) (t:=122) (l:=pr v) bs (by simp) (by omega)
 simp at hw hst
 have hw1:=fun bs (a:AObj)=>hw bs [a]
 have hst1:=fun bs (a:AObj)=>hst bs [a]
 simp at hw1 hst1
 cases hq:rightT v
 ·simp [c135,hr,hq,printV,S,←GV.enc_eq]
 ·simp [c135,hr,hq,printV,hw1,hst1,←GV.enc_eq,S]
theorem valPrint (v:GV) (hv:v.ok) (hs:v.size≤1000000000) (bs:Nat) (σ:Heap):callT T 135 [v.enc] bs σ=some (.str (printV v),σ):=call_clean rfl rfl rfl (by simp) (valPrint_ok v hv hs)
theorem digits_nat:∀ (m u:Nat),u≤m→m≤9223372036854775807→pureT T c139 [.int .i64 (u:Int)]=some (.str (S (Lib.decDigits u))):=by
 intro m
 induction m using Nat.strongRecOn with
 | ind m ih=>
  intro u hu hm
  apply pure_enter (by simp [c139])
  have hneg:¬ ((u:Int)<0):=by omega
  have hrem:((u:Int)).tmod 10=(u:Int) % 10:=rfl
  have hquo:((u:Int)).tdiv 10=(u:Int) / 10:=rfl
  have hw1:IntKind.i64.wrap (48+(u:Int) % 10)=48+(u:Int) % 10:=wr64 (by omega) (by omega)
  have hw2:IntKind.u8.wrap (48+(u:Int) % 10)=48+(u:Int) % 10:=wru8 (by omega) (by omega)
  have hw3:IntKind.i64.wrap ((u:Int) / 10)=(u:Int) / 10:=wr64 (by omega) (by omega)
  obtain ⟨c,hc0⟩:∃ c,c=UInt8.ofNat (48+u % 10):=⟨_,rfl⟩
  have hb:b2sV [.cells [.int .u8 (48+(u:Int) % 10)] 0 false] (.sl 0 0 1 1 false)=some (.str (S [c])):=by
   have:=b2s_bv (σ:=[.cells (bv [UInt8.ofNat (48+u % 10)]) 0 false]) (id:=0) (l:=[UInt8.ofNat (48+u % 10)]) (fz:=0) (ext:=false) (n:=1) rfl rfl
   simp only [bv,List.map_cons,List.map_nil,u8of (n:=48+u % 10) (by omega)] at this
   rw [hc0]
   have e:((48+u % 10:Nat):Int)=48+(u:Int) % 10:=by omega
   rw [e] at this
   exact this
  by_cases h10:u<10
  ·have hge:¬ (10≤(u:Int)):=by omega
   have hd:Lib.decDigits u=[c]:=by rw [Lib.decDigits,dif_pos h10,hc0,Nat.mod_eq_of_lt h10]
   rw [hd]
   have hm10:(u:Int) % 10=u:=by omega
   rw [hm10] at hw1 hw2 hb hrem
   simp [c139,hneg,hrem,hw1,hw2,hb,hge]
  ·have hge:(10≤(u:Int)):=by omega
   have hd:Lib.decDigits u=Lib.decDigits (u / 10)++[c]:=by rw [Lib.decDigits,dif_neg h10,hc0]
   have hc:=fun bs σ=>call_clean (bs:=bs) (σ:=σ) (f:=139) rfl rfl rfl (by simp) (ih (u / 10) (by omega) (u / 10) (Nat.le_refl _) (by omega))
   have e:((u / 10:Nat):Int)=(u:Int) / 10:=by omega
   rw [e] at hc
   have hlen:((Lib.decDigits (u / 10)).length:Int)+1≤9223372036854775807:=by
    have h2:=Lib.itoa_length_le ((u / 10:Nat):Int) (by omega) (by omega)
    have h3:Lib.itoa ((u / 10:Nat):Int)=Lib.decDigits (u / 10):=by unfold Lib.itoa; rw [if_neg (by omega),Int.toNat_natCast]
    rw [h3] at h2; omega
   rw [hd]
   simp [c139,hneg,hrem,hquo,hw1,hw2,hw3,hb,hge,hc,S_append,S_size,hlen]
theorem digits_ok (n:Int) (hn:GV.i64ok n) (h:n≠-9223372036854775808):pureT T c139 [.int .i64 n]=some (.str (S (Lib.itoa n))):=by
 simp only [GV.i64ok] at hn
 by_cases h0:n<0
 ·have hc:=fun bs σ=>call_clean (bs:=bs) (σ:=σ) (f:=139) rfl rfl rfl (by simp) (digits_nat n.natAbs n.natAbs (Nat.le_refl _) (by omega))
  have e:(n.natAbs:Int)=-n:=by omega
  rw [e] at hc
  have hi:Lib.itoa n=45 :: Lib.decDigits n.natAbs:=by unfold Lib.itoa; rw [if_pos h0]
  have hw:IntKind.i64.wrap (-n)=-n:=wr64 (by omega) (by omega)
  have h45:(⟨#[45]⟩:ByteArray)=S [45]:=rfl
  have hlen:(1:Int)+((Lib.decDigits n.natAbs).length:Int)≤9223372036854775807:=by
   have h2:=Lib.itoa_length_le n (by omega) (by omega)
   rw [hi] at h2; simp at h2; omega
  apply pure_enter (by simp [c139])
  rw [hi]
  simp [c139,h0,hw,hc,h45,S_append,S_size,hlen]
 ·have:=digits_nat n.toNat n.toNat (Nat.le_refl _) (by omega)
  have e:(n.toNat:Int)=n:=by omega
  rw [e] at this
  rw [this]; unfold Lib.itoa; rw [if_neg h0]
theorem callDigits (n:Int) (hn:GV.i64ok n) (h:n≠-9223372036854775808) (bs:Nat) (σ:Heap):callT T 139 [.int .i64 n] bs σ=some (.str (S (Lib.itoa n)),σ):=call_clean rfl rfl rfl (by simp) (digits_ok n hn h)
theorem right_num0 {d:Nat} {v:GV} (h:rightV d v=true) (hv:v.ok):v.kind=1→v.num≠-9223372036854775808:=fun hk=>by
 have hb:∃ b,rightB v b=true:=by cases d <;> exact ⟨_,h⟩
 obtain ⟨b,hb⟩:=hb
 simp only [rightB,hk,if_true] at hb
 have:=of_decide_eq_true hb; omega
theorem refPrint_ok:∀ (m:Nat) (v:GV),v.size≤m→m≤1000000000→v.ok→pureT T c122 [v.enc]=some (.str (printV v)):=by
 intro m
 induction m with
 | zero=>intro v h; cases v; simp [GV.size] at h
 | succ m ih=>
  intro v hs hm hv
  have hr:=fun bs σ=>refRight v (by omega) bs σ
  apply pure_enter (by simp [c122])
  cases hq:rightT v
  ·simp [c122,hr,hq,printV,S,←GV.enc_eq]
  have hpl:=pr_len v hv
  have hnum:=right_num0 hq hv
  have hp:printV v=S (pr v):=by simp [printV,hq]
  rw [hp]
  obtain ⟨k,n,s,items⟩:=v
  simp only [GV.ok] at hv
  simp only [GV.kind,GV.num] at hnum
  rw [GV.enc_eq] at hr
  simp only [GV.kind,GV.num,GV.text,GV.items] at hr
  by_cases h1:k=1
  ·subst h1
   have hd:=callDigits n hv.2.1 (hnum rfl)
   simp [c122,hr,hq,hd,GV.enc_eq,GV.kind,GV.num,GV.text,GV.items,pr]
  by_cases h2:k=2
  ·subst h2
   have hp:pr (.mk 2 n s items)=34 :: (s.data.toList++[34]):=by simp [pr]
   rw [hp] at hpl ⊢
   have hsz:s.data.toList.length=s.size:=by simp
   simp only [zqU,zqJ,List.length_nil,hsz] at hpl
   have e1:(ByteArray.mk #[34])=S [34]:=rfl
   have e2:s=S s.data.toList:=(S_data s).symm
   generalize hsl:s.data.toList=sl at *
   have hq2:(1:Int)+(sl.length:Int)≤9223372036854775807:=by omega
   have hq3:(1:Int)+(sl.length:Int)+1≤9223372036854775807:=by omega
   have hq3':(sl.length:Int)+1+1≤9223372036854775807:=by omega
   subst e2
   simp [c122,hr,hq,GV.enc_eq,GV.kind,GV.num,GV.text,GV.items,e1,S_append,S_size,hq2,hq3,hq3']
  by_cases h3:k=3
  ·subst h3
   have hp:pr (.mk 3 n s items)=s.data.toList:=by simp [pr]
   rw [hp,S_data]
   simp [c122,hr,hq,GV.enc_eq,GV.kind,GV.num,GV.text,GV.items]
  by_cases h4:k=4
  ·subst h4
   have hp:pr (.mk 4 n s items)=91 :: (prs items++[93]):=by simp [pr]
   rw [hp] at hpl ⊢
   simp only [zqU,zqJ,List.length_nil] at hpl
   have hall:∀ x∈items,rightT x=true:=fun x hx=>right_mono 3 x (right_items (d:=3) hq rfl x hx)
   have e1:(ByteArray.mk #[91])=S [91]:=rfl
   have e2:(ByteArray.mk #[44])=S [44]:=rfl
   have e3:(ByteArray.mk #[93])=S [93]:=rfl
   have hil:=len_sizes items
   simp [c122,hr,hq,GV.enc_eq,GV.kind,GV.num,GV.text,GV.items,e1,e2,e3]
   refine W_for T 0 48 items.length (fun i f τ=>f 1=.ptr 0 0∧f 5=.int .i64 (i:Int)∧τ=[.cells [.int .i64 4,.int .i64 n,.str s,.isl (GV.encs items) false] 0 false]∧f 4=.str (S (91 :: prs (items.take i)))) ?_ _ _ ?_
   ·rintro i f τ hi ⟨g1,g5,rfl,g4⟩
    by_cases hlt:i<items.length
    ·have htk1:items.take (i+1)=items.take i++[items[i]]:=by rw [List.take_add_one,zqF hlt]; rfl
     have hle:=prs_take_le items (i+1)
     have hw:IntKind.i64.wrap ((i:Int)+1)=(i:Int)+1:=wr64 (by simp only [GV.size] at hs; omega) (by simp only [GV.size] at hs; omega)
     have hx:=(GV.oks_iff items).1 hv.2.2 _ (zqT hlt)
     have hsx:items[i].size≤m:=by have:=(sizes_mem (zqT hlt)).1; simp only [GV.size] at hs; omega
     have hc:=fun bs σ=>call_clean (bs:=bs) (σ:=σ) (f:=122) rfl rfl rfl (by simp) (ih items[i] hsx (by omega) hx)
     have hpx:printV items[i]=S (pr items[i]):=by simp [printV,hall _ (zqT hlt)]
     rw [hpx] at hc
     have hgz:GV.sizes items+s.size+5≤m+1:=by simp only [GV.size] at hs; omega
     have hgz2:(GV.mk 4 n s items).size=s.size+GV.sizes items+5:=by simp only [GV.size]
     by_cases h0:i=0
     ·subst h0
      have hq2:(1:Int)+((pr items[0]).length:Int)≤9223372036854775807:=by rw [htk1] at hle; simp [prs,prc] at hle; omega
      have hw0:IntKind.i64.wrap 1=1:=rfl
      simp [g1,g5,g4,hlt,hw0,hc,enc_mk,S_append,S_size,hq2,prs]
      rw [htk1]; simp [prs,prc]
     ·have hps:=prs_snoc (a:=items.take i) (fun e=>by have:=congrArg List.length e; simp at this; rcases this with h | h <;> simp_all) items[i]
      rw [←htk1] at hps
      have hl2:=congrArg List.length hps
      simp only [zqJ,zqU] at hl2
      have hi0:(0:Int)<i:=by omega
      have hq2:((prs (items.take i)).length:Int)+1+1≤9223372036854775807:=by omega
      have hq3:((prs (items.take i)).length:Int)+1+1+((pr items[i]).length:Int)≤9223372036854775807:=by omega
      simp [g1,g5,g4,hlt,hw,hc,enc_mk,S_append,S_size,hq2,hq3,hi0,h0,hps]
    ·have he:i=items.length:=by omega
     subst he
     rw [List.take_length] at g4
     have hgz2:(GV.mk 4 n s items).size=s.size+GV.sizes items+5:=by simp only [GV.size]
     have hq2:((prs items).length:Int)+1+1≤9223372036854775807:=by omega
     simp [g1,g5,g4,S_append,S_size,hq2]
   ·simp [prs]
  ·have hb:=rightB_spec (b:=_) hq
   simp only [GV.kind] at hb
   omega
theorem refPrint (v:GV) (hv:v.ok) (hs:v.size≤1000000000) (bs:Nat) (σ:Heap):callT T 122 [v.enc] bs σ=some (.str (printV v),σ):=call_clean rfl rfl rfl (by simp) (refPrint_ok v.size v (Nat.le_refl _) hs hv)
end Go.Proofs.YtjfgjnlocadpbaaGreatDoor
end
section
namespace Go.Mach
inductive GT where
 | mk (kind:Int) (name:ByteArray) (value:GV) (args:List GT)
 deriving Inhabited
namespace GT
abbrev kind:GT→Int | .mk k _ _ _=>k
abbrev name:GT→ByteArray | .mk _ n _ _=>n
abbrev value:GT→GV | .mk _ _ v _=>v
abbrev args:GT→List GT | .mk _ _ _ l=>l
mutual
def enc:GT→AV
 | .mk k n v l=>.agg [.int .i64 k,.str n,.int .i64 v.kind,.int .i64 v.num,.str v.text,.isl (GV.encs v.items) false,.isl (encs l) false]
def encs:List GT→List AV
 | []=>[]
 | v :: l=>enc v :: encs l
end
theorem encs_map:∀ l:List GT,encs l=l.map enc
 | []=>rfl
 | v :: l=>by simp only [encs,List.map_cons,encs_map l]
@[simp] theorem encs_length (l:List GT):(encs l).length=l.length:=by simp [encs_map]
theorem encs_nil (l:List GT):encs l=[]↔l=[]:=by cases l <;> simp [encs]
@[simp] theorem encs_snoc (l:List GT) (v:GT):encs l++[v.enc]=encs (l++[v]):=by simp [encs_map]
theorem enc_eq (v:GT):v.enc=.agg [.int .i64 v.kind,.str v.name,.int .i64 v.value.kind,.int .i64 v.value.num,.str v.value.text,.isl (GV.encs v.value.items) false,.isl (encs v.args) false]:=by cases v; simp only [enc]
theorem enc_mk (k:Int) (n:ByteArray) (vk vn:Int) (vt:ByteArray) (vl:List GV) (l:List GT) :
  AV.agg [.int .i64 k,.str n,.int .i64 vk,.int .i64 vn,.str vt,.isl (GV.encs vl) false,.isl (encs l) false]=(GT.mk k n (.mk vk vn vt vl) l).enc:=by simp only [enc]
@[simp] theorem enc_cells (v:GT):v.enc.cells=[.int .i64 v.kind,.str v.name,.int .i64 v.value.kind,.int .i64 v.value.num,.str v.value.text,.isl (GV.encs v.value.items) false,.isl (encs v.args) false]:=by rw [enc_eq]; rfl
@[simp] theorem encs_okEl (l:List GT):(encs l).all (okEl 7 true)=true:=by
 rw [zqQ]
 intro x hx
 rw [encs_map] at hx
 obtain ⟨v,_,rfl⟩:=List.mem_map.1 hx
 rw [enc_eq]; rfl
mutual
def ok:GT→Prop
 | .mk k _ v l=>GV.i64ok k∧v.ok∧oks l
def oks:List GT→Prop
 | []=>True
 | v :: l=>ok v∧oks l
end
theorem oks_iff:∀ l:List GT,oks l↔∀ v∈l,ok v
 | []=>by simp [oks]
 | v :: l=>by simp [oks,oks_iff l]
mutual
def size:GT→Nat
 | .mk k n v l=>n.size+v.size+sizes l+3
def sizes:List GT→Nat
 | []=>0
 | v :: l=>size v+sizes l
end
mutual
theorem bulk_enc:∀ v:GT,bulkA v.enc=v.size
 | .mk k n v l=>by
  have h:=bulk_encs l
  have h2:=GV.bulk_enc v
  rw [GV.enc_eq] at h2
  simp only [enc,bulkA,bulkAs,size,h] at h2 ⊢; omega
theorem bulk_encs:∀ l:List GT,bulkAs (encs l)=sizes l
 | []=>by simp [encs,bulkAs,sizes]
 | v :: l=>by
  have h1:=bulk_enc v
  have h2:=bulk_encs l
  simp only [encs,bulkAs,sizes,h1,h2]
end
theorem sizes_mem {l:List GT} {x:GT} (h:x∈l):x.size+5≤GT.sizes l+5∧l.length≤GT.sizes l:=by
 induction l with
 | nil=>cases h
 | cons y l ih=>
  have hy:5≤y.size:=by obtain ⟨k,n,v,l⟩:=y; cases v; simp [GT.size,GV.size]; omega
  rcases List.mem_cons.1 h with rfl | h
  ·refine ⟨by simp [GT.sizes],?_⟩
   have:∀ l:List GT,l.length≤GT.sizes l:=fun l=>by
    induction l with
    | nil=>simp [GT.sizes]
    | cons z l ih=>have:5≤z.size:=(by obtain ⟨k,n,v,l⟩:=z; cases v; simp [GT.size,GV.size]; omega); simp [GT.sizes]; omega
   have:=this l
   simp [GT.sizes]; omega
  ·obtain ⟨h1,h2⟩:=ih h
   simp [GT.sizes]; omega
theorem len_sizes (l:List GT):l.length≤GT.sizes l:=by
 cases l with
 | nil=>simp
 | cons x l=>exact (sizes_mem (List.mem_cons_self (a:=x) (l:=l))).2
theorem name_le (v:GT):v.name.size≤v.size:=by obtain ⟨k,n,t,l⟩:=v; show n.size≤_; simp only [GT.size]; omega
theorem value_le (v:GT):v.value.size≤v.size:=by obtain ⟨k,n,t,l⟩:=v; show t.size≤_; simp only [GT.size]; omega
theorem args_le (v:GT):GT.sizes v.args+3≤v.size:=by obtain ⟨k,n,t,l⟩:=v; show GT.sizes l+3≤_; simp only [GT.size]; omega
end GT
structure GB where
 name:ByteArray
 value:GV
 deriving Inhabited
namespace GB
def enc (b:GB):AV:=.agg [.str b.name,.int .i64 b.value.kind,.int .i64 b.value.num,.str b.value.text,.isl (GV.encs b.value.items) false]
def encs (l:List GB):List AV:=l.map enc
@[simp] theorem encs_length (l:List GB):(encs l).length=l.length:=by simp [encs]
theorem encs_nil (l:List GB):encs l=[]↔l=[]:=by cases l <;> simp [encs]
@[simp] theorem encs_snoc (l:List GB) (v:GB):encs l++[v.enc]=encs (l++[v]):=by simp [encs]
theorem enc_mk (n:ByteArray) (vk vn:Int) (vt:ByteArray) (vl:List GV) :
  AV.agg [.str n,.int .i64 vk,.int .i64 vn,.str vt,.isl (GV.encs vl) false]=(GB.mk n (.mk vk vn vt vl)).enc:=rfl
@[simp] theorem enc_cells (b:GB):b.enc.cells=[.str b.name,.int .i64 b.value.kind,.int .i64 b.value.num,.str b.value.text,.isl (GV.encs b.value.items) false]:=rfl
@[simp] theorem encs_okEl (l:List GB):(encs l).all (okEl 5 true)=true:=by
 rw [zqQ]
 intro x hx
 obtain ⟨v,_,rfl⟩:=List.mem_map.1 hx
 rfl
def size (b:GB):Nat:=b.name.size+b.value.size+1
def ok (b:GB):Prop:=b.value.ok
theorem bulk_enc (b:GB):bulkA b.enc=b.size:=by
 have h2:=GV.bulk_enc b.value
 rw [GV.enc_eq] at h2
 simp only [enc,bulkA,bulkAs,size] at h2 ⊢; omega
end GB
end Go.Mach
end
section
namespace Go.Proofs.YtjfgjnlocadpbaaGreatDoor
open Go.Mach
def stopP (p:UInt8→Bool) (r:List UInt8):Prop:=∀ c,r.head?=some c→p c=false
def digitB (c:UInt8):Bool:=decide (48≤c.toNat∧c.toNat≤57)
def numB (c:UInt8):Bool:=digitB c || decide (c=45)
def nval (l:List UInt8):Nat:=l.foldl (fun a c=>a * 10+(c.toNat - 48)) 0
theorem right_cases {d:Nat} {v:GV} (h:rightV d v=true):(∃ n,v=.mk 1 n ⟨#[]⟩ []∧-2147483647≤n∧n≤2147483647)∨(∃ t,v=.mk 2 0 t []∧textOK t=true)∨(∃ t,v=.mk 3 0 t []∧nameOK t=true)∨(∃ l,v=.mk 4 0 ⟨#[]⟩ l∧0<d∧l.length≤16∧∀ x∈l,rightV (d - 1) x=true):=by
 obtain ⟨k,n,t,l⟩:=v
 have hb:∃ b,rightB (.mk k n t l) b=true∧(b=true→0<d∧l.length≤16∧∀ x∈l,rightV (d - 1) x=true):=by
  cases d with
  | zero=>exact ⟨false,h,fun h=>by cases h⟩
  | succ d=>
   refine ⟨_,h,fun hb=>?_⟩
   have:=of_decide_eq_true hb
   exact ⟨by omega,this.1,fun x hx=>zqQ.1 this.2 x hx⟩
 obtain ⟨b,hb,hbl⟩:=hb
 simp only [rightB,GV.kind,GV.num,GV.text,GV.items] at hb
 split at hb
 ·rename_i hk; subst hk
  obtain ⟨rfl,rfl,h1,h2⟩:=of_decide_eq_true hb
  exact .inl ⟨n,rfl,by omega,by omega⟩
 ·split at hb
  ·rename_i hk; subst hk
   obtain ⟨rfl,rfl,h1⟩:=of_decide_eq_true hb
   exact .inr (.inl ⟨t,rfl,h1⟩)
  ·split at hb
   ·rename_i hk; subst hk
    obtain ⟨rfl,rfl,h1⟩:=of_decide_eq_true hb
    exact .inr (.inr (.inl ⟨t,rfl,h1⟩))
   ·split at hb
    ·rename_i hk; subst hk
     obtain ⟨rfl,rfl,h1⟩:=of_decide_eq_true hb
     exact .inr (.inr (.inr ⟨l,rfl,hbl h1⟩))
    ·cases hb
theorem right_okV:∀ (d:Nat) (v:GV),rightV d v=true→v.ok:=by
 intro d
 induction d with
 | zero=>
  intro v h
  rcases right_cases h with ⟨n,rfl,h1,h2⟩ | ⟨t,rfl,h1⟩ | ⟨t,rfl,h1⟩ | ⟨l,rfl,h1,_⟩
  ·simp only [GV.ok,GV.oks,GV.i64ok,and_true]; omega
  ·simp only [GV.ok,GV.oks,GV.i64ok,and_true]; omega
  ·simp only [GV.ok,GV.oks,GV.i64ok,and_true]; omega
  ·omega
 | succ d ih=>
  intro v h
  rcases right_cases h with ⟨n,rfl,h1,h2⟩ | ⟨t,rfl,h1⟩ | ⟨t,rfl,h1⟩ | ⟨l,rfl,h1,h2,h3⟩
  ·simp only [GV.ok,GV.oks,GV.i64ok,and_true]; omega
  ·simp only [GV.ok,GV.oks,GV.i64ok,and_true]; omega
  ·simp only [GV.ok,GV.oks,GV.i64ok,and_true]; omega
  ·simp only [GV.ok,GV.i64ok,GV.oks_iff]
   exact ⟨by omega,by omega,fun x hx=>ih x (h3 x hx)⟩
def stopV (r:List UInt8):Prop:=∀ c,r.head?=some c→c=44∨c=93
def innC (c:UInt8):Bool:=innerB c.toNat
mutual
theorem pr_split:∀ (a b:GV) (d e:Nat) (r s:List UInt8),rightV d a=true→rightV e b=true→stopV r→stopV s→pr a++r=pr b++s→a=b∧r=s
 | .mk k n t l,b,d,e,r,s,ha,hb,hr,hs,h=>by
  obtain ⟨c1,l1,e1,k1⟩:=pr_head ha
  obtain ⟨c2,l2,e2,k2⟩:=pr_head hb
  have hc:c1=c2:=by rw [e1,e2] at h; simp only [List.cons_append,List.cons.injEq] at h; exact h.1
  subst hc
  have hk:=head_apart k1 k2
  rcases right_cases ha with ⟨n1,ea,_,_⟩ | ⟨t1,ea,ht1⟩ | ⟨t1,ea,ht1⟩ | ⟨l1',ea,hd1,_,hl1⟩ <;> rcases right_cases hb with ⟨n2,eb,_,_⟩ | ⟨t2,eb,ht2⟩ | ⟨t2,eb,ht2⟩ | ⟨l2',eb,hd2,_,hl2⟩ <;> injection ea with ea1 ea2 ea3 ea4 <;> subst ea1 ea2 ea3 ea4 <;> subst eb <;> first
   | (exfalso; simp [GV.kind] at hk; done)
   | skip
  ·simp only [pr,if_true] at h
   obtain ⟨h1,h2⟩:=span_eq numB _ _ _ _ (itoa_num _).1 (itoa_num _).1 (stopV_num hr) (stopV_num hs) h
   exact ⟨by rw [itoa_inj h1],h2⟩
  ·have p1:pr (.mk 2 0 t [])=34 :: (t.data.toList++[34]):=by simp [pr]
   have p2:pr (.mk 2 0 t2 [])=34 :: (t2.data.toList++[34]):=by simp [pr]
   rw [p1,p2] at h
   simp only [List.cons_append,List.cons.injEq,true_and,zqP,List.nil_append] at h
   obtain ⟨h1,h2⟩:=span_eq (fun c=>c != 34) _ _ _ _ (text_list ht1) (text_list ht2) (fun c hc=>by simp at hc; subst hc; rfl) (fun c hc=>by simp at hc; subst hc; rfl) h
   injection h2 with _ h2
   exact ⟨by rw [bytes_ext h1],h2⟩
  ·have p1:pr (.mk 3 0 t [])=t.data.toList:=by simp [pr]
   have p2:pr (.mk 3 0 t2 [])=t2.data.toList:=by simp [pr]
   rw [p1,p2] at h
   obtain ⟨c1,m1,q1,_,i1⟩:=name_list ht1
   obtain ⟨c2,m2,q2,_,i2⟩:=name_list ht2
   obtain ⟨h1,h2⟩:=span_eq innC _ _ _ _ (by rw [q1]; exact i1) (by rw [q2]; exact i2) (stopV_inn hr) (stopV_inn hs) h
   exact ⟨by rw [bytes_ext h1],h2⟩
  ·have p1:pr (.mk 4 0 ⟨#[]⟩ l)=91 :: (prs l++[93]):=by simp [pr]
   have p2:pr (.mk 4 0 ⟨#[]⟩ l2')=91 :: (prs l2'++[93]):=by simp [pr]
   rw [p1,p2] at h
   simp only [List.cons_append,List.cons.injEq,true_and,zqP,List.nil_append] at h
   obtain ⟨h1,h2⟩:=prs_split l l2' (d - 1) (e - 1) r s hl1 hl2 h
   exact ⟨by rw [h1],h2⟩
theorem prs_split:∀ (a b:List GV) (d e:Nat) (r s:List UInt8),(∀ x∈a,rightV d x=true)→(∀ x∈b,rightV e x=true)→prs a++93 :: r=prs b++93 :: s→a=b∧r=s
 | [],[],d,e,r,s,_,_,h=>⟨rfl,by simpa [prs] using h⟩
 | [],y :: b,d,e,r,s,_,hb,h=>by
  exfalso
  obtain ⟨c,l,e1,k1⟩:=pr_head (hb y (by simp))
  simp only [prs,e1,List.nil_append,List.cons_append,List.cons.injEq] at h
  have:=h.1; subst this
  rcases k1 with ⟨_,k⟩ | ⟨_,k⟩ | ⟨_,k⟩ | ⟨_,k⟩ <;> revert k <;> decide
 | x :: a,[],d,e,r,s,ha,_,h=>by
  exfalso
  obtain ⟨c,l,e1,k1⟩:=pr_head (ha x (by simp))
  simp only [prs,e1,List.nil_append,List.cons_append,List.cons.injEq] at h
  have:=h.1; subst this
  rcases k1 with ⟨_,k⟩ | ⟨_,k⟩ | ⟨_,k⟩ | ⟨_,k⟩ <;> revert k <;> decide
 | x :: a,y :: b,d,e,r,s,ha,hb,h=>by
  simp only [prs,zqP] at h
  obtain ⟨rfl,h1⟩:=pr_split x y d e _ _ (ha x (by simp)) (hb y (by simp)) (stop_prc a r) (stop_prc b s) h
  obtain ⟨rfl,h2⟩:=prc_split a b d e r s (fun z hz=>ha z (by simp [hz])) (fun z hz=>hb z (by simp [hz])) h1
  exact ⟨rfl,h2⟩
theorem prc_split:∀ (a b:List GV) (d e:Nat) (r s:List UInt8),(∀ x∈a,rightV d x=true)→(∀ x∈b,rightV e x=true)→prc a++93 :: r=prc b++93 :: s→a=b∧r=s
 | [],[],d,e,r,s,_,_,h=>⟨rfl,by simpa [prc] using h⟩
 | [],y :: b,d,e,r,s,_,hb,h=>by simp [prc] at h
 | x :: a,[],d,e,r,s,ha,_,h=>by simp [prc] at h
 | x :: a,y :: b,d,e,r,s,ha,hb,h=>by
  simp only [prc,List.cons_append,List.cons.injEq,true_and,zqP] at h
  obtain ⟨rfl,h1⟩:=pr_split x y d e _ _ (ha x (by simp)) (hb y (by simp)) (stop_prc a r) (stop_prc b s) h
  obtain ⟨rfl,h2⟩:=prc_split a b d e r s (fun z hz=>ha z (by simp [hz])) (fun z hz=>hb z (by simp [hz])) h1
  exact ⟨rfl,h2⟩
end
end Go.Proofs.YtjfgjnlocadpbaaGreatDoor
end
section
namespace Go.Mach
theorem setRun_take:∀ (vs cs:List AV) (o:Nat),o+vs.length≤cs.length→setRun cs o vs=cs.take o++vs++cs.drop (o+vs.length)
 | [],cs,o,h=>by simp [setRun]
 | v :: vs,cs,o,h=>by
  simp only [zqU] at h
  rw [setRun,setRun_take vs _ _ (by simp; omega)]
  rw [List.take_set,List.take_add_one,List.drop_set]
  have h1:o<cs.length:=by omega
  rw [if_pos (by omega)]
  simp only [zqF h1,Option.toList_some,zqU]
  rw [List.set_append_right _ _ (by simp; omega)]
  simp only [List.length_take,Nat.min_eq_left (Nat.le_of_lt h1),Nat.sub_self,List.set_cons_zero]
  rw [show o+1+vs.length=o+(vs.length+1) by omega]
  simp
theorem flat_cons (x:AV) (es:List AV):flat (x :: es)=x.cells++flat es:=by simp [flat]
theorem flat_len {s:Nat}:∀ {es:List AV},(∀ e∈es,e.cells.length=s)→(flat es).length=es.length * s
 | [],_=>by simp [flat]
 | x :: es,h=>by
  rw [flat_cons,zqJ,flat_len fun e he=>h e (by simp [he]),h x (by simp),zqU,Nat.add_mul]; omega
theorem flat_set {s:Nat} {v:AV} (hv:v.cells.length=s):∀ {es:List AV} {i:Nat} (hi:i<es.length),(∀ e∈es,e.cells.length=s)→setRun (flat es) (i * s) v.cells=flat (es.set i v)
 | x :: es,0,hi,h=>by
  have hx:=h x (by simp)
  rw [setRun_take _ _ _ (by rw [flat_cons]; simp; omega),flat_cons,List.set_cons_zero,flat_cons]
  simp only [Nat.zero_mul,List.take_zero,List.nil_append,Nat.zero_add]
  rw [List.drop_append,List.drop_of_length_le (by omega),hv,hx]; simp
 | x :: es,i+1,hi,h=>by
  have hx:=h x (by simp)
  have hi':i<es.length:=by simpa using hi
  have ih:=flat_set hv hi' (fun e he=>h e (by simp [he]))
  have hl:(flat es).length=es.length * s:=flat_len (fun e he=>h e (List.mem_cons_of_mem _ he))
  have hle:i * s+s≤es.length * s:=by rw [←Nat.succ_mul]; exact Nat.mul_le_mul_right _ hi'
  have hl':(flat es).length=es.length * s:=flat_len fun e he=>h e (by simp [he])
  rw [setRun_take _ _ _ (by omega)] at ih
  rw [setRun_take _ _ _ (by rw [flat_cons,zqJ,hl,Nat.add_mul]; omega),flat_cons,List.set_cons_succ,flat_cons,←ih]
  have e:(i+1) * s=x.cells.length+i * s:=by rw [Nat.add_mul]; omega
  rw [e,List.take_append,List.drop_append]
  simp only [zqP]
  rw [List.take_of_length_le (by omega),List.drop_of_length_le (by omega)]
  simp only [List.nil_append]
  congr 2
  ·rw [Nat.add_sub_cancel_left]
  ·congr 2
   omega
theorem flat_chunk {s:Nat}:∀ {es:List AV},(∀ e∈es,∃ cs,e=.agg cs∧cs.length=s)→chunk s true es.length (flat es)=some es
 | [],_=>rfl
 | x :: es,h=>by
  obtain ⟨cs,rfl,hl⟩:=h x (by simp)
  have ih:=flat_chunk (es:=es) (fun e he=>h e (List.mem_cons_of_mem _ he))
  simp only [zqU,chunk]
  rw [flat_cons]
  show ((mk true ((cs++flat es).take s)).bind _)=_
  rw [List.take_append_of_le_length (by omega),List.take_of_length_le (by omega)]
  show ((chunk s true es.length ((cs++flat es).drop s)).map _)=_
  rw [List.drop_append,List.drop_of_length_le (by omega),hl,Nat.sub_self,List.drop_zero,List.nil_append,ih]; rfl
def clo1n:AV→Bool
 | .isl _ true=>false
 | x=>x.clo1
theorem clo1n_all {l:List AV} (h:l.all clo1n=true):l.all AV.clo1=true∧l.map AV.nrm=l:=by
 induction l with
 | nil=>exact ⟨rfl,rfl⟩
 | cons x l ih=>
  simp only [List.all_cons,zqL] at h
  obtain ⟨h1,h2⟩:=ih h.2
  have hx:x.clo1=true∧x.nrm=x:=by
   have:=h.1
   cases x <;> first | exact ⟨rfl,rfl⟩ | (cases this; done) | skip
   rename_i es c
   cases c
   ·exact ⟨rfl,rfl⟩
   ·cases this
  exact ⟨by simp [h1,hx.1],by simp only [List.map_cons,hx.2,h2]⟩
theorem encsT_len (l:List GT):∀ e∈GT.encs l,e.cells.length=7:=fun e he=>by
 rw [GT.encs_map] at he; obtain ⟨v,_,rfl⟩:=List.mem_map.1 he; simp
theorem close1_flat {σ:Heap} {id s fz:Nat} {ext:Bool} {es:List AV} (h:σ[id]?=some (.cells (flat es) fz ext)) (hne:es≠[]) (ha:∀ e∈es,∃ cs,e=.agg cs∧cs.length=s) (hc:(flat es).all clo1n=true) :
  close1 σ (.sl id 0 es.length s true)=some (.isl es false,frz σ id (es.length * s)):=by
 have hl:∀ e∈es,e.cells.length=s:=fun e he=>by obtain ⟨cs,rfl,hl⟩:=ha e he; exact hl
 have h0:es.length≠0:=fun e=>hne (List.eq_nil_of_length_eq_zero e)
 apply close1_of0
 simp only [close0,if_neg h0,h]
 rw [window_full (flat_len hl),Option.bind_some,if_pos (clo1n_all hc).1,(clo1n_all hc).2,flat_chunk ha]
 simp
end Go.Mach
end
section
namespace Go.Mach
structure IsT (P:Program) (tT tTL tV tL tI tS:TypeId):Prop where
 fs:∃ fs:Array Field,P.underlying tT=some (.struct fs)∧fs.toList.map (·.type)=[tI,tS,tV,tTL]
 list:P.underlying tTL=some (.slice tT)
 val:IsV P tV tL tI tS
structure IsB (P:Program) (tB tBL tV tL tI tS:TypeId):Prop where
 fs:∃ fs:Array Field,P.underlying tB=some (.struct fs)∧fs.toList.map (·.type)=[tS,tV]
 list:P.underlying tBL=some (.slice tB)
 val:IsV P tV tL tI tS
theorem TyA.asTerm {P:Program} {tT tTL tV tL tI tS:TypeId} (hT:IsT P tT tTL tV tL tI tS) {t:TypeId} {x:AV} (h:TyA P t x):(t=tT→∃ v:GT,x=v.enc∧v.ok)∧(t=tTL→∃ l:List GT,x=.isl (GT.encs l) false∧GT.oks l):=by
 have e1:IntKind.i64.min=-9223372036854775808:=by decide
 have e2:IntKind.i64.max=9223372036854775807:=by decide
 obtain ⟨fs0,hf0,hts⟩:=hT.fs
 have hV:=hT.val
 induction h with
 | bool hu b=>exact ⟨fun e=>(by subst e; rw [hf0] at hu; cases hu),fun e=>by subst e; rw [hT.list] at hu; cases hu⟩
 | int hu n hn=>exact ⟨fun e=>(by subst e; rw [hf0] at hu; cases hu),fun e=>by subst e; rw [hT.list] at hu; cases hu⟩
 | str hu s=>exact ⟨fun e=>(by subst e; rw [hf0] at hu; cases hu),fun e=>by subst e; rw [hT.list] at hu; cases hu⟩
 | array hu hl hv=>exact ⟨fun e=>(by subst e; rw [hf0] at hu; cases hu),fun e=>by subst e; rw [hT.list] at hu; cases hu⟩
 | @slice t e es hu hes ih=>
  refine ⟨fun e'=>(by subst e'; rw [hf0] at hu; cases hu),fun e'=>?_⟩
  subst e'; rw [hT.list] at hu; injection hu with hu; injection hu with hu; subst hu
  have:∀ l:List AV,(∀ y∈l,∃ v:GT,y=v.enc∧v.ok)→∃ l':List GT,l=GT.encs l'∧GT.oks l':=by
   intro l
   induction l with
   | nil=>intro _; exact ⟨[],rfl,trivial⟩
   | cons y l ihl=>
    intro h
    obtain ⟨v,rfl,hv⟩:=h y (by simp)
    obtain ⟨l',rfl,hl'⟩:=ihl fun z hz=>h z (by simp [hz])
    exact ⟨v :: l',rfl,hv,hl'⟩
  obtain ⟨l',rfl,hl'⟩:=this es fun y hy=>(ih y hy).1 rfl
  exact ⟨l',rfl,hl'⟩
 | @struct t fs vs hu hl hv ih=>
  refine ⟨fun e'=>?_,fun e'=>by subst e'; rw [hT.list] at hu; cases hu⟩
  subst e'; rw [hf0] at hu; injection hu with hu; injection hu with hu; subst hu
  have hlen:vs.length=4:=by rw [hl,←List.length_map (f:=(·.type)),hts]; rfl
  match vs,hlen with
  | [x0,x1,x2,x3],_=>
   obtain ⟨k,rfl,k1,k2⟩:=(field_ty hts hv (i:=0) rfl rfl).asInt hV.int
   obtain ⟨s,rfl⟩:=(field_ty hts hv (i:=1) rfl rfl).asStr hV.str
   obtain ⟨v,rfl,hvo⟩:=((field_ty hts hv (i:=2) rfl rfl).asValue hV).1 rfl
   have h3:fs0.toList[3]?.map (·.type)=some tTL:=by rw [←List.getElem?_map,hts]; rfl
   obtain ⟨f3,hf3,hft⟩:=zqG.1 h3
   obtain ⟨l,rfl,hok⟩:=(ih 3 f3 x3 hf3 rfl).2 hft
   rw [e1] at k1; rw [e2] at k2
   refine ⟨.mk k s v l,by simp [GT.enc,flat],⟨⟨k1,k2⟩,hvo,hok⟩⟩
def fieldTys (P:Program) (t:TypeId):Option (List TypeId):=match P.underlying t with
 | some (.struct fs)=>some (fs.toList.map (·.type))
 | _=>none
theorem fieldTys_some {P:Program} {t:TypeId} {l:List TypeId} (h:fieldTys P t=some l):∃ fs:Array Field,P.underlying t=some (.struct fs)∧fs.toList.map (·.type)=l:=by
 unfold fieldTys at h
 split at h
 ·rename_i fs hu; injection h with h; exact ⟨fs,hu,h⟩
 ·cases h
end Go.Mach
namespace Go.Proofs.YtjfgjnlocadpbaaGreatDoor
open Go.Mach
theorem tyV:IsV Tryz.prog 43 41 3 9:=⟨fieldTys_some (by kernel_rfl),by kernel_rfl,by kernel_rfl,by kernel_rfl⟩
theorem tyT:IsT Tryz.prog 45 30 43 41 3 9:=⟨fieldTys_some (by kernel_rfl),by kernel_rfl,tyV⟩
end Go.Proofs.YtjfgjnlocadpbaaGreatDoor
end
section
namespace Go.Mach
theorem bulk_mem {es:List AV} {x:AV} (h:x∈es):bulkA x≤bulkAs es:=by
 induction es with
 | nil=>cases h
 | cons y l ih=>
  simp only [bulkAs]
  rcases List.mem_cons.1 h with rfl | h
  ·omega
  ·have:=ih h; omega
theorem bulk_pos (x:AV):1≤bulkA x:=by cases x <;> simp [bulkA]
theorem bulk_len:∀ es:List AV,es.length≤bulkAs es
 | []=>by simp
 | x :: l=>by have:=bulk_len l; have:=bulk_pos x; simp only [bulkAs,zqU]; omega
theorem list_enc {α:Type} (enc:α→AV) (ok:α→Prop):∀ l:List AV,(∀ y∈l,∃ v:α,y=enc v∧ok v)→∃ l':List α,l=l'.map enc∧∀ b∈l',ok b
 | [],_=>⟨[],rfl,by simp⟩
 | y :: l,h=>by
  obtain ⟨v,rfl,hv⟩:=h y (by simp)
  obtain ⟨l',rfl,hl'⟩:=list_enc enc ok l fun z hz=>h z (by simp [hz])
  exact ⟨v :: l',rfl,fun b hb=>by rcases List.mem_cons.1 hb with rfl | hb; exact hv; exact hl' b hb⟩
structure GL where
 kind:Int
 name:ByteArray
 args:List GT
 deriving Inhabited
namespace GL
def enc (x:GL):AV:=.agg [.int .i64 x.kind,.str x.name,.isl (GT.encs x.args) false]
theorem enc_mk (kind':Int) (name':ByteArray) (args':List GT):AV.agg [.int .i64 kind',.str name',.isl (GT.encs args') false]=enc ⟨kind',name',args'⟩:=rfl
theorem enc_eq (x:GL):x.enc=.agg [.int .i64 x.kind,.str x.name,.isl (GT.encs x.args) false]:=rfl
@[simp] theorem enc_cells (x:GL):x.enc.cells=[.int .i64 x.kind,.str x.name,.isl (GT.encs x.args) false]:=rfl
@[simp] theorem encs_okEl (l:List GL):(l.map enc).all (okEl 3 true)=true:=by
 rw [zqQ]; intro x hx
 obtain ⟨v,_,rfl⟩:=List.mem_map.1 hx
 rfl
def ok (x:GL):Prop:=GV.i64ok x.kind∧GT.oks x.args
def size (x:GL):Nat:=bulkA x.enc
theorem name_le (x:GL):x.name.size+1≤x.size:=by simp only [size,enc,bulkA,bulkAs]; omega
theorem args_le (x:GL):GT.sizes x.args+1≤x.size:=by simp only [size,enc,bulkA,bulkAs,GT.bulk_encs]; omega
end GL
structure GU where
 name:ByteArray
 args:List GV
 deriving Inhabited
namespace GU
def enc (x:GU):AV:=.agg [.str x.name,.isl (GV.encs x.args) false]
theorem enc_mk (name':ByteArray) (args':List GV):AV.agg [.str name',.isl (GV.encs args') false]=enc ⟨name',args'⟩:=rfl
theorem enc_eq (x:GU):x.enc=.agg [.str x.name,.isl (GV.encs x.args) false]:=rfl
@[simp] theorem enc_cells (x:GU):x.enc.cells=[.str x.name,.isl (GV.encs x.args) false]:=rfl
@[simp] theorem encs_okEl (l:List GU):(l.map enc).all (okEl 2 true)=true:=by
 rw [zqQ]; intro x hx
 obtain ⟨v,_,rfl⟩:=List.mem_map.1 hx
 rfl
def ok (x:GU):Prop:=GV.oks x.args
def size (x:GU):Nat:=bulkA x.enc
theorem name_le (x:GU):x.name.size+1≤x.size:=by simp only [size,enc,bulkA,bulkAs]; omega
theorem args_le (x:GU):GV.sizes x.args+1≤x.size:=by simp only [size,enc,bulkA,bulkAs,GV.bulk_encs]; omega
end GU
structure GD where
 name:ByteArray
 arity:Int
 deriving Inhabited
namespace GD
def enc (x:GD):AV:=.agg [.str x.name,.int .i64 x.arity]
theorem enc_mk (name':ByteArray) (arity':Int):AV.agg [.str name',.int .i64 arity']=enc ⟨name',arity'⟩:=rfl
theorem enc_eq (x:GD):x.enc=.agg [.str x.name,.int .i64 x.arity]:=rfl
@[simp] theorem enc_cells (x:GD):x.enc.cells=[.str x.name,.int .i64 x.arity]:=rfl
@[simp] theorem encs_okEl (l:List GD):(l.map enc).all (okEl 2 true)=true:=by
 rw [zqQ]; intro x hx
 obtain ⟨v,_,rfl⟩:=List.mem_map.1 hx
 rfl
def ok (x:GD):Prop:=GV.i64ok x.arity
def size (x:GD):Nat:=bulkA x.enc
theorem name_le (x:GD):x.name.size+1≤x.size:=by simp only [size,enc,bulkA,bulkAs]; omega
end GD
structure GR where
 label:ByteArray
 head:ByteArray
 args:List GT
 agg:ByteArray
 pos:Int
 body:List GL
 deriving Inhabited
namespace GR
def enc (x:GR):AV:=.agg [.str x.label,.str x.head,.isl (GT.encs x.args) false,.str x.agg,.int .i64 x.pos,.isl (x.body.map GL.enc) false]
theorem enc_mk (label':ByteArray) (head':ByteArray) (args':List GT) (agg':ByteArray) (pos':Int) (body':List GL):AV.agg [.str label',.str head',.isl (GT.encs args') false,.str agg',.int .i64 pos',.isl (body'.map GL.enc) false]=enc ⟨label',head',args',agg',pos',body'⟩:=rfl
theorem enc_eq (x:GR):x.enc=.agg [.str x.label,.str x.head,.isl (GT.encs x.args) false,.str x.agg,.int .i64 x.pos,.isl (x.body.map GL.enc) false]:=rfl
@[simp] theorem enc_cells (x:GR):x.enc.cells=[.str x.label,.str x.head,.isl (GT.encs x.args) false,.str x.agg,.int .i64 x.pos,.isl (x.body.map GL.enc) false]:=rfl
@[simp] theorem encs_okEl (l:List GR):(l.map enc).all (okEl 6 true)=true:=by
 rw [zqQ]; intro x hx
 obtain ⟨v,_,rfl⟩:=List.mem_map.1 hx
 rfl
def ok (x:GR):Prop:=GT.oks x.args∧GV.i64ok x.pos∧(∀ y∈x.body,y.ok)
def size (x:GR):Nat:=bulkA x.enc
theorem label_le (x:GR):x.label.size+1≤x.size:=by simp only [size,enc,bulkA,bulkAs]; omega
theorem head_le (x:GR):x.head.size+1≤x.size:=by simp only [size,enc,bulkA,bulkAs]; omega
theorem args_le (x:GR):GT.sizes x.args+1≤x.size:=by simp only [size,enc,bulkA,bulkAs,GT.bulk_encs]; omega
theorem agg_le (x:GR):x.agg.size+1≤x.size:=by simp only [size,enc,bulkA,bulkAs]; omega
theorem body_len (x:GR):x.body.length+1≤x.size:=by have:=bulk_len (x.body.map GL.enc); simp only [List.length_map] at this; simp only [size,enc,bulkA,bulkAs]; omega
theorem body_mem (x:GR) {y:GL} (h:y∈x.body):y.size+1≤x.size:=by have:=bulk_mem (List.mem_map.2 ⟨y,h,rfl⟩:y.enc∈x.body.map GL.enc); show bulkA y.enc+1≤_; simp only [size,enc,bulkA,bulkAs]; omega
end GR
structure GP where
 decls:List GD
 facts:List GU
 rules:List GR
 deriving Inhabited
namespace GP
def enc (x:GP):AV:=.agg [.isl (x.decls.map GD.enc) false,.isl (x.facts.map GU.enc) false,.isl (x.rules.map GR.enc) false]
theorem enc_mk (decls':List GD) (facts':List GU) (rules':List GR):AV.agg [.isl (decls'.map GD.enc) false,.isl (facts'.map GU.enc) false,.isl (rules'.map GR.enc) false]=enc ⟨decls',facts',rules'⟩:=rfl
theorem enc_eq (x:GP):x.enc=.agg [.isl (x.decls.map GD.enc) false,.isl (x.facts.map GU.enc) false,.isl (x.rules.map GR.enc) false]:=rfl
@[simp] theorem enc_cells (x:GP):x.enc.cells=[.isl (x.decls.map GD.enc) false,.isl (x.facts.map GU.enc) false,.isl (x.rules.map GR.enc) false]:=rfl
@[simp] theorem encs_okEl (l:List GP):(l.map enc).all (okEl 3 true)=true:=by
 rw [zqQ]; intro x hx
 obtain ⟨v,_,rfl⟩:=List.mem_map.1 hx
 rfl
def ok (x:GP):Prop:=(∀ y∈x.decls,y.ok)∧(∀ y∈x.facts,y.ok)∧(∀ y∈x.rules,y.ok)
def size (x:GP):Nat:=bulkA x.enc
theorem decls_len (x:GP):x.decls.length+1≤x.size:=by have:=bulk_len (x.decls.map GD.enc); simp only [List.length_map] at this; simp only [size,enc,bulkA,bulkAs]; omega
theorem decls_mem (x:GP) {y:GD} (h:y∈x.decls):y.size+1≤x.size:=by have:=bulk_mem (List.mem_map.2 ⟨y,h,rfl⟩:y.enc∈x.decls.map GD.enc); show bulkA y.enc+1≤_; simp only [size,enc,bulkA,bulkAs]; omega
theorem facts_len (x:GP):x.facts.length+1≤x.size:=by have:=bulk_len (x.facts.map GU.enc); simp only [List.length_map] at this; simp only [size,enc,bulkA,bulkAs]; omega
theorem facts_mem (x:GP) {y:GU} (h:y∈x.facts):y.size+1≤x.size:=by have:=bulk_mem (List.mem_map.2 ⟨y,h,rfl⟩:y.enc∈x.facts.map GU.enc); show bulkA y.enc+1≤_; simp only [size,enc,bulkA,bulkAs]; omega
theorem rules_len (x:GP):x.rules.length+1≤x.size:=by have:=bulk_len (x.rules.map GR.enc); simp only [List.length_map] at this; simp only [size,enc,bulkA,bulkAs]; omega
theorem rules_mem (x:GP) {y:GR} (h:y∈x.rules):y.size+1≤x.size:=by have:=bulk_mem (List.mem_map.2 ⟨y,h,rfl⟩:y.enc∈x.rules.map GR.enc); show bulkA y.enc+1≤_; simp only [size,enc,bulkA,bulkAs]; omega
end GP
structure IsGL (P:Program) (tGL tT tTL tV tL tI tS:TypeId):Prop where
 fs:∃ fs:Array Field,P.underlying tGL=some (.struct fs)∧fs.toList.map (·.type)=[tI,tS,tTL]
 term:IsT P tT tTL tV tL tI tS
theorem TyA.asGL {P:Program} {tGL tT tTL tV tL tI tS:TypeId} (hT:IsGL P tGL tT tTL tV tL tI tS) {x:AV} (h:TyA P tGL x):∃ v:GL,x=v.enc∧v.ok:=by
 have e1:IntKind.i64.min=-9223372036854775808:=by decide
 have e2:IntKind.i64.max=9223372036854775807:=by decide
 obtain ⟨fs0,hf0,hts⟩:=hT.fs
 have hTT:=hT.term
 have hV:=hTT.val
 obtain ⟨vs,rfl,hl,hv⟩:=h.asStruct hf0
 have hlen:vs.length=3:=by rw [hl,←List.length_map (f:=(·.type)),hts]; rfl
 match vs,hlen with
 | [x0,x1,x2],_=>
  obtain ⟨y0,rfl,p0,q0⟩:=(field_ty hts hv (i:=0) rfl rfl).asInt hV.int
  rw [e1] at p0; rw [e2] at q0
  obtain ⟨y1,rfl⟩:=(field_ty hts hv (i:=1) rfl rfl).asStr hV.str
  obtain ⟨y2,rfl,o2⟩:=((field_ty hts hv (i:=2) rfl rfl).asTerm hTT).2 rfl
  exact ⟨⟨y0,y1,y2⟩,by simp [GL.enc,flat],⟨⟨p0,q0⟩,o2⟩⟩
structure IsGU (P:Program) (tGU tT tTL tV tL tI tS:TypeId):Prop where
 fs:∃ fs:Array Field,P.underlying tGU=some (.struct fs)∧fs.toList.map (·.type)=[tS,tL]
 term:IsT P tT tTL tV tL tI tS
theorem TyA.asGU {P:Program} {tGU tT tTL tV tL tI tS:TypeId} (hT:IsGU P tGU tT tTL tV tL tI tS) {x:AV} (h:TyA P tGU x):∃ v:GU,x=v.enc∧v.ok:=by
 have e1:IntKind.i64.min=-9223372036854775808:=by decide
 have e2:IntKind.i64.max=9223372036854775807:=by decide
 obtain ⟨fs0,hf0,hts⟩:=hT.fs
 have hTT:=hT.term
 have hV:=hTT.val
 obtain ⟨vs,rfl,hl,hv⟩:=h.asStruct hf0
 have hlen:vs.length=2:=by rw [hl,←List.length_map (f:=(·.type)),hts]; rfl
 match vs,hlen with
 | [x0,x1],_=>
  obtain ⟨y0,rfl⟩:=(field_ty hts hv (i:=0) rfl rfl).asStr hV.str
  obtain ⟨y1,rfl,o1⟩:=((field_ty hts hv (i:=1) rfl rfl).asValue hV).2 rfl
  exact ⟨⟨y0,y1⟩,by simp [GU.enc,flat],o1⟩
structure IsGD (P:Program) (tGD tT tTL tV tL tI tS:TypeId):Prop where
 fs:∃ fs:Array Field,P.underlying tGD=some (.struct fs)∧fs.toList.map (·.type)=[tS,tI]
 term:IsT P tT tTL tV tL tI tS
theorem TyA.asGD {P:Program} {tGD tT tTL tV tL tI tS:TypeId} (hT:IsGD P tGD tT tTL tV tL tI tS) {x:AV} (h:TyA P tGD x):∃ v:GD,x=v.enc∧v.ok:=by
 have e1:IntKind.i64.min=-9223372036854775808:=by decide
 have e2:IntKind.i64.max=9223372036854775807:=by decide
 obtain ⟨fs0,hf0,hts⟩:=hT.fs
 have hTT:=hT.term
 have hV:=hTT.val
 obtain ⟨vs,rfl,hl,hv⟩:=h.asStruct hf0
 have hlen:vs.length=2:=by rw [hl,←List.length_map (f:=(·.type)),hts]; rfl
 match vs,hlen with
 | [x0,x1],_=>
  obtain ⟨y0,rfl⟩:=(field_ty hts hv (i:=0) rfl rfl).asStr hV.str
  obtain ⟨y1,rfl,p1,q1⟩:=(field_ty hts hv (i:=1) rfl rfl).asInt hV.int
  rw [e1] at p1; rw [e2] at q1
  exact ⟨⟨y0,y1⟩,by simp [GD.enc,flat],⟨p1,q1⟩⟩
structure IsGR (P:Program) (tGR tGLL tGL tT tTL tV tL tI tS:TypeId):Prop where
 fs:∃ fs:Array Field,P.underlying tGR=some (.struct fs)∧fs.toList.map (·.type)=[tS,tS,tTL,tS,tI,tGLL]
 term:IsT P tT tTL tV tL tI tS
 bodyL:P.underlying tGLL=some (.slice tGL)
 bodyI:IsGL P tGL tT tTL tV tL tI tS
theorem TyA.asGR {P:Program} {tGR tGLL tGL tT tTL tV tL tI tS:TypeId} (hT:IsGR P tGR tGLL tGL tT tTL tV tL tI tS) {x:AV} (h:TyA P tGR x):∃ v:GR,x=v.enc∧v.ok:=by
 have e1:IntKind.i64.min=-9223372036854775808:=by decide
 have e2:IntKind.i64.max=9223372036854775807:=by decide
 obtain ⟨fs0,hf0,hts⟩:=hT.fs
 have hTT:=hT.term
 have hV:=hTT.val
 obtain ⟨vs,rfl,hl,hv⟩:=h.asStruct hf0
 have hlen:vs.length=6:=by rw [hl,←List.length_map (f:=(·.type)),hts]; rfl
 match vs,hlen with
 | [x0,x1,x2,x3,x4,x5],_=>
  obtain ⟨y0,rfl⟩:=(field_ty hts hv (i:=0) rfl rfl).asStr hV.str
  obtain ⟨y1,rfl⟩:=(field_ty hts hv (i:=1) rfl rfl).asStr hV.str
  obtain ⟨y2,rfl,o2⟩:=((field_ty hts hv (i:=2) rfl rfl).asTerm hTT).2 rfl
  obtain ⟨y3,rfl⟩:=(field_ty hts hv (i:=3) rfl rfl).asStr hV.str
  obtain ⟨y4,rfl,p4,q4⟩:=(field_ty hts hv (i:=4) rfl rfl).asInt hV.int
  rw [e1] at p4; rw [e2] at q4
  obtain ⟨es5,rfl,hes5⟩:=(field_ty hts hv (i:=5) rfl rfl).asSlice hT.bodyL
  obtain ⟨y5,rfl,o5⟩:=list_enc GL.enc GL.ok es5 fun z hz=>(hes5 z hz).asGL hT.bodyI
  exact ⟨⟨y0,y1,y2,y3,y4,y5⟩,by simp [GR.enc,flat],⟨o2,⟨p4,q4⟩,o5⟩⟩
structure IsGP (P:Program) (tGP tGDL tGD tGUL tGU tGRL tGR tGLL tGL tT tTL tV tL tI tS:TypeId):Prop where
 fs:∃ fs:Array Field,P.underlying tGP=some (.struct fs)∧fs.toList.map (·.type)=[tGDL,tGUL,tGRL]
 term:IsT P tT tTL tV tL tI tS
 declsL:P.underlying tGDL=some (.slice tGD)
 declsI:IsGD P tGD tT tTL tV tL tI tS
 factsL:P.underlying tGUL=some (.slice tGU)
 factsI:IsGU P tGU tT tTL tV tL tI tS
 rulesL:P.underlying tGRL=some (.slice tGR)
 rulesI:IsGR P tGR tGLL tGL tT tTL tV tL tI tS
theorem TyA.asGP {P:Program} {tGP tGDL tGD tGUL tGU tGRL tGR tGLL tGL tT tTL tV tL tI tS:TypeId} (hT:IsGP P tGP tGDL tGD tGUL tGU tGRL tGR tGLL tGL tT tTL tV tL tI tS) {x:AV} (h:TyA P tGP x):∃ v:GP,x=v.enc∧v.ok:=by
 have e1:IntKind.i64.min=-9223372036854775808:=by decide
 have e2:IntKind.i64.max=9223372036854775807:=by decide
 obtain ⟨fs0,hf0,hts⟩:=hT.fs
 have hTT:=hT.term
 have hV:=hTT.val
 obtain ⟨vs,rfl,hl,hv⟩:=h.asStruct hf0
 have hlen:vs.length=3:=by rw [hl,←List.length_map (f:=(·.type)),hts]; rfl
 match vs,hlen with
 | [x0,x1,x2],_=>
  obtain ⟨es0,rfl,hes0⟩:=(field_ty hts hv (i:=0) rfl rfl).asSlice hT.declsL
  obtain ⟨y0,rfl,o0⟩:=list_enc GD.enc GD.ok es0 fun z hz=>(hes0 z hz).asGD hT.declsI
  obtain ⟨es1,rfl,hes1⟩:=(field_ty hts hv (i:=1) rfl rfl).asSlice hT.factsL
  obtain ⟨y1,rfl,o1⟩:=list_enc GU.enc GU.ok es1 fun z hz=>(hes1 z hz).asGU hT.factsI
  obtain ⟨es2,rfl,hes2⟩:=(field_ty hts hv (i:=2) rfl rfl).asSlice hT.rulesL
  obtain ⟨y2,rfl,o2⟩:=list_enc GR.enc GR.ok es2 fun z hz=>(hes2 z hz).asGR hT.rulesI
  exact ⟨⟨y0,y1,y2⟩,by simp [GP.enc,flat],⟨o0,o1,o2⟩⟩
theorem arg1GP {P:Program} {tGP tGDL tGD tGUL tGU tGRL tGR tGLL tGL tT tTL tV tL tI tS:TypeId} (hT:IsGP P tGP tGDL tGD tGUL tGU tGRL tGR tGLL tGL tT tTL tV tL tI tS) {x:AV} (h:TyA P tGP x) (hb:bulkA x≤1048576):∃ v:GP,x=v.enc∧v.ok∧v.size≤1048576:=by
 obtain ⟨v,rfl,ho⟩:=h.asGP hT
 exact ⟨v,rfl,ho,hb⟩
end Go.Mach
namespace Go.Proofs.YtjfgjnlocadpbaaGreatDoor
open Go.Mach
theorem tyGL:IsGL Tryz.prog 39 45 30 43 41 3 9:=⟨fieldTys_some (by kernel_rfl),tyT⟩
theorem tyGU:IsGU Tryz.prog 62 45 30 43 41 3 9:=⟨fieldTys_some (by kernel_rfl),tyT⟩
theorem tyGD:IsGD Tryz.prog 82 45 30 43 41 3 9:=⟨fieldTys_some (by kernel_rfl),tyT⟩
theorem tyGR:IsGR Tryz.prog 33 31 39 45 30 43 41 3 9:=⟨fieldTys_some (by kernel_rfl),tyT,by kernel_rfl,tyGL⟩
theorem tyGP:IsGP Tryz.prog 28 24 82 25 62 26 33 31 39 45 30 43 41 3 9:=⟨fieldTys_some (by kernel_rfl),tyT,by kernel_rfl,tyGD,by kernel_rfl,tyGU,by kernel_rfl,tyGR⟩
end Go.Proofs.YtjfgjnlocadpbaaGreatDoor
end
section
namespace Go.Proofs.YtjfgjnlocadpbaaGreatDoor
open Go.Mach
theorem idxTerm (p:GT→Bool) (l:List GT) (g:Nat) (caps:List AV) (hl:l.length≤100000000000) (σ:Heap) (hc:∀ x∈l,∀ bs,callT T g (x.enc :: caps) bs σ=some (.bool (p x),σ)) (bs:Nat) :
  callT T 152 [.isl (GT.encs l) false,.func g caps] bs σ=some (.int .i64 (idxG p l),σ):=by
 refine heap_enter (af:=c152) (args':=[.isl (GT.encs l) false,.func g caps]) (σ1:=σ) rfl rfl (by simp [c152]) (by simp [c152]) rfl ?_
 simp [c152,baseA]
 refine W_for T _ 19 l.length (fun i f τ=>f 0=.isl (GT.encs l) false∧f 1=.func g caps∧f 7=.int .i64 (l.length:Int)∧f 8=.int .i64 (i:Int)∧τ=σ∧∀ j,(hj:j<l.length)→j<i→p l[j]=false) ?_ _ _ ?_
 ·rintro i f τ hi ⟨h0,h1,h7,h8,rfl,hall⟩
  by_cases hlt:i<l.length
  ·have e1:l[i]?=some l[i]:=zqF hlt
   have hcl:=hc l[i] (zqT hlt)
   cases hp:p l[i]
   ·rw [hp] at hcl
    simp [h0,h1,h7,h8,hlt,hcl,hp,←GT.enc_eq]
    refine ⟨wr64 (by omega) (by omega),fun j hj hji=>?_⟩
    by_cases e:j=i
    ·subst e; exact hp
    ·exact hall j hj (by omega)
   ·rw [hp] at hcl
    simp [h0,h1,h7,h8,hlt,hcl,hp,←GT.enc_eq,dropA_gc,refLt,res1,refLt2_bool,refLt2_int,take_1]
    simp [idxG,idxG_drop p l i hlt hall hp]
  ·have he:i=l.length:=by omega
   subst he
   have hn:l.findIdx? p=none:=by
    rw [List.findIdx?_eq_none_iff]
    intro x hx
    obtain ⟨j,hj,rfl⟩:=zqS hx
    exact hall j hj hj
   simp [h0,h1,h7,h8,idxG,hn,dropA_gc,refLt,res1,refLt2_bool,refLt2_int,take_1]
 ·simp
theorem conTerm (p:GT→Bool) (l:List GT) (g:Nat) (caps:List AV) (hl:l.length≤100000000000) (σ:Heap) (hc:∀ x∈l,∀ bs,callT T g (x.enc :: caps) bs σ=some (.bool (p x),σ)) (bs:Nat) :
  callT T 131 [.isl (GT.encs l) false,.func g caps] bs σ=some (.bool (sym (l.any p)),σ):=by
 have h1:=idxTerm p l g caps hl σ hc
 have h2:=idxG_any p l
 refine heap_enter (af:=c131) (args':=[.isl (GT.encs l) false,.func g caps]) (σ1:=σ) rfl rfl (by simp [c131]) (by simp [c131]) rfl ?_
 simp [c131,baseA,h1,dropA_gc,refLt,res1,refLt2_bool,refLt2_int,take_1]
 refine ⟨fun h=>by simpa [sym] using h2.1 h,fun h=>?_⟩
 have:¬ l.any p=true:=fun hh=>by have:=h2.2 hh; omega
 simpa [sym] using this
theorem allTerm1 (b:Bool) (x:GT) (g:Nat) (caps:List AV) (σ:Heap) (hc:∀ τ bs,callT T g (x.enc :: caps) bs (σ++τ)=some (.bool b,σ++τ)) (bs:Nat) :
  callT T 132 [x.enc,.ptr σ.length 0] bs (σ++[.cells [.func g caps] 0 false])=some (.bool (!b),σ++[.cells [.func g caps] 0 false]):=by
 have hc1:=fun o bs=>hc [.cells [.func g caps] 0 false,o] bs
 refine heap_enter (af:=c132) (args':=[x.enc,.ptr σ.length 0]) (σ1:=σ++[.cells [.func g caps] 0 false]) rfl rfl (by simp [c132]) (by simp [c132]) rfl ?_
 simp [c132,baseA,hc1,←GT.enc_eq,setRun,dropA_gc,refLt,res1,refLt2_bool,refLt2_int,take_1]
theorem allTerm (p:GT→Bool) (l:List GT) (g:Nat) (caps:List AV) (hl:l.length≤100000000000) (σ:Heap) (hc:∀ x∈l,∀ τ bs,callT T g (x.enc :: caps) bs (σ++τ)=some (.bool (p x),σ++τ)) (bs:Nat) :
  callT T 108 [.isl (GT.encs l) false,.func g caps] bs σ=some (.bool (sym (l.all p)),σ):=by
 have h1:=fun x hx=>allTerm1 (p x) x g caps σ (hc x hx)
 have h2:=conTerm (fun x=>!p x) l 132 [.ptr σ.length 0] hl (σ++[.cells [.func g caps] 0 false]) h1
 refine heap_enter (af:=c108) (args':=[.isl (GT.encs l) false,.func g caps]) (σ1:=σ) rfl rfl (by simp [c108]) (by simp [c108]) rfl ?_
 rw [←not_any]
 simp [c108,baseA,h2,dropA_gc,refLt,res1,refLt2_bool,refLt2_int,take_1,setRun,sym]
theorem idxTuple (p:GU→Bool) (l:List GU) (g:Nat) (caps:List AV) (hl:l.length≤100000000000) (σ:Heap) (hc:∀ x∈l,∀ bs,callT T g (x.enc :: caps) bs σ=some (.bool (p x),σ)) (bs:Nat) :
  callT T 123 [.isl (l.map GU.enc) false,.func g caps] bs σ=some (.int .i64 (idxG p l),σ):=by
 refine heap_enter (af:=c123) (args':=[.isl (l.map GU.enc) false,.func g caps]) (σ1:=σ) rfl rfl (by simp [c123]) (by simp [c123]) rfl ?_
 simp [c123,baseA]
 refine W_for T _ 19 l.length (fun i f τ=>f 0=.isl (l.map GU.enc) false∧f 1=.func g caps∧f 7=.int .i64 (l.length:Int)∧f 8=.int .i64 (i:Int)∧τ=σ∧∀ j,(hj:j<l.length)→j<i→p l[j]=false) ?_ _ _ ?_
 ·rintro i f τ hi ⟨h0,h1,h7,h8,rfl,hall⟩
  by_cases hlt:i<l.length
  ·have e1:l[i]?=some l[i]:=zqF hlt
   have hcl:=hc l[i] (zqT hlt)
   cases hp:p l[i]
   ·rw [hp] at hcl
    simp [h0,h1,h7,h8,hlt,hcl,hp,←GU.enc_eq]
    refine ⟨wr64 (by omega) (by omega),fun j hj hji=>?_⟩
    by_cases e:j=i
    ·subst e; exact hp
    ·exact hall j hj (by omega)
   ·rw [hp] at hcl
    simp [h0,h1,h7,h8,hlt,hcl,hp,←GU.enc_eq,dropA_gc,refLt,res1,refLt2_bool,refLt2_int,take_1]
    simp [idxG,idxG_drop p l i hlt hall hp]
  ·have he:i=l.length:=by omega
   subst he
   have hn:l.findIdx? p=none:=by
    rw [List.findIdx?_eq_none_iff]
    intro x hx
    obtain ⟨j,hj,rfl⟩:=zqS hx
    exact hall j hj hj
   simp [h0,h1,h7,h8,idxG,hn,dropA_gc,refLt,res1,refLt2_bool,refLt2_int,take_1]
 ·simp
theorem conTuple (p:GU→Bool) (l:List GU) (g:Nat) (caps:List AV) (hl:l.length≤100000000000) (σ:Heap) (hc:∀ x∈l,∀ bs,callT T g (x.enc :: caps) bs σ=some (.bool (p x),σ)) (bs:Nat) :
  callT T 95 [.isl (l.map GU.enc) false,.func g caps] bs σ=some (.bool (sym (l.any p)),σ):=by
 have h1:=idxTuple p l g caps hl σ hc
 have h2:=idxG_any p l
 refine heap_enter (af:=c95) (args':=[.isl (l.map GU.enc) false,.func g caps]) (σ1:=σ) rfl rfl (by simp [c95]) (by simp [c95]) rfl ?_
 simp [c95,baseA,h1,dropA_gc,refLt,res1,refLt2_bool,refLt2_int,take_1]
 refine ⟨fun h=>by simpa [sym] using h2.1 h,fun h=>?_⟩
 have:¬ l.any p=true:=fun hh=>by have:=h2.2 hh; omega
 simpa [sym] using this
theorem allTuple1 (b:Bool) (x:GU) (g:Nat) (caps:List AV) (σ:Heap) (hc:∀ τ bs,callT T g (x.enc :: caps) bs (σ++τ)=some (.bool b,σ++τ)) (bs:Nat) :
  callT T 96 [x.enc,.ptr σ.length 0] bs (σ++[.cells [.func g caps] 0 false])=some (.bool (!b),σ++[.cells [.func g caps] 0 false]):=by
 have hc1:=fun o bs=>hc [.cells [.func g caps] 0 false,o] bs
 refine heap_enter (af:=c96) (args':=[x.enc,.ptr σ.length 0]) (σ1:=σ++[.cells [.func g caps] 0 false]) rfl rfl (by simp [c96]) (by simp [c96]) rfl ?_
 simp [c96,baseA,hc1,←GU.enc_eq,setRun,dropA_gc,refLt,res1,refLt2_bool,refLt2_int,take_1]
theorem allTuple (p:GU→Bool) (l:List GU) (g:Nat) (caps:List AV) (hl:l.length≤100000000000) (σ:Heap) (hc:∀ x∈l,∀ τ bs,callT T g (x.enc :: caps) bs (σ++τ)=some (.bool (p x),σ++τ)) (bs:Nat) :
  callT T 64 [.isl (l.map GU.enc) false,.func g caps] bs σ=some (.bool (sym (l.all p)),σ):=by
 have h1:=fun x hx=>allTuple1 (p x) x g caps σ (hc x hx)
 have h2:=conTuple (fun x=>!p x) l 96 [.ptr σ.length 0] hl (σ++[.cells [.func g caps] 0 false]) h1
 refine heap_enter (af:=c64) (args':=[.isl (l.map GU.enc) false,.func g caps]) (σ1:=σ) rfl rfl (by simp [c64]) (by simp [c64]) rfl ?_
 rw [←not_any]
 simp [c64,baseA,h2,dropA_gc,refLt,res1,refLt2_bool,refLt2_int,take_1,setRun,sym]
theorem idxRule (p:GR→Bool) (l:List GR) (g:Nat) (caps:List AV) (hl:l.length≤100000000000) (σ:Heap) (hc:∀ x∈l,∀ bs,callT T g (x.enc :: caps) bs σ=some (.bool (p x),σ)) (bs:Nat) :
  callT T 36 [.isl (l.map GR.enc) false,.func g caps] bs σ=some (.int .i64 (idxG p l),σ):=by
 refine heap_enter (af:=c36) (args':=[.isl (l.map GR.enc) false,.func g caps]) (σ1:=σ) rfl rfl (by simp [c36]) (by simp [c36]) rfl ?_
 simp [c36,baseA]
 refine W_for T _ 19 l.length (fun i f τ=>f 0=.isl (l.map GR.enc) false∧f 1=.func g caps∧f 7=.int .i64 (l.length:Int)∧f 8=.int .i64 (i:Int)∧τ=σ∧∀ j,(hj:j<l.length)→j<i→p l[j]=false) ?_ _ _ ?_
 ·rintro i f τ hi ⟨h0,h1,h7,h8,rfl,hall⟩
  by_cases hlt:i<l.length
  ·have e1:l[i]?=some l[i]:=zqF hlt
   have hcl:=hc l[i] (zqT hlt)
   cases hp:p l[i]
   ·rw [hp] at hcl
    simp [h0,h1,h7,h8,hlt,hcl,hp,←GR.enc_eq]
    refine ⟨wr64 (by omega) (by omega),fun j hj hji=>?_⟩
    by_cases e:j=i
    ·subst e; exact hp
    ·exact hall j hj (by omega)
   ·rw [hp] at hcl
    simp [h0,h1,h7,h8,hlt,hcl,hp,←GR.enc_eq,dropA_gc,refLt,res1,refLt2_bool,refLt2_int,take_1]
    simp [idxG,idxG_drop p l i hlt hall hp]
  ·have he:i=l.length:=by omega
   subst he
   have hn:l.findIdx? p=none:=by
    rw [List.findIdx?_eq_none_iff]
    intro x hx
    obtain ⟨j,hj,rfl⟩:=zqS hx
    exact hall j hj hj
   simp [h0,h1,h7,h8,idxG,hn,dropA_gc,refLt,res1,refLt2_bool,refLt2_int,take_1]
 ·simp
theorem conRule (p:GR→Bool) (l:List GR) (g:Nat) (caps:List AV) (hl:l.length≤100000000000) (σ:Heap) (hc:∀ x∈l,∀ bs,callT T g (x.enc :: caps) bs σ=some (.bool (p x),σ)) (bs:Nat) :
  callT T 99 [.isl (l.map GR.enc) false,.func g caps] bs σ=some (.bool (sym (l.any p)),σ):=by
 have h1:=idxRule p l g caps hl σ hc
 have h2:=idxG_any p l
 refine heap_enter (af:=c99) (args':=[.isl (l.map GR.enc) false,.func g caps]) (σ1:=σ) rfl rfl (by simp [c99]) (by simp [c99]) rfl ?_
 simp [c99,baseA,h1,dropA_gc,refLt,res1,refLt2_bool,refLt2_int,take_1]
 refine ⟨fun h=>by simpa [sym] using h2.1 h,fun h=>?_⟩
 have:¬ l.any p=true:=fun hh=>by have:=h2.2 hh; omega
 simpa [sym] using this
theorem allRule1 (b:Bool) (x:GR) (g:Nat) (caps:List AV) (σ:Heap) (hc:∀ τ bs,callT T g (x.enc :: caps) bs (σ++τ)=some (.bool b,σ++τ)) (bs:Nat) :
  callT T 100 [x.enc,.ptr σ.length 0] bs (σ++[.cells [.func g caps] 0 false])=some (.bool (!b),σ++[.cells [.func g caps] 0 false]):=by
 have hc1:=fun o bs=>hc [.cells [.func g caps] 0 false,o] bs
 refine heap_enter (af:=c100) (args':=[x.enc,.ptr σ.length 0]) (σ1:=σ++[.cells [.func g caps] 0 false]) rfl rfl (by simp [c100]) (by simp [c100]) rfl ?_
 simp [c100,baseA,hc1,←GR.enc_eq,setRun,dropA_gc,refLt,res1,refLt2_bool,refLt2_int,take_1]
theorem allRule (p:GR→Bool) (l:List GR) (g:Nat) (caps:List AV) (hl:l.length≤100000000000) (σ:Heap) (hc:∀ x∈l,∀ τ bs,callT T g (x.enc :: caps) bs (σ++τ)=some (.bool (p x),σ++τ)) (bs:Nat) :
  callT T 66 [.isl (l.map GR.enc) false,.func g caps] bs σ=some (.bool (sym (l.all p)),σ):=by
 have h1:=fun x hx=>allRule1 (p x) x g caps σ (hc x hx)
 have h2:=conRule (fun x=>!p x) l 100 [.ptr σ.length 0] hl (σ++[.cells [.func g caps] 0 false]) h1
 refine heap_enter (af:=c66) (args':=[.isl (l.map GR.enc) false,.func g caps]) (σ1:=σ) rfl rfl (by simp [c66]) (by simp [c66]) rfl ?_
 rw [←not_any]
 simp [c66,baseA,h2,dropA_gc,refLt,res1,refLt2_bool,refLt2_int,take_1,setRun,sym]
theorem idxDecl (p:GD→Bool) (l:List GD) (g:Nat) (caps:List AV) (hl:l.length≤100000000000) (σ:Heap) (hc:∀ x∈l,∀ bs,callT T g (x.enc :: caps) bs σ=some (.bool (p x),σ)) (bs:Nat) :
  callT T 70 [.isl (l.map GD.enc) false,.func g caps] bs σ=some (.int .i64 (idxG p l),σ):=by
 refine heap_enter (af:=c70) (args':=[.isl (l.map GD.enc) false,.func g caps]) (σ1:=σ) rfl rfl (by simp [c70]) (by simp [c70]) rfl ?_
 simp [c70,baseA]
 refine W_for T _ 19 l.length (fun i f τ=>f 0=.isl (l.map GD.enc) false∧f 1=.func g caps∧f 7=.int .i64 (l.length:Int)∧f 8=.int .i64 (i:Int)∧τ=σ∧∀ j,(hj:j<l.length)→j<i→p l[j]=false) ?_ _ _ ?_
 ·rintro i f τ hi ⟨h0,h1,h7,h8,rfl,hall⟩
  by_cases hlt:i<l.length
  ·have e1:l[i]?=some l[i]:=zqF hlt
   have hcl:=hc l[i] (zqT hlt)
   cases hp:p l[i]
   ·rw [hp] at hcl
    simp [h0,h1,h7,h8,hlt,hcl,hp,←GD.enc_eq]
    refine ⟨wr64 (by omega) (by omega),fun j hj hji=>?_⟩
    by_cases e:j=i
    ·subst e; exact hp
    ·exact hall j hj (by omega)
   ·rw [hp] at hcl
    simp [h0,h1,h7,h8,hlt,hcl,hp,←GD.enc_eq,dropA_gc,refLt,res1,refLt2_bool,refLt2_int,take_1]
    simp [idxG,idxG_drop p l i hlt hall hp]
  ·have he:i=l.length:=by omega
   subst he
   have hn:l.findIdx? p=none:=by
    rw [List.findIdx?_eq_none_iff]
    intro x hx
    obtain ⟨j,hj,rfl⟩:=zqS hx
    exact hall j hj hj
   simp [h0,h1,h7,h8,idxG,hn,dropA_gc,refLt,res1,refLt2_bool,refLt2_int,take_1]
 ·simp
theorem conDecl (p:GD→Bool) (l:List GD) (g:Nat) (caps:List AV) (hl:l.length≤100000000000) (σ:Heap) (hc:∀ x∈l,∀ bs,callT T g (x.enc :: caps) bs σ=some (.bool (p x),σ)) (bs:Nat) :
  callT T 101 [.isl (l.map GD.enc) false,.func g caps] bs σ=some (.bool (sym (l.any p)),σ):=by
 have h1:=idxDecl p l g caps hl σ hc
 have h2:=idxG_any p l
 refine heap_enter (af:=c101) (args':=[.isl (l.map GD.enc) false,.func g caps]) (σ1:=σ) rfl rfl (by simp [c101]) (by simp [c101]) rfl ?_
 simp [c101,baseA,h1,dropA_gc,refLt,res1,refLt2_bool,refLt2_int,take_1]
 refine ⟨fun h=>by simpa [sym] using h2.1 h,fun h=>?_⟩
 have:¬ l.any p=true:=fun hh=>by have:=h2.2 hh; omega
 simpa [sym] using this
theorem allDecl1 (b:Bool) (x:GD) (g:Nat) (caps:List AV) (σ:Heap) (hc:∀ τ bs,callT T g (x.enc :: caps) bs (σ++τ)=some (.bool b,σ++τ)) (bs:Nat) :
  callT T 102 [x.enc,.ptr σ.length 0] bs (σ++[.cells [.func g caps] 0 false])=some (.bool (!b),σ++[.cells [.func g caps] 0 false]):=by
 have hc1:=fun o bs=>hc [.cells [.func g caps] 0 false,o] bs
 refine heap_enter (af:=c102) (args':=[x.enc,.ptr σ.length 0]) (σ1:=σ++[.cells [.func g caps] 0 false]) rfl rfl (by simp [c102]) (by simp [c102]) rfl ?_
 simp [c102,baseA,hc1,←GD.enc_eq,setRun,dropA_gc,refLt,res1,refLt2_bool,refLt2_int,take_1]
theorem allDecl (p:GD→Bool) (l:List GD) (g:Nat) (caps:List AV) (hl:l.length≤100000000000) (σ:Heap) (hc:∀ x∈l,∀ τ bs,callT T g (x.enc :: caps) bs (σ++τ)=some (.bool (p x),σ++τ)) (bs:Nat) :
  callT T 67 [.isl (l.map GD.enc) false,.func g caps] bs σ=some (.bool (sym (l.all p)),σ):=by
 have h1:=fun x hx=>allDecl1 (p x) x g caps σ (hc x hx)
 have h2:=conDecl (fun x=>!p x) l 102 [.ptr σ.length 0] hl (σ++[.cells [.func g caps] 0 false]) h1
 refine heap_enter (af:=c67) (args':=[.isl (l.map GD.enc) false,.func g caps]) (σ1:=σ) rfl rfl (by simp [c67]) (by simp [c67]) rfl ?_
 rw [←not_any]
 simp [c67,baseA,h2,dropA_gc,refLt,res1,refLt2_bool,refLt2_int,take_1,setRun,sym]
theorem idxLiteral (p:GL→Bool) (l:List GL) (g:Nat) (caps:List AV) (hl:l.length≤100000000000) (σ:Heap) (hc:∀ x∈l,∀ bs,callT T g (x.enc :: caps) bs σ=some (.bool (p x),σ)) (bs:Nat) :
  callT T 128 [.isl (l.map GL.enc) false,.func g caps] bs σ=some (.int .i64 (idxG p l),σ):=by
 refine heap_enter (af:=c128) (args':=[.isl (l.map GL.enc) false,.func g caps]) (σ1:=σ) rfl rfl (by simp [c128]) (by simp [c128]) rfl ?_
 simp [c128,baseA]
 refine W_for T _ 19 l.length (fun i f τ=>f 0=.isl (l.map GL.enc) false∧f 1=.func g caps∧f 7=.int .i64 (l.length:Int)∧f 8=.int .i64 (i:Int)∧τ=σ∧∀ j,(hj:j<l.length)→j<i→p l[j]=false) ?_ _ _ ?_
 ·rintro i f τ hi ⟨h0,h1,h7,h8,rfl,hall⟩
  by_cases hlt:i<l.length
  ·have e1:l[i]?=some l[i]:=zqF hlt
   have hcl:=hc l[i] (zqT hlt)
   cases hp:p l[i]
   ·rw [hp] at hcl
    simp [h0,h1,h7,h8,hlt,hcl,hp,←GL.enc_eq]
    refine ⟨wr64 (by omega) (by omega),fun j hj hji=>?_⟩
    by_cases e:j=i
    ·subst e; exact hp
    ·exact hall j hj (by omega)
   ·rw [hp] at hcl
    simp [h0,h1,h7,h8,hlt,hcl,hp,←GL.enc_eq,dropA_gc,refLt,res1,refLt2_bool,refLt2_int,take_1]
    simp [idxG,idxG_drop p l i hlt hall hp]
  ·have he:i=l.length:=by omega
   subst he
   have hn:l.findIdx? p=none:=by
    rw [List.findIdx?_eq_none_iff]
    intro x hx
    obtain ⟨j,hj,rfl⟩:=zqS hx
    exact hall j hj hj
   simp [h0,h1,h7,h8,idxG,hn,dropA_gc,refLt,res1,refLt2_bool,refLt2_int,take_1]
 ·simp
theorem conLiteral (p:GL→Bool) (l:List GL) (g:Nat) (caps:List AV) (hl:l.length≤100000000000) (σ:Heap) (hc:∀ x∈l,∀ bs,callT T g (x.enc :: caps) bs σ=some (.bool (p x),σ)) (bs:Nat) :
  callT T 105 [.isl (l.map GL.enc) false,.func g caps] bs σ=some (.bool (sym (l.any p)),σ):=by
 have h1:=idxLiteral p l g caps hl σ hc
 have h2:=idxG_any p l
 refine heap_enter (af:=c105) (args':=[.isl (l.map GL.enc) false,.func g caps]) (σ1:=σ) rfl rfl (by simp [c105]) (by simp [c105]) rfl ?_
 simp [c105,baseA,h1,dropA_gc,refLt,res1,refLt2_bool,refLt2_int,take_1]
 refine ⟨fun h=>by simpa [sym] using h2.1 h,fun h=>?_⟩
 have:¬ l.any p=true:=fun hh=>by have:=h2.2 hh; omega
 simpa [sym] using this
theorem allLiteral1 (b:Bool) (x:GL) (g:Nat) (caps:List AV) (σ:Heap) (hc:∀ τ bs,callT T g (x.enc :: caps) bs (σ++τ)=some (.bool b,σ++τ)) (bs:Nat) :
  callT T 110 [x.enc,.ptr σ.length 0] bs (σ++[.cells [.func g caps] 0 false])=some (.bool (!b),σ++[.cells [.func g caps] 0 false]):=by
 have hc1:=fun o bs=>hc [.cells [.func g caps] 0 false,o] bs
 refine heap_enter (af:=c110) (args':=[x.enc,.ptr σ.length 0]) (σ1:=σ++[.cells [.func g caps] 0 false]) rfl rfl (by simp [c110]) (by simp [c110]) rfl ?_
 simp [c110,baseA,hc1,←GL.enc_eq,setRun,dropA_gc,refLt,res1,refLt2_bool,refLt2_int,take_1]
theorem allLiteral (p:GL→Bool) (l:List GL) (g:Nat) (caps:List AV) (hl:l.length≤100000000000) (σ:Heap) (hc:∀ x∈l,∀ τ bs,callT T g (x.enc :: caps) bs (σ++τ)=some (.bool (p x),σ++τ)) (bs:Nat) :
  callT T 77 [.isl (l.map GL.enc) false,.func g caps] bs σ=some (.bool (sym (l.all p)),σ):=by
 have h1:=fun x hx=>allLiteral1 (p x) x g caps σ (hc x hx)
 have h2:=conLiteral (fun x=>!p x) l 110 [.ptr σ.length 0] hl (σ++[.cells [.func g caps] 0 false]) h1
 refine heap_enter (af:=c77) (args':=[.isl (l.map GL.enc) false,.func g caps]) (σ1:=σ) rfl rfl (by simp [c77]) (by simp [c77]) rfl ?_
 rw [←not_any]
 simp [c77,baseA,h2,dropA_gc,refLt,res1,refLt2_bool,refLt2_int,take_1,setRun,sym]
end Go.Proofs.YtjfgjnlocadpbaaGreatDoor
end
section
namespace Go.Proofs.YtjfgjnlocadpbaaGreatDoor
open Go.Mach
abbrev sCons:ByteArray:=⟨#[102,95,99,111,110,115]⟩
abbrev sAppend:ByteArray:=⟨#[102,95,97,112,112,101,110,100]⟩
abbrev sConcat:ByteArray:=⟨#[102,95,99,111,110,99,97,116]⟩
abbrev sMember:ByteArray:=⟨#[102,95,109,101,109,98,101,114]⟩
abbrev sSize:ByteArray:=⟨#[102,95,115,105,122,101]⟩
abbrev sFirst:ByteArray:=⟨#[102,95,102,105,114,115,116]⟩
abbrev sLast:ByteArray:=⟨#[102,95,108,97,115,116]⟩
abbrev sRest:ByteArray:=⟨#[102,95,114,101,115,116]⟩
abbrev sReverse:ByteArray:=⟨#[102,95,114,101,118,101,114,115,101]⟩
def nilV:GV:=.mk 0 0 ⟨#[]⟩ []
def arityOf (s:ByteArray):Int:=
 if s=sCons∨s=sAppend∨s=sConcat∨s=sMember then 2
 else if s=sSize∨s=sFirst∨s=sLast∨s=sRest∨s=sReverse then 1 else -1
theorem refArity_ok (s:ByteArray):pureT T c53 [.str s]=some (.int .i64 (arityOf s)):=by
 apply pure_enter (by simp [c53])
 simp [c53]
 unfold arityOf
 grind
theorem refArity (s:ByteArray) (bs:Nat) (σ:Heap):callT T 53 [.str s] bs σ=some (.int .i64 (arityOf s),σ):=call_clean rfl rfl rfl (by simp) (refArity_ok s)
end Go.Proofs.YtjfgjnlocadpbaaGreatDoor
end
section
namespace Go.Proofs.YtjfgjnlocadpbaaGreatDoor
open Go.Mach
theorem end_ok (b:Bool):pureT T c149 [.bool b]=some (.func 163 [.iptr [.bool b] 0]):=by
 apply pure_enter (by simp [c149])
 simp [c149,frz,res1]
theorem callEnd (b:Bool) (bs:Nat) (σ:Heap):callT T 149 [.bool b] bs σ=some (.func 163 [.iptr [.bool b] 0],σ):=call_clean rfl rfl rfl (by simp) (end_ok b)
def findV (s:ByteArray):AV:=
 if s=sCons then .agg [.int .i64 2,.int .i64 1,.func 144 []]
 else if s=sAppend then .agg [.int .i64 2,.int .i64 0,.func 145 []]
 else if s=sConcat then .agg [.int .i64 2,.int .i64 0,.func 146 []]
 else if s=sMember then .agg [.int .i64 2,.int .i64 0,.func 147 []]
 else if s=sSize then .agg [.int .i64 1,.int .i64 0,.func 148 []]
 else if s=sFirst then .agg [.int .i64 1,.int .i64 0,.func 163 [.iptr [.bool false] 0]]
 else if s=sLast then .agg [.int .i64 1,.int .i64 0,.func 163 [.iptr [.bool true] 0]]
 else if s=sRest then .agg [.int .i64 1,.int .i64 0,.func 150 []]
 else if s=sReverse then .agg [.int .i64 1,.int .i64 0,.func 151 []]
 else .agg [.int .i64 (-1),.int .i64 0,.nilfunc]
theorem find_ok (s:ByteArray):pureT T c127 [.str s]=some (findV s):=by
 apply pure_enter (by simp [c127])
 unfold findV
 by_cases h1:s=sCons
 ·subst h1; simp [c127,setRun]
 by_cases h2:s=sAppend
 ·subst h2; simp [c127,setRun]
 by_cases h3:s=sConcat
 ·subst h3; simp [c127,setRun]
 by_cases h4:s=sMember
 ·subst h4; simp [c127,setRun]
 by_cases h5:s=sSize
 ·subst h5; simp [c127,setRun]
 by_cases h6:s=sFirst
 ·subst h6; simp [c127,setRun,callEnd]
 by_cases h7:s=sLast
 ·subst h7; simp [c127,setRun,callEnd]
 by_cases h8:s=sRest
 ·subst h8; simp [c127,setRun]
 by_cases h9:s=sReverse
 ·subst h9; simp [c127,setRun]
 simp [c127,setRun,h1,h2,h3,h4,h5,h6,h7,h8,h9]
theorem callFind (s:ByteArray) (bs:Nat) (σ:Heap):callT T 127 [.str s] bs σ=some (findV s,σ):=call_clean rfl rfl rfl (by simp) (find_ok s)
theorem bArity (s:ByteArray) (bs:Nat) (σ:Heap):callT T 104 [.str s] bs σ=some (.int .i64 (arityOf s),σ):=call_clean rfl rfl rfl rfl (by
 apply pure_enter (by simp [c104])
 have h:=callFind s
 unfold findV at h
 unfold arityOf
 by_cases h1:s=sCons
 ·subst h1; simp at h; simp [c104,h,setRun]; try decide
 by_cases h2:s=sAppend
 ·subst h2; simp at h; simp [c104,h,setRun]; try decide
 by_cases h3:s=sConcat
 ·subst h3; simp at h; simp [c104,h,setRun]; try decide
 by_cases h4:s=sMember
 ·subst h4; simp at h; simp [c104,h,setRun]; try decide
 by_cases h5:s=sSize
 ·subst h5; simp at h; simp [c104,h,setRun]; try decide
 by_cases h6:s=sFirst
 ·subst h6; simp at h; simp [c104,h,setRun]; try decide
 by_cases h7:s=sLast
 ·subst h7; simp at h; simp [c104,h,setRun]; try decide
 by_cases h8:s=sRest
 ·subst h8; simp at h; simp [c104,h,setRun]; try decide
 by_cases h9:s=sReverse
 ·subst h9; simp at h; simp [c104,h,setRun]; try decide
 simp [h1,h2,h3,h4,h5,h6,h7,h8,h9] at h
 simp [c104,h,setRun,h1,h2,h3,h4,h5,h6,h7,h8,h9])
end Go.Proofs.YtjfgjnlocadpbaaGreatDoor
end
section
namespace Go.Proofs.YtjfgjnlocadpbaaGreatDoor
open Go.Mach
def upB (c:Nat):Bool:=decide (65≤c) && decide (c≤90)
def varL:List UInt8→Bool
 | []=>false
 | c :: l=>upB c.toNat && l.all (fun c=>upB c.toNat || innerB c.toNat)
def varOK (t:ByteArray):Bool:=varL t.data.toList && decide (t.size≤16)
def sMat:ByteArray:=⟨#[109,97,116,101,114,105,97,108,105,122,101]⟩
def relOK (s:ByteArray):Bool:=nameOK s && decide (arityOf s<0) && decide (s≠sMat)
abbrev nil0:GV:=.mk 0 0 ⟨#[]⟩ []
def bareV (v:GV):Bool:=decide (v.kind=0∧v.num=0∧v.text=⟨#[]⟩∧v.items.length=0)
def opOK (n:ByteArray):Bool:=decide (n=⟨#[43]⟩∨n=⟨#[45]⟩∨n=⟨#[42]⟩)
def termB (t:GT) (ar:Bool):Bool:=
 if t.kind=1 then bareV t.value && decide (t.args.length=0) && varOK t.name
 else if t.kind=2 then rightT t.value && decide (t.args.length=0) && decide (t.name=⟨#[]⟩) && (decide (t.value.kind≠3) || decide (arityOf t.value.text<0))
 else if t.kind=3 then bareV t.value && decide (arityOf t.name=t.args.length) && ar
 else if t.kind=4 then bareV t.value && decide (t.args.length=2) && opOK t.name && ar
 else false
def termR:Nat→GT→Bool
 | 0,_=>false
 | d+1,t=>termB t (t.args.all (termR d))
theorem bareV_eq {v:GV} (h:bareV v=true):v=nil0:=by
 obtain ⟨k,n,t,l⟩:=v
 have:=of_decide_eq_true h
 obtain ⟨h1,h2,h3,h4⟩:=this
 have h4:=List.length_eq_zero_iff.1 h4
 show GV.mk k n t l=nil0
 have e1:k=0:=h1
 have e2:n=0:=h2
 have e3:t=⟨#[]⟩:=h3
 have e4:l=[]:=h4
 rw [e1,e2,e3,e4]
theorem term_cases {d:Nat} {t:GT} (h:termR d t=true):0<d∧((∃ n,t=.mk 1 n nil0 []∧varOK n=true)∨(∃ v,t=.mk 2 ⟨#[]⟩ v []∧rightT v=true∧(v.kind≠3∨arityOf v.text<0))
  ∨ (∃ n l,t=.mk 3 n nil0 l∧arityOf n=(l.length:Int)∧∀ x∈l,termR (d - 1) x=true)∨(∃ n l,t=.mk 4 n nil0 l∧opOK n=true∧l.length=2∧∀ x∈l,termR (d - 1) x=true)):=by
 obtain ⟨k,n,v,l⟩:=t
 cases d with
 | zero=>cases h
 | succ d=>
  refine ⟨by omega,?_⟩
  simp only [termR,termB,GT.kind,GT.name,GT.value,GT.args] at h
  split at h
  ·rename_i hk; subst hk
   simp only [zqL,decide_eq_true_eq] at h
   rw [bareV_eq h.1.1,List.length_eq_zero_iff.1 h.1.2]
   exact .inl ⟨n,rfl,h.2⟩
  split at h
  ·rename_i hk; subst hk
   simp only [zqL,Bool.or_eq_true,decide_eq_true_eq] at h
   rw [List.length_eq_zero_iff.1 h.1.1.2,h.1.2]
   exact .inr (.inl ⟨v,rfl,h.1.1.1,h.2⟩)
  split at h
  ·rename_i hk; subst hk
   simp only [zqL,decide_eq_true_eq,zqQ] at h
   rw [bareV_eq h.1.1]
   exact .inr (.inr (.inl ⟨n,l,rfl,h.1.2,fun x hx=>h.2 x hx⟩))
  split at h
  ·rename_i hk; subst hk
   simp only [zqL,decide_eq_true_eq,zqQ] at h
   rw [bareV_eq h.1.1.1]
   exact .inr (.inr (.inr ⟨n,l,rfl,h.1.2,h.1.1.2,fun x hx=>h.2 x hx⟩))
  ·cases h
mutual
def shT:GT→List UInt8
 | .mk k n v l=>if k=1 then n.data.toList else if k=2 then pr v else if k=3 then n.data.toList++40 :: (shTs [44] l++[41]) else 40 :: (shTs n.data.toList l++[41])
def shTs (sep:List UInt8):List GT→List UInt8
 | []=>[]
 | x :: l=>shT x++shTc sep l
def shTc (sep:List UInt8):List GT→List UInt8
 | []=>[]
 | x :: l=>sep++(shT x++shTc sep l)
end
def varC (c:UInt8):Bool:=upB c.toNat || innerB c.toNat
theorem op_char {n:ByteArray} (h:opOK n=true):∃ c,n.data.toList=[c]∧varC c=false∧c≠41:=by
 rcases of_decide_eq_true h with rfl | rfl | rfl
 ·exact ⟨43,rfl,by decide,by decide⟩
 ·exact ⟨45,rfl,by decide,by decide⟩
 ·exact ⟨42,rfl,by decide,by decide⟩
mutual
theorem t_split:∀ (a b:GT) (d e:Nat) (r s:List UInt8),termR d a=true→termR e b=true→stopP varC r→stopP varC s→shT a++r=shT b++s→a=b∧r=s
 | .mk k n v l,b,d,e,r,s,ha,hb,hr,hs,h=>by
  obtain ⟨c1,l1,e1,k1⟩:=th_head ha
  obtain ⟨c2,l2,e2,k2⟩:=th_head hb
  have hc:c1=c2:=by rw [e1,e2] at h; simp only [List.cons_append,List.cons.injEq] at h; exact h.1
  subst hc
  have hk:=th_apart k1 k2
  obtain ⟨_,ha'⟩:=term_cases ha
  obtain ⟨_,hb'⟩:=term_cases hb
  rcases ha' with ⟨n1,ea,hn1⟩ | ⟨v1,ea,hv1,hx1⟩ | ⟨n1,m1,ea,hn1,hm1⟩ | ⟨n1,m1,ea,hn1,hm1,hy1⟩ <;> rcases hb' with ⟨n2,eb,hn2⟩ | ⟨v2,eb,hv2,hx2⟩ | ⟨n2,m2,eb,hn2,hm2⟩ | ⟨n2,m2,eb,hn2,hm2,hy2⟩ <;> injection ea with ea1 ea2 ea3 ea4 <;> subst ea1 ea2 ea3 ea4 <;> subst eb <;> first
   | (exfalso; simp [GT.kind] at hk; done)
   | skip
  ·have p1:shT (.mk 1 n nil0 [])=n.data.toList:=by simp [shT]
   have p2:shT (.mk 1 n2 nil0 [])=n2.data.toList:=by simp [shT]
   rw [p1,p2] at h
   obtain ⟨x1,m1,q1,_,i1⟩:=var_list hn1
   obtain ⟨x2,m2,q2,_,i2⟩:=var_list hn2
   obtain ⟨h1,h2⟩:=span_eq varC _ _ _ _ (by rw [q1]; exact i1) (by rw [q2]; exact i2) hr hs h
   exact ⟨by rw [bytes_ext h1],h2⟩
  ·have p1:shT (.mk 2 ⟨#[]⟩ v [])=pr v:=by simp [shT]
   have p2:shT (.mk 2 ⟨#[]⟩ v2 [])=pr v2:=by simp [shT]
   rw [p1,p2] at h
   obtain ⟨rfl,h2⟩:=v_split hv1 hv2 (stop_inn hr) (stop_inn hs) h
   exact ⟨rfl,h2⟩
  ·exfalso
   have hl:letterB c1.toNat=true:=by simpa [GT.kind] using hk
   have p1:shT (.mk 2 ⟨#[]⟩ v [])=pr v:=by simp [shT]
   have p2:shT (.mk 3 n2 nil0 m2)=n2.data.toList++40 :: (shTs [44] m2++[41]):=by simp [shT]
   rw [p1] at e1 h
   obtain ⟨t,rfl,ht⟩:=pr_letter hv1 e1 hl
   have p3:pr (.mk 3 0 t [])=t.data.toList:=by simp [pr]
   rw [p3,p2,zqP] at h
   obtain ⟨x1,m1,q1,_,i1⟩:=name_list ht
   obtain ⟨x2,m2,q2,_,i2⟩:=name_list (fn_name (n:=n2) (by omega))
   obtain ⟨h1,h2⟩:=span_eq innC _ _ _ _ (by rw [q1]; exact i1) (by rw [q2]; exact i2) (stop_inn hr) (stop_of (by decide)) h
   have:=bytes_ext h1
   subst this
   rcases hx1 with hx | hx
   ·exact hx rfl
   ·have hx:arityOf t<0:=hx
    omega
  ·exfalso
   have hl:letterB c1.toNat=true:=by simpa [GT.kind] using hk
   have p1:shT (.mk 2 ⟨#[]⟩ v2 [])=pr v2:=by simp [shT]
   have p2:shT (.mk 3 n nil0 l)=n.data.toList++40 :: (shTs [44] l++[41]):=by simp [shT]
   rw [p1] at e2 h
   obtain ⟨t,rfl,ht⟩:=pr_letter hv2 e2 hl
   have p3:pr (.mk 3 0 t [])=t.data.toList:=by simp [pr]
   rw [p3,p2,zqP] at h
   obtain ⟨x1,m1,q1,_,i1⟩:=name_list ht
   obtain ⟨x2,m2,q2,_,i2⟩:=name_list (fn_name (n:=n) (by omega))
   obtain ⟨h1,h2⟩:=span_eq innC _ _ _ _ (by rw [q1]; exact i1) (by rw [q2]; exact i2) (stop_inn hs) (stop_of (by decide)) h.symm
   have:=bytes_ext h1
   subst this
   rcases hx2 with hx | hx
   ·exact hx rfl
   ·have hx:arityOf t<0:=hx
    omega
  ·have p1:shT (.mk 3 n nil0 l)=n.data.toList++40 :: (shTs [44] l++[41]):=by simp [shT]
   have p2:shT (.mk 3 n2 nil0 m2)=n2.data.toList++40 :: (shTs [44] m2++[41]):=by simp [shT]
   rw [p1,p2,zqP,zqP] at h
   obtain ⟨x1,m1,q1,_,i1⟩:=name_list (fn_name (n:=n) (by omega))
   obtain ⟨x2,m2,q2,_,i2⟩:=name_list (fn_name (n:=n2) (by omega))
   obtain ⟨h1,h2⟩:=span_eq innC _ _ _ _ (by rw [q1]; exact i1) (by rw [q2]; exact i2) (stop_of (by decide)) (stop_of (by decide)) h
   simp only [List.cons_append,List.append_eq,List.cons.injEq,true_and,zqP,List.nil_append] at h2
   obtain ⟨h3,h4,_⟩:=ts_split l _ (d - 1) (e - 1) 44 44 r s hm1 hm2 (by decide) (by decide) (by decide) (by decide) h2
   exact ⟨by rw [bytes_ext h1,h3],h4⟩
  ·have p1:shT (.mk 4 n nil0 l)=40 :: (shTs n.data.toList l++[41]):=by simp [shT]
   have p2:shT (.mk 4 n2 nil0 m2)=40 :: (shTs n2.data.toList m2++[41]):=by simp [shT]
   obtain ⟨x1,q1,z1,w1⟩:=op_char hn1
   obtain ⟨x2,q2,z2,w2⟩:=op_char hn2
   rw [p1,p2,q1,q2] at h
   simp only [List.cons_append,List.cons.injEq,true_and,zqP,List.nil_append] at h
   obtain ⟨h3,h4,h5⟩:=ts_split l _ (d - 1) (e - 1) x1 x2 r s hy1 hy2 z1 z2 w1 w2 h
   have hxx:=h5 (by omega)
   subst hxx
   have:n=n2:=bytes_ext (by rw [q1,q2])
   exact ⟨by rw [this,h3],h4⟩
theorem ts_split:∀ (a b:List GT) (d e:Nat) (c c':UInt8) (r s:List UInt8),(∀ x∈a,termR d x=true)→(∀ x∈b,termR e x=true)→varC c=false→varC c'=false→c≠41→c'≠41 →
  shTs [c] a++41 :: r=shTs [c'] b++41 :: s→a=b∧r=s∧(2≤a.length→c=c')
 | [],[],d,e,c,c',r,s,_,_,_,_,_,_,h=>⟨rfl,by simpa [shTs] using h,fun h=>by simp at h⟩
 | [],y :: b,d,e,c,c',r,s,_,hb,_,_,_,_,h=>by
  exfalso
  simp only [shTs,List.nil_append,zqP] at h
  exact th_not41 (hb y (by simp)) _ _ h.symm
 | x :: a,[],d,e,c,c',r,s,ha,_,_,_,_,_,h=>by
  exfalso
  simp only [shTs,List.nil_append,zqP] at h
  exact th_not41 (ha x (by simp)) _ _ h
 | x :: a,y :: b,d,e,c,c',r,s,ha,hb,z1,z2,w1,w2,h=>by
  simp only [shTs,zqP] at h
  obtain ⟨h0,h1⟩:=t_split x y d e _ _ (ha x (by simp)) (hb y (by simp)) (stop_tc z1 a r) (stop_tc z2 b s) h
  obtain ⟨h2,h3,h4⟩:=tc_split a b d e c c' r s (fun z hz=>ha z (by simp [hz])) (fun z hz=>hb z (by simp [hz])) z1 z2 w1 w2 h1
  exact ⟨by rw [h0,h2],h3,fun hl=>h4 (by rintro rfl; simp at hl)⟩
theorem tc_split:∀ (a b:List GT) (d e:Nat) (c c':UInt8) (r s:List UInt8),(∀ x∈a,termR d x=true)→(∀ x∈b,termR e x=true)→varC c=false→varC c'=false→c≠41→c'≠41 →
  shTc [c] a++41 :: r=shTc [c'] b++41 :: s→a=b∧r=s∧(a≠[]→c=c')
 | [],[],d,e,c,c',r,s,_,_,_,_,_,_,h=>⟨rfl,by simpa [shTc] using h,fun h=>absurd rfl h⟩
 | [],y :: b,d,e,c,c',r,s,_,hb,_,_,_,w2,h=>by
  exfalso
  simp only [shTc,List.nil_append,List.cons_append,List.cons.injEq] at h
  exact w2 h.1.symm
 | x :: a,[],d,e,c,c',r,s,ha,_,_,_,w1,_,h=>by
  exfalso
  simp only [shTc,List.nil_append,List.cons_append,List.cons.injEq] at h
  exact w1 h.1
 | x :: a,y :: b,d,e,c,c',r,s,ha,hb,z1,z2,w1,w2,h=>by
  simp only [shTc,List.cons_append,List.nil_append,List.cons.injEq,zqP] at h
  obtain ⟨hc,h⟩:=h
  obtain ⟨h0,h1⟩:=t_split x y d e _ _ (ha x (by simp)) (hb y (by simp)) (stop_tc z1 a r) (stop_tc z2 b s) h
  obtain ⟨h2,h3,h4⟩:=tc_split a b d e c c' r s (fun z hz=>ha z (by simp [hz])) (fun z hz=>hb z (by simp [hz])) z1 z2 w1 w2 h1
  exact ⟨by rw [h0,h2],h3,fun _=>hc⟩
end
end Go.Proofs.YtjfgjnlocadpbaaGreatDoor
end
section
namespace Go.Proofs.YtjfgjnlocadpbaaGreatDoor
open Go.Mach
def headOK (l:List GT):Bool:=match l with
 | t :: _=>decide (t.kind=1) || (decide (t.kind=2) && decide (t.value.kind=3))
 | []=>false
def argsB (l:List GT):Bool:=decide (1≤l.length∧l.length≤8) && l.all (termR 8) && headOK l
def tOK (n:ByteArray):Bool:=decide (n=⟨#[61,61]⟩∨n=⟨#[33,61]⟩∨n=⟨#[60]⟩∨n=⟨#[60,61]⟩∨n=⟨#[62]⟩∨n=⟨#[62,61]⟩)
def litB (l:GL):Bool:=
 if l.kind=1∨l.kind=2 then relOK l.name && argsB l.args
 else if l.kind=3 then tOK l.name && decide (l.args.length=2) && l.args.all (termR 8)
 else if l.kind=4 then varOK l.name && decide (l.args.length=1) && l.args.all (termR 8)
 else false
abbrev sMin:ByteArray:=⟨#[109,105,110]⟩
abbrev sMax:ByteArray:=⟨#[109,97,120]⟩
abbrev sCount:ByteArray:=⟨#[99,111,117,110,116]⟩
def aggB (r:GR):Bool:=
 if r.agg=⟨#[]⟩ then decide (r.pos=0)
 else decide (r.agg=sMin∨r.agg=sMax∨r.agg=sCount) && decide (1≤r.pos∧r.pos<r.args.length) && decide (((r.args[r.pos.toNat]?).map (·.kind))=some 1)
def ruleB (r:GR):Bool:=relOK r.label && relOK r.head && argsB r.args && decide (1≤r.body.length∧r.body.length≤8) && r.body.all litB && aggB r
def tupB (t:GU):Bool:=relOK t.name && decide (1≤t.args.length∧t.args.length≤8) && (match t.args with | v :: _=>decide (v.kind=3) | []=>false) && t.args.all rightT
def declB (d:GD):Bool:=relOK d.name && decide (1≤d.arity∧d.arity≤8)
def progB (p:GP):Bool:=decide (p.decls.length≤64∧p.facts.length≤64∧p.rules.length≤64) && p.facts.all tupB && p.rules.all ruleB && p.decls.all declB
def shAt (agg:List UInt8) (at':Int) (i:Nat) (t:GT):List UInt8:=if agg≠[]∧(i:Int)=at' then agg++60 :: (t.name.data.toList++[62]) else shT t
def shAtC (agg:List UInt8) (at':Int):Nat→List GT→List UInt8
 | _,[]=>[]
 | i,x :: l=>44 :: (shAt agg at' i x++shAtC agg at' (i+1) l)
def shAtS (agg:List UInt8) (at':Int):Nat→List GT→List UInt8
 | _,[]=>[]
 | i,x :: l=>shAt agg at' i x++shAtC agg at' (i+1) l
def shAtom (name:List UInt8) (l:List GT) (agg:List UInt8) (at':Int):List UInt8:=name++40 :: 64 :: (shAtS agg at' 0 l++[41])
def shLit (l:GL):List UInt8:=
 if l.kind=3 then shTs (32 :: (l.name.data.toList++[32])) l.args
 else if l.kind=4 then l.name.data.toList++32 :: 58 :: 61 :: 32 :: (match l.args with | t :: _=>shT t | []=>[])
 else if l.kind=2 then 33 :: shAtom l.name.data.toList l.args [] 0
 else shAtom l.name.data.toList l.args [] 0
def shLitC:List GL→List UInt8
 | []=>[]
 | x :: l=>44 :: 32 :: (shLit x++shLitC l)
def shLitS:List GL→List UInt8
 | []=>[]
 | x :: l=>shLit x++shLitC l
def shRule (r:GR):List UInt8:=r.label.data.toList++32 :: (shAtom r.head.data.toList r.args r.agg.data.toList r.pos++32 :: 58 :: 45 :: 32 :: (shLitS r.body++[46]))
theorem rel_name {s:ByteArray} (h:relOK s=true):nameOK s=true∧arityOf s<0∧s≠sMat:=by
 simpa [relOK,and_assoc] using h
def aggL (a:List UInt8):Prop:=a=[]∨a=sMin.data.toList∨a=sMax.data.toList∨a=sCount.data.toList
def atVar (agg:List UInt8) (at':Int) (i:Nat) (t:GT):Prop:=agg≠[]∧(i:Int)=at'→t.kind=1
def atVars (agg:List UInt8) (at':Int):Nat→List GT→Prop
 | _,[]=>True
 | i,x :: l=>atVar agg at' i x∧atVars agg at' (i+1) l
theorem atVars_nil (p:Int):∀ (i:Nat) (l:List GT),atVars [] p i l
 | _,[]=>trivial
 | i,x :: l=>⟨fun h=>absurd rfl h.1,atVars_nil p (i+1) l⟩
end Go.Proofs.YtjfgjnlocadpbaaGreatDoor
end
section
namespace Go.Proofs.YtjfgjnlocadpbaaGreatDoor
open Go.Mach
theorem args_all {l:List GT} (h:argsB l=true):∀ x∈l,termR 8 x=true:=by
 simp only [argsB,zqL,zqQ] at h; exact h.1.2
theorem lit_cases {l:GL} (h:litB l=true):((l.kind=1∨l.kind=2)∧relOK l.name=true∧argsB l.args=true)∨(l.kind=3∧tOK l.name=true∧∃ x y,l.args=[x,y]∧termR 8 x=true∧termR 8 y=true)∨(l.kind=4∧varOK l.name=true∧∃ x,l.args=[x]∧termR 8 x=true):=by
 unfold litB at h
 split at h
 ·rename_i hk
  rw [zqL] at h
  exact .inl ⟨hk,h.1,h.2⟩
 split at h
 ·rename_i hk
  simp only [zqL,decide_eq_true_eq,zqQ] at h
  match hl:l.args,h.1.2,h.2 with
  | [x,y],_,h2=>exact .inr (.inl ⟨hk,h.1.1,x,y,rfl,h2 x (by simp),h2 y (by simp)⟩)
 split at h
 ·rename_i hk
  simp only [zqL,decide_eq_true_eq,zqQ] at h
  match hl:l.args,h.1.2,h.2 with
  | [x],_,h2=>exact .inr (.inr ⟨hk,h.1.1,x,rfl,h2 x (by simp)⟩)
 ·cases h
theorem sh1 {l:GL} (h:l.kind=1):shLit l=shAtom l.name.data.toList l.args [] 0:=by simp [shLit,h]
theorem sh2 {l:GL} (h:l.kind=2):shLit l=33 :: shAtom l.name.data.toList l.args [] 0:=by simp [shLit,h]
theorem sh3 {l:GL} {x y:GT} (h:l.kind=3) (e:l.args=[x,y]):shLit l=shT x++32 :: (l.name.data.toList++32 :: shT y):=by simp [shLit,h,e,shTs,shTc]
theorem sh4 {l:GL} {x:GT} (h:l.kind=4) (e:l.args=[x]):shLit l=l.name.data.toList++32 :: 58 :: 61 :: 32 :: shT x:=by simp [shLit,h,e]
theorem atVars_of {agg:List UInt8} {p:Int}:∀ (i:Nat) (l:List GT),(∀ j:Nat,(hj:j<l.length)→agg≠[]→((i+j:Nat):Int)=p→(l[j]).kind=1)→atVars agg p i l
 | _,[],_=>trivial
 | i,x :: l,h=>⟨fun hc=>h 0 (by simp) hc.1 (by simpa using hc.2),atVars_of (i+1) l fun j hj h1 h2=>by
   have:=h (j+1) (by simpa using hj) h1 (by rw [←h2]; congr 1; omega)
   simpa using this⟩
theorem ba_list_nil {t:ByteArray}:t.data.toList=[]↔t=⟨#[]⟩:=⟨fun h=>bytes_ext (by rw [h]),fun h=>by rw [h]⟩
theorem agg_L {r:GR} (h:aggB r=true):aggL r.agg.data.toList∧atVars r.agg.data.toList r.pos 0 r.args∧(r.agg=⟨#[]⟩→r.pos=0)∧(r.agg≠⟨#[]⟩→1≤r.pos∧r.pos<r.args.length):=by
 unfold aggB at h
 split at h
 ·rename_i e
  exact ⟨.inl (by rw [e]),by rw [e]; exact atVars_nil ..,fun _=>of_decide_eq_true h,fun h=>absurd e h⟩
 ·rename_i e
  simp only [zqL,decide_eq_true_eq] at h
  refine ⟨?_,?_,fun h=>absurd h e,fun _=>h.1.2⟩
  ·rcases h.1.1 with e | e | e
   ·exact .inr (.inl (by rw [e]))
   ·exact .inr (.inr (.inl (by rw [e])))
   ·exact .inr (.inr (.inr (by rw [e])))
  ·refine atVars_of 0 _ fun j hj _ hp=>?_
   have h2:=h.2
   have:r.pos.toNat=j:=by omega
   rw [this,zqF hj] at h2
   simpa using h2
inductive Ln where
 | d (x:GD) | u (x:GU) | r (x:GR)
def Ln.ok:Ln→Bool
 | .d x=>declB x | .u x=>tupB x | .r x=>ruleB x
def Ln.D:Ln→Option GD | .d x=>some x | _=>none
def Ln.R:Ln→Option GR | .r x=>some x | _=>none
end Go.Proofs.YtjfgjnlocadpbaaGreatDoor
end
section
namespace Go.Proofs.YtjfgjnlocadpbaaGreatDoor
open Go.Mach
def varG (s:ByteArray) (i:Nat):Bool:=upB (bt s i) || (decide (i≠0) && innerB (bt s i))
theorem varG_iff (s:ByteArray) (i:Nat):varG s i=true↔(65≤bt s i∧bt s i≤90)∨(i≠0∧((97≤bt s i∧bt s i≤122)∨bt s i=95∨(48≤bt s i∧bt s i≤57))):=by
 simp only [varG,upB,innerB,letterB,Bool.or_eq_true,zqL,decide_eq_true_eq]; omega
theorem varOK_iff (t:ByteArray):varOK t=true↔(∀ i,i<t.size→varG t i=true)∧t.size≠0∧t.size≤16:=by
 have hs:t.data.toList.length=t.size:=by simp
 simp only [varOK,zqL,decide_eq_true_eq]
 match hl:t.data.toList with
 | []=>
  rw [hl] at hs; simp at hs
  simp only [varL,Bool.false_eq_true,false_and,false_iff]; omega
 | c :: l=>
  rw [hl] at hs; simp at hs
  have hb:∀ i,bt t i=(((c :: l)[i]?).getD 0).toNat:=fun i=>by simp only [bt,hl]
  simp only [varL,zqL,zqQ]
  constructor
  ·rintro ⟨⟨h1,h2⟩,h3⟩
   refine ⟨fun i hi=>?_,by omega,h3⟩
   unfold varG
   cases i with
   | zero=>simp [hb,h1]
   | succ i=>
    have hi':i<l.length:=by omega
    have:=h2 l[i] (zqT hi')
    simpa [hb,zqF hi'] using this
  ·rintro ⟨h1,h2,h3⟩
   refine ⟨⟨?_,fun x hx=>?_⟩,h3⟩
   ·have:=h1 0 (by omega)
    simpa [varG,hb] using this
   ·obtain ⟨i,hi,rfl⟩:=zqS hx
    have:=h1 (i+1) (by omega)
    simpa [varG,hb,zqF hi] using this
theorem varOK_no {t:ByteArray} {i:Nat} (h:i<t.size) (hp:¬ ((65≤bt t i∧bt t i≤90)∨(i≠0∧((97≤bt t i∧bt t i≤122)∨bt t i=95∨(48≤bt t i∧bt t i≤57))))):varOK t=false:=by
 rw [←varG_iff] at hp
 rw [Bool.eq_false_iff,Ne,varOK_iff]; intro hh; exact hp (hh.1 i h)
theorem var_ok (t:ByteArray) (ht:t.size≤100000000000):pureT T c111 [.str t]=some (.bool (varOK t)):=by
 apply pure_enter (by simp [c111])
 simp [c111]
 refine W_for T 0 52 t.size (fun i f σ=>f 0=.str t∧f 7=.ptr 0 0∧σ=[.iter t i]∧∀ j,j<i→varG t j=true) ?_ _ _ ?_
 ·rintro i f σ hi ⟨h0,h6,rfl,hall⟩
  by_cases hlt:i<t.size
  ·have hno:=@varOK_no t i hlt
   have hyes:_→∀ j,j<i+1→varG t j=true:=fun h j hj=>by
    by_cases e:j=i
    ·subst e; exact (varG_iff t j).2 h
    ·exact hall j (by omega)
   by_cases hlo:bt t i<128
   ·simp [h0,h6,hlt,dec_lo hlt hlo]
    repeat' (first | apply And.intro | intro _)
    all_goals first | exact hno (by omega) | exact hyes (by omega) _ (by assumption)
   ·have:=dec_hi hlt (by omega)
    simp [h0,h6,hlt]
    repeat' (first | apply And.intro | intro _)
    all_goals first | exact hno (by omega) | omega
  ·have he:i=t.size:=by omega
   subst he
   have hb:(varOK t=true)↔t.size≠0∧t.size≤16:=by rw [varOK_iff]; exact ⟨fun h=>h.2,fun h=>⟨fun i hi=>hall i hi,h⟩⟩
   simp [h0,h6,ba_empty,ba_nil,-ByteArray.size_eq_zero_iff]
   refine ⟨fun h=>⟨fun h2=>hb.2 ⟨h,by omega⟩,fun h2=>?_⟩,fun h=>?_⟩
   all_goals (refine Bool.eq_false_iff.2 fun hh=>?_; have:=hb.1 hh; omega)
 ·simp
theorem callVar (t:ByteArray) (ht:t.size≤100000000000) (bs:Nat) (σ:Heap):callT T 111 [.str t] bs σ=some (.bool (sym (varOK t)),σ):=call_clean rfl rfl rfl rfl (var_ok t ht)
theorem rel_ok (t:ByteArray) (ht:t.size≤100000000000):pureT T c69 [.str t]=some (.bool (relOK t)):=by
 have h1:=name_call t ht
 have h2:=bArity t
 apply pure_enter (by simp [c69])
 unfold relOK sMat
 generalize nameOK t=b at *
 cases b
 ·simp [c69,h1,h2]
 ·by_cases h3:arityOf t<0
  ·by_cases h4:t=⟨#[109,97,116,101,114,105,97,108,105,122,101]⟩
   ·simp [c69,h1,h2,h3,←h4]
   ·simp [c69,h1,h2,h3,h4]
  ·simp [c69,h1,h2,h3]
theorem callRel (t:ByteArray) (ht:t.size≤100000000000) (bs:Nat) (σ:Heap):callT T 69 [.str t] bs σ=some (.bool (sym (relOK t)),σ):=call_clean rfl rfl rfl rfl (rel_ok t ht)
theorem pterm_ok:∀ (d:Nat) (t:GT),d≤100→t.size≤100000000000→pureT T c133 [t.enc,.int .i64 (d:Int)]=some (.bool (termR d t)):=by
 intro d
 induction d with
 | zero=>
  intro t hd hs
  obtain ⟨k,n,⟨vk,vn,vt,vl⟩,l⟩:=t
  simp only [GT.size,GV.size] at hs
  have hvar:=callVar n (by omega)
  have hval:=valRight (.mk vk vn vt vl) (by simp only [GV.size]; omega)
  have har1:=bArity vt
  have har2:=bArity n
  apply pure_enter (by simp [c133])
  by_cases h1:k=1
  ·subst h1
   simp [c133,GT.enc_eq,GT.kind,GT.name,GT.value,GT.args,GV.kind,GV.num,GV.text,GV.items,hvar,hval,har1,har2,enc_mk,setRun,termR,termB,bareV,opOK]
   repeat' (first | apply And.intro | intro _)
   all_goals first | (simp_all; done) | grind
  by_cases h2:k=2
  ·subst h2
   simp [c133,GT.enc_eq,GT.kind,GT.name,GT.value,GT.args,GV.kind,GV.num,GV.text,GV.items,hvar,hval,har1,har2,enc_mk,setRun,termR,termB,bareV,opOK]
   repeat' (first | apply And.intro | intro _)
   all_goals first | (simp_all; done) | grind
  by_cases h3:k=3
  ·subst h3
   simp [c133,GT.enc_eq,GT.kind,GT.name,GT.value,GT.args,GV.kind,GV.num,GV.text,GV.items,hvar,hval,har1,har2,enc_mk,setRun,termR,termB,bareV,opOK]
   repeat' (first | apply And.intro | intro _)
   all_goals first | (simp_all; done) | grind
  by_cases h4:k=4
  ·subst h4
   simp [c133,GT.enc_eq,GT.kind,GT.name,GT.value,GT.args,GV.kind,GV.num,GV.text,GV.items,hvar,hval,har1,har2,enc_mk,setRun,termR,termB,bareV,opOK]
   repeat' (first | apply And.intro | intro _)
   all_goals first | (simp_all; done) | grind
  simp [c133,GT.enc_eq,GT.kind,GT.name,GT.value,GT.args,GV.kind,GV.num,GV.text,GV.items,hvar,hval,har1,har2,enc_mk,setRun,termR,termB,bareV,opOK,h1,h2,h3,h4]
 | succ d ih=>
  intro t hd hs
  obtain ⟨k,n,⟨vk,vn,vt,vl⟩,l⟩:=t
  simp only [GT.size,GV.size] at hs
  have hlen:=GT.len_sizes l
  have hw:IntKind.i64.wrap (d:Int)=(d:Int):=wr64 (by omega) (by omega)
  have hall:∀ bs A C,callT T 108 [.isl (GT.encs l) false,.func 153 [.ptr 1 0]] bs [A,.cells [.int .i64 ((d:Int)+1)] 0 false,C]=some (.bool (sym (l.all (termR d))),[A,.cells [.int .i64 ((d:Int)+1)] 0 false,C]):=fun bs A C=>
   allTerm (termR d) l 153 [.ptr 1 0] (by omega) _ (fun x hx τ bs=>by
    have hr:∀ bs σ,callT T 133 [x.enc,.int .i64 d] bs σ=some (.bool (termR d x),σ):=fun bs σ=>call_clean rfl rfl rfl (by simp) (ih x (by omega) (by have:=(GT.sizes_mem hx).1; omega))
    refine heap_enter (af:=c153) (args':=[x.enc,.ptr 1 0]) rfl rfl (by simp [c153]) (by simp [c153]) rfl ?_
    simp [c153,baseA,hr,hw,←GT.enc_eq,setRun,dropA_gc,refLt,res1,refLt2_bool]) bs
  have hvar:=callVar n (by omega)
  have hval:=valRight (.mk vk vn vt vl) (by simp only [GV.size]; omega)
  have har1:=bArity vt
  have har2:=bArity n
  apply pure_enter (by simp [c133])
  by_cases h1:k=1
  ·subst h1
   simp [c133,GT.enc_eq,GT.kind,GT.name,GT.value,GT.args,GV.kind,GV.num,GV.text,GV.items,hvar,hval,har1,har2,enc_mk,setRun,termR,termB,bareV,opOK,hall]
   repeat' (first | apply And.intro | intro _)
   all_goals first | (simp_all; done) | grind
  by_cases h2:k=2
  ·subst h2
   simp [c133,GT.enc_eq,GT.kind,GT.name,GT.value,GT.args,GV.kind,GV.num,GV.text,GV.items,hvar,hval,har1,har2,enc_mk,setRun,termR,termB,bareV,opOK,hall]
   repeat' (first | apply And.intro | intro _)
   all_goals first | (simp_all; done) | grind
  by_cases h3:k=3
  ·subst h3
   simp [c133,GT.enc_eq,GT.kind,GT.name,GT.value,GT.args,GV.kind,GV.num,GV.text,GV.items,hvar,hval,har1,har2,enc_mk,setRun,termR,termB,bareV,opOK,hall]
   repeat' (first | apply And.intro | intro _)
   all_goals first | (simp_all; done) | grind
  by_cases h4:k=4
  ·subst h4
   simp [c133,GT.enc_eq,GT.kind,GT.name,GT.value,GT.args,GV.kind,GV.num,GV.text,GV.items,hvar,hval,har1,har2,enc_mk,setRun,termR,termB,bareV,opOK,hall]
   repeat' (first | apply And.intro | intro _)
   all_goals first | (simp_all; done) | grind
  simp [c133,GT.enc_eq,GT.kind,GT.name,GT.value,GT.args,GV.kind,GV.num,GV.text,GV.items,hvar,hval,har1,har2,enc_mk,setRun,termR,termB,bareV,opOK,h1,h2,h3,h4]
end Go.Proofs.YtjfgjnlocadpbaaGreatDoor
end
section
namespace Go.Proofs.YtjfgjnlocadpbaaGreatDoor
open Go.Mach
theorem idxS_ok (l:List ByteArray) (s:ByteArray) (hl:l.length≤100000000000) :
  pureT T c85 [.isl (l.map .str) false,.str s]=some (.int .i64 (idxG (fun x=>decide (s=x)) l)):=by
 apply pure_enter (by simp [c85])
 simp [c85]
 refine W_for T 0 19 l.length (fun i f σ=>f 0=.isl (l.map .str) false∧f 1=.str s∧f 7=.int .i64 (l.length:Int)∧f 8=.int .i64 (i:Int)∧∀ j,(hj:j<l.length)→j<i→decide (s=l[j])=false) ?_ _ _ ?_
 ·rintro i f σ hi ⟨h0,h1,h7,h8,hall⟩
  by_cases hlt:i<l.length
  ·have e1:l[i]?=some l[i]:=zqF hlt
   by_cases hp:s=l[i]
   ·simp [h0,h1,h7,h8,hlt,←hp]
    simp [idxG,idxG_drop (fun x=>decide (s=x)) l i hlt hall (by simp [←hp])]
   ·simp [h0,h1,h7,h8,hlt,hp]
    refine ⟨wr64 (by omega) (by omega),fun j hj hji=>?_⟩
    by_cases e:j=i
    ·subst e; exact hp
    ·simpa using hall j hj (by omega)
  ·have he:i=l.length:=by omega
   subst he
   have hn:l.findIdx? (fun x=>decide (s=x))=none:=by
    rw [List.findIdx?_eq_none_iff]
    intro x hx
    obtain ⟨j,hj,rfl⟩:=zqS hx
    exact hall j hj hj
   simp [h0,h1,h7,h8,idxG,hn]
 ·simp
theorem conS_ok (l:List ByteArray) (s:ByteArray) (hl:l.length≤100000000000) :
  pureT T c48 [.isl (l.map .str) false,.str s]=some (.bool (l.any (fun x=>decide (s=x)))):=by
 have h1:∀ bs σ,callT T 85 [.isl (l.map .str) false,.str s] bs σ=some (.int .i64 (idxG (fun x=>decide (s=x)) l),σ):=fun bs σ=>call_clean rfl rfl rfl (by simp) (idxS_ok l s hl)
 have h2:=idxG_any (fun x=>decide (s=x)) l
 apply pure_enter (by simp [c48])
 simp [c48,h1]
 refine ⟨fun h=>by simpa using h2.1 h,fun h x hx e=>?_⟩
 have:=h2.2 (by simp; exact e ▸ hx)
 omega
def six:List ByteArray:=[⟨#[61,61]⟩,⟨#[33,61]⟩,⟨#[60]⟩,⟨#[60,61]⟩,⟨#[62]⟩,⟨#[62,61]⟩]
theorem six_any (s:ByteArray):six.any (fun x=>decide (s=x))=tOK s:=by
 rw [Bool.eq_iff_iff]; simp [six,tOK]
theorem conSix (s:ByteArray) (o:AObj) (bs:Nat):callT T 48 [.sl 1 0 6 1 false,.str s] bs [o,.cells [.str ⟨#[61,61]⟩,.str ⟨#[33,61]⟩,.str ⟨#[60]⟩,.str ⟨#[60,61]⟩,.str ⟨#[62]⟩,.str ⟨#[62,61]⟩] 0 false] =
  some (.bool (sym (tOK s)),[o,.cells [.str ⟨#[61,61]⟩,.str ⟨#[33,61]⟩,.str ⟨#[60]⟩,.str ⟨#[60,61]⟩,.str ⟨#[62]⟩,.str ⟨#[62,61]⟩] 0 false]):=by
 have h:=conS_ok six s (by decide)
 rw [six_any] at h
 exact call_scal rfl rfl rfl h rfl (by simp) rfl
theorem fine_ok (t:GT) (hs:t.size≤100000000000):pureT T c109 [t.enc]=some (.bool (termR 8 t)):=by
 have h:∀ bs σ,callT T 133 [t.enc,.int .i64 8] bs σ=some (.bool (sym (termR 8 t)),σ):=fun bs σ=>call_clean rfl rfl rfl (by simp) (pterm_ok 8 t (by omega) hs)
 apply pure_enter (by simp [c109])
 simp [c109,h,←GT.enc_eq]
theorem callFine (t:GT) (hs:t.size≤100000000000) (bs:Nat) (σ:Heap):callT T 109 [t.enc] bs σ=some (.bool (sym (termR 8 t)),σ):=call_clean rfl rfl rfl (by simp) (fine_ok t hs)
theorem allFine (l:List GT) (hs:GT.sizes l≤10000000000) (bs:Nat) (σ:Heap):callT T 108 [.isl (GT.encs l) false,.func 109 []] bs σ=some (.bool (sym (l.all (termR 8))),σ):=
 allTerm (termR 8) l 109 [] (by have:=GT.len_sizes l; omega) σ (fun x hx τ bs=>callFine x (by have:=(GT.sizes_mem hx).1; omega) bs _) bs
theorem pargs_ok (l:List GT) (hs:GT.sizes l≤10000000000):pureT T c76 [.isl (GT.encs l) false]=some (.bool (argsB l)):=by
 have hall:=allFine l hs
 have hlen:=GT.len_sizes l
 apply pure_enter (by simp [c76])
 unfold argsB headOK
 generalize l.all (termR 8)=b at *
 match l with
 | []=>simp [c76]
 | x :: l=>
  simp only [zqU] at *
  by_cases h8:l.length+1≤8
  ·have h8':¬ (8<(l.length:Int)+1):=by omega
   have h1':¬ ((l.length:Int)+1<1):=by omega
   cases b
   ·simp [c76,hall,h8,h8',h1']
   ·simp [c76,hall,h8,h8',h1']
    repeat' (first | apply And.intro | intro _)
    all_goals first | (simp_all; done) | grind
  ·have h8':8<(l.length:Int)+1:=by omega
   have h1':¬ ((l.length:Int)+1<1):=by omega
   simp [c76,hall,h8,h8',h1']
theorem callArgs (l:List GT) (hs:GT.sizes l≤10000000000) (bs:Nat) (σ:Heap):callT T 76 [.isl (GT.encs l) false] bs σ=some (.bool (sym (argsB l)),σ):=call_clean rfl rfl rfl (by simp) (pargs_ok l hs)
theorem plit_ok (x:GL) (hs:x.size≤10000000000):pureT T c78 [x.enc]=some (.bool (litB x)):=by
 have h1:=x.name_le
 have h2:=x.args_le
 obtain ⟨k,n,l⟩:=x
 simp only at h1 h2
 have hrel:=callRel n (by omega)
 have hvar:=callVar n (by omega)
 have hargs:=callArgs l (by omega)
 have hall:=allFine l (by omega)
 have hcon:=conSix n
 apply pure_enter (by simp [c78])
 unfold litB
 by_cases k1:k=1
 ·subst k1
  simp [c78,GL.enc_eq,hrel,hargs]
  cases relOK n <;> simp
 by_cases k2:k=2
 ·subst k2
  simp [c78,GL.enc_eq,hrel,hargs]
  cases relOK n <;> simp
 by_cases k3:k=3
 ·subst k3
  generalize l.all (termR 8)=b at *
  simp [c78,GL.enc_eq,hcon,hall]
  repeat' (first | apply And.intro | intro _)
  all_goals first | (simp_all; done) | omega | grind
 by_cases k4:k=4
 ·subst k4
  generalize l.all (termR 8)=b at *
  simp [c78,GL.enc_eq,hvar,hall]
  repeat' (first | apply And.intro | intro _)
  all_goals first | (simp_all; done) | omega | grind
 simp [c78,GL.enc_eq,k1,k2,k3,k4]
theorem callPLit (x:GL) (hs:x.size≤10000000000) (bs:Nat) (σ:Heap):callT T 78 [x.enc] bs σ=some (.bool (sym (litB x)),σ):=call_clean rfl rfl rfl (by simp) (plit_ok x hs)
theorem ptup_ok (x:GU) (hs:x.size≤10000000000):pureT T c65 [x.enc]=some (.bool (tupB x)):=by
 have h1:=x.name_le
 have h2:=x.args_le
 obtain ⟨n,l⟩:=x
 simp only at h1 h2
 have hrel:=callRel n (by omega)
 have hlen:=len_sizes l
 have hall:∀ bs σ,callT T 97 [.isl (GV.encs l) false,.func 98 []] bs σ=some (.bool (sym (l.all rightT)),σ):=fun bs σ=>
  allValue rightT l 98 [] (by omega) σ (fun x hx τ bs=>valRight x (by have:=(sizes_mem hx).1; omega) bs _) bs
 apply pure_enter (by simp [c65])
 unfold tupB
 generalize l.all rightT=b at *
 match l with
 | []=>
  simp [c65,GU.enc_eq,hrel]
 | x :: l=>
  simp only [zqU] at *
  simp [c65,GU.enc_eq,hrel,hall]
  repeat' (first | apply And.intro | intro _)
  all_goals first | (simp_all; done) | omega | grind
theorem callPTup (x:GU) (hs:x.size≤10000000000) (bs:Nat) (σ:Heap):callT T 65 [x.enc] bs σ=some (.bool (sym (tupB x)),σ):=call_clean rfl rfl rfl (by simp) (ptup_ok x hs)
theorem pdecl_ok (x:GD) (hs:x.size≤10000000000):pureT T c68 [x.enc]=some (.bool (declB x)):=by
 have h1:=x.name_le
 obtain ⟨n,l⟩:=x
 simp only at h1
 have hrel:=callRel n (by omega)
 apply pure_enter (by simp [c68])
 unfold declB
 simp [c68,GD.enc_eq,hrel]
 repeat' (first | apply And.intro | intro _)
 all_goals first | (simp_all; done) | omega | grind
theorem callPDecl (x:GD) (hs:x.size≤10000000000) (bs:Nat) (σ:Heap):callT T 68 [x.enc] bs σ=some (.bool (sym (declB x)),σ):=call_clean rfl rfl rfl (by simp) (pdecl_ok x hs)
end Go.Proofs.YtjfgjnlocadpbaaGreatDoor
end
section
namespace Go.Proofs.YtjfgjnlocadpbaaGreatDoor
open Go.Mach
theorem prule_ok (x:GR) (hs:x.size≤10000000000):pureT T c46 [x.enc]=some (.bool (ruleB x)):=by
 have h1:=x.label_le
 have h2:=x.head_le
 have h3:=x.args_le
 have h4:=x.agg_le
 have h5:=x.body_len
 have h6:=fun y hy=>x.body_mem (y:=y) hy
 obtain ⟨lab,hd,l,agg,at',body⟩:=x
 simp only at h1 h2 h3 h4 h5 h6
 have hlen:=GT.len_sizes l
 have hr1:=callRel lab (by omega)
 have hr2:=callRel hd (by omega)
 have hargs:=callArgs l (by omega)
 have hall:∀ bs σ,callT T 77 [.isl (body.map GL.enc) false,.func 78 []] bs σ=some (.bool (sym (body.all litB)),σ):=fun bs σ=>
  allLiteral litB body 78 [] (by omega) σ (fun y hy τ bs=>callPLit y (by have:=h6 y hy; omega) bs _) bs
 apply pure_enter (by simp [c46])
 unfold ruleB
 simp only
 generalize body.all litB=b at *
 generalize relOK lab=b1 at *
 generalize relOK hd=b2 at *
 generalize argsB l=b3 at *
 cases b1
 ·simp [c46,GR.enc_eq,hr1]
 cases b2
 ·simp [c46,GR.enc_eq,hr1,hr2]
 cases b3
 ·simp [c46,GR.enc_eq,hr1,hr2,hargs]
 by_cases c1:body.length<1
 ·have c1':(body.length:Int)<1:=by omega
  simp [c46,GR.enc_eq,hr1,hr2,hargs,c1']
  omega
 by_cases c2:8<body.length
 ·have c1':¬ (body.length:Int)<1:=by omega
  have c2':8<(body.length:Int):=by omega
  simp [c46,GR.enc_eq,hr1,hr2,hargs,c1',c2']
  omega
 have c1':¬ (body.length:Int)<1:=by omega
 have c2':¬ 8<(body.length:Int):=by omega
 cases b
 ·simp [c46,GR.enc_eq,hr1,hr2,hargs,c1',c2',hall]
 have c3:1≤body.length∧body.length≤8:=by omega
 unfold aggB
 simp only [c3,and_self,decide_true,Bool.and_true,Bool.true_and]
 by_cases g0:agg=⟨#[]⟩
 ·subst g0
  simp [c46,GR.enc_eq,hr1,hr2,hargs,c1',c2',hall]
  done
 rw [if_neg g0]
 by_cases g1:agg=sMin∨agg=sMax∨agg=sCount
 ·have hat:∀ h:1≤at'∧at'<l.length,at'.toNat<l.length:=fun h=>by omega
  by_cases g2:1≤at'∧at'<(l.length:Int)
  ·obtain ⟨t,ht⟩:∃ t,l[at'.toNat]?=some t:=⟨_,zqF (hat g2)⟩
   have g3:0≤at':=by omega
   rcases g1 with rfl | rfl | rfl
   all_goals
    simp [c46,GR.enc_eq,hr1,hr2,hargs,c1',c2',hall,g2,g3,ht]
  ·rcases g1 with rfl | rfl | rfl
   all_goals
    simp [c46,GR.enc_eq,hr1,hr2,hargs,c1',c2',hall,g2]
    try grind
 ·have g1':=not_or.1 g1
  have g2':=not_or.1 g1'.2
  simp [c46,GR.enc_eq,hr1,hr2,hargs,c1',c2',hall,g0,g1'.1,g2'.1,g2'.2]
theorem callPRule (x:GR) (hs:x.size≤10000000000) (bs:Nat) (σ:Heap):callT T 46 [x.enc] bs σ=some (.bool (sym (ruleB x)),σ):=call_clean rfl rfl rfl (by simp) (prule_ok x hs)
theorem pright_ok (x:GP) (hs:x.size≤10000000000):pureT T c42 [x.enc]=some (.bool (progB x)):=by
 have h1:=x.decls_len
 have h2:=x.facts_len
 have h3:=x.rules_len
 have m1:=fun y hy=>x.decls_mem (y:=y) hy
 have m2:=fun y hy=>x.facts_mem (y:=y) hy
 have m3:=fun y hy=>x.rules_mem (y:=y) hy
 obtain ⟨ds,us,rs⟩:=x
 simp only at h1 h2 h3 m1 m2 m3
 have a1:∀ bs σ,callT T 67 [.isl (ds.map GD.enc) false,.func 68 []] bs σ=some (.bool (sym (ds.all declB)),σ):=fun bs σ=>
  allDecl declB ds 68 [] (by omega) σ (fun y hy τ bs=>callPDecl y (by have:=m1 y hy; omega) bs _) bs
 have a2:∀ bs σ,callT T 64 [.isl (us.map GU.enc) false,.func 65 []] bs σ=some (.bool (sym (us.all tupB)),σ):=fun bs σ=>
  allTuple tupB us 65 [] (by omega) σ (fun y hy τ bs=>callPTup y (by have:=m2 y hy; omega) bs _) bs
 have a3:∀ bs σ,callT T 66 [.isl (rs.map GR.enc) false,.func 46 []] bs σ=some (.bool (sym (rs.all ruleB)),σ):=fun bs σ=>
  allRule ruleB rs 46 [] (by omega) σ (fun y hy τ bs=>callPRule y (by have:=m3 y hy; omega) bs _) bs
 apply pure_enter (by simp [c42])
 unfold progB
 simp only
 generalize ds.all declB=b1 at *
 generalize us.all tupB=b2 at *
 generalize rs.all ruleB=b3 at *
 simp [c42,GP.enc_eq,a1,a2,a3]
 repeat' (first | apply And.intro | intro _)
 all_goals first | (simp_all; done) | omega | grind
theorem callPRight (x:GP) (hs:x.size≤10000000000) (bs:Nat) (σ:Heap):callT T 42 [x.enc] bs σ=some (.bool (sym (progB x)),σ):=call_clean rfl rfl rfl (by simp) (pright_ok x hs)
end Go.Proofs.YtjfgjnlocadpbaaGreatDoor
end
section
namespace Go.Proofs.YtjfgjnlocadpbaaGreatDoor
open Go.Mach
def joinF {α:Type} (f:Nat→α→List UInt8) (sep:List UInt8):Nat→List α→List UInt8
 | _,[]=>[]
 | i,x :: l=>(if i=0 then [] else sep)++(f i x++joinF f sep (i+1) l)
theorem joinF_snoc {α:Type} (f:Nat→α→List UInt8) (sep:List UInt8):∀ (i:Nat) (l:List α) (x:α),joinF f sep i (l++[x])=joinF f sep i l++((if i+l.length=0 then [] else sep)++f (i+l.length) x)
 | i,[],x=>by simp [joinF]
 | i,y :: l,x=>by
  have e:i+1+l.length=i+(l.length+1):=by omega
  simp only [List.cons_append,joinF,joinF_snoc f sep (i+1) l x,zqP,zqU,e]
  try simp
theorem joinF_take {α:Type} (f:Nat→α→List UInt8) (sep:List UInt8) (l:List α) (i:Nat) (h:i<l.length):joinF f sep 0 (l.take (i+1))=joinF f sep 0 (l.take i)++((if i=0 then [] else sep)++f i l[i]):=by
 have e:l.take (i+1)=l.take i++[l[i]]:=by rw [List.take_add_one,zqF h]; rfl
 have e2:0+(l.take i).length=i:=by simp; omega
 rw [e,joinF_snoc,e2]
theorem joinF_app {α:Type} (f:Nat→α→List UInt8) (sep:List UInt8):∀ (i:Nat) (l m:List α),joinF f sep i (l++m)=joinF f sep i l++joinF f sep (i+l.length) m
 | i,[],m=>by simp [joinF]
 | i,x :: l,m=>by
  have e:i+1+l.length=i+(l.length+1):=by omega
  simp only [List.cons_append,joinF,joinF_app f sep (i+1) l m,zqP,zqU,e]
theorem joinF_le {α:Type} (f:Nat→α→List UInt8) (sep:List UInt8) (l:List α) (i:Nat):(joinF f sep 0 (l.take i)).length≤(joinF f sep 0 l).length:=by
 have:=joinF_app f sep 0 (l.take i) (l.drop i)
 rw [List.take_append_drop] at this
 rw [this,zqJ]; omega
theorem bld_app {σ τ:Heap} {id:Nat} {o:AObj} (h:id<σ.length):(σ.set id o++τ)[id]?=some o:=by
 rw [zqA (by simpa using h)]; simp [h]
theorem set_app {σ τ:Heap} {id:Nat} {o o':AObj} (h:id<σ.length):(σ.set id o++τ).set id o'=σ.set id o'++τ:=by
 rw [List.set_append_left _ _ (by simpa using h),List.set_set]
theorem take_app2 {σ τ ρ:Heap} {id:Nat} {o:AObj}:(σ.set id o++(τ++ρ)).take (σ.length+τ.length)=σ.set id o++τ:=by
 rw [←zqP,List.take_append_of_le_length (by simp),List.take_of_length_le (by simp)]
theorem ws_at {σ τ:Heap} {id t:Nat} {l:List UInt8} {s:ByteArray} (bs:Nat) (h:id<σ.length) (ht:t∈bldTs) (hl:l.length+s.size≤70368744177664) :
  callT T 79 [.ptr id 0,.str s] bs (σ.set id (.bld t 5 l)++τ)=some (.undef,σ.set id (.bld t 5 (l++s.data.toList))++τ):=by
 rw [callWS bs (bld_app h) ht hl,set_app h]
theorem wb_at {σ τ:Heap} {id t:Nat} {l:List UInt8} {n:Int} (bs:Nat) (h:id<σ.length) (ht:t∈bldTs) (hl:l.length+1≤70368744177664) (h0:0≤n) (h1:n<256) :
  callT T 84 [.ptr id 0,.int .u8 n] bs (σ.set id (.bld t 5 l)++τ)=some (.undef,σ.set id (.bld t 5 (l++[UInt8.ofNat n.toNat]))++τ):=by
 rw [callWB bs (bld_app h) ht hl h0 h1,set_app h]
theorem listTerm (w:Nat→GT→List UInt8) (s:ByteArray) (l:List GT) (g:Nat) (caps:List AV) (σ:Heap) (id t:Nat) (c0:List UInt8) (τ:Heap) (hid:id<σ.length) (ht:t∈bldTs) (hl:l.length≤100000000000) (hL:c0.length+(joinF w s.data.toList 0 l).length≤70368744177664)
  (hc:∀ (i:Nat) (hi:i<l.length) (cur:List UInt8) ρ bs,cur.length+(w i l[i]).length≤70368744177664→callT T g (.int .i64 (i:Int) :: l[i].enc :: caps) bs (σ.set id (.bld t 5 cur)++(τ++ρ))=some (.tup [],σ.set id (.bld t 5 (cur++w i l[i]))++(τ++ρ))) (bs:Nat) :
  callT T 113 [.ptr id 0,.isl (GT.encs l) false,.str s,.func g caps] bs (σ.set id (.bld t 5 c0)++τ)=some (.tup [],σ.set id (.bld t 5 (c0++joinF w s.data.toList 0 l))++τ):=by
 have hsl:(σ.set id (.bld t 5 c0)++τ).length=σ.length+τ.length:=by simp
 refine heap_enter (af:=c113) (args':=[.ptr id 0,.isl (GT.encs l) false,.str s,.func g caps]) (σ1:=σ.set id (.bld t 5 c0)++τ) rfl rfl (by simp [c113]) (by simp [c113]) rfl ?_
 simp [c113,baseA]
 refine W_for T _ 29 l.length (fun i f ρ=>f 0=.ptr id 0∧f 2=.str s∧f 3=.func g caps∧f 10=.isl (GT.encs l) false∧f 11=.int .i64 (l.length:Int)∧f 12=.int .i64 (i:Int)∧∃ rest,ρ=σ.set id (.bld t 5 (c0++joinF w s.data.toList 0 (l.take i)))++(τ++rest)) ?_ _ _ ?_
 ·rintro i f ρ hi ⟨g0,g2,g3,g10,g11,g12,rest,rfl⟩
  by_cases hlt:i<l.length
  ·have e1:l[i]?=some l[i]:=zqF hlt
   have hw:IntKind.i64.wrap ((i:Int)+1)=(i:Int)+1:=wr64 (by omega) (by omega)
   have hj:=joinF_take w s.data.toList l i hlt
   have hle:=joinF_le w s.data.toList l (i+1)
   rw [hj] at hle ⊢
   generalize joinF w s.data.toList 0 (l.take i)=cur at *
   have hss:s.data.toList.length=s.size:=by simp
   by_cases h0:i=0
   ·have h0':¬ (0<i):=by omega
    simp only [h0,if_true,List.nil_append,zqJ] at hle
    have hcl:=fun r bs=>hc i hlt (c0++cur) (rest++r) bs (by simp only [zqJ]; subst h0; omega)
    simp [g0,g2,g3,g10,g11,g12,hlt,hcl,hw,h0',←GT.enc_eq]
    exact ⟨_,by rw [if_pos h0]; rfl⟩
   ·have h0':0<i:=by omega
    simp only [h0,if_false,zqJ] at hle
    have hws:=fun r bs=>ws_at (σ:=σ) (τ:=τ++(rest++r)) (s:=s) (l:=c0++cur) bs hid ht (by simp only [zqJ]; omega)
    have hcl:=fun r bs=>hc i hlt (c0++cur++s.data.toList) (rest++r) bs (by simp only [zqJ]; omega)
    simp only [zqP] at hws hcl
    simp [g0,g2,g3,g10,g11,g12,hlt,hws,hcl,hw,h0',←GT.enc_eq]
    exact ⟨_,by rw [if_neg h0]⟩
  ·have he:i=l.length:=by omega
   subst he
   simp [g0,g2,g3,g10,g11,g12,dropA_gc,refLt,res1]
   exact take_app2
 ·simp [joinF]
theorem listLiteral (w:Nat→GL→List UInt8) (s:ByteArray) (l:List GL) (g:Nat) (caps:List AV) (σ:Heap) (id t:Nat) (c0:List UInt8) (τ:Heap) (hid:id<σ.length) (ht:t∈bldTs) (hl:l.length≤100000000000) (hL:c0.length+(joinF w s.data.toList 0 l).length≤70368744177664)
  (hc:∀ (i:Nat) (hi:i<l.length) (cur:List UInt8) ρ bs,cur.length+(w i l[i]).length≤70368744177664→callT T g (.int .i64 (i:Int) :: l[i].enc :: caps) bs (σ.set id (.bld t 5 cur)++(τ++ρ))=some (.tup [],σ.set id (.bld t 5 (cur++w i l[i]))++(τ++ρ))) (bs:Nat) :
  callT T 81 [.ptr id 0,.isl (l.map GL.enc) false,.str s,.func g caps] bs (σ.set id (.bld t 5 c0)++τ)=some (.tup [],σ.set id (.bld t 5 (c0++joinF w s.data.toList 0 l))++τ):=by
 have hsl:(σ.set id (.bld t 5 c0)++τ).length=σ.length+τ.length:=by simp
 refine heap_enter (af:=c81) (args':=[.ptr id 0,.isl (l.map GL.enc) false,.str s,.func g caps]) (σ1:=σ.set id (.bld t 5 c0)++τ) rfl rfl (by simp [c81]) (by simp [c81]) rfl ?_
 simp [c81,baseA]
 refine W_for T _ 29 l.length (fun i f ρ=>f 0=.ptr id 0∧f 2=.str s∧f 3=.func g caps∧f 10=.isl (l.map GL.enc) false∧f 11=.int .i64 (l.length:Int)∧f 12=.int .i64 (i:Int)∧∃ rest,ρ=σ.set id (.bld t 5 (c0++joinF w s.data.toList 0 (l.take i)))++(τ++rest)) ?_ _ _ ?_
 ·rintro i f ρ hi ⟨g0,g2,g3,g10,g11,g12,rest,rfl⟩
  by_cases hlt:i<l.length
  ·have e1:l[i]?=some l[i]:=zqF hlt
   have hw:IntKind.i64.wrap ((i:Int)+1)=(i:Int)+1:=wr64 (by omega) (by omega)
   have hj:=joinF_take w s.data.toList l i hlt
   have hle:=joinF_le w s.data.toList l (i+1)
   rw [hj] at hle ⊢
   generalize joinF w s.data.toList 0 (l.take i)=cur at *
   have hss:s.data.toList.length=s.size:=by simp
   by_cases h0:i=0
   ·have h0':¬ (0<i):=by omega
    simp only [h0,if_true,List.nil_append,zqJ] at hle
    have hcl:=fun r bs=>hc i hlt (c0++cur) (rest++r) bs (by simp only [zqJ]; subst h0; omega)
    simp [g0,g2,g3,g10,g11,g12,hlt,hcl,hw,h0',←GL.enc_eq]
    exact ⟨_,by rw [if_pos h0]; rfl⟩
   ·have h0':0<i:=by omega
    simp only [h0,if_false,zqJ] at hle
    have hws:=fun r bs=>ws_at (σ:=σ) (τ:=τ++(rest++r)) (s:=s) (l:=c0++cur) bs hid ht (by simp only [zqJ]; omega)
    have hcl:=fun r bs=>hc i hlt (c0++cur++s.data.toList) (rest++r) bs (by simp only [zqJ]; omega)
    simp only [zqP] at hws hcl
    simp [g0,g2,g3,g10,g11,g12,hlt,hws,hcl,hw,h0',←GL.enc_eq]
    exact ⟨_,by rw [if_neg h0]⟩
  ·have he:i=l.length:=by omega
   subst he
   simp [g0,g2,g3,g10,g11,g12,dropA_gc,refLt,res1]
   exact take_app2
 ·simp [joinF]
end Go.Proofs.YtjfgjnlocadpbaaGreatDoor
end
section
namespace Go.Proofs.YtjfgjnlocadpbaaGreatDoor
open Go.Mach
theorem tc_join (sep:List UInt8):∀ (i:Nat) (l:List GT),joinF (fun _=>shT) sep (i+1) l=shTc sep l
 | _,[]=>rfl
 | i,x :: l=>by simp only [joinF,shTc,tc_join sep (i+1) l]; simp
theorem ts_join (sep:List UInt8) (l:List GT):joinF (fun _=>shT) sep 0 l=shTs sep l:=by
 cases l with
 | nil=>rfl
 | cons x l=>simp only [joinF,shTs,tc_join]; simp
theorem term_value {d:Nat} {k:Int} {n:ByteArray} {v:GV} {l:List GT} (h:termR d (.mk k n v l)=true) (hk:k=2):rightT v=true:=by
 obtain ⟨_,⟨n',e,hn⟩ | ⟨v',e,hv,_⟩ | ⟨n',l',e,hn,_⟩ | ⟨n',l',e,_⟩⟩:=term_cases h <;> injection e with e1 e2 e3 e4 <;> subst e1
 ·omega
 ·rw [e3]; exact hv
 ·omega
 ·omega
theorem term_args {d:Nat} {k:Int} {n:ByteArray} {v:GV} {l:List GT} (h:termR d (.mk k n v l)=true):∀ x∈l,∃ e,termR e x=true:=by
 intro x hx
 obtain ⟨_,⟨n',e,hn⟩ | ⟨v',e,hv,_⟩ | ⟨n',l',e,hn,hl⟩ | ⟨n',l',e,_,_,hl⟩⟩:=term_cases h <;> injection e with e1 e2 e3 e4 <;> subst e4
 ·cases hx
 ·cases hx
 ·exact ⟨_,hl x hx⟩
 ·exact ⟨_,hl x hx⟩
theorem take_eq {L A:Heap} (B:Heap) {n:Nat} (h1:L=A++B) (h2:n=A.length):L.take n=A:=by rw [h1,h2]; simp
theorem printV_list {v:GV} (h:rightT v=true):(printV v).data.toList=pr v:=by simp [printV,h,S]
theorem printV_size {v:GV} (h:rightT v=true):(printV v).size=(pr v).length:=by simp only [printV,h,if_true]; rfl
theorem wterm_ok:∀ (m:Nat) (t:GT),t.size≤m→m≤10000000000→(∃ d,termR d t=true)→∀ (σ:Heap) (id tt:Nat) (c0:List UInt8) (τ:Heap) (bs:Nat),id<σ.length→tt∈bldTs→c0.length+(shT t).length≤70368744177664 →
  callT T 115 [.ptr id 0,t.enc] bs (σ.set id (.bld tt 5 c0)++τ)=some (.tup [],σ.set id (.bld tt 5 (c0++shT t))++τ):=by
 intro m
 induction m with
 | zero=>intro t h; obtain ⟨k,n,⟨vk,vn,vt,vl⟩,l⟩:=t; simp [GT.size] at h
 | succ m ih=>
  intro t hs hm hd σ id tt c0 τ bs hid ht hlen
  obtain ⟨d,hd⟩:=hd
  obtain ⟨k,n,v,l⟩:=t
  simp only [GT.size] at hs
  have hsl:∀ o:AObj,(σ.set id o++τ).length=σ.length+τ.length:=fun o=>by simp
  have hns:n.data.toList.length=n.size:=by simp
  refine heap_enter (af:=c115) (args':=[.ptr id 0,(GT.mk k n v l).enc]) (σ1:=σ.set id (.bld tt 5 c0)++τ) rfl rfl (by simp [c115]) (by simp [c115]) rfl ?_
  by_cases h1:k=1
  ·subst h1
   have hp:shT (.mk 1 n v l)=n.data.toList:=by simp [shT]
   rw [hp] at hlen ⊢
   have hws:=fun r bs=>ws_at (σ:=σ) (τ:=τ++r) (s:=n) (l:=c0) bs hid ht (by omega)
   simp [c115,baseA,GT.enc_eq,GT.kind,GT.name,GT.value,GT.args,hws,dropA_gc,refLt,res1]
   exact take_app2
  by_cases h2:k=2
  ·subst h2
   have hv:=term_value hd rfl
   have hp:shT (.mk 2 n v l)=pr v:=by simp [shT]
   rw [hp] at hlen ⊢
   have hpv:=valPrint v (right_okV _ _ hv) (by have:=rightT_size hv; omega)
   have hws:=fun r bs=>ws_at (σ:=σ) (τ:=τ++r) (s:=printV v) (l:=c0) bs hid ht (by rw [printV_size hv]; exact hlen)
   rw [printV_list hv] at hws
   simp [c115,baseA,GT.enc_eq,GT.kind,GT.name,GT.value,GT.args,hws,hpv,dropA_gc,refLt,res1]
   exact take_app2
  have hlist:∀ (sep:ByteArray) (cur:List UInt8) (o:AObj) (bs:Nat),cur.length+(shTs sep.data.toList l).length≤70368744177664 →
    callT T 113 [.ptr id 0,.isl (GT.encs l) false,.str sep,.func 136 [.ptr (σ.length+τ.length) 0]] bs (σ.set id (.bld tt 5 cur)++(τ++[.cells [.ptr id 0] 0 false,o])) =
     some (.tup [],σ.set id (.bld tt 5 (cur++shTs sep.data.toList l))++(τ++[.cells [.ptr id 0] 0 false,o])):=fun sep cur o bs hb=>by
   rw [←ts_join] at hb ⊢
   refine listTerm (fun _=>shT) sep l 136 [.ptr (σ.length+τ.length) 0] σ id tt cur (τ++[.cells [.ptr id 0] 0 false,o]) hid ht (by have:=GT.len_sizes l; omega) hb (fun i hi cur ρ bs hb2=>?_) bs
   have hx:=zqT hi
   have hw:=fun r bs=>ih l[i] (by have:=(GT.sizes_mem hx).1; omega) (by omega) (term_args hd _ hx) σ id tt cur (τ++r) bs hid ht hb2
   have hk:∀ r:Heap,(σ.set id (.bld tt 5 cur)++(τ++.cells [.ptr id 0] 0 false :: r))[σ.length+τ.length]?=some (.cells [.ptr id 0] 0 false):=fun r=>by
    rw [←zqP,zqB (by simp)]; simp
   refine heap_enter (af:=c136) (args':=[.int .i64 (i:Int),l[i].enc,.ptr (σ.length+τ.length) 0]) rfl rfl (by simp [c136]) (by simp [c136]) rfl ?_
   simp [c136,baseA,hk,hw,←GT.enc_eq,dropA_gc,refLt,res1]
   exact take_eq [_] (by simp; rfl) (by simp)
  by_cases h3:k=3
  ·subst h3
   have hp:shT (.mk 3 n v l)=n.data.toList++40 :: (shTs [44] l++[41]):=by simp [shT]
   rw [hp] at hlen ⊢
   simp only [zqJ,zqU,List.length_nil,hns] at hlen
   have hws:=fun r bs=>ws_at (σ:=σ) (τ:=τ++r) (s:=n) (l:=c0) bs hid ht (by omega)
   have hwb:=fun r bs=>wb_at (σ:=σ) (τ:=τ++r) (n:=40) (l:=c0++n.data.toList) bs hid ht (by simp only [zqJ,hns]; omega) (by decide) (by decide)
   have hli:=fun o bs=>hlist ⟨#[44]⟩ (c0++n.data.toList++[40]) o bs (by simp only [zqJ,zqU,List.length_nil,hns]; show _+(shTs [44] l).length≤_; omega)
   have hwe:=fun r bs=>wb_at (σ:=σ) (τ:=τ++r) (n:=41) (l:=c0++n.data.toList++[40]++shTs [44] l) bs hid ht (by simp only [zqJ,zqU,List.length_nil,hns]; omega) (by decide) (by decide)
   simp [-zqP] at hws hwb hli hwe
   simp only [zqP,List.cons_append,List.nil_append] at hws hwb hli hwe
   simp [c115,baseA,GT.enc_eq,GT.kind,GT.name,GT.value,GT.args,hws,hwb,hli,hwe,dropA_gc,refLt,res1]
   exact take_app2
  have hp:shT (.mk k n v l)=40 :: (shTs n.data.toList l++[41]):=by simp [shT,h1,h2,h3]
  rw [hp] at hlen ⊢
  simp only [zqJ,zqU,List.length_nil] at hlen
  have hwb:=fun r bs=>wb_at (σ:=σ) (τ:=τ++r) (n:=40) (l:=c0) bs hid ht (by omega) (by decide) (by decide)
  have hli:=fun o bs=>hlist n (c0++[40]) o bs (by simp only [zqJ,zqU,List.length_nil]; omega)
  have hwe:=fun r bs=>wb_at (σ:=σ) (τ:=τ++r) (n:=41) (l:=c0++[40]++shTs n.data.toList l) bs hid ht (by simp only [zqJ,zqU,List.length_nil]; omega) (by decide) (by decide)
  simp [-zqP] at hwb hli hwe
  simp only [zqP,List.cons_append,List.nil_append] at hwb hli hwe
  simp [c115,baseA,GT.enc_eq,GT.kind,GT.name,GT.value,GT.args,hwb,hli,hwe,dropA_gc,refLt,res1,h1,h2,h3]
  exact take_app2
theorem callWTerm (t:GT) (hs:t.size≤10000000000) (hd:∃ d,termR d t=true) (σ:Heap) (id tt:Nat) (c0:List UInt8) (τ:Heap) (bs:Nat) (hid:id<σ.length) (ht:tt∈bldTs) (hl:c0.length+(shT t).length≤70368744177664) :
  callT T 115 [.ptr id 0,t.enc] bs (σ.set id (.bld tt 5 c0)++τ)=some (.tup [],σ.set id (.bld tt 5 (c0++shT t))++τ):=wterm_ok t.size t (Nat.le_refl _) hs hd σ id tt c0 τ bs hid ht hl
end Go.Proofs.YtjfgjnlocadpbaaGreatDoor
end
section
namespace Go.Proofs.YtjfgjnlocadpbaaGreatDoor
open Go.Mach
theorem at_join (agg:List UInt8) (p:Int):∀ (i:Nat) (l:List GT),joinF (shAt agg p) [44] (i+1) l=shAtC agg p (i+1) l
 | _,[]=>rfl
 | i,x :: l=>by simp only [joinF,shAtC,at_join agg p (i+1) l]; simp
theorem ats_join (agg:List UInt8) (p:Int) (l:List GT):joinF (shAt agg p) [44] 0 l=shAtS agg p 0 l:=by
 cases l with
 | nil=>rfl
 | cons x l=>simp only [joinF,shAtS,at_join]; simp
theorem watom (name agg:ByteArray) (at':Int) (l:List GT) (hn:name.size≤10000000000) (hg:agg.size≤10000000000) (hs:GT.sizes l≤10000000000) (hd:∀ x∈l,∃ d,termR d x=true) (σ:Heap) (id tt:Nat) (c0:List UInt8) (τ:Heap) (bs:Nat) (hid:id<σ.length) (ht:tt∈bldTs)
  (hl:c0.length+(shAtom name.data.toList l agg.data.toList at').length≤70368744177664) :
  callT T 80 [.ptr id 0,.str name,.isl (GT.encs l) false,.str agg,.int .i64 at'] bs (σ.set id (.bld tt 5 c0)++τ)=some (.tup [],σ.set id (.bld tt 5 (c0++shAtom name.data.toList l agg.data.toList at'))++τ):=by
 have hlen:=GT.len_sizes l
 have hnn:name.data.toList.length=name.size:=by simp
 have hgg:agg.data.toList.length=agg.size:=by simp
 have hsl:∀ o:AObj,(σ.set id o++τ).length=σ.length+τ.length:=fun o=>by simp
 simp only [shAtom,zqJ,zqU,List.length_nil,hnn] at hl
 have hlist:∀ (cur:List UInt8) (bs:Nat),cur.length+(shAtS agg.data.toList at' 0 l).length≤70368744177664 →
   callT T 113 [.ptr id 0,.isl (GT.encs l) false,.str ⟨#[44]⟩,.func 114 [.ptr (σ.length+τ.length+1) 0,.ptr (σ.length+τ.length+2) 0,.ptr (σ.length+τ.length) 0]] bs
    (σ.set id (.bld tt 5 cur)++(τ++[.cells [.ptr id 0] 0 false,.cells [.str agg] 0 false,.cells [.int .i64 at'] 0 false])) =
   some (.tup [],σ.set id (.bld tt 5 (cur++shAtS agg.data.toList at' 0 l))++(τ++[.cells [.ptr id 0] 0 false,.cells [.str agg] 0 false,.cells [.int .i64 at'] 0 false])):=fun cur bs hb=>by
  rw [←ats_join] at hb ⊢
  refine listTerm (shAt agg.data.toList at') ⟨#[44]⟩ l 114 _ σ id tt cur (τ++[.cells [.ptr id 0] 0 false,.cells [.str agg] 0 false,.cells [.int .i64 at'] 0 false]) hid ht (by omega) hb (fun i hi cur ρ bs hb2=>?_) bs
  have hx:=zqT hi
  have hxs:=(GT.sizes_mem hx).1
  have hxn:=GT.name_le l[i]
  have hk:∀ (j:Nat) (o:AObj) (r:Heap),([AObj.cells [.ptr id 0] 0 false,.cells [.str agg] 0 false,.cells [.int .i64 at'] 0 false]:Heap)[j]?=some o→(σ.set id (.bld tt 5 cur)++(τ++.cells [.ptr id 0] 0 false :: .cells [.str agg] 0 false :: .cells [.int .i64 at'] 0 false :: r))[σ.length+τ.length+j]?=some o:=fun j o r h=>by
   rw [←zqP,zqB (by simp)]
   have e:σ.length+τ.length+j - (σ.set id (.bld tt 5 cur)++τ).length=j:=by rw [hsl]; omega
   rw [e]
   have hj:j<3:=by have:=(zqI.1 h).1; simpa using this
   rw [←h]
   have:j=0∨j=1∨j=2:=by omega
   rcases this with rfl | rfl | rfl <;> simp
  have hk0:=fun r=>hk 0 _ r rfl
  have hk1:=fun r=>hk 1 _ r rfl
  have hk2:=fun r=>hk 2 _ r rfl
  rw [Nat.add_zero] at hk0
  refine heap_enter (af:=c114) (args':=[.int .i64 (i:Int),l[i].enc,.ptr (σ.length+τ.length+1) 0,.ptr (σ.length+τ.length+2) 0,.ptr (σ.length+τ.length) 0]) rfl rfl (by simp [c114]) (by simp [c114]) rfl ?_
  by_cases hc:agg.data.toList≠[]∧(i:Int)=at'
  ·have hag:agg≠⟨#[]⟩:=fun e=>hc.1 (ba_list_nil.2 e)
   have hsh:shAt agg.data.toList at' i l[i]=agg.data.toList++60 :: (l[i].name.data.toList++[62]):=by rw [shAt,if_pos hc]
   rw [hsh] at hb2 ⊢
   have hnx:l[i].name.data.toList.length=l[i].name.size:=by simp
   simp only [zqJ,zqU,List.length_nil,hgg,hnx] at hb2
   have hws:=fun r bs=>ws_at (σ:=σ) (τ:=τ++r) (s:=((agg++⟨#[60]⟩)++l[i].name)++⟨#[62]⟩) (l:=cur) bs hid ht (by have e1:(ByteArray.mk #[60]).size=1:=rfl; have e2:(ByteArray.mk #[62]).size=1:=rfl; simp only [ByteArray.size_append,e1,e2]; omega)
   have z1:(ByteArray.mk #[60]).size=1:=rfl
   have z2:(ByteArray.mk #[62]).size=1:=rfl
   have q1:(agg.size:Int)+1≤9223372036854775807:=by omega
   have q2:(agg.size:Int)+1+(l[i].name.size:Int)≤9223372036854775807:=by omega
   have q3:(agg.size:Int)+1+(l[i].name.size:Int)+1≤9223372036854775807:=by omega
   simp at hws
   simp [c114,baseA,hk0,hk1,hk2,hws,hag,hc.2,←GT.enc_eq,dropA_gc,refLt,res1,z1,z2,q1,q2,q3,ByteArray.size_append]
   exact take_eq [_] (by simp; rfl) (by simp)
  ·have hsh:shAt agg.data.toList at' i l[i]=shT l[i]:=by rw [shAt,if_neg hc]
   rw [hsh] at hb2 ⊢
   have hw:=fun r bs=>callWTerm l[i] (by omega) (hd _ hx) σ id tt cur (τ++r) bs hid ht hb2
   by_cases hag:agg=⟨#[]⟩
   ·subst hag
    simp [c114,baseA,hk0,hk1,hk2,hw,←GT.enc_eq,dropA_gc,refLt,res1]
    exact take_eq [_] (by simp; rfl) (by simp)
   ·have hat:¬ ((i:Int)=at'):=fun e=>hc ⟨fun h=>hag (ba_list_nil.1 h),e⟩
    simp [c114,baseA,hk0,hk1,hk2,hw,hag,hat,←GT.enc_eq,dropA_gc,refLt,res1]
    exact take_eq [_] (by simp; rfl) (by simp)
 have z1:(ByteArray.mk #[40,64]).size=2:=rfl
 have q1:(name.size:Int)+2≤9223372036854775807:=by omega
 have hws:=fun r bs=>ws_at (σ:=σ) (τ:=τ++r) (s:=name++⟨#[40,64]⟩) (l:=c0) bs hid ht (by simp only [ByteArray.size_append,z1]; omega)
 have hn2:(name++⟨#[40,64]⟩).data.toList.length=name.size+2:=by simp
 have b1:(c0++(name++⟨#[40,64]⟩).data.toList).length+(shAtS agg.data.toList at' 0 l).length≤70368744177664:=by rw [zqJ,hn2]; omega
 have hli:=fun bs=>hlist (c0++(name++⟨#[40,64]⟩).data.toList) bs b1
 have b2:(c0++(name++⟨#[40,64]⟩).data.toList++shAtS agg.data.toList at' 0 l).length+1≤70368744177664:=by rw [zqJ,zqJ,hn2]; omega
 have hwe:=fun r bs=>wb_at (σ:=σ) (τ:=τ++r) (n:=41) (l:=c0++(name++⟨#[40,64]⟩).data.toList++shAtS agg.data.toList at' 0 l) bs hid ht b2 (by decide) (by decide)
 simp [Nat.add_assoc] at hws hli hwe
 refine heap_enter (af:=c80) (args':=[.ptr id 0,.str name,.isl (GT.encs l) false,.str agg,.int .i64 at']) (σ1:=σ.set id (.bld tt 5 c0)++τ) rfl rfl (by simp [c80]) (by simp [c80]) rfl ?_
 simp [c80,baseA,hws,hli,hwe,z1,q1,dropA_gc,refLt,res1,shAtom]
 exact take_app2
end Go.Proofs.YtjfgjnlocadpbaaGreatDoor
end
section
namespace Go.Proofs.YtjfgjnlocadpbaaGreatDoor
open Go.Mach
theorem args_ex {l:List GT} (h:∀ x∈l,termR 8 x=true):∀ x∈l,∃ d,termR d x=true:=fun x hx=>⟨8,h x hx⟩
theorem rel_size {s:ByteArray} (h:relOK s=true):s.size≤16:=((nameOK_iff s).1 (rel_name h).1).2.2
theorem var_size {s:ByteArray} (h:varOK s=true):s.size≤16:=((varOK_iff s).1 h).2.2
theorem test_size {s:ByteArray} (h:tOK s=true):s.size≤2:=by
 rcases of_decide_eq_true h with rfl | rfl | rfl | rfl | rfl | rfl <;> decide
theorem wlit_ok (x:GL) (hx:litB x=true) (hs:x.size≤10000000000) (σ:Heap) (id tt:Nat) (c0:List UInt8) (τ:Heap) (bs:Nat) (hid:id<σ.length) (ht:tt∈bldTs) (hl:c0.length+(shLit x).length≤70368744177664) :
  callT T 83 [.ptr id 0,x.enc] bs (σ.set id (.bld tt 5 c0)++τ)=some (.tup [],σ.set id (.bld tt 5 (c0++shLit x))++τ):=by
 have hal:=x.args_le
 have hsl:∀ o:AObj,(σ.set id o++τ).length=σ.length+τ.length:=fun o=>by simp
 refine heap_enter (af:=c83) (args':=[.ptr id 0,x.enc]) (σ1:=σ.set id (.bld tt 5 c0)++τ) rfl rfl (by simp [c83]) (by simp [c83]) rfl ?_
 have z0:(ByteArray.mk #[32]).size=1:=rfl
 have z4:(ByteArray.mk #[32,58,61,32]).size=4:=rfl
 rcases lit_cases hx with ⟨hk,h1,h2⟩ | ⟨hk,h1,y,z,e,hy,hz⟩ | ⟨hk,h1,y,e,hy⟩
 ·have hn:=rel_size h1
  rcases hk with hk | hk
  ·rw [sh1 hk] at hl ⊢
   have hat:=fun r bs=>watom x.name ⟨#[]⟩ 0 x.args (by omega) (by decide) (by omega) (args_ex (args_all h2)) σ id tt c0 (τ++r) bs hid ht hl
   simp at hat
   simp [c83,baseA,GL.enc_eq,hk,hat,dropA_gc,refLt,res1]
   exact take_app2
  ·rw [sh2 hk] at hl ⊢
   simp only [zqU] at hl
   have hwb:=fun r bs=>wb_at (σ:=σ) (τ:=τ++r) (n:=33) (l:=c0) bs hid ht (by omega) (by decide) (by decide)
   have hat:=fun r bs=>watom x.name ⟨#[]⟩ 0 x.args (by omega) (by decide) (by omega) (args_ex (args_all h2)) σ id tt (c0++[33]) (τ++r) bs hid ht (by simp only [zqJ,zqU,List.length_nil]; show _+(shAtom x.name.data.toList x.args [] 0).length≤_; omega)
   simp at hat hwb
   simp [c83,baseA,GL.enc_eq,hk,hat,hwb,dropA_gc,refLt,res1]
   exact take_app2
 ·have hn:=test_size h1
  have hp:shLit x=shTs (32 :: (x.name.data.toList++[32])) x.args:=by simp [shLit,hk]
  rw [hp] at hl ⊢
  have hsep:((⟨#[32]⟩++x.name)++⟨#[32]⟩:ByteArray).data.toList=32 :: (x.name.data.toList++[32]):=by simp
  have hli:∀ (o:AObj) (bs:Nat),callT T 113 [.ptr id 0,.isl (GT.encs x.args) false,.str ((⟨#[32]⟩++x.name)++⟨#[32]⟩),.func 116 [.ptr (σ.length+τ.length) 0]] bs (σ.set id (.bld tt 5 c0)++(τ++[.cells [.ptr id 0] 0 false,o])) =
     some (.tup [],σ.set id (.bld tt 5 (c0++shTs (32 :: (x.name.data.toList++[32])) x.args))++(τ++[.cells [.ptr id 0] 0 false,o])):=fun o bs=>by
   rw [←hsep,←ts_join] at hl ⊢
   refine listTerm (fun _=>shT) _ x.args 116 [.ptr (σ.length+τ.length) 0] σ id tt c0 (τ++[.cells [.ptr id 0] 0 false,o]) hid ht (by have:=GT.len_sizes x.args; omega) hl (fun i hi cur ρ bs hb2=>?_) bs
   have hm:=zqT hi
   have hex:∃ d,termR d x.args[i]=true:=by
    refine args_ex (l:=x.args) (fun w hw=>?_) _ hm
    rw [e] at hw; simp at hw; rcases hw with rfl | rfl; exact hy; exact hz
   have hw:=fun r bs=>callWTerm x.args[i] (by have:=(GT.sizes_mem hm).1; omega) hex σ id tt cur (τ++r) bs hid ht hb2
   refine heap_enter (af:=c116) (args':=[.int .i64 (i:Int),x.args[i].enc,.ptr (σ.length+τ.length) 0]) rfl rfl (by simp [c116]) (by simp [c116]) rfl ?_
   simp [c116,baseA,key_at,hw,←GT.enc_eq,dropA_gc,refLt,res1]
   exact take_eq [_] (by simp; rfl) (by simp)
  have q1:(1:Int)+(x.name.size:Int)≤9223372036854775807:=by omega
  have q2:(1:Int)+(x.name.size:Int)+1≤9223372036854775807:=by omega
  simp [c83,baseA,GL.enc_eq,hk,hli,z0,q1,q2,dropA_gc,refLt,res1,ByteArray.size_append]
  exact take_app2
 ·have hn:=var_size h1
  have hns:x.name.data.toList.length=x.name.size:=by simp
  rw [sh4 hk e] at hl ⊢
  simp only [zqJ,zqU,hns] at hl
  have hy8:y.size≤10000000000:=by have:=(GT.sizes_mem (l:=x.args) (x:=y) (by simp [e])).1; omega
  have b1:(x.name++⟨#[32,58,61,32]⟩).data.toList.length=x.name.size+4:=by simp
  have hws:=fun r bs=>ws_at (σ:=σ) (τ:=τ++r) (s:=x.name++⟨#[32,58,61,32]⟩) (l:=c0) bs hid ht (by simp only [ByteArray.size_append,z4]; omega)
  have hw:=fun r bs=>callWTerm y hy8 ⟨8,hy⟩ σ id tt (c0++(x.name++⟨#[32,58,61,32]⟩).data.toList) (τ++r) bs hid ht (by rw [zqJ,b1]; omega)
  have q1:(x.name.size:Int)+4≤9223372036854775807:=by omega
  simp at hws hw
  simp [c83,baseA,GL.enc_eq,hk,hws,hw,z4,q1,e,←GT.enc_eq,dropA_gc,refLt,res1]
  exact take_app2
end Go.Proofs.YtjfgjnlocadpbaaGreatDoor
end
section
namespace Go.Proofs.YtjfgjnlocadpbaaGreatDoor
open Go.Mach
mutual
theorem sh_len:∀ (t:GT) (d:Nat),termR d t=true→(shT t).length+1≤27 * t.size
 | .mk k n v l,d,h=>by
  obtain ⟨hd,h'⟩:=term_cases h
  rcases h' with ⟨n',e,hn⟩ | ⟨v',e,hv,_⟩ | ⟨n',l',e,hn,hl⟩ | ⟨n',l',e,ho,h2,hl⟩ <;> injection e with e1 e2 e3 e4 <;> subst e1 e2 e3 e4
  ·have:n.data.toList.length=n.size:=by simp
   simp only [shT,if_true,this,GT.size,GV.size,GT.sizes,GV.sizes]; omega
  ·have:=pr_len v (right_okV _ _ hv)
   have hp:shT (.mk 2 ⟨#[]⟩ v [])=pr v:=by simp [shT]
   rw [hp]
   simp only [GT.size]; omega
  ·have hp:shT (.mk 3 n nil0 l)=n.data.toList++40 :: (shTs [44] l++[41]):=by simp [shT]
   have hh:=shs_len l [44] (d - 1) (by simp) hl
   have:n.data.toList.length=n.size:=by simp
   rw [hp]
   simp only [zqJ,zqU,List.length_nil,this,GT.size,GV.size,GV.sizes]; omega
  ·have hp:shT (.mk 4 n nil0 l)=40 :: (shTs n.data.toList l++[41]):=by simp [shT]
   obtain ⟨c,q1,_⟩:=op_char ho
   have hh:=shs_len l n.data.toList (d - 1) (by rw [q1]; simp) hl
   rw [hp]
   simp only [zqJ,zqU,List.length_nil,GT.size,GV.size,GV.sizes]; omega
theorem shs_len:∀ (l:List GT) (sep:List UInt8) (d:Nat),sep.length≤1→(∀ x∈l,termR d x=true)→(shTs sep l).length≤27 * GT.sizes l
 | [],sep,d,_,_=>by simp [shTs]
 | x :: l,sep,d,hs,h=>by
  have h1:=sh_len x d (h x (by simp))
  have h2:=shc_len l sep d hs fun y hy=>h y (by simp [hy])
  simp only [shTs,zqJ,GT.sizes]; omega
theorem shc_len:∀ (l:List GT) (sep:List UInt8) (d:Nat),sep.length≤1→(∀ x∈l,termR d x=true)→(shTc sep l).length≤27 * GT.sizes l
 | [],sep,d,_,_=>by simp [shTc]
 | x :: l,sep,d,hs,h=>by
  have h1:=sh_len x d (h x (by simp))
  have h2:=shc_len l sep d hs fun y hy=>h y (by simp [hy])
  simp only [shTc,zqJ,GT.sizes]; omega
end
theorem at_len {agg:List UInt8} {p:Int} {i d:Nat} {t:GT} (ha:agg.length≤5) (h:termR d t=true):(shAt agg p i t).length+1≤28 * t.size:=by
 have h1:=sh_len t d h
 have:t.name.data.toList.length=t.name.size:=by simp
 have h3:t.name.size+3≤t.size:=by obtain ⟨k,n,⟨vk,vn,vt,vl⟩,l⟩:=t; simp only [GT.size,GT.name,GV.size]; omega
 unfold shAt
 split
 ·simp only [zqJ,zqU,List.length_nil,this]; omega
 ·omega
theorem atc_len {agg:List UInt8} {p:Int} {d:Nat} (ha:agg.length≤5):∀ (i:Nat) (l:List GT),(∀ x∈l,termR d x=true)→(shAtC agg p i l).length≤28 * GT.sizes l
 | _,[],_=>by simp [shAtC]
 | i,x :: l,h=>by
  have h1:=at_len (p:=p) (i:=i) ha (h x (by simp))
  have h2:=atc_len ha (p:=p) (i+1) l fun y hy=>h y (by simp [hy])
  simp only [shAtC,zqJ,zqU,GT.sizes]; omega
theorem ats_len {agg:List UInt8} {p:Int} {d:Nat} (ha:agg.length≤5) (i:Nat) (l:List GT) (h:∀ x∈l,termR d x=true):(shAtS agg p i l).length≤28 * GT.sizes l:=by
 cases l with
 | nil=>simp [shAtS]
 | cons x l=>
  have h1:=at_len (p:=p) (i:=i) ha (h x (by simp))
  have h2:=atc_len ha (p:=p) (i+1) l fun y hy=>h y (by simp [hy])
  simp only [shAtS,zqJ,GT.sizes]; omega
theorem lit_len {x:GL} (h:litB x=true):(shLit x).length+2≤28 * x.size:=by
 have hsz:x.size=x.name.size+GT.sizes x.args+4:=by simp only [GL.size,GL.enc,bulkA,bulkAs,GT.bulk_encs]; omega
 have hn:x.name.data.toList.length=x.name.size:=by simp
 rw [hsz]
 rcases lit_cases h with ⟨hk,h1,h2⟩ | ⟨hk,h1,y,z,e,hy,hz⟩ | ⟨hk,h1,y,e,hy⟩
 ·have hh:=ats_len (agg:=[]) (p:=0) (by simp) 0 x.args (args_all h2)
  rcases hk with hk | hk
  ·rw [sh1 hk]; simp only [shAtom,zqJ,zqU,List.length_nil,hn]; omega
  ·rw [sh2 hk]; simp only [shAtom,zqJ,zqU,List.length_nil,hn]; omega
 ·rw [sh3 hk e,e]
  have h2:=sh_len y 8 hy
  have h3:=sh_len z 8 hz
  simp only [zqJ,zqU,hn,GT.sizes]; omega
 ·rw [sh4 hk e,e]
  have h2:=sh_len y 8 hy
  simp only [zqJ,zqU,hn,GT.sizes]; omega
theorem litc_len:∀ l:List GL,(∀ x∈l,litB x=true)→(shLitC l).length≤28 * bulkAs (l.map GL.enc)
 | [],_=>by simp [shLitC]
 | x :: l,h=>by
  have h1:=lit_len (h x (by simp))
  have h2:=litc_len l fun y hy=>h y (by simp [hy])
  have e:bulkA x.enc=x.size:=rfl
  simp only [shLitC,zqJ,zqU,List.map_cons,bulkAs,e]; omega
theorem lits_len (l:List GL) (h:∀ x∈l,litB x=true):(shLitS l).length≤28 * bulkAs (l.map GL.enc):=by
 cases l with
 | nil=>simp [shLitS]
 | cons x l=>
  have h1:=lit_len (h x (by simp))
  have h2:=litc_len l fun y hy=>h y (by simp [hy])
  have e:bulkA x.enc=x.size:=rfl
  simp only [shLitS,zqJ,List.map_cons,bulkAs,e]; omega
theorem agg_len {r:GR} (h:aggB r=true):r.agg.size≤5:=by
 have hn:r.agg.data.toList.length=r.agg.size:=by simp
 rcases (agg_L h).1 with e | e | e | e <;> (rw [←hn,e]; decide)
theorem rule_len {x:GR} (h:ruleB x=true):(shRule x).length+1≤28 * x.size:=by
 have hsz:x.size=x.label.size+x.head.size+GT.sizes x.args+x.agg.size+bulkAs (x.body.map GL.enc)+7:=by simp only [GR.size,GR.enc,bulkA,bulkAs,GT.bulk_encs]; omega
 have hn:x.label.data.toList.length=x.label.size:=by simp
 have hn2:x.head.data.toList.length=x.head.size:=by simp
 have hn3:x.agg.data.toList.length=x.agg.size:=by simp
 simp only [ruleB,zqL,decide_eq_true_eq,zqQ] at h
 obtain ⟨⟨⟨⟨⟨a1,a2⟩,a3⟩,a4⟩,a5⟩,a6⟩:=h
 have h1:=ats_len (agg:=x.agg.data.toList) (p:=x.pos) (by rw [hn3]; exact agg_len a6) 0 x.args (args_all a3)
 have h2:=lits_len x.body a5
 rw [hsz]
 simp only [shRule,shAtom,zqJ,zqU,List.length_nil,hn,hn2]; omega
end Go.Proofs.YtjfgjnlocadpbaaGreatDoor
end
section
namespace Go.Proofs.YtjfgjnlocadpbaaGreatDoor
open Go.Mach
theorem lc_join:∀ (i:Nat) (l:List GL),joinF (fun _=>shLit) [44,32] (i+1) l=shLitC l
 | _,[]=>rfl
 | i,x :: l=>by simp only [joinF,shLitC,lc_join (i+1) l]; simp
theorem ls_join (l:List GL):joinF (fun _=>shLit) [44,32] 0 l=shLitS l:=by
 cases l with
 | nil=>rfl
 | cons x l=>simp only [joinF,shLitS,lc_join]; simp
theorem wrule_ok (x:GR) (hx:ruleB x=true) (hs:x.size≤10000000000) (σ:Heap) (id tt:Nat) (c0:List UInt8) (τ:Heap) (bs:Nat) (hid:id<σ.length) (ht:tt∈bldTs) (hl:c0.length+(shRule x).length≤70368744177664) :
  callT T 47 [.ptr id 0,x.enc] bs (σ.set id (.bld tt 5 c0)++τ)=some (.tup [],σ.set id (.bld tt 5 (c0++shRule x))++τ):=by
 have hal:=x.args_le
 have hbl:=x.body_len
 have hbm:=fun y hy=>x.body_mem (y:=y) hy
 simp only [ruleB,zqL,decide_eq_true_eq,zqQ] at hx
 obtain ⟨⟨⟨⟨⟨a1,a2⟩,a3⟩,a4⟩,a5⟩,a6⟩:=hx
 have n1:=rel_size a1
 have n2:=rel_size a2
 have n3:=agg_len a6
 have e1:x.label.data.toList.length=x.label.size:=by simp
 have z1:(ByteArray.mk #[32]).size=1:=rfl
 have z2:(ByteArray.mk #[32,58,45,32]).size=4:=rfl
 have q1:(x.label.size:Int)+1≤9223372036854775807:=by omega
 have hsl:∀ o:AObj,(σ.set id o++τ).length=σ.length+τ.length:=fun o=>by simp
 generalize hA:shAtom x.head.data.toList x.args x.agg.data.toList x.pos=A at *
 have hR:shRule x=x.label.data.toList++32 :: (A++32 :: 58 :: 45 :: 32 :: (shLitS x.body++[46])):=by rw [←hA]; rfl
 rw [hR] at hl ⊢
 simp only [zqJ,zqU,List.length_nil,e1] at hl
 have s1:=fun r bs=>ws_at (σ:=σ) (τ:=τ++r) (s:=x.label++⟨#[32]⟩) (l:=c0) bs hid ht (by simp only [ByteArray.size_append,z1]; omega)
 have d1:(x.label++⟨#[32]⟩).data.toList=x.label.data.toList++[32]:=by simp
 rw [d1] at s1
 have s2:=fun r bs=>watom x.head x.agg x.pos x.args (by omega) (by omega) (by omega) (args_ex (args_all a3)) σ id tt (c0++(x.label.data.toList++[32])) (τ++r) bs hid ht (by rw [hA]; simp only [zqJ,zqU,List.length_nil,e1]; omega)
 rw [hA] at s2
 have s3:=fun r bs=>ws_at (σ:=σ) (τ:=τ++r) (s:=⟨#[32,58,45,32]⟩) (l:=c0++(x.label.data.toList++[32])++A) bs hid ht (by simp only [zqJ,zqU,List.length_nil,e1,z2]; omega)
 have s4:∀ (o:AObj) (bs:Nat),callT T 81 [.ptr id 0,.isl (x.body.map GL.enc) false,.str ⟨#[44,32]⟩,.func 82 [.ptr (σ.length+τ.length) 0]] bs (σ.set id (.bld tt 5 (c0++(x.label.data.toList++[32])++A++[32,58,45,32]))++(τ++[.cells [.ptr id 0] 0 false,o])) =
   some (.tup [],σ.set id (.bld tt 5 (c0++(x.label.data.toList++[32])++A++[32,58,45,32]++shLitS x.body))++(τ++[.cells [.ptr id 0] 0 false,o])):=fun o bs=>by
  rw [←ls_join]
  refine listLiteral (fun _=>shLit) ⟨#[44,32]⟩ x.body 82 [.ptr (σ.length+τ.length) 0] σ id tt _ (τ++[.cells [.ptr id 0] 0 false,o]) hid ht (by omega) (by show _+(joinF (fun _=>shLit) [44,32] 0 x.body).length≤_; rw [ls_join]; simp only [zqJ,zqU,List.length_nil,e1]; omega) (fun i hi cur ρ bs hb2=>?_) bs
  have hm:=zqT hi
  have hw:=fun r bs=>wlit_ok x.body[i] (a5 _ hm) (by have:=hbm _ hm; omega) σ id tt cur (τ++r) bs hid ht hb2
  refine heap_enter (af:=c82) (args':=[.int .i64 (i:Int),x.body[i].enc,.ptr (σ.length+τ.length) 0]) rfl rfl (by simp [c82]) (by simp [c82]) rfl ?_
  simp [c82,baseA,key_at,hw,←GL.enc_eq,dropA_gc,refLt,res1]
  exact take_eq [_] (by simp; rfl) (by simp)
 have s5:=fun r bs=>wb_at (σ:=σ) (τ:=τ++r) (n:=46) (l:=c0++(x.label.data.toList++[32])++A++[32,58,45,32]++shLitS x.body) bs hid ht (by simp only [zqJ,zqU,List.length_nil,e1]; omega) (by decide) (by decide)
 simp at s1 s2 s3 s4 s5
 refine heap_enter (af:=c47) (args':=[.ptr id 0,x.enc]) (σ1:=σ.set id (.bld tt 5 c0)++τ) rfl rfl (by simp [c47]) (by simp [c47]) rfl ?_
 simp [c47,baseA,GR.enc_eq,s1,s2,s3,s4,s5,z1,q1,dropA_gc,refLt,res1]
 exact take_app2
end Go.Proofs.YtjfgjnlocadpbaaGreatDoor
end
section
namespace Go.Proofs.YtjfgjnlocadpbaaGreatDoor
open Go.Mach
end Go.Proofs.YtjfgjnlocadpbaaGreatDoor
end
section
namespace Go.Proofs.YtjfgjnlocadpbaaGreatDoor
open Go.Mach
def textRule (x:GR):ByteArray:=if ruleB x=true then S (shRule x) else S []
theorem textRule_ok (b:Bool) (x:GR) (hb:b=true→ruleB x=true) (hs:x.size≤10000000000):pureT T c45 [.bool b,x.enc,.func 47 []]=some (.str (if b=true then S (shRule x) else S [])):=by
 apply pure_enter (by simp [c45])
 cases b
 ·simp [c45,S]
 ·have hx:=hb rfl
  have hln:=rule_len hx
  have hw:=fun o bs=>wrule_ok x hx (by omega) [o,.dead] 1 124 [] [] bs (by simp) (by decide) (by simp only [List.length_nil]; omega)
  have hst:=fun o bs=>callStr (σ:=[o,.bld 124 5 (shRule x)]) (id:=1) (l:=shRule x) bs rfl (by omega)
  simp at hw hst
  simp [c45,hw,hst,setRun,S,←GR.enc_eq]
theorem pRule_ok (x:GR) (hs:x.size≤10000000000):pureT T c23 [x.enc]=some (.str (textRule x)):=by
 have h1:=callPRule x (by omega)
 have h2:∀ bs σ,callT T 45 [.bool (ruleB x),x.enc,.func 47 []] bs σ=some (.str (textRule x),σ):=fun bs σ=>call_clean rfl rfl rfl (by simp) (by rw [textRule_ok (ruleB x) x (fun h=>h) hs]; rfl)
 apply pure_enter (by simp [c23])
 generalize (ruleB x)=b at *
 simp [c23,h1,h2,sym,←GR.enc_eq]
theorem sayRule (x:GR) (hs:x.size≤10000000000) (bs:Nat) (σ:Heap):callT T 23 [x.enc] bs σ=some (.str (textRule x),σ):=call_clean rfl rfl rfl (by simp) (pRule_ok x hs)
end Go.Proofs.YtjfgjnlocadpbaaGreatDoor
end
section
namespace Go.Proofs.YtjfgjnlocadpbaaGreatDoor
open Go.Mach
def varOf (s:ByteArray):ByteArray:=⟨#[86]⟩++(nameFit s).extract 1 (nameFit s).size
theorem lawVar_ok (s:ByteArray) (hs:s.size≤100000000000):pureT T c35 [.str s]=some (.str (varOf s)):=by
 have hn:=nameFit_size s
 have hc:=lawName s hs
 have h1:(⟨#[86]⟩:ByteArray).size=1:=rfl
 have h2:((nameFit s).extract 1 (nameFit s).size).size=(nameFit s).size - 1:=by rw [ByteArray.size_extract]; omega
 apply pure_enter (by simp [c35])
 have h0:(1:Int)≤((nameFit s).size:Int):=by omega
 have h3:(1:Int)+(((nameFit s).size - 1:Nat):Int)≤9223372036854775807:=by omega
 simp [c35,hc,h0,h1,h3,varOf]
theorem lawVar (s:ByteArray) (hs:s.size≤100000000000) (bs:Nat) (σ:Heap):callT T 35 [.str s] bs σ=some (.str (varOf s),σ):=call_clean rfl rfl rfl (by simp) (lawVar_ok s hs)
def relOf (s:ByteArray):ByteArray:=if 0≤arityOf (nameFit s)∨nameFit s=⟨#[109,97,116,101,114,105,97,108,105,122,101]⟩ then ⟨#[110]⟩ else nameFit s
theorem lawRel_ok (s:ByteArray) (hs:s.size≤100000000000):pureT T c30 [.str s]=some (.str (relOf s)):=by
 have hc:=lawName s hs
 have ha:=refArity (nameFit s)
 apply pure_enter (by simp [c30])
 simp [c30,hc,ha]
 unfold relOf
 grind
theorem lawRel (s:ByteArray) (hs:s.size≤100000000000) (bs:Nat) (σ:Heap):callT T 30 [.str s] bs σ=some (.str (relOf s),σ):=call_clean rfl rfl rfl (by simp) (lawRel_ok s hs)
theorem pick4_ok (c n:Int) (h:n≠0):pureT T c31 [.int .i64 c,.int .i64 n]=some (.int .i64 ((if c<0 then IntKind.i64.wrap (0 - IntKind.i64.wrap (c+1)) else c).tmod n)):=by
 apply pure_enter (by simp [c31])
 by_cases hc:c<0
 ·simp [c31,hc,h]
 ·simp [c31,hc,h]
theorem pickQ (c:Int) (n:Nat) (h:0<n) (h1:GV.i64ok c) (bs:Nat) (σ:Heap) :
  callT T 31 [.int .i64 c,.int .i64 (n:Int)] bs σ=some (.int .i64 (pickN c n:Int),σ):=by
 refine call_clean rfl rfl rfl rfl ?_
 rw [pick4_ok c n (by omega),pick_eq c n h h1.1 h1.2]
theorem pickQ4 (c:Int) (h1:GV.i64ok c) (bs:Nat) (σ:Heap):callT T 31 [.int .i64 c,.int .i64 4] bs σ=some (.int .i64 (pickN c 4:Int),σ):=pickQ c 4 (by omega) h1 bs σ
theorem pickQ6 (c:Int) (h1:GV.i64ok c) (bs:Nat) (σ:Heap):callT T 31 [.int .i64 c,.int .i64 6] bs σ=some (.int .i64 (pickN c 6:Int),σ):=pickQ c 6 (by omega) h1 bs σ
theorem pickQ3 (c:Int) (h1:GV.i64ok c) (bs:Nat) (σ:Heap):callT T 31 [.int .i64 c,.int .i64 3] bs σ=some (.int .i64 (pickN c 3:Int),σ):=pickQ c 3 (by omega) h1 bs σ
theorem wrap_ok (n:Int):GV.i64ok (IntKind.i64.wrap n):=by unfold GV.i64ok; rw [IntKind.wrap_i64]; omega
def fnOf (n:Nat):ByteArray:=if n=0 then sCons else if n=1 then sSize else if n=2 then sMember else if n=3 then sFirst else if n=4 then sReverse else sConcat
def opOf (n:Nat):ByteArray:=if n=0 then ⟨#[43]⟩ else if n=1 then ⟨#[45]⟩ else ⟨#[42]⟩
def valOf (v:GV):GV:=if (fit v).kind=3 then .mk (fit v).kind (fit v).num (relOf (fit v).text) (fit v).items else fit v
def leafT (t:GT):GT:=if pickN t.kind 4 % 2=0 then .mk 1 (varOf t.name) nilV [] else .mk 2 ⟨#[]⟩ (valOf t.value) []
def termV:Nat→GT→GT
 | 0,t=>leafT t
 | d+1,t=>
  if d=0∨t.args.length<2 then leafT t
  else if pickN t.kind 4=0 then .mk 1 (varOf t.name) nilV []
  else if pickN t.kind 4=1 then .mk 2 ⟨#[]⟩ (valOf t.value) []
  else if pickN t.kind 4=2 then
   .mk 3 (fnOf (pickN (IntKind.i64.wrap ((t.name.size:Int)+t.kind)) 6)) nilV ((t.args.take (arityOf (fnOf (pickN (IntKind.i64.wrap ((t.name.size:Int)+t.kind)) 6))).toNat).map (termV d))
  else .mk 4 (opOf (pickN t.name.size 3)) nilV ((t.args.take 2).map (termV d))
theorem term_leaf (d:Int) (t:GT) (ht:t.ok) (hs:t.size≤100000000000) (h:d≤1∨t.args.length<2):pureT T c55 [t.enc,.int .i64 d]=some (leafT t).enc:=by
 have hk:GV.i64ok t.kind∧t.value.ok:=by revert ht; cases t; simp only [GT.ok]; exact fun h=>⟨h.1,h.2.1⟩
 have hp:=pickQ4 t.kind hk.1
 have hv:=lawVar t.name (Nat.le_trans (GT.name_le t) hs)
 have hf:=callFit t.value hk.2 (Nat.le_trans (GT.value_le t) hs)
 have hpl:=pickN_lt (c:=t.kind) (n:=4) (by omega)
 have htm:((pickN t.kind 4:Int)).tmod 2=((pickN t.kind 4 % 2:Nat):Int):=rfl
 have hfs:(fit t.value).text.size≤100000000000:=Nat.le_trans (Nat.le_trans (text_le _) (fit_size _)) (by omega)
 have hr:=lawRel (fit t.value).text hfs
 apply pure_enter (by simp [c55])
 have hcond:d≤1∨(¬ d≤1∧((t.args.length:Int)<2)):=by omega
 rcases hcond with hd | ⟨hd,hl⟩
 ·by_cases hz:pickN t.kind 4 % 2=0
  ·simp [c55,hp,htm,hd,hz,hv,setRun]
   simp [leafT,hz,GT.enc,nilV]
  ·have hz1:pickN t.kind 4 % 2=1:=by omega
   simp [c55,hp,htm,hd,hz1,hf,setRun,enc_mk,hr]
   refine ⟨fun h=>?_,fun h=>?_⟩
   all_goals simp [leafT,hz1,GT.enc,valOf,h]
 ·by_cases hz:pickN t.kind 4 % 2=0
  ·simp [c55,hp,htm,hd,hl,hz,hv,setRun]
   simp [leafT,hz,GT.enc,nilV]
  ·have hz1:pickN t.kind 4 % 2=1:=by omega
   simp [c55,hp,htm,hd,hl,hz1,hf,setRun,enc_mk,hr]
   refine ⟨fun h=>?_,fun h=>?_⟩
   all_goals simp [leafT,hz1,GT.enc,valOf,h]
theorem fnOf_arity (n:Nat):arityOf (fnOf n)=if n=0∨n=2∨5≤n then 2 else 1:=by
 unfold fnOf
 by_cases h0:n=0
 ·subst h0; decide
 ·by_cases h1:n=1
  ·subst h1; decide
  ·by_cases h2:n=2
   ·subst h2; decide
   ·by_cases h3:n=3
    ·subst h3; decide
    ·by_cases h4:n=4
     ·subst h4; decide
     ·rw [if_neg h0,if_neg h1,if_neg h2,if_neg h3,if_neg h4,if_pos (by omega)]; decide
theorem term_call (d:Nat) (hd0:0<d) (hd:d≤100) (t:GT) (ht:t.ok) (hs:t.size≤100000000000) (h2:2≤t.args.length) (hk:pickN t.kind 4=2) (g:GT→GT)
  (hg:∀ x∈t.args,∀ bs σ,callT T 55 [x.enc,.int .i64 (d:Int)] bs σ=some ((g x).enc,σ)) (fn:ByteArray) (hfn:fn=fnOf (pickN (IntKind.i64.wrap ((t.name.size:Int)+t.kind)) 6)) :
  pureT T c55 [t.enc,.int .i64 ((d:Int)+1)]=some (GT.mk 3 fn nilV ((t.args.take (arityOf fn).toNat).map g)).enc:=by
 have hk1:GV.i64ok t.kind:=by revert ht; cases t; simp only [GT.ok]; exact fun h=>h.1
 have hp:=pickQ4 t.kind hk1
 rw [hk] at hp
 have hp6:=pickQ6 _ (wrap_ok ((t.name.size:Int)+t.kind))
 have hlt:=pickN_lt (c:=IntKind.i64.wrap ((t.name.size:Int)+t.kind)) (n:=6) (by omega)
 have har:=fnOf_arity (pickN (IntKind.i64.wrap ((t.name.size:Int)+t.kind)) 6)
 rw [←hfn] at har
 generalize pickN (IntKind.i64.wrap ((t.name.size:Int)+t.kind)) 6=m at *
 have hdd:¬ ((d:Int)+1≤1):=by omega
 have hll:¬ ((t.args.length:Int)<2):=by omega
 have hget:∀ σ:Heap,∀ L:List AV,L=[AV.str sCons,.str sSize,.str sMember,.str sFirst,.str sReverse,.str sConcat]→(window L m 1).bind (mk false)=some (.str fn):=by
  intro σ L e; subst e hfn
  match m,hlt with
  | 0,_=>rfl
  | 1,_=>rfl
  | 2,_=>rfl
  | 3,_=>rfl
  | 4,_=>rfl
  | 5,_=>rfl
 obtain ⟨a,ha,ha1,ha2⟩:∃ a:Nat,arityOf fn=(a:Int)∧1≤a∧a≤2:=by
  rw [har]; split
  ·exact ⟨2,rfl,by omega,by omega⟩
  ·exact ⟨1,rfl,by omega,by omega⟩
 have hary:=refArity fn
 rw [ha] at hary ⊢
 have hw2:=hget [] _ rfl
 have hlt':(m:Int)<6:=by omega
 apply pure_enter (by simp [c55])
 simp [c55,hp,hdd,hll,hp6,hlt',setRun,hw2]
 refine W_for T 0 103 a (fun i f σ=>f 1=.int .i64 ((d:Int)+1)∧f 2=.ptr 0 0∧f 4=.ptr 1 0∧f 7=.str fn∧f 8=.ptr 3 0∧f 9=.int .i64 (i:Int)∧∃ S lst rest,
  σ=[.cells [.int .i64 t.kind,.str t.name,.int .i64 t.value.kind,.int .i64 t.value.num,.str t.value.text,.isl (GV.encs t.value.items) false,.isl (GT.encs t.args) false] 0 false,
   .cells [.int .i64 0,.str ⟨#[]⟩,.int .i64 0,.int .i64 0,.str ⟨#[]⟩,.isl [] true,.isl [] true] 0 false,S,
   .cells [.int .i64 3,.str fn,.int .i64 0,.int .i64 0,.str ⟨#[]⟩,.isl [] true,lst] 0 false]++rest ∧
  LstAt rest 4 (GT.encs ((t.args.take i).map g)) 7 lst) ?_ _ _ ?_
 ·rintro i f σ hi ⟨h1,h2',h4,h7,h8,h9,S,lst,rest,rfl,hlst⟩
  by_cases hia:i<a
  ·have hw:IntKind.i64.wrap ((i:Int)+1)=(i:Int)+1:=wr64 (by omega) (by omega)
   have hwd:IntKind.i64.wrap (d:Int)=(d:Int):=wr64 (by omega) (by omega)
   have hc1:i<t.args.length:=by omega
   have hcl:=hg t.args[i] (zqT hc1)
   have htk:(t.args.take (i+1)).map g=(t.args.take i).map g++[g t.args[i]]:=by rw [List.take_add_one,zqF hc1,List.map_append]; rfl
   have hlen:((t.args.take i).map g).length=i:=by simp; omega
   rw [htk]
   generalize (t.args.take i).map g=done at *
   have hdl:done.length≤10000000000:=by omega
   rcases hlst with ⟨he,rfl⟩ | ⟨kk,rfl,hkl,hkk⟩
   ·have hd0:done=[]:=(GT.encs_nil _).1 he
    simp [h1,h2',h4,h7,h8,h9,hia,hc1,hw,hwd,hary,setRun,hcl,GT.enc_mk]
    exact ⟨_,_,_,⟨rfl,rfl,rfl⟩,.inr ⟨rest.length+1,by simp [hd0],by simp,by simp [hd0]⟩⟩
   ·simp [h1,h2',h4,h7,h8,h9,hia,hc1,hw,hwd,hary,setRun,hcl,GT.enc_mk,zqA hkl,hkk,List.set_append_left _ _ hkl,hdl]
    exact ⟨_,_,_,⟨rfl,rfl,rfl⟩,.inr ⟨kk,rfl,by simp; omega,by rw [zqA (by simpa using hkl)]; simp [hkl]⟩⟩
  ·have he:i=a:=by omega
   subst he
   rcases hlst with ⟨he2,rfl⟩ | ⟨kk,rfl,hkl,hkk⟩
   ·simp [h1,h2',h4,h7,h8,h9,hary,setRun,GT.enc,he2,←List.map_take,nilV]
   ·simp [h1,h2',h4,h7,h8,h9,hary,setRun,GT.enc,←List.map_take,nilV]
 ·exact ⟨by simp,by simp,by simp,by simp,by simp,by simp,_,_,[],rfl,.inl ⟨by simp,rfl⟩⟩
theorem term_op (d:Nat) (hd0:0<d) (hd:d≤100) (t:GT) (ht:t.ok) (hs:t.size≤100000000000) (h2:2≤t.args.length) (hk:pickN t.kind 4=3) (g:GT→GT)
  (hg:∀ x∈t.args,∀ bs σ,callT T 55 [x.enc,.int .i64 (d:Int)] bs σ=some ((g x).enc,σ)) (fn:ByteArray) (hfn:fn=opOf (pickN t.name.size 3)) :
  pureT T c55 [t.enc,.int .i64 ((d:Int)+1)]=some (GT.mk 4 fn nilV ((t.args.take 2).map g)).enc:=by
 have hk1:GV.i64ok t.kind:=by revert ht; cases t; simp only [GT.ok]; exact fun h=>h.1
 have hp:=pickQ4 t.kind hk1
 rw [hk] at hp
 have hns:=GT.name_le t
 have hp3:=pickQ3 (t.name.size:Int) ⟨by omega,by omega⟩
 have hlt:=pickN_lt (c:=(t.name.size:Int)) (n:=3) (by omega)
 generalize pickN (t.name.size:Int) 3=m at *
 have hdd:¬ ((d:Int)+1≤1):=by omega
 have hll:¬ ((t.args.length:Int)<2):=by omega
 have hget:∀ L:List AV,L=[AV.str ⟨#[43]⟩,.str ⟨#[45]⟩,.str ⟨#[42]⟩]→(window L m 1).bind (mk false)=some (.str fn):=by
  intro L e; subst e hfn
  match m,hlt with
  | 0,_=>rfl
  | 1,_=>rfl
  | 2,_=>rfl
 have hw2:=hget _ rfl
 have hlt':(m:Int)<3:=by omega
 obtain ⟨x,y,l,hargs⟩:∃ x y l,t.args=x :: y :: l:=by
  match t.args,h2 with
  | x :: y :: l,_=>exact ⟨x,y,l,rfl⟩
 have hx:=hg x (by simp [hargs])
 have hy:=hg y (by simp [hargs])
 have hwd:IntKind.i64.wrap (d:Int)=(d:Int):=wr64 (by omega) (by omega)
 have he:GT.encs t.args=x.enc :: y.enc :: GT.encs l:=by rw [hargs]; rfl
 have hll:¬ ((l.length:Int)+1+1<2):=by omega
 apply pure_enter (by simp [c55])
 simp [c55,hp,hdd,hll,hp3,hlt',setRun,hw2,he,hwd,hx,hy,hargs,GT.enc_mk]
 simp [close1,close0,window,chunk,mk,GT.encs,GT.enc,GT.enc_eq (g x),GT.enc_eq (g y),nilV]
theorem term_ok:∀ (d:Nat) (t:GT),d≤100→t.ok→t.size≤100000000000→pureT T c55 [t.enc,.int .i64 (d:Int)]=some (termV d t).enc:=by
 intro d
 induction d with
 | zero=>intro t hd ht hs; exact term_leaf 0 t ht hs (.inl (by omega))
 | succ d ih=>
  intro t hd ht hs
  unfold termV
  by_cases hl:d=0∨t.args.length<2
  ·rw [if_pos hl]
   refine term_leaf _ t ht hs ?_
   rcases hl with h | h
   ·exact .inl (by omega)
   ·exact .inr h
  ·have hlt:=pickN_lt (c:=t.kind) (n:=4) (by omega)
   have hok:GT.oks t.args:=by revert ht; cases t; simp only [GT.ok]; exact fun h=>h.2.2
   have hargs:=GT.args_le t
   have hcl:∀ x∈t.args,∀ bs σ,callT T 55 [x.enc,.int .i64 (d:Int)] bs σ=some ((termV d x).enc,σ):=fun x hx bs σ=>
    call_clean rfl rfl rfl (by simp) (ih x (by omega) ((GT.oks_iff _).1 hok x hx) (by have:=(GT.sizes_mem hx).1; omega))
   have e:(((d+1:Nat)):Int)=(d:Int)+1:=by omega
   rw [if_neg hl,e]
   by_cases h2:pickN t.kind 4=2
   ·rw [if_neg (by omega),if_neg (by omega),if_pos h2]
    exact term_call d (by omega) (by omega) t ht hs (by omega) h2 _ hcl _ rfl
   ·by_cases h3:pickN t.kind 4=3
    ·rw [if_neg (by omega),if_neg (by omega),if_neg h2]
     exact term_op d (by omega) (by omega) t ht hs (by omega) h3 _ hcl _ rfl
    ·have hk1:GV.i64ok t.kind∧t.value.ok:=by revert ht; cases t; simp only [GT.ok]; exact fun h=>⟨h.1,h.2.1⟩
     have hp:=pickQ4 t.kind hk1.1
     have hv:=lawVar t.name (Nat.le_trans (GT.name_le t) hs)
     have hf:=callFit t.value hk1.2 (Nat.le_trans (GT.value_le t) hs)
     have hfs:(fit t.value).text.size≤100000000000:=Nat.le_trans (Nat.le_trans (text_le _) (fit_size _)) (by omega)
     have hr:=lawRel (fit t.value).text hfs
     have hdd:¬ ((d:Int)+1≤1):=by omega
     have hll:¬ ((t.args.length:Int)<2):=by omega
     apply pure_enter (by simp [c55])
     by_cases h0:pickN t.kind 4=0
     ·rw [h0] at hp
      rw [if_pos h0]
      simp [c55,hp,hdd,hll,hv,setRun,GT.enc,nilV]
     ·have h1:pickN t.kind 4=1:=by omega
      rw [h1] at hp
      rw [if_neg h0,if_pos h1]
      simp [c55,hp,hdd,hll,hf,hr,setRun,enc_mk]
      refine ⟨fun h=>?_,fun h=>?_⟩
      all_goals simp [GT.enc,valOf,h]
theorem callTerm (d:Nat) (t:GT) (hd:d≤100) (ht:t.ok) (hs:t.size≤100000000000) (bs:Nat) (σ:Heap):callT T 55 [t.enc,.int .i64 (d:Int)] bs σ=some ((termV d t).enc,σ):=call_clean rfl rfl rfl (by simp) (term_ok d t hd ht hs)
end Go.Proofs.YtjfgjnlocadpbaaGreatDoor
end
section
namespace Go.Proofs.YtjfgjnlocadpbaaGreatDoor
open Go.Mach
mutual
def sameT:GT→GT→Bool
 | .mk k n v l,.mk k2 n2 v2 l2=>decide (k=k2) && decide (n=n2) && decide (v=v2) && sameTs l l2
def sameTs:List GT→List GT→Bool
 | [],[]=>true
 | x :: l,y :: m=>sameT x y && sameTs l m
 | _,_=>false
end
mutual
theorem sameT_iff:∀ a b:GT,sameT a b=true↔a=b
 | .mk k n v l,.mk k2 n2 v2 l2=>by
  have:=sameTs_iff l l2
  simp only [sameT,zqL,decide_eq_true_eq,this,GT.mk.injEq,and_assoc]
theorem sameTs_iff:∀ a b:List GT,sameTs a b=true↔a=b
 | [],[]=>by simp [sameTs]
 | [],_ :: _=>by simp [sameTs]
 | _ :: _,[]=>by simp [sameTs]
 | x :: l,y :: m=>by
  have h1:=sameT_iff x y
  have h2:=sameTs_iff l m
  simp only [sameTs,zqL,h1,h2,List.cons.injEq]
end
instance:DecidableEq GT:=fun a b=>decidable_of_iff _ (sameT_iff a b)
end Go.Proofs.YtjfgjnlocadpbaaGreatDoor
end
