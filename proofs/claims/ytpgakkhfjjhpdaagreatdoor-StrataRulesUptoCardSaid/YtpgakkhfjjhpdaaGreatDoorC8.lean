import Derived.Test.YtpgakkhfjjhpdaaGreatDoorC7
import Derived.Test.YtpgakkhfjjhpdaaGreatDoorC6
set_option linter.unusedVariables false
set_option linter.unusedSimpArgs false
set_option linter.unnecessarySimpa false
section
set_option maxRecDepth 100000
namespace Go.Proofs.YtpgakkhfjjhpdaaGreatDoor
open Go.Mach
theorem least_of {P:Nat→Prop}:∀ n,P n→∃ m,P m∧∀ k,P k→m≤k:=by
 intro n
 induction n using Nat.strongRecOn with
 | ind n ih=>
  intro h
  by_cases hk:∃ k,k<n∧P k
  ·obtain ⟨k,hlt,hp⟩:=hk
   exact ih k hlt hp
  ·exact ⟨n,h,fun k hp=>Nat.le_of_not_lt fun hlt=>hk ⟨k,hlt,hp⟩⟩
theorem Ans.ex {E:List ED} {n:Nat} (hE:∀ e∈E,e.head<n∧e.on<n):∃ o,Ans E n o:=by
 by_cases h:∃ s,Sol E s∧∀ i,s i≤n
 ·obtain ⟨s0,hs0,hb0⟩:=h
  have hm:∀ i,∃ m,(∃ s,(Sol E s∧∀ i,s i≤n)∧s i=m)∧∀ k,(∃ s,(Sol E s∧∀ i,s i≤n)∧s i=k)→m≤k:=fun i=>least_of _ ⟨s0,⟨hs0,hb0⟩,rfl⟩
  let m:Nat→Nat:=fun i=>Classical.choose (hm i)
  have h1:∀ i,∃ s,(Sol E s∧∀ i,s i≤n)∧s i=m i:=fun i=>(Classical.choose_spec (hm i)).1
  have h2:∀ i s,Sol E s→(∀ i,s i≤n)→m i≤s i:=fun i s hs hb=>(Classical.choose_spec (hm i)).2 _ ⟨s,⟨hs,hb⟩,rfl⟩
  have hg:∀ i,i<n→gN ((List.range n).map m) i=m i:=fun i hi=>by
   unfold gN; simp [hi]
  refine ⟨some ((List.range n).map m),by simp,fun e he=>?_,fun i=>?_,fun s hs i=>?_⟩
  ·obtain ⟨he1,he2⟩:=hE e he
   rw [hg _ he1,hg _ he2]
   obtain ⟨s,⟨hs,hb⟩,e1⟩:=h1 e.head
   have:=hs e he
   have:=h2 e.on s hs hb
   omega
  ·by_cases hi:i<n
   ·rw [hg i hi]
    obtain ⟨s,⟨_,hb⟩,e1⟩:=h1 i
    have:=hb i
    omega
   ·rw [gN_ge (by simp; omega)]; omega
  ·by_cases hi:i<n
   ·rw [hg i hi]
    have hmin:Sol E fun i=>min (s i) (s0 i):=fun e he=>by
     have a:=hs e he
     have b:=hs0 e he
     show min (s e.on) (s0 e.on)+e.up≤min (s e.head) (s0 e.head)
     omega
    have:=h2 i _ hmin fun i=>by have:=hb0 i; show min (s i) (s0 i)≤n; omega
    have h3:min (s i) (s0 i)≤s i:=by omega
    omega
   ·rw [gN_ge (by simp; omega)]; omega
 ·exact ⟨none,h⟩
open Classical in
noncomputable def ansE (E:List ED) (n:Nat):Option (List Nat):=if h:∃ o,Ans E n o then Classical.choose h else none
theorem ansE_ans {E:List ED} {n:Nat} (hE:∀ e∈E,e.head<n∧e.on<n):Ans E n (ansE E n):=by
 have h:=Ans.ex hE
 unfold ansE
 rw [dif_pos h]
 exact Classical.choose_spec h
theorem ansE_eq {E:List ED} {n:Nat} {o:Option (List Nat)} (ho:Ans E n o):ansE E n=o:=by
 have h:∃ o,Ans E n o:=⟨o,ho⟩
 unfold ansE
 rw [dif_pos h]
 exact (Classical.choose_spec h).unique ho
def encN8 (l:List Nat):List AV:=l.map fun (n:Nat)=>.int .i64 (n:Int)
def natA:AV→Nat
 | .int _ n=>n.toNat
 | _=>0
theorem natA_enc (l:List Nat):(encN8 l).map natA=l:=by
 unfold encN8; rw [List.map_map]; conv=>rhs; rw [←List.map_id l]
 rfl
theorem encN8_len (l:List Nat):(encN8 l).length=l.length:=by simp [encN8]
theorem encN8_set (l:List Nat) (i v:Nat):(encN8 l).set i (.int .i64 (v:Int))=encN8 (l.set i v):=by simp [encN8,List.map_set]
theorem encN8_win {l:List Nat} {i:Nat} (h:i<l.length):window (encN8 l) i 1=some [.int .i64 (gN l i:Int)]:=by
 unfold window
 rw [if_pos (by rw [encN8_len]; omega)]
 congr 1
 apply List.ext_getElem?
 intro j
 rw [List.getElem?_take,List.getElem?_drop]
 cases j with
 | zero=>simp [encN8,h,gN]
 | succ j=>simp
def mu8 (n:Nat) (σ:Heap):Nat:=match σ[1]? with
 | some (AObj.cells cs _ _)=>left n (cs.map natA)
 | _=>0
def resO:Option (List Nat)→AV
 | none=>.tup [.isl [] false,.int .i64 80]
 | some l=>.tup [.isl (encN8 l) false,.int .i64 0]
noncomputable def resS (p:GP):AV:=if (checkP p).1≠0 then .tup [.isl [] false,.int .i64 (checkP p).1] else resO (ansE (edgesP p) p.decls.length)
def scpC:ACode→ACode
 | .scope _ _ r=>r
 | c=>c
def scpA:ACode→ACode
 | .scope a _ _=>a
 | c=>c
abbrev SR:ACode:=scpC (sndC c7.body)
abbrev SL:ACode:=sndC SR
abbrev SA:ACode:=scpA (sndC c7.body)
def InvS (E:List ED) (n:Nat) (f:FR) (σ:Heap):Prop:=f 6=.isl (E.map encE) false∧f 7=.sl 1 0 n 1 false∧2≤σ.length∧∃ l,σ[1]?=some (.cells (encN8 l) 0 false)∧l.length=n∧Low E l∧∀ i,gN l i≤n
theorem close_ints {σ:Heap} {id n:Nat} {l:List Nat} (h:σ[id]?=some (.cells (encN8 l) 0 false)) (hn:l.length=n):∃ σ',closeA σ (.sl id 0 n 1 false)=some (.isl (encN8 l) false,σ'):=by
 have hw:window (encN8 l) 0 (n * 1)=some (encN8 l):=window_full (by rw [encN8_len]; omega)
 have hall:(encN8 l).all AV.clo1=true:=by simp [encN8,AV.clo1]
 have hnr:(encN8 l).map AV.nrm=encN8 l:=by simp [encN8,AV.nrm]
 have hch:chunk 1 false n (encN8 l)=some (encN8 l):=by rw [←hn,←encN8_len l]; exact chunk_one _
 by_cases h0:n=0
 ·subst h0
  have:l=[]:=List.eq_nil_of_length_eq_zero hn
  subst this
  exact ⟨σ,(close1_of0 (r:=(.isl [] false,σ)) (σ:=σ) (v:=.sl id 0 0 1 false) rfl)⟩
 ·exact ⟨_,close1_of0 (r:=(.isl (encN8 l) false,frz σ id (0+n * 1))) (by simp only [close0,if_neg h0,h,hw,Option.bind_some,hall,if_true,hnr,hch,Option.map_some])⟩
theorem str_loop (E:List ED) (n:Nat) (hE:∀ e∈E,e.head<n∧e.on<n∧e.up≤1) (hn:n≤1000000) (hEl:E.length≤100000000) (J:FR→Heap→Prop) (f:FR) (σ:Heap) (hI:InvS E n f σ) (hJ:∀ f' σ',mu8 n σ'<mu8 n σ→InvS E n f' σ'→J f' σ') :
  wpK T 0 59 [.code SL] f σ (gotoW T 0 59 0 [] (endP 59 [.tmp 2,.tmp 3] (resO (ansE E n))) J):=by
 obtain ⟨h6,h7,hN,l,hσ,hl,hlow,hle⟩:=hI
 have hmu:mu8 n σ=left n l:=by unfold mu8; rw [hσ]; simp only [natA_enc]
 simp [SL,SR,c7,sndC,scpC,h6]
 refine W_for T 0 59 E.length (fun i g τ=>g 6=.isl (E.map encE) false∧g 7=.sl 1 0 n 1 false∧g 25=.isl (E.map encE) false∧g 26=.int .i64 (E.length:Int)∧g 27=.int .i64 (i:Int)∧2≤τ.length∧τ[1]?=some (.cells (encN8 l) 0 false)∧∀ j,(hj:j<E.length)→j<i→gN l E[j].on+E[j].up≤gN l E[j].head) ?_ _ _ ?_
 ·rintro i g τ hi ⟨g6,g7,g25,g26,g27,gN',gσ,hall⟩
  by_cases hlt:i<E.length
  ·have hw:IntKind.i64.wrap ((i:Int)+1)=(i:Int)+1:=wr64 (by omega) (by omega)
   have e0:E[i]?=some E[i]:=zqF hlt
   have hem:=zqT hlt
   have hlast:∀ e,e=E[i]→gN l e.on+e.up≤gN l e.head→∀ j,(hj:j<E.length)→j<i+1→gN l E[j].on+E[j].up≤gN l E[j].head:=by
    rintro e rfl h j hj hji
    by_cases hje:j=i
    ·subst hje; exact h
    ·exact hall j hj (by omega)
   obtain ⟨b1,b2,b3⟩:=hE _ hem
   have hset:Low E (l.set E[i].head (gN l E[i].on+E[i].up)):=low_set hlow hem (by omega)
   have hfail:=fun h=>low_fail (n:=n) hlow hem h
   generalize he:E[i]=e at *
   have hlast:=hlast e rfl
   have hb:=hle e.on
   have hadd:IntKind.i64.wrap ((gN l e.on:Int)+(e.up:Int))=(gN l e.on:Int)+(e.up:Int):=by rw [wr64 (by omega) (by omega)]
   have b1':e.head+1≤n:=by omega
   have hw1:window (encN8 l) e.on 1=some [.int .i64 (gN l e.on:Int)]:=encN8_win (by omega)
   have hw2:window (encN8 l) e.head 1=some [.int .i64 (gN l e.head:Int)]:=encN8_win (by omega)
   have n1:1<τ.length:=by omega
   by_cases hle2:gN l e.on+e.up≤gN l e.head
   ·have hle3:((gN l e.on:Int)+(e.up:Int))≤(gN l e.head:Int):=by omega
    simp [-getElem?_pos,zqA,zqB,zqE,zqD,list_set_at,g6,g7,g25,g26,g27,hlt,e0,encE,setRun,n1,gσ,b1,b2,hw1,hw2,hadd,hle3,hw]
    exact ⟨by omega,hlast hle2⟩
   ·have hle3:¬ (((gN l e.on:Int)+(e.up:Int))≤(gN l e.head:Int)):=by omega
    by_cases hbig:n<gN l e.on+e.up
    ·have hbig2:(n:Int)<((gN l e.on:Int)+(e.up:Int)):=by omega
     have ha:ansE E n=none:=ansE_eq (hfail hbig)
     rw [ha]
     simp [-getElem?_pos,zqA,zqB,zqE,zqD,list_set_at,g6,g7,g25,g26,g27,hlt,e0,encE,setRun,n1,gσ,b1,b2,hw1,hw2,hadd,hle3,hbig2,resO,endP,res1]
     done
    ·have hbig2:¬ ((n:Int)<((gN l e.on:Int)+(e.up:Int))):=by omega
     simp [-getElem?_pos,zqA,zqB,zqE,zqD,list_set_at,g6,g7,g25,g26,g27,hlt,e0,encE,setRun,n1,gσ,b1,b2,hw1,hw2,hadd,hle3,hbig2,encN8_len,hl,b1']
     have hl2:e.head<l.length:=by omega
     have hs:(encN8 l).set e.head (.int .i64 ((gN l e.on:Int)+(e.up:Int)))=encN8 (l.set e.head (gN l e.on+e.up)):=by
      rw [←encN8_set]; congr 2
     rw [hs]
     refine hJ _ _ ?_ ⟨by simp [g6],by simp [g7],by simp; omega,l.set e.head (gN l e.on+e.up),?_,by simp [hl],hset,fun i=>?_⟩
     ·rw [hmu]
      unfold mu8
      rw [zqA (by simp; omega),list_set_at n1]
      simp only [natA_enc]
      exact left_set hl2 (by omega) (by omega)
     ·rw [zqA (by simp; omega),list_set_at n1]
     ·rw [gN_set hl2]
      split
      ·omega
      ·exact hle i
  ·have hei:i=E.length:=by omega
   have ha:ansE E n=some l:=ansE_eq ⟨hl,fun e he=>by obtain ⟨j,hj,rfl⟩:=zqS he; exact hall j hj (by omega),hle,hlow⟩
   obtain ⟨σ2,hcl⟩:=close_ints gσ hl
   rw [ha]
   simp [g6,g7,g25,g26,g27,hlt,resO,endP,res1,hcl]
   done
 ·simp [h6,h7,hN,hσ]
theorem callEdges (p:GP) (hc:ChkOk p) (hp:p.size≤1000000000) (bs:Nat) (σ:Heap):callT T 21 [p.enc] bs σ=some (.isl ((edgesP p).map encE) false,σ):=call_clean rfl rfl rfl (by simp) (edges_ok p hc hp)
theorem strata_ok (p:GP) (hp:p.size≤1000000000):pureT T c7 [p.enc]=some (resS p):=by
 have hck:=callCheck p hp
 have hld:=GP.decls_len p
 simp only [GP.enc_eq] at hck
 obtain ⟨⟨e,m⟩,hen⟩:∃ x,checkP p=x:=⟨_,rfl⟩
 unfold resS
 rw [hen] at hck ⊢
 apply pure_enter (by simp [c7])
 show wpK T 0 59 [.code c7.body] _ [] (endP 59 [.tmp 2,.tmp 3] _)
 have hb:c7.body=.seq (fstC c7.body) (.scope (.seq (fstC SA) (.seq (fstC (sndC SA)) (.seq (fstC (sndC (sndC SA))) (.seq (.lab 0) SL)))) 0 (.seq .skip SL)):=rfl
 rw [hb]
 by_cases h0:e=0
 ·subst h0
  have hc:ChkOk p:=chk_ok (by rw [hen])
  have hE:∀ e∈edgesP p,e.head<p.decls.length∧e.on<p.decls.length∧e.up≤1:=fun e he=>edge_lt hc he
  have hd64:p.decls.length≤64:=by
   have h:=hc.prog
   unfold progB at h
   simp only [zqL,decide_eq_true_eq] at h
   exact h.1.1.1.1
  have hEl:(edgesP p).length≤100000000:=by
   have h:=hc.prog
   unfold progB at h
   simp only [zqL,decide_eq_true_eq,zqQ] at h
   have h8:∀ r∈p.rules,r.body.length≤8:=fun r hr=>by
    have:=h.1.2 r hr
    unfold ruleB at this
    simp only [zqL,decide_eq_true_eq] at this
    omega
   have h1:=accE_len h8 p.rules.length ⟨⟨#[]⟩,⟨#[]⟩,[],⟨#[]⟩,0,[]⟩ 0 (by simp)
   have h2:accE p p.rules.length ⟨⟨#[]⟩,⟨#[]⟩,[],⟨#[]⟩,0,[]⟩ 0=edgesP p:=by unfold accE edgesP; rw [List.take_length]; simp
   rw [h2] at h1
   have:=h.1.1.1.2.2
   omega
  have hcall:=callEdges p hc hp
  simp only [GP.enc_eq] at hcall
  rw [if_neg (by simp)]
  have loop:=fun J f σ=>str_loop (edgesP p) p.decls.length hE (by omega) hEl J f σ
  generalize edgesP p=E at *
  generalize SL=K at loop
  simp [SA,c7,fstC,sndC,scpA]
  refine W_scope T 0 59 (InvS E p.decls.length) (fun _ σ=>mu8 p.decls.length σ) (fun f σ hI=>?_) _ _ ?_
  ·simp
   exact loop _ f σ hI fun f' σ' h1 h2=>⟨h1,h2⟩
  ·simp [hck,hcall,GP.enc_eq,show (p.decls.length:Int) * 8≤70368744177664 by omega,show (p.decls.length:Int)≤70368744177664 by omega]
   refine loop _ _ _ ⟨by simp,by simp,by simp,List.replicate p.decls.length 0,by simp [encN8],by simp,low_zero _ _,fun i=>?_⟩ fun f' σ' _ h=>h
   unfold gN
   by_cases hi:i<p.decls.length
   ·simp [hi]
   ·rw [List.getElem?_eq_none (by simp; omega)]; simp
 ·simp [SA,c7,fstC,sndC,scpA,h0]
  refine W_scope T 0 59 (fun _ _=>False) (fun _ _=>0) (fun f σ hI=>hI.elim) _ _ ?_
  simp [hck,h0,GP.enc_eq,endP,res1]
  done
theorem callStrata (p:GP) (hp:p.size≤1000000000) (bs:Nat) (σ:Heap):callT T 7 [p.enc] bs σ=some (resS p,σ):=call_clean rfl rfl rfl (by simp) (strata_ok p hp)
set_option maxRecDepth 100000
open Go.Mach
noncomputable def numsP (p:GP):Option (List Nat):=if (checkP p).1≠0 then none else ansE (edgesP p) p.decls.length
def inS (p:GP) (s:List Nat) (n:Int) (r:GR):Bool:=decide ((gN s (atP p.decls r.head):Int)=n)
noncomputable def rulesP (p:GP) (n:Int):List GR:=match numsP p with
 | none=>[]
 | some s=>p.rules.filter (inS p s n)
theorem rules8_ok (p:GP) (hp:p.size≤1000000000) (n:Int):pureT T c11 [p.enc,.int .i64 n]=some (.isl ((rulesP p n).map GR.enc) false):=by
 have hs:=callStrata p hp
 have hlr:=GP.rules_len p
 have hld:=GP.decls_len p
 simp only [GP.enc_eq] at hs
 apply pure_enter (by simp [c11])
 by_cases h0:(checkP p).1=0
 ·have hc:=chk_ok h0
  have hE:∀ e∈edgesP p,e.head<p.decls.length∧e.on<p.decls.length:=fun e he=>⟨(edge_lt hc he).1,(edge_lt hc he).2.1⟩
  have hr1:resS p=resO (ansE (edgesP p) p.decls.length):=by unfold resS; rw [if_neg (by simpa using h0)]
  have hr2:numsP p=ansE (edgesP p) p.decls.length:=by unfold numsP; rw [if_neg (by simpa using h0)]
  have hA:=ansE_ans hE
  rw [hr1] at hs
  cases ho:ansE (edgesP p) p.decls.length with
  | none=>
   have hrp:rulesP p n=[]:=by unfold rulesP; rw [hr2,ho]
   rw [ho] at hs
   rw [hrp]
   simp [c11,hs,GP.enc_eq,resO]
  | some s=>
   have hrp:rulesP p n=p.rules.filter (inS p s n):=by unfold rulesP; rw [hr2,ho]
   rw [ho] at hs hA
   rw [hrp]
   obtain ⟨hlen,_,_,_⟩:=hA
   obtain ⟨⟨v,σ1⟩,hcall,hv,hl1,hk1,hm1⟩:=numbers_call p hc.dup (by omega) 0 [.cells [.isl (p.decls.map GD.enc) false,.isl (p.facts.map GU.enc) false,.isl (p.rules.map GR.enc) false] 0 false] (by simp)
   simp only [List.length_singleton] at hv hl1 hk1 hm1
   subst hv
   have h01:=hk1 0 (by omega)
   simp only [GP.enc_eq] at hcall
   simp [c11,hs,hcall,GP.enc_eq,h01,resO]
   refine W_for T 0 40 p.rules.length (fun i f τ=>f 1=.int .i64 n∧f 5=.isl (encN8 s) false∧f 7=.map 2∧f 20=.isl (p.rules.map GR.enc) false∧f 21=.int .i64 (p.rules.length:Int)∧f 22=.int .i64 (i:Int)∧3≤τ.length∧τ[2]?=some (.mp (encI (numP p.decls)))∧LX 3 6 τ (((p.rules.take i).filter (inS p s n)).map GR.enc) (f 4)) ?_ _ _ ?_
   ·rintro i f τ hi ⟨h1,h5,h7,h20,h21,h22,hN,hm,hX⟩
    by_cases hlt:i<p.rules.length
    ·have hw:IntKind.i64.wrap ((i:Int)+1)=(i:Int)+1:=wr64 (by omega) (by omega)
     have e0:p.rules[i]?=some p.rules[i]:=zqF hlt
     have hrm:=zqT hlt
     have hhd:=look_at (hc.head _ hrm)
     have hlt2:=hc.head _ hrm
     have hstep:(p.rules.take (i+1)).filter (inS p s n)=(p.rules.take i).filter (inS p s n)++(if inS p s n p.rules[i]=true then [p.rules[i]] else []):=by
      rw [zqO hlt,List.filter_append]
      congr 1
      rw [List.filter_cons,List.filter_nil]
     have hfl:((p.rules.take i).filter (inS p s n)).length≤p.rules.length:=by
      have h1:=List.length_filter_le (inS p s n) (p.rules.take i)
      have h2:(p.rules.take i).length≤p.rules.length:=by simp; omega
      omega
     rw [hstep]
     generalize p.rules[i]=r at *
     have hlk:∀ o a,mlookA (τ++[o]) false [2] (.int .i64 0) false (.map 2) (.str a)=some (.int .i64 ((lookI (numP p.decls) a).getD 0:Nat)):=fun o a=>mlook_i (by rw [zqA (by omega)]; exact hm) a
     have hidx:(encN8 s)[atP p.decls r.head]?=some (.int .i64 (gN s (atP p.decls r.head):Int)):=by
      simp [encN8,gN,hlt2,hlen]
     have n2:2<τ.length:=by omega
     by_cases hin:(gN s (atP p.decls r.head):Int)=n
     ·have hin':inS p s n r=true:=by simp [inS,hin]
      rw [if_pos hin']
      simp [-getElem?_pos,-appendA_ag,zqA,zqB,zqE,zqD,list_set_at,h1,h5,h7,h20,h21,h22,hlt,e0,GR.enc_eq,setRun,hlk,hhd,hidx,hin]
      refine stW_app2T (N:=3) hX rfl rfl (by omega) (by omega) hN (by simp; omega) fun x1 τ1 hO1 l1 q4=>?_
      have r2:=q4 2 _ hm (.inl (by omega))
      simp [h1,h5,h7,h20,h21,h22,hw,r2]
      exact ⟨by omega,by simpa [GR.enc_eq] using hO1.toLX⟩
     ·have hin':¬ inS p s n r=true:=by simp [inS,hin]
      rw [if_neg hin']
      simp [-getElem?_pos,-appendA_ag,zqA,zqB,zqE,zqD,list_set_at,h1,h5,h7,h20,h21,h22,hlt,e0,GR.enc_eq,setRun,hlk,hhd,hidx,hin,hw]
      exact ⟨by omega,by rw [zqA n2]; exact hm,hX.app _⟩
    ·have he:i=p.rules.length:=by omega
     subst he
     rw [List.take_length] at hX
     obtain ⟨σ2,hcl⟩:=LX_closeR hX
     simp [h1,h5,h7,h20,h21,h22,hcl]
   ·simp
    exact ⟨by omega,hm1,.inl ⟨rfl,rfl⟩⟩
 ·have hrp:rulesP p n=[]:=by unfold rulesP numsP; rw [if_pos (by simpa using h0)]
  have hr1:resS p=.tup [.isl [] false,.int .i64 (checkP p).1]:=by unfold resS; rw [if_pos (by simpa using h0)]
  rw [hr1] at hs
  rw [hrp]
  simp [c11,hs,GP.enc_eq,h0]
theorem callRules8 (p:GP) (hp:p.size≤1000000000) (n:Int) (bs:Nat) (σ:Heap):callT T 11 [p.enc,.int .i64 n] bs σ=some (.isl ((rulesP p n).map GR.enc) false,σ):=call_clean rfl rfl rfl (by simp) (rules8_ok p hp n)
set_option maxRecDepth 100000
open Go.Mach
theorem ints_ok (a b:List Nat) (ha:a.length≤100000000) (hb:b.length≤100000000):pureT T c13 [.isl (encN8 a) false,.isl (encN8 b) false]=some (.bool (decide (a=b))):=by
 apply pure_enter (by simp [c13])
 by_cases hl:a.length=b.length
 ·obtain ⟨n,hn⟩:∃ n,b.length=n:=⟨_,rfl⟩
  rw [hn] at hl
  simp [c13,encN8_len,hl,hn]
  refine W_for T 0 26 n (fun i f σ=>f 0=.isl (encN8 a) false∧f 1=.isl (encN8 b) false∧f 5=.int .i64 (i:Int)∧∀ j,(hj:j<a.length)→(hj2:j<b.length)→j<i→a[j]=b[j]) ?_ _ _ ?_
  ·rintro i f σ hi ⟨h0,h1,h5,hall⟩
   by_cases hlt:i<n
   ·have hw:IntKind.i64.wrap ((i:Int)+1)=(i:Int)+1:=wr64 (by omega) (by omega)
    have hlta:i<a.length:=by omega
    have hltb:i<b.length:=by omega
    have e1:(encN8 a)[i]?=some (.int .i64 (a[i]:Int)):=by simp [encN8,hlta]
    have e2:(encN8 b)[i]?=some (.int .i64 (b[i]:Int)):=by simp [encN8,hltb]
    by_cases he:a[i]=b[i]
    ·have he':(a[i]:Int)=(b[i]:Int):=by omega
     rw [he'] at e1
     simp [-getElem?_pos,h0,h1,h5,encN8_len,hlt,e1,e2,hw,hl]
     refine fun j hj hj2 hji=>?_
     by_cases hje:j=i
     ·subst hje; exact he
     ·exact hall j (by omega) hj2 (by omega)
    ·have he':¬ (a[i]:Int)=(b[i]:Int):=by omega
     have hne:a≠b:=fun h=>he (by subst h; rfl)
     simp [-getElem?_pos,h0,h1,h5,encN8_len,hlt,e1,e2,he,he',hne,hl]
   ·have heq:a=b:=List.ext_getElem (by omega) fun j h1 h2=>hall j h1 h2 (by omega)
    simp [h0,h1,h5,encN8_len,hlt,heq,hn]
  ·simp
 ·have hne:a≠b:=fun h=>hl (by rw [h])
  have hl':¬ (a.length:Int)=(b.length:Int):=by omega
  simp [c13,encN8_len,hl',hne]
theorem callInts (a b:List Nat) (ha:a.length≤100000000) (hb:b.length≤100000000) (bs:Nat) (σ:Heap):callT T 13 [.isl (encN8 a) false,.isl (encN8 b) false] bs σ=some (.bool (sym (decide (a=b))),σ):=call_clean rfl rfl rfl (by simp) (ints_ok a b ha hb)
theorem index_eval:∀ d∈relsD.map GD.name,evalFn T 50 16 [.str d] 0 []=some (.int .i64 (atP relsD d:Int),[]):=by
 intro d hd
 simp only [relsD,List.map_cons,List.map_nil,List.mem_cons,List.not_mem_nil,or_false] at hd
 rcases hd with rfl | rfl | rfl | rfl | rfl | rfl <;> kernel_rfl
theorem callIndex (n:ByteArray) (h:atP relsD n<6) (bs:Nat) (σ:Heap):callT T 16 [.str n] bs σ=some (.int .i64 (atP relsD n:Int),σ):=by
 have hm:n∈relsD.map GD.name:=by
  unfold atP at h
  obtain ⟨d,hd,hn⟩:=List.findIdx_lt_length.1 (show relsD.findIdx (fun d=>decide (d.name=n))<relsD.length from h)
  exact List.mem_map.2 ⟨d,hd,by simpa using hn⟩
 exact call_clean rfl rfl rfl (by simp) (pureT_of_call rfl rfl rfl rfl (callT_of_eval (index_eval n hm)))
set_option maxRecDepth 100000
open Go.Mach
def a8S:GT:=.mk 1 ⟨#[83]⟩ (.mk 0 0 ⟨#[]⟩ []) []
def a8X:GT:=.mk 1 ⟨#[88]⟩ (.mk 0 0 ⟨#[]⟩ []) []
def a8R:GR:=⟨⟨#[114]⟩,⟨#[112]⟩,[a8S,a8X],⟨#[]⟩,0,[⟨1,⟨#[113]⟩,[a8S,a8X]⟩,⟨2,⟨#[116]⟩,[a8S,a8X]⟩]⟩
def a8Q:GR:=⟨⟨#[115]⟩,⟨#[116]⟩,[a8S,a8X],⟨#[]⟩,0,[⟨1,⟨#[112]⟩,[a8S,a8X]⟩]⟩
def a8P:GP:=⟨relsD,[],[a8R]⟩
def a8P2:GP:=⟨relsD,[],[a8R,a8Q]⟩
theorem a8_check:(checkP a8P).1=0:=by decide +kernel
theorem a8_check2:(checkP a8P2).1=0:=by decide +kernel
theorem a8_edges:edgesP a8P=[⟨1,2,0⟩,⟨1,5,1⟩]:=by kernel_rfl
theorem a8_edges2:edgesP a8P2=[⟨1,2,0⟩,⟨1,5,1⟩,⟨5,1,0⟩]:=by kernel_rfl
theorem a8_ans:ansE (edgesP a8P) 6=some [0,1,0,0,0,0]:=by
 rw [a8_edges]
 refine ansE_eq ⟨rfl,fun e he=>?_,fun i=>?_,fun s hs i=>?_⟩
 ·rcases List.mem_cons.1 he with rfl | he
  ·decide
  ·rcases List.mem_cons.1 he with rfl | he
   ·decide
   ·cases he
 ·rcases i with _ | _ | _ | _ | _ | _ | i <;> simp [gN]
 ·have:=hs ⟨1,5,1⟩ (by simp)
  simp only at this
  rcases i with _ | _ | _ | _ | _ | _ | i <;> simp [gN]
  omega
theorem a8_ans2:ansE (edgesP a8P2) 6=none:=by
 rw [a8_edges2]
 refine ansE_eq ?_
 rintro ⟨s,hs,_⟩
 have h1:=hs ⟨1,5,1⟩ (by simp)
 have h2:=hs ⟨5,1,0⟩ (by simp)
 simp only at h1 h2
 omega
theorem a8_res:resS a8P=.tup [.isl (encN8 [0,1,0,0,0,0]) false,.int .i64 0]:=by
 unfold resS
 rw [if_neg (by rw [a8_check]; simp)]
 have:a8P.decls.length=6:=rfl
 rw [this,a8_ans]; rfl
theorem a8_res2:resS a8P2=.tup [.isl [] false,.int .i64 80]:=by
 unfold resS
 rw [if_neg (by rw [a8_check2]; simp)]
 have:a8P2.decls.length=6:=rfl
 rw [this,a8_ans2]; rfl
theorem a8_rules:(rulesP a8P 1).length=1:=by
 have h:numsP a8P=some [0,1,0,0,0,0]:=by
  unfold numsP
  rw [if_neg (by rw [a8_check]; simp)]
  exact a8_ans
 have h2:rulesP a8P 1=a8P.rules.filter (inS a8P [0,1,0,0,0,0] 1):=by unfold rulesP; rw [h]
 rw [h2]
 decide +kernel
def a8O (n:UInt8):AObj:=.cells [.int .i64 1,.str ⟨#[n]⟩,.int .i64 0,.int .i64 0,.str ⟨#[]⟩,.isl [] true,.isl [] true] 0 false
def a8H:Heap:=[a8O 83,a8O 88,
 .cells [.int .i64 1,.str ⟨#[83]⟩,.int .i64 0,.int .i64 0,.str ⟨#[]⟩,.isl [] true,.isl [] true,.int .i64 1,.str ⟨#[88]⟩,.int .i64 0,.int .i64 0,.str ⟨#[]⟩,.isl [] true,.isl [] true] 0 false,
 .cells [.int .i64 1,.str ⟨#[113]⟩,.sl 2 0 2 7 true,.int .i64 2,.str ⟨#[116]⟩,.sl 2 0 2 7 true] 0 false,
 .cells [.str ⟨#[114]⟩,.str ⟨#[112]⟩,.sl 2 0 2 7 true,.str ⟨#[]⟩,.int .i64 0,.sl 3 0 2 3 true] 0 false,
 .cells [.isl (relsD.map GD.enc) false,.isl [] true,.sl 4 0 1 6 true] 0 false]
abbrev a8A:AV:=.agg [.isl (relsD.map GD.enc) false,.isl [] true,.sl 4 0 1 6 true]
def a8H1:Heap:=[a8O 83,a8O 88,
 .cells [.int .i64 1,.str ⟨#[83]⟩,.int .i64 0,.int .i64 0,.str ⟨#[]⟩,.isl [] true,.isl [] true,.int .i64 1,.str ⟨#[88]⟩,.int .i64 0,.int .i64 0,.str ⟨#[]⟩,.isl [] true,.isl [] true] 14 false,
 .cells [.int .i64 1,.str ⟨#[113]⟩,.sl 2 0 2 7 true,.int .i64 2,.str ⟨#[116]⟩,.sl 2 0 2 7 true] 6 false,
 .cells [.str ⟨#[114]⟩,.str ⟨#[112]⟩,.sl 2 0 2 7 true,.str ⟨#[]⟩,.int .i64 0,.sl 3 0 2 3 true] 6 false,
 .cells [.isl (relsD.map GD.enc) false,.isl [] true,.sl 4 0 1 6 true] 0 false]
theorem a8_close:closeT a8H [a8A]=some ([a8P.enc],a8H1):=rfl
theorem a8_c1:callT T 7 [a8A] 0 a8H=some (.tup [.isl (encN8 [0,1,0,0,0,0]) false,.int .i64 0],a8H1):=by
 have:=call_pure (T:=T) (f:=7) (bs:=0) rfl rfl rfl a8_close (by simp) (strata_ok a8P (by decide +kernel))
 rw [a8_res] at this
 exact this
def a8O6:AObj:=.cells [.isl (relsD.map GD.enc) false,.isl [] true,.sl 4 0 1 6 true] 0 false
def a8O7:AObj:=.cells [.str ⟨#[114]⟩,.str ⟨#[112]⟩,.sl 2 0 2 7 true,.str ⟨#[]⟩,.int .i64 0,.sl 3 0 2 3 true] 0 true
def a8O8:AObj:=.cells [.int .i64 1,.str ⟨#[112]⟩,.sl 2 0 2 7 true] 0 false
def a8O9:AObj:=.cells [.str ⟨#[115]⟩,.str ⟨#[116]⟩,.sl 2 0 2 7 true,.str ⟨#[]⟩,.int .i64 0,.sl 8 0 1 3 true] 0 false
def a8Oa:AObj:=.cells [.str ⟨#[114]⟩,.str ⟨#[112]⟩,.sl 2 0 2 7 true,.str ⟨#[]⟩,.int .i64 0,.sl 3 0 2 3 true,.str ⟨#[115]⟩,.str ⟨#[116]⟩,.sl 2 0 2 7 true,.str ⟨#[]⟩,.int .i64 0,.sl 8 0 1 3 true] 0 true
theorem a8_app1:appendA (a8H1++[a8O6]) 6 true 104 true (.isl [] true) (.sl 4 0 1 6 true)=some (.sl 7 0 1 6 true,a8H1++[a8O6,a8O7]):=rfl
theorem a8_app2:appendA (a8H1++[a8O6,a8O7,a8O8,a8O9]) 6 true 104 true (.sl 7 0 1 6 true) (.sl 9 0 1 6 true)=some (.sl 10 0 2 6 true,a8H1++[a8O6,.dead,a8O8,a8O9,a8Oa]):=rfl
abbrev a8B:AV:=.agg [.isl (relsD.map GD.enc) false,.isl [] true,.sl 10 0 2 6 true]
def a8Ob:AObj:=.cells [.isl (relsD.map GD.enc) false,.isl [] true,.sl 10 0 2 6 true] 0 false
def a8O8f:AObj:=.cells [.int .i64 1,.str ⟨#[112]⟩,.sl 2 0 2 7 true] 3 false
def a8Oaf:AObj:=.cells [.str ⟨#[114]⟩,.str ⟨#[112]⟩,.sl 2 0 2 7 true,.str ⟨#[]⟩,.int .i64 0,.sl 3 0 2 3 true,.str ⟨#[115]⟩,.str ⟨#[116]⟩,.sl 2 0 2 7 true,.str ⟨#[]⟩,.int .i64 0,.sl 8 0 1 3 true] 12 true
def a8Oi:AObj:=.cells [.int .i64 0,.int .i64 1,.int .i64 0,.int .i64 0,.int .i64 0,.int .i64 0] 0 false
theorem a8_close2:closeT (a8H1++[a8Ob,.dead,a8O8,a8O9,a8Oa]) [a8B]=some ([a8P2.enc],a8H1++[a8Ob,.dead,a8O8f,a8O9,a8Oaf]):=rfl
theorem a8_c2:callT T 7 [a8B] 0 (a8H1++[a8Ob,.dead,a8O8,a8O9,a8Oa])=some (.tup [.isl [] false,.int .i64 80],a8H1++[a8Ob,.dead,a8O8f,a8O9,a8Oaf]):=by
 have:=call_pure (T:=T) (f:=7) (bs:=0) rfl rfl rfl a8_close2 (by simp) (strata_ok a8P2 (by decide +kernel))
 rw [a8_res2] at this
 exact this
theorem a8_c3:callT T 13 [.isl (encN8 [0,1,0,0,0,0]) false,.sl 11 0 6 1 false] 0 (a8H1++[a8Ob,.dead,a8O8f,a8O9,a8Oaf,a8Oi])=some (.bool true,a8H1++[a8Ob,.dead,a8O8f,a8O9,a8Oaf,a8Oi]):=by
 have hc:∃ σ,closeT (a8H1++[a8Ob,.dead,a8O8f,a8O9,a8Oaf,a8Oi]) [.isl (encN8 [0,1,0,0,0,0]) false,.sl 11 0 6 1 false]=some ([.isl (encN8 [0,1,0,0,0,0]) false,.isl (encN8 [0,1,0,0,0,0]) false],σ):=⟨_,rfl⟩
 obtain ⟨σ,hc⟩:=hc
 have:=call_pure (T:=T) (f:=13) (bs:=0) rfl rfl rfl hc (by simp) (ints_ok [0,1,0,0,0,0] [0,1,0,0,0,0] (by simp) (by simp))
 exact this
theorem a8_c4:∃ σ,callT T 11 [a8A,.int .i64 1] 0 (a8H1++[a8Ob,.dead,a8O8f,a8O9,a8Oaf,a8Oi])=some (.isl ((rulesP a8P 1).map GR.enc) false,σ):=by
 have hc:∃ σ,closeT (a8H1++[a8Ob,.dead,a8O8f,a8O9,a8Oaf,a8Oi]) [a8A,.int .i64 1]=some ([a8P.enc,.int .i64 1],σ):=⟨_,rfl⟩
 obtain ⟨σ,hc⟩:=hc
 exact ⟨_,call_pure (T:=T) (f:=11) (bs:=0) rfl rfl rfl hc (by simp) (rules8_ok a8P (by decide +kernel) 1)⟩
theorem awake8_ok:pureT T c5 []=some (.bool true):=by
 apply pure_enter (by simp [c5])
 simp [c5,callRelations6,setRun]
 have h1:=a8_c1
 have h2:=a8_app1
 have h3:=a8_app2
 have h4:=a8_c2
 have h5:=a8_c3
 obtain ⟨σ,h6⟩:=a8_c4
 simp only [a8H,a8H1,a8O,a8O6,a8O7,a8O8,a8O9,a8Oa,a8Ob,a8O8f,a8Oaf,a8Oi,List.cons_append,List.nil_append] at h1 h2 h3 h4 h5 h6
 simp [h1,h2,h3,h4,h5,h6,setRun,a8_rules]
open Go.Mach
theorem gN_cons_zero (x:Nat) (l:List Nat):gN (x :: l) 0=x:=rfl
theorem gN_cons_succ (x:Nat) (l:List Nat) (i:Nat):gN (x :: l) (i+1)=gN l i:=rfl
theorem left_le (n:Nat):∀ (a b:List Nat),a.length=b.length→(∀ i,gN a i≤gN b i)→left n b≤left n a
 | [],[],_,_=>Nat.le_refl _
 | x :: a,y :: b,hl,h=>by
  have h0:=h 0
  rw [gN_cons_zero,gN_cons_zero] at h0
  have ih:=left_le n a b (by simpa using hl) fun i=>by have:=h (i+1); rwa [gN_cons_succ,gN_cons_succ] at this
  simp only [left,List.map_cons,List.sum_cons] at ih ⊢
  omega
 | [],_ :: _,hl,_=>by simp at hl
 | _ :: _,[],hl,_=>by simp at hl
theorem left_lt (n:Nat):∀ (a b:List Nat),a.length=b.length→(∀ i,gN a i≤gN b i)→(∀ i,gN b i≤n)→(∃ i,i<a.length∧gN a i<gN b i)→left n b<left n a
 | [],_,_,_,_,⟨i,hi,_⟩=>by simp at hi
 | x :: a,[],hl,_,_,_=>by simp at hl
 | x :: a,y :: b,hl,h,hn,⟨i,hi,hlt⟩=>by
  have h0:=h 0
  have hn0:=hn 0
  rw [gN_cons_zero] at h0 hn0
  rw [gN_cons_zero] at h0
  have hl':a.length=b.length:=by simpa using hl
  have ht:∀ i,gN a i≤gN b i:=fun i=>by have:=h (i+1); rwa [gN_cons_succ,gN_cons_succ] at this
  cases i with
  | zero=>
   rw [gN_cons_zero,gN_cons_zero] at hlt
   have:=left_le n a b hl' ht
   simp only [left,List.map_cons,List.sum_cons] at this ⊢
   omega
  | succ i=>
   rw [gN_cons_succ,gN_cons_succ] at hlt
   have ih:=left_lt n a b hl' ht (fun i=>by have:=hn (i+1); rwa [gN_cons_succ] at this) ⟨i,by simpa using hi,hlt⟩
   simp only [left,List.map_cons,List.sum_cons] at ih ⊢
   omega
structure RI (E:List ED) (n:Nat) (l0 l:List Nat) (ch:Bool) (done:List ED):Prop where
 len:l.length=n
 low:Low E l
 ge:∀ i,gN l0 i≤gN l i
 no:ch=false→l=l0∧∀ e∈done,gN l0 e.on+e.up≤gN l0 e.head
 yes:ch=true→∃ i,i<n∧gN l0 i<gN l i
 bnd:∀ i,gN l i≤n+done.length
theorem RI.start {E:List ED} {n:Nat} {l:List Nat} (hl:l.length=n) (h:Low E l) (hb:∀ i,gN l i≤n):RI E n l l false []:=
 ⟨hl,h,fun _=>Nat.le_refl _,fun _=>⟨rfl,fun _ h=>by cases h⟩,(fun h=>by cases h),fun i=>by simpa using hb i⟩
theorem RI.keep {E:List ED} {n:Nat} {l0 l:List Nat} {ch:Bool} {done:List ED} (h:RI E n l0 l ch done) {e:ED} (hle:¬ gN l e.head<gN l e.on+e.up):RI E n l0 l ch (done++[e]):=by
 refine ⟨h.len,h.low,h.ge,fun hc=>?_,h.yes,fun i=>?_⟩
 ·obtain ⟨h1,h2⟩:=h.no hc
  subst h1
  refine ⟨rfl,fun x hx=>?_⟩
  rcases List.mem_append.1 hx with hx | hx
  ·exact h2 x hx
  ·simp at hx; subst hx; omega
 ·have:=h.bnd i; simp; omega
theorem RI.grow {E:List ED} {n:Nat} {l0 l:List Nat} {ch:Bool} {done:List ED} (h:RI E n l0 l ch done) {e:ED} (he:e∈E) (hh:e.head<n) (hu:e.up≤1) (hlt:gN l e.head<gN l e.on+e.up):RI E n l0 (l.set e.head (gN l e.on+e.up)) true (done++[e]):=by
 have hl:e.head<l.length:=by rw [h.len]; exact hh
 refine ⟨by simp [h.len],low_set h.low he hl,fun i=>?_,(fun hc=>by cases hc),fun _=>⟨e.head,hh,?_⟩,fun i=>?_⟩
 ·rw [gN_set hl]
  split
  ·rename_i hi; subst hi; have:=h.ge e.head; omega
  ·exact h.ge i
 ·rw [gN_set hl,if_pos rfl]; have:=h.ge e.head; omega
 ·rw [gN_set hl]
  have:=h.bnd e.on
  have:=h.bnd i
  simp only [zqJ,List.length_singleton]
  split <;> omega
theorem RI.skip {E:List ED} {n:Nat} {l0 l:List Nat} {ch:Bool} {done:List ED} (h:RI E n l0 l ch done):RI E n l0 l ch (done++[]):=by rwa [List.append_nil]
theorem RI.over {E:List ED} {n:Nat} {l0 l:List Nat} {ch:Bool} {done:List ED} (h:RI E n l0 l ch done) {i:Nat} (hi:n<gN l i):Ans E n none:=by
 rintro ⟨s,hs,hb⟩
 have:=h.low s hs i
 have:=hb i
 omega
theorem RI.done {E:List ED} {n:Nat} {l0 l:List Nat} {done:List ED} (h:RI E n l0 l false done) (hd:∀ e∈E,e∈done) (hb:∀ i,gN l0 i≤n):Ans E n (some l):=by
 obtain ⟨h1,h2⟩:=h.no rfl
 subst h1
 exact ⟨h.len,fun e he=>h2 e (hd e he),hb,h.low⟩
set_option maxRecDepth 100000
open Go.Mach
theorem r8index_ok (p:GP) (hl:p.decls.length≤100000000) (n:ByteArray) (h:atP p.decls n<p.decls.length):pureT T c23 [p.enc,.str n]=some (.int .i64 (atP p.decls n:Int)):=by
 apply pure_enter (by simp [c23])
 simp [c23,GP.enc_eq]
 refine W_for T 0 22 p.decls.length (fun i f σ=>f 1=.str n∧f 2=.ptr 0 0∧f 5=.int .i64 (i:Int)∧σ=[pCells p]∧i≤atP p.decls n) ?_ _ _ ?_
 ·rintro i f σ hi ⟨h1,h2,h5,rfl,hia⟩
  by_cases hlt:i<p.decls.length
  ·have hw:IntKind.i64.wrap ((i:Int)+1)=(i:Int)+1:=wr64 (by omega) (by omega)
   have e0:p.decls[i]?=some p.decls[i]:=zqF hlt
   by_cases hn:p.decls[i].name=n
   ·have hat:atP p.decls n=i:=by
     unfold atP at *
     have h3:=List.not_of_lt_findIdx (p:=fun d:GD=>decide (d.name=n)) (xs:=p.decls) (i:=i)
     by_cases hq:i<p.decls.findIdx fun d=>decide (d.name=n)
     ·exact absurd (by simpa using hn) (by simpa using h3 hq)
     ·omega
    simp [h1,h2,h5,pCells,hlt,e0,GD.enc_eq,hn,hat]
   ·have hne:atP p.decls n≠i:=fun e=>by
     have h3:=List.findIdx_getElem (w:=show p.decls.findIdx (fun d=>decide (d.name=n))<p.decls.length from h)
     have h4:p.decls[i].name=n:=by
      have:(p.decls.findIdx fun d=>decide (d.name=n))=i:=e
      simp only [this] at h3
      simpa using h3
     exact hn h4
    simp [h1,h2,h5,pCells,hlt,e0,GD.enc_eq,hn,hw]
    omega
  ·omega
 ·simp [pCells]
theorem callR8index (p:GP) (hl:p.decls.length≤100000000) (n:ByteArray) (h:atP p.decls n<p.decls.length) (bs:Nat) (σ:Heap):callT T 23 [p.enc,.str n] bs σ=some (.int .i64 (atP p.decls n:Int),σ):=call_clean rfl rfl rfl (by simp) (r8index_ok p hl n h)
def R8 (p:GP) (f:FR) (σ:Heap) (l:List Nat):Prop:=f 1=.ptr 0 0∧f 6=.sl 1 0 p.decls.length 1 false∧(∃ v,f 7=.int .i64 v)∧2≤σ.length∧σ[0]?=some (pCells p)∧σ[1]?=some (.cells (encN8 l) 0 false)
def RIn (p:GP) (l0:List Nat) (i:Nat) (r:GR) (j:Nat) (k:Nat) (g:FR) (τ':Heap):Prop:=∃ l ch,R8 p g τ' l∧g 8=.bool ch∧g 9=.int .i64 (i:Int)∧g 10=.ptr j 0∧g 11=.int .i64 (atP p.decls r.head:Int)∧g 12=.int .i64 (k:Int)∧j+1≤τ'.length∧τ'[j]?=some (rCells8 r)∧RI (edgesP p) p.decls.length l0 l ch (accE p i r k)
def ROut (p:GP) (l0:List Nat) (i:Nat) (f:FR) (τ:Heap):Prop:=∃ l ch,R8 p f τ l∧f 8=.bool ch∧f 9=.int .i64 (i:Int)∧RI (edgesP p) p.decls.length l0 l ch (accE p i default 0)
def RWh (p:GP) (f:FR) (σ:Heap):Prop:=∃ l,R8 p f σ l∧l.length=p.decls.length∧Low (edgesP p) l∧∀ i,gN l i≤p.decls.length
set_option maxHeartbeats 4000000 in
theorem r8strata_ok (p:GP) (hp:p.size≤1000000000):pureT T c8 [p.enc]=some (resS p):=by
 have hck:=callRCheck6 p hp
 have hld:=GP.decls_len p
 have hlr:=GP.rules_len p
 simp only [GP.enc_eq] at hck
 obtain ⟨⟨e,m⟩,hen⟩:∃ x,checkP p=x:=⟨_,rfl⟩
 unfold resS
 rw [hen] at hck ⊢
 apply pure_enter (by simp [c8])
 by_cases h0:e=0
 ·subst h0
  have hc:ChkOk p:=chk_ok (by rw [hen])
  have hE:∀ e∈edgesP p,e.head<p.decls.length∧e.on<p.decls.length∧e.up≤1:=fun e he=>edge_lt hc he
  have hlens:p.decls.length≤64∧p.rules.length≤64∧∀ r∈p.rules,r.body.length≤8:=by
   have h:=hc.prog
   unfold progB at h
   simp only [zqL,decide_eq_true_eq,zqQ] at h
   refine ⟨h.1.1.1.1,h.1.1.1.2.2,fun r hr=>?_⟩
   have:=h.1.2 r hr
   unfold ruleB at this
   simp only [zqL,decide_eq_true_eq] at this
   omega
  obtain ⟨hd64,hr64,hb8⟩:=hlens
  have hix:=fun n h=>callR8index p (by omega) n h
  simp only [GP.enc_eq] at hix
  rw [if_neg (by simp)]
  have hall:accE p p.rules.length default 0=edgesP p:=by unfold accE edgesP; rw [List.take_length]; simp
  have hall2:∀ i r k,(hr:i<p.rules.length)→r=p.rules[i]→∀ x∈accE p i r k,x∈edgesP p:=by
   intro i r k hr hre x hx
   unfold accE at hx
   rw [mem_edges]
   rcases List.mem_append.1 hx with hx | hx
   ·obtain ⟨q,hq,hx⟩:=List.mem_flatMap.1 hx
    unfold edgesR at hx
    obtain ⟨l,hl,hx⟩:=List.mem_filterMap.1 hx
    exact ⟨q,List.mem_of_mem_take hq,l,hl,hx⟩
   ·obtain ⟨l,hl,hx⟩:=List.mem_filterMap.1 hx
    exact ⟨r,by rw [hre]; exact zqT hr,l,List.mem_of_mem_take hl,hx⟩
  simp [c8,hck,GP.enc_eq,show (p.decls.length:Int) * 8≤70368744177664 by omega,show (p.decls.length:Int)≤70368744177664 by omega]
  refine W_while T 0 110 (RWh p) (fun _ σ=>mu8 p.decls.length σ) ?_ _ _ ?_
  ·rintro f σ ⟨l0,⟨h1,h6,⟨v7,h7⟩,hN,z0,z1⟩,hl0,hlow0,hb0⟩
   have hmu:mu8 p.decls.length σ=left p.decls.length l0:=by unfold mu8; rw [z1]; simp only [natA_enc]
   rw [hmu]
   simp [h1,h6,h7]
   refine W_for T 0 110 p.rules.length (ROut p l0) ?_ _ _ ?_
   ·clear h1 h6 h7 hN z0 z1 hmu
    rintro i f τ hi ⟨l,ch,⟨h1,h6,⟨v7,h7⟩,hN,y0,z1⟩,h8,h9,hRI⟩
    have z0:=y0
    unfold pCells at z0
    have n0:0<τ.length:=by omega
    have n1:1<τ.length:=by omega
    by_cases hlt:i<p.rules.length
    ·have hw:IntKind.i64.wrap ((i:Int)+1)=(i:Int)+1:=wr64 (by omega) (by omega)
     have e0:p.rules[i]?=some p.rules[i]:=zqF hlt
     have hrm:=zqT hlt
     have hbl:=hb8 _ hrm
     have hnext:=fun r'=>accE_next p i hlt r'
     have hst:accE p i default 0=accE p i p.rules[i] 0:=by unfold accE; simp
     rw [hst] at hRI
     have hhd:=hc.head _ hrm
     have hon:=hc.on _ hrm
     have hmem:=fun k=>hall2 i p.rules[i] k hlt rfl
     generalize p.rules[i]=r at *
     have hih:=hix r.head hhd
     simp [-getElem?_pos,zqA,zqB,zqE,zqD,list_set_at,h1,h6,h7,h8,h9,z0,n0,n1,hlt,e0,GR.enc_eq,setRun,hih]
     refine W_for T 0 110 r.body.length (RIn p l0 i r τ.length) ?_ _ _ ?_
     ·clear h1 h6 h7 h8 h9 z0 z1 y0 n0 n1 hRI hst
      rintro k g τ' hki ⟨l1,ch,⟨g1,g6,⟨v7',g7⟩,gN',x0,w1⟩,g8,g9,g10,g11,g12,gl,xr,hRI⟩
      have w0:=x0
      unfold pCells at w0
      have wr:=xr
      unfold rCells8 at wr
      have q0:0<τ'.length:=by omega
      have q1:1<τ'.length:=by omega
      have qr:τ.length<τ'.length:=by omega
      by_cases hkl:k<r.body.length
      ·have hwk:IntKind.i64.wrap ((k:Int)+1)=(k:Int)+1:=wr64 (by omega) (by omega)
       have e1:r.body[k]?=some r.body[k]:=zqF hkl
       have hstep:=accE_step p i r k hkl
       have hlm:=zqT hkl
       have hlen1:=hRI.len
       have hh1:atP p.decls r.head+1≤p.decls.length:=by omega
       generalize hl':r.body[k]=l at *
       by_cases k2:l.kind=2
       ·have hlt2:=hon l hlm (.inr k2)
        have hil:=hix l.name hlt2
        have hed:edgeL p.decls r l=some ⟨atP p.decls r.head,atP p.decls l.name,1⟩:=by unfold edgeL upL; simp [k2]
        have hem:(⟨atP p.decls r.head,atP p.decls l.name,1⟩:ED)∈edgesP p:=hmem (k+1) _ (by rw [hstep,hed]; simp)
        rw [hed] at hstep
        simp only [Option.toList_some] at hstep
        have hbon:=hRI.bnd (atP p.decls l.name)
        have hlenA:=accE_len hb8 i r k hbl
        have w1a:window (encN8 l1) (atP p.decls l.name) 1=some [.int .i64 (gN l1 (atP p.decls l.name):Int)]:=encN8_win (by rw [hRI.len]; exact hlt2)
        have w1b:window (encN8 l1) (atP p.decls r.head) 1=some [.int .i64 (gN l1 (atP p.decls r.head):Int)]:=encN8_win (by rw [hRI.len]; exact hhd)
        have hadd:IntKind.i64.wrap ((gN l1 (atP p.decls l.name):Int)+1)=(gN l1 (atP p.decls l.name):Int)+1:=wr64 (by omega) (by omega)
        by_cases hgt:gN l1 (atP p.decls r.head)<(gN l1 (atP p.decls l.name)+1)
        ·have hgtI:(gN l1 (atP p.decls r.head):Int)<((gN l1 (atP p.decls l.name):Int)+1):=by omega
         have hRI2:=hRI.grow hem hhd (by show (1:Nat)≤1; omega) hgt
         rw [←hstep] at hRI2
         have hset:(encN8 l1).set (atP p.decls r.head) (.int .i64 ((gN l1 (atP p.decls l.name):Int)+1))=encN8 (l1.set (atP p.decls r.head) (gN l1 (atP p.decls l.name)+1)):=by rw [←encN8_set]; congr 2
         simp [-getElem?_pos,zqC,zqA,zqB,zqE,zqD,list_set_at,g1,g6,g7,g8,g9,g10,g11,g12,w0,w1,wr,q0,q1,qr,hkl,e1,GL.enc_eq,setRun,k2,hil,hhd,hlt2,hh1,hlen1,encN8_len,w1a,w1b,hgtI,hset,hwk,hadd]
         refine ⟨l1.set (atP p.decls r.head) (gN l1 (atP p.decls l.name)+1),true,⟨by simp [g1],by simp [g6],⟨v7',by simp [g7]⟩,by simp; omega,?_,?_⟩,by simp,by simp [g9],by simp [g10],by simp [g11],by simp,by simp; omega,?_,hRI2⟩
         ·rw [zqA (by simp; omega),zqC (by omega)]; exact x0
         ·rw [zqA (by simp; omega),list_set_at q1] <;> rfl
         ·rw [zqA (by simp; omega),zqC (by omega)]; exact xr
        ·have hgtI:¬ (gN l1 (atP p.decls r.head):Int)<((gN l1 (atP p.decls l.name):Int)+1):=by omega
         have hRI2:=hRI.keep (e:=⟨atP p.decls r.head,atP p.decls l.name,1⟩) hgt
         rw [←hstep] at hRI2
         simp [-getElem?_pos,zqC,zqA,zqB,zqE,zqD,list_set_at,g1,g6,g7,g8,g9,g10,g11,g12,w0,w1,wr,q0,q1,qr,hkl,e1,GL.enc_eq,setRun,k2,hil,hhd,hlt2,hh1,hlen1,encN8_len,w1a,w1b,hgtI,hwk,hadd]
         exact ⟨l1,ch,⟨by simp [g1],by simp [g6],⟨v7',by simp [g7]⟩,by simp; omega,by rw [zqA q0]; exact x0,by rw [zqA q1]; exact w1⟩,by simp [g8],by simp [g9],by simp [g10],by simp [g11],by simp,by simp; omega,by rw [zqA qr]; exact xr,hRI2⟩
       ·by_cases k1:l.kind=1
        ·have hlt2:=hon l hlm (.inl k1)
         have hil:=hix l.name hlt2
         by_cases ka:r.agg=⟨#[]⟩
         ·have ka':=eq_true ka
          have hed:edgeL p.decls r l=some ⟨atP p.decls r.head,atP p.decls l.name,0⟩:=by unfold edgeL upL; simp [k1,k2,ka']
          have hem:(⟨atP p.decls r.head,atP p.decls l.name,0⟩:ED)∈edgesP p:=hmem (k+1) _ (by rw [hstep,hed]; simp)
          rw [hed] at hstep
          simp only [Option.toList_some] at hstep
          have hbon:=hRI.bnd (atP p.decls l.name)
          have hlenA:=accE_len hb8 i r k hbl
          have w1a:window (encN8 l1) (atP p.decls l.name) 1=some [.int .i64 (gN l1 (atP p.decls l.name):Int)]:=encN8_win (by rw [hRI.len]; exact hlt2)
          have w1b:window (encN8 l1) (atP p.decls r.head) 1=some [.int .i64 (gN l1 (atP p.decls r.head):Int)]:=encN8_win (by rw [hRI.len]; exact hhd)
          by_cases hgt:gN l1 (atP p.decls r.head)<(gN l1 (atP p.decls l.name)+0)
          ·have hgtI:(gN l1 (atP p.decls r.head):Int)<(gN l1 (atP p.decls l.name):Int):=by omega
           have hRI2:=hRI.grow hem hhd (by show (0:Nat)≤1; omega) hgt
           rw [←hstep] at hRI2
           have hset:(encN8 l1).set (atP p.decls r.head) (.int .i64 (gN l1 (atP p.decls l.name):Int))=encN8 (l1.set (atP p.decls r.head) (gN l1 (atP p.decls l.name)+0)):=by rw [←encN8_set]; congr 2
           simp [-getElem?_pos,zqC,zqA,zqB,zqE,zqD,list_set_at,g1,g6,g7,g8,g9,g10,g11,g12,w0,w1,wr,q0,q1,qr,hkl,e1,GL.enc_eq,setRun,k1,k2,ka',hil,hhd,hlt2,hh1,hlen1,encN8_len,w1a,w1b,hgtI,hset,hwk]
           refine ⟨l1.set (atP p.decls r.head) (gN l1 (atP p.decls l.name)+0),true,⟨by simp [g1],by simp [g6],⟨v7',by simp [g7]⟩,by simp; omega,?_,?_⟩,by simp,by simp [g9],by simp [g10],by simp [g11],by simp,by simp; omega,?_,hRI2⟩
           ·rw [zqA (by simp; omega),zqC (by omega)]; exact x0
           ·rw [zqA (by simp; omega),list_set_at q1] <;> rfl
           ·rw [zqA (by simp; omega),zqC (by omega)]; exact xr
          ·have hgtI:¬ (gN l1 (atP p.decls r.head):Int)<(gN l1 (atP p.decls l.name):Int):=by omega
           have hRI2:=hRI.keep (e:=⟨atP p.decls r.head,atP p.decls l.name,0⟩) hgt
           rw [←hstep] at hRI2
           simp [-getElem?_pos,zqC,zqA,zqB,zqE,zqD,list_set_at,g1,g6,g7,g8,g9,g10,g11,g12,w0,w1,wr,q0,q1,qr,hkl,e1,GL.enc_eq,setRun,k1,k2,ka',hil,hhd,hlt2,hh1,hlen1,encN8_len,w1a,w1b,hgtI,hwk]
           exact ⟨l1,ch,⟨by simp [g1],by simp [g6],⟨v7',by simp [g7]⟩,by simp; omega,by rw [zqA q0]; exact x0,by rw [zqA q1]; exact w1⟩,by simp [g8],by simp [g9],by simp [g10],by simp [g11],by simp,by simp; omega,by rw [zqA qr]; exact xr,hRI2⟩
         ·have _d:=ka
          have hed:edgeL p.decls r l=some ⟨atP p.decls r.head,atP p.decls l.name,1⟩:=by unfold edgeL upL; simp [k1,k2,ka]
          have hem:(⟨atP p.decls r.head,atP p.decls l.name,1⟩:ED)∈edgesP p:=hmem (k+1) _ (by rw [hstep,hed]; simp)
          rw [hed] at hstep
          simp only [Option.toList_some] at hstep
          have hbon:=hRI.bnd (atP p.decls l.name)
          have hlenA:=accE_len hb8 i r k hbl
          have w1a:window (encN8 l1) (atP p.decls l.name) 1=some [.int .i64 (gN l1 (atP p.decls l.name):Int)]:=encN8_win (by rw [hRI.len]; exact hlt2)
          have w1b:window (encN8 l1) (atP p.decls r.head) 1=some [.int .i64 (gN l1 (atP p.decls r.head):Int)]:=encN8_win (by rw [hRI.len]; exact hhd)
          have hadd:IntKind.i64.wrap ((gN l1 (atP p.decls l.name):Int)+1)=(gN l1 (atP p.decls l.name):Int)+1:=wr64 (by omega) (by omega)
          by_cases hgt:gN l1 (atP p.decls r.head)<(gN l1 (atP p.decls l.name)+1)
          ·have hgtI:(gN l1 (atP p.decls r.head):Int)<((gN l1 (atP p.decls l.name):Int)+1):=by omega
           have hRI2:=hRI.grow hem hhd (by show (1:Nat)≤1; omega) hgt
           rw [←hstep] at hRI2
           have hset:(encN8 l1).set (atP p.decls r.head) (.int .i64 ((gN l1 (atP p.decls l.name):Int)+1))=encN8 (l1.set (atP p.decls r.head) (gN l1 (atP p.decls l.name)+1)):=by rw [←encN8_set]; congr 2
           simp [-getElem?_pos,zqC,zqA,zqB,zqE,zqD,list_set_at,g1,g6,g7,g8,g9,g10,g11,g12,w0,w1,wr,q0,q1,qr,hkl,e1,GL.enc_eq,setRun,k1,k2,ka,hil,hhd,hlt2,hh1,hlen1,encN8_len,w1a,w1b,hgtI,hset,hwk,hadd]
           refine ⟨l1.set (atP p.decls r.head) (gN l1 (atP p.decls l.name)+1),true,⟨by simp [g1],by simp [g6],⟨v7',by simp [g7]⟩,by simp; omega,?_,?_⟩,by simp,by simp [g9],by simp [g10],by simp [g11],by simp,by simp; omega,?_,hRI2⟩
           ·rw [zqA (by simp; omega),zqC (by omega)]; exact x0
           ·rw [zqA (by simp; omega),list_set_at q1] <;> rfl
           ·rw [zqA (by simp; omega),zqC (by omega)]; exact xr
          ·have hgtI:¬ (gN l1 (atP p.decls r.head):Int)<((gN l1 (atP p.decls l.name):Int)+1):=by omega
           have hRI2:=hRI.keep (e:=⟨atP p.decls r.head,atP p.decls l.name,1⟩) hgt
           rw [←hstep] at hRI2
           simp [-getElem?_pos,zqC,zqA,zqB,zqE,zqD,list_set_at,g1,g6,g7,g8,g9,g10,g11,g12,w0,w1,wr,q0,q1,qr,hkl,e1,GL.enc_eq,setRun,k1,k2,ka,hil,hhd,hlt2,hh1,hlen1,encN8_len,w1a,w1b,hgtI,hwk,hadd]
           exact ⟨l1,ch,⟨by simp [g1],by simp [g6],⟨v7',by simp [g7]⟩,by simp; omega,by rw [zqA q0]; exact x0,by rw [zqA q1]; exact w1⟩,by simp [g8],by simp [g9],by simp [g10],by simp [g11],by simp,by simp; omega,by rw [zqA qr]; exact xr,hRI2⟩
        ·have hed:edgeL p.decls r l=none:=by unfold edgeL upL; simp [k1,k2]
         rw [hed] at hstep
         simp only [Option.toList_none,List.append_nil] at hstep
         simp [-getElem?_pos,zqC,zqA,zqB,zqE,zqD,list_set_at,g1,g6,g7,g8,g9,g10,g11,g12,w0,w1,wr,q0,q1,qr,hkl,e1,GL.enc_eq,setRun,k1,k2,hwk]
         exact ⟨l1,ch,⟨by simp [g1],by simp [g6],⟨v7',by simp [g7]⟩,by simp; omega,by rw [zqA q0]; exact x0,by rw [zqA q1]; exact w1⟩,by simp [g8],by simp [g9],by simp [g10],by simp [g11],by simp,by simp; omega,by rw [zqA qr]; exact xr,by rw [hstep]; exact hRI⟩
      ·have hke:k=r.body.length:=by omega
       subst hke
       simp [g1,g6,g7,g8,g9,g10,g11,g12,wr,w0,hw,-getElem?_pos,zqC,zqA,zqB,zqE,zqD,list_set_at]
       exact ⟨l1,ch,⟨by simp [g1],by simp [g6],⟨v7',by simp [g7]⟩,gN',x0,w1⟩,by simp [g8],by simp,by rw [hnext default]; exact hRI⟩
     ·refine ⟨l,ch,⟨by simp [h1],by simp [h6],⟨v7,by simp [h7]⟩,by simp; omega,by rw [zqA n0]; exact y0,by rw [zqA n1]; exact z1⟩,by simp [h8],by simp [h9],by simp,by simp,by simp,by simp,?_,hRI⟩
      rw [zqB (Nat.le_refl _)]; simp [rCells8]
    ·have he:i=p.rules.length:=by omega
     subst he
     rw [hall] at hRI
     cases ch with
     | false=>
      have ha:=ansE_eq (hRI.done (fun e he=>he) hb0)
      obtain ⟨σ2,hcl⟩:=close_ints z1 hRI.len
      rw [ha]
      simp [-getElem?_pos,h1,h6,h7,h8,h9,z0,resO,hcl]
     | true=>
      simp [-getElem?_pos,h1,h6,h7,h8,h9,z0]
      refine W_for T 0 110 p.decls.length (fun j g τ'=>R8 p g τ' l∧g 15=.int .i64 (j:Int)∧∀ i,i<j→gN l i≤p.decls.length) ?_ _ _ ?_
      ·rintro j g τ' hj ⟨⟨g1,g6,⟨v7',g7⟩,gN',x0,w1⟩,g15,hle⟩
       have w0:=x0
       unfold pCells at w0
       by_cases hjl:j<p.decls.length
       ·have hwj:IntKind.i64.wrap ((j:Int)+1)=(j:Int)+1:=wr64 (by omega) (by omega)
        have ww:window (encN8 l) j 1=some [.int .i64 (gN l j:Int)]:=encN8_win (by rw [hRI.len]; exact hjl)
        by_cases hgt:p.decls.length<gN l j
        ·have ha:=ansE_eq (hRI.over hgt)
         have hgtI:(p.decls.length:Int)<(gN l j:Int):=by omega
         rw [ha]
         simp [-getElem?_pos,g1,g6,g7,g15,w0,w1,hjl,ww,hgtI,resO]
        ·have hgtI:¬ (p.decls.length:Int)<(gN l j:Int):=by omega
         simp [-getElem?_pos,g1,g6,g7,g15,w0,w1,hjl,ww,hgtI,hwj]
         refine ⟨⟨by simp [g1],by simp [g6],⟨v7',by simp [g7]⟩,gN',x0,w1⟩,fun i hi=>?_⟩
         by_cases hij:i=j
         ·subst hij; omega
         ·exact hle i (by omega)
       ·have hej:j=p.decls.length:=by omega
        subst hej
        have hle2:∀ i,gN l i≤p.decls.length:=fun i=>by
         by_cases hi:i<p.decls.length
         ·exact hle i hi
         ·rw [gN_ge (by rw [hRI.len]; omega)]; omega
        simp [-getElem?_pos,g1,g6,g7,g15]
        refine ⟨?_,l,⟨by simp [g1],by simp [g6],⟨_,(by simp; rfl)⟩,gN',x0,w1⟩,hRI.len,hRI.low,hle2⟩
        unfold mu8
        rw [w1]
        simp only [natA_enc]
        obtain ⟨i,hi,hlt3⟩:=hRI.yes rfl
        exact left_lt _ _ _ (by rw [hl0,hRI.len]) hRI.ge hle2 ⟨i,by omega,hlt3⟩
      ·exact ⟨⟨by simp [h1],by simp [h6],⟨v7,by simp [h7]⟩,hN,y0,z1⟩,by simp,fun i hi=>by omega⟩
   ·refine ⟨l0,false,⟨by simp [h1],by simp [h6],⟨v7,by simp [h7]⟩,hN,z0,z1⟩,by simp,by simp,?_⟩
    have:accE p 0 default 0=[]:=by simp [accE]
    rw [this]
    exact RI.start hl0 hlow0 hb0
  ·refine ⟨List.replicate p.decls.length 0,⟨by simp,by simp,⟨0,by simp⟩,by simp,by simp [pCells],by simp [encN8]⟩,by simp,low_zero _ _,fun i=>?_⟩
   unfold gN
   by_cases hi:i<p.decls.length
   ·simp [hi]
   ·rw [List.getElem?_eq_none (by simp; omega)]; simp
 ·simp [c8,hck,h0,GP.enc_eq]
theorem callR8Strata (p:GP) (hp:p.size≤1000000000) (bs:Nat) (σ:Heap):callT T 8 [p.enc] bs σ=some (resS p,σ):=call_clean rfl rfl rfl (by simp) (r8strata_ok p hp)
theorem r8rules_ok (p:GP) (hp:p.size≤1000000000) (n:Int):pureT T c12 [p.enc,.int .i64 n]=some (.isl ((rulesP p n).map GR.enc) false):=by
 have hs:=callR8Strata p hp
 have hlr:=GP.rules_len p
 have hld:=GP.decls_len p
 simp only [GP.enc_eq] at hs
 apply pure_enter (by simp [c12])
 by_cases h0:(checkP p).1=0
 ·have hc:=chk_ok h0
  have hd64:p.decls.length≤64:=by
   have h:=hc.prog
   unfold progB at h
   simp only [zqL,decide_eq_true_eq] at h
   exact h.1.1.1.1
  have hix:=fun n h=>callR8index p (by omega) n h
  simp only [GP.enc_eq] at hix
  have hE:∀ e∈edgesP p,e.head<p.decls.length∧e.on<p.decls.length:=fun e he=>⟨(edge_lt hc he).1,(edge_lt hc he).2.1⟩
  have hr1:resS p=resO (ansE (edgesP p) p.decls.length):=by unfold resS; rw [if_neg (by simpa using h0)]
  have hr2:numsP p=ansE (edgesP p) p.decls.length:=by unfold numsP; rw [if_neg (by simpa using h0)]
  have hA:=ansE_ans hE
  rw [hr1] at hs
  cases ho:ansE (edgesP p) p.decls.length with
  | none=>
   have hrp:rulesP p n=[]:=by unfold rulesP; rw [hr2,ho]
   rw [ho] at hs
   rw [hrp]
   simp [c12,hs,GP.enc_eq,resO]
  | some s=>
   have hrp:rulesP p n=p.rules.filter (inS p s n):=by unfold rulesP; rw [hr2,ho]
   rw [ho] at hs hA
   rw [hrp]
   obtain ⟨hlen,_,_,_⟩:=hA
   simp [c12,hs,GP.enc_eq,resO]
   refine W_for T 0 45 p.rules.length (fun i f τ=>f 1=.int .i64 n∧f 2=.ptr 0 0∧f 5=.isl (encN8 s) false∧f 8=.int .i64 (i:Int)∧1≤τ.length∧τ[0]?=some (pCells p)∧LX 1 6 τ (((p.rules.take i).filter (inS p s n)).map GR.enc) (f 7)) ?_ _ _ ?_
   ·rintro i f τ hi ⟨h1,h2,h5,h8,hN,y0,hX⟩
    have z0:=y0
    unfold pCells at z0
    by_cases hlt:i<p.rules.length
    ·have hw:IntKind.i64.wrap ((i:Int)+1)=(i:Int)+1:=wr64 (by omega) (by omega)
     have e0:p.rules[i]?=some p.rules[i]:=zqF hlt
     have hrm:=zqT hlt
     have hlt2:=hc.head _ hrm
     have hih:=hix _ hlt2
     have hstep:(p.rules.take (i+1)).filter (inS p s n)=(p.rules.take i).filter (inS p s n)++(if inS p s n p.rules[i]=true then [p.rules[i]] else []):=by
      rw [zqO hlt,List.filter_append]
      congr 1
      rw [List.filter_cons,List.filter_nil]
     have hfl:((p.rules.take i).filter (inS p s n)).length≤p.rules.length:=by
      have h1:=List.length_filter_le (inS p s n) (p.rules.take i)
      have h2:(p.rules.take i).length≤p.rules.length:=by simp; omega
      omega
     rw [hstep]
     generalize p.rules[i]=r at *
     have hidx:(encN8 s)[atP p.decls r.head]?=some (.int .i64 (gN s (atP p.decls r.head):Int)):=by
      simp [encN8,gN,hlt2,hlen]
     by_cases hin:(gN s (atP p.decls r.head):Int)=n
     ·have hin':inS p s n r=true:=by simp [inS,hin]
      rw [if_pos hin']
      simp [-getElem?_pos,-appendA_ag,zqA,zqB,zqE,zqD,list_set_at,h1,h2,h5,h8,z0,hlt,e0,GR.enc_eq,setRun,hih,hidx,hin]
      refine stW_app1 (N:=1) hX rfl rfl (by omega) (by omega) hN (by simp; omega) fun x1 τ1 hO1 l1 q4=>?_
      simp [h1,h2,h5,h8,hw,q4 0 (by omega),y0]
      exact ⟨by omega,by simpa [GR.enc_eq] using hO1⟩
     ·have hin':¬ inS p s n r=true:=by simp [inS,hin]
      rw [if_neg hin']
      simp [-getElem?_pos,-appendA_ag,zqA,zqB,zqE,zqD,list_set_at,h1,h2,h5,h8,z0,hlt,e0,GR.enc_eq,setRun,hih,hidx,hin,hw]
      exact ⟨hN,rfl,hX⟩
    ·have he:i=p.rules.length:=by omega
     subst he
     rw [List.take_length] at hX
     obtain ⟨σ2,hcl⟩:=LX_closeR hX
     simp [-getElem?_pos,h1,h2,h5,h8,z0,hcl]
   ·simp [pCells]
    exact .inl ⟨rfl,rfl⟩
 ·have hrp:rulesP p n=[]:=by unfold rulesP numsP; rw [if_pos (by simpa using h0)]
  have hr1:resS p=.tup [.isl [] false,.int .i64 (checkP p).1]:=by unfold resS; rw [if_pos (by simpa using h0)]
  rw [hr1] at hs
  rw [hrp]
  simp [c12,hs,GP.enc_eq,h0]
theorem callR8Rules (p:GP) (hp:p.size≤1000000000) (n:Int) (bs:Nat) (σ:Heap):callT T 12 [p.enc,.int .i64 n] bs σ=some (.isl ((rulesP p n).map GR.enc) false,σ):=call_clean rfl rfl rfl (by simp) (r8rules_ok p hp n)
noncomputable def errS (p:GP):Int:=if (checkP p).1≠0 then (checkP p).1 else match ansE (edgesP p) p.decls.length with
 | none=>80
 | some _=>0
noncomputable def numS (p:GP):List Nat:=if (checkP p).1≠0 then [] else (ansE (edgesP p) p.decls.length).getD []
theorem resS_eq (p:GP):resS p=.tup [.isl (encN8 (numS p)) false,.int .i64 (errS p)]:=by
 unfold resS errS numS
 split
 ·rfl
 ·cases ansE (edgesP p) p.decls.length <;> rfl
noncomputable def checkS (p:GP):Int × Int:=if (checkL p).1≠0 then checkL p else (errS p,-1)
theorem check8_ok (p:GP) (hp:p.size≤1000000000) (hr:∀ r∈p.rules,r.size≤100000000) (hl:p.rules.length≤100000000):pureT T c9 [p.enc]=some (res2 (checkS p)):=by
 have h1:=callCheckL p hp hr hl
 have h2:=callStrata p hp
 rw [resS_eq] at h2
 simp only [GP.enc_eq] at h1 h2
 unfold checkS
 obtain ⟨⟨e,n⟩,hen⟩:∃ x,checkL p=x:=⟨_,rfl⟩
 rw [hen] at h1 ⊢
 apply pure_enter (by simp [c9])
 by_cases h0:e=0
 ·simp [c9,h1,h2,h0,GP.enc_eq]
 ·simp [c9,h1,h2,h0,GP.enc_eq]
theorem callCheck8 (p:GP) (hp:p.size≤1000000000) (hr:∀ r∈p.rules,r.size≤100000000) (hl:p.rules.length≤100000000) (bs:Nat) (σ:Heap):callT T 9 [p.enc] bs σ=some (res2 (checkS p),σ):=call_clean rfl rfl rfl (by simp) (check8_ok p hp hr hl)
theorem r8check_ok (p:GP) (hp:p.size≤1000000000) (hr:∀ r∈p.rules,r.size≤100000000) (hl:p.rules.length≤100000000):pureT T c10 [p.enc]=some (res2 (checkS p)):=by
 have h1:=callRCheckL p hp hr hl
 have h2:=callR8Strata p hp
 rw [resS_eq] at h2
 simp only [GP.enc_eq] at h1 h2
 unfold checkS
 obtain ⟨⟨e,n⟩,hen⟩:∃ x,checkL p=x:=⟨_,rfl⟩
 rw [hen] at h1 ⊢
 apply pure_enter (by simp [c10])
 by_cases h0:e=0
 ·by_cases hz:errS p=0
  ·simp [c10,h1,h2,h0,hz,GP.enc_eq]
  ·simp [c10,h1,h2,h0,hz,GP.enc_eq]
 ·simp [c10,h1,h2,h0,GP.enc_eq]
theorem callR8Check (p:GP) (hp:p.size≤1000000000) (hr:∀ r∈p.rules,r.size≤100000000) (hl:p.rules.length≤100000000) (bs:Nat) (σ:Heap):callT T 10 [p.enc] bs σ=some (res2 (checkS p),σ):=call_clean rfl rfl rfl (by simp) (r8check_ok p hp hr hl)
set_option maxRecDepth 100000
open Go.Mach
theorem callAwake8t (bs:Nat) (σ:Heap):callT T 5 [] bs σ=some (.bool true,σ):=call_clean rfl rfl rfl rfl awake8_ok
def blkC8:ACode→ACode
 | .block _ c=>c
 | c=>c
def loopC8:ACode→ACode
 | .loop c=>c
 | c=>c
abbrev TB8:ACode:=c3.body
abbrev TL8:ACode:=loopC8 (blkC8 (sndC (fstC (sndC (sndC TB8)))))
abbrev TR8:ACode:=sndC (blkC8 (fstC (sndC (sndC TL8))))
theorem rules_sub (p:GP) (n:Int):∀ r∈rulesP p n,r∈p.rules:=by
 intro r hr
 unfold rulesP at hr
 split at hr
 ·cases hr
 ·exact (List.mem_filter.1 hr).1
theorem rules_chk (p:GP) (n:Int) (h:rulesP p n≠[]):ChkOk p:=by
 by_cases h0:(checkP p).1=0
 ·exact chk_ok h0
 ·exfalso
  apply h
  unfold rulesP numsP
  rw [if_pos (by simpa using h0)]
theorem nums_len {p:GP} (hld:p.decls.length≤100000000):(numS p).length≤100000000:=by
 unfold numS
 split
 ·simp
 ·rename_i h
  have hc:=chk_ok (by simpa using h)
  have hA:=ansE_ans (E:=edgesP p) (n:=p.decls.length) fun e he=>⟨(edge_lt hc he).1,(edge_lt hc he).2.1⟩
  cases ho:ansE (edgesP p) p.decls.length with
  | none=>simp
  | some s=>rw [ho] at hA; have:=hA.1; simp; omega
theorem rules_same (p:GP) (hp:p.size≤10000000) (n:Int) (bs:Nat) (σ:Heap):callT T 14 [.agg [.isl [] true,.isl [] true,.isl ((rulesP p n).map GR.enc) false],.agg [.isl [] true,.isl [] true,.isl ((rulesP p n).map GR.enc) false]] bs σ=some (.bool true,σ):=by
 have hb:∀ r∈rulesP p n,r.body.length≤1000000∧r.size≤10000000:=by
  intro r hr
  have hc:=rules_chk p n (fun e=>by rw [e] at hr; cases hr)
  have hm:=rules_sub p n r hr
  have h:=hc.prog
  unfold progB at h
  simp only [zqL,decide_eq_true_eq,zqQ] at h
  have h2:=h.1.2 r hm
  unfold ruleB at h2
  simp only [zqL,decide_eq_true_eq] at h2
  have h3:=GP.rules_mem p hm
  omega
 have hl:(rulesP p n).length≤64:=by
  by_cases he:rulesP p n=[]
  ·rw [he]; simp
  ·have hc:=rules_chk p n he
   have h:=hc.prog
   unfold progB at h
   simp only [zqL,decide_eq_true_eq] at h
   unfold rulesP
   split
   ·simp
   ·have:=List.length_filter_le (inS p ‹_› n) p.rules; omega
 have hs:=GP.size_le ⟨[],[],rulesP p n⟩ 0 0 10000000 (fun _ h=>by cases h) (fun _ h=>by cases h) fun r hr=>(hb r hr).2
 have hcl:closeT σ [.agg [.isl [] true,.isl [] true,.isl ((rulesP p n).map GR.enc) false],.agg [.isl [] true,.isl [] true,.isl ((rulesP p n).map GR.enc) false]]=some ([(GP.mk [] [] (rulesP p n)).enc,(GP.mk [] [] (rulesP p n)).enc],σ):=by simp [closeT,closeA,closeL,GP.enc_eq]
 have:=call_pure (T:=T) (f:=14) (bs:=bs) rfl rfl rfl hcl (by simp) (sameP_ok ⟨[],[],rulesP p n⟩ ⟨[],[],rulesP p n⟩ (by simp only [List.length_nil] at hs; omega) fun r hr=>(hb r hr).1)
 rw [this]
 simp
theorem tells_round8 (q:GP) (m:Int) (hq:q.size≤10000000) (j:Nat) (k:List Fr) (Q:AExit→FR→Heap→Prop) (f:FR) (σ:Heap) (h3:f 3=.int .i64 m) (h11:f 11=.ptr j 0) (y0:σ[j]?=some (pCells q))
  (hK:∀ f',f' 3=f 3→f' 9=f 9→f' 27=f 27→f' 28=f 28→f' 29=f 29→wpK T 0 88 k f' σ Q):wpK T 0 88 (.code TR8 :: k) f σ Q:=by
 have hld:=GP.decls_len q
 have hlr:=GP.rules_len q
 have hrs:∀ r∈q.rules,r.size≤100000000:=fun r hr=>by have:=GP.rules_mem q hr; omega
 have d1:=callStrata q (by omega)
 have d2:=callR8Strata q (by omega)
 have d3:=callCheck8 q (by omega) hrs (by omega)
 have d4:=callR8Check q (by omega) hrs (by omega)
 have d5:=callRules8 q (by omega) m
 have d6:=callR8Rules q (by omega) m
 have d7:=rules_same q hq m
 have hn:=nums_len (p:=q) (by omega)
 have d8:=callInts (numS q) (numS q) hn hn
 rw [resS_eq] at d1 d2
 simp only [GP.enc_eq] at d1 d2 d3 d4 d5 d6
 generalize checkS q=C at *
 obtain ⟨e,n⟩:=C
 have z0:=y0
 unfold pCells at z0
 simp [TR8,TL8,TB8,c3,sndC,fstC,blkC8,loopC8,h3,h11,z0,d1,d2,d3,d4,d5,d6,d7,d8,setRun]
 refine hK _ ?_ ?_ ?_ ?_ ?_ <;> simp [h3]
set_option maxHeartbeats 2000000 in
theorem strataTells_ok (p:GP) (rules:List (List GRaw)) (facts:List GRaw) (m:Int) (hs:p.size≤1048576) (hr:RawsOk rules) (hf:FactsOk facts):pureT T c3 [p.enc,.isl (encRR rules) false,.isl (facts.map GRaw.enc) false,.int .i64 m]=some (.bool true):=by
 obtain ⟨fs,rs,h6,h12,hrs,hfs,hP,hC⟩:=raw_prog rules facts hr hf
 have hs2:(GP.mk relsD fs rs).size≤10000000:=by
  have:=GP.size_le (GP.mk relsD fs rs) 20 200 1000 relsD_size (by show ∀ y∈fs,_; rw [hfs]; exact facts_size facts) (fun r h=>rulesR_size rules r (by rw [←hrs]; exact h))
  have e1:relsD.length=6:=rfl
  simp only [e1] at this
  omega
 have round1:=fun j k Q f σ=>tells_round8 p m (by omega) j k Q f σ
 have round2:=fun j k Q f σ=>tells_round8 (GP.mk relsD fs rs) m hs2 j k Q f σ
 apply pure_enter (by simp [c3])
 have hTB:TB8=.seq (fstC TB8) (.seq (fstC (sndC TB8)) (.seq (.seq (fstC (fstC (sndC (sndC TB8)))) (.block 0 (.loop (.seq (fstC TL8) (.seq (fstC (sndC TL8)) (.seq (.block 1 (.seq (fstC (blkC8 (fstC (sndC (sndC TL8))))) TR8)) (sndC (sndC (sndC TL8))))))))) (sndC (sndC (sndC TB8))))):=rfl
 show wpK T 0 88 [.code TB8] _ [] _
 rw [hTB]
 generalize TR8=K at round1 round2
 simp [TL8,TB8,c3,sndC,fstC,blkC8,loopC8,callAwake8t,hP,setRun,GP.enc_eq]
 refine W_for T 0 88 2 (fun i f σ=>f 3=.int .i64 m∧f 9=.bool true∧f 27=.sl 1 0 2 3 true∧f 28=.int .i64 2∧f 29=.int .i64 (i:Int)∧2≤σ.length∧σ[1]?=some (.cells [.isl (p.decls.map GD.enc) false,.isl (p.facts.map GU.enc) false,.isl (p.rules.map GR.enc) false,.isl (relsD.map GD.enc) false,.isl (fs.map GU.enc) false,.isl (rs.map GR.enc) false] 0 false)) ?_ _ _ ?_
 ·rintro i f σ hi ⟨h3,h9,h27,h28,h29,hN,x1⟩
  rcases (by omega:i=0∨i=1∨i=2) with rfl | rfl | rfl
  ·simp [-getElem?_pos,zqA,zqB,zqE,zqD,list_set_at,h9,h27,h28,h29,x1,window,setRun]
   refine round1 σ.length _ _ _ _ ?_ ?_ ?_ fun f' g3 g9 g27 g28 g29=>?_
   ·simp [h3]
   ·simp
   ·simp [pCells]
   ·simp [h3,h9,h27,h28,h29] at g3 g9 g27 g28 g29
    simp [g3,g9,g27,g28,g29]
    exact ⟨by decide,by omega,by rw [zqA (by omega)]; exact x1⟩
  ·simp [-getElem?_pos,zqA,zqB,zqE,zqD,list_set_at,h9,h27,h28,h29,x1,window,setRun]
   refine round2 σ.length _ _ _ _ ?_ ?_ ?_ fun f' g3 g9 g27 g28 g29=>?_
   ·simp [h3]
   ·simp
   ·simp [pCells]
   ·simp [h3,h9,h27,h28,h29] at g3 g9 g27 g28 g29
    simp [g3,g9,g27,g28,g29]
    exact ⟨by decide,by omega,by rw [zqA (by omega)]; exact x1⟩
  ·simp [h9,h27,h28,h29]
 ·simp
set_option maxRecDepth 100000
open Go.Mach
theorem encN8_at8 {l:List Nat} {i:Nat} (h:i<l.length):(encN8 l)[i]?=some (.int .i64 (gN l i:Int)):=by simp [encN8,gN,h]
theorem count_step {α:Type} (g:α→Nat) (l:List α) (k:Int):(l.filter fun r=>decide ((g r:Int)<k+1)).length=(l.filter fun r=>decide ((g r:Int)<k)).length+(l.filter fun r=>decide ((g r:Int)=k)).length:=by
 induction l with
 | nil=>rfl
 | cons x l ih=>
  simp only [List.filter_cons]
  by_cases h1:(g x:Int)<k
  ·rw [decide_eq_true h1,decide_eq_true (show (g x:Int)<k+1 by omega),decide_eq_false (show ¬ (g x:Int)=k by omega)]
   simp only [if_true,Bool.false_eq_true,if_false,zqU]
   omega
  ·by_cases h3:(g x:Int)=k
   ·rw [decide_eq_false h1,decide_eq_true (show (g x:Int)<k+1 by omega),decide_eq_true h3]
    simp only [if_true,Bool.false_eq_true,if_false,zqU]
    omega
   ·rw [decide_eq_false h1,decide_eq_false (show ¬ (g x:Int)<k+1 by omega),decide_eq_false h3]
    simp only [Bool.false_eq_true,if_false]
    omega
theorem count_all {α:Type} (g:α→Nat) (l:List α) (h:∀ x∈l,g x≤6):(l.filter fun r=>decide ((g r:Int)<8)).length=l.length:=by
 rw [List.filter_eq_self.2 fun x hx=>decide_eq_true (by have:=h x hx; omega)]
theorem count_none {α:Type} (g:α→Nat) (l:List α):(l.filter fun r=>decide ((g r:Int)< -1)).length=0:=by
 have h:(l.filter fun r=>decide ((g r:Int)< -1))=[]:=List.filter_eq_nil_iff.2 fun x _=>by
  have:¬ (g x:Int)< -1:=by omega
  rw [decide_eq_false this]; simp
 rw [h]; rfl
abbrev SR7:ACode:=sndC (sndC (sndC (sndC (sndC (sndC (sndC c4.body))))))
set_option maxHeartbeats 4000000 in
theorem srules_tail (p:GP) (fs:List GU) (rs:List GR) (hp:p=GP.mk relsD fs rs) (hlr:rs.length≤6) (hs1:p.size≤1000000000)
  (hkey:(errS p=0∧(∃ s,numS p=s∧s.length=6∧(∀ i,gN s i≤6)∧(∀ r∈rs,atP relsD r.head<6)∧∀ k,rulesP p k=rs.filter (inS p s k)))∨(errS p≠0∧∀ k,rulesP p k=[]))
  (f:FR) (h5:f 5=.bool true) (h6:f 6=.ptr 0 0) (h7:f 7=.isl (encN8 (numS p)) false) (h8:f 8=.int .i64 (errS p)) (σ:Heap) (hσ:σ=[pCells p]) :
  wpK T 0 109 [.code SR7] f σ (endP 109 [.tmp 4] (.bool true)):=by
 have d4:=fun n=>callRules8 p hs1 n
 have hpe:p.enc=.agg [.isl (relsD.map GD.enc) false,.isl (fs.map GU.enc) false,.isl (rs.map GR.enc) false]:=by rw [hp]; rfl
 have hpc:pCells p=.cells [.isl (relsD.map GD.enc) false,.isl (fs.map GU.enc) false,.isl (rs.map GR.enc) false] 0 false:=by rw [hp]; rfl
 have hpd:p.decls=relsD:=by rw [hp]
 rw [hpe] at d4
 rw [hpc] at hσ
 subst hσ
 generalize errS p=E at *
 rcases hkey with ⟨rfl,s,hns,hl,hb,hat,hrul⟩ | ⟨hE,hrul⟩
 ·rw [hns] at h7
  simp [SR7,c4,sndC]
  refine W_for T 0 109 9 (fun t f σ=>f 5=.bool true∧f 6=.ptr 0 0∧f 7=.isl (encN8 s) false∧f 8=.int .i64 0∧f 13=.int .i64 ((rs.filter fun r=>decide ((gN s (atP relsD r.head):Int)<(t:Int) - 1)).length:Int)∧f 14=.int .i64 ((t:Int) - 1)∧σ=[.cells [.isl (relsD.map GD.enc) false,.isl (fs.map GU.enc) false,.isl (rs.map GR.enc) false] 0 false]) ?_ _ _ ?_
  ·clear h5 h6 h7 h8
   rintro t f σ ht ⟨h5,h6,h7,h8,h13,h14,rfl⟩
   by_cases ht9:t<9
   ·have htI:(t:Int) - 1<8:=by omega
    have hw:IntKind.i64.wrap (t:Int)=(t:Int):=wr64 (by omega) (by omega)
    have hcs:=count_step (fun r:GR=>gN s (atP relsD r.head)) rs ((t:Int) - 1)
    have hL:rulesP p ((t:Int) - 1)=rs.filter fun r=>decide ((gN s (atP relsD r.head):Int)=(t:Int) - 1):=by rw [hrul]; unfold inS; rw [hpd]
    have hmem:∀ r∈rulesP p ((t:Int) - 1),atP relsD r.head<6∧(gN s (atP relsD r.head):Int)=(t:Int) - 1:=fun r hr=>by
     rw [hL] at hr
     obtain ⟨h1,h2⟩:=List.mem_filter.1 hr
     exact ⟨hat r h1,by simpa using h2⟩
    have hl1:(rs.filter fun r=>decide ((gN s (atP relsD r.head):Int)<(t:Int) - 1)).length≤rs.length:=List.length_filter_le ..
    have hl2:(rulesP p ((t:Int) - 1)).length≤rs.length:=by rw [hL]; exact List.length_filter_le ..
    rw [←hL] at hcs
    have hcs2:(rs.filter fun r=>decide ((gN s (atP relsD r.head):Int)<((t+1:Nat):Int) - 1)).length=(rs.filter fun r=>decide ((gN s (atP relsD r.head):Int)<(t:Int) - 1)).length+(rulesP p ((t:Int) - 1)).length:=by
     rw [←hcs]
     congr 2
     funext r
     congr 2
     omega
    rw [hcs2]
    have d5:=d4 ((t:Int) - 1)
    generalize rulesP p ((t:Int) - 1)=L at *
    generalize (rs.filter fun r=>decide ((gN s (atP relsD r.head):Int)<(t:Int) - 1)).length=c0 at *
    have hwa:IntKind.i64.wrap ((c0:Int)+(L.length:Int))=(c0:Int)+(L.length:Int):=wr64 (by omega) (by omega)
    simp [h5,h6,h7,h8,h13,h14,htI,d5,hwa]
    refine W_for T 0 109 L.length (fun j f σ=>f 5=.bool true∧f 6=.ptr 0 0∧f 7=.isl (encN8 s) false∧f 8=.int .i64 0∧f 13=.int .i64 ((c0:Int)+(L.length:Int))∧f 14=.int .i64 ((t:Int) - 1)∧f 15=.isl (L.map GR.enc) false∧f 16=.int .i64 (j:Int)∧σ=[.cells [.isl (relsD.map GD.enc) false,.isl (fs.map GU.enc) false,.isl (rs.map GR.enc) false] 0 false]) ?_ _ _ ?_
    ·clear h5 h6 h7 h8 h13 h14
     rintro j f σ hj ⟨h5,h6,h7,h8,h13,h14,h15,h16,rfl⟩
     by_cases hjl:j<L.length
     ·have hwj:IntKind.i64.wrap ((j:Int)+1)=(j:Int)+1:=wr64 (by omega) (by omega)
      have e0:L[j]?=some L[j]:=zqF hjl
      obtain ⟨m1,m2⟩:=hmem _ (zqT hjl)
      have hci:=callIndex L[j].head m1
      have hsi:=encN8_at8 (l:=s) (i:=atP relsD L[j].head) (by omega)
      rw [m2] at hsi
      simp [-getElem?_pos,h5,h6,h7,h8,h13,h14,h15,h16,hjl,e0,GR.enc_eq,hci,hsi,hwj]
     ·have he:j=L.length:=by omega
      subst he
      simp [h5,h6,h7,h8,h13,h14,h15,h16,hw]
      omega
    ·simp [h5,h6,h7,h8,h14]
   ·have he:t=9:=by omega
    subst he
    have hca:=count_all (fun r:GR=>gN s (atP relsD r.head)) rs fun r hr=>hb _
    have h13':f 13=.int .i64 (rs.length:Int):=by rw [h13]; congr 2
    simp [h5,h6,h7,h8,h13',h14]
  ·have hcn:=count_none (fun r:GR=>gN s (atP relsD r.head)) rs
   simp [h5,h6,h7,h8]
   rw [hcn] <;> rfl
 ·simp [SR7,c4,sndC]
  refine W_for T 0 109 9 (fun t f σ=>f 5=.bool true∧f 6=.ptr 0 0∧f 8=.int .i64 E∧f 13=.int .i64 0∧f 14=.int .i64 ((t:Int) - 1)∧σ=[.cells [.isl (relsD.map GD.enc) false,.isl (fs.map GU.enc) false,.isl (rs.map GR.enc) false] 0 false]) ?_ _ _ ?_
  ·clear h5 h6 h7 h8
   rintro t f σ ht ⟨h5,h6,h8,h13,h14,rfl⟩
   by_cases ht9:t<9
   ·have htI:(t:Int) - 1<8:=by omega
    have hw:IntKind.i64.wrap (t:Int)=(t:Int):=wr64 (by omega) (by omega)
    have d5:=d4 ((t:Int) - 1)
    rw [hrul] at d5
    simp only [List.map_nil] at d5
    simp [h5,h6,h8,h13,h14,htI,d5]
    refine W_for T 0 109 0 (fun j f σ=>f 5=.bool true∧f 6=.ptr 0 0∧f 8=.int .i64 E∧f 13=.int .i64 0∧f 14=.int .i64 ((t:Int) - 1)∧f 15=.isl [] false∧f 16=.int .i64 0∧σ=[.cells [.isl (relsD.map GD.enc) false,.isl (fs.map GU.enc) false,.isl (rs.map GR.enc) false] 0 false]) ?_ _ _ ?_
    ·clear h5 h6 h8 h13 h14
     rintro j f σ hj ⟨h5,h6,h8,h13,h14,h15,h16,rfl⟩
     simp [h5,h6,h8,h13,h14,h15,h16,hw]
     omega
    ·simp [h5,h6,h8,h14]
     decide
   ·have he:t=9:=by omega
    subst he
    by_cases h0:rs.length=0
    ·simp [h5,h6,h8,h13,h14,h0,hE]
    ·have h0':¬ (0:Int)=(rs.length:Int):=by omega
     simp [h5,h6,h8,h13,h14,h0,h0',hE]
  ·simp [h5,h6,h8]
set_option maxHeartbeats 4000000 in
theorem strataRules_ok (rules:List (List GRaw)) (facts:List GRaw) (hr:RawsOk rules) (hf:FactsOk facts):pureT T c4 [.isl (encRR rules) false,.isl (facts.map GRaw.enc) false]=some (.bool true):=by
 obtain ⟨fs,rs,h6,h12,hrs,hfs,hP,hC⟩:=raw_prog rules facts hr hf
 obtain ⟨_,hs1⟩:=hC rs (fun _ h=>h) (by omega)
 have hsz:∀ r∈(GP.mk relsD fs rs).rules,r.size≤100000000:=fun r h=>by
  have:=rulesR_size rules r (by rw [←hrs]; exact h)
  omega
 have d1:=callStrata _ hs1
 have d2:=callCheckL _ hs1 hsz (by show rs.length≤_; omega)
 have d3:=callCheck8 _ hs1 hsz (by show rs.length≤_; omega)
 have d4:=fun n=>callRules8 _ hs1 n
 generalize hp:GP.mk relsD fs rs=p at *
 have hpd:p.decls=relsD:=by rw [←hp]
 have hpr:p.rules=rs:=by rw [←hp]
 have hpe:p.enc=.agg [.isl (relsD.map GD.enc) false,.isl (fs.map GU.enc) false,.isl (rs.map GR.enc) false]:=by rw [←hp]; rfl
 rw [resS_eq] at d1
 rw [hpe] at d1 d2 d3
 simp only [hpe] at d4
 have hd:=show checkS p=if (checkL p).1≠0 then checkL p else (errS p,-1) from rfl
 obtain ⟨⟨c,n⟩,hcn⟩:∃ x,checkL p=x:=⟨_,rfl⟩
 rw [hcn] at d2 hd
 have key:∀ o:Option (List Nat),numsP p=o→(errS p=0∧(∃ s,o=some s∧numS p=s∧s.length=6∧(∀ i,gN s i≤6)∧(∀ r∈rs,atP relsD r.head<6)∧∀ k,rulesP p k=rs.filter (inS p s k)))∨(errS p≠0∧∀ k,rulesP p k=[]):=by
  intro o ho
  by_cases h0:(checkP p).1=0
  ·have hc:=chk_ok h0
   have hA:=ansE_ans (E:=edgesP p) (n:=p.decls.length) fun e he=>⟨(edge_lt hc he).1,(edge_lt hc he).2.1⟩
   have e1:numsP p=ansE (edgesP p) p.decls.length:=by unfold numsP; rw [if_neg (by simpa using h0)]
   have e2:errS p=match ansE (edgesP p) p.decls.length with | none=>80 | some _=>0:=by unfold errS; rw [if_neg (by simpa using h0)] <;> rfl
   have e3:numS p=(ansE (edgesP p) p.decls.length).getD []:=by unfold numS; rw [if_neg (by simpa using h0)]
   rw [e1] at ho
   rw [ho] at hA e2 e3
   cases o with
   | none=>exact .inr ⟨by rw [e2]; decide,fun k=>by unfold rulesP; rw [e1,ho]⟩
   | some s=>
    have hl:s.length=6:=by have:=hA.1; rw [hpd] at this; exact this
    have hb:∀ i,gN s i≤6:=by have:=hA.2.2.1; rw [hpd] at this; exact this
    refine .inl ⟨e2,s,rfl,e3,hl,hb,fun r hr=>?_,fun k=>?_⟩
    ·have:=hc.head r (by rw [hpr]; exact hr)
     rw [hpd] at this
     exact this
    ·unfold rulesP; rw [e1,ho,hpr]
  ·refine .inr ⟨?_,fun k=>?_⟩
   ·unfold errS; rw [if_pos (by simpa using h0)]; exact h0
   ·unfold rulesP numsP; rw [if_pos (by simpa using h0)]
 have hkey:(errS p=0∧(∃ s,numS p=s∧s.length=6∧(∀ i,gN s i≤6)∧(∀ r∈rs,atP relsD r.head<6)∧∀ k,rulesP p k=rs.filter (inS p s k)))∨(errS p≠0∧∀ k,rulesP p k=[]):=by
  rcases key _ rfl with ⟨h1,s,_,h2⟩ | h
  ·exact .inl ⟨h1,s,h2⟩
  ·exact .inr h
 have tail:=srules_tail p fs rs hp.symm h6 hs1 hkey
 apply pure_enter (by simp [c4])
 show wpK T 0 109 [.code c4.body] _ [] (endP 109 [.tmp 4] (.bool true))
 have hsq:c4.body=.seq (fstC c4.body) (.seq (fstC (sndC c4.body)) (.seq (fstC (sndC (sndC c4.body))) (.seq (fstC (sndC (sndC (sndC c4.body)))) (.seq (fstC (sndC (sndC (sndC (sndC c4.body))))) (.seq (fstC (sndC (sndC (sndC (sndC (sndC c4.body)))))) (.seq (fstC (sndC (sndC (sndC (sndC (sndC (sndC c4.body))))))) SR7)))))):=rfl
 rw [hsq]
 generalize SR7=K at tail
 have hpc:pCells p=.cells [.isl (relsD.map GD.enc) false,.isl (fs.map GU.enc) false,.isl (rs.map GR.enc) false] 0 false:=by rw [←hp]; rfl
 by_cases h0:c=0
 ·rw [if_neg (by simpa using h0)] at hd
  rw [hd] at d3
  simp [c4,sndC,fstC,callAwake8t,hP,d1,d2,d3,h0,setRun]
  refine tail _ ?_ ?_ ?_ ?_ _ ?_ <;> simp [hpc]
 ·rw [if_pos (by simpa using h0)] at hd
  rw [hd] at d3
  simp [c4,sndC,fstC,callAwake8t,hP,d1,d2,d3,h0,setRun]
  refine tail _ ?_ ?_ ?_ ?_ _ ?_ <;> simp [hpc]
end Go.Proofs.YtpgakkhfjjhpdaaGreatDoor
end
