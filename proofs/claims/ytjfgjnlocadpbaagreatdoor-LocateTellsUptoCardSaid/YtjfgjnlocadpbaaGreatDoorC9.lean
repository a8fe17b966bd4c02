import Derived.Test.YtjfgjnlocadpbaaGreatDoorC8
import Derived.Test.YtjfgjnlocadpbaaGreatDoorC7
set_option linter.unusedVariables false
set_option linter.unusedSimpArgs false
set_option linter.unnecessarySimpa false
section
set_option maxRecDepth 100000
namespace Go.Proofs.YtjfgjnlocadpbaaGreatDoor
open Go.Mach
theorem stepR_all (s:RS) (l:GL) (a:GT) (i:Nat):(stepR s l a i).all=addB s.all a.name:=by unfold stepR; split <;> rfl
theorem stepR_atoms (s:RS) (l:GL) (a:GT) (i:Nat):(stepR s l a i).atoms=if l.kind=2 then s.atoms else s.atoms+1:=by unfold stepR; split <;> rfl
theorem addB_len (b:List ByteArray) (n:ByteArray):(addB b n).length≤b.length+1:=by unfold addB; split <;> simp
abbrev P1:ACode:=fstC P7
set_option maxHeartbeats 4000000 in
theorem place_read (r:GR) (hb:r.body.length≤100000000) (hlit:∀ l∈r.body,litB l=true) (head:ByteArray) (R:AV) (hnone:readGo r.body 0 ⟨[],[],0⟩=none→R=resPl none) (f:FR) (σ:Heap) (h1:f 1=.ptr 0 0) (h2:f 2=.ptr 1 0) (h4:f 4=.ptr 2 0) (h5:f 5=.str head) (h6:f 6=.isl [] true) (h7:f 7=.int .i64 0)
  (y0:σ[0]?=some (rCells r)) (y1:σ[1]?=some (plCells nilPl)) (y2:σ[2]?=some (plCells nilPl)) (hl:3≤σ.length)
  (tail:∀ s f σ,readGo r.body 0 ⟨[],[],0⟩=some s→f 1=.ptr 0 0→f 2=.ptr 1 0→f 4=.ptr 2 0→f 5=.str head→f 7=.int .i64 (s.atoms:Int)→LO 3 1 false σ (s.all.map .str) (f 6)→σ[0]?=some (rCells r)→σ[1]?=some (plCells nilPl)→σ[2]?=some (plCells nilPl)→3≤σ.length →
   wpK T 0 202 [.code P8] f σ (endP 202 [.cell 2 3 true,.tmp 3] R)) :
  wpK T 0 202 [.code P7] f σ (endP 202 [.cell 2 3 true,.tmp 3] R):=by
 have hs:P7=.seq P1 P8:=rfl
 rw [hs]
 generalize P8=K at tail
 simp [P1,P7,PB,c18,sndC,fstC,h1,h2,h4,h5,h6,h7]
 refine W_for T 0 202 r.body.length (fun i f σ=>f 1=.ptr 0 0∧f 2=.ptr 1 0∧f 4=.ptr 2 0∧f 5=.str head∧f 8=.int .i64 (i:Int)∧3≤σ.length∧σ[0]?=some (rCells r)∧σ[1]?=some (plCells nilPl)∧σ[2]?=some (plCells nilPl) ∧
  ∃ s:RS,readGo r.body 0 ⟨[],[],0⟩=readGo (r.body.drop i) i s∧s.all.length≤i∧s.atoms≤i∧f 7=.int .i64 (s.atoms:Int)∧LO 3 1 false σ (s.all.map .str) (f 6)) ?_ _ _ ?_
 ·clear h1 h2 h4 h5 h6 h7 y0 y1 y2 hl
  rintro i f σ hi ⟨h1,h2,h4,h5,h8,hl,y0,y1,y2,s,hg,hal,hat,h7,h6⟩
  have z0:=y0
  have z1:=y1
  have z2:=y2
  unfold rCells at z0
  unfold plCells nilPl at z1 z2
  have n0:0<σ.length:=by omega
  have n1:1<σ.length:=by omega
  have n2:2<σ.length:=by omega
  by_cases hlt:i<r.body.length
  ·have hw:IntKind.i64.wrap ((i:Int)+1)=(i:Int)+1:=wr64 (by omega) (by omega)
   have hw2:IntKind.i64.wrap ((s.atoms:Int)+1)=(s.atoms:Int)+1:=wr64 (by omega) (by omega)
   have e1:r.body[i]?=some r.body[i]:=zqF hlt
   have hlm:=hlit _ (zqT hlt)
   rw [zqM hlt] at hg
   simp only [readGo] at hg
   generalize r.body[i]=l at e1 hlm hg
   by_cases hk:l.kind=1∨l.kind=2
   ·rw [if_pos hk] at hg
    obtain ⟨a,rest,hargs,hv1,hv2⟩:=varP_lit hlm hk
    rw [hargs] at hg
    simp only at hg
    have hcall:=callRVar l.args
    by_cases hv:a.kind=1
    ·rw [if_pos hv] at hg
     have hvn:¬ varP l.args=nilB:=fun e=>(hv1.1 e) hv
     rw [hv2 hv] at hcall hvn
     rcases hk with hk | hk
     ·
      have hst:(stepR s l a i).atoms=s.atoms+1:=by rw [stepR_atoms]; simp [hk]
      have hsa:=stepR_all s l a i
      generalize stepR s l a i=s' at hg hst hsa
      have hsl:=addB_len s.all a.name
      simp [-getElem?_pos,zqC,list_set_at,zqA,zqB,zqE,zqD,h1,h2,h4,h5,h8,h7,z0,z1,z2,n0,n1,n2,hlt,e1,GL.enc_eq,hk,hw2,hcall,hvn,setRun]
      refine W_for T 0 202 s.all.length (fun k f' τ=>f' 1=.ptr 0 0∧f' 2=.ptr 1 0∧f' 4=.ptr 2 0∧f' 5=.str head∧f' 6=f 6∧f' 7=.int .i64 ((s.atoms:Int)+1)∧f' 8=.int .i64 (i:Int)∧f' 10=.str a.name∧f' 11=.bool (memB a.name (s.all.take k))∧f' 12=.int .i64 (k:Int)∧τ=σ++[.cells [.int .i64 l.kind,.str l.name,.isl (GT.encs l.args) false] 0 false]) ?_ _ _ ?_
      ·rintro k g τ hki ⟨g1,g2,g4,g5,g6,g7,g8,g10,g11,g12,hτ⟩
       have x0:τ[0]?=some (rCells r):=by rw [hτ,zqA n0]; exact y0
       have x1:τ[1]?=some (plCells nilPl):=by rw [hτ,zqA n1]; exact y1
       have x2:τ[2]?=some (plCells nilPl):=by rw [hτ,zqA n2]; exact y2
       have hτl:τ.length=σ.length+1:=by rw [hτ]; simp
       have hO:LO 3 1 false τ (s.all.map .str) (f 6):=h6.keep fun j o _ ho=>by rw [hτ,zqA (zqI.1 ho).1]; exact ho
       have hlen:=hO.len
       rw [List.length_map] at hlen
       by_cases hkl:k<s.all.length
       ·have hwk:IntKind.i64.wrap ((k:Int)+1)=(k:Int)+1:=wr64 (by omega) (by omega)
        have hat:=hO.at (i:=k) (by simpa using hkl) (by simp [AV.cells])
        have hmk:memB a.name (s.all.take (k+1))=(memB a.name (s.all.take k) || decide (a.name=s.all[k])):=by
         unfold memB; rw [zqO hkl,List.any_append]; simp
        simp only [List.getElem_map,AV.cells] at hat
        rw [hmk]
        cases hm:memB a.name (s.all.take k) with
        | true=>
         rw [hm] at g11
         simp [g1,g2,g4,g5,g6,g7,g8,g10,g11,g12,hlen,hkl,hwk]
         exact hτ
        | false=>
         rw [hm] at g11
         by_cases hq:s.all[k]=a.name
         ·simp [g1,g2,g4,g5,g6,g7,g8,g10,g11,g12,hlen,hkl,hwk,hat,eq_true hq,eq_true hq.symm]
          exact hτ
         ·have hq':¬ a.name=s.all[k]:=fun e=>hq e.symm
          simp [g1,g2,g4,g5,g6,g7,g8,g10,g11,g12,hlen,hkl,hwk,hat,hq,hq']
          exact hτ
       ·have hke:k=s.all.length:=by omega
        subst hke
        rw [List.take_length] at g11
        cases hm:memB a.name s.all with
        | true=>
         rw [hm] at g11
         have ha:addB s.all a.name=s.all:=by unfold addB; rw [if_pos hm]
         rw [ha] at hsa
         simp [g1,g2,g4,g5,g6,g7,g8,g10,g11,g12,hlen,hw,x0,x1,x2]
         exact ⟨by omega,s',hg,by rw [hsa]; omega,by rw [hst]; omega,by rw [hst] <;> rfl,by rw [hsa]; exact hO⟩
        | false=>
         rw [hm] at g11
         have ha:addB s.all a.name=s.all++[a.name]:=by unfold addB; rw [hm]; rfl
         rw [ha] at hsa hsl
         simp [g1,g2,g4,g5,g6,g7,g8,g10,g11,g12,hlen,x0,x1,x2,-appendA_s]
         refine stW_s1 (N:=3) (bytes:=16) (v:=.str a.name) hO rfl rfl rfl (by omega) (by omega) (by simp; omega) fun x3 τ3 hO3 l3 q3 q4=>?_
         simp [g1,g2,g4,g5,g6,g7,g8,g10,g11,g12,hw,q3 0 (by omega),q3 1 (by omega),q3 2 (by omega),x0,x1,x2]
         exact ⟨by omega,s',hg,by rw [hsa]; simp; omega,by rw [hst]; omega,by rw [hst] <;> rfl,by rw [hsa]; simpa using hO3⟩
      ·simp [h1,h2,h4,h5,h7,h8,memB]
       exact hk.symm
     ·
      have hst:(stepR s l a i).atoms=s.atoms:=by rw [stepR_atoms]; simp [hk]
      have hsa:=stepR_all s l a i
      generalize stepR s l a i=s' at hg hst hsa
      have hsl:=addB_len s.all a.name
      simp [-getElem?_pos,zqC,list_set_at,zqA,zqB,zqE,zqD,h1,h2,h4,h5,h8,h7,z0,z1,z2,n0,n1,n2,hlt,e1,GL.enc_eq,hk,hw2,hcall,hvn,setRun]
      refine W_for T 0 202 s.all.length (fun k f' τ=>f' 1=.ptr 0 0∧f' 2=.ptr 1 0∧f' 4=.ptr 2 0∧f' 5=.str head∧f' 6=f 6∧f' 7=.int .i64 (s.atoms:Int)∧f' 8=.int .i64 (i:Int)∧f' 10=.str a.name∧f' 11=.bool (memB a.name (s.all.take k))∧f' 12=.int .i64 (k:Int)∧τ=σ++[.cells [.int .i64 l.kind,.str l.name,.isl (GT.encs l.args) false] 0 false]) ?_ _ _ ?_
      ·rintro k g τ hki ⟨g1,g2,g4,g5,g6,g7,g8,g10,g11,g12,hτ⟩
       have x0:τ[0]?=some (rCells r):=by rw [hτ,zqA n0]; exact y0
       have x1:τ[1]?=some (plCells nilPl):=by rw [hτ,zqA n1]; exact y1
       have x2:τ[2]?=some (plCells nilPl):=by rw [hτ,zqA n2]; exact y2
       have hτl:τ.length=σ.length+1:=by rw [hτ]; simp
       have hO:LO 3 1 false τ (s.all.map .str) (f 6):=h6.keep fun j o _ ho=>by rw [hτ,zqA (zqI.1 ho).1]; exact ho
       have hlen:=hO.len
       rw [List.length_map] at hlen
       by_cases hkl:k<s.all.length
       ·have hwk:IntKind.i64.wrap ((k:Int)+1)=(k:Int)+1:=wr64 (by omega) (by omega)
        have hat:=hO.at (i:=k) (by simpa using hkl) (by simp [AV.cells])
        have hmk:memB a.name (s.all.take (k+1))=(memB a.name (s.all.take k) || decide (a.name=s.all[k])):=by
         unfold memB; rw [zqO hkl,List.any_append]; simp
        simp only [List.getElem_map,AV.cells] at hat
        rw [hmk]
        cases hm:memB a.name (s.all.take k) with
        | true=>
         rw [hm] at g11
         simp [g1,g2,g4,g5,g6,g7,g8,g10,g11,g12,hlen,hkl,hwk]
         exact hτ
        | false=>
         rw [hm] at g11
         by_cases hq:s.all[k]=a.name
         ·simp [g1,g2,g4,g5,g6,g7,g8,g10,g11,g12,hlen,hkl,hwk,hat,eq_true hq,eq_true hq.symm]
          exact hτ
         ·have hq':¬ a.name=s.all[k]:=fun e=>hq e.symm
          simp [g1,g2,g4,g5,g6,g7,g8,g10,g11,g12,hlen,hkl,hwk,hat,hq,hq']
          exact hτ
       ·have hke:k=s.all.length:=by omega
        subst hke
        rw [List.take_length] at g11
        cases hm:memB a.name s.all with
        | true=>
         rw [hm] at g11
         have ha:addB s.all a.name=s.all:=by unfold addB; rw [if_pos hm]
         rw [ha] at hsa
         simp [g1,g2,g4,g5,g6,g7,g8,g10,g11,g12,hlen,hw,x0,x1,x2]
         exact ⟨by omega,s',hg,by rw [hsa]; omega,by rw [hst]; omega,by rw [hst] <;> rfl,by rw [hsa]; exact hO⟩
        | false=>
         rw [hm] at g11
         have ha:addB s.all a.name=s.all++[a.name]:=by unfold addB; rw [hm]; rfl
         rw [ha] at hsa hsl
         simp [g1,g2,g4,g5,g6,g7,g8,g10,g11,g12,hlen,x0,x1,x2,-appendA_s]
         refine stW_s1 (N:=3) (bytes:=16) (v:=.str a.name) hO rfl rfl rfl (by omega) (by omega) (by simp; omega) fun x3 τ3 hO3 l3 q3 q4=>?_
         simp [g1,g2,g4,g5,g6,g7,g8,g10,g11,g12,hw,q3 0 (by omega),q3 1 (by omega),q3 2 (by omega),x0,x1,x2]
         exact ⟨by omega,s',hg,by rw [hsa]; simp; omega,by rw [hst]; omega,by rw [hst] <;> rfl,by rw [hsa]; simpa using hO3⟩
      ·simp [h1,h2,h4,h5,h7,h8,memB]
       exact hk.symm
    ·rw [if_neg hv] at hg
     rw [hv1.2 hv] at hcall
     rw [hnone hg]
     rcases hk with hk | hk
     ·simp [-getElem?_pos,zqC,list_set_at,zqA,zqB,zqE,zqD,h1,h2,h4,h5,h8,h7,z0,z1,z2,n0,n1,n2,hlt,e1,GL.enc_eq,hk,hw2,hcall,setRun,endP,res1,resPl,nilPl,GPl.enc]
      done
     ·simp [-getElem?_pos,zqC,list_set_at,zqA,zqB,zqE,zqD,h1,h2,h4,h5,h8,h7,z0,z1,z2,n0,n1,n2,hlt,e1,GL.enc_eq,hk,hw2,hcall,setRun,endP,res1,resPl,nilPl,GPl.enc]
      done
   ·rw [if_neg hk] at hg
    have k1:¬ l.kind=1:=fun e=>hk (.inl e)
    have k2:¬ l.kind=2:=fun e=>hk (.inr e)
    simp [-getElem?_pos,zqC,list_set_at,zqA,zqB,zqE,zqD,h1,h2,h4,h5,h8,z0,z1,z2,n0,n1,n2,hlt,e1,GL.enc_eq,k1,k2,hw,setRun]
    refine ⟨by omega,?_,?_,s,hg,by omega,by omega,h7,h6.keep fun j o hj ho=>?_⟩
    ·rfl
    ·rfl
    ·rw [zqA (zqI.1 ho).1]; exact ho
  ·have he:i=r.body.length:=by omega
   subst he
   rw [List.drop_length] at hg
   simp [-getElem?_pos,zqE,zqD,h1,h2,h4,h5,h8,z0,z1,z2]
   refine tail s _ _ hg ?_ ?_ ?_ ?_ ?_ ?_ y0 y1 y2 hl <;> simp [h1,h2,h4,h5,h7,h6]
 ·simp [h1,h2,h4,h5,h6,h7,y0,y1,y2,hl]
  exact ⟨⟨[],[],0⟩,rfl,by simp,by simp,by simp,LO.nil ..⟩
end Go.Proofs.YtjfgjnlocadpbaaGreatDoor
end
section
set_option maxRecDepth 100000
namespace Go.Proofs.YtjfgjnlocadpbaaGreatDoor
open Go.Mach
theorem rPlace_ok (r:GR) (hs:r.size≤100000000):pureT T c18 [r.enc]=some (resPl (placeP r)):=by
 have hsay:=callR4RuleP r (by omega)
 have hte:=text_empty r
 have hbl:=GR.body_len r
 have hvar:=callRVar r.args
 have hread:=place_read r (by omega)
 have htail:=fun head s=>place_tail r head s (by omega)
 simp only [GR.enc_eq] at hsay
 apply pure_enter (by simp [c18])
 show wpK T 0 202 [.code PB] _ [] (endP 202 [.cell 2 3 true,.tmp 3] _)
 have hPB:PB=.seq (fstC PB) (.seq (fstC (sndC PB)) (.seq (fstC (sndC (sndC PB))) (.seq (fstC (sndC (sndC (sndC PB)))) (.seq (fstC (sndC (sndC (sndC (sndC PB))))) (.seq (fstC (sndC (sndC (sndC (sndC (sndC PB)))))) (.seq (fstC (sndC (sndC (sndC (sndC (sndC (sndC PB))))))) P7)))))):=rfl
 rw [hPB]
 generalize P7=K at hread
 by_cases hb:ruleB r=true
 ·have ht:¬ textRule r=nilB:=fun e=>hte.1 e hb
  have hlit:∀ l∈r.body,litB l=true:=by
   unfold ruleB at hb
   simp only [zqL] at hb
   exact zqQ.1 hb.1.2
  have hargs:∃ a rest,r.args=a :: rest∧termR 8 a=true:=by
   unfold ruleB argsB at hb
   simp only [zqL,decide_eq_true_eq] at hb
   cases h:r.args with
   | nil=>rw [h] at hb; simp at hb
   | cons a rest=>
    rw [h] at hb
    exact ⟨a,rest,rfl,zqQ.1 hb.1.1.1.2.1.2 a (by simp)⟩
  obtain ⟨a,rest,har,hta⟩:=hargs
  have hv:varP r.args=if a.kind=1 then a.name else nilB:=by rw [har]; rfl
  by_cases hk:a.kind=1
  ·rw [if_pos hk] at hv
   have hvn:=var_ne hta hk
   rw [hv] at hvar
   by_cases hh:r.head=sLink
   ·have hp:placeP r=none:=by unfold placeP; rw [if_neg (fun h=>h.2.1 hh)]
    rw [hp]
    simp [PB,c18,sndC,fstC,hsay,ht,hvar,hvn,eq_true hh,setRun,endP,res1,resPl,nilPl,GPl.enc]
    done
   ·have hc:ruleB r=true∧r.head≠sLink∧headK r=1:=⟨hb,hh,by unfold headK; rw [har]; simp [hk]⟩
    have hn:headN r=a.name:=by unfold headN; rw [har]; rfl
    have hpl:∀ s,readGo r.body 0 ⟨[],[],0⟩=some s→placeP r=plFin r (if 0<s.atoms then placeQ s a.name else none):=by
     intro s hg
     unfold placeP readP
     rw [if_pos hc,hn,hg]
     simp only
     by_cases h0:0<s.atoms
     ·rw [if_pos h0,if_pos h0]; rfl
     ·rw [if_neg h0,if_neg h0]; rfl
    simp [PB,c18,sndC,fstC,hsay,ht,hvar,hvn,hh,setRun]
    refine hread hlit a.name _ (fun e=>?_) _ _ ?_ ?_ ?_ ?_ ?_ ?_ ?_ ?_ ?_ ?_ ?_
    ·have hp:placeP r=none:=by unfold placeP readP; rw [if_pos hc,e]
     rw [hp]
    ·simp
    ·simp
    ·simp
    ·simp
    ·simp
    ·simp
    ·rfl
    ·rfl
    ·rfl
    ·simp
    ·intro s f σ hg h1 h2 h4 h5 h7 h6 z0 z1 z2 hl
     rw [hpl s hg]
     refine htail a.name s hg (fun h0=>?_) f σ h1 h2 h4 h5 h7 h6 z0 z1 z2 hl
     exact names_ne hb (by unfold readP; rw [hg]; simp only [if_pos h0])
  ·rw [if_neg hk] at hv
   rw [hv] at hvar
   have hp:placeP r=none:=by unfold placeP; rw [if_neg (fun h=>hk (by have:=h.2.2; unfold headK at this; rw [har] at this; simpa using this))]
   rw [hp]
   simp [PB,c18,sndC,fstC,hsay,ht,hvar,setRun,endP,res1,resPl,nilPl,GPl.enc]
   done
 ·have ht:textRule r=nilB:=hte.2 hb
  have hp:placeP r=none:=by unfold placeP; rw [if_neg (fun h=>hb h.1)]
  rw [hp]
  simp [PB,c18,sndC,fstC,hsay,ht,setRun,endP,res1,resPl,nilPl,GPl.enc]
  done
theorem callRPlace (r:GR) (hs:r.size≤100000000) (bs:Nat) (σ:Heap):callT T 18 [r.enc] bs σ=some (resPl (placeP r),σ):=call_clean rfl rfl rfl (by simp) (rPlace_ok r hs)
theorem callRCheck6 (p:GP) (hp:p.size≤1000000000) (bs:Nat) (σ:Heap):callT T 38 [p.enc] bs σ=some (res2 (checkP p),σ):=call_clean rfl rfl rfl (by simp) (rCheck6_ok p hp)
theorem rCheck7_ok (p:GP) (hp:p.size≤1000000000) (hr:∀ r∈p.rules,r.size≤100000000) (hl:p.rules.length≤100000000):pureT T c17 [p.enc]=some (res2 (checkL p)):=by
 have hck:=callRCheck6 p hp
 simp only [GP.enc_eq] at hck
 obtain ⟨⟨e,n⟩,hen⟩:∃ x,checkP p=x:=⟨_,rfl⟩
 rw [hen] at hck
 unfold checkL
 rw [hen]
 apply pure_enter (by simp [c17])
 by_cases h0:e=0
 ·subst h0
  rw [if_neg (by simp)]
  simp [c17,hck,setRun,GP.enc_eq]
  refine W_for T 0 37 p.rules.length (fun i f σ=>f 1=.ptr 0 0∧f 6=.int .i64 (i:Int)∧1≤σ.length∧σ[0]?=some (pCells p)∧∀ j,(hj:j<p.rules.length)→j<i→lostB p.rules[j]=false) ?_ _ _ ?_
  ·rintro i f σ hi ⟨h1,h6,hN,y0,hall⟩
   have z0:=y0
   unfold pCells at z0
   by_cases hlt:i<p.rules.length
   ·have hw:IntKind.i64.wrap ((i:Int)+1)=(i:Int)+1:=wr64 (by omega) (by omega)
    have e1:p.rules[i]?=some p.rules[i]:=zqF hlt
    have hc:=callRPlace p.rules[i] (hr _ (zqT hlt))
    simp only [GR.enc_eq] at hc
    cases hq:placeP p.rules[i] with
    | none=>
     have hlo:lostB p.rules[i]=true:=by unfold lostB; rw [hq]; rfl
     have hix:=idx_at hlt hall hlo
     rw [hq] at hc
     simp [-getElem?_pos,zqA,zqB,zqE,zqD,h1,h6,z0,hlt,e1,hc,resPl,nilPl,GPl.enc,setRun,hix,GR.enc_eq]
     done
    | some q=>
     have hlo:lostB p.rules[i]=false:=by unfold lostB; rw [hq]; rfl
     rw [hq] at hc
     simp [-getElem?_pos,zqA,zqB,zqE,zqD,list_set_at,h1,h6,z0,hlt,e1,hc,resPl,nilPl,GPl.enc,setRun,hw,GR.enc_eq]
     refine ⟨?_,fun j hj hji=>?_⟩
     ·rw [zqA (by omega)]; exact y0
     ·by_cases hje:j=i
      ·subst hje; exact hlo
      ·exact hall j hj (by omega)
   ·have he:i=p.rules.length:=by omega
    have hix:idxG lostB p.rules=-1:=idx_none fun j hj=>hall j hj (by omega)
    simp [h1,h6,z0,hlt,hix]
    done
  ·simp [pCells]
 ·simp [c17,hck,h0,setRun,GP.enc_eq]
  done
theorem callRCheckL (p:GP) (hp:p.size≤1000000000) (hr:∀ r∈p.rules,r.size≤100000000) (hl:p.rules.length≤100000000) (bs:Nat) (σ:Heap):callT T 17 [p.enc] bs σ=some (res2 (checkL p),σ):=call_clean rfl rfl rfl (by simp) (rCheck7_ok p hp hr hl)
end Go.Proofs.YtjfgjnlocadpbaaGreatDoor
end
section
set_option maxRecDepth 100000
namespace Go.Proofs.YtjfgjnlocadpbaaGreatDoor
open Go.Mach
def blkC:ACode→ACode
 | .block _ c=>c
 | c=>c
def loopC:ACode→ACode
 | .loop c=>c
 | c=>c
abbrev TB:ACode:=c6.body
abbrev TL:ACode:=loopC (blkC (sndC (fstC (sndC (sndC TB)))))
abbrev TR:ACode:=sndC (blkC (fstC (sndC (sndC TL))))
theorem tells_round (q:GP) (hq:q.size≤1000000000) (hr:∀ r∈q.rules,r.size≤100000000) (hrl:q.rules.length≤100000000) (j:Nat) (k:List Fr) (Q:AExit→FR→Heap→Prop) (f:FR) (σ:Heap) (h9:f 9=.ptr j 0) (y0:σ[j]?=some (pCells q))
  (hK:∀ f' σ',f' 3=f 3→f' 7=f 7→f' 26=f 26→f' 27=f 27→f' 28=f 28→σ.length≤σ'.length→(∀ i,i<σ.length→σ'[i]?=σ[i]?)→wpK T 0 89 k f' σ' Q):wpK T 0 89 (.code TR :: k) f σ Q:=by
 have hc1:=callCheckL q hq hr hrl
 have hc2:=callRCheckL q hq hr hrl
 simp only [GP.enc_eq] at hc1 hc2
 generalize checkL q=C at hc1 hc2
 obtain ⟨e,n⟩:=C
 have z0:=y0
 unfold pCells at z0
 simp [TR,TL,TB,c6,sndC,fstC,blkC,loopC,h9,z0,hc1,hc2]
 refine W_for T 0 89 64 (fun i g τ=>g 3=f 3∧g 7=f 7∧g 26=f 26∧g 27=f 27∧g 28=f 28∧g 9=.ptr j 0∧g 14=.int .i64 (i:Int)∧σ.length≤τ.length∧∀ i,i<σ.length→τ[i]?=σ[i]?) ?_ _ _ ?_
 ·rintro i g τ hi ⟨g3,g7,g26,g27,g28,g9,g14,hl,hkeep⟩
  have hjl:j<σ.length:=(zqI.1 y0).1
  have x0:τ[j]?=some (.cells [.isl (q.decls.map GD.enc) false,.isl (q.facts.map GU.enc) false,.isl (q.rules.map GR.enc) false] 0 false):=by rw [hkeep j hjl]; exact z0
  have hjt:j<τ.length:=by omega
  have x1:∀ o,(τ++[o])[j]?=some (.cells [.isl (q.decls.map GD.enc) false,.isl (q.facts.map GU.enc) false,.isl (q.rules.map GR.enc) false] 0 false):=fun o=>by rw [zqA hjt]; exact x0
  by_cases hlt:i<q.rules.length
  ·by_cases h64:i<64
   ·have hw:IntKind.i64.wrap ((i:Int)+1)=(i:Int)+1:=wr64 (by omega) (by omega)
    have e1:q.rules[i]?=some q.rules[i]:=zqF hlt
    have hp1:=callPlace q.rules[i] (hr _ (zqT hlt))
    have hp2:=callRPlace q.rules[i] (hr _ (zqT hlt))
    simp only [GR.enc_eq] at hp1 hp2
    generalize placeP q.rules[i]=P at hp1 hp2
    have hP:resPl P=.tup [.agg [.str (P.getD nilPl).from',.str (P.getD nilPl).to,.str (P.getD nilPl).head],.bool P.isSome]:=rfl
    rw [hP] at hp1 hp2
    have i64:(i:Int)<64:=by omega
    simp [-getElem?_pos,zqA,zqB,zqE,zqD,list_set_at,g3,g7,g26,g27,g28,g9,g14,x0,x1,hlt,h64,i64,e1,hp1,hp2,setRun,hw,GR.enc_eq,hjt]
    exact ⟨by omega,fun m hm=>by rw [zqA (by omega)]; exact hkeep m hm⟩
   ·have h64':¬ ((i:Int)<64):=by omega
    simp [-getElem?_pos,g3,g7,g26,g27,g28,g9,g14,x0,hlt,h64,h64']
    refine hK _ _ ?_ ?_ ?_ ?_ ?_ hl hkeep <;> simp [g3,g7,g26,g27,g28]
  ·simp [-getElem?_pos,g3,g7,g26,g27,g28,g9,g14,x0,hlt]
   refine hK _ _ ?_ ?_ ?_ ?_ ?_ hl hkeep <;> simp [g3,g7,g26,g27,g28]
 ·simp [h9]
set_option maxHeartbeats 2000000 in
theorem locateTells_ok (p:GP) (rules:List (List GRaw)) (facts:List GRaw) (hp:p.ok) (hs:p.size≤1048576) (hr:RawsOk rules) (hf:FactsOk facts):pureT T c6 [p.enc,.isl (encRR rules) false,.isl (facts.map GRaw.enc) false]=some (.bool true):=by
 obtain ⟨fs,rs,h6,h12,hrs,_,hP,hC⟩:=raw_prog rules facts hr hf
 obtain ⟨hc1,hs1⟩:=hC rs (fun _ h=>h) (by omega)
 have hfit:=callFit4 p hp hs
 have hle:=progOf_le p
 generalize progOf p=u at hfit hle
 have size:∀ q:GP,q.size≤50000000→∀ r∈q.rules,r.size≤100000000:=fun q hq r hrm=>by
  have:=GP.rules_mem q hrm
  omega
 have lens:∀ q:GP,q.size≤50000000→q.rules.length≤100000000:=fun q hq=>by
  have:=GP.rules_len q
  omega
 have hs2:(GP.mk relsD fs rs).size≤1000000000:=hs1
 have hrs2:∀ r∈(GP.mk relsD fs rs).rules,r.size≤100000000:=fun r h=>by
  have:=rulesR_size rules r (by rw [←hrs]; exact h)
  omega
 have round1:=fun j k Q f σ=>tells_round p (by omega) (size p (by omega)) (lens p (by omega)) j k Q f σ
 have round2:=fun j k Q f σ=>tells_round (GP.mk relsD fs rs) hs2 hrs2 (by show rs.length≤_; omega) j k Q f σ
 have round3:=fun j k Q f σ=>tells_round u (by omega) (size u (by omega)) (lens u (by omega)) j k Q f σ
 simp only [GP.enc_eq] at hfit
 apply pure_enter (by simp [c6])
 have hTB:TB=.seq (fstC TB) (.seq (fstC (sndC TB)) (.seq (.seq (fstC (fstC (sndC (sndC TB)))) (.block 0 (.loop (.seq (fstC TL) (.seq (fstC (sndC TL)) (.seq (.block 1 (.seq (fstC (blkC (fstC (sndC (sndC TL))))) TR)) (sndC (sndC (sndC TL))))))))) (sndC (sndC (sndC TB))))):=rfl
 show wpK T 0 89 [.code TB] _ [] _
 rw [hTB]
 generalize TR=K at round1 round2 round3
 simp [TL,TB,c6,sndC,fstC,blkC,loopC,callAwake7,hP,hfit,setRun,GP.enc_eq]
 refine W_for T 0 89 3 (fun i f σ=>f 7=.bool true∧f 26=.sl 1 0 3 3 true∧f 27=.int .i64 3∧f 28=.int .i64 (i:Int)∧2≤σ.length∧σ[1]?=some (.cells [.isl (p.decls.map GD.enc) false,.isl (p.facts.map GU.enc) false,.isl (p.rules.map GR.enc) false,.isl (relsD.map GD.enc) false,.isl (fs.map GU.enc) false,.isl (rs.map GR.enc) false,.isl (u.decls.map GD.enc) false,.isl (u.facts.map GU.enc) false,.isl (u.rules.map GR.enc) false] 0 false)) ?_ _ _ ?_
 ·rintro i f σ hi ⟨h7,h26,h27,h28,hN,x1⟩
  rcases (by omega:i=0∨i=1∨i=2∨i=3) with rfl | rfl | rfl | rfl
  ·have hw:IntKind.i64.wrap ((0:Int)+1)=1:=by decide
   simp [-getElem?_pos,zqA,zqB,zqE,zqD,list_set_at,h7,h26,h27,h28,x1,window,setRun]
   refine round1 σ.length _ _ _ _ ?_ ?_ fun f' σ' g3 g7 g26 g27 g28 hl hk=>?_
   ·simp
   ·simp [pCells]
   ·simp [h7,h26,h27,h28] at g3 g7 g26 g27 g28
    have hk1:=hk 1 (by simp; omega)
    rw [zqA (by omega),x1] at hk1
    simp [g3,g7,g26,g27,g28]
    simp at hl
    exact ⟨by decide,by omega,hk1⟩
  ·have hw:IntKind.i64.wrap ((1:Int)+1)=2:=by decide
   simp [-getElem?_pos,zqA,zqB,zqE,zqD,list_set_at,h7,h26,h27,h28,x1,window,setRun]
   refine round2 σ.length _ _ _ _ ?_ ?_ fun f' σ' g3 g7 g26 g27 g28 hl hk=>?_
   ·simp
   ·simp [pCells]
   ·simp [h7,h26,h27,h28] at g3 g7 g26 g27 g28
    have hk1:=hk 1 (by simp; omega)
    rw [zqA (by omega),x1] at hk1
    simp [g3,g7,g26,g27,g28]
    simp at hl
    exact ⟨by decide,by omega,hk1⟩
  ·have hw:IntKind.i64.wrap ((2:Int)+1)=3:=by decide
   simp [-getElem?_pos,zqA,zqB,zqE,zqD,list_set_at,h7,h26,h27,h28,x1,window,setRun]
   refine round3 σ.length _ _ _ _ ?_ ?_ fun f' σ' g3 g7 g26 g27 g28 hl hk=>?_
   ·simp
   ·simp [pCells]
   ·simp [h7,h26,h27,h28] at g3 g7 g26 g27 g28
    have hk1:=hk 1 (by simp; omega)
    rw [zqA (by omega),x1] at hk1
    simp [g3,g7,g26,g27,g28]
    simp at hl
    exact ⟨by decide,by omega,hk1⟩
  ·simp [h7,h26,h27,h28]
 ·simp [flat,AV.cells,setRun]
  done
end Go.Proofs.YtjfgjnlocadpbaaGreatDoor
end
