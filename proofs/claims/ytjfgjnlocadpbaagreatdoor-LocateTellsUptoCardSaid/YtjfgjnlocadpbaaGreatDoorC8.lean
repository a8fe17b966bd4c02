import Derived.Test.YtjfgjnlocadpbaaGreatDoorC7
import Derived.Test.YtjfgjnlocadpbaaGreatDoorC6
set_option linter.unusedVariables false
set_option linter.unusedSimpArgs false
set_option linter.unnecessarySimpa false
section
set_option maxRecDepth 100000
namespace Go.Proofs.YtjfgjnlocadpbaaGreatDoor
open Go.Mach
theorem text_empty (r:GR):textRule r=nilB↔¬ ruleB r=true:=by
 unfold textRule
 split
 ·rename_i h
  constructor
  ·intro e
   exfalso
   have h1:(S (shRule r)).data.toList=nilB.data.toList:=by rw [e]
   have h2:(S (shRule r)).data.toList=shRule r:=by simp [S]
   rw [h2] at h1
   unfold shRule at h1
   simp at h1
  ·exact fun e=>absurd h e
 ·rename_i h
  exact ⟨fun _=>h,fun _=>rfl⟩
theorem lit_args {l:GL} (h:litB l=true) (hk:l.kind=1∨l.kind=2):l.args≠[]:=by
 obtain ⟨⟨t,ht⟩,_⟩:=lit_names h hk
 intro e; rw [e] at ht; cases ht
theorem add_ne (b:List ByteArray) (n:ByteArray):addB b n≠[]:=by
 unfold addB
 split
 ·rename_i h; intro e; rw [e] at h; cases h
 ·simp
def resPl (o:Option GPl):AV:=.tup [(o.getD nilPl).enc,.bool o.isSome]
set_option maxHeartbeats 4000000 in
theorem place7 (r:GR) (hs:r.size≤100000000):pureT T c10 [r.enc]=some (resPl (placeP r)):=by
 have hsay:=sayRule r (by omega)
 have hte:=text_empty r
 have hbl:=GR.body_len r
 simp only [GR.enc_eq] at hsay
 apply pure_enter (by simp [c10])
 by_cases hb:ruleB r=true
 ·have ht:¬ textRule r=nilB:=fun e=>hte.1 e hb
  have hlit:∀ l∈r.body,litB l=true:=by
   unfold ruleB at hb
   simp only [zqL] at hb
   exact zqQ.1 hb.1.2
  have hargs:∃ a rest,r.args=a :: rest:=by
   unfold ruleB argsB at hb
   simp only [zqL,decide_eq_true_eq] at hb
   cases h:r.args with
   | nil=>rw [h] at hb; simp at hb
   | cons a rest=>exact ⟨a,rest,rfl⟩
  obtain ⟨a,rest,har⟩:=hargs
  have e0:GT.encs (a :: rest)=a.enc :: GT.encs rest:=rfl
  rw [har,e0] at hsay
  by_cases hh:r.head=sLink
  ·have hp:placeP r=none:=by unfold placeP; rw [if_neg (fun h=>h.2.1 hh)]
   rw [hp]
   simp [c10,har,e0,hsay,ht,eq_true hh,setRun,resPl,nilPl,GPl.enc]
  ·by_cases hk:a.kind=1
   ·have hc:ruleB r=true∧r.head≠sLink∧headK r=1:=⟨hb,hh,by unfold headK; rw [har]; simp [hk]⟩
    have hn:headN r=a.name:=by unfold headN; rw [har]; rfl
    obtain ⟨⟨v,σ1⟩,hcall,hl1,hfr,hq⟩:=read7 r.body (fun l hl hk=>lit_args (hlit l hl) hk) (by omega) 0 [.cells [.str r.label,.str r.head,.isl (a.enc :: GT.encs rest) false,.str r.agg,.int .i64 r.pos,.isl (r.body.map GL.enc) false] 0 false,.cells [.str nilB,.str nilB,.str nilB] 0 false] (by omega)
    simp at hl1
    simp only at hfr hq
    have f0:σ1[0]?=some (.cells [.str r.label,.str r.head,.isl (a.enc :: GT.encs rest) false,.str r.agg,.int .i64 r.pos,.isl (r.body.map GL.enc) false] 0 false):=by rw [hfr 0 (by simp)]; rfl
    have f1:σ1[1]?=some (.cells [.str nilB,.str nilB,.str nilB] 0 false):=by rw [hfr 1 (by simp)]; rfl
    have n0:0<σ1.length:=by omega
    have n1:1<σ1.length:=by omega
    cases hg:readGo r.body 0 ⟨[],[],0⟩ with
    | none=>
     have hp:placeP r=none:=by unfold placeP readP; rw [if_pos hc,hg]
     rw [hp]
     rw [hg] at hq
     obtain ⟨x,n,hv,hx1,hx2⟩:=hq
     subst hv
     simp [c10,hsay,ht,hh,hk,har,e0,hcall,setRun,resPl,nilPl,GPl.enc,hx1,hx2,-getElem?_pos,zqA,zqB,zqC,list_set_at,zqE,zqD,n0,n1,f0,f1]
     done
    | some s=>
     rw [hg] at hq
     obtain ⟨x,hv,hO,hm⟩:=hq
     subst hv
     have n3:3<σ1.length:=by omega
     have hm3:σ1[3]?=some (.mp (encW s.links)):=hm
     have hm4:∀ o:AObj,(σ1++[o])[3]?=some (.mp (encW s.links)):=fun o=>by rw [zqA n3]; exact hm3
     by_cases hat:0<s.atoms
     ·have hrp:readP r.body=some s:=by unfold readP; rw [hg]; simp only [if_pos hat]
      have hpl:placeP r=match placeQ s a.name with
        | none=>none
        | some p=>if aggOk r p=true then some p else none:=by unfold placeP; rw [if_pos hc,hrp,hn] <;> rfl
      rcases hO with ⟨hnil,rfl⟩ | ⟨j,rfl,_,_,_⟩
      ·have hall:s.all=[]:=by simpa using hnil
       have hq0:placeQ s a.name=none:=by unfold placeQ; rw [hall]
       rw [hq0] at hpl
       rw [hpl]
       simp [c10,hsay,ht,hh,hk,har,e0,hcall,setRun,n0,n1,f0,f1,-getElem?_pos,zqA,zqB,zqC,list_set_at,zqE,zqD,hat,resPl,nilPl,GPl.enc]
      ·match hall:s.all with
       | []=>
        have hq0:placeQ s a.name=none:=by unfold placeQ; rw [hall]
        rw [hq0] at hpl
        rw [hpl]
        simp [c10,hsay,ht,hh,hk,har,e0,hcall,setRun,n0,n1,f0,f1,-getElem?_pos,zqA,zqB,zqC,list_set_at,zqE,zqD,hat,hall,resPl,nilPl,GPl.enc]
       | [b]=>
        have hone:=fun o bs=>one7 (hm4 o) j b a.name (s.atoms:Int) bs
        simp only [plA,List.map_cons,List.map_nil] at hone
        have hq0:placeQ s a.name=oneP s b a.name:=by unfold placeQ; rw [hall]
        rw [hq0] at hpl
        unfold oneP at hpl
        by_cases hok:a.name=b∨(lookW s.links b a.name).isSome=true
        ·rw [if_pos hok] at hpl
         have hok':(decide (a.name=b) || (lookW s.links b a.name).isSome)=true:=by simpa using hok
         rw [hok'] at hone
         by_cases hag:r.agg=nilB
         ·have hpl2:placeP r=some ⟨b,nilB,a.name⟩:=by rw [hpl]; simp [aggOk,hag]
          rw [hpl2]
          simp [c10,hsay,ht,hh,hk,har,e0,hcall,setRun,n0,n1,f0,f1,-getElem?_pos,zqA,zqB,zqC,list_set_at,zqE,zqD,hat,hall,hone,eq_true hag,resPl,GPl.enc]
          done
         ·by_cases hhb:a.name=b
          ·have hpl2:placeP r=some ⟨b,nilB,a.name⟩:=by rw [hpl]; simp [aggOk,hag,hhb]
           rw [hpl2]
           simp [c10,hsay,ht,hh,hk,har,e0,hcall,setRun,n0,n1,f0,f1,-getElem?_pos,zqA,zqB,zqC,list_set_at,zqE,zqD,hat,hall,hone,hag,eq_true hhb,resPl,GPl.enc]
           done
          ·have hpl2:placeP r=none:=by rw [hpl]; simp [aggOk,hag,hhb]
           rw [hpl2]
           simp [c10,hsay,ht,hh,hk,har,e0,hcall,setRun,n0,n1,f0,f1,-getElem?_pos,zqA,zqB,zqC,list_set_at,zqE,zqD,hat,hall,hone,hag,hhb,resPl,nilPl,GPl.enc]
           done
        ·rw [if_neg hok] at hpl
         have hok':(decide (a.name=b) || (lookW s.links b a.name).isSome)=false:=by
          cases h:(decide (a.name=b) || (lookW s.links b a.name).isSome) with
          | false=>rfl
          | true=>exact absurd (by simpa using h) hok
         rw [hok'] at hone
         rw [hpl]
         simp [c10,hsay,ht,hh,hk,har,e0,hcall,setRun,n0,n1,f0,f1,-getElem?_pos,zqA,zqB,zqC,list_set_at,zqE,zqD,hat,hall,hone,resPl,nilPl,GPl.enc]
         done
       | [b,c]=>
        have hne:=names_ne hb hrp
        have htw:=fun o bs=>two7 (hm4 o) j b c a.name (s.atoms:Int) bs
        simp only [plA,List.map_cons,List.map_nil] at htw
        have hq0:placeQ s a.name=twoP s b c a.name:=by unfold placeQ; rw [hall]
        rw [hq0] at hpl
        unfold twoP at hpl
        cases e1:lookW s.links b c with
        | none=>
         cases e2:lookW s.links c b with
         | none=>
          rw [e1,e2] at hpl
          simp only [e1,e2] at htw
          rw [hpl]
          simp [c10,hsay,ht,hh,hk,har,e0,hcall,setRun,n0,n1,f0,f1,-getElem?_pos,zqA,zqB,zqC,list_set_at,zqE,zqD,hat,hall,htw,resPl,nilPl,GPl.enc]
         | some q=>
          rw [e1,e2] at hpl
          simp only [e1,e2] at htw
          simp only at hpl
          have hnt:¬ b=nilB:=hne b (by rw [hall]; simp)
          by_cases hmem:a.name=b∨a.name=c
          ·have hmb:memB a.name [b,c]=true:=by unfold memB; simpa using hmem
           rw [hmb] at htw
           rw [if_pos hmem] at hpl
           by_cases hag:r.agg=nilB
           ·have hpl2:placeP r=some ⟨c,b,a.name⟩:=by rw [hpl]; simp [aggOk,hag]
            rw [hpl2]
            simp [c10,hsay,ht,hh,hk,har,e0,hcall,setRun,n0,n1,f0,f1,-getElem?_pos,zqA,zqB,zqC,list_set_at,zqE,zqD,hat,hall,htw,eq_true hag,resPl,GPl.enc]
           ·have hpl2:placeP r=none:=by rw [hpl]; simp [aggOk,hag,hnt]
            rw [hpl2]
            simp [c10,hsay,ht,hh,hk,har,e0,hcall,setRun,n0,n1,f0,f1,-getElem?_pos,zqA,zqB,zqC,list_set_at,zqE,zqD,hat,hall,htw,hag,hnt,resPl,nilPl,GPl.enc]
          ·have hmb:memB a.name [b,c]=false:=by
            cases h:memB a.name [b,c] with
            | false=>rfl
            | true=>exact absurd (by unfold memB at h; simpa using h) hmem
           rw [hmb] at htw
           rw [if_neg hmem] at hpl
           rw [hpl]
           simp [c10,hsay,ht,hh,hk,har,e0,hcall,setRun,n0,n1,f0,f1,-getElem?_pos,zqA,zqB,zqC,list_set_at,zqE,zqD,hat,hall,htw,resPl,nilPl,GPl.enc]
        | some i=>
         cases e2:lookW s.links c b with
         | none=>
          rw [e1,e2] at hpl
          simp only [e1,e2] at htw
          simp only at hpl
          have hnt:¬ c=nilB:=hne c (by rw [hall]; simp)
          by_cases hmem:a.name=b∨a.name=c
          ·have hmb:memB a.name [b,c]=true:=by unfold memB; simpa using hmem
           rw [hmb] at htw
           rw [if_pos hmem] at hpl
           by_cases hag:r.agg=nilB
           ·have hpl2:placeP r=some ⟨b,c,a.name⟩:=by rw [hpl]; simp [aggOk,hag]
            rw [hpl2]
            simp [c10,hsay,ht,hh,hk,har,e0,hcall,setRun,n0,n1,f0,f1,-getElem?_pos,zqA,zqB,zqC,list_set_at,zqE,zqD,hat,hall,htw,eq_true hag,resPl,GPl.enc]
           ·have hpl2:placeP r=none:=by rw [hpl]; simp [aggOk,hag,hnt]
            rw [hpl2]
            simp [c10,hsay,ht,hh,hk,har,e0,hcall,setRun,n0,n1,f0,f1,-getElem?_pos,zqA,zqB,zqC,list_set_at,zqE,zqD,hat,hall,htw,hag,hnt,resPl,nilPl,GPl.enc]
          ·have hmb:memB a.name [b,c]=false:=by
            cases h:memB a.name [b,c] with
            | false=>rfl
            | true=>exact absurd (by unfold memB at h; simpa using h) hmem
           rw [hmb] at htw
           rw [if_neg hmem] at hpl
           rw [hpl]
           simp [c10,hsay,ht,hh,hk,har,e0,hcall,setRun,n0,n1,f0,f1,-getElem?_pos,zqA,zqB,zqC,list_set_at,zqE,zqD,hat,hall,htw,resPl,nilPl,GPl.enc]
         | some q=>
          rw [e1,e2] at hpl
          simp only [e1,e2] at htw
          simp only at hpl
          by_cases hqi:q<i
          ·simp only [if_pos hqi] at htw hpl
           have hnt:¬ b=nilB:=hne b (by rw [hall]; simp)
           by_cases hmem:a.name=b∨a.name=c
           ·have hmb:memB a.name [b,c]=true:=by unfold memB; simpa using hmem
            rw [hmb] at htw
            rw [if_pos hmem] at hpl
            by_cases hag:r.agg=nilB
            ·have hpl2:placeP r=some ⟨c,b,a.name⟩:=by rw [hpl]; simp [aggOk,hag]
             rw [hpl2]
             simp [c10,hsay,ht,hh,hk,har,e0,hcall,setRun,n0,n1,f0,f1,-getElem?_pos,zqA,zqB,zqC,list_set_at,zqE,zqD,hat,hall,htw,eq_true hag,resPl,GPl.enc]
            ·have hpl2:placeP r=none:=by rw [hpl]; simp [aggOk,hag,hnt]
             rw [hpl2]
             simp [c10,hsay,ht,hh,hk,har,e0,hcall,setRun,n0,n1,f0,f1,-getElem?_pos,zqA,zqB,zqC,list_set_at,zqE,zqD,hat,hall,htw,hag,hnt,resPl,nilPl,GPl.enc]
           ·have hmb:memB a.name [b,c]=false:=by
             cases h:memB a.name [b,c] with
             | false=>rfl
             | true=>exact absurd (by unfold memB at h; simpa using h) hmem
            rw [hmb] at htw
            rw [if_neg hmem] at hpl
            rw [hpl]
            simp [c10,hsay,ht,hh,hk,har,e0,hcall,setRun,n0,n1,f0,f1,-getElem?_pos,zqA,zqB,zqC,list_set_at,zqE,zqD,hat,hall,htw,resPl,nilPl,GPl.enc]
          ·simp only [if_neg hqi] at htw hpl
           have hnt:¬ c=nilB:=hne c (by rw [hall]; simp)
           by_cases hmem:a.name=b∨a.name=c
           ·have hmb:memB a.name [b,c]=true:=by unfold memB; simpa using hmem
            rw [hmb] at htw
            rw [if_pos hmem] at hpl
            by_cases hag:r.agg=nilB
            ·have hpl2:placeP r=some ⟨b,c,a.name⟩:=by rw [hpl]; simp [aggOk,hag]
             rw [hpl2]
             simp [c10,hsay,ht,hh,hk,har,e0,hcall,setRun,n0,n1,f0,f1,-getElem?_pos,zqA,zqB,zqC,list_set_at,zqE,zqD,hat,hall,htw,eq_true hag,resPl,GPl.enc]
            ·have hpl2:placeP r=none:=by rw [hpl]; simp [aggOk,hag,hnt]
             rw [hpl2]
             simp [c10,hsay,ht,hh,hk,har,e0,hcall,setRun,n0,n1,f0,f1,-getElem?_pos,zqA,zqB,zqC,list_set_at,zqE,zqD,hat,hall,htw,hag,hnt,resPl,nilPl,GPl.enc]
           ·have hmb:memB a.name [b,c]=false:=by
             cases h:memB a.name [b,c] with
             | false=>rfl
             | true=>exact absurd (by unfold memB at h; simpa using h) hmem
            rw [hmb] at htw
            rw [if_neg hmem] at hpl
            rw [hpl]
            simp [c10,hsay,ht,hh,hk,har,e0,hcall,setRun,n0,n1,f0,f1,-getElem?_pos,zqA,zqB,zqC,list_set_at,zqE,zqD,hat,hall,htw,resPl,nilPl,GPl.enc]
       | b :: c :: d :: rest2=>
        have hq0:placeQ s a.name=none:=by unfold placeQ; rw [hall]
        rw [hq0] at hpl
        rw [hpl]
        have l1:¬ ((rest2.length:Int)+1+1+1=1):=by omega
        have l2:¬ ((rest2.length:Int)+1+1+1=2):=by omega
        simp [c10,hsay,ht,hh,hk,har,e0,hcall,setRun,n0,n1,f0,f1,-getElem?_pos,zqA,zqB,zqC,list_set_at,zqE,zqD,hat,hall,l1,l2,resPl,nilPl,GPl.enc]
        done
     ·have hrp:readP r.body=none:=by unfold readP; rw [hg]; simp only [if_neg hat]
      have hpl:placeP r=none:=by unfold placeP; rw [if_pos hc,hrp]
      rw [hpl]
      simp [c10,hsay,ht,hh,hk,har,e0,hcall,setRun,n0,n1,f0,f1,-getElem?_pos,zqA,zqB,zqC,list_set_at,zqE,zqD,hat,hO.solid,hO.cells,resPl,nilPl,GPl.enc]
   ·have hp:placeP r=none:=by unfold placeP; rw [if_neg (fun h=>hk (by have:=h.2.2; unfold headK at this; rw [har] at this; simpa using this))]
    rw [hp]
    simp [c10,hsay,ht,hh,hk,har,e0,setRun,resPl,nilPl,GPl.enc]
 ·have ht:textRule r=nilB:=hte.2 hb
  have hp:placeP r=none:=by unfold placeP; rw [if_neg (fun h=>hb h.1)]
  rw [hp]
  simp [c10,hsay,ht,setRun,resPl,nilPl,GPl.enc]
set_option maxRecDepth 100000
open Go.Mach
theorem callPlace (r:GR) (hs:r.size≤100000000) (bs:Nat) (σ:Heap):callT T 10 [r.enc] bs σ=some (resPl (placeP r),σ):=call_clean rfl rfl rfl (by simp) (place7 r hs)
theorem awake7_eval:evalFn T 300 8 [] 0 []=some (.bool true,[]):=by kernel_rfl
theorem awake7_ok:pureT T c8 []=some (.bool true):=pureT_of_call rfl rfl rfl rfl (callT_of_eval awake7_eval)
theorem callAwake7 (bs:Nat) (σ:Heap):callT T 8 [] bs σ=some (.bool true,σ):=call_clean rfl rfl rfl rfl awake7_ok
set_option maxRecDepth 100000
open Go.Mach
def lostB (r:GR):Bool:=(placeP r).isNone
def checkL (p:GP):Int × Int:=if (checkP p).1≠0 then checkP p else if 0≤idxG lostB p.rules then (70,idxG lostB p.rules) else (0,-1)
theorem lost7 (r:GR) (hs:r.size≤100000000):pureT T c37 [r.enc]=some (.bool (lostB r)):=by
 have hp:=callPlace r hs
 apply pure_enter (by simp [c37])
 unfold lostB
 simp only [GR.enc_eq] at hp
 cases h:placeP r with
 | none=>rw [h] at hp; simp [c37,hp,resPl,nilPl,GPl.enc,setRun]
 | some q=>rw [h] at hp; simp [c37,hp,resPl,GPl.enc,setRun]
theorem callLost (r:GR) (hs:r.size≤100000000) (bs:Nat) (σ:Heap):callT T 37 [r.enc] bs σ=some (.bool (lostB r),σ):=call_clean rfl rfl rfl (by simp) (lost7 r hs)
theorem check7 (p:GP) (hp:p.size≤1000000000) (hr:∀ r∈p.rules,r.size≤100000000) (hl:p.rules.length≤100000000):pureT T c16 [p.enc]=some (res2 (checkL p)):=by
 have hck:=callCheck p hp
 have hi:=fun σ=>idxRule lostB p.rules 37 [] (by omega) σ fun x hx bs=>callLost x (hr x hx) bs σ
 simp only [GP.enc_eq] at hck
 obtain ⟨⟨e,n⟩,hen⟩:∃ x,checkP p=x:=⟨_,rfl⟩
 rw [hen] at hck
 unfold checkL
 rw [hen]
 apply pure_enter (by simp [c16])
 by_cases h0:e=0
 ·by_cases h1:0≤idxG lostB p.rules
  ·simp [c16,hck,hi,h0,h1,setRun,GP.enc_eq]
  ·simp [c16,hck,hi,h0,h1,setRun,GP.enc_eq]
 ·simp [c16,hck,hi,h0,setRun,GP.enc_eq]
theorem callCheckL (p:GP) (hp:p.size≤1000000000) (hr:∀ r∈p.rules,r.size≤100000000) (hl:p.rules.length≤100000000) (bs:Nat) (σ:Heap):callT T 16 [p.enc] bs σ=some (res2 (checkL p),σ):=call_clean rfl rfl rfl (by simp) (check7 p hp hr hl)
theorem idx_at {l:List GR} {i:Nat} (hi:i<l.length) (h:∀ j,(hj:j<l.length)→j<i→lostB l[j]=false) (hp:lostB l[i]=true):idxG lostB l=(i:Int):=by
 unfold idxG; rw [idxG_drop lostB l i hi h hp]
theorem idx_none {l:List GR} (h:∀ j,(hj:j<l.length)→lostB l[j]=false):idxG lostB l=-1:=by
 unfold idxG
 have:l.findIdx? lostB=none:=by
  rw [List.findIdx?_eq_none_iff]
  intro x hx
  obtain ⟨j,hj,rfl⟩:=zqS hx
  exact h j hj
 rw [this]
set_option maxRecDepth 100000
open Go.Mach
def nub (ns:List ByteArray):List ByteArray:=ns.foldl addB []
def encN (b:List ByteArray):AV:=.isl (b.map .str) false
theorem mem_fold7:∀ (ns b:List ByteArray) (m:ByteArray),m∈ns.foldl addB b↔m∈b∨m∈ns
 | [],b,m=>by simp
 | n :: ns,b,m=>by rw [List.foldl_cons,mem_fold7 ns,mem_addB7]; simp [or_assoc]
theorem fold_len7:∀ (ns b:List ByteArray),(ns.foldl addB b).length≤b.length+ns.length
 | [],b=>by simp
 | n :: ns,b=>by
  rw [List.foldl_cons]
  have:=fold_len7 ns (addB b n)
  have h2:(addB b n).length≤b.length+1:=by unfold addB; split <;> simp
  simp only [zqU]; omega
theorem nub_len7 (ns:List ByteArray):(nub ns).length≤ns.length:=by have:=fold_len7 ns []; simpa [nub] using this
theorem mem_nub7 (ns:List ByteArray) (m:ByteArray):m∈nub ns↔m∈ns:=by simp [nub,mem_fold7]
theorem add_fold (c b:List ByteArray) (n:ByteArray):(addB c n).foldl addB b=addB (c.foldl addB b) n:=by
 by_cases h:memB n c=true
 ·have h2:memB n (c.foldl addB b)=true:=(memB_iff _ _).2 ((mem_fold7 _ _ _).2 (.inr ((memB_iff _ _).1 h)))
  have e1:addB c n=c:=by unfold addB; rw [if_pos h]
  have e2:addB (c.foldl addB b) n=c.foldl addB b:=by generalize c.foldl addB b=q at *; unfold addB; rw [if_pos h2]
  rw [e1,e2]
 ·have e1:addB c n=c++[n]:=by unfold addB; rw [if_neg h]
  rw [e1,List.foldl_append]; rfl
theorem fold_fold:∀ (l c b:List ByteArray),(l.foldl addB c).foldl addB b=l.foldl addB (c.foldl addB b)
 | [],c,b=>rfl
 | n :: l,c,b=>by rw [List.foldl_cons,List.foldl_cons,fold_fold l,add_fold]
theorem nub_fold (l b:List ByteArray):(nub l).foldl addB b=l.foldl addB b:=fold_fold l [] b
theorem vsL_app7:∀ a b:List GT,vsL (a++b)=vsL a++vsL b
 | [],b=>rfl
 | t :: a,b=>by simp only [List.cons_append,vsL,vsL_app7 a b,zqP]
theorem rHas_ok (b:List ByteArray) (s:ByteArray) (hl:b.length≤1000000000):pureT T c90 [encN b,.str s]=some (.bool (memB s b)):=by
 apply pure_enter (by simp [c90])
 simp [c90,encN]
 refine W_for T 0 18 b.length (fun i f σ=>f 0=.isl (b.map .str) false∧f 1=.str s∧f 5=.int .i64 (i:Int)∧memB s b=memB s (b.drop i)) ?_ _ _ ?_
 ·rintro i f σ hi ⟨h0,h1,h5,hm⟩
  by_cases hlt:i<b.length
  ·have hw:IntKind.i64.wrap ((i:Int)+1)=(i:Int)+1:=wr64 (by omega) (by omega)
   have e1:b[i]?=some b[i]:=zqF hlt
   rw [zqM hlt] at hm
   have hc:memB s (b[i] :: b.drop (i+1))=(decide (s=b[i]) || memB s (b.drop (i+1))):=rfl
   rw [hc] at hm
   by_cases hs:b[i]=s
   ·rw [decide_eq_true hs.symm,Bool.true_or] at hm
    simp [h0,h1,h5,hlt,e1,hs,setRun,hm]
   ·rw [decide_eq_false (fun e=>hs e.symm),Bool.false_or] at hm
    simp [h0,h1,h5,hlt,e1,hs,hw,hm]
  ·have he:i=b.length:=by omega
   subst he
   rw [List.drop_length] at hm
   have hm':memB s b=false:=hm
   simp [h0,h1,h5,setRun,hm']
 ·simp
theorem callRHas (b:List ByteArray) (s:ByteArray) (hl:b.length≤1000000000) (bs:Nat) (σ:Heap):callT T 90 [.isl (b.map .str) false,.str s] bs σ=some (.bool (sym (memB s b)),σ):=call_clean rfl rfl rfl (by simp) (rHas_ok b s hl)
theorem callRHasO (b:List ByteArray) (s:ByteArray) (hl:b.length≤1000000000) {N:Nat} {τ:Heap} {x:AV} (h:LO N 1 false τ (b.map .str) x) (bs:Nat) (σ:Heap):callT T 90 [x,.str s] bs σ=some (.bool (sym (memB s b)),σ):=by
 rw [call_pure (T:=T) (f:=90) (bs:=bs) (σ:=σ) (σ':=σ) (args':=[encN b,.str s]) rfl rfl rfl (by unfold closeT; rw [h.closeA]; rfl) (by simp [encN]) (rHas_ok b s hl),ite_self]; rfl
set_option maxHeartbeats 1000000 in
theorem rVars_ok:∀ (k:Nat) (t:GT),t.size≤k→k≤1000000000→pureT T c119 [t.enc]=some (encN (nub (vs1 t))):=by
 intro k
 induction k using Nat.strongRecOn with
 | ind k ih=>
  intro t ht hk
  by_cases hk1:t.kind=1
  ·have hv:vs1 t=[t.name]:=by
    cases t; simp only [GT.kind] at hk1; simp [vs1,hk1,GT.name]
   have hv2:nub (vs1 t)=[t.name]:=by rw [hv]; rfl
   apply pure_enter (by simp [c119])
   rw [hv2]
   simp [c119,hk1,setRun,encN,GT.enc_eq]
   exact ⟨_,rfl⟩
  ·have hv:vs1 t=vsL t.args:=by
    cases t; simp only [GT.kind] at hk1; simp [vs1,hk1,GT.args]
   have hal:=GT.args_le t
   have hC:∀ x∈t.args,∀ bs σ,callT T 119 [x.enc] bs σ=some (encN (nub (vs1 x)),σ):=fun x hx bs σ=>by
    have h1:=GT.sizes_mem hx
    exact call_clean rfl rfl rfl (by simp) (ih x.size (by omega) x (Nat.le_refl _) (by omega))
   have hlen:=GT.len_sizes t.args
   have htot:=vsL_len t.args
   apply pure_enter (by simp [c119])
   rw [hv]
   simp [c119,hk1,GT.enc_eq]
   refine W_for T 0 49 t.args.length (fun i f σ=>f 1=.ptr 0 0∧f 4=.int .i64 (i:Int)∧1≤σ.length∧σ[0]?=some (.cells [.int .i64 t.kind,.str t.name,.int .i64 t.value.kind,.int .i64 t.value.num,.str t.value.text,.isl (GV.encs t.value.items) false,.isl (GT.encs t.args) false] 0 false)∧LO 1 1 false σ ((nub (vsL (t.args.take i))).map .str) (f 3)) ?_ _ _ ?_
   ·rintro i f σ hi ⟨h1,h4,hN,z0,hO⟩
    by_cases hlt:i<t.args.length
    ·have hw:IntKind.i64.wrap ((i:Int)+1)=(i:Int)+1:=wr64 (by omega) (by omega)
     have e1:t.args[i]?=some t.args[i]:=zqF hlt
     have hc:=hC _ (zqT hlt)
     have hsplit:vsL t.args=vsL (t.args.take i)++(vs1 t.args[i]++vsL (t.args.drop (i+1))):=by
      conv=>lhs; rw [←List.take_append_drop i t.args,zqM hlt]
      rw [vsL_app7]; rfl
     have hnext:nub (vsL (t.args.take (i+1)))=(nub (vs1 t.args[i])).foldl addB (nub (vsL (t.args.take i))):=by
      rw [nub_fold,zqO hlt,vsL_app7]
      have e:vsL [t.args[i]]=vs1 t.args[i]:=by simp [vsL]
      rw [e]; unfold nub; rw [List.foldl_append]
     have hl1:=nub_len7 (vsL (t.args.take i))
     have hl2:=nub_len7 (vs1 t.args[i])
     have hl3:(vsL t.args).length=(vsL (t.args.take i)).length+((vs1 t.args[i]).length+(vsL (t.args.drop (i+1))).length):=by rw [hsplit]; simp
     rw [hnext]
     generalize nub (vsL (t.args.take i))=cur at *
     generalize nub (vs1 t.args[i])=ns at *
     simp only [encN,GT.enc_eq] at hc
     simp [h1,h4,z0,hlt,e1,hc,GT.enc_eq]
     refine W_for T 0 49 ns.length (fun j f τ=>f 1=.ptr 0 0∧f 4=.int .i64 (i:Int)∧f 5=.isl (ns.map .str) false∧f 6=.int .i64 (j:Int)∧1≤τ.length∧τ[0]?=some (.cells [.int .i64 t.kind,.str t.name,.int .i64 t.value.kind,.int .i64 t.value.num,.str t.value.text,.isl (GV.encs t.value.items) false,.isl (GT.encs t.args) false] 0 false)∧LO 1 1 false τ (((ns.take j).foldl addB cur).map .str) (f 3)) ?_ _ _ ?_
     ·rintro j f τ hj ⟨g1,g4,g5,g6,gN,y0,gO⟩
      by_cases hjl:j<ns.length
      ·have hwj:IntKind.i64.wrap ((j:Int)+1)=(j:Int)+1:=wr64 (by omega) (by omega)
       have e2:ns[j]?=some ns[j]:=zqF hjl
       have hfl:=fold_len7 (ns.take j) cur
       have htl:(ns.take j).length≤ns.length:=by simp; omega
       have hh:=callRHasO ((ns.take j).foldl addB cur) ns[j] (by omega) gO
       have hstep:(ns.take (j+1)).foldl addB cur=addB ((ns.take j).foldl addB cur) ns[j]:=by
        rw [zqO hjl,List.foldl_append]; rfl
       rw [hstep]
       generalize (ns.take j).foldl addB cur=cu at *
       by_cases hm:memB ns[j] cu=true
       ·have ha:addB cu ns[j]=cu:=by unfold addB; rw [if_pos hm]
        rw [hm] at hh
        rw [ha]
        simp [g1,g4,g5,g6,y0,hjl,e2,hh,sym,hwj,gN]
        exact gO
       ·have ha:addB cu ns[j]=cu++[ns[j]]:=by unfold addB; rw [if_neg hm]
        have hm':memB ns[j] cu=false:=by simpa using hm
        rw [hm'] at hh
        rw [ha]
        simp [g1,g4,g5,g6,y0,hjl,e2,hh,sym,-appendA_s]
        refine stW_s1 (N:=1) (bytes:=16) (v:=.str ns[j]) gO rfl rfl rfl (by omega) gN (by simp; omega) fun x1 τ1 hO1 l1 q3 q4=>?_
        simp [g1,g4,g5,g6,hwj,q3 0 (by omega),y0]
        exact ⟨by omega,hO1⟩
      ·have hej:j=ns.length:=by omega
       subst hej
       rw [List.take_length] at gO
       simp [g1,g4,g5,g6,y0,hw,gN]
       exact gO
     ·simp [h1,h4,z0,hN]
      exact hO
    ·have hei:i=t.args.length:=by omega
     subst hei
     rw [List.take_length] at hO
     have hr:closeR σ (f 3)=some (.isl ((nub (vsL t.args)).map .str) false,σ):=by
      have:=hO.closeA σ
      rcases hO with ⟨h1,h2⟩ | ⟨k,h2,_⟩ <;> rw [h2] at this ⊢ <;> exact this
     simp [h1,h4,z0,hr,endP,res1,encN]
   ·simp
    exact .inl ⟨rfl,rfl⟩
set_option maxRecDepth 100000
open Go.Mach
theorem callRVars (t:GT) (ht:t.size≤1000000000) (bs:Nat) (σ:Heap):callT T 119 [t.enc] bs σ=some (encN (nub (vs1 t)),σ):=call_clean rfl rfl rfl (by simp) (rVars_ok t.size t (Nat.le_refl _) ht)
theorem all_nub (b l:List ByteArray):(nub l).all (fun m=>memB m b)=l.all fun m=>memB m b:=by
 have:(nub l).all (fun m=>memB m b)=true↔(l.all fun m=>memB m b)=true:=by
  simp only [zqQ,mem_nub7]
 cases h1:(nub l).all (fun m=>memB m b) <;> cases h2:(l.all fun m=>memB m b) <;> simp_all
theorem rFree_ok (b:List ByteArray) (l:List GT) (hb:b.length≤1000000000) (hl:GT.sizes l≤1000000000):pureT T c89 [.isl (GT.encs l) false,encN b]=some (.bool (!(allB b l))):=by
 have hlen:=GT.len_sizes l
 apply pure_enter (by simp [c89])
 simp [c89,encN]
 refine W_for T 0 34 l.length (fun i f σ=>f 0=.isl (GT.encs l) false∧f 1=.isl (b.map .str) false∧f 5=.int .i64 (i:Int)∧allB b l=allB b (l.drop i)) ?_ _ _ ?_
 ·rintro i f σ hi ⟨h0,h1,h5,hA⟩
  by_cases hlt:i<l.length
  ·have hw:IntKind.i64.wrap ((i:Int)+1)=(i:Int)+1:=wr64 (by omega) (by omega)
   have e1:l[i]?=some l[i]:=zqF hlt
   have hm:=GT.sizes_mem (zqT hlt)
   have hc:=callRVars l[i] (by omega)
   have hl2:=nub_len7 (vs1 l[i])
   have hl3:=vs1_len l[i]
   have hcons:allB b (l.drop i)=((nub (vs1 l[i])).all (fun m=>memB m b) && allB b (l.drop (i+1))):=by
    rw [zqM hlt,all_nub]
    unfold allB
    simp only [vsL,List.all_append]
   rw [hcons] at hA
   generalize nub (vs1 l[i])=ns at *
   simp only [encN,GT.enc_eq] at hc
   simp [h0,h1,h5,hlt,e1,hc,GT.enc_eq]
   refine W_for T 0 34 ns.length (fun j f τ=>f 0=.isl (GT.encs l) false∧f 1=.isl (b.map .str) false∧f 5=.int .i64 (i:Int)∧f 6=.isl (ns.map .str) false∧f 7=.int .i64 (j:Int)∧ns.all (fun m=>memB m b)=(ns.drop j).all (fun m=>memB m b)) ?_ _ _ ?_
   ·rintro j f τ hj ⟨g0,g1,g5,g6,g7,gA⟩
    by_cases hjl:j<ns.length
    ·have hwj:IntKind.i64.wrap ((j:Int)+1)=(j:Int)+1:=wr64 (by omega) (by omega)
     have e2:ns[j]?=some ns[j]:=zqF hjl
     have hh:=callRHas b ns[j] hb
     rw [zqM hjl,List.all_cons] at gA
     cases hm:memB ns[j] b with
     | true=>
      rw [hm] at hh gA
      rw [Bool.true_and] at gA
      simp [g0,g1,g5,g6,g7,hjl,e2,hh,sym,hwj,gA]
     | false=>
      rw [hm] at hh gA
      rw [Bool.false_and] at gA
      rw [gA,Bool.false_and] at hA
      simp [g0,g1,g5,g6,g7,hjl,e2,hh,sym,setRun,hA]
    ·have hej:j=ns.length:=by omega
     subst hej
     rw [List.drop_length,List.all_nil] at gA
     rw [gA,Bool.true_and] at hA
     simp [g0,g1,g5,g6,g7,hw,hA]
   ·simp [h0,h1,h5]
  ·have hei:i=l.length:=by omega
   subst hei
   rw [List.drop_length] at hA
   have hA':allB b l=true:=hA
   simp [h0,h1,h5,setRun,hA']
 ·simp
theorem callRFree (b:List ByteArray) (l:List GT) (hb:b.length≤1000000000) (hl:GT.sizes l≤1000000000) {N:Nat} {τ:Heap} {x:AV} (h:LO N 1 false τ (b.map .str) x) (bs:Nat) (σ:Heap):callT T 89 [.isl (GT.encs l) false,x] bs σ=some (.bool (sym (!(allB b l))),σ):=by
 rw [call_pure (T:=T) (f:=89) (bs:=bs) (σ:=σ) (σ':=σ) (args':=[.isl (GT.encs l) false,encN b]) rfl rfl rfl (by simp [closeT,h.closeA,encN]) (by simp [encN]) (rFree_ok b l hb hl),ite_self]; rfl
theorem rArity_ok (p:GP) (n:ByteArray) (hl:p.decls.length≤1000000000):pureT T c58 [p.enc,.str n]=some (.int .i64 (arityP p n)):=by
 apply pure_enter (by simp [c58])
 simp [c58,GP.enc_eq]
 refine W_for T 0 27 p.decls.length (fun i f σ=>f 1=.str n∧f 2=.ptr 0 0∧f 5=.int .i64 (i:Int)∧σ[0]?=some (.cells [.isl (p.decls.map GD.enc) false,.isl (p.facts.map GU.enc) false,.isl (p.rules.map GR.enc) false] 0 false)∧p.decls.find? (fun d=>decide (d.name=n))=(p.decls.drop i).find? (fun d=>decide (d.name=n))) ?_ _ _ ?_
 ·rintro i f σ hi ⟨h1,h2,h5,z0,hA⟩
  by_cases hlt:i<p.decls.length
  ·have hw:IntKind.i64.wrap ((i:Int)+1)=(i:Int)+1:=wr64 (by omega) (by omega)
   have e1:p.decls[i]?=some p.decls[i]:=zqF hlt
   rw [zqM hlt,List.find?_cons] at hA
   by_cases hs:p.decls[i].name=n
   ·rw [decide_eq_true hs] at hA
    have hP:arityP p n=p.decls[i].arity:=by unfold arityP; rw [hA]
    simp [h1,h2,h5,z0,hlt,e1,hs,setRun,hP]
   ·rw [decide_eq_false hs] at hA
    simp [h1,h2,h5,z0,hlt,e1,hs,hw,hA]
  ·have he:i=p.decls.length:=by omega
   subst he
   rw [List.drop_length] at hA
   have hP:arityP p n=0:=by unfold arityP; rw [hA]; rfl
   simp [h1,h2,h5,z0,setRun,hP]
 ·simp
theorem callRArity (p:GP) (n:ByteArray) (hl:p.decls.length≤1000000000) (bs:Nat) (σ:Heap):callT T 58 [p.enc,.str n] bs σ=some (.int .i64 (arityP p n),σ):=call_clean rfl rfl rfl (by simp) (rArity_ok p n hl)
set_option maxRecDepth 100000
open Go.Mach
def SameM (b c:List ByteArray):Prop:=∀ m,memB m b=memB m c
theorem SameM.all {b c:List ByteArray} (h:SameM b c) (l:List GT):allB b l=allB c l:=by
 unfold allB; congr 1; funext m; exact h m
theorem memB_app (m:ByteArray) (a b:List ByteArray):memB m (a++b)=(memB m a || memB m b):=by unfold memB; rw [List.any_append]
theorem memB_add (m:ByteArray) (b:List ByteArray) (n:ByteArray):memB m (addB b n)=(memB m b || decide (m=n)):=by
 have:memB m (addB b n)=true↔(memB m b || decide (m=n))=true:=by
  rw [memB_iff,mem_addB7,Bool.or_eq_true,memB_iff,decide_eq_true_eq]
 cases h1:memB m (addB b n) <;> cases h2:(memB m b || decide (m=n)) <;> simp_all
theorem SameM.add {b c:List ByteArray} (h:SameM b c) (n:ByteArray):SameM (addB b n) (c++[n]):=fun m=>by
 rw [memB_add,memB_app,h m]; unfold memB; simp
theorem SameM.fold {b c:List ByteArray} (h:SameM b c):∀ ns:List ByteArray,SameM (ns.foldl addB b) (c++ns):=fun ns=>by
 induction ns generalizing b c with
 | nil=>simpa using h
 | cons n ns ih=>
  rw [List.foldl_cons]
  have:=ih (h.add n)
  rwa [zqP] at this
theorem tops_snoc (l:List GT) (t:GT):tops (l++[t])=if t.kind=1 then tops l++[t.name] else tops l:=by
 unfold tops
 rw [List.filter_append,List.map_append]
 by_cases h:t.kind=1 <;> simp [h]
theorem tops_len (l:List GT):(tops l).length≤l.length:=by
 unfold tops; rw [List.length_map]; exact List.length_filter_le _ _
set_option maxHeartbeats 4000000 in
theorem rRule_ok (p:GP) (r:GR) (hp:p.decls.length≤1000000000) (hr:r.size≤1000000000) (hk:∀ l∈r.body,1≤l.kind) (ha:∀ l∈r.body,l.kind=1→l.args.length≤8) (hbl:r.body.length≤8):pureT T c59 [p.enc,r.enc]=some (.int .i64 (ruleP p r)):=by
 have hA:=fun n=>callRArity p n hp
 simp only [GP.enc_eq] at hA
 have hra:=GR.args_le r
 apply pure_enter (by simp [c59])
 by_cases hh:arityP p r.head=(r.args.length:Int)
 ·simp [c59,GP.enc_eq,GR.enc_eq,hA,hh,setRun]
  refine W_for T 0 108 r.body.length (fun i f σ=>f 2=.ptr 0 0∧f 3=.ptr 1 0∧f 5=.int .i64 (i:Int)∧2≤σ.length∧σ[0]?=some (.cells [.isl (p.decls.map GD.enc) false,.isl (p.facts.map GU.enc) false,.isl (p.rules.map GR.enc) false] 0 false)∧σ[1]?=some (.cells [.str r.label,.str r.head,.isl (GT.encs r.args) false,.str r.agg,.int .i64 r.pos,.isl (r.body.map GL.enc) false] 0 false)∧r.body.any (badL p)=(r.body.drop i).any (badL p)) ?_ _ _ ?_
  ·rintro i f σ hi ⟨h2,h3,h5,hN,z0,z1,hB⟩
   have i0:0<σ.length:=by omega
   have i1:1<σ.length:=by omega
   by_cases hlt:i<r.body.length
   ·have hw:IntKind.i64.wrap ((i:Int)+1)=(i:Int)+1:=wr64 (by omega) (by omega)
    have e1:r.body[i]?=some r.body[i]:=zqF hlt
    have hk1:=hk _ (zqT hlt)
    rw [zqM hlt,List.any_cons] at hB
    by_cases hkd:r.body[i].kind≤2
    ·by_cases hbad:arityP p r.body[i].name=(r.body[i].args.length:Int)
     ·have:badL p r.body[i]=false:=by unfold badL; simp [hbad]
      rw [this,Bool.false_or] at hB
      simp [h2,h3,h5,z0,z1,i0,i1,hlt,e1,hA,hkd,hbad,hw,setRun,GL.enc_eq,hB,-getElem?_pos,zqA,zqB,zqE,zqD]
      omega
     ·have:badL p r.body[i]=true:=by
       unfold badL
       have:r.body[i].kind=1∨r.body[i].kind=2:=by omega
       simp [hbad,this]
      rw [this,Bool.true_or] at hB
      have hP:ruleP p r=60:=by unfold ruleP relsB; rw [hB]; simp
      simp [h2,h3,h5,z0,z1,i0,i1,hlt,e1,hA,hkd,hbad,hw,setRun,GL.enc_eq,hP,-getElem?_pos,zqA,zqB,zqE,zqD]
    ·have:badL p r.body[i]=false:=by
      unfold badL
      have h1:¬ r.body[i].kind=1:=by omega
      have h2:¬ r.body[i].kind=2:=by omega
      simp [h1,h2]
     rw [this,Bool.false_or] at hB
     simp [h2,h3,h5,z0,z1,i0,i1,hlt,e1,hA,hkd,hw,setRun,GL.enc_eq,hB,-getElem?_pos,zqA,zqB,zqE,zqD]
     omega
   ·have hei:i=r.body.length:=by omega
    subst hei
    rw [List.drop_length,List.any_nil] at hB
    have hrel:relsB p r=true:=by unfold relsB; rw [hB]; simp [hh]
    have hP:ruleP p r=if (goB [] r.body).1≠0 then (goB [] r.body).1 else if allB (goB [] r.body).2 r.args=false then 61 else 0:=by unfold ruleP; rw [hrel]; simp
    simp [h2,h3,h5,z0,z1]
    refine W_for T 0 108 r.body.length (fun i f τ=>f 2=.ptr 0 0∧f 3=.ptr 1 0∧f 8=.int .i64 (i:Int)∧2≤τ.length∧τ[1]?=some (AObj.cells [.str r.label,.str r.head,.isl (GT.encs r.args) false,.str r.agg,.int .i64 r.pos,.isl (r.body.map GL.enc) false] 0 false)∧∃ b c:List ByteArray,SameM b c∧goB [] r.body=goB b (r.body.drop i)∧c.length≤9 * i∧LO 2 1 false τ (c.map .str) (f 7)) ?_ _ _ ?_
    ·rintro i f τ hi ⟨g2,g3,g8,gN,y1,b,c,hS,hg,hcl,hO⟩
     have j1:1<τ.length:=by omega
     by_cases hlt:i<r.body.length
     ·have hw:IntKind.i64.wrap ((i:Int)+1)=(i:Int)+1:=wr64 (by omega) (by omega)
      have e1:r.body[i]?=some r.body[i]:=zqF hlt
      have hbs:=GR.body_mem r (zqT hlt)
      have hba:=GL.args_le r.body[i]
      rw [zqM hlt] at hg
      have hgo:goB b (r.body[i] :: r.body.drop (i+1))=if (takesP b r.body[i]).1≠0 then takesP b r.body[i] else goB (takesP b r.body[i]).2 (r.body.drop (i+1)):=rfl
      rw [hgo] at hg
      by_cases hk1:r.body[i].kind=1
      ·have hal:=ha _ (zqT hlt) hk1
       have htk:takesB b r.body[i]=(tops r.body[i].args).foldl addB b:=by unfold takesB; rw [if_pos hk1]
       have hS':=hS.fold (tops r.body[i].args)
       have htl:=tops_len r.body[i].args
       simp [g2,g3,g8,y1,j1,hlt,e1,hk1,setRun,GL.enc_eq,-appendA_s,-getElem?_pos,zqA,zqB,zqC,list_set_at,zqE,zqD]
       obtain ⟨m,hm⟩:∃ m,τ.length=m:=⟨_,rfl⟩
       rw [hm]
       refine W_for T 0 108 r.body[i].args.length (fun j f υ=>f 2=.ptr 0 0∧f 3=.ptr 1 0∧f 8=.int .i64 (i:Int)∧f 9=.ptr m 0∧f 10=.int .i64 (j:Int)∧m+1≤υ.length∧υ[1]?=some (AObj.cells [.str r.label,.str r.head,.isl (GT.encs r.args) false,.str r.agg,.int .i64 r.pos,.isl (r.body.map GL.enc) false] 0 false)∧υ[m]?=some (AObj.cells [.int .i64 1,.str r.body[i].name,.isl (GT.encs r.body[i].args) false] 0 false)∧LO 2 1 false υ ((c++tops (r.body[i].args.take j)).map .str) (f 7)) ?_ _ _ ?_
       ·rintro j f υ hj ⟨k2,k3,k8,k9,k10,kN,x1,xm,kO⟩
        have i1:1<υ.length:=by omega
        have im:m<υ.length:=by omega
        by_cases hjl:j<r.body[i].args.length
        ·have hwj:IntKind.i64.wrap ((j:Int)+1)=(j:Int)+1:=wr64 (by omega) (by omega)
         have e2:r.body[i].args[j]?=some r.body[i].args[j]:=zqF hjl
         have htp:=tops_len (r.body[i].args.take j)
         have htt:(r.body[i].args.take j).length≤8:=by simp; omega
         rw [zqO hjl,tops_snoc]
         by_cases hv:r.body[i].args[j].kind=1
         ·rw [if_pos hv]
          simp [k2,k3,k8,k9,k10,x1,xm,i1,im,hjl,e2,hv,GT.enc_eq,-appendA_s,-getElem?_pos,zqA,zqB,zqC,list_set_at,zqE,zqD]
          refine stW_s1 (N:=2) (bytes:=16) (v:=.str r.body[i].args[j].name) kO rfl rfl rfl (by omega) (by omega) (by simp; omega) fun z υ1 hO1 l1 q3 q4=>?_
          have x1':=q4 1 _ x1 (by simp)
          have xm':=q4 m _ xm (by simp)
          simp [k2,k3,k8,k9,k10,hwj,x1',xm']
          exact ⟨by omega,by simpa using hO1⟩
         ·rw [if_neg hv]
          simp [k2,k3,k8,k9,k10,x1,xm,i1,im,hjl,e2,hv,hwj,GT.enc_eq,-appendA_s,-getElem?_pos,zqA,zqB,zqC,list_set_at,zqE,zqD]
          exact ⟨by omega,by simpa using kO⟩
        ·have hej:j=r.body[i].args.length:=by omega
         subst hej
         rw [List.take_length] at kO
         have hfr:=callRFree (c++tops r.body[i].args) r.body[i].args (by simp; omega) (by omega) kO
         rw [←hS'.all] at hfr
         have hk4:¬ r.body[i].kind=4:=by omega
         cases hal2:allB ((tops r.body[i].args).foldl addB b) r.body[i].args with
         | false=>
          have ht:takesP b r.body[i]=(61,(tops r.body[i].args).foldl addB b):=by unfold takesP; rw [htk,if_pos hal2]
          rw [ht] at hg
          have hP':ruleP p r=61:=by rw [hP,hg]; simp
          rw [hal2] at hfr
          simp [k2,k3,k8,k9,k10,x1,xm,i1,im,hfr,sym,setRun,hP',-appendA_s,-getElem?_pos,zqA,zqB,zqC,list_set_at,zqE,zqD]
         | true=>
          have ht:takesP b r.body[i]=(0,(tops r.body[i].args).foldl addB b):=by unfold takesP; rw [htk,hal2]; simp [hk4]
          rw [ht] at hg
          rw [hal2] at hfr
          simp [k2,k3,k8,k9,k10,x1,xm,i1,im,hfr,sym,hw,setRun,-appendA_s,-getElem?_pos,zqA,zqB,zqC,list_set_at,zqE,zqD]
          exact ⟨by omega,_,_,hS',by simpa using hg,by simp; omega,by simpa using kO⟩
       ·simp [g2,g3,g8,hm,y1,j1,hk1,-appendA_s,-getElem?_pos,zqA,zqB,zqC,list_set_at,zqE,zqD]
        exact ⟨by rw [zqA j1]; exact y1,by simpa [tops] using hO.keep (τ:=τ++[AObj.cells [.int .i64 1,.str r.body[i].name,.isl (GT.encs r.body[i].args) false] 0 false]) fun i o _ hi=>by rw [zqA (zqI.1 hi).1]; exact hi⟩
      ·have htk:takesB b r.body[i]=b:=by unfold takesB; rw [if_neg hk1]
       have hfr:=callRFree c r.body[i].args (by omega) (by omega) hO
       rw [←hS.all] at hfr
       have hOk:=hO.keep (τ:=τ++[AObj.cells [.int .i64 r.body[i].kind,.str r.body[i].name,.isl (GT.encs r.body[i].args) false] 0 false]) fun i o _ hi=>by rw [zqA (zqI.1 hi).1]; exact hi
       have jm:∀ o:AObj,(τ++[o])[1]?=some (AObj.cells [.str r.label,.str r.head,.isl (GT.encs r.args) false,.str r.agg,.int .i64 r.pos,.isl (r.body.map GL.enc) false] 0 false):=fun o=>by rw [zqA j1]; exact y1
       cases hal2:allB b r.body[i].args with
       | false=>
        have ht:takesP b r.body[i]=(61,b):=by unfold takesP; rw [htk,if_pos hal2]
        rw [ht] at hg
        have hP':ruleP p r=61:=by rw [hP,hg]; simp
        rw [hal2] at hfr
        simp [g2,g3,g8,y1,j1,hlt,e1,hk1,hfr,sym,setRun,GL.enc_eq,hP',-appendA_s,-getElem?_pos,zqA,zqB,zqC,list_set_at,zqE,zqD]
       | true=>
        rw [hal2] at hfr
        by_cases hk4:r.body[i].kind=4
        ·have hhs:=callRHasO c r.body[i].name (by omega) hO
         cases hme:memB r.body[i].name c with
         | true=>
          have ht:takesP b r.body[i]=(62,b):=by unfold takesP; rw [htk,hal2]; simp [hk4,hS _,hme]
          rw [ht] at hg
          have hP':ruleP p r=62:=by rw [hP,hg]; simp
          rw [hme] at hhs
          simp [g2,g3,g8,y1,j1,hlt,e1,hk4,hfr,hhs,sym,setRun,GL.enc_eq,hP',-appendA_s,-getElem?_pos,zqA,zqB,zqC,list_set_at,zqE,zqD]
         | false=>
          have ht:takesP b r.body[i]=(0,addB b r.body[i].name):=by unfold takesP; rw [htk,hal2]; simp [hk4,hS _,hme]
          rw [ht] at hg
          rw [hme] at hhs
          simp [g2,g3,g8,y1,j1,hlt,e1,hk4,hfr,hhs,sym,setRun,GL.enc_eq,-appendA_s,-getElem?_pos,zqA,zqB,zqC,list_set_at,zqE,zqD]
          have q1:τ++[AObj.cells [.int .i64 4,.str r.body[i].name,.isl (GT.encs r.body[i].args) false] 0 false,AObj.cells [.str r.body[i].name] 0 false]=(τ++[AObj.cells [.int .i64 4,.str r.body[i].name,.isl (GT.encs r.body[i].args) false] 0 false])++[AObj.cells [.str r.body[i].name] 0 false]:=by simp
          have q2:τ.length+1=(τ++[AObj.cells [.int .i64 4,.str r.body[i].name,.isl (GT.encs r.body[i].args) false] 0 false]).length:=by simp
          rw [hk4] at hOk
          rw [q1,q2]
          refine stW_s1 (N:=2) (bytes:=16) (v:=.str r.body[i].name) hOk rfl rfl rfl (by omega) (by simp; omega) (by simp; omega) fun z υ1 hO1 l1 q3 q4=>?_
          have x1':=q4 1 _ (jm _) (by simp)
          simp at l1
          simp [g2,g3,g8,hw,x1']
          exact ⟨by omega,_,_,hS.add _,by simpa using hg,by simp; omega,by simpa using hO1⟩
        ·have ht:takesP b r.body[i]=(0,b):=by unfold takesP; rw [htk,hal2]; simp [hk4]
         rw [ht] at hg
         simp [g2,g3,g8,y1,j1,hlt,e1,hk1,hk4,hfr,sym,hw,setRun,GL.enc_eq,-appendA_s,-getElem?_pos,zqA,zqB,zqC,list_set_at,zqE,zqD]
         exact ⟨by omega,_,_,hS,by simpa using hg,by omega,hOk⟩
     ·have hei:i=r.body.length:=by omega
      subst hei
      rw [List.drop_length] at hg
      have hg':goB [] r.body=(0,b):=hg
      have hfr:=callRFree c r.args (by omega) (by omega) hO
      rw [←hS.all] at hfr
      cases hal2:allB b r.args with
      | false=>
       have hP':ruleP p r=61:=by rw [hP,hg']; simp [hal2]
       rw [hal2] at hfr
       simp [g2,g3,g8,y1,j1,hfr,sym,setRun,hP',-appendA_s,-getElem?_pos,zqA,zqB,zqC,list_set_at,zqE,zqD]
      | true=>
       have hP':ruleP p r=0:=by rw [hP,hg']; simp [hal2]
       rw [hal2] at hfr
       simp [g2,g3,g8,y1,j1,hfr,sym,setRun,hP',-appendA_s,-getElem?_pos,zqA,zqB,zqC,list_set_at,zqE,zqD]
    ·simp [h2,h3,hN,z1]
     exact ⟨[],[],fun _=>rfl,rfl,by simp,.inl ⟨rfl,rfl⟩⟩
  ·simp
 ·have hP:ruleP p r=60:=by unfold ruleP relsB; simp [hh]
  simp [c59,GP.enc_eq,GR.enc_eq,hA,hh,setRun,hP]
set_option maxRecDepth 100000
open Go.Mach
theorem rule_facts {r:GR} (h:ruleB r=true):(∀ l∈r.body,1≤l.kind)∧(∀ l∈r.body,l.kind=1→l.args.length≤8)∧r.body.length≤8:=by
 unfold ruleB at h
 simp only [zqL,decide_eq_true_eq] at h
 obtain ⟨⟨⟨⟨⟨_,_⟩,_⟩,b4⟩,b5⟩,_⟩:=h
 refine ⟨fun l hl=>?_,fun l hl hk=>?_,b4.2⟩
 ·have:=zqQ.1 b5 l hl
  unfold litB at this
  split at this
  ·omega
  split at this
  ·omega
  split at this
  ·omega
  ·cases this
 ·have:=zqQ.1 b5 l hl
  unfold litB argsB at this
  rw [if_pos (.inl hk)] at this
  simp only [zqL,decide_eq_true_eq] at this
  exact this.2.1.1.2
theorem callRRule (p:GP) (r:GR) (hp:p.decls.length≤1000000000) (hr:r.size≤1000000000) (hb:ruleB r=true) (bs:Nat) (σ:Heap):callT T 59 [p.enc,r.enc] bs σ=some (.int .i64 (ruleP p r),σ):=by
 obtain ⟨h1,h2,h3⟩:=rule_facts hb
 exact call_clean rfl rfl rfl (by simp [GP.enc_eq]) (rRule_ok p r hp hr h1 h2 h3)
theorem dupD_iff:∀ (l:List GD) (b:List ByteArray),dupD b l=true↔∃ i,∃ h:i<l.length,l[i].name∈b∨∃ k,∃ h2:k<i,l[k].name=l[i].name
 | [],b=>by simp [dupD]
 | d :: l,b=>by
  simp only [dupD,Bool.or_eq_true,memB_iff,dupD_iff l]
  constructor
  ·rintro (h | ⟨i,hi,h⟩)
   ·exact ⟨0,by simp,.inl h⟩
   ·refine ⟨i+1,by simpa using hi,?_⟩
    rcases h with h | ⟨k,hk,h⟩
    ·rcases (mem_addB7 _ _ _).1 h with h | h
     ·exact .inl h
     ·exact .inr ⟨0,by omega,h.symm⟩
    ·exact .inr ⟨k+1,by omega,h⟩
  ·rintro ⟨i,hi,h⟩
   cases i with
   | zero=>
    rcases h with h | ⟨k,hk,_⟩
    ·exact .inl h
    ·omega
   | succ i=>
    right
    refine ⟨i,by simpa using hi,?_⟩
    rcases h with h | ⟨k,hk,h⟩
    ·exact .inl ((mem_addB7 _ _ _).2 (.inl h))
    ·cases k with
     | zero=>exact .inl ((mem_addB7 _ _ _).2 (.inr h.symm))
     | succ k=>exact .inr ⟨k,by omega,h⟩
set_option maxRecDepth 100000
open Go.Mach
set_option maxHeartbeats 4000000 in
theorem rCheck6_ok (p:GP) (hp:p.size≤1000000000):pureT T c38 [p.enc]=some (res2 (checkP p)):=by
 have hR:=callR4Right p (by omega)
 have hl:=GP.rules_len p
 have hdl:=GP.decls_len p
 have hA:=fun n=>callRArity p n (by omega)
 simp only [GP.enc_eq] at hR hA
 apply pure_enter (by simp [c38])
 by_cases hr:progB p=true
 ·rw [hr] at hR
  have hpb:=hr
  unfold progB at hpb
  simp only [zqL,decide_eq_true_eq] at hpb
  obtain ⟨⟨⟨⟨l1,l2,l3⟩,b2⟩,b3⟩,b4⟩:=hpb
  have hRu:∀ x∈p.rules,∀ bs σ,callT T 59 [p.enc,x.enc] bs σ=some (.int .i64 (ruleP p x),σ):=fun x hx bs σ=>callRRule p x (by omega) (by have:=GP.rules_mem p hx; omega) (zqQ.1 b3 x hx) bs σ
  simp [c38,GP.enc_eq,hR,sym]
  refine W_for T 0 80 p.decls.length (fun i f τ=>f 1=.ptr 0 0∧f 5=.int .i64 (i:Int)∧τ=[pCells p]∧∀ a,(ha:a<p.decls.length)→a<i→∀ k,(hk:k<a)→p.decls[k].name≠p.decls[a].name) ?_ _ _ ?_
  ·rintro i f τ hi ⟨h1,h5,rfl,hD⟩
   by_cases hlt:i<p.decls.length
   ·have hw:IntKind.i64.wrap ((i:Int)+1)=(i:Int)+1:=wr64 (by omega) (by omega)
    have e1:p.decls[i]?=some p.decls[i]:=zqF hlt
    simp [h1,h5,hlt,pCells]
    refine W_for T 0 80 i (fun k f τ=>f 1=.ptr 0 0∧f 5=.int .i64 (i:Int)∧f 6=.int .i64 (k:Int)∧τ=[pCells p]∧∀ k',(hk:k'<k)→(h2:k'<p.decls.length)→p.decls[k'].name≠p.decls[i].name) ?_ _ _ ?_
    ·rintro k f τ hk ⟨g1,g5,g6,rfl,hE⟩
     by_cases hkl:k<i
     ·have hwk:IntKind.i64.wrap ((k:Int)+1)=(k:Int)+1:=wr64 (by omega) (by omega)
      have hkl2:k<p.decls.length:=by omega
      have e2:p.decls[k]?=some p.decls[k]:=zqF hkl2
      by_cases hn:p.decls[k].name=p.decls[i].name
      ·have hdup:dupD [] p.decls=true:=(dupD_iff _ _).2 ⟨i,hlt,.inr ⟨k,hkl,hn⟩⟩
       simp [g1,g5,g6,hkl,hkl2,hlt,e1,e2,hn,setRun,pCells,checkP,hr,hdup]
      ·simp [g1,g5,g6,hkl,hkl2,hlt,e1,e2,hn,hwk,pCells]
       intro k' hk' h2
       by_cases e:k'=k
       ·subst e; exact hn
       ·exact hE k' (by omega) h2
     ·have he:k=i:=by omega
      subst he
      simp [g1,g5,g6,hw,pCells]
      intro a ha hai k' hk'
      by_cases e:a=k
      ·subst e; exact hE k' hk' (by omega)
      ·exact hD a ha (by omega) k' hk'
    ·simp [h1,h5,pCells]
   ·have he:i=p.decls.length:=by omega
    have hdup:dupD [] p.decls=false:=by
     cases hd:dupD [] p.decls with
     | false=>rfl
     | true=>
      obtain ⟨a,ha,h⟩:=(dupD_iff _ _).1 hd
      rcases h with h | ⟨k,hk,h⟩
      ·cases h
      ·exact absurd h (hD a ha (by omega) k hk)
    simp [h1,h5,he,pCells]
    refine W_for T 0 80 p.facts.length (fun i f τ=>f 1=.ptr 0 0∧f 7=.int .i64 (i:Int)∧τ=[pCells p]∧p.facts.any (badF p)=(p.facts.drop i).any (badF p)) ?_ _ _ ?_
    ·rintro i f τ hi ⟨g1,g7,rfl,hF⟩
     by_cases hlt:i<p.facts.length
     ·have hw:IntKind.i64.wrap ((i:Int)+1)=(i:Int)+1:=wr64 (by omega) (by omega)
      have e1:p.facts[i]?=some p.facts[i]:=zqF hlt
      rw [zqM hlt,List.any_cons] at hF
      by_cases hb:arityP p p.facts[i].name=(p.facts[i].args.length:Int)
      ·have:badF p p.facts[i]=false:=by unfold badF; simp [hb]
       rw [this,Bool.false_or] at hF
       simp [g1,g7,hlt,e1,hA,hb,hw,pCells,GU.enc_eq,hF]
      ·have:badF p p.facts[i]=true:=by unfold badF; simp [hb]
       rw [this,Bool.true_or] at hF
       simp [g1,g7,hlt,e1,hA,hb,setRun,pCells,GU.enc_eq,checkP,hr,hdup,hF]
     ·have he:i=p.facts.length:=by omega
      subst he
      rw [List.drop_length,List.any_nil] at hF
      have hck:checkP p=firstP p p.rules 0:=by unfold checkP; simp [hr,hdup,hF]
      rw [hck]
      simp [g1,g7,pCells]
      refine W_for T 0 80 p.rules.length (fun i f τ=>f 1=.ptr 0 0∧f 8=.int .i64 (i:Int)∧τ=[pCells p]∧firstP p p.rules 0=firstP p (p.rules.drop i) i) ?_ _ _ ?_
      ·rintro i f τ hi ⟨k1,k8,rfl,hP⟩
       by_cases hlt:i<p.rules.length
       ·have hw:IntKind.i64.wrap ((i:Int)+1)=(i:Int)+1:=wr64 (by omega) (by omega)
        have e1:p.rules[i]?=some p.rules[i]:=zqF hlt
        have hc:=hRu _ (zqT hlt)
        simp only [GP.enc_eq,GR.enc_eq] at hc
        rw [zqM hlt] at hP
        simp only [firstP] at hP
        by_cases h0:ruleP p p.rules[i]=0
        ·rw [if_neg (by simp [h0])] at hP
         simp [k1,k8,hlt,e1,hc,h0,hw,pCells,GR.enc_eq,hP]
        ·rw [if_pos h0] at hP
         simp [k1,k8,hlt,e1,hc,h0,setRun,pCells,GR.enc_eq,hP]
       ·have he:i=p.rules.length:=by omega
        subst he
        rw [List.drop_length] at hP
        have hP':firstP p p.rules 0=(0,-1):=hP
        simp [k1,k8,setRun,pCells,hP']
      ·simp [g1,pCells]
    ·simp [h1,pCells]
  ·simp [pCells]
 ·have hr':progB p=false:=by simpa using hr
  rw [hr'] at hR
  simp [c38,GP.enc_eq,hR,sym,setRun,checkP,hr']
set_option maxRecDepth 100000
open Go.Mach
theorem rLink_ok (body:List GL) (a b:ByteArray) (hb:body.length≤100000000):pureT T c41 [.isl (body.map GL.enc) false,.str a,.str b]=some (.bool (linkedB body a b)):=by
 apply pure_enter (by simp [c41])
 simp [c41]
 refine W_for T 0 59 body.length (fun i f σ=>f 0=.isl (body.map GL.enc) false∧f 1=.str a∧f 2=.str b∧f 7=.int .i64 (i:Int)∧linkedB body a b=linkedB (body.drop i) a b) ?_ _ _ ?_
 ·rintro i f σ hi ⟨h0,h1,h2,h7,hg⟩
  by_cases hlt:i<body.length
  ·have hw:IntKind.i64.wrap ((i:Int)+1)=(i:Int)+1:=wr64 (by omega) (by omega)
   have e1:body[i]?=some body[i]:=zqF hlt
   rw [zqM hlt] at hg
   have hc:linkedB (body[i] :: body.drop (i+1)) a b=(link1 a b body[i] || linkedB (body.drop (i+1)) a b):=rfl
   rw [hc] at hg
   by_cases hl:link1 a b body[i]=true
   ·rw [hl,Bool.true_or] at hg
    have hl':=hl
    unfold link1 at hl
    simp only [zqL,decide_eq_true_eq] at hl
    obtain ⟨⟨⟨⟨⟨k1,k2⟩,k3⟩,k4⟩,k5⟩,k6⟩:=hl
    match hargs:body[i].args with
    | []=>rw [hargs] at k3; simp at k3
    | [x]=>rw [hargs] at k3; simp at k3
    | x :: y :: rest=>
     rw [hargs] at k4 k5 k6
     simp at k4 k5 k6
     have e3:GT.encs (x :: y :: rest)=x.enc :: y.enc :: GT.encs rest:=rfl
     have hl2:(1:Int)<(rest.length:Int)+1+1:=by omega
     simp [h0,h1,h2,h7,hlt,e1,setRun,k1,k2,hargs,e3,hl2,k4,k5,k6,hg]
   ·have hl':link1 a b body[i]=false:=by simpa using hl
    rw [hl',Bool.false_or] at hg
    have fin:∀ P:Prop,P→True:=fun _ _=>trivial
    by_cases k1:body[i].kind=1
    ·by_cases k2:body[i].name=sLink
     ·match hargs:body[i].args with
      | []=>simp [h0,h1,h2,h7,hlt,e1,setRun,k1,k2,hargs,hw,hg]
      | [x]=>simp [h0,h1,h2,h7,hlt,e1,setRun,k1,k2,hargs,hw,hg]
      | x :: y :: rest=>
       have e3:GT.encs (x :: y :: rest)=x.enc :: y.enc :: GT.encs rest:=rfl
       have hl2:(1:Int)<(rest.length:Int)+1+1:=by omega
       by_cases k5:y.kind=1
       ·by_cases k4:x.name=a
        ·by_cases k6:y.name=b
         ·exfalso
          apply hl
          unfold link1
          rw [hargs]
          simp [k1,k2,k4,k5,k6]
         ·simp [h0,h1,h2,h7,hlt,e1,setRun,k1,k2,hargs,e3,hl2,k4,k5,k6,hw,hg]
        ·simp [h0,h1,h2,h7,hlt,e1,setRun,k1,k2,hargs,e3,hl2,k4,k5,hw,hg]
       ·simp [h0,h1,h2,h7,hlt,e1,setRun,k1,k2,hargs,e3,hl2,k5,hw,hg]
     ·simp [h0,h1,h2,h7,hlt,e1,setRun,k1,k2,hw,hg]
    ·simp [h0,h1,h2,h7,hlt,e1,setRun,k1,hw,hg]
  ·have he:i=body.length:=by omega
   subst he
   rw [List.drop_length] at hg
   have hg':linkedB body a b=false:=hg
   simp [h0,h1,h2,h7,hg']
 ·simp
theorem callRLink (body:List GL) (a b:ByteArray) (hb:body.length≤100000000) (bs:Nat) (σ:Heap):callT T 41 [.isl (body.map GL.enc) false,.str a,.str b] bs σ=some (.bool (sym (linkedB body a b)),σ):=call_clean rfl rfl rfl (by simp) (rLink_ok body a b hb)
def varP (l:List GT):ByteArray:=match l with
 | []=>nilB
 | t :: _=>if t.kind=1 then t.name else nilB
theorem rVar_ok (l:List GT):pureT T c40 [.isl (GT.encs l) false]=some (.str (varP l)):=by
 apply pure_enter (by simp [c40])
 cases l with
 | nil=>simp [c40,setRun,varP,GT.encs]
 | cons t l=>
  have e3:GT.encs (t :: l)=t.enc :: GT.encs l:=rfl
  have h1:¬ ((l.length:Int)+1=0):=by omega
  by_cases hk:t.kind=1
  ·simp [c40,setRun,varP,e3,h1,hk,GT.enc_eq]
  ·simp [c40,setRun,varP,e3,h1,hk,GT.enc_eq]
theorem callRVar (l:List GT) (bs:Nat) (σ:Heap):callT T 40 [.isl (GT.encs l) false] bs σ=some (.str (varP l),σ):=call_clean rfl rfl rfl (by simp) (rVar_ok l)
open Go.Mach
def firstL (a b:ByteArray):List GL→Nat→Option Int
 | [],_=>none
 | l :: ls,i=>if link1 a b l=true then some (i:Int) else firstL a b ls (i+1)
theorem look_first:∀ (ls:List GL) (i:Nat) (s t:RS),readGo ls i s=some t→∀ a b,lookW t.links a b=if (lookW s.links a b).isSome=true then lookW s.links a b else firstL a b ls i
 | [],i,s,t,h,a,b=>by
  injection h with h; subst h
  unfold firstL
  split
  ·rfl
  ·rename_i hn
   cases hl:lookW s.links a b with
   | none=>rfl
   | some v=>rw [hl] at hn; exact absurd rfl hn
 | l :: ls,i,s,t,h,c,d=>by
  simp only [readGo] at h
  by_cases hk:l.kind=1∨l.kind=2
  ·rw [if_pos hk] at h
   cases ha:l.args with
   | nil=>rw [ha] at h; cases h
   | cons a rest=>
    rw [ha] at h
    simp only at h
    by_cases hv:a.kind=1
    ·rw [if_pos hv] at h
     rw [look_first ls (i+1) _ t h]
     have hl0:l.args[0]?=some a:=by rw [ha]; rfl
     have h1:link1 c d l=true↔l.kind=1∧linkL l=true∧a.name=c∧arg1 l=d:=by
      rw [link1_iff]
      unfold linkOf
      constructor
      ·rintro ⟨q1,q2,⟨x,hx,e⟩,q4⟩
       rw [hl0] at hx; injection hx with hx; subst hx
       exact ⟨q1,q2,e,q4⟩
      ·rintro ⟨q1,q2,e,q4⟩
       exact ⟨q1,q2,⟨a,hl0,e⟩,q4⟩
     have hF:firstL c d (l :: ls) i=if link1 c d l=true then some (i:Int) else firstL c d ls (i+1):=rfl
     rw [hF]
     unfold stepR
     by_cases hk2:l.kind=2
     ·rw [if_pos hk2]
      have hn:¬ link1 c d l=true:=fun e=>by have:=(h1.1 e).1; omega
      rw [if_neg hn]
     ·rw [if_neg hk2]
      have hk1:l.kind=1:=hk.resolve_right hk2
      simp only
      by_cases hll:linkL l=true
      ·rw [if_pos hll,lookW_set]
       by_cases hs:(lookW s.links c d).isSome=true
       ·rw [if_pos hs,if_pos hs,if_pos hs]
       ·rw [if_neg hs,if_neg hs]
        by_cases he:a.name=c∧arg1 l=d
        ·rw [if_pos he,if_pos (by rfl),if_pos (h1.2 ⟨hk1,hll,he.1,he.2⟩)]
        ·rw [if_neg he,if_neg (by simp),if_neg (fun e=>he ⟨(h1.1 e).2.2.1,(h1.1 e).2.2.2⟩)]
      ·rw [if_neg hll,if_neg (fun e=>hll (h1.1 e).2.1)]
    ·rw [if_neg hv] at h; cases h
  ·rw [if_neg hk] at h
   rw [look_first ls (i+1) s t h]
   have hn:¬ link1 c d l=true:=fun e=>hk (.inl ((link1_iff c d l).1 e).1)
   have hF:firstL c d (l :: ls) i=firstL c d ls (i+1):=by simp only [firstL,if_neg hn]
   rw [hF]
theorem readP_first {body:List GL} {s:RS} (h:readP body=some s) (a b:ByteArray):lookW s.links a b=firstL a b body 0:=by
 unfold readP at h
 cases hg:readGo body 0 ⟨[],[],0⟩ with
 | none=>rw [hg] at h; cases h
 | some t=>
  rw [hg] at h
  simp only at h
  split at h
  ·injection h with h; subst h
   have:=look_first body 0 _ _ hg a b
   rw [this]; rfl
  ·cases h
open Go.Mach
def dirL (a b:ByteArray):List GL→Option Bool
 | []=>none
 | l :: ls=>if link1 a b l=true then some true else if link1 b a l=true then some false else dirL a b ls
theorem firstL_ge (a b:ByteArray):∀ (ls:List GL) (i:Nat) (v:Int),firstL a b ls i=some v→(i:Int)≤v
 | [],i,v,h=>by cases h
 | l :: ls,i,v,h=>by
  simp only [firstL] at h
  split at h
  ·injection h with h; omega
  ·have:=firstL_ge a b ls (i+1) v h; omega
theorem link1_two {a b:ByteArray} {l:GL} (h1:link1 a b l=true) (h2:link1 b a l=true):a=b:=by
 obtain ⟨_,_,⟨t,ht,e1⟩,_⟩:=(link1_iff a b l).1 h1
 obtain ⟨_,_,⟨u,hu,e2⟩,_⟩:=(link1_iff b a l).1 h2
 rw [ht] at hu; injection hu with hu; subst hu
 rw [←e1,←e2]
theorem dirL_spec {a b:ByteArray} (hne:a≠b):∀ (ls:List GL) (i:Nat),dirL a b ls=match firstL a b ls i,firstL b a ls i with
  | none,none=>none
  | some _,none=>some true
  | none,some _=>some false
  | some x,some y=>some (decide (¬ y<x))
 | [],i=>rfl
 | l :: ls,i=>by
  simp only [dirL,firstL]
  by_cases h1:link1 a b l=true
  ·have h2:¬ link1 b a l=true:=fun e=>hne (link1_two h1 e)
   simp only [if_pos h1,if_neg h2]
   cases h:firstL b a ls (i+1) with
   | none=>rfl
   | some v=>
    have:=firstL_ge b a ls (i+1) v h
    show some true=some (decide (¬ v<(i:Int)))
    rw [decide_eq_true (by omega)]
  ·simp only [if_neg h1]
   by_cases h2:link1 b a l=true
   ·simp only [if_pos h2]
    cases h:firstL a b ls (i+1) with
    | none=>rfl
    | some v=>
     have:=firstL_ge a b ls (i+1) v h
     show some false=some (decide (¬ (i:Int)<v))
     rw [decide_eq_false (by omega)]
   ·simp only [if_neg h2]
    exact dirL_spec hne ls (i+1)
set_option maxRecDepth 100000
open Go.Mach
theorem varP_lit {l:GL} (h:litB l=true) (hk:l.kind=1∨l.kind=2):∃ a rest,l.args=a :: rest∧(varP l.args=nilB↔¬ a.kind=1)∧(a.kind=1→varP l.args=a.name):=by
 obtain ⟨_,h2⟩:=lit_names h hk
 cases ha:l.args with
 | nil=>exact absurd ha (lit_args h hk)
 | cons a rest=>
  refine ⟨a,rest,rfl,⟨fun e hv=>?_,fun hv=>?_⟩,fun hv=>?_⟩
  ·have hn:=h2 a (by rw [ha]; simp) hv
   unfold varP at e
   simp only [if_pos hv] at e
   exact hn e
  ·unfold varP; simp only [if_neg hv]
  ·unfold varP; simp only [if_pos hv]
theorem read_ne:∀ (ls:List GL) (i:Nat) (s t:RS),readGo ls i s=some t→(0<s.atoms→s.all≠[])→0<t.atoms→t.all≠[]
 | [],i,s,t,h,h0=>by injection h with h; subst h; exact h0
 | l :: ls,i,s,t,h,h0=>by
  simp only [readGo] at h
  by_cases hk:l.kind=1∨l.kind=2
  ·rw [if_pos hk] at h
   cases ha:l.args with
   | nil=>rw [ha] at h; cases h
   | cons a rest=>
    rw [ha] at h
    simp only at h
    by_cases hv:a.kind=1
    ·rw [if_pos hv] at h
     refine read_ne ls (i+1) _ t h fun _=>?_
     have hall:(stepR s l a i).all=addB s.all a.name:=by unfold stepR; split <;> rfl
     rw [hall]; exact add_ne _ _
    ·rw [if_neg hv] at h; cases h
  ·rw [if_neg hk] at h
   exact read_ne ls (i+1) s t h h0
theorem two_dir {body:List GL} {s:RS} (h:readP body=some s) {b c:ByteArray} (hne:b≠c) (head:ByteArray) :
  twoP s b c head=match dirL b c body with
   | none=>none
   | some true=>if head=b∨head=c then some ⟨b,c,head⟩ else none
   | some false=>if head=b∨head=c then some ⟨c,b,head⟩ else none:=by
 rw [dirL_spec hne body 0]
 unfold twoP
 rw [readP_first h b c,readP_first h c b]
 cases firstL b c body 0 with
 | none=>cases firstL c b body 0 <;> rfl
 | some x=>
  cases firstL c b body 0 with
  | none=>rfl
  | some y=>
   by_cases hlt:y<x
   ·simp [hlt]
   ·simp [hlt]
theorem slI_mid {sz:Nat} {es:List AV} {c:Bool} {a n:Nat} (ha:a≤n) (h:n≤es.length) (hz:es.all (lenIs sz)=true):slSlV sz (some (.int .i64 (a:Int))) (some (.int .i64 (n:Int))) (.isl es c)=some (.isl ((es.take n).drop a) false):=by
 have h1:slSlA sz a n (.isl es c)=some (.isl ((es.take n).drop a) false):=by
  have hc:a≤n∧n≤es.length∧(a=0∨es.all (lenIs sz)=true):=⟨ha,h,.inr hz⟩
  simp only [slSlA,if_pos hc]
 have h2:bndV es.length es.length (some (.int .i64 (n:Int)))=some n:=by
  simp only [bndV]; rw [if_pos ⟨by omega,by omega⟩]; rfl
 have h3:bndV n 0 (some (.int .i64 (a:Int)))=some a:=by
  simp only [bndV]; rw [if_pos ⟨by omega,by omega⟩]; rfl
 have h0:¬ isSl (.isl es c)=false:=by simp [isSl]
 have hl:lenA (.isl es c)=some es.length:=rfl
 unfold slSlV
 rw [if_neg h0,hl]
 simp only [Option.bind_some,h2,h3,h1]
theorem linked_one (l:GL) (a b:ByteArray):linkedB [l] a b=link1 a b l:=by unfold linkedB; simp
abbrev PB:ACode:=c18.body
abbrev P7:ACode:=sndC (sndC (sndC (sndC (sndC (sndC (sndC PB))))))
abbrev P8:ACode:=sndC P7
abbrev P10:ACode:=sndC (sndC P8)
abbrev P11:ACode:=sndC P10
def rCells (r:GR):AObj:=.cells [.str r.label,.str r.head,.isl (GT.encs r.args) false,.str r.agg,.int .i64 r.pos,.isl (r.body.map GL.enc) false] 0 false
def plCells (p:GPl):AObj:=.cells [.str p.from',.str p.to,.str p.head] 0 false
def plFin (r:GR) (o:Option GPl):Option GPl:=match o with
 | none=>none
 | some p=>if aggOk r p=true then some p else none
theorem plFin_some (r:GR) (p:GPl):plFin r (some p)=if aggOk r p=true then some p else none:=rfl
theorem place_end (r:GR) (p:GPl) (f:FR) (σ:Heap) {j:Nat} (h1:f 1=.ptr 0 0) (h2:f 2=.ptr 1 0) (h4:f 4=.ptr 2 0) (h5:f 5=.str p.head) (h13:f 13=.ptr j 0)
  (z0:σ[0]?=some (rCells r)) (z1:σ[1]?=some (plCells nilPl)) (z2:σ[2]?=some (plCells nilPl)) (zj:σ[j]?=some (plCells p)) (hl:3≤σ.length) :
  wpK T 0 202 [.code P11] f σ (endP 202 [.cell 2 3 true,.tmp 3] (resPl (if aggOk r p=true then some p else none))):=by
 unfold rCells at z0
 unfold plCells nilPl at z1 z2
 unfold plCells at zj
 have n1:1<σ.length:=by omega
 have n2:2<σ.length:=by omega
 by_cases hag:r.agg=nilB
 ·have h:aggOk r p=true:=by simp [aggOk,hag]
  rw [if_pos h]
  simp [-getElem?_pos,zqC,list_set_at,zqE,zqD,P11,P10,P8,P7,PB,c18,sndC,h1,h2,h4,h5,h13,z0,z1,z2,zj,n1,n2,eq_true hag,setRun,endP,res1,resPl,GPl.enc]
  done
 ·by_cases ht:p.to=nilB
  ·by_cases hh:p.head=p.from'
   ·have h:aggOk r p=true:=by simp [aggOk,ht,hh]
    rw [if_pos h]
    simp [-getElem?_pos,zqC,list_set_at,zqE,zqD,P11,P10,P8,P7,PB,c18,sndC,h1,h2,h4,h5,h13,z0,z1,z2,zj,n1,n2,hag,eq_true ht,hh,setRun,endP,res1,resPl,GPl.enc]
    done
   ·have h:¬ aggOk r p=true:=by simp [aggOk,hag,hh]
    rw [if_neg h]
    simp [-getElem?_pos,zqC,list_set_at,zqE,zqD,P11,P10,P8,P7,PB,c18,sndC,h1,h2,h4,h5,h13,z0,z1,z2,zj,n1,n2,hag,eq_true ht,hh,setRun,endP,res1,resPl,nilPl,GPl.enc,plFin]
    done
  ·have h:¬ aggOk r p=true:=by simp [aggOk,hag,ht]
   rw [if_neg h]
   simp [-getElem?_pos,zqC,list_set_at,zqE,zqD,P11,P10,P8,P7,PB,c18,sndC,h1,h2,h4,h5,h13,z0,z1,z2,zj,n1,n2,hag,ht,setRun,endP,res1,resPl,nilPl,GPl.enc,plFin]
   done
theorem place_one (r:GR) (b head:ByteArray) (f:FR) (σ:Heap) {j k:Nat} (hb:r.body.length≤100000000) (h1:f 1=.ptr 0 0) (h2:f 2=.ptr 1 0) (h4:f 4=.ptr 2 0) (h5:f 5=.str head) (h6:f 6=.own k [.str b]) (h13:f 13=.ptr j 0)
  (z0:σ[0]?=some (rCells r)) (z1:σ[1]?=some (plCells nilPl)) (z2:σ[2]?=some (plCells nilPl)) (zj:σ[j]?=some (plCells ⟨b,nilB,head⟩)) (hl:3≤σ.length) :
  wpK T 0 202 [.code P10] f σ (endP 202 [.cell 2 3 true,.tmp 3] (resPl (plFin r ((if head=b∨linkedB r.body b head=true then some (⟨b,nilB,head⟩:GPl) else none))))):=by
 have tail:=place_end r ⟨b,nilB,head⟩
 have hL:=callRLink r.body b head hb
 have hs:P10=.seq (fstC P10) P11:=rfl
 rw [hs]
 generalize P11=K at tail
 have y0:=z0
 have y1:=z1
 have y2:=z2
 unfold rCells at z0
 unfold plCells nilPl at z1 z2
 have n1:1<σ.length:=by omega
 have n2:2<σ.length:=by omega
 by_cases hh:head=b
 ·have hc:head=b∨linkedB r.body b head=true:=.inl hh
  rw [if_pos hc]
  rw [plFin_some]
  generalize hR:resPl (if aggOk r ⟨b,nilB,head⟩=true then some ⟨b,nilB,head⟩ else none)=R at tail ⊢
  cases hk:linkedB r.body b head with
  | true=>
   rw [hk] at hL
   simp [-getElem?_pos,zqC,list_set_at,zqE,zqD,P11,P10,P8,P7,PB,c18,sndC,fstC,h1,h2,h4,h5,h6,h13,z0,z1,z2,hL,eq_true hh]
   refine tail _ _ ?_ ?_ ?_ ?_ ?_ y0 y1 y2 zj hl <;> simp [h1,h2,h4,h5,h13]
  | false=>
   rw [hk] at hL
   simp [-getElem?_pos,zqC,list_set_at,zqE,zqD,P11,P10,P8,P7,PB,c18,sndC,fstC,h1,h2,h4,h5,h6,h13,z0,z1,z2,hL,eq_true hh]
   refine tail _ _ ?_ ?_ ?_ ?_ ?_ y0 y1 y2 zj hl <;> simp [h1,h2,h4,h5,h13]
 ·cases hk:linkedB r.body b head with
  | true=>
   rw [hk] at hL
   rw [if_pos (.inr rfl)]
   rw [plFin_some]
   generalize hR:resPl (if aggOk r ⟨b,nilB,head⟩=true then some ⟨b,nilB,head⟩ else none)=R at tail ⊢
   simp [-getElem?_pos,zqC,list_set_at,zqE,zqD,P11,P10,P8,P7,PB,c18,sndC,fstC,h1,h2,h4,h5,h6,h13,z0,z1,z2,hL,hh]
   refine tail _ _ ?_ ?_ ?_ ?_ ?_ y0 y1 y2 zj hl <;> simp [h1,h2,h4,h5,h13]
  | false=>
   rw [hk] at hL
   simp [-getElem?_pos,zqC,list_set_at,zqE,zqD,P11,P10,P8,P7,PB,c18,sndC,fstC,h1,h2,h4,h5,h6,h13,z0,z1,z2,n1,n2,hL,hh,setRun,endP,res1,resPl,nilPl,GPl.enc,plFin]
   done
set_option maxRecDepth 100000
open Go.Mach
def dirS (d:Option Bool) (b c a e:ByteArray):Prop:=match d with
 | none=>a=b∧e=nilB
 | some true=>a=b∧e=c
 | some false=>a=c∧e=b
def dirPl (d:Option Bool) (b c head:ByteArray):Option GPl:=match d with
 | none=>none
 | some true=>if head=b∨head=c then some ⟨b,c,head⟩ else none
 | some false=>if head=b∨head=c then some ⟨c,b,head⟩ else none
def elsC:ACode→ACode
 | .cond _ _ b=>b
 | c=>c
def thnC:ACode→ACode
 | .cond _ a _=>a
 | c=>c
abbrev PL:ACode:=fstC (elsC (sndC (fstC P10)))
abbrev PC:ACode:=sndC (elsC (sndC (fstC P10)))
theorem place_chk (r:GR) (b c head a e:ByteArray) (D:Option Bool) (f:FR) (σ:Heap) {j:Nat} (hbn:b≠nilB) (hcn:c≠nilB) (hd:dirS D b c a e) (h1:f 1=.ptr 0 0) (h2:f 2=.ptr 1 0) (h4:f 4=.ptr 2 0) (h5:f 5=.str head) (h13:f 13=.ptr j 0)
  (z0:σ[0]?=some (rCells r)) (z1:σ[1]?=some (plCells nilPl)) (z2:σ[2]?=some (plCells nilPl)) (zj:σ[j]?=some (plCells ⟨a,e,head⟩)) (hl:3≤σ.length) :
  wpK T 0 202 [.code PC,.code P11] f σ (endP 202 [.cell 2 3 true,.tmp 3] (resPl (plFin r (dirPl D b c head)))):=by
 have tail:=place_end r
 generalize P11=K at tail
 have y0:=z0
 have y1:=z1
 have y2:=z2
 have yj:=zj
 unfold plCells nilPl at z1 z2
 unfold plCells at zj
 have n1:1<σ.length:=by omega
 have n2:2<σ.length:=by omega
 have main:e≠nilB→(dirPl D b c head=if head=a∨head=e then some ⟨a,e,head⟩ else none)→wpK T 0 202 [.code PC,.code K] f σ (endP 202 [.cell 2 3 true,.tmp 3] (resPl (plFin r (dirPl D b c head)))):=by
  intro he hp
  rw [hp]
  by_cases q1:head=a
  ·rw [if_pos (.inl q1)]
   rw [plFin_some]
   have tail:=tail ⟨a,e,head⟩
   generalize hR:resPl (if aggOk r ⟨a,e,head⟩=true then some ⟨a,e,head⟩ else none)=R at tail ⊢
   simp [-getElem?_pos,zqC,list_set_at,zqE,zqD,PC,elsC,P10,P8,P7,PB,c18,sndC,fstC,h1,h2,h4,h5,h13,z1,z2,zj,he,eq_true q1]
   refine tail _ _ ?_ ?_ ?_ ?_ ?_ y0 y1 y2 yj hl <;> simp [h1,h2,h4,h5,h13]
  ·by_cases q2:head=e
   ·rw [if_pos (.inr q2)]
    rw [plFin_some]
    have tail:=tail ⟨a,e,head⟩
    generalize hR:resPl (if aggOk r ⟨a,e,head⟩=true then some ⟨a,e,head⟩ else none)=R at tail ⊢
    simp [-getElem?_pos,zqC,list_set_at,zqE,zqD,PC,elsC,P10,P8,P7,PB,c18,sndC,fstC,h1,h2,h4,h5,h13,z1,z2,zj,he,q1,eq_true q2]
    refine tail _ _ ?_ ?_ ?_ ?_ ?_ y0 y1 y2 yj hl <;> simp [h1,h2,h4,h5,h13]
   ·rw [if_neg (fun q=>q.elim q1 q2)]
    simp [-getElem?_pos,zqC,list_set_at,zqE,zqD,PC,elsC,P10,P8,P7,PB,c18,sndC,fstC,h1,h2,h4,h5,h13,z1,z2,zj,n1,n2,he,q1,q2,setRun,endP,res1,resPl,nilPl,GPl.enc,plFin]
    done
 cases D with
 | none=>
  obtain ⟨rfl,rfl⟩:=hd
  simp [-getElem?_pos,zqC,list_set_at,zqE,zqD,dirPl,plFin,PC,elsC,P10,P8,P7,PB,c18,sndC,fstC,h1,h2,h4,h5,h13,z1,z2,zj,n1,n2,setRun,endP,res1,resPl,nilPl,GPl.enc,plFin]
  done
 | some d=>
  cases d with
  | true=>
   obtain ⟨rfl,rfl⟩:=hd
   exact main hcn rfl
  | false=>
   obtain ⟨rfl,rfl⟩:=hd
   refine main hbn ?_
   show (if head=e∨head=a then some (⟨a,e,head⟩:GPl) else none)=_
   by_cases q1:head=e
   ·rw [if_pos (.inl q1),if_pos (.inr q1)]
   ·by_cases q2:head=a
    ·rw [if_pos (.inr q2),if_pos (.inl q2)]
    ·rw [if_neg (fun q=>q.elim q1 q2),if_neg (fun q=>q.elim q2 q1)]
set_option maxHeartbeats 2000000 in
theorem place_two (r:GR) (b c head:ByteArray) (f:FR) (σ:Heap) {j k:Nat} (hb:r.body.length≤100000000) (hbn:b≠nilB) (hcn:c≠nilB) (hne:b≠c) (h1:f 1=.ptr 0 0) (h2:f 2=.ptr 1 0) (h4:f 4=.ptr 2 0) (h5:f 5=.str head) (h6:f 6=.own k [.str b,.str c]) (h13:f 13=.ptr j 0)
  (z0:σ[0]?=some (rCells r)) (z1:σ[1]?=some (plCells nilPl)) (z2:σ[2]?=some (plCells nilPl)) (zj:σ[j]?=some (plCells ⟨b,nilB,head⟩)) (hl:3≤σ.length) (hj:3≤j) :
  wpK T 0 202 [.code P10] f σ (endP 202 [.cell 2 3 true,.tmp 3] (resPl (plFin r (dirPl (dirL b c r.body) b c head)))):=by
 obtain ⟨D,hD⟩:∃ D,dirL b c r.body=D:=⟨_,rfl⟩
 rw [hD]
 have tail:=fun a e=>place_chk r b c head a e D
 have hs:P10=.seq (.seq (fstC (fstC P10)) (.cond (.t 100) (thnC (sndC (fstC P10))) (.seq PL PC))) P11:=rfl
 rw [hs]
 generalize hR:(resPl (plFin r (dirPl D b c head)))=R at tail ⊢
 generalize PC=K at tail
 generalize P11=K2 at tail
 simp [PL,elsC,P10,P8,P7,PB,c18,sndC,fstC,h1,h2,h4,h5,h6,h13]
 refine W_for T 0 202 r.body.length (fun i f σ=>f 1=.ptr 0 0∧f 2=.ptr 1 0∧f 4=.ptr 2 0∧f 5=.str head∧f 6=.own k [.str b,.str c]∧f 13=.ptr j 0∧f 15=.int .i64 (i:Int)∧3≤σ.length∧σ[0]?=some (rCells r)∧σ[1]?=some (plCells nilPl)∧σ[2]?=some (plCells nilPl) ∧
  ∃ a e,σ[j]?=some (plCells ⟨a,e,head⟩)∧((e=nilB∧a=b∧D=dirL b c (r.body.drop i))∨(e≠nilB∧dirS D b c a e))) ?_ _ _ ?_
 ·clear h1 h2 h4 h5 h6 h13 z0 z1 z2 zj hl
  rintro i f σ hi ⟨h1,h2,h4,h5,h6,h13,h15,hl,y0,y1,y2,a,e,yj,hst⟩
  have z0:=y0
  have z1:=y1
  have z2:=y2
  have zj:=yj
  unfold rCells at z0
  unfold plCells nilPl at z1 z2
  unfold plCells at zj
  have n0:0<σ.length:=by omega
  have n1:1<σ.length:=by omega
  have n2:2<σ.length:=by omega
  have nj:j<σ.length:=(zqI.1 zj).1
  have j0:j≠0:=by omega
  have j1:j≠1:=by omega
  have j2:j≠2:=by omega
  by_cases hlt:i<r.body.length
  ·have hw:IntKind.i64.wrap ((i:Int)+1)=(i:Int)+1:=wr64 (by omega) (by omega)
   rcases hst with ⟨he,ha,hd⟩ | ⟨he,hd⟩
   ·have hsl:slSlV 3 (some (.int .i64 (i:Int))) (some (.int .i64 ((i:Int)+1))) (.isl (r.body.map GL.enc) false)=some (.isl ([r.body[i]].map GL.enc) false):=by
     have:=slI_mid (sz:=3) (es:=r.body.map GL.enc) (c:=false) (a:=i) (n:=i+1) (by omega) (by simp; omega) (lenIs_map GL.enc 3 (fun _=>rfl) _)
     rw [zqO (by simpa using hlt),List.drop_append_of_le_length (by simp; omega),List.drop_of_length_le (by simp; omega)] at this
     simpa using this
    have hL1:=callRLink [r.body[i]] b c (by simp)
    have hL2:=callRLink [r.body[i]] c b (by simp)
    rw [linked_one] at hL1 hL2
    simp only [List.map_cons,List.map_nil] at hL1 hL2 hsl
    rw [zqM hlt] at hd
    simp only [dirL] at hd
    by_cases k1:link1 b c r.body[i]=true
    ·have k2:¬ link1 c b r.body[i]=true:=fun e=>hne (link1_two k1 e)
     have k2':link1 c b r.body[i]=false:=by simpa using k2
     rw [if_pos k1] at hd
     rw [k1] at hL1
     rw [k2'] at hL2
     simp [-getElem?_pos,zqC,list_set_at,zqE,zqD,h1,h2,h4,h5,h6,h13,h15,z0,z1,z2,zj,hlt,hw,hsl,hL1,hL2,setRun,nj,he,ha,y0,y1,y2,j0,j1,j2]
     exact ⟨hl,rfl,rfl,b,c,rfl,.inr ⟨hcn,by rw [hd]; exact ⟨rfl,rfl⟩⟩⟩
    ·have k1':link1 b c r.body[i]=false:=by simpa using k1
     rw [if_neg k1] at hd
     rw [k1'] at hL1
     by_cases k2:link1 c b r.body[i]=true
     ·rw [if_pos k2] at hd
      rw [k2] at hL2
      simp [-getElem?_pos,zqC,list_set_at,zqE,zqD,h1,h2,h4,h5,h6,h13,h15,z0,z1,z2,zj,hlt,hw,hsl,hL1,hL2,setRun,nj,he,ha,y0,y1,y2,j0,j1,j2]
      exact ⟨hl,rfl,rfl,c,b,rfl,.inr ⟨hbn,by rw [hd]; exact ⟨rfl,rfl⟩⟩⟩
     ·have k2':link1 c b r.body[i]=false:=by simpa using k2
      rw [if_neg k2] at hd
      rw [k2'] at hL2
      simp [-getElem?_pos,zqC,list_set_at,zqE,zqD,h1,h2,h4,h5,h6,h13,h15,z0,z1,z2,zj,hlt,hw,hsl,hL1,hL2,setRun,nj,he,ha,y0,y1,y2]
      exact ⟨hl,rfl,rfl,b,nilB,rfl,.inl ⟨rfl,rfl,hd⟩⟩
   ·simp [-getElem?_pos,zqC,list_set_at,zqE,zqD,h1,h2,h4,h5,h6,h13,h15,z0,z1,z2,zj,hlt,hw,he]
    refine tail a e _ _ hbn hcn hd ?_ ?_ ?_ ?_ ?_ y0 y1 y2 yj hl <;> simp [h1,h2,h4,h5,h13]
  ·have he:i=r.body.length:=by omega
   have hd:dirS D b c a e:=by
    rcases hst with ⟨rfl,rfl,hd⟩ | ⟨_,hd⟩
    ·subst he
     rw [List.drop_length] at hd
     rw [hd]; exact ⟨rfl,rfl⟩
    ·exact hd
   simp [-getElem?_pos,zqC,list_set_at,zqE,zqD,h1,h2,h4,h5,h6,h13,h15,z0,z1,z2,zj,hlt]
   refine tail a e _ _ hbn hcn hd ?_ ?_ ?_ ?_ ?_ y0 y1 y2 yj hl <;> simp [h1,h2,h4,h5,h13]
 ·simp [h1,h2,h4,h5,h6,h13,z0,z1,z2,zj,hl]
  exact ⟨b,nilB,rfl,.inl ⟨rfl,rfl,hD.symm⟩⟩
set_option maxRecDepth 100000
open Go.Mach
theorem place_tail (r:GR) (head:ByteArray) (s:RS) (hb:r.body.length≤100000000) (hg:readGo r.body 0 ⟨[],[],0⟩=some s) (hn:0<s.atoms→∀ m∈s.all,m≠nilB) (f:FR) (σ:Heap) (h1:f 1=.ptr 0 0) (h2:f 2=.ptr 1 0) (h4:f 4=.ptr 2 0) (h5:f 5=.str head) (h7:f 7=.int .i64 (s.atoms:Int))
  (h6:LO 3 1 false σ (s.all.map .str) (f 6)) (z0:σ[0]?=some (rCells r)) (z1:σ[1]?=some (plCells nilPl)) (z2:σ[2]?=some (plCells nilPl)) (hl:3≤σ.length) :
  wpK T 0 202 [.code P8] f σ (endP 202 [.cell 2 3 true,.tmp 3] (resPl (plFin r ((if 0<s.atoms then placeQ s head else none))))):=by
 have tail1:=fun b=>place_one r b head
 have tail2:=fun b c=>place_two r b c head
 have hs:P8=.seq (fstC P8) (.seq (fstC (sndC P8)) P10):=rfl
 rw [hs]
 generalize P10=K at tail1 tail2
 have y0:=z0
 have y1:=z1
 have y2:=z2
 unfold plCells nilPl at z1 z2
 have n1:1<σ.length:=by omega
 have n2:2<σ.length:=by omega
 by_cases ha:0<s.atoms
 ·have ha':¬ (s.atoms=0):=by omega
  have hrp:readP r.body=some s:=by unfold readP; rw [hg]; simp only [if_pos ha]
  have hne:=read_ne _ _ _ _ hg (fun h=>by cases h) ha
  rw [if_pos ha]
  have hn:=hn ha
  rcases h6 with ⟨hnil,_⟩ | ⟨k,h6,_,_,_⟩
  ·exact absurd (by simpa using hnil) hne
  ·match hall:s.all with
   | []=>exact absurd hall hne
   | [b]=>
    have hq:placeQ s head=if head=b∨linkedB r.body b head=true then some ⟨b,nilB,head⟩ else none:=by
     have h3:=(readP_spec hrp).2.2.1 b head
     unfold placeQ; rw [hall]
     simp only [oneP]
     by_cases q:head=b
     ·simp [q]
     ·cases q2:(lookW s.links b head).isSome with
      | true=>rw [if_pos (.inr rfl),if_pos (.inr (h3.1 q2))]
      | false=>rw [if_neg (fun x=>x.elim q (fun y=>by cases y)),if_neg (fun x=>x.elim q (fun y=>by rw [h3.2 y] at q2; cases q2))]
    rw [hq]
    rw [hall] at h6
    have h6':f 6=.own k [.str b]:=h6
    generalize hR:(resPl (plFin r ((if head=b∨linkedB r.body b head=true then some (⟨b,nilB,head⟩:GPl) else none))))=R
    have tail1:=tail1 b
    rw [hR] at tail1
    simp [-getElem?_pos,zqC,list_set_at,zqA,zqB,zqE,zqD,P8,P7,PB,c18,sndC,fstC,h1,h2,h4,h5,h6',h7,ha',setRun]
    refine tail1 (k:=k) (j:=σ.length) _ _ hb ?_ ?_ ?_ ?_ ?_ ?_ ?_ ?_ ?_ ?_ ?_ <;> first | (simp [h1,h2,h4,h5,h6',plCells]; done) | (rw [zqA (by omega)]; first | exact y0 | exact y1 | exact y2) | (simp; omega)
   | [b,c]=>
    have hnd:=(readP_spec hrp).2.2.2
    rw [hall] at hnd hn
    have hbc:b≠c:=by simp at hnd; exact hnd
    have hbn:=hn b (by simp)
    have hcn:=hn c (by simp)
    have hq:placeQ s head=dirPl (dirL b c r.body) b c head:=by
     unfold placeQ; rw [hall]
     simp only
     rw [two_dir hrp hbc head]; rfl
    rw [hq]
    rw [hall] at h6
    have h6':f 6=.own k [.str b,.str c]:=h6
    generalize hR:(resPl (plFin r (dirPl (dirL b c r.body) b c head)))=R
    have tail2:=tail2 b c
    rw [hR] at tail2
    simp [-getElem?_pos,zqC,list_set_at,zqA,zqB,zqE,zqD,P8,P7,PB,c18,sndC,fstC,h1,h2,h4,h5,h6',h7,ha',setRun]
    refine tail2 (k:=k) (j:=σ.length) _ _ hb hbn hcn hbc ?_ ?_ ?_ ?_ ?_ ?_ ?_ ?_ ?_ ?_ ?_ hl <;> first | (simp [h1,h2,h4,h5,h6',plCells]; done) | (rw [zqA (by omega)]; first | exact y0 | exact y1 | exact y2) | (simp; omega)
   | b :: c :: d :: rest=>
    have hq:placeQ s head=none:=by unfold placeQ; rw [hall]
    rw [hq]
    rw [hall] at h6
    have h6':f 6=.own k (.str b :: .str c :: .str d :: rest.map .str):=h6
    have l2:(2:Int)<(rest.length:Int)+1+1+1:=by omega
    simp [-getElem?_pos,zqC,list_set_at,zqE,zqD,P8,P7,PB,c18,sndC,fstC,h1,h2,h4,h5,h6',h7,ha',setRun,z1,z2,n1,n2,l2,endP,res1,resPl,nilPl,GPl.enc,plFin]
    done
 ·have ha':s.atoms=0:=by omega
  rw [if_neg ha]
  simp [-getElem?_pos,zqC,list_set_at,zqE,zqD,P8,P7,PB,c18,sndC,fstC,h1,h2,h4,h5,h7,ha',setRun,z1,z2,n1,n2,endP,res1,resPl,nilPl,GPl.enc,plFin]
  done
set_option maxRecDepth 100000
open Go.Mach
theorem stepR_all (s:RS) (l:GL) (a:GT) (i:Nat):(stepR s l a i).all=addB s.all a.name:=by unfold stepR; split <;> rfl
theorem stepR_atoms (s:RS) (l:GL) (a:GT) (i:Nat):(stepR s l a i).atoms=if l.kind=2 then s.atoms else s.atoms+1:=by unfold stepR; split <;> rfl
theorem addB_len (b:List ByteArray) (n:ByteArray):(addB b n).length≤b.length+1:=by unfold addB; split <;> simp
abbrev P1:ACode:=fstC P7
set_option maxHeartbeats 4000000 in
theorem place_read (r:GR) (hb:r.body.length≤100000000) (hlit:∀ l∈r.body,litB l=true) (head:ByteArray) (R:AV) (hnone:readGo r.body 0 ⟨[],[],0⟩=none→R=resPl none) (f:FR) (σ:Heap) (h1:f 1=.ptr 0 0) (h2:f 2=.ptr 1 0) (h4:f 4=.ptr 2 0) (h5:f 5=.str head) (h6:f 6=.isl [] true) (h7:f 7=.int .i64 0)
  (y0:σ[0]?=some (rCells r)) (y1:σ[1]?=some (plCells nilPl)) (y2:σ[2]?=some (plCells nilPl)) (hl:3≤σ.length)
  (tail:∀ s f σ,readGo r.body 0 ⟨[],[],0⟩=some s→f 1=.ptr 0 0→f 2=.ptr 1 0→f 4=.ptr 2 0→f 5=.str head→f 7=.int .i64 (s.atoms:Int)→LO 3 1 false σ (s.all.map .str) (f 6)→σ[0]?=some (rCells r)→σ[1]?=some (plCells nilPl)→σ[2]?=some (plCells nilPl)→3≤σ.length →
   wpK T 0 202 [.code P8] f σ (endP 202 [.cell 2 3 true,.tmp 3] R)) :
  wpK T 0 202 [.code P7] f σ (endP 202 [.cell 2 3 true,.tmp 3] R):=by
 have hs:P7=.seq P1 P8:=rfl
 rw [hs]
 generalize P8=K at tail
 simp [P1,P7,PB,c18,sndC,fstC,h1,h2,h4,h5,h6,h7]
 refine W_for T 0 202 r.body.length (fun i f σ=>f 1=.ptr 0 0∧f 2=.ptr 1 0∧f 4=.ptr 2 0∧f 5=.str head∧f 8=.int .i64 (i:Int)∧3≤σ.length∧σ[0]?=some (rCells r)∧σ[1]?=some (plCells nilPl)∧σ[2]?=some (plCells nilPl) ∧
  ∃ s:RS,readGo r.body 0 ⟨[],[],0⟩=readGo (r.body.drop i) i s∧s.all.length≤i∧s.atoms≤i∧f 7=.int .i64 (s.atoms:Int)∧LO 3 1 false σ (s.all.map .str) (f 6)) ?_ _ _ ?_
 ·clear h1 h2 h4 h5 h6 h7 y0 y1 y2 hl
  rintro i f σ hi ⟨h1,h2,h4,h5,h8,hl,y0,y1,y2,s,hg,hal,hat,h7,h6⟩
  have z0:=y0
  have z1:=y1
  have z2:=y2
  unfold rCells at z0
  unfold plCells nilPl at z1 z2
  have n0:0<σ.length:=by omega
  have n1:1<σ.length:=by omega
  have n2:2<σ.length:=by omega
  by_cases hlt:i<r.body.length
  ·have hw:IntKind.i64.wrap ((i:Int)+1)=(i:Int)+1:=wr64 (by omega) (by omega)
   have hw2:IntKind.i64.wrap ((s.atoms:Int)+1)=(s.atoms:Int)+1:=wr64 (by omega) (by omega)
   have e1:r.body[i]?=some r.body[i]:=zqF hlt
   have hlm:=hlit _ (zqT hlt)
   rw [zqM hlt] at hg
   simp only [readGo] at hg
   generalize r.body[i]=l at e1 hlm hg
   by_cases hk:l.kind=1∨l.kind=2
   ·rw [if_pos hk] at hg
    obtain ⟨a,rest,hargs,hv1,hv2⟩:=varP_lit hlm hk
    rw [hargs] at hg
    simp only at hg
    have hcall:=callRVar l.args
    by_cases hv:a.kind=1
    ·rw [if_pos hv] at hg
     have hvn:¬ varP l.args=nilB:=fun e=>(hv1.1 e) hv
     rw [hv2 hv] at hcall hvn
     rcases hk with hk | hk
     ·
      have hst:(stepR s l a i).atoms=s.atoms+1:=by rw [stepR_atoms]; simp [hk]
      have hsa:=stepR_all s l a i
      generalize stepR s l a i=s' at hg hst hsa
      have hsl:=addB_len s.all a.name
      simp [-getElem?_pos,zqC,list_set_at,zqA,zqB,zqE,zqD,h1,h2,h4,h5,h8,h7,z0,z1,z2,n0,n1,n2,hlt,e1,GL.enc_eq,hk,hw2,hcall,hvn,setRun]
      refine W_for T 0 202 s.all.length (fun k f' τ=>f' 1=.ptr 0 0∧f' 2=.ptr 1 0∧f' 4=.ptr 2 0∧f' 5=.str head∧f' 6=f 6∧f' 7=.int .i64 ((s.atoms:Int)+1)∧f' 8=.int .i64 (i:Int)∧f' 10=.str a.name∧f' 11=.bool (memB a.name (s.all.take k))∧f' 12=.int .i64 (k:Int)∧τ=σ++[.cells [.int .i64 l.kind,.str l.name,.isl (GT.encs l.args) false] 0 false]) ?_ _ _ ?_
      ·rintro k g τ hki ⟨g1,g2,g4,g5,g6,g7,g8,g10,g11,g12,hτ⟩
       have x0:τ[0]?=some (rCells r):=by rw [hτ,zqA n0]; exact y0
       have x1:τ[1]?=some (plCells nilPl):=by rw [hτ,zqA n1]; exact y1
       have x2:τ[2]?=some (plCells nilPl):=by rw [hτ,zqA n2]; exact y2
       have hτl:τ.length=σ.length+1:=by rw [hτ]; simp
       have hO:LO 3 1 false τ (s.all.map .str) (f 6):=h6.keep fun j o _ ho=>by rw [hτ,zqA (zqI.1 ho).1]; exact ho
       have hlen:=hO.len
       rw [List.length_map] at hlen
       by_cases hkl:k<s.all.length
       ·have hwk:IntKind.i64.wrap ((k:Int)+1)=(k:Int)+1:=wr64 (by omega) (by omega)
        have hat:=hO.at (i:=k) (by simpa using hkl) (by simp [AV.cells])
        have hmk:memB a.name (s.all.take (k+1))=(memB a.name (s.all.take k) || decide (a.name=s.all[k])):=by
         unfold memB; rw [zqO hkl,List.any_append]; simp
        simp only [List.getElem_map,AV.cells] at hat
        rw [hmk]
        cases hm:memB a.name (s.all.take k) with
        | true=>
         rw [hm] at g11
         simp [g1,g2,g4,g5,g6,g7,g8,g10,g11,g12,hlen,hkl,hwk]
         exact hτ
        | false=>
         rw [hm] at g11
         by_cases hq:s.all[k]=a.name
         ·simp [g1,g2,g4,g5,g6,g7,g8,g10,g11,g12,hlen,hkl,hwk,hat,eq_true hq,eq_true hq.symm]
          exact hτ
         ·have hq':¬ a.name=s.all[k]:=fun e=>hq e.symm
          simp [g1,g2,g4,g5,g6,g7,g8,g10,g11,g12,hlen,hkl,hwk,hat,hq,hq']
          exact hτ
       ·have hke:k=s.all.length:=by omega
        subst hke
        rw [List.take_length] at g11
        cases hm:memB a.name s.all with
        | true=>
         rw [hm] at g11
         have ha:addB s.all a.name=s.all:=by unfold addB; rw [if_pos hm]
         rw [ha] at hsa
         simp [g1,g2,g4,g5,g6,g7,g8,g10,g11,g12,hlen,hw,x0,x1,x2]
         exact ⟨by omega,s',hg,by rw [hsa]; omega,by rw [hst]; omega,by rw [hst] <;> rfl,by rw [hsa]; exact hO⟩
        | false=>
         rw [hm] at g11
         have ha:addB s.all a.name=s.all++[a.name]:=by unfold addB; rw [hm]; rfl
         rw [ha] at hsa hsl
         simp [g1,g2,g4,g5,g6,g7,g8,g10,g11,g12,hlen,x0,x1,x2,-appendA_s]
         refine stW_s1 (N:=3) (bytes:=16) (v:=.str a.name) hO rfl rfl rfl (by omega) (by omega) (by simp; omega) fun x3 τ3 hO3 l3 q3 q4=>?_
         simp [g1,g2,g4,g5,g6,g7,g8,g10,g11,g12,hw,q3 0 (by omega),q3 1 (by omega),q3 2 (by omega),x0,x1,x2]
         exact ⟨by omega,s',hg,by rw [hsa]; simp; omega,by rw [hst]; omega,by rw [hst] <;> rfl,by rw [hsa]; simpa using hO3⟩
      ·simp [h1,h2,h4,h5,h7,h8,memB]
       exact hk.symm
     ·
      have hst:(stepR s l a i).atoms=s.atoms:=by rw [stepR_atoms]; simp [hk]
      have hsa:=stepR_all s l a i
      generalize stepR s l a i=s' at hg hst hsa
      have hsl:=addB_len s.all a.name
      simp [-getElem?_pos,zqC,list_set_at,zqA,zqB,zqE,zqD,h1,h2,h4,h5,h8,h7,z0,z1,z2,n0,n1,n2,hlt,e1,GL.enc_eq,hk,hw2,hcall,hvn,setRun]
      refine W_for T 0 202 s.all.length (fun k f' τ=>f' 1=.ptr 0 0∧f' 2=.ptr 1 0∧f' 4=.ptr 2 0∧f' 5=.str head∧f' 6=f 6∧f' 7=.int .i64 (s.atoms:Int)∧f' 8=.int .i64 (i:Int)∧f' 10=.str a.name∧f' 11=.bool (memB a.name (s.all.take k))∧f' 12=.int .i64 (k:Int)∧τ=σ++[.cells [.int .i64 l.kind,.str l.name,.isl (GT.encs l.args) false] 0 false]) ?_ _ _ ?_
      ·rintro k g τ hki ⟨g1,g2,g4,g5,g6,g7,g8,g10,g11,g12,hτ⟩
       have x0:τ[0]?=some (rCells r):=by rw [hτ,zqA n0]; exact y0
       have x1:τ[1]?=some (plCells nilPl):=by rw [hτ,zqA n1]; exact y1
       have x2:τ[2]?=some (plCells nilPl):=by rw [hτ,zqA n2]; exact y2
       have hτl:τ.length=σ.length+1:=by rw [hτ]; simp
       have hO:LO 3 1 false τ (s.all.map .str) (f 6):=h6.keep fun j o _ ho=>by rw [hτ,zqA (zqI.1 ho).1]; exact ho
       have hlen:=hO.len
       rw [List.length_map] at hlen
       by_cases hkl:k<s.all.length
       ·have hwk:IntKind.i64.wrap ((k:Int)+1)=(k:Int)+1:=wr64 (by omega) (by omega)
        have hat:=hO.at (i:=k) (by simpa using hkl) (by simp [AV.cells])
        have hmk:memB a.name (s.all.take (k+1))=(memB a.name (s.all.take k) || decide (a.name=s.all[k])):=by
         unfold memB; rw [zqO hkl,List.any_append]; simp
        simp only [List.getElem_map,AV.cells] at hat
        rw [hmk]
        cases hm:memB a.name (s.all.take k) with
        | true=>
         rw [hm] at g11
         simp [g1,g2,g4,g5,g6,g7,g8,g10,g11,g12,hlen,hkl,hwk]
         exact hτ
        | false=>
         rw [hm] at g11
         by_cases hq:s.all[k]=a.name
         ·simp [g1,g2,g4,g5,g6,g7,g8,g10,g11,g12,hlen,hkl,hwk,hat,eq_true hq,eq_true hq.symm]
          exact hτ
         ·have hq':¬ a.name=s.all[k]:=fun e=>hq e.symm
          simp [g1,g2,g4,g5,g6,g7,g8,g10,g11,g12,hlen,hkl,hwk,hat,hq,hq']
          exact hτ
       ·have hke:k=s.all.length:=by omega
        subst hke
        rw [List.take_length] at g11
        cases hm:memB a.name s.all with
        | true=>
         rw [hm] at g11
         have ha:addB s.all a.name=s.all:=by unfold addB; rw [if_pos hm]
         rw [ha] at hsa
         simp [g1,g2,g4,g5,g6,g7,g8,g10,g11,g12,hlen,hw,x0,x1,x2]
         exact ⟨by omega,s',hg,by rw [hsa]; omega,by rw [hst]; omega,by rw [hst] <;> rfl,by rw [hsa]; exact hO⟩
        | false=>
         rw [hm] at g11
         have ha:addB s.all a.name=s.all++[a.name]:=by unfold addB; rw [hm]; rfl
         rw [ha] at hsa hsl
         simp [g1,g2,g4,g5,g6,g7,g8,g10,g11,g12,hlen,x0,x1,x2,-appendA_s]
         refine stW_s1 (N:=3) (bytes:=16) (v:=.str a.name) hO rfl rfl rfl (by omega) (by omega) (by simp; omega) fun x3 τ3 hO3 l3 q3 q4=>?_
         simp [g1,g2,g4,g5,g6,g7,g8,g10,g11,g12,hw,q3 0 (by omega),q3 1 (by omega),q3 2 (by omega),x0,x1,x2]
         exact ⟨by omega,s',hg,by rw [hsa]; simp; omega,by rw [hst]; omega,by rw [hst] <;> rfl,by rw [hsa]; simpa using hO3⟩
      ·simp [h1,h2,h4,h5,h7,h8,memB]
       exact hk.symm
    ·rw [if_neg hv] at hg
     rw [hv1.2 hv] at hcall
     rw [hnone hg]
     rcases hk with hk | hk
     ·simp [-getElem?_pos,zqC,list_set_at,zqA,zqB,zqE,zqD,h1,h2,h4,h5,h8,h7,z0,z1,z2,n0,n1,n2,hlt,e1,GL.enc_eq,hk,hw2,hcall,setRun,endP,res1,resPl,nilPl,GPl.enc]
      done
     ·simp [-getElem?_pos,zqC,list_set_at,zqA,zqB,zqE,zqD,h1,h2,h4,h5,h8,h7,z0,z1,z2,n0,n1,n2,hlt,e1,GL.enc_eq,hk,hw2,hcall,setRun,endP,res1,resPl,nilPl,GPl.enc]
      done
   ·rw [if_neg hk] at hg
    have k1:¬ l.kind=1:=fun e=>hk (.inl e)
    have k2:¬ l.kind=2:=fun e=>hk (.inr e)
    simp [-getElem?_pos,zqC,list_set_at,zqA,zqB,zqE,zqD,h1,h2,h4,h5,h8,z0,z1,z2,n0,n1,n2,hlt,e1,GL.enc_eq,k1,k2,hw,setRun]
    refine ⟨by omega,?_,?_,s,hg,by omega,by omega,h7,h6.keep fun j o hj ho=>?_⟩
    ·rfl
    ·rfl
    ·rw [zqA (zqI.1 ho).1]; exact ho
  ·have he:i=r.body.length:=by omega
   subst he
   rw [List.drop_length] at hg
   simp [-getElem?_pos,zqE,zqD,h1,h2,h4,h5,h8,z0,z1,z2]
   refine tail s _ _ hg ?_ ?_ ?_ ?_ ?_ ?_ y0 y1 y2 hl <;> simp [h1,h2,h4,h5,h7,h6]
 ·simp [h1,h2,h4,h5,h6,h7,y0,y1,y2,hl]
  exact ⟨⟨[],[],0⟩,rfl,by simp,by simp,by simp,LO.nil ..⟩
set_option maxRecDepth 100000
open Go.Mach
theorem rPlace_ok (r:GR) (hs:r.size≤100000000):pureT T c18 [r.enc]=some (resPl (placeP r)):=by
 have hsay:=callR4RuleP r (by omega)
 have hte:=text_empty r
 have hbl:=GR.body_len r
 have hvar:=callRVar r.args
 have hread:=place_read r (by omega)
 have htail:=fun head s=>place_tail r head s (by omega)
 simp only [GR.enc_eq] at hsay
 apply pure_enter (by simp [c18])
 show wpK T 0 202 [.code PB] _ [] (endP 202 [.cell 2 3 true,.tmp 3] _)
 have hPB:PB=.seq (fstC PB) (.seq (fstC (sndC PB)) (.seq (fstC (sndC (sndC PB))) (.seq (fstC (sndC (sndC (sndC PB)))) (.seq (fstC (sndC (sndC (sndC (sndC PB))))) (.seq (fstC (sndC (sndC (sndC (sndC (sndC PB)))))) (.seq (fstC (sndC (sndC (sndC (sndC (sndC (sndC PB))))))) P7)))))):=rfl
 rw [hPB]
 generalize P7=K at hread
 by_cases hb:ruleB r=true
 ·have ht:¬ textRule r=nilB:=fun e=>hte.1 e hb
  have hlit:∀ l∈r.body,litB l=true:=by
   unfold ruleB at hb
   simp only [zqL] at hb
   exact zqQ.1 hb.1.2
  have hargs:∃ a rest,r.args=a :: rest∧termR 8 a=true:=by
   unfold ruleB argsB at hb
   simp only [zqL,decide_eq_true_eq] at hb
   cases h:r.args with
   | nil=>rw [h] at hb; simp at hb
   | cons a rest=>
    rw [h] at hb
    exact ⟨a,rest,rfl,zqQ.1 hb.1.1.1.2.1.2 a (by simp)⟩
  obtain ⟨a,rest,har,hta⟩:=hargs
  have hv:varP r.args=if a.kind=1 then a.name else nilB:=by rw [har]; rfl
  by_cases hk:a.kind=1
  ·rw [if_pos hk] at hv
   have hvn:=var_ne hta hk
   rw [hv] at hvar
   by_cases hh:r.head=sLink
   ·have hp:placeP r=none:=by unfold placeP; rw [if_neg (fun h=>h.2.1 hh)]
    rw [hp]
    simp [PB,c18,sndC,fstC,hsay,ht,hvar,hvn,eq_true hh,setRun,endP,res1,resPl,nilPl,GPl.enc]
    done
   ·have hc:ruleB r=true∧r.head≠sLink∧headK r=1:=⟨hb,hh,by unfold headK; rw [har]; simp [hk]⟩
    have hn:headN r=a.name:=by unfold headN; rw [har]; rfl
    have hpl:∀ s,readGo r.body 0 ⟨[],[],0⟩=some s→placeP r=plFin r (if 0<s.atoms then placeQ s a.name else none):=by
     intro s hg
     unfold placeP readP
     rw [if_pos hc,hn,hg]
     simp only
     by_cases h0:0<s.atoms
     ·rw [if_pos h0,if_pos h0]; rfl
     ·rw [if_neg h0,if_neg h0]; rfl
    simp [PB,c18,sndC,fstC,hsay,ht,hvar,hvn,hh,setRun]
    refine hread hlit a.name _ (fun e=>?_) _ _ ?_ ?_ ?_ ?_ ?_ ?_ ?_ ?_ ?_ ?_ ?_
    ·have hp:placeP r=none:=by unfold placeP readP; rw [if_pos hc,e]
     rw [hp]
    ·simp
    ·simp
    ·simp
    ·simp
    ·simp
    ·simp
    ·rfl
    ·rfl
    ·rfl
    ·simp
    ·intro s f σ hg h1 h2 h4 h5 h7 h6 z0 z1 z2 hl
     rw [hpl s hg]
     refine htail a.name s hg (fun h0=>?_) f σ h1 h2 h4 h5 h7 h6 z0 z1 z2 hl
     exact names_ne hb (by unfold readP; rw [hg]; simp only [if_pos h0])
  ·rw [if_neg hk] at hv
   rw [hv] at hvar
   have hp:placeP r=none:=by unfold placeP; rw [if_neg (fun h=>hk (by have:=h.2.2; unfold headK at this; rw [har] at this; simpa using this))]
   rw [hp]
   simp [PB,c18,sndC,fstC,hsay,ht,hvar,setRun,endP,res1,resPl,nilPl,GPl.enc]
   done
 ·have ht:textRule r=nilB:=hte.2 hb
  have hp:placeP r=none:=by unfold placeP; rw [if_neg (fun h=>hb h.1)]
  rw [hp]
  simp [PB,c18,sndC,fstC,hsay,ht,setRun,endP,res1,resPl,nilPl,GPl.enc]
  done
theorem callRPlace (r:GR) (hs:r.size≤100000000) (bs:Nat) (σ:Heap):callT T 18 [r.enc] bs σ=some (resPl (placeP r),σ):=call_clean rfl rfl rfl (by simp) (rPlace_ok r hs)
theorem callRCheck6 (p:GP) (hp:p.size≤1000000000) (bs:Nat) (σ:Heap):callT T 38 [p.enc] bs σ=some (res2 (checkP p),σ):=call_clean rfl rfl rfl (by simp) (rCheck6_ok p hp)
theorem rCheck7_ok (p:GP) (hp:p.size≤1000000000) (hr:∀ r∈p.rules,r.size≤100000000) (hl:p.rules.length≤100000000):pureT T c17 [p.enc]=some (res2 (checkL p)):=by
 have hck:=callRCheck6 p hp
 simp only [GP.enc_eq] at hck
 obtain ⟨⟨e,n⟩,hen⟩:∃ x,checkP p=x:=⟨_,rfl⟩
 rw [hen] at hck
 unfold checkL
 rw [hen]
 apply pure_enter (by simp [c17])
 by_cases h0:e=0
 ·subst h0
  rw [if_neg (by simp)]
  simp [c17,hck,setRun,GP.enc_eq]
  refine W_for T 0 37 p.rules.length (fun i f σ=>f 1=.ptr 0 0∧f 6=.int .i64 (i:Int)∧1≤σ.length∧σ[0]?=some (pCells p)∧∀ j,(hj:j<p.rules.length)→j<i→lostB p.rules[j]=false) ?_ _ _ ?_
  ·rintro i f σ hi ⟨h1,h6,hN,y0,hall⟩
   have z0:=y0
   unfold pCells at z0
   by_cases hlt:i<p.rules.length
   ·have hw:IntKind.i64.wrap ((i:Int)+1)=(i:Int)+1:=wr64 (by omega) (by omega)
    have e1:p.rules[i]?=some p.rules[i]:=zqF hlt
    have hc:=callRPlace p.rules[i] (hr _ (zqT hlt))
    simp only [GR.enc_eq] at hc
    cases hq:placeP p.rules[i] with
    | none=>
     have hlo:lostB p.rules[i]=true:=by unfold lostB; rw [hq]; rfl
     have hix:=idx_at hlt hall hlo
     rw [hq] at hc
     simp [-getElem?_pos,zqA,zqB,zqE,zqD,h1,h6,z0,hlt,e1,hc,resPl,nilPl,GPl.enc,setRun,hix,GR.enc_eq]
     done
    | some q=>
     have hlo:lostB p.rules[i]=false:=by unfold lostB; rw [hq]; rfl
     rw [hq] at hc
     simp [-getElem?_pos,zqA,zqB,zqE,zqD,list_set_at,h1,h6,z0,hlt,e1,hc,resPl,nilPl,GPl.enc,setRun,hw,GR.enc_eq]
     refine ⟨?_,fun j hj hji=>?_⟩
     ·rw [zqA (by omega)]; exact y0
     ·by_cases hje:j=i
      ·subst hje; exact hlo
      ·exact hall j hj (by omega)
   ·have he:i=p.rules.length:=by omega
    have hix:idxG lostB p.rules=-1:=idx_none fun j hj=>hall j hj (by omega)
    simp [h1,h6,z0,hlt,hix]
    done
  ·simp [pCells]
 ·simp [c17,hck,h0,setRun,GP.enc_eq]
  done
theorem callRCheckL (p:GP) (hp:p.size≤1000000000) (hr:∀ r∈p.rules,r.size≤100000000) (hl:p.rules.length≤100000000) (bs:Nat) (σ:Heap):callT T 17 [p.enc] bs σ=some (res2 (checkL p),σ):=call_clean rfl rfl rfl (by simp) (rCheck7_ok p hp hr hl)
set_option maxRecDepth 100000
open Go.Mach
def blkC:ACode→ACode
 | .block _ c=>c
 | c=>c
def loopC:ACode→ACode
 | .loop c=>c
 | c=>c
abbrev TB:ACode:=c6.body
abbrev TL:ACode:=loopC (blkC (sndC (fstC (sndC (sndC TB)))))
abbrev TR:ACode:=sndC (blkC (fstC (sndC (sndC TL))))
theorem tells_round (q:GP) (hq:q.size≤1000000000) (hr:∀ r∈q.rules,r.size≤100000000) (hrl:q.rules.length≤100000000) (j:Nat) (k:List Fr) (Q:AExit→FR→Heap→Prop) (f:FR) (σ:Heap) (h9:f 9=.ptr j 0) (y0:σ[j]?=some (pCells q))
  (hK:∀ f' σ',f' 3=f 3→f' 7=f 7→f' 26=f 26→f' 27=f 27→f' 28=f 28→σ.length≤σ'.length→(∀ i,i<σ.length→σ'[i]?=σ[i]?)→wpK T 0 89 k f' σ' Q):wpK T 0 89 (.code TR :: k) f σ Q:=by
 have hc1:=callCheckL q hq hr hrl
 have hc2:=callRCheckL q hq hr hrl
 simp only [GP.enc_eq] at hc1 hc2
 generalize checkL q=C at hc1 hc2
 obtain ⟨e,n⟩:=C
 have z0:=y0
 unfold pCells at z0
 simp [TR,TL,TB,c6,sndC,fstC,blkC,loopC,h9,z0,hc1,hc2]
 refine W_for T 0 89 64 (fun i g τ=>g 3=f 3∧g 7=f 7∧g 26=f 26∧g 27=f 27∧g 28=f 28∧g 9=.ptr j 0∧g 14=.int .i64 (i:Int)∧σ.length≤τ.length∧∀ i,i<σ.length→τ[i]?=σ[i]?) ?_ _ _ ?_
 ·rintro i g τ hi ⟨g3,g7,g26,g27,g28,g9,g14,hl,hkeep⟩
  have hjl:j<σ.length:=(zqI.1 y0).1
  have x0:τ[j]?=some (.cells [.isl (q.decls.map GD.enc) false,.isl (q.facts.map GU.enc) false,.isl (q.rules.map GR.enc) false] 0 false):=by rw [hkeep j hjl]; exact z0
  have hjt:j<τ.length:=by omega
  have x1:∀ o,(τ++[o])[j]?=some (.cells [.isl (q.decls.map GD.enc) false,.isl (q.facts.map GU.enc) false,.isl (q.rules.map GR.enc) false] 0 false):=fun o=>by rw [zqA hjt]; exact x0
  by_cases hlt:i<q.rules.length
  ·by_cases h64:i<64
   ·have hw:IntKind.i64.wrap ((i:Int)+1)=(i:Int)+1:=wr64 (by omega) (by omega)
    have e1:q.rules[i]?=some q.rules[i]:=zqF hlt
    have hp1:=callPlace q.rules[i] (hr _ (zqT hlt))
    have hp2:=callRPlace q.rules[i] (hr _ (zqT hlt))
    simp only [GR.enc_eq] at hp1 hp2
    generalize placeP q.rules[i]=P at hp1 hp2
    have hP:resPl P=.tup [.agg [.str (P.getD nilPl).from',.str (P.getD nilPl).to,.str (P.getD nilPl).head],.bool P.isSome]:=rfl
    rw [hP] at hp1 hp2
    have i64:(i:Int)<64:=by omega
    simp [-getElem?_pos,zqA,zqB,zqE,zqD,list_set_at,g3,g7,g26,g27,g28,g9,g14,x0,x1,hlt,h64,i64,e1,hp1,hp2,setRun,hw,GR.enc_eq,hjt]
    exact ⟨by omega,fun m hm=>by rw [zqA (by omega)]; exact hkeep m hm⟩
   ·have h64':¬ ((i:Int)<64):=by omega
    simp [-getElem?_pos,g3,g7,g26,g27,g28,g9,g14,x0,hlt,h64,h64']
    refine hK _ _ ?_ ?_ ?_ ?_ ?_ hl hkeep <;> simp [g3,g7,g26,g27,g28]
  ·simp [-getElem?_pos,g3,g7,g26,g27,g28,g9,g14,x0,hlt]
   refine hK _ _ ?_ ?_ ?_ ?_ ?_ hl hkeep <;> simp [g3,g7,g26,g27,g28]
 ·simp [h9]
set_option maxHeartbeats 2000000 in
theorem locateTells_ok (p:GP) (rules:List (List GRaw)) (facts:List GRaw) (hp:p.ok) (hs:p.size≤1048576) (hr:RawsOk rules) (hf:FactsOk facts):pureT T c6 [p.enc,.isl (encRR rules) false,.isl (facts.map GRaw.enc) false]=some (.bool true):=by
 obtain ⟨fs,rs,h6,h12,hrs,_,hP,hC⟩:=raw_prog rules facts hr hf
 obtain ⟨hc1,hs1⟩:=hC rs (fun _ h=>h) (by omega)
 have hfit:=callFit4 p hp hs
 have hle:=progOf_le p
 generalize progOf p=u at hfit hle
 have size:∀ q:GP,q.size≤50000000→∀ r∈q.rules,r.size≤100000000:=fun q hq r hrm=>by
  have:=GP.rules_mem q hrm
  omega
 have lens:∀ q:GP,q.size≤50000000→q.rules.length≤100000000:=fun q hq=>by
  have:=GP.rules_len q
  omega
 have hs2:(GP.mk relsD fs rs).size≤1000000000:=hs1
 have hrs2:∀ r∈(GP.mk relsD fs rs).rules,r.size≤100000000:=fun r h=>by
  have:=rulesR_size rules r (by rw [←hrs]; exact h)
  omega
 have round1:=fun j k Q f σ=>tells_round p (by omega) (size p (by omega)) (lens p (by omega)) j k Q f σ
 have round2:=fun j k Q f σ=>tells_round (GP.mk relsD fs rs) hs2 hrs2 (by show rs.length≤_; omega) j k Q f σ
 have round3:=fun j k Q f σ=>tells_round u (by omega) (size u (by omega)) (lens u (by omega)) j k Q f σ
 simp only [GP.enc_eq] at hfit
 apply pure_enter (by simp [c6])
 have hTB:TB=.seq (fstC TB) (.seq (fstC (sndC TB)) (.seq (.seq (fstC (fstC (sndC (sndC TB)))) (.block 0 (.loop (.seq (fstC TL) (.seq (fstC (sndC TL)) (.seq (.block 1 (.seq (fstC (blkC (fstC (sndC (sndC TL))))) TR)) (sndC (sndC (sndC TL))))))))) (sndC (sndC (sndC TB))))):=rfl
 show wpK T 0 89 [.code TB] _ [] _
 rw [hTB]
 generalize TR=K at round1 round2 round3
 simp [TL,TB,c6,sndC,fstC,blkC,loopC,callAwake7,hP,hfit,setRun,GP.enc_eq]
 refine W_for T 0 89 3 (fun i f σ=>f 7=.bool true∧f 26=.sl 1 0 3 3 true∧f 27=.int .i64 3∧f 28=.int .i64 (i:Int)∧2≤σ.length∧σ[1]?=some (.cells [.isl (p.decls.map GD.enc) false,.isl (p.facts.map GU.enc) false,.isl (p.rules.map GR.enc) false,.isl (relsD.map GD.enc) false,.isl (fs.map GU.enc) false,.isl (rs.map GR.enc) false,.isl (u.decls.map GD.enc) false,.isl (u.facts.map GU.enc) false,.isl (u.rules.map GR.enc) false] 0 false)) ?_ _ _ ?_
 ·rintro i f σ hi ⟨h7,h26,h27,h28,hN,x1⟩
  rcases (by omega:i=0∨i=1∨i=2∨i=3) with rfl | rfl | rfl | rfl
  ·have hw:IntKind.i64.wrap ((0:Int)+1)=1:=by decide
   simp [-getElem?_pos,zqA,zqB,zqE,zqD,list_set_at,h7,h26,h27,h28,x1,window,setRun]
   refine round1 σ.length _ _ _ _ ?_ ?_ fun f' σ' g3 g7 g26 g27 g28 hl hk=>?_
   ·simp
   ·simp [pCells]
   ·simp [h7,h26,h27,h28] at g3 g7 g26 g27 g28
    have hk1:=hk 1 (by simp; omega)
    rw [zqA (by omega),x1] at hk1
    simp [g3,g7,g26,g27,g28]
    simp at hl
    exact ⟨by decide,by omega,hk1⟩
  ·have hw:IntKind.i64.wrap ((1:Int)+1)=2:=by decide
   simp [-getElem?_pos,zqA,zqB,zqE,zqD,list_set_at,h7,h26,h27,h28,x1,window,setRun]
   refine round2 σ.length _ _ _ _ ?_ ?_ fun f' σ' g3 g7 g26 g27 g28 hl hk=>?_
   ·simp
   ·simp [pCells]
   ·simp [h7,h26,h27,h28] at g3 g7 g26 g27 g28
    have hk1:=hk 1 (by simp; omega)
    rw [zqA (by omega),x1] at hk1
    simp [g3,g7,g26,g27,g28]
    simp at hl
    exact ⟨by decide,by omega,hk1⟩
  ·have hw:IntKind.i64.wrap ((2:Int)+1)=3:=by decide
   simp [-getElem?_pos,zqA,zqB,zqE,zqD,list_set_at,h7,h26,h27,h28,x1,window,setRun]
   refine round3 σ.length _ _ _ _ ?_ ?_ fun f' σ' g3 g7 g26 g27 g28 hl hk=>?_
   ·simp
   ·simp [pCells]
   ·simp [h7,h26,h27,h28] at g3 g7 g26 g27 g28
    have hk1:=hk 1 (by simp; omega)
    rw [zqA (by omega),x1] at hk1
    simp [g3,g7,g26,g27,g28]
    simp at hl
    exact ⟨by decide,by omega,hk1⟩
  ·simp [h7,h26,h27,h28]
 ·simp [flat,AV.cells,setRun]
  done
end Go.Proofs.YtjfgjnlocadpbaaGreatDoor
end
