import Derived.Test.YtkempedphjopmaaC5
set_option linter.unusedVariables false
set_option linter.unusedSimpArgs false
set_option linter.unnecessarySimpa false
section
namespace Go.Proofs.Ytkempedphjopmaa
open Go.Mach
namespace GF
def enc (b:GF):AV:=.agg [.str b.frm,.str b.to,.int .i64 b.start,.int .i64 b.seq,.isl (b.rows.map GW.enc) false]
theorem enc_eq (b:GF):b.enc=.agg [.str b.frm,.str b.to,.int .i64 b.start,.int .i64 b.seq,.isl (b.rows.map GW.enc) false]:=rfl
theorem enc_mk (a b:ByteArray) (s q:Int) (l:List GW):AV.agg [.str a,.str b,.int .i64 s,.int .i64 q,.isl (l.map GW.enc) false]=enc ⟨a,b,s,q,l⟩:=rfl
@[simp] theorem enc_cells (b:GF):b.enc.cells=[.str b.frm,.str b.to,.int .i64 b.start,.int .i64 b.seq,.isl (b.rows.map GW.enc) false]:=rfl
@[simp] theorem enc_solid (b:GF):b.enc.solid=true:=rfl
@[simp] theorem enc_head (b:GF) (xs:List AV):headYld (b.enc :: xs)=false:=by cases b; exact headYld_agg _ _
@[simp] theorem enc_clean (b:GF):b.enc.clean=true:=rfl
@[simp] theorem enc_datR (b:GF):b.enc.datR=true:=rfl
@[simp] theorem enc_dat (b:GF):b.enc.dat=true:=rfl
@[simp] theorem enc_clo (b:GF):b.enc.clo=true:=rfl
@[simp] theorem enc_clo1 (b:GF):b.enc.clo1=false:=rfl
@[simp] theorem enc_closeR (σ:Heap) (b:GF):closeR σ b.enc=some (b.enc,σ):=rfl
end GF
structure SzW (x:GW):Prop where
 name:x.name.size≤10000000
 args:GV.sizes x.args≤100000000
def sizesW:List GW→Nat
 | []=>0
 | x :: l=>GV.sizes x.args+sizesW l
structure SzF (b:GF):Prop where
 tot:sizesW b.rows≤100000000
 frm:b.frm.size≤10000000
 to:b.to.size≤10000000
 len:b.rows.length≤10000000
 rows:∀ x∈b.rows,SzW x
theorem near_ok (n:Int):pureT T c39 [.int .i64 n]=some (.bool (nearB n)):=by
 apply pure_enter (by simp [c39])
 by_cases h:0≤n
 ·by_cases h2:n≤1099511627776
  ·simp [c39,h,h2,nearB]
  ·simp [c39,h,h2,nearB]
 ·simp [c39,h,nearB]
theorem callNear (n:Int) (bs:Nat) (σ:Heap):callT T 39 [.int .i64 n] bs σ=some (.bool (sym (nearB n)),σ):=call_clean rfl rfl rfl rfl (near_ok n)
theorem rightRow_ok (x:GW) (to:ByteArray) (hs:SzW x):pureT T c40 [x.enc,.str to]=some (.bool (rowOK to x)):=by
 obtain ⟨nm,args,st⟩:=x
 have hs1:nm.size≤10000000:=hs.name
 have hs2:GV.sizes args≤100000000:=hs.args
 have hn:=name_call nm (by omega)
 have hnr:=callNear st
 have hll:=len_sizes args
 apply pure_enter (by simp [c40])
 cases h1:nameOK nm with
 | false=>simp [c40,GW.enc_eq,hn,h1,rowOK]
 | true=>
  by_cases h2:args=[]
  ·subst h2
   simp [c40,GW.enc_eq,hn,h1,rowOK,GV.encs]
  ·obtain ⟨v0,tl,hv0⟩:=List.exists_cons_of_ne_nil h2
   have h2':1≤args.length:=List.length_pos_iff.2 h2
   have h2i:¬ (args.length:Int)<1:=by omega
   by_cases h3:args.length≤8
   ·have h3i:¬ 8<(args.length:Int):=by omega
    cases h4:nearB st with
    | false=>simp [c40,GW.enc_eq,hn,h1,h2i,h3i,hnr,h4,rowOK]
    | true=>
     simp [c40,GW.enc_eq,hn,h1,h2i,h3i,hnr,h4,rowOK,h2',h3]
     refine W_for T 0 55 args.length (fun i f τ=>f 1=.str to∧f 2=.ptr 0 0∧f 30=.isl (GV.encs args) false∧f 31=.int .i64 (args.length:Int)∧f 32=.int .i64 (i:Int)∧(∃ J:Heap,τ=[.cells [.str nm,.isl (GV.encs args) false,.int .i64 st] 0 false]++J)∧∀ v∈args.take i,rightV 4 v=true) ?_ _ _ ?_
     ·rintro i f τ hi ⟨f1,f2,f30,f31,f32,⟨J,rfl⟩,hall⟩
      by_cases hlt:i<args.length
      ·have w1:IntKind.i64.wrap ((i:Int)+1)=(i:Int)+1:=wr64 (by omega) (by omega)
       have hm:=sizes_mem (zqT hlt)
       have hr:=valRight args[i] (by omega)
       simp [f1,f2,f30,f31,f32,hlt,w1,setRun,hr,rightT]
       refine ⟨fun h v hv=>?_,fun h h2=>by rw [h2 _ (zqT hlt)] at h; cases h⟩
       rw [List.take_add_one,zqF hlt] at hv
       rcases List.mem_append.1 hv with hv | hv
       ·exact hall v hv
       ·simp at hv; rw [hv]; exact h
      ·have he:i=args.length:=by omega
       subst he
       rw [List.take_of_length_le (Nat.le_refl _)] at hall
       have hal:args.all (rightV 4)=true:=zqQ.2 hall
       have hg:args[0]?=some v0:=by rw [hv0]; rfl
       have hh:headB to args=(decide (v0.kind=3) && decide (v0.text=to)):=by rw [hv0]; rfl
       by_cases hk:v0.kind=3
       ·simp [f1,f2,f30,f31,f32,hg,hk,hal,hh]
        done
       ·simp [f1,f2,f30,f31,f32,hg,hk,hal,hh]
     ·simp
   ·have h3i:8<(args.length:Int):=by omega
    simp [c40,GW.enc_eq,hn,h1,h2i,h3i,rowOK,h3]
theorem callRow (x:GW) (to:ByteArray) (hs:SzW x) (bs:Nat) (σ:Heap):callT T 40 [x.enc,.str to] bs σ=some (.bool (sym (rowOK to x)),σ):=call_clean rfl rfl rfl (by simp) (rightRow_ok x to hs)
open Classical in
noncomputable def fokB (b:GF):Bool:=decide (FOk b)
theorem fokB_t {b:GF}:fokB b=true↔FOk b:=by simp [fokB]
theorem fokB_f {b:GF} (h:¬ FOk b):fokB b=false:=by simp [fokB,h]
theorem SzW.sz {x:GW} (h:SzW x):szW x:=by have:=h.args; unfold szW; omega
theorem rowsOK_succ {to:ByteArray} {l:List GW} {i:Nat} (h:rowsOK to l i) (hi:i<l.length) (h1:rowOK to l[i]=true) (h2:i=0∨∀ y,l[i - 1]?=some y→cmpW y l[i]<0):rowsOK to l (i+1):=by
 intro k hk x hx
 by_cases e:k=i
 ·subst e
  rw [zqF hi] at hx; injection hx with hx; subst hx
  exact ⟨h1,h2⟩
 ·exact h k (by omega) x hx
theorem frameRight_ok (b:GF) (hs:SzF b):pureT T c20 [b.enc]=some (.bool (fokB b)):=by
 obtain ⟨fr,to,st,sq,rows⟩:=b
 have s1:fr.size≤10000000:=hs.frm
 have s2:to.size≤10000000:=hs.to
 have s3:rows.length≤10000000:=hs.len
 have s4:∀ x∈rows,SzW x:=hs.rows
 have n1:=name_call fr (by omega)
 have n2:=name_call to (by omega)
 have n3:=callNear st
 have n4:=callNear sq
 apply pure_enter (by simp [c20])
 cases h1:nameOK fr with
 | false=>
  have hf:=fokB_f (b:=⟨fr,to,st,sq,rows⟩) fun h=>by have:=h.frm; simp [h1] at this
  simp [c20,GF.enc_eq,n1,h1,hf]
 | true=>
  cases h2:nameOK to with
  | false=>
   have hf:=fokB_f (b:=⟨fr,to,st,sq,rows⟩) fun h=>by have:=h.to; simp [h2] at this
   simp [c20,GF.enc_eq,n1,h1,n2,h2,hf]
  | true=>
   by_cases h3:fr=to
   ·have hf:=fokB_f (b:=⟨fr,to,st,sq,rows⟩) fun h=>h.ne h3
    subst h3
    simp [c20,GF.enc_eq,n1,h1,n2,h2,hf]
   ·have h3':(fr.toList == to.toList)=false:=by
     rw [beq_eq_false_iff_ne,ByteArray.toList_eq,ByteArray.toList_eq]
     intro h; exact h3 (bl_inj.1 h)
    cases h4:nearB st with
    | false=>
     have hf:=fokB_f (b:=⟨fr,to,st,sq,rows⟩) fun h=>by have:=h.start; simp [h4] at this
     simp [c20,GF.enc_eq,n1,h1,n2,h2,h3,n3,h4,hf]
    | true=>
     cases h5:nearB sq with
     | false=>
      have hf:=fokB_f (b:=⟨fr,to,st,sq,rows⟩) fun h=>by have:=h.seq; simp [h5] at this
      simp [c20,GF.enc_eq,n1,h1,n2,h2,h3,n3,h4,n4,h5,hf]
     | true=>
      by_cases h6:rows.length≤400
      ·have h6i:¬ 400<(rows.length:Int):=by omega
       simp [c20,GF.enc_eq,n1,h1,n2,h2,h3,n3,h4,n4,h5,h6i]
       refine W_for T 0 69 rows.length (fun i f τ=>f 1=.ptr 0 0∧f 41=.isl (rows.map GW.enc) false∧f 42=.int .i64 (rows.length:Int)∧f 43=.int .i64 (i:Int)∧(∃ J:Heap,τ=[.cells [.str fr,.str to,.int .i64 st,.int .i64 sq,.isl (rows.map GW.enc) false] 0 false]++J)∧rowsOK to rows i) ?_ _ _ ?_
       ·rintro i f τ hi ⟨f1,f41,f42,f43,⟨J,rfl⟩,hall⟩
        by_cases hlt:i<rows.length
        ·have w1:IntKind.i64.wrap ((i:Int)+1)=(i:Int)+1:=wr64 (by omega) (by omega)
         have hr:=callRow rows[i] to (s4 _ (zqT hlt))
         rw [GW.enc_eq] at hr
         by_cases hi0:i=0
         ·subst hi0
          have hg:rows[0]?=some rows[0]:=zqF hlt
          simp [f1,f41,f42,f43,hlt,setRun,GW.enc_eq,hr,hg]
          refine ⟨fun h=>⟨by decide,rowsOK_succ hall hlt h (.inl rfl)⟩,fun h=>fokB_f fun hf=>?_⟩
          have:=(hf.rows 0 hlt _ hg).1
          rw [h] at this; cases this
         ·have hlt1:i - 1<rows.length:=by omega
          have hg:rows[i]?=some rows[i]:=zqF hlt
          have hg1:rows[i - 1]?=some rows[i - 1]:=zqF hlt1
          have w0:IntKind.i64.wrap ((i:Int) - 1)=((i - 1:Nat):Int):=by rw [wr64 (by omega) (by omega)]; omega
          have hp:(0:Int)<(i:Int):=by omega
          have hc:=callCmpW rows[i - 1] rows[i] (s4 _ (zqT hlt1)).sz
          rw [GW.enc_eq,GW.enc_eq] at hc
          simp [f1,f41,f42,f43,hlt,setRun,GW.enc_eq,hr,hg,hg1,w0,w1,hp,hlt1,hc]
          refine ⟨fun h=>⟨fun _=>⟨fun h2=>fokB_f fun hf=>?_,fun h2=>rowsOK_succ hall hlt h (.inr fun y hy=>?_)⟩,fun e=>absurd e hi0⟩,fun h=>fokB_f fun hf=>?_⟩
          ·rcases (hf.rows i hlt _ hg).2 with e | e
           ·exact hi0 e
           ·have:=e _ hg1; omega
          ·rw [hg1] at hy; injection hy with hy; rw [←hy]; exact h2
          ·have:=(hf.rows i hlt _ hg).1
           rw [h] at this; cases this
        ·have he:i=rows.length:=by omega
         subst he
         have hf:fokB ⟨fr,to,st,sq,rows⟩=true:=fokB_t.2 ⟨h1,h2,h3,h4,h5,h6,hall⟩
         simp [f1,f41,f42,f43,hf]
       ·simp
        exact fun k hk=>by omega
      ·have h6i:400<(rows.length:Int):=by omega
       have hf:=fokB_f (b:=⟨fr,to,st,sq,rows⟩) fun h=>h6 h.len
       simp [c20,GF.enc_eq,n1,h1,n2,h2,h3,n3,h4,n4,h5,h6i,hf]
theorem callFRight (b:GF) (hs:SzF b) (bs:Nat) (σ:Heap):callT T 20 [b.enc] bs σ=some (.bool (sym (fokB b)),σ):=call_clean rfl rfl rfl (by simp) (frameRight_ok b hs)
theorem ref10Cmp_ok (a b:GW) (hs:SzW a):pureT T c43 [a.enc,b.enc]=some (.int .i64 (cmpW a b)):=by
 have hs':=hs.args
 have hc:=refCmp (.mk 4 0 ⟨#[]⟩ a.args) (.mk 4 0 ⟨#[]⟩ b.args) (by
  have:(GV.mk 4 0 ⟨#[]⟩ a.args).size=(⟨#[]⟩:ByteArray).size+GV.sizes a.args+5:=rfl
  have h0:(⟨#[]⟩:ByteArray).size=0:=rfl
  omega)
 have hz:cmpV (.mk 4 0 ⟨#[]⟩ a.args) (.mk 4 0 ⟨#[]⟩ b.args)=cmpVs a.args b.args:=by simp [cmpV,cmpI]
 rw [hz] at hc
 simp only [GV.enc_eq,GV.kind,GV.num,GV.text,GV.items] at hc
 apply pure_enter (by simp [c43])
 have he:=cmpS_eq a.name b.name
 by_cases h:a.name=b.name
 ·have h0:Lib.compareBytes b.name.data.toList b.name.data.toList=0:=by have:=cmpB_neg b.name.data.toList b.name.data.toList; omega
  simp [c43,GW.enc_eq,h,hc,cmpW,h0]
 ·have hne:¬ a.name.data.toList=b.name.data.toList:=fun e=>h (bl_inj.1 e)
  have h1:=cmpB_eq a.name.data.toList b.name.data.toList
  cases hb:Op.bytesLess a.name.toList b.name.toList with
  | true=>
   have hb':Op.bytesLess a.name.data.toList b.name.data.toList=true:=by rw [←ByteArray.toList_eq,←ByteArray.toList_eq]; exact hb
   rw [hb'] at h1
   simp at h1
   simp [c43,GW.enc_eq,h,hc,cmpW,hb,h1]
  | false=>
   have hb':Op.bytesLess a.name.data.toList b.name.data.toList=false:=by rw [←ByteArray.toList_eq,←ByteArray.toList_eq]; exact hb
   rw [hb',if_neg hne] at h1
   simp at h1
   simp [c43,GW.enc_eq,h,hc,cmpW,hb,h1]
theorem callRef10 (a b:GW) (hs:SzW a) (bs:Nat) (σ:Heap):callT T 43 [a.enc,b.enc] bs σ=some (.int .i64 (cmpW a b),σ):=call_clean rfl rfl rfl (by simp) (ref10Cmp_ok a b hs)
open Go.Mach
theorem refRight15_ok (b:GF) (hs:SzF b):pureT T c24 [b.enc]=some (.bool (fokB b)):=by
 obtain ⟨fr,to,st,sq,rows⟩:=b
 have s1:fr.size≤10000000:=hs.frm
 have s2:to.size≤10000000:=hs.to
 have s3:rows.length≤10000000:=hs.len
 have s4:∀ x∈rows,SzW x:=hs.rows
 have n1:=refName_call fr (by omega)
 have n2:=refName_call to (by omega)
 apply pure_enter (by simp [c24])
 cases h1:nameOK fr with
 | false=>
  have hf:=fokB_f (b:=⟨fr,to,st,sq,rows⟩) fun h=>by have:=h.frm; simp [h1] at this
  simp [c24,GF.enc_eq,n1,n2,h1,hf]
 | true=>
  cases h2:nameOK to with
  | false=>
   have hf:=fokB_f (b:=⟨fr,to,st,sq,rows⟩) fun h=>by have:=h.to; simp [h2] at this
   simp [c24,GF.enc_eq,n1,h1,n2,h2,hf]
  | true=>
   by_cases h3:fr=to
   ·have hf:=fokB_f (b:=⟨fr,to,st,sq,rows⟩) fun h=>h.ne h3
    subst h3
    simp [c24,GF.enc_eq,n1,h1,n2,h2,hf]
   ·by_cases h4:nearB st=true
    ·have h4':=(nearB_iff st).1 h4
     have h4a:¬ st<0:=by omega
     have h4b:¬ 1099511627776<st:=by omega
     by_cases h5:nearB sq=true
     ·have h5':=(nearB_iff sq).1 h5
      have h5a:¬ sq<0:=by omega
      have h5b:¬ 1099511627776<sq:=by omega
      by_cases h6:rows.length≤400
      ·have h6i:¬ 400<(rows.length:Int):=by omega
       simp [c24,GF.enc_eq,n1,h1,n2,h2,h3,h4a,h4b,h5a,h5b,h6i]
       refine W_for T 0 142 rows.length (fun i f τ=>f 1=.ptr 0 0∧f 5=.int .i64 (i:Int)∧(∃ J:Heap,τ=[.cells [.str fr,.str to,.int .i64 st,.int .i64 sq,.isl (rows.map GW.enc) false] 0 false]++J)∧rowsOK to rows i) ?_ _ _ ?_
       ·rintro i f τ hi ⟨f1,f5,⟨J,rfl⟩,hall⟩
        by_cases hlt:i<rows.length
        ·have w1:IntKind.i64.wrap ((i:Int)+1)=(i:Int)+1:=wr64 (by omega) (by omega)
         have hg:rows[i]?=some rows[i]:=zqF hlt
         have hz:=s4 _ (zqT hlt)
         have hno:rowOK to rows[i]=false→fokB ⟨fr,to,st,sq,rows⟩=false:=fun h=>fokB_f fun hf=>by
          have:=(hf.rows i hlt _ hg).1
          rw [h] at this; cases this
         have hno2:∀ y,i≠0→rows[i - 1]?=some y→0≤cmpW y rows[i]→fokB ⟨fr,to,st,sq,rows⟩=false:=fun y h0 hy h=>fokB_f fun hf=>by
          rcases (hf.rows i hlt _ hg).2 with e | e
          ·exact h0 e
          ·have:=e _ hy; omega
         have hyes:rowOK to rows[i]=true→(i=0∨∀ y,rows[i - 1]?=some y→cmpW y rows[i]<0)→rowsOK to rows (i+1):=fun h h2=>rowsOK_succ hall hlt h h2
         have hprev:i≠0→∃ y,rows[i - 1]?=some y∧SzW y:=fun h0=>⟨rows[i - 1]'(by omega),zqF (by omega),s4 _ (zqT _)⟩
         obtain ⟨nm,args,s,hx⟩:∃ nm args s,rows[i]=⟨nm,args,s⟩:=⟨_,_,_,rfl⟩
         rw [hx] at hg hz hno hno2 hyes
         have z1:nm.size≤10000000:=hz.name
         have z2:GV.sizes args≤100000000:=hz.args
         have hll:=len_sizes args
         have hn:=refName_call nm (by omega)
         cases g1:nameOK nm with
         | false=>
          simp [f1,f5,hlt,setRun,GW.enc_eq,hg,hx,hn,g1,hno (by simp [rowOK,g1])]
         | true=>
          by_cases g2:args=[]
          ·subst g2
           simp [f1,f5,hlt,setRun,GW.enc_eq,hg,hx,hn,g1,hno (by simp [rowOK])]
          ·obtain ⟨v0,tl,hv0⟩:=List.exists_cons_of_ne_nil g2
           have g2':1≤args.length:=List.length_pos_iff.2 g2
           have g2i:¬ (args.length:Int)<1:=by omega
           have hg0:args[0]?=some v0:=by rw [hv0]; rfl
           have hh:headB to args=(decide (v0.kind=3) && decide (v0.text=to)):=by rw [hv0]; rfl
           by_cases g3:args.length≤8
           ·have g3i:¬ 8<(args.length:Int):=by omega
            by_cases g4:nearB s=true
            ·have g4':=(nearB_iff s).1 g4
             have g4a:¬ s<0:=by omega
             have g4b:¬ 1099511627776<s:=by omega
             by_cases g5:v0.kind=3
             ·by_cases g6:v0.text=to
              ·have hpre:(i=0∨∀ y,rows[i - 1]?=some y→cmpW y ⟨nm,args,s⟩<0)∨(i≠0∧∃ y,rows[i - 1]?=some y∧SzW y∧0≤cmpW y ⟨nm,args,s⟩):=by
                by_cases hi0:i=0
                ·exact .inl (.inl hi0)
                ·obtain ⟨y,hy,hy2⟩:=hprev hi0
                 by_cases h:cmpW y ⟨nm,args,s⟩<0
                 ·exact .inl (.inr fun z hz=>by rw [hy] at hz; injection hz with hz; rw [←hz]; exact h)
                 ·exact .inr ⟨hi0,y,hy,hy2,by omega⟩
               have hrow:rowOK to ⟨nm,args,s⟩=args.all (rightV 4):=by simp [rowOK,g1,g2',g3,g4,hh,g5,g6]
               rw [hrow] at hno hyes
               rcases hpre with hpre | ⟨hi0,y,hy,hy2,hcy⟩
               ·have hyes':=fun h=>hyes h hpre
                obtain ⟨a,ha⟩:∃ a,a=J.length+1:=⟨_,rfl⟩
                obtain ⟨J2,hJ2⟩:∃ J2,J2=J++[.cells [.str nm,.isl (GV.encs args) false,.int .i64 s] 0 false]:=⟨_,rfl⟩
                by_cases hi0:i=0
                have hn0:¬ 0<i:=by omega
                simp [f1,f5,hlt,setRun,GW.enc_eq,hg,hx,hn,g1,g2i,g3i,g4a,g4b,hg0,g5,g6,hn0]
                rw [←ha,←hJ2]
                rotate_left
                obtain ⟨y,hy,hy2⟩:=hprev hi0
                have hcy:cmpW y ⟨nm,args,s⟩<0:=by rcases hpre with e | e; exact absurd e hi0; exact e y hy
                have hc:=callRef10 y ⟨nm,args,s⟩ hy2
                have w0:IntKind.i64.wrap ((i:Int) - 1)=((i - 1:Nat):Int):=by rw [wr64 (by omega) (by omega)]; omega
                have hp:0<i:=by omega
                have hlt1:i - 1<rows.length:=by omega
                rw [GW.enc_eq,GW.enc_eq] at hc
                simp [f1,f5,hlt,setRun,GW.enc_eq,hg,hx,hn,g1,g2i,g3i,g4a,g4b,hg0,g5,g6,hp,w0,hy,hc]
                rw [←ha,←hJ2]
                refine ⟨fun h=>absurd h (by omega),fun _=>?_⟩
                rotate_left
                all_goals
                 refine W_for T 0 142 args.length (fun k f' τ'=>f' 1=.ptr 0 0∧f' 5=.int .i64 (i:Int)∧f' 6=.ptr a 0∧f' 8=.int .i64 (k:Int)∧τ'=.cells [.str fr,.str to,.int .i64 st,.int .i64 sq,.isl (rows.map GW.enc) false] 0 false :: J2∧∀ v∈args.take k,rightV 4 v=true) ?_ _ _ ?_
                 ·clear f1 f5 f
                  rintro k f' τ' hk ⟨f1,f5,f6,f8,rfl,hall2⟩
                  have hata:(AObj.cells [.str fr,.str to,.int .i64 st,.int .i64 sq,.isl (rows.map GW.enc) false] 0 false :: J2)[a]?=some (.cells [.str nm,.isl (GV.encs args) false,.int .i64 s] 0 false):=by
                   rw [ha,hJ2]; simp
                  have w2:IntKind.i64.wrap ((k:Int)+1)=(k:Int)+1:=wr64 (by omega) (by omega)
                  by_cases hkt:k<args.length
                  ·have hm:=sizes_mem (zqT hkt)
                   have hr:=refRight args[k] (by omega)
                   simp [f1,f5,f6,f8,hkt,hata,hr,rightT,w1,w2]
                   refine ⟨fun h v hv=>?_,fun h=>hno ?_⟩
                   ·rw [List.take_add_one,zqF hkt] at hv
                    rcases List.mem_append.1 hv with hv | hv
                    ·exact hall2 v hv
                    ·simp at hv; rw [hv]; exact h
                   ·rw [List.all_eq_false]; exact ⟨_,zqT hkt,by simp [h]⟩
                  ·have he:k=args.length:=by omega
                   subst he
                   rw [List.take_of_length_le (Nat.le_refl _)] at hall2
                   simp [f1,f5,f6,f8,hata,w1,w2]
                   exact hyes' (zqQ.2 hall2)
                 ·simp
                  exact ⟨f1,f5⟩
               ·have hc:=callRef10 y ⟨nm,args,s⟩ hy2
                have w0:IntKind.i64.wrap ((i:Int) - 1)=((i - 1:Nat):Int):=by rw [wr64 (by omega) (by omega)]; omega
                have hp:0<i:=by omega
                have hlt1:i - 1<rows.length:=by omega
                rw [GW.enc_eq,GW.enc_eq] at hc
                simp [f1,f5,hlt,setRun,GW.enc_eq,hg,hx,hn,g1,g2i,g3i,g4a,g4b,hg0,g5,g6,hp,w0,hy,hc]
                refine ⟨fun _=>hno2 y hi0 hy hcy,fun h=>absurd h (by omega)⟩
              ·simp [f1,f5,hlt,setRun,GW.enc_eq,hg,hx,hn,g1,g2i,g3i,g4a,g4b,hg0,g5,g6,hno (by simp [rowOK,hh,g6])]
             ·simp [f1,f5,hlt,setRun,GW.enc_eq,hg,hx,hn,g1,g2i,g3i,g4a,g4b,hg0,g5,hno (by simp [rowOK,hh,g5])]
            ·have hf:=hno (by simp [rowOK,g4])
             have g4':¬ (0≤s∧s≤1099511627776):=fun h=>g4 ((nearB_iff s).2 h)
             by_cases g4a:s<0
             ·simp [f1,f5,hlt,setRun,GW.enc_eq,hg,hx,hn,g1,g2i,g3i,g4a,hf]
             ·have g4b:1099511627776<s:=by omega
              simp [f1,f5,hlt,setRun,GW.enc_eq,hg,hx,hn,g1,g2i,g3i,g4a,g4b,hf]
           ·have g3i:8<(args.length:Int):=by omega
            simp [f1,f5,hlt,setRun,GW.enc_eq,hg,hx,hn,g1,g2i,g3i,hno (by simp [rowOK,g3])]
        ·have he:i=rows.length:=by omega
         subst he
         have hf:fokB ⟨fr,to,st,sq,rows⟩=true:=fokB_t.2 ⟨h1,h2,h3,h4,h5,h6,hall⟩
         simp [f1,f5,hf]
       ·simp
        exact fun k hk=>by omega
      ·have h6i:400<(rows.length:Int):=by omega
       have hf:=fokB_f (b:=⟨fr,to,st,sq,rows⟩) fun h=>h6 h.len
       simp [c24,GF.enc_eq,n1,h1,n2,h2,h3,h4a,h4b,h5a,h5b,h6i,hf]
     ·have hf:=fokB_f (b:=⟨fr,to,st,sq,rows⟩) fun h=>h5 h.seq
      have h5':¬ (0≤sq∧sq≤1099511627776):=fun h=>h5 ((nearB_iff sq).2 h)
      by_cases h5a:sq<0
      ·simp [c24,GF.enc_eq,n1,h1,n2,h2,h3,h4a,h4b,h5a,hf]
      ·have h5b:1099511627776<sq:=by omega
       simp [c24,GF.enc_eq,n1,h1,n2,h2,h3,h4a,h4b,h5a,h5b,hf]
    ·have hf:=fokB_f (b:=⟨fr,to,st,sq,rows⟩) fun h=>h4 h.start
     have h4':¬ (0≤st∧st≤1099511627776):=fun h=>h4 ((nearB_iff st).2 h)
     by_cases h4a:st<0
     ·simp [c24,GF.enc_eq,n1,h1,n2,h2,h3,h4a,hf]
     ·have h4b:1099511627776<st:=by omega
      simp [c24,GF.enc_eq,n1,h1,n2,h2,h3,h4a,h4b,hf]
theorem callRRight15 (b:GF) (hs:SzF b) (bs:Nat) (σ:Heap):callT T 24 [b.enc] bs σ=some (.bool (sym (fokB b)),σ):=call_clean rfl rfl rfl (by simp) (refRight15_ok b hs)
theorem rnum_ok (n:Nat) (v:Int) (hn:n≤8):pureT T c26 [.int .i64 n,.int .i64 v]=some (.str (ba (nbB n v))):=by
 apply pure_enter (by simp [c26])
 simp [c26]
 refine W_for T 0 21 n (fun i f τ=>f 0=.int .i64 (n:Int)∧f 1=.int .i64 (v / 256 ^ i)∧f 5=.str (ba (nbB i v))∧f 6=.int .i64 (i:Int)) ?_ _ _ ?_
 ·rintro i f τ hi ⟨f0,f1,f5,f6⟩
  by_cases hlt:i<n
  ·have w1:IntKind.i64.wrap ((i:Int)+1)=(i:Int)+1:=wr64 (by omega) (by omega)
   have hb:=b2s_bv (σ:=τ++[.cells [.int .u8 ((byteI (v / 256 ^ i)).toNat:Int)] 0 false]) (id:=τ.length) (l:=[byteI (v / 256 ^ i)]) (fz:=0) (ext:=false) (n:=1) (by simp [bv]) rfl
   have hs:=nbB_cons i v
   have hq:(v / 256 ^ i).fdiv 256=v / 256 ^ (i+1):=by
    rw [Int.fdiv_eq_ediv_of_nonneg _ (by omega),Int.ediv_ediv_of_nonneg (Int.le_of_lt (Int.pow_pos (by omega))),Int.pow_succ]
   have hle:(1:Int)+(i:Int)≤9223372036854775807:=by omega
   have hap:(⟨#[byteI (v / 256 ^ i)]⟩:ByteArray)++ba (nbB i v)=ba (nbB (i+1) v):=by rw [hs]; exact ba_append [byteI (v / 256 ^ i)] (nbB i v)
   have hsz:(⟨#[byteI (v / 256 ^ i)]⟩:ByteArray).size=1:=rfl
   simp [f0,f1,f5,f6,hlt,w1,wru8_byte,setRun,hb,hap,hsz,hle,hq]
  ·have he:i=n:=by omega
   subst he
   simp [f0,f1,f5,f6]
 ·simp [nbB,ba]
theorem rnum (n:Nat) (v:Int) (hn:n≤8) (bs:Nat) (σ:Heap):callT T 26 [.int .i64 n,.int .i64 v] bs σ=some (.str (ba (nbB n v)),σ):=call_clean rfl rfl rfl rfl (rnum_ok n v hn)
open Go.Mach
theorem rtext_ok (s:ByteArray) (hs:s.size≤100000000):pureT T c25 [.str s]=some (.str (ba (textB s))):=by
 have h1:=fun bs σ=>rnum 1 (s.size:Int) (by omega) bs σ
 have hle:(1:Int)+(s.size:Int)≤9223372036854775807:=by omega
 have hap:ba (nbB 1 (s.size:Int))++s=ba (textB s):=by
  have:=ba_append (nbB 1 (s.size:Int)) (bl s)
  rw [ba_bl] at this; exact this
 have h1':∀ bs σ,callT T 26 [.int .i64 1,.int .i64 (s.size:Int)] bs σ=some (.str (ba (nbB 1 (s.size:Int))),σ):=h1
 apply pure_enter (by simp [c25])
 simp [c25,h1',hle,hap]
theorem rtext (s:ByteArray) (hs:s.size≤100000000) (bs:Nat) (σ:Heap):callT T 25 [.str s] bs σ=some (.str (ba (textB s)),σ):=call_clean rfl rfl rfl rfl (rtext_ok s hs)
theorem laid_ok:∀ (d:Nat) (v:GV),rightV d v=true→v.size≤100000000→pureT T c27 [v.enc]=some (.str (ba (valB v)))
 | d,.mk k n t l,h,hs=>by
  have hsz:t.size+GV.sizes l+5≤100000000:=hs
  have hll:=len_sizes l
  have h1:∀ bs σ,callT T 26 [.int .i64 1,.int .i64 k] bs σ=some (.str (ba (nbB 1 k)),σ):=fun bs σ=>rnum 1 k (by omega) bs σ
  have h8:∀ bs σ,callT T 26 [.int .i64 8,.int .i64 n] bs σ=some (.str (ba (nbB 8 n)),σ):=fun bs σ=>rnum 8 n (by omega) bs σ
  have hl1:∀ bs σ,callT T 26 [.int .i64 1,.int .i64 (l.length:Int)] bs σ=some (.str (ba (nbB 1 (l.length:Int))),σ):=fun bs σ=>rnum 1 _ (by omega) bs σ
  have ht:=rtext t (by omega)
  apply pure_enter (by simp [c27])
  by_cases k1:k=1
  ·subst k1
   simp [c27,GV.kind,GV.num,GV.text,GV.items,h1,h8,ba_append,valB]
  ·by_cases k4:k=4
   ·subst k4
    have k2:¬ (4:Int)=2:=by omega
    have k3:¬ (4:Int)=3:=by omega
    have hsub:∀ x∈l,∀ bs σ,callT T 27 [x.enc] bs σ=some (.str (ba (valB x)),σ):=fun x hx bs σ=>by
     cases d with
     | zero=>simp [rightV,rightB,GV.kind] at h
     | succ d=>
      simp [rightV,rightB,GV.kind,GV.num,GV.text,GV.items] at h
      exact call_clean rfl rfl rfl (by simp) (laid_ok d x (h.2.2.2 x hx) (by have:=(sizes_mem hx).1; omega))
    simp [c27,GV.kind,GV.num,GV.text,GV.items,h1,hl1,ba_append,valB]
    refine W_for T 0 47 l.length (fun i f τ=>f 1=.ptr 0 0∧f 3=.str (ba (nbB 1 4++(nbB 1 (l.length:Int)++valsB (l.take i))))∧f 4=.int .i64 (i:Int)∧τ=[.cells [.int .i64 4,.int .i64 n,.str t,.isl (GV.encs l) false] 0 false]) ?_ _ _ ?_
    ·rintro i f τ hi ⟨f1,f3,f4,rfl⟩
     by_cases hlt:i<l.length
     ·have w1:IntKind.i64.wrap ((i:Int)+1)=(i:Int)+1:=wr64 (by omega) (by omega)
      have hc:=hsub l[i] (zqT hlt)
      have hv1:=valsB_len (l.take i)
      have hv2:=sizes_take hlt
      have hv3:=valB_len l[i]
      have hle:(1:Int)+(1+((valsB (l.take i)).length:Int))+((valB l[i]).length:Int)≤9223372036854775807:=by omega
      have hle2:(1+(1+(valsB (l.take i)).length))+(valB l[i]).length≤9223372036854775807:=by omega
      simp [f1,f3,f4,hlt,w1,hc,ba_append,valsB_snoc hlt,hle]
     ·have he:i=l.length:=by omega
      subst he
      simp [f1,f3,f4]
    ·simp [valsB]
   ·have k23:k=2∨k=3:=by
     by_cases k2:k=2
     ·exact .inl k2
     ·by_cases k3:k=3
      ·exact .inr k3
      ·cases d <;> simp [rightV,rightB,k1,k2,k3,k4] at h
    have hle:(1:Int)+((textB t).length:Int)≤9223372036854775807:=by simp [textB,bl_len]; omega
    have hv:valB (.mk k n t l)=nbB 1 k++textB t:=by simp [valB,k1,k4]
    rcases k23 with rfl | rfl
    ·simp [c27,GV.kind,GV.num,GV.text,GV.items,h1,ht,ba_append,hv,hle]
    ·simp [c27,GV.kind,GV.num,GV.text,GV.items,h1,ht,ba_append,hv,hle]
theorem callLaid {v:GV} (h:rightV 4 v=true) (hs:v.size≤100000000) (bs:Nat) (σ:Heap):callT T 27 [v.enc] bs σ=some (.str (ba (valB v)),σ):=call_clean rfl rfl rfl (by simp) (laid_ok 4 v h hs)
theorem step32 (h:BitVec 32) (c:UInt8):IntKind.u32.wrap (IntKind.u32.wrap (xorI .u32 (h.toNat:Int) (IntKind.u32.wrap (c.toNat:Int))) * 16777619)=((fstep h c).toNat:Int):=by
 have hc:=c.toNat_lt
 have hh:=h.isLt
 have hx:h.toNat ^^^ c.toNat<4294967296:=Nat.xor_lt_two_pow (n:=32) hh (by omega)
 rw [wru32 (n:=(c.toNat:Int)) (by omega) (by omega),xorI_nat .u32 (by simpa using hh) (by simp; omega),wru32 (n:=((h.toNat ^^^ c.toNat:Nat):Int)) (by omega) (by omega)]
 have:(((h.toNat ^^^ c.toNat:Nat):Int) * 16777619)=(((h.toNat ^^^ c.toNat) * 16777619:Nat):Int):=by omega
 rw [this,wru32_mod,fstep_nat]
theorem sumL_snoc {l:List UInt8} {i:Nat} (h:i<l.length):sumL (l.take (i+1))=fstep (sumL (l.take i)) l[i]:=by
 rw [List.take_add_one,zqF h,sumL,sumL,List.foldl_append]; rfl
theorem sum_ok (l:List UInt8) (hs:l.length≤1000000000):pureT T c11 [.str (ba l)]=some (.int .u32 ((sumL l).toNat:Int)):=by
 apply pure_enter (by simp [c11])
 have hu:u8s (ba l)=bv l:=by rw [u8s_bv]; show bv (bl (ba l))=_; rw [bl_ba]
 simp [c11,hu]
 refine W_for T 0 20 l.length (fun i f τ=>f 9=.int .i64 (i:Int)∧f 8=.int .i64 (l.length:Int)∧f 7=.sl 0 0 l.length 1 false∧f 3=.int .u32 ((sumL (l.take i)).toNat:Int)∧τ=[.cells (bv l) 0 true]) ?_ _ _ ?_
 ·rintro i f τ hi ⟨f9,f8,f7,f3,rfl⟩
  by_cases hlt:i<l.length
  ·have w1:IntKind.i64.wrap ((i:Int)+1)=(i:Int)+1:=wr64 (by omega) (by omega)
   have hw:=bv_win hlt
   have hst:=step32 (sumL (l.take i)) l[i]
   simp [f9,f8,f7,f3,hlt,w1,hw,hst,sumL_snoc hlt]
  ·have he:i=l.length:=by omega
   subst he
   simp [f9,f8,f7,f3]
 ·simp [sumL]
theorem rsum_ok (l:List UInt8) (hs:l.length≤1000000000):pureT T c16 [.str (ba l)]=some (.int .u32 ((sumL l).toNat:Int)):=by
 apply pure_enter (by simp [c16])
 simp [c16]
 refine W_for T 0 19 l.length (fun i f τ=>f 4=.int .i64 (i:Int)∧f 0=.str (ba l)∧f 3=.int .u32 ((sumL (l.take i)).toNat:Int)∧τ=[]) ?_ _ _ ?_
 ·rintro i f τ hi ⟨f4,f0,f3,rfl⟩
  by_cases hlt:i<l.length
  ·have w1:IntKind.i64.wrap ((i:Int)+1)=(i:Int)+1:=wr64 (by omega) (by omega)
   have hst:=step32 (sumL (l.take i)) l[i]
   have hd:∀ h,(ba l).data[i]'h=l[i]:=fun h=>rfl
   simp [f4,f0,f3,hlt,w1,sumL_snoc hlt]
   exact hst
  ·have he:i=l.length:=by omega
   subst he
   simp [f4,f0,f3]
 ·simp [sumL]
theorem callSum (l:List UInt8) (hs:l.length≤1000000000) (bs:Nat) (σ:Heap):callT T 11 [.str (ba l)] bs σ=some (.int .u32 ((sumL l).toNat:Int),σ):=call_clean rfl rfl rfl rfl (sum_ok l hs)
theorem callRSum (l:List UInt8) (hs:l.length≤1000000000) (bs:Nat) (σ:Heap):callT T 16 [.str (ba l)] bs σ=some (.int .u32 ((sumL l).toNat:Int),σ):=call_clean rfl rfl rfl rfl (rsum_ok l hs)
open Go.Mach
theorem rowsB_snoc {l:List GW} {i:Nat} (h:i<l.length):rowsB (l.take (i+1))=rowsB (l.take i)++rowB l[i]:=by
 rw [rowsB_flat,rowsB_flat,List.take_add_one,zqF h,List.flatMap_append]; simp
theorem rowB_len (x:GW) (h:x.name.size≤16):(rowB x).length≤2 * GV.sizes x.args+26:=by
 have:=valsB_len x.args
 simp [rowB,textB,bl_len]; omega
theorem rowsB_len:∀ (l:List GW),(∀ x∈l,x.name.size≤16)→(rowsB l).length≤2 * sizesW l+26 * l.length
 | [],_=>by simp [rowsB]
 | x :: l,h=>by
  have h1:=rowB_len x (h x (by simp))
  have h2:=rowsB_len l fun y hy=>h y (by simp [hy])
  simp only [rowsB,zqJ,sizesW,zqU]; omega
theorem FOk.name {b:GF} (h:FOk b) {x:GW} (hx:x∈b.rows):rowOK b.to x=true∧x.name.size≤16∧x.args.length≤8∧(∀ v∈x.args,rightV 4 v=true)∧nearB x.stamp=true:=by
 obtain ⟨k,hk,rfl⟩:=zqS hx
 have h1:=(h.rows k hk _ (zqF hk)).1
 have h2:=h1
 simp only [rowOK,zqL,decide_eq_true_eq] at h2
 obtain ⟨⟨⟨⟨⟨a1,a2⟩,a3⟩,a4⟩,a5⟩,a6⟩:=h2
 exact ⟨h1,nameOK_size a1,a3,zqQ.1 a5,a4⟩
def preB (b:GF):List UInt8:=textB b.frm++(textB b.to++(nbB 8 b.start++(nbB 8 b.seq++nbB 2 b.rows.length)))
theorem bodyB_eq (b:GF):bodyB b=preB b++rowsB b.rows:=by simp [bodyB,preB]
theorem preB_len {b:GF} (h:FOk b):(preB b).length≤52:=by
 have h1:=nameOK_size h.frm
 have h2:=nameOK_size h.to
 simp [preB,textB,bl_len]; omega
theorem bodyB_len {b:GF} (h:FOk b) (hs:SzF b):(bodyB b).length≤200010452:=by
 have h1:=preB_len h
 have h2:=rowsB_len b.rows fun x hx=>(h.name hx).2.1
 have h3:=hs.tot
 have h4:=h.len
 rw [bodyB_eq,zqJ]; omega
theorem lay_no (b:GF) (hs:SzF b) (h:¬ FOk b):pureT T c13 [b.enc]=some (.tup [.str ⟨#[]⟩,.int .i64 1]):=by
 have hr:=callFRight b hs
 rw [GF.enc_eq,fokB_f h] at hr
 apply pure_enter (by simp [c13])
 simp [c13,GF.enc_eq,hr]
theorem lay_yes (b:GF) (hs:SzF b) (h:FOk b):pureT T c13 [b.enc]=some (.tup [.str (ba (layB b)),.int .i64 0]):=by
 have hr:=callFRight b hs
 have hbl:=bodyB_len h hs
 have hpl:=preB_len h
 rw [GF.enc_eq,fokB_t.2 h] at hr
 have z1:=nameOK_size h.frm
 have z2:=nameOK_size h.to
 have hl4:=h.len
 obtain ⟨σ0,hσ0⟩:∃ σ0:Heap,σ0=[.cells [.str b.frm,.str b.to,.int .i64 b.start,.int .i64 b.seq,.isl (b.rows.map GW.enc) false] 0 false,.cells [.isl [] true] 0 false]:=⟨_,rfl⟩
 have S0:LyS 1 [] σ0:=⟨.isl [] true,by rw [hσ0]; rfl,LO.nil ..⟩
 have g0:σ0[0]?=some (.cells [.str b.frm,.str b.to,.int .i64 b.start,.int .i64 b.seq,.isl (b.rows.map GW.enc) false] 0 false):=by rw [hσ0]; rfl
 obtain ⟨σ1,c1,S1,K1⟩:=text_ok S0 b.frm (by simp; omega)
 have g1:=K1.cells g0 (by omega)
 obtain ⟨σ2,c2,S2,K2⟩:=text_ok S1 b.to (by simp [textB,bl_len]; omega)
 have g2:=K2.cells g1 (by omega)
 obtain ⟨σ3,c3,S3,K3⟩:=num_ok S2 8 (by omega) (by omega) b.start (by simp [textB,bl_len]; omega)
 have g3:=K3.cells g2 (by omega)
 obtain ⟨σ4,c4,S4,K4⟩:=num_ok S3 8 (by omega) (by omega) b.seq (by simp [textB,bl_len]; omega)
 have g4:=K4.cells g3 (by omega)
 obtain ⟨σ5,c5,S5,K5⟩:=num_ok S4 2 (by omega) (by omega) (b.rows.length:Int) (by simp [textB,bl_len]; omega)
 have g5:=K5.cells g4 (by omega)
 have e5:[]++textB b.frm++textB b.to++nbB 8 b.start++nbB 8 b.seq++nbB 2 (b.rows.length:Int)=preB b:=by simp [preB]
 rw [e5] at S5
 simp only [Int.cast_ofNat_Int] at c3 c4 c5
 apply pure_enter (by simp [c13])
 simp [c13,GF.enc_eq,hr,←hσ0,c1,g0,g1,c2,g2,c3,g3,c4,g4,c5,g5]
 refine W_for T 0 63 b.rows.length (fun i f τ=>f 4=.ptr 1 0∧f 29=.isl (b.rows.map GW.enc) false∧f 30=.int .i64 (b.rows.length:Int)∧f 31=.int .i64 (i:Int)∧LyS 1 (preB b++rowsB (b.rows.take i)) τ) ?_ _ _ ?_
 ·rintro i f τ hi ⟨f4,f29,f30,f31,hS⟩
  by_cases hlt:i<b.rows.length
  ·have w1:IntKind.i64.wrap ((i:Int)+1)=(i:Int)+1:=wr64 (by omega) (by omega)
   have hx:=h.name (zqT hlt)
   have hz:=hs.rows _ (zqT hlt)
   have hsn:=rowsB_snoc hlt
   have hbl1:(rowsB (b.rows.take i)).length+(rowB b.rows[i]).length≤(rowsB b.rows).length:=by
    have e:rowsB b.rows=rowsB (b.rows.take (i+1))++rowsB (b.rows.drop (i+1)):=by
     rw [rowsB_flat,rowsB_flat,rowsB_flat,←List.flatMap_append,List.take_append_drop]
    rw [e,hsn]; simp
   rw [bodyB_eq,zqJ] at hbl
   obtain ⟨nm,args,st,hr⟩:∃ nm args st,b.rows[i]=⟨nm,args,st⟩:=⟨_,_,_,rfl⟩
   rw [hr] at hx hz hsn hbl1
   obtain ⟨-,y1,y2,y3,-⟩:=hx
   have y4:GV.sizes args≤100000000:=hz.args
   have hg:b.rows[i]?=some ⟨nm,args,st⟩:=by rw [zqF hlt,hr]
   have hrl:(rowB ⟨nm,args,st⟩).length=1+nm.size+(1+((valsB args).length+8)):=by simp [rowB,textB,bl_len]; omega
   rw [hrl] at hbl1
   have y1':nm.size≤16:=y1
   have y2':args.length≤8:=y2
   obtain ⟨a,ha⟩:∃ a,a=τ.length:=⟨_,rfl⟩
   have ha1:a≠1:=by have:=hS.lt; omega
   obtain ⟨τ1,hτ1⟩:∃ τ1,τ1=τ++[.cells [.str nm,.isl (GV.encs args) false,.int .i64 st] 0 false]:=⟨_,rfl⟩
   have T1:LyS 1 (preB b++rowsB (b.rows.take i)) τ1:=by rw [hτ1]; exact hS.app _
   have q1:τ1[a]?=some (.cells [.str nm,.isl (GV.encs args) false,.int .i64 st] 0 false):=by rw [hτ1,ha]; simp
   obtain ⟨τ2,d2,T2,L2⟩:=text_ok T1 nm (by simp; omega)
   have q2:=L2.cells q1 ha1
   obtain ⟨τ3,d3,T3,L3⟩:=num_ok T2 1 (by omega) (by omega) (args.length:Int) (by simp [textB,bl_len]; omega)
   have q3:=L3.cells q2 ha1
   simp only [Int.cast_ofNat_Int] at d3
   simp [f4,f29,f30,f31,hlt,hr,setRun,GW.cls,←ha,←hτ1,q1,d2,q2,d3,q3]
   obtain ⟨P,hP⟩:∃ P,P=preB b++rowsB (b.rows.take i)++textB nm++nbB 1 (args.length:Int):=⟨_,rfl⟩
   rw [←hP] at T3
   have hPl:P.length+(valsB args).length≤200010452:=by rw [hP]; simp [textB,bl_len]; omega
   refine W_for T 0 63 args.length (fun k f' τ'=>f' 4=.ptr 1 0∧f' 6=.ptr a 0∧f' 29=.isl (b.rows.map GW.enc) false∧f' 30=.int .i64 (b.rows.length:Int)∧f' 31=.int .i64 (i:Int)∧f' 43=.isl (GV.encs args) false∧f' 44=.int .i64 (args.length:Int)∧f' 45=.int .i64 (k:Int) ∧
    LyS 1 (P++valsB (args.take k)) τ'∧τ'[a]?=some (.cells [.str nm,.isl (GV.encs args) false,.int .i64 st] 0 false)) ?_ _ _ ?_
   ·clear f4 f29 f30 f31 f
    rintro k f' τ' hk ⟨f4,f6,f29,f30,f31,f43,f44,f45,hS',q⟩
    by_cases hkt:k<args.length
    ·have w2:IntKind.i64.wrap ((k:Int)+1)=(k:Int)+1:=wr64 (by omega) (by omega)
     obtain ⟨τ4,hτ4⟩:∃ τ4,τ4=τ'++[.cells args[k].enc.cells 0 false]:=⟨_,rfl⟩
     have T4:LyS 1 (P++valsB (args.take k)) τ4:=by rw [hτ4]; exact hS'.app _
     have hm:=sizes_mem (zqT hkt)
     have htl:=valsB_snoc hkt
     have htl2:(valsB (args.take k)).length≤(valsB args).length:=by
      have e:valsB args=valsB (args.take k)++valsB (args.drop k):=by
       rw [valsB_flat,valsB_flat,valsB_flat,←List.flatMap_append,List.take_append_drop]
      rw [e]; simp
     obtain ⟨τ5,d5,T5,L5⟩:=value_ok _ args[k] (Nat.le_refl _) T4 (by simp; omega)
     have q4:τ4[a]?=some (.cells [.str nm,.isl (GV.encs args) false,.int .i64 st] 0 false):=by
      rw [hτ4,zqA (zqI.1 q).1]; exact q
     have q5:=L5.cells q4 ha1
     rw [zqP,←htl] at T5
     have q4':τ4[τ'.length]?=some (.cells args[k].enc.cells 0 false):=by rw [hτ4]; simp
     rw [GV.enc_cells] at hτ4 q4'
     simp [f4,f6,f29,f30,f31,f43,f44,f45,hkt,w2,setRun,←hτ4,q4',d5,q5]
     exact T5
    ·have he:k=args.length:=by omega
     subst he
     rw [List.take_of_length_le (Nat.le_refl _)] at hS'
     obtain ⟨τ6,d6,T6,L6⟩:=num_ok hS' 8 (by omega) (by omega) st (by simp; omega)
     simp only [Int.cast_ofNat_Int] at d6
     have hfin:P++valsB args++nbB 8 st=preB b++rowsB (b.rows.take (i+1)):=by rw [hsn,hP]; simp [rowB]
     rw [hfin] at T6
     simp [f4,f6,f29,f30,f31,f43,f44,f45,q,d6,w1,hlt]
     exact T6
   ·simp
    exact ⟨f4,f29,f30,f31,by simpa [valsB] using T3,q3⟩
  ·have he:i=b.rows.length:=by omega
   subst he
   rw [List.take_of_length_le (Nat.le_refl _),←bodyB_eq] at hS
   obtain ⟨x,hx,hL⟩:=hS.ex
   obtain ⟨σ6,c6,S6,K6⟩:=num_ok hS 4 (by omega) (by omega) ((sumL (bodyB b)).toNat:Int) (by omega)
   obtain ⟨x2,hx2,hL2⟩:=S6.ex
   have hlay:bodyB b++nbB 4 ((sumL (bodyB b)).toNat:Int)=layB b:=rfl
   rw [hlay] at hL2
   have hsum:=callSum (bodyB b) (by omega)
   have b1:b2sV τ x=some (.str (ba (bodyB b))):=by
    rcases hL with ⟨e,rfl⟩ | ⟨k,rfl,_⟩
    ·rw [bv_nil] at e; rw [e]; rfl
    ·simp [b2sV,isSl,elemsA,bytesA_bv,ba]
   have b2:b2sV σ6 x2=some (.str (ba (layB b))):=by
    rcases hL2 with ⟨e,rfl⟩ | ⟨k,rfl,_⟩
    ·rw [bv_nil] at e; rw [e]; rfl
    ·simp [b2sV,isSl,elemsA,bytesA_bv,ba]
   have hlt32:(sumL (bodyB b)).toNat<4294967296:=(sumL (bodyB b)).isLt
   have hw:IntKind.i64.wrap ((sumL (bodyB b)).toNat:Int)=((sumL (bodyB b)).toNat:Int):=wr64 (by omega) (by omega)
   simp only [Int.cast_ofNat_Int] at c6
   simp [f4,f29,f30,f31,hx,b1,hsum,hw,c6,hx2,b2]
 ·simp
  simpa [rowsB] using S5
open Go.Mach
theorem rlay_no (b:GF) (hs:SzF b) (h:¬ FOk b):pureT T c14 [b.enc]=some (.tup [.str ⟨#[]⟩,.int .i64 1]):=by
 have hr:=callRRight15 b hs
 rw [GF.enc_eq,fokB_f h] at hr
 apply pure_enter (by simp [c14])
 simp [c14,GF.enc_eq,hr]
theorem valsB_pre {l:List GV} {k:Nat}:(valsB (l.take k)).length≤(valsB l).length:=by
 have e:valsB l=valsB (l.take k)++valsB (l.drop k):=by
  rw [valsB_flat,valsB_flat,valsB_flat,←List.flatMap_append,List.take_append_drop]
 rw [e]; simp
theorem rowsB_pre {l:List GW} {k:Nat}:(rowsB (l.take k)).length≤(rowsB l).length:=by
 have e:rowsB l=rowsB (l.take k)++rowsB (l.drop k):=by
  rw [rowsB_flat,rowsB_flat,rowsB_flat,←List.flatMap_append,List.take_append_drop]
 rw [e]; simp
theorem rlay_yes (b:GF) (hs:SzF b) (h:FOk b):pureT T c14 [b.enc]=some (.tup [.str (ba (layB b)),.int .i64 0]):=by
 have hr:=callRRight15 b hs
 have hbl:=bodyB_len h hs
 have hpl:=preB_len h
 rw [GF.enc_eq,fokB_t.2 h] at hr
 have z1:=nameOK_size h.frm
 have z2:=nameOK_size h.to
 have hl4:=h.len
 have t1:=rtext b.frm (by omega)
 have t2:=rtext b.to (by omega)
 have n3:=fun bs σ=>rnum 8 b.start (by omega) bs σ
 have n4:=fun bs σ=>rnum 8 b.seq (by omega) bs σ
 have n5:=fun bs σ=>rnum 2 (b.rows.length:Int) (by omega) bs σ
 simp only [Int.cast_ofNat_Int] at n3 n4 n5
 have l1:(textB b.frm).length≤17:=by simp [textB,bl_len]; omega
 have l2:(textB b.to).length≤17:=by simp [textB,bl_len]; omega
 have a1:((textB b.frm).length:Int)+((textB b.to).length:Int)≤9223372036854775807:=by omega
 have a2:((textB b.frm).length:Int)+((textB b.to).length:Int)+8≤9223372036854775807:=by omega
 have a3:((textB b.frm).length:Int)+(((textB b.to).length:Int)+8)+8≤9223372036854775807:=by omega
 have a4:((textB b.frm).length:Int)+(((textB b.to).length:Int)+16)+2≤9223372036854775807:=by omega
 have e5:textB b.frm++(textB b.to++(nbB 8 b.start++(nbB 8 b.seq++nbB 2 (b.rows.length:Int))))=preB b:=rfl
 apply pure_enter (by simp [c14])
 simp [c14,GF.enc_eq,hr,t1,t2,n3,n4,n5,ba_append,a1,a2,a3,a4,e5]
 refine W_for T 0 81 b.rows.length (fun i f τ=>f 1=.ptr 0 0∧f 5=.str (ba (preB b++rowsB (b.rows.take i)))∧f 6=.int .i64 (i:Int)∧τ[0]?=some (.cells [.str b.frm,.str b.to,.int .i64 b.start,.int .i64 b.seq,.isl (b.rows.map GW.enc) false] 0 false)) ?_ _ _ ?_
 ·rintro i f τ hi ⟨f1,f5,f6,q0⟩
  have w1:IntKind.i64.wrap ((i:Int)+1)=(i:Int)+1:=wr64 (by omega) (by omega)
  by_cases hlt:i<b.rows.length
  ·have hx:=h.name (zqT hlt)
   have hz:=hs.rows _ (zqT hlt)
   have hsn:=rowsB_snoc hlt
   have hbl1:(rowsB (b.rows.take i)).length+(rowB b.rows[i]).length≤(rowsB b.rows).length:=by
    rw [←zqJ,←hsn]; exact rowsB_pre
   rw [bodyB_eq,zqJ] at hbl
   obtain ⟨nm,args,st,hr⟩:∃ nm args st,b.rows[i]=⟨nm,args,st⟩:=⟨_,_,_,rfl⟩
   rw [hr] at hx hz hsn hbl1
   obtain ⟨-,y1,y2,y3,-⟩:=hx
   have y4:GV.sizes args≤100000000:=hz.args
   have hrl:(rowB ⟨nm,args,st⟩).length=1+nm.size+(1+((valsB args).length+8)):=by simp [rowB,textB,bl_len]; omega
   rw [hrl] at hbl1
   have y1':nm.size≤16:=y1
   have y2':args.length≤8:=y2
   have y3':∀ v∈args,rightV 4 v=true:=y3
   obtain ⟨P,hP⟩:∃ P,P=preB b++rowsB (b.rows.take i):=⟨_,rfl⟩
   rw [←hP] at f5
   have hPl:P.length+(1+nm.size+(1+((valsB args).length+8)))≤200010452:=by rw [hP,zqJ]; omega
   obtain ⟨a,ha⟩:∃ a,a=τ.length:=⟨_,rfl⟩
   have h0:0<τ.length:=(zqI.1 q0).1
   have ha0:a≠0:=by omega
   obtain ⟨τ1,hτ1⟩:∃ τ1,τ1=τ++[.cells [.str nm,.isl (GV.encs args) false,.int .i64 st] 0 false]:=⟨_,rfl⟩
   have q01:τ1[0]?=some (.cells [.str b.frm,.str b.to,.int .i64 b.start,.int .i64 b.seq,.isl (b.rows.map GW.enc) false] 0 false):=by rw [hτ1,zqA h0]; exact q0
   have qa:τ1[a]?=some (.cells [.str nm,.isl (GV.encs args) false,.int .i64 st] 0 false):=by rw [hτ1,ha]; simp
   have t1:=rtext nm (by omega)
   have n1:=fun bs σ=>rnum 1 (args.length:Int) (by omega) bs σ
   have n2:=fun bs σ=>rnum 8 st (by omega) bs σ
   simp only [Int.cast_ofNat_Int] at n1 n2
   have l1:(textB nm).length=1+nm.size:=by simp [textB,bl_len]
   have b1:(P.length:Int)+((textB nm).length:Int)≤9223372036854775807:=by omega
   have b2:(P.length:Int)+((textB nm).length:Int)+1≤9223372036854775807:=by omega
   simp [f1,f5,f6,hlt,q0,hr,setRun,GW.cls,←ha,←hτ1,qa,q01,t1,n1,ba_append,b1,b2]
   obtain ⟨R,hR⟩:∃ R,R=P++(textB nm++nbB 1 (args.length:Int)):=⟨_,rfl⟩
   have hRl:R.length+((valsB args).length+8)≤200010452:=by rw [hR]; simp [l1]; omega
   rw [←hR]
   refine W_for T 0 81 args.length (fun k f' τ'=>f' 1=.ptr 0 0∧f' 5=.str (ba (R++valsB (args.take k)))∧f' 6=.int .i64 (i:Int)∧f' 7=.ptr a 0∧f' 8=.int .i64 (k:Int)∧τ'=τ1) ?_ _ _ ?_
   ·clear f1 f5 f6 f
    rintro k f' τ' hk ⟨f1,f5,f6,f7,f8,rfl⟩
    by_cases hkt:k<args.length
    ·have w2:IntKind.i64.wrap ((k:Int)+1)=(k:Int)+1:=wr64 (by omega) (by omega)
     have hm:=sizes_mem (zqT hkt)
     have hc:=callLaid (y3' _ (zqT hkt)) (by omega)
     have htl:=valsB_snoc hkt
     have hle1:(valsB (args.take k)).length+(valB args[k]).length≤(valsB args).length:=by rw [←zqJ,←htl]; exact valsB_pre
     have hle2:(R.length:Int)+((valsB (args.take k)).length:Int)+((valB args[k]).length:Int)≤9223372036854775807:=by omega
     simp [f1,f5,f6,f7,f8,hkt,w2,qa,hc,hle2,ba_append,htl]
    ·have he:k=args.length:=by omega
     subst he
     rw [List.take_of_length_le (Nat.le_refl _)] at f5
     have hle2:(R.length:Int)+((valsB args).length:Int)+8≤9223372036854775807:=by omega
     have hfin:R++(valsB args++nbB 8 st)=preB b++rowsB (b.rows.take (i+1)):=by rw [hsn,hR,hP]; simp [rowB]
     simp [f1,f5,f6,f7,f8,w1,qa,hlt,n2,hle2,ba_append,hfin,q01]
   ·simp
    exact ⟨f1,by simp [valsB],f6⟩
  ·have he:i=b.rows.length:=by omega
   subst he
   rw [List.take_of_length_le (Nat.le_refl _),←bodyB_eq] at f5
   have hsum:=callRSum (bodyB b) (by omega)
   have hlt32:(sumL (bodyB b)).toNat<4294967296:=(sumL (bodyB b)).isLt
   have hw:IntKind.i64.wrap ((sumL (bodyB b)).toNat:Int)=((sumL (bodyB b)).toNat:Int):=wr64 (by omega) (by omega)
   have n6:=fun bs σ=>rnum 4 ((sumL (bodyB b)).toNat:Int) (by omega) bs σ
   simp only [Int.cast_ofNat_Int] at n6
   have b1:((bodyB b).length:Int)+4≤9223372036854775807:=by omega
   have hlay:bodyB b++nbB 4 ((sumL (bodyB b)).toNat:Int)=layB b:=rfl
   simp [f1,f5,f6,q0,hsum,hw,n6,ba_append,b1,hlay]
 ·simp [rowsB]
open Go.Mach
def tk (st:TS):AObj:=.cells [.str (ba st.1),.bool st.2] 0 false
theorem ba_extract (l:List UInt8) (a b:Nat):(ba l).extract a b=ba ((l.take b).drop a):=by
 rw [←bl_inj,bl_extract,bl_ba,bl_ba]
theorem rf_str (n:Nat) (s:ByteArray):refLt2 n (.str s)=true:=rfl
theorem rf_int (n:Nat) (k:IntKind) (m:Int):refLt2 n (.int k m)=true:=rfl
theorem take_self {σ σ':Heap} (h:σ'.length=σ.length):σ'.take σ.length=σ':=List.take_of_length_le (by omega)
theorem take_ok {σ:Heap} {t:Nat} {st:TS} (h:σ[t]?=some (tk st)) (n:Nat) (hn:n≤1000000000) (bs:Nat) :
  callT T 51 [.ptr t 0,.int .i64 n] bs σ=some (.str (ba (takeN n st).1),σ.set t (tk (takeN n st).2)):=by
 obtain ⟨r,bad⟩:=st
 have ht:=(zqI.1 h).1
 have h':σ[t]?=some (.cells [.str (ba r),.bool bad] 0 false):=h
 have hs1:∀ o,(σ.set t o)[t]?=some o:=fun o=>List.getElem?_set_self ht
 refine heap_enter (af:=c51) (args':=[.ptr t 0,.int .i64 n]) (σ1:=σ) rfl rfl (by simp [c51]) (by simp [c51]) rfl ?_
 cases bad with
 | true=>
  simp [c51,baseA,-getElem?_pos,h',setRun,dropA_gc,refLt,res1,take_self,takeN,tk,AV.clo1,rf_str]
  rfl
 | false=>
  by_cases hl:r.length<n
  ·have hl':(r.length:Int)<(n:Int):=by omega
   simp [c51,baseA,-getElem?_pos,h',setRun,dropA_gc,refLt,res1,take_self,takeN,tk,AV.clo1,hl,rf_str]
   rfl
  ·have hl':¬ (r.length:Int)<(n:Int):=by omega
   have hle:n≤r.length:=by omega
   simp [c51,baseA,-getElem?_pos,h',setRun,dropA_gc,refLt,res1,take_self,takeN,tk,AV.clo1,hl,hle,ba_extract,rf_str,hs1]
theorem or_byte (v:Int) (c:UInt8):IntKind.i64.wrap (orI .i64 (IntKind.i64.wrap (v * 256)) (IntKind.i64.wrap (c.toNat:Int)))=nbS v c:=by
 have hc:=c.toNat_lt
 have h1:IntKind.i64.wrap (c.toNat:Int)=(c.toNat:Int):=wr64 (by omega) (by omega)
 rw [h1]
 obtain ⟨m,hm⟩:∃ m:Nat,((BitVec.ofInt 64 (IntKind.i64.wrap (v * 256))).toNat=m * 256∧m * 256<18446744073709551616)∧((m * 256:Nat):Int) % 18446744073709551616=(v * 256) % 18446744073709551616:=by
  have e:((BitVec.ofInt 64 (IntKind.i64.wrap (v * 256))).toNat:Int)=(v * 256) % 18446744073709551616:=by
   rw [BitVec.toNat_ofInt]
   have:=wrap_mod (v * 256)
   omega
  have hlt:=(BitVec.ofInt 64 (IntKind.i64.wrap (v * 256))).isLt
  exact ⟨(BitVec.ofInt 64 (IntKind.i64.wrap (v * 256))).toNat / 256,⟨by omega,by omega⟩,by omega⟩
 have ho:orI .i64 (IntKind.i64.wrap (v * 256)) (c.toNat:Int)=((m * 256+c.toNat:Nat):Int):=by
  have hb:BitVec.ofInt 64 (IntKind.i64.wrap (v * 256))=BitVec.ofInt 64 ((m * 256:Nat):Int):=by
   apply BitVec.eq_of_toNat_eq
   rw [hm.1.1,BitVec.ofInt_natCast,BitVec.toNat_ofNat,Nat.mod_eq_of_lt (by omega)]
  have h2:orI .i64 (IntKind.i64.wrap (v * 256)) (c.toNat:Int)=orI .i64 ((m * 256:Nat):Int) (c.toNat:Int):=by
   show ((BitVec.ofInt 64 (IntKind.i64.wrap (v * 256)) ||| BitVec.ofInt 64 (c.toNat:Int)).toNat:Int)=((BitVec.ofInt 64 ((m * 256:Nat):Int) ||| BitVec.ofInt 64 (c.toNat:Int)).toNat:Int)
   rw [hb]
  rw [h2,orI_nat .i64 (by simp; omega) (by simp; omega)]
  have:=Nat.two_pow_add_eq_or_of_lt (i:=8) (b:=c.toNat) (by omega) m
  have e:2 ^ 8 * m=m * 256:=by omega
  rw [e] at this
  rw [this]
 rw [ho]
 unfold nbS
 rw [IntKind.wrap_i64,IntKind.wrap_i64]
 have:=hm.2
 omega
theorem nbP_snoc' {l:List UInt8} {i:Nat} (h:i<l.length):nbP (l.take (i+1))=nbS (nbP (l.take i)) l[i]:=by
 rw [List.take_add_one,zqF h,nbP,nbP,List.foldl_append]; rfl
theorem takeN_len (n:Nat) (st:TS):(takeN n st).1.length≤n:=by
 unfold takeN
 split
 ·simp
 ·simp; omega
theorem tnum_ok {σ:Heap} {t:Nat} {st:TS} (h:σ[t]?=some (tk st)) (n:Nat) (hn:n≤1000000000) (bs:Nat) :
  callT T 32 [.ptr t 0,.int .i64 n] bs σ=some (.int .i64 (nbT n st).1,σ.set t (tk (nbT n st).2)):=by
 have hc:=take_ok h n hn
 have hln:=takeN_len n st
 unfold nbT
 generalize takeN n st=r at *
 obtain ⟨l,st'⟩:=r
 have hu:u8s (ba l)=bv l:=by rw [u8s_bv]; show bv (bl (ba l))=_; rw [bl_ba]
 have hll:l.length≤n:=hln
 obtain ⟨τ,hτ⟩:∃ τ,τ=σ.set t (tk st'):=⟨_,rfl⟩
 have hτl:τ.length=σ.length:=by rw [hτ]; simp
 have hc':∀ bs,callT T 51 [.ptr t 0,.int .i64 n] bs σ=some (.str (ba l),τ):=fun bs=>by rw [hτ]; exact hc bs
 show _=some (AV.int .i64 (nbP l),σ.set t (tk st'))
 rw [←hτ]
 refine heap_enter (af:=c32) (args':=[.ptr t 0,.int .i64 n]) (σ1:=σ) rfl rfl (by simp [c32]) (by simp [c32]) rfl ?_
 simp [c32,baseA,hc',hu]
 refine W_for T _ 22 l.length (fun i f τ'=>f 4=.int .i64 (nbP (l.take i))∧f 10=.sl τ.length 0 l.length 1 false∧f 11=.int .i64 (l.length:Int)∧f 12=.int .i64 (i:Int)∧τ'=τ++[.cells (bv l) 0 true]) ?_ _ _ ?_
 ·rintro i f τ' hi ⟨f4,f10,f11,f12,rfl⟩
  by_cases hlt:i<l.length
  ·have w1:IntKind.i64.wrap ((i:Int)+1)=(i:Int)+1:=wr64 (by omega) (by omega)
   have hw:=bv_win hlt
   have ho:=or_byte (nbP (l.take i)) l[i]
   simp [f4,f10,f11,f12,hlt,w1,hw,ho,nbP_snoc' hlt]
  ·have he:i=l.length:=by omega
   subst he
   simp [f4,f10,f11,f12,dropA_gc,refLt,res1,rf_int,←hτl]
 ·simp [nbP]
theorem textT_eq (st:TS):textT st=takeN (nbT 1 st).1.toNat (nbT 1 st).2:=rfl
theorem nbT1_rng (st:TS):0≤(nbT 1 st).1∧(nbT 1 st).1<256:=by
 have h:=takeN_len 1 st
 unfold nbT
 generalize (takeN 1 st).1=l at h
 match l,h with
 | [],_=>simp [nbP]
 | [c],_=>
  have hc:=c.toNat_lt
  have:nbP [c]=(c.toNat:Int):=by
   show IntKind.i64.wrap (0 * 256+(c.toNat:Int))=_
   rw [wr64 (by omega) (by omega)]; omega
  simp only [this]; omega
theorem ttext_ok {σ:Heap} {t:Nat} {st:TS} (h:σ[t]?=some (tk st)) (bs:Nat) :
  callT T 31 [.ptr t 0] bs σ=some (.str (ba (textT st).1),σ.set t (tk (textT st).2)):=by
 have ht:=(zqI.1 h).1
 have hr:=nbT1_rng st
 have h1:=tnum_ok h 1 (by omega)
 rw [textT_eq]
 generalize nbT 1 st=r at *
 obtain ⟨v,st1⟩:=r
 obtain ⟨n,rfl⟩:∃ n:Nat,v=(n:Int):=⟨v.toNat,by have:=hr.1; simp only at this; omega⟩
 have hn:n<256:=by have:=hr.2; simp only at this; omega
 have hs1:(σ.set t (tk st1))[t]?=some (tk st1):=List.getElem?_set_self ht
 have h2:=take_ok hs1 n (by omega)
 simp only [Int.cast_ofNat_Int,List.set_set] at h1 h2
 refine heap_enter (af:=c31) (args':=[.ptr t 0]) (σ1:=σ) rfl rfl (by simp [c31]) (by simp [c31]) rfl ?_
 simp [c31,baseA,h1,h2,dropA_gc,refLt,res1,rf_str]
 rw [List.take_of_length_le (by simp)]
open Go.Mach
structure Tk (σ:Heap) (t:Nat) (st:TS) (cs:List AV) (τ:Heap):Prop where
 lt:t<σ.length
 len:σ.length+1≤τ.length
 at':τ[t]?=some (tk st)
 obj:τ[σ.length]?=some (.cells cs 0 false)
 keep:∀ i,i<σ.length→i≠t→τ[i]?=σ[i]?
theorem Tk.init {σ:Heap} {t:Nat} {st:TS} (h:σ[t]?=some (tk st)) (cs:List AV):Tk σ t st cs (σ++[.cells cs 0 false]):=by
 have ht:=(zqI.1 h).1
 exact ⟨ht,by simp,by rw [zqA ht]; exact h,by simp,fun i hi _=>by rw [zqA hi]⟩
theorem Tk.set {σ τ:Heap} {t:Nat} {st:TS} {cs:List AV} (h:Tk σ t st cs τ) (st':TS):Tk σ t st' cs (τ.set t (tk st')):=by
 have h1:=h.lt
 have h2:=h.len
 exact ⟨h1,by simpa using h2,List.getElem?_set_self (by omega),by rw [zqC (by omega)]; exact h.obj,fun i hi hne=>by rw [zqC (Ne.symm hne)]; exact h.keep i hi hne⟩
theorem Tk.put {σ τ:Heap} {t:Nat} {st:TS} {cs:List AV} (h:Tk σ t st cs τ) (cs':List AV):Tk σ t st cs' (τ.set σ.length (.cells cs' 0 false)):=by
 have h1:=h.lt
 have h2:=h.len
 exact ⟨h1,by simpa using h2,by rw [zqC (by omega)]; exact h.at',List.getElem?_set_self (by omega),fun i hi hne=>by rw [zqC (by omega)]; exact h.keep i hi hne⟩
theorem Tk.drop {σ τ:Heap} {t:Nat} {st:TS} {cs:List AV} (h:Tk σ t st cs τ):τ.take σ.length=σ.set t (tk st):=by
 have h1:=h.lt
 have h2:=h.len
 apply List.ext_getElem?
 intro i
 rw [List.getElem?_take]
 by_cases hi:i<σ.length
 ·rw [if_pos hi]
  by_cases e:i=t
  ·subst e; rw [h.at',List.getElem?_set_self h1]
  ·rw [h.keep i hi e,zqC (Ne.symm e)]
 ·rw [if_neg hi,List.getElem?_eq_none (by simp; omega)]
theorem Tk.same {σ τ τ':Heap} {t:Nat} {st:TS} {cs:List AV} (h:Tk σ t st cs τ) (hl:τ.length≤τ'.length) (hk:∀ i,i<σ.length+1→τ'[i]?=τ[i]?):Tk σ t st cs τ':=by
 have h1:=h.lt
 have h2:=h.len
 exact ⟨h1,by omega,by rw [hk t (by omega)]; exact h.at',by rw [hk _ (by omega)]; exact h.obj,fun i hi hne=>by rw [hk i (by omega)]; exact h.keep i hi hne⟩
theorem rf_V (n:Nat) (v:GV):refLt2 n v.enc=true:=by rw [GV.enc_eq]; rfl
theorem rep_bad {α:Type} (f:TS→α × TS) (n:Nat) (st:TS) (h:st.2=true):rep f n st=([],st):=by
 cases n with
 | zero=>rfl
 | succ n=>simp [rep,h]
def VLoop (σ:Heap) (t a d n:Nat) (sub:TS→GV × TS) (st3:TS) (i:Nat) (τ:Heap):Prop:=
 ∃ (sti:TS) (vs:List GV) (l:AV),Tk σ t sti [.int .i64 4,.int .i64 0,.str ⟨#[]⟩,l] τ∧LX (a+1) 4 τ (GV.encs vs) l∧vs.length=i∧(d=0→sti.2=true)∧rep sub n st3=(vs++(rep sub (n - i) sti).1,(rep sub (n - i) sti).2)
theorem tvalue_aux (d:Nat) (hd:d≤4) (sub:TS→GV × TS) (hsub:d=0∨∀ {σ:Heap} {t:Nat} {st:TS},σ[t]?=some (tk st)→∀ bs,callT T 52 [.ptr t 0,.int .i64 ((d:Int) - 1)] bs σ=some ((sub st).1.enc,σ.set t (tk (sub st).2)))
  {σ:Heap} {t:Nat} {st:TS} (h:σ[t]?=some (tk st)) (bs:Nat) :
  callT T 52 [.ptr t 0,.int .i64 d] bs σ=some ((valR d sub (nbT 1 st).1 (nbT 1 st).2).1.enc,σ.set t (tk (valR d sub (nbT 1 st).1 (nbT 1 st).2).2)):=by
 obtain ⟨a,ha⟩:∃ a,a=σ.length:=⟨_,rfl⟩
 obtain ⟨τ0,hτ0⟩:∃ τ0:Heap,τ0=σ++[.cells [.int .i64 0,.int .i64 0,.str ⟨#[]⟩,.isl [] true] 0 false]:=⟨_,rfl⟩
 have T0:Tk σ t st [.int .i64 0,.int .i64 0,.str ⟨#[]⟩,.isl [] true] τ0:=by rw [hτ0]; exact Tk.init h _
 have c1:=fun bs=>tnum_ok T0.at' 1 (by omega) bs
 generalize nbT 1 st=r at *
 obtain ⟨k,st1⟩:=r
 have T1:=T0.set st1
 obtain ⟨τ1,hτ1⟩:∃ τ1:Heap,τ1=τ0.set t (tk st1):=⟨_,rfl⟩
 simp only [Int.cast_ofNat_Int,←hτ1] at c1 T1
 have T2:=T1.put [.int .i64 k,.int .i64 0,.str ⟨#[]⟩,.isl [] true]
 obtain ⟨τ2,hτ2⟩:∃ τ2:Heap,τ2=τ1.set a (.cells [.int .i64 k,.int .i64 0,.str ⟨#[]⟩,.isl [] true] 0 false):=⟨_,rfl⟩
 rw [←ha,←hτ2] at T2
 have hat:a≠t:=by have:=h; have h1:=T0.lt; omega
 have g1:=T1.obj
 have g2:=T2.obj
 rw [←ha] at g1 g2
 show _=some ((valR d sub k st1).1.enc,σ.set t (tk (valR d sub k st1).2))
 refine heap_enter (af:=c52) (args':=[.ptr t 0,.int .i64 d]) (σ1:=σ) rfl rfl (by simp [c52]) (by simp [c52]) rfl ?_
 by_cases k1:k=1
 ·subst k1
  have c2:=fun bs=>tnum_ok T2.at' 8 (by omega) bs
  have hv:valR d sub 1 st1=(.mk 1 (nbT 8 st1).1 ⟨#[]⟩ [],(nbT 8 st1).2):=by simp [valR]
  rw [hv]
  generalize nbT 8 st1=r at *
  obtain ⟨v,st2⟩:=r
  have T3:=T2.set st2
  obtain ⟨τ3,hτ3⟩:∃ τ3:Heap,τ3=τ2.set t (tk st2):=⟨_,rfl⟩
  simp only [Int.cast_ofNat_Int,←hτ3] at c2 T3
  have g3:=T3.obj
  rw [←ha] at g3
  have T4:=T3.put [.int .i64 1,.int .i64 v,.str ⟨#[]⟩,.isl [] true]
  obtain ⟨τ4,hτ4⟩:∃ τ4:Heap,τ4=τ3.set a (.cells [.int .i64 1,.int .i64 v,.str ⟨#[]⟩,.isl [] true] 0 false):=⟨_,rfl⟩
  rw [←ha,←hτ4] at T4
  have g4:=T4.obj
  have hdr:=T4.drop
  rw [←ha] at g4 hdr
  simp [-getElem?_pos,c52,baseA,←ha,←hτ0,c1,g1,setRun,←hτ2,g2,c2,g3,←hτ4,g4,dropA_gc,refLt,res1,rf_V,hdr,GV.enc,GV.encs]
  rfl
 ·by_cases k23:k=2∨k=3
  ·have c2:=fun bs=>ttext_ok T2.at' bs
   have hv:valR d sub k st1=(.mk k 0 (ba (textT st1).1) [],(textT st1).2):=by simp [valR,k1,k23]
   rw [hv]
   generalize textT st1=r at *
   obtain ⟨v,st2⟩:=r
   have T3:=T2.set st2
   obtain ⟨τ3,hτ3⟩:∃ τ3:Heap,τ3=τ2.set t (tk st2):=⟨_,rfl⟩
   simp only [←hτ3] at c2 T3
   have g3:=T3.obj
   rw [←ha] at g3
   have T4:=T3.put [.int .i64 k,.int .i64 0,.str (ba v),.isl [] true]
   obtain ⟨τ4,hτ4⟩:∃ τ4:Heap,τ4=τ3.set a (.cells [.int .i64 k,.int .i64 0,.str (ba v),.isl [] true] 0 false):=⟨_,rfl⟩
   rw [←ha,←hτ4] at T4
   have g4:=T4.obj
   have hdr:=T4.drop
   rw [←ha] at g4 hdr
   rcases k23 with rfl | rfl
   ·simp [-getElem?_pos,c52,baseA,←ha,←hτ0,c1,g1,setRun,←hτ2,g2,c2,g3,←hτ4,g4,dropA_gc,refLt,res1,hdr,GV.enc,GV.encs]
    rfl
   ·simp [-getElem?_pos,c52,baseA,←ha,←hτ0,c1,g1,setRun,←hτ2,g2,c2,g3,←hτ4,g4,dropA_gc,refLt,res1,hdr,GV.enc,GV.encs]
    rfl
  ·have k2:k≠2:=fun e=>k23 (.inl e)
   have k3:k≠3:=fun e=>k23 (.inr e)
   by_cases k4:k=4
   ·subst k4
    have c2:=fun bs=>tnum_ok T2.at' 1 (by omega) bs
    have hr1:=nbT1_rng st1
    have hv:valR d sub 4 st1=(.mk 4 0 ⟨#[]⟩ (rep sub (nbT 1 st1).1.toNat ((nbT 1 st1).2.1,(nbT 1 st1).2.2 || decide (d=0))).1,(rep sub (nbT 1 st1).1.toNat ((nbT 1 st1).2.1,(nbT 1 st1).2.2 || decide (d=0))).2):=by simp [valR]
    rw [hv]
    generalize nbT 1 st1=r at *
    obtain ⟨v,r2,b2⟩:=r
    obtain ⟨n,rfl⟩:∃ n:Nat,v=(n:Int):=⟨v.toNat,by have:=hr1.1; simp only at this; omega⟩
    have hn:n<256:=by have:=hr1.2; simp only at this; omega
    have T3:=T2.set (r2,b2)
    obtain ⟨τ3,hτ3⟩:∃ τ3:Heap,τ3=τ2.set t (tk (r2,b2)):=⟨_,rfl⟩
    simp only [Int.cast_ofNat_Int,←hτ3] at c2 T3
    have g3:=T3.obj
    rw [←ha] at g3
    have gt3:τ3[t]?=some (.cells [.str (ba r2),.bool b2] 0 false):=T3.at'
    have T4:=T3.set (r2,b2 || decide (d=0))
    obtain ⟨τ4,hτ4⟩:∃ τ4:Heap,τ4=τ3.set t (tk (r2,b2 || decide (d=0))):=⟨_,rfl⟩
    rw [←hτ4] at T4
    have hτ4':τ4=τ3.set t (.cells [.str (ba r2),.bool (b2 || decide (d=0))] 0 false):=hτ4
    obtain ⟨st3,hst3⟩:∃ st3:TS,st3=(r2,b2 || decide (d=0)):=⟨_,rfl⟩
    have hd3:d=0→st3.2=true:=fun e=>by rw [hst3]; simp [e]
    rw [←hst3] at T4
    simp only [←hst3]
    have hfin:∀ (st5:TS) (vs:List GV) (l:AV) (τ5:Heap),Tk σ t st5 [.int .i64 4,.int .i64 0,.str ⟨#[]⟩,l] τ5→LX (a+1) 4 τ5 (GV.encs vs) l→∃ τ6,close1 τ5 l=some (.isl (GV.encs vs) false,τ6)∧τ6.take a=σ.set t (tk st5):=fun st5 vs l τ5 T5 L5=>by
     obtain ⟨τ6,e1,e2,e3,_⟩:=L5.close
     exact ⟨τ6,close1_of0 e1,by rw [ha]; exact (T5.same (by omega) (by rw [←ha]; exact e3)).drop⟩
    have hn':(n:Int).toNat=n:=rfl
    simp only [hn']
    have hdec:(d:Int)=0↔d=0:=by omega
    cases b2
    simp only [Bool.false_or] at hτ4'
    simp [-getElem?_pos,c52,baseA,←ha,←hτ0,c1,g1,setRun,←hτ2,g2,c2,gt3,AV.clo1,-stS,←hτ4']
    rotate_left
    simp only [Bool.true_or] at hτ4'
    simp [-getElem?_pos,c52,baseA,←ha,←hτ0,c1,g1,setRun,←hτ2,g2,c2,gt3,AV.clo1,←hτ4']
    rotate_left
    all_goals
     refine W_for T a 60 n (fun i f τ=>f 0=.ptr t 0∧f 1=.int .i64 (d:Int)∧f 4=.ptr a 0∧f 5=.int .i64 ((n:Int) - (i:Int))∧VLoop σ t a d n sub st3 i τ) ?_ _ _ ?_
     ·rintro i f τ hi ⟨f0,f1,f4,f5,sti,vs,l,Ti,Li,hvl,hdi,hrep⟩
      have ga:=Ti.obj
      rw [←ha] at ga
      have gt:τ[t]?=some (.cells [.str (ba sti.1),.bool sti.2] 0 false):=Ti.at'
      by_cases hlt:i<n
      ·have hp:(0:Int)<(n:Int) - (i:Int):=by omega
       cases hb:sti.2 with
       | true=>
        rw [rep_bad _ _ _ hb,List.append_nil] at hrep
        rw [hrep]
        obtain ⟨τ6,e1,e2⟩:=hfin sti vs l τ Ti Li
        rw [hb] at gt
        simp [-getElem?_pos,f0,f1,f4,f5,hp,gt,ga,e1,dropA_gc,refLt,res1,e2,GV.enc]
        exact ⟨fun _=>rfl,fun _=>rfl⟩
       | false=>
        have hd0:d≠0:=fun e=>by rw [hdi e] at hb; cases hb
        rcases hsub with e | hsub
        ·exact absurd e hd0
        have w1:IntKind.i64.wrap ((d:Int) - 1)=(d:Int) - 1:=wr64 (by omega) (by omega)
        have w2:IntKind.i64.wrap ((n:Int) - (i:Int) - 1)=(n:Int) - ((i+1:Nat):Int):=by rw [wr64 (by omega) (by omega)]; omega
        have hc:=hsub Ti.at'
        have hrep2:rep sub n st3=((vs++[(sub sti).1])++(rep sub (n - (i+1)) (sub sti).2).1,(rep sub (n - (i+1)) (sub sti).2).2):=by
         rw [hrep,show n - i=(n - (i+1))+1 by omega]
         simp [rep,hb]
        generalize sub sti=r at *
        obtain ⟨v,stn⟩:=r
        have Tn:=Ti.set stn
        obtain ⟨τn,hτn⟩:∃ τn:Heap,τn=τ.set t (tk stn):=⟨_,rfl⟩
        simp only [←hτn] at hc Tn
        have gan:=Tn.obj
        rw [←ha] at gan
        rw [hb] at gt
        simp [-getElem?_pos,f0,f1,f4,f5,hp,gt,ga,w1,hlt,hc,chkO_l,objOf,gan,-appendA_ag]
        have Ln:LX (a+1) 4 τn (GV.encs vs) l:=by
         rw [hτn]; exact Li.keep fun j o hj ho=>by rw [zqC (by have:=Ti.lt; omega)]; exact ho
        have hNl:a+1≤τn.length:=by have:=Tn.len; omega
        refine stW_app1 (N:=a+1) Ln rfl rfl (by omega) (by omega) hNl (by simp; omega) fun x' σ' hL' hlen' hk'=>?_
        have T5:Tk σ t stn [.int .i64 4,.int .i64 0,.str ⟨#[]⟩,l] σ':=Tn.same (by omega) (by rw [←ha]; exact hk')
        have ga5:=T5.obj
        have T6:=T5.put [.int .i64 4,.int .i64 0,.str ⟨#[]⟩,x']
        rw [←ha] at ga5 T6
        have L6:LX (a+1) 4 (σ'.set a (.cells [.int .i64 4,.int .i64 0,.str ⟨#[]⟩,x'] 0 false)) (GV.encs (vs++[v])) x':=by
         have e:GV.encs vs++[AV.agg (List.map AV.nrm [.int .i64 v.kind,.int .i64 v.num,.str v.text,.isl (GV.encs v.items) false])]=GV.encs (vs++[v]):=by
          have e2:GV.encs (vs++[v])=GV.encs vs++[v.enc]:=by simp [GV.encs_map]
          rw [e2,GV.enc_eq]; rfl
         rw [←e]
         exact hL'.keep fun j o hj ho=>by rw [zqC (by omega)]; exact ho
        simp [-getElem?_pos,-Prod.exists,f0,f1,f4,f5,ga5,hL'.solid,hL'.cells,setRun,w2]
        exact ⟨stn,vs++[v],x',T6,L6,by simp [hvl],fun e=>absurd e hd0,hrep2⟩
      ·have he:i=n:=by omega
       subst he
       simp only [Nat.sub_self,rep,List.append_nil] at hrep
       rw [hrep]
       obtain ⟨τ6,e1,e2⟩:=hfin sti vs l τ Ti Li
       simp [-getElem?_pos,f0,f1,f4,f5,gt,ga,e1,dropA_gc,refLt,res1,e2,GV.enc]
       rfl
     ·exact ⟨by simp,by simp,by simp,by simp,st3,[],.isl [] true,T4,.inl ⟨rfl,rfl⟩,rfl,hd3,by simp⟩
   ·have hv:valR d sub k st1=(.mk k 0 ⟨#[]⟩ [],(st1.1,true)):=by simp [valR,k1,k2,k3,k4]
    rw [hv]
    have T3:=T2.set (st1.1,true)
    obtain ⟨τ3,hτ3⟩:∃ τ3:Heap,τ3=τ2.set t (tk (st1.1,true)):=⟨_,rfl⟩
    rw [←hτ3] at T3
    have g3:=T3.obj
    have hdr:=T3.drop
    rw [←ha] at g3 hdr
    have gt:τ2[t]?=some (.cells [.str (ba st1.1),.bool st1.2] 0 false):=T2.at'
    have hτ3':τ3=τ2.set t (.cells [.str (ba st1.1),.bool true] 0 false):=hτ3
    simp [-getElem?_pos,c52,baseA,←ha,←hτ0,c1,g1,setRun,←hτ2,g2,gt,k1,k2,k3,k4,←hτ3',g3,dropA_gc,refLt,res1,hdr,GV.enc,GV.encs,AV.clo1]
    rfl
theorem tvalue_ok:∀ (d:Nat),d≤4→∀ {σ:Heap} {t:Nat} {st:TS} (h:σ[t]?=some (tk st)) (bs:Nat),
  callT T 52 [.ptr t 0,.int .i64 d] bs σ=some ((valT d st).1.enc,σ.set t (tk (valT d st).2)):=by
 intro d
 induction d with
 | zero=>exact fun _ {σ t st} h bs=>tvalue_aux 0 (by omega) _ (.inl rfl) h bs
 | succ d ih=>
  intro hd σ t st h bs
  refine tvalue_aux (d+1) hd (valT d) (.inr fun {σ t st} h bs=>?_) h bs
  have:=ih (by omega) h bs
  rwa [show ((d+1:Nat):Int) - 1=(d:Int) by omega]
open Go.Mach
def RLoop (σ:Heap) (t a n:Nat) (nm:ByteArray) (st3:TS) (i:Nat) (τ:Heap):Prop:=
 ∃ (sti:TS) (vs:List GV) (l:AV),Tk σ t sti [.str nm,l,.int .i64 0] τ∧LX (a+1) 4 τ (GV.encs vs) l∧vs.length=i∧rep (valT 4) n st3=(vs++(rep (valT 4) (n - i) sti).1,(rep (valT 4) (n - i) sti).2)
theorem trow_ok {σ:Heap} {t:Nat} {st:TS} (h:σ[t]?=some (tk st)) (bs:Nat) :
  callT T 33 [.ptr t 0] bs σ=some ((rowT st).1.enc,σ.set t (tk (rowT st).2)):=by
 obtain ⟨a,ha⟩:∃ a,a=σ.length:=⟨_,rfl⟩
 obtain ⟨τ0,hτ0⟩:∃ τ0:Heap,τ0=σ++[.cells [.str ⟨#[]⟩,.isl [] true,.int .i64 0] 0 false]:=⟨_,rfl⟩
 have T0:Tk σ t st [.str ⟨#[]⟩,.isl [] true,.int .i64 0] τ0:=by rw [hτ0]; exact Tk.init h _
 have c1:=fun bs=>ttext_ok T0.at' bs
 obtain ⟨nm,st1,he1⟩:∃ nm st1,textT st=(nm,st1):=⟨_,_,rfl⟩
 rw [he1] at c1
 have T1:=T0.set st1
 obtain ⟨τ1,hτ1⟩:∃ τ1:Heap,τ1=τ0.set t (tk st1):=⟨_,rfl⟩
 simp only [←hτ1] at c1 T1
 have T2:=T1.put [.str (ba nm),.isl [] true,.int .i64 0]
 obtain ⟨τ2,hτ2⟩:∃ τ2:Heap,τ2=τ1.set a (.cells [.str (ba nm),.isl [] true,.int .i64 0] 0 false):=⟨_,rfl⟩
 rw [←ha,←hτ2] at T2
 have hat:a≠t:=by have h1:=T0.lt; omega
 have g1:=T1.obj
 have g2:=T2.obj
 rw [←ha] at g1 g2
 have c2:=fun bs=>tnum_ok T2.at' 1 (by omega) bs
 have hr1:=nbT1_rng st1
 obtain ⟨v,st3,he2⟩:∃ v st3,nbT 1 st1=(v,st3):=⟨_,_,rfl⟩
 rw [he2] at c2 hr1
 obtain ⟨n,rfl⟩:∃ n:Nat,v=(n:Int):=⟨v.toNat,by have:=hr1.1; simp only at this; omega⟩
 have hn:n<256:=by have:=hr1.2; simp only at this; omega
 have T3:=T2.set st3
 obtain ⟨τ3,hτ3⟩:∃ τ3:Heap,τ3=τ2.set t (tk st3):=⟨_,rfl⟩
 simp only [Int.cast_ofNat_Int,←hτ3] at c2 T3
 have hrow:rowT st=(⟨ba nm,(rep (valT 4) n st3).1,(nbT 8 (rep (valT 4) n st3).2).1⟩,(nbT 8 (rep (valT 4) n st3).2).2):=by
  simp only [rowT,he1,he2]; rfl
 rw [hrow]
 have hfin:∀ (st5:TS) (vs:List GV) (l:AV) (f:FR) (τ5:Heap),Tk σ t st5 [.str (ba nm),l,.int .i64 0] τ5→LX (a+1) 4 τ5 (GV.encs vs) l →
   ∃ τ6 τ7 τ8,(∀ bs,callT T 32 [.ptr t 0,.int .i64 8] bs τ5=some (.int .i64 (nbT 8 st5).1,τ6))∧τ6[a]?=some (.cells [.str (ba nm),l,.int .i64 0] 0 false) ∧
    τ6.set a (.cells [.str (ba nm),l,.int .i64 (nbT 8 st5).1] 0 false)=τ7∧τ7[a]?=some (.cells [.str (ba nm),l,.int .i64 (nbT 8 st5).1] 0 false)∧close1 τ7 l=some (.isl (GV.encs vs) false,τ8)∧τ8.take a=σ.set t (tk (nbT 8 st5).2):=fun st5 vs l f τ5 T5 L5=>by
  have T6:=T5.set (nbT 8 st5).2
  have T7:=T6.put [.str (ba nm),l,.int .i64 (nbT 8 st5).1]
  rw [←ha] at T7
  have L7:LX (a+1) 4 ((τ5.set t (tk (nbT 8 st5).2)).set a (.cells [.str (ba nm),l,.int .i64 (nbT 8 st5).1] 0 false)) (GV.encs vs) l:=
   L5.keep fun j o hj ho=>by rw [zqC (by omega),zqC (by have:=T5.lt; omega)]; exact ho
  obtain ⟨τ8,e1,e2,e3,_⟩:=L7.close
  exact ⟨_,_,τ8,fun bs=>tnum_ok T5.at' 8 (by omega) bs,by rw [ha]; exact T6.obj,rfl,by have:=T7.obj; rwa [←ha] at this,close1_of0 e1,by rw [ha]; exact (T7.same (by omega) (by rw [←ha]; exact e3)).drop⟩
 refine heap_enter (af:=c33) (args':=[.ptr t 0]) (σ1:=σ) rfl rfl (by simp [c33]) (by simp [c33]) rfl ?_
 simp [-getElem?_pos,c33,baseA,←ha,←hτ0,c1,g1,setRun,←hτ2,c2]
 refine W_for T a 30 n (fun i f τ=>f 0=.ptr t 0∧f 2=.ptr a 0∧f 3=.int .i64 ((n:Int) - (i:Int))∧RLoop σ t a n (ba nm) st3 i τ) ?_ _ _ ?_
 ·rintro i f τ hi ⟨f0,f2,f3,sti,vs,l,Ti,Li,hvl,hrep⟩
  have ga:=Ti.obj
  rw [←ha] at ga
  have gt:τ[t]?=some (.cells [.str (ba sti.1),.bool sti.2] 0 false):=Ti.at'
  by_cases hlt:i<n
  ·have hp:(0:Int)<(n:Int) - (i:Int):=by omega
   cases hb:sti.2 with
   | true=>
    rw [rep_bad _ _ _ hb,List.append_nil] at hrep
    rw [hrep]
    obtain ⟨τ6,τ7,τ8,e1,e2,e3,e4,e5,e6⟩:=hfin sti vs l f τ Ti Li
    rw [hb] at gt
    simp [-getElem?_pos,f0,f2,f3,hp,gt,ga,e1,e2,setRun,e3,e4,e5,dropA_gc,refLt,res1,e6,GW.enc,GW.cls]
    exact ⟨fun _=>rfl,fun _=>rfl⟩
   | false=>
    have w2:IntKind.i64.wrap ((n:Int) - (i:Int) - 1)=(n:Int) - ((i+1:Nat):Int):=by rw [wr64 (by omega) (by omega)]; omega
    have hc:=fun bs=>tvalue_ok 4 (by omega) Ti.at' bs
    have hrep2:rep (valT 4) n st3=((vs++[(valT 4 sti).1])++(rep (valT 4) (n - (i+1)) (valT 4 sti).2).1,(rep (valT 4) (n - (i+1)) (valT 4 sti).2).2):=by
     rw [hrep,show n - i=(n - (i+1))+1 by omega]
     simp [rep,hb]
    obtain ⟨v,stn,hev⟩:∃ v stn,valT 4 sti=(v,stn):=⟨_,_,rfl⟩
    rw [hev] at hc hrep2
    have Tn:=Ti.set stn
    obtain ⟨τn,hτn⟩:∃ τn:Heap,τn=τ.set t (tk stn):=⟨_,rfl⟩
    simp only [Int.cast_ofNat_Int,←hτn] at hc Tn
    have gan:=Tn.obj
    rw [←ha] at gan
    rw [hb] at gt
    simp [-getElem?_pos,f0,f2,f3,hp,gt,ga,hlt,hc,chkO_l,objOf,gan,-appendA_ag]
    have Ln:LX (a+1) 4 τn (GV.encs vs) l:=by
     rw [hτn]; exact Li.keep fun j o hj ho=>by rw [zqC (by have:=Ti.lt; omega)]; exact ho
    have hNl:a+1≤τn.length:=by have:=Tn.len; omega
    refine stW_app1 (N:=a+1) Ln rfl rfl (by omega) (by omega) hNl (by simp; omega) fun x' σ' hL' hlen' hk'=>?_
    have T5:Tk σ t stn [.str (ba nm),l,.int .i64 0] σ':=Tn.same (by omega) (by rw [←ha]; exact hk')
    have ga5:=T5.obj
    have T6:=T5.put [.str (ba nm),x',.int .i64 0]
    rw [←ha] at ga5 T6
    have L6:LX (a+1) 4 (σ'.set a (.cells [.str (ba nm),x',.int .i64 0] 0 false)) (GV.encs (vs++[v])) x':=by
     have e:GV.encs vs++[AV.agg (List.map AV.nrm [.int .i64 v.kind,.int .i64 v.num,.str v.text,.isl (GV.encs v.items) false])]=GV.encs (vs++[v]):=by
      have e2:GV.encs (vs++[v])=GV.encs vs++[v.enc]:=by simp [GV.encs_map]
      rw [e2,GV.enc_eq]; rfl
     rw [←e]
     exact hL'.keep fun j o hj ho=>by rw [zqC (by omega)]; exact ho
    simp [-getElem?_pos,f0,f2,f3,ga5,hL'.solid,hL'.cells,setRun,w2]
    exact ⟨stn,vs++[v],x',T6,L6,by simp [hvl],hrep2⟩
  ·have he:i=n:=by omega
   subst he
   simp only [Nat.sub_self,rep,List.append_nil] at hrep
   rw [hrep]
   obtain ⟨τ6,τ7,τ8,e1,e2,e3,e4,e5,e6⟩:=hfin sti vs l f τ Ti Li
   simp [-getElem?_pos,f0,f2,f3,gt,ga,e1,e2,setRun,e3,e4,e5,dropA_gc,refLt,res1,e6,GW.enc,GW.cls]
   rfl
 ·exact ⟨by simp,by simp,by simp,st3,[],.isl [] true,T3,.inl ⟨rfl,rfl⟩,rfl,by simp⟩
open Go.Mach
theorem takeN_good {n:Nat} {st:TS} (h:(takeN n st).2.2=false):st.2=false∧(takeN n st).1.length=n∧(takeN n st).2.1.length+n=st.1.length:=by
 unfold takeN at h ⊢
 split at h
 ·cases h
 ·rename_i hc
  rw [if_neg hc]
  simp only [not_or,Bool.not_eq_true,Nat.not_lt] at hc
  exact ⟨hc.1,by simp; omega,by simp; omega⟩
theorem nbT_good {n:Nat} {st:TS} (h:(nbT n st).2.2=false):st.2=false∧(nbT n st).2.1.length+n=st.1.length:=
 ⟨(takeN_good h).1,(takeN_good h).2.2⟩
theorem textT_good {st:TS} (h:(textT st).2.2=false):st.2=false∧(textT st).1.length+1+(textT st).2.1.length=st.1.length∧(textT st).1.length<256:=by
 have h1:=takeN_good (n:=(nbT 1 st).1.toNat) (st:=(nbT 1 st).2) h
 have h2:=nbT_good h1.1
 have hr:=nbT1_rng st
 have e:(textT st)=takeN (nbT 1 st).1.toNat (nbT 1 st).2:=rfl
 rw [e]
 exact ⟨h2.1,by omega,by omega⟩
theorem rep_good {α:Type} {f:TS→α × TS} {sz:α→Nat} (hf:∀ st,(f st).2.2=false→st.2=false∧sz (f st).1+5 * (f st).2.1.length≤5 * st.1.length):∀ (n:Nat) (st:TS),(rep f n st).2.2=false →
  st.2=false∧((rep f n st).1.map sz).sum+5 * (rep f n st).2.1.length≤5 * st.1.length∧(rep f n st).1.length≤n
 | 0,st,h=>⟨h,by simp [rep],by simp [rep]⟩
 | n+1,st,h=>by
  by_cases hb:st.2=true
  ·rw [rep_bad f (n+1) st hb] at h
   rw [hb] at h; cases h
  ·simp only [rep,if_neg hb] at h ⊢
   obtain ⟨h1,h2,h3⟩:=rep_good hf n (f st).2 h
   obtain ⟨k1,k2⟩:=hf st h1
   refine ⟨k1,?_,by simpa using h3⟩
   simp only [List.map_cons,List.sum_cons]; omega
theorem sizes_sum:∀ l:List GV,GV.sizes l=(l.map GV.size).sum
 | []=>rfl
 | v :: l=>by simp only [GV.sizes,List.map_cons,List.sum_cons,sizes_sum l]
theorem valR_good {d:Nat} {sub:TS→GV × TS} (hsub:∀ st,(sub st).2.2=false→st.2=false∧(sub st).1.size+5 * (sub st).2.1.length≤5 * st.1.length) (k:Int) (st:TS) (h:(valR d sub k st).2.2=false) :
  st.2=false∧(valR d sub k st).1.size+5 * (valR d sub k st).2.1.length≤5 * st.1.length+5:=by
 have hz:(⟨#[]⟩:ByteArray).size=0:=rfl
 unfold valR at h ⊢
 split at h
 ·rename_i k1
  rw [if_pos k1]
  have:=nbT_good h
  exact ⟨this.1,by simp only [GV.size,GV.sizes,hz]; omega⟩
 ·rename_i k1
  rw [if_neg k1]
  split at h
  ·rename_i k2
   rw [if_pos k2]
   have:=textT_good h
   exact ⟨this.1,by simp only [GV.size,GV.sizes,baF_size]; omega⟩
  ·rename_i k2
   rw [if_neg k2]
   split at h
   ·rename_i k3
    rw [if_pos k3]
    obtain ⟨h1,h2,_⟩:=rep_good hsub _ _ h
    simp only [Bool.or_eq_false_iff] at h1
    have:=nbT_good h1.1
    simp only at h2
    exact ⟨this.1,by simp only [GV.size,hz,sizes_sum]; omega⟩
   ·cases h
theorem valT_good:∀ (d:Nat) (st:TS),(valT d st).2.2=false→st.2=false∧(valT d st).1.size+5 * (valT d st).2.1.length≤5 * st.1.length
 | 0,st,h=>by
  have h1:(valR 0 (fun st=>((GV.mk 0 0 ⟨#[]⟩ []:GV),st)) (nbT 1 st).1 (nbT 1 st).2).2.2=false:=h
  have hv:∀ (k:Int) (st:TS),(valR 0 (fun st=>((GV.mk 0 0 ⟨#[]⟩ []:GV),st)) k st).2.2=false→st.2=false∧(valR 0 (fun st=>((GV.mk 0 0 ⟨#[]⟩ []:GV),st)) k st).1.size+5 * (valR 0 (fun st=>((GV.mk 0 0 ⟨#[]⟩ []:GV),st)) k st).2.1.length≤5 * st.1.length+5:=fun k st h=>by
   by_cases k4:k=4
   ·subst k4
    exfalso
    simp [valR] at h
    rw [rep_bad _ _ _ rfl] at h; cases h
   ·have e:valR 0 (fun st=>((GV.mk 0 0 ⟨#[]⟩ []:GV),st)) k st=valR 0 (fun st=>((GV.mk 0 0 ⟨#[]⟩ []:GV),(st.1,true))) k st:=by simp [valR,k4]
    rw [e] at h ⊢
    exact valR_good (fun st h=>by cases h) k st h
  obtain ⟨h2,h3⟩:=hv _ _ h1
  have h4:=nbT_good h2
  exact ⟨h4.1,by show (valR 0 _ _ _).1.size+_≤_; simp only [valT] at *; omega⟩
 | d+1,st,h=>by
  have h1:(valR (d+1) (valT d) (nbT 1 st).1 (nbT 1 st).2).2.2=false:=h
  obtain ⟨h2,h3⟩:=valR_good (fun st h=>valT_good d st h) _ _ h1
  have h4:=nbT_good h2
  exact ⟨h4.1,by simp only [valT] at *; omega⟩
theorem rowT_good (st:TS) (h:(rowT st).2.2=false):st.2=false∧GV.sizes (rowT st).1.args+5 * (rowT st).2.1.length≤5 * st.1.length∧(rowT st).1.name.size<256:=by
 have h1:=nbT_good (n:=8) h
 obtain ⟨h2,h3,_⟩:=rep_good (sz:=GV.size) (fun st h=>valT_good 4 st h) _ _ h1.1
 have h4:=nbT_good h2
 have h5:=textT_good h4.1
 refine ⟨h5.1,?_,?_⟩
 ·rw [sizes_sum]
  show ((rep (valT 4) (nbT 1 (textT st).2).1.toNat (nbT 1 (textT st).2).2).1.map GV.size).sum+5 * (nbT 8 (rep (valT 4) (nbT 1 (textT st).2).1.toNat (nbT 1 (textT st).2).2).2).2.1.length≤_
  omega
 ·show (ba (textT st).1).size<256
  rw [baF_size]; exact h5.2.2
theorem sizesW_sum:∀ l:List GW,sizesW l=(l.map fun x=>GV.sizes x.args).sum
 | []=>rfl
 | v :: l=>by simp only [sizesW,List.map_cons,List.sum_cons,sizesW_sum l]
theorem rep_all {α:Type} {f:TS→α × TS} {P:α→Prop} (hf:∀ st,(f st).2.2=false→st.2=false∧P (f st).1):∀ (n:Nat) (st:TS),(rep f n st).2.2=false→st.2=false∧∀ x∈(rep f n st).1,P x
 | 0,st,h=>⟨h,by simp [rep]⟩
 | n+1,st,h=>by
  by_cases hb:st.2=true
  ·rw [rep_bad f (n+1) st hb] at h
   rw [hb] at h; cases h
  ·simp only [rep,if_neg hb] at h ⊢
   obtain ⟨h1,h2⟩:=rep_all hf n (f st).2 h
   obtain ⟨k1,k2⟩:=hf st h1
   refine ⟨k1,fun x hx=>?_⟩
   rcases List.mem_cons.1 hx with rfl | hx
   ·exact k2
   ·exact h2 x hx
theorem mem_le_sum {l:List Nat} {x:Nat} (h:x∈l):x≤l.sum:=by
 induction l with
 | nil=>cases h
 | cons y l ih=>
  rcases List.mem_cons.1 h with rfl | h
  ·simp
  ·have:=ih h; simp only [List.sum_cons]; omega
theorem nbT2_rng (st:TS):0≤(nbT 2 st).1∧(nbT 2 st).1<65536:=by
 have h:=takeN_len 2 st
 unfold nbT
 generalize (takeN 2 st).1=l at h
 match l,h with
 | [],_=>simp [nbP]
 | [c],_=>
  have hc:=c.toNat_lt
  have:nbP [c]=(c.toNat:Int):=by
   show IntKind.i64.wrap (0 * 256+(c.toNat:Int))=_
   rw [wr64 (by omega) (by omega)]; omega
  simp only [this]; omega
 | [c,e],_=>
  have hc:=c.toNat_lt
  have he:=e.toNat_lt
  have:nbP [c,e]=(c.toNat:Int) * 256+(e.toNat:Int):=by
   show IntKind.i64.wrap (IntKind.i64.wrap (0 * 256+(c.toNat:Int)) * 256+(e.toNat:Int))=_
   rw [wr64 (n:=0 * 256+(c.toNat:Int)) (by omega) (by omega),wr64 (by omega) (by omega)]; omega
  simp only [this]; omega
theorem bodyT_good (st:TS) (h:(bodyT st).2.2=false) (hs:st.1.length≤16000000):SzF (bodyT st).1:=by
 have hrow:(rep rowT (nbT 2 (nbT 8 (nbT 8 (textT (textT st).2).2).2).2).1.toNat (nbT 2 (nbT 8 (nbT 8 (textT (textT st).2).2).2).2).2).2.2=false:=h
 obtain ⟨h1,h2,h3⟩:=rep_good (sz:=fun x=>GV.sizes x.args) (fun st h=>⟨(rowT_good st h).1,(rowT_good st h).2.1⟩) _ _ hrow
 obtain ⟨_,h4⟩:=rep_all (P:=fun x=>x.name.size<256) (fun st h=>⟨(rowT_good st h).1,(rowT_good st h).2.2⟩) _ _ hrow
 have k1:=nbT_good h1
 have k2:=nbT_good k1.1
 have k3:=nbT_good k2.1
 have k4:=textT_good k3.1
 have k5:=textT_good k4.1
 have kr:=nbT2_rng (nbT 8 (nbT 8 (textT (textT st).2).2).2).2
 have hb:(bodyT st).1=⟨ba (textT st).1,ba (textT (textT st).2).1,(nbT 8 (textT (textT st).2).2).1,(nbT 8 (nbT 8 (textT (textT st).2).2).2).1,(rep rowT (nbT 2 (nbT 8 (nbT 8 (textT (textT st).2).2).2).2).1.toNat (nbT 2 (nbT 8 (nbT 8 (textT (textT st).2).2).2).2).2).1⟩:=rfl
 rw [hb]
 refine ⟨?_,?_,?_,?_,fun x hx=>⟨?_,?_⟩⟩
 ·show sizesW _≤_
  rw [sizesW_sum]; dsimp only; omega
 ·show (ba _).size≤_
  rw [baF_size]; omega
 ·show (ba _).size≤_
  rw [baF_size]; omega
 ·dsimp only; omega
 ·have:=h4 x hx; omega
 ·have:GV.sizes x.args≤((rep rowT (nbT 2 (nbT 8 (nbT 8 (textT (textT st).2).2).2).2).1.toNat (nbT 2 (nbT 8 (nbT 8 (textT (textT st).2).2).2).2).2).1.map fun x=>GV.sizes x.args).sum:=mem_le_sum (List.mem_map_of_mem (f:=fun x:GW=>GV.sizes x.args) hx)
  omega
def zeroF:GF:=⟨⟨#[]⟩,⟨#[]⟩,0,0,[]⟩
noncomputable def takeO (l:List UInt8):AV:=match takeB l with
 | some b=>.tup [b.enc,.int .i64 0]
 | none=>.tup [zeroF.enc,.int .i64 150]
theorem takeO_no {s:List UInt8} (h:¬ ((bodyT (s,false)).2.2=false∧(bodyT (s,false)).2.1.length=4∧FOk (bodyT (s,false)).1∧layB (bodyT (s,false)).1=s)):takeO s=.tup [zeroF.enc,.int .i64 150]:=by
 unfold takeO takeB
 rw [if_neg h]
theorem takeO_yes {s:List UInt8} (h:(bodyT (s,false)).2.2=false∧(bodyT (s,false)).2.1.length=4∧FOk (bodyT (s,false)).1∧layB (bodyT (s,false)).1=s):takeO s=.tup [(bodyT (s,false)).1.enc,.int .i64 0]:=by
 unfold takeO takeB
 rw [if_pos h]
def BLoop (σ:Heap) (t a n:Nat) (b:GF) (st3:TS) (i:Nat) (τ:Heap):Prop:=
 ∃ (sti:TS) (vs:List GW) (l:AV),Tk σ t sti [.str b.frm,.str b.to,.int .i64 b.start,.int .i64 b.seq,l] τ∧LX (a+1) 3 τ (vs.map GW.enc) l∧vs.length=i∧rep rowT n st3=(vs++(rep rowT (n - i) sti).1,(rep rowT (n - i) sti).2)
theorem take17_ok (s:List UInt8) (hs:s.length≤16000000):pureT T c17 [.str (ba s)]=some (takeO s):=by
 obtain ⟨σ,hσ⟩:∃ σ:Heap,σ=[.cells [.str ⟨#[]⟩,.str ⟨#[]⟩,.int .i64 0,.int .i64 0,.isl [] true] 0 false,tk (s,false)]:=⟨_,rfl⟩
 have h0:σ[1]?=some (tk (s,false)):=by rw [hσ]; rfl
 have hl1:1<σ.length:=by rw [hσ]; simp
 obtain ⟨fr,st1,e1⟩:∃ x y,textT (s,false)=(x,y):=⟨_,_,rfl⟩
 have c1:=fun bs=>ttext_ok h0 bs
 rw [e1] at c1
 have h1:(σ.set 1 (tk st1))[1]?=some (tk st1):=List.getElem?_set_self hl1
 obtain ⟨to,st2,e2⟩:∃ x y,textT st1=(x,y):=⟨_,_,rfl⟩
 have c2:=fun bs=>ttext_ok h1 bs
 rw [e2] at c2
 have h2:(σ.set 1 (tk st2))[1]?=some (tk st2):=List.getElem?_set_self hl1
 obtain ⟨sta,st3,e3⟩:∃ x y,nbT 8 st2=(x,y):=⟨_,_,rfl⟩
 have c3:=fun bs=>tnum_ok h2 8 (by omega) bs
 rw [e3] at c3
 have h3:(σ.set 1 (tk st3))[1]?=some (tk st3):=List.getElem?_set_self hl1
 obtain ⟨sq,st4,e4⟩:∃ x y,nbT 8 st3=(x,y):=⟨_,_,rfl⟩
 have c4:=fun bs=>tnum_ok h3 8 (by omega) bs
 rw [e4] at c4
 have h4:(σ.set 1 (tk st4))[1]?=some (tk st4):=List.getElem?_set_self hl1
 simp only [Int.cast_ofNat_Int,List.set_set] at c1 c2 c3 c4
 obtain ⟨σ4,hσ4⟩:∃ σ4,σ4=σ.set 1 (tk st4):=⟨_,rfl⟩
 rw [←hσ4] at c4 h4
 have hl4:σ4.length=2:=by rw [hσ4,hσ]; rfl
 obtain ⟨τ0,hτ0⟩:∃ τ0:Heap,τ0=σ4++[.cells [.str (ba fr),.str (ba to),.int .i64 sta,.int .i64 sq,.isl [] true] 0 false]:=⟨_,rfl⟩
 have hg2:∀ o:AObj,(σ4++[o])[2]?=some o:=fun o=>by rw [←hl4]; simp
 have T0:Tk σ4 1 st4 [.str (ba fr),.str (ba to),.int .i64 sta,.int .i64 sq,.isl [] true] τ0:=by rw [hτ0]; exact Tk.init h4 _
 have c5:=fun bs=>tnum_ok T0.at' 2 (by omega) bs
 have hr:=nbT2_rng st4
 obtain ⟨v,st5,e5⟩:∃ x y,nbT 2 st4=(x,y):=⟨_,_,rfl⟩
 rw [e5] at c5 hr
 obtain ⟨n,rfl⟩:∃ n:Nat,v=(n:Int):=⟨v.toNat,by have:=hr.1; simp only at this; omega⟩
 have hn:n<65536:=by have:=hr.2; simp only at this; omega
 have T5:=T0.set st5
 obtain ⟨τ5,hτ5⟩:∃ τ5:Heap,τ5=τ0.set 1 (tk st5):=⟨_,rfl⟩
 simp only [Int.cast_ofNat_Int,←hτ5] at c5 T5
 have hbody:bodyT (s,false)=(⟨ba fr,ba to,sta,sq,(rep rowT n st5).1⟩,(rep rowT n st5).2):=by
  simp only [bodyT,e1,e2,e3,e4,e5]; rfl
 have hgood:=bodyT_good (s,false)
 rw [hbody] at hgood
 have hno:=takeO_no (s:=s)
 have hyes:=takeO_yes (s:=s)
 rw [hbody] at hno hyes
 apply pure_enter (by simp [c17])
 have htk:tk (s,false)=.cells [.str (ba s),.bool false] 0 false:=rfl
 rw [htk] at hσ
 simp [-getElem?_pos,c17,setRun,←hσ,c1,c2,c3,c4,hl4,hg2,←hτ0,c5]
 refine W_for T 0 68 n (fun i f τ=>f 0=.str (ba s)∧f 2=.ptr 0 0∧f 4=.ptr 1 0∧f 5=.ptr 2 0∧f 6=.int .i64 ((n:Int) - (i:Int))∧BLoop σ4 1 2 n ⟨ba fr,ba to,sta,sq,[]⟩ st5 i τ) ?_ _ _ ?_
 ·rintro i f τ hi ⟨f0,f2,f4,f5,f6,sti,vs,l,Ti,Li,hvl,hrep⟩
  have ga:=Ti.obj
  rw [hl4] at ga
  have gt:τ[1]?=some (.cells [.str (ba sti.1),.bool sti.2] 0 false):=Ti.at'
  have g0:τ[0]?=some (.cells [.str ⟨#[]⟩,.str ⟨#[]⟩,.int .i64 0,.int .i64 0,.isl [] true] 0 false):=by
   rw [Ti.keep 0 (by omega) (by omega),hσ4,zqC (by omega),hσ]; rfl
  have g0s:∀ o,(τ.set 0 o)[0]?=some o:=fun o=>List.getElem?_set_self (by have:=Ti.len; omega)
  by_cases hlt:i<n
  ·have hp:(0:Int)<(n:Int) - (i:Int):=by omega
   cases hb:sti.2 with
   | true=>
    rw [rep_bad _ _ _ hb,List.append_nil] at hrep
    rw [hb] at gt
    have hn1:=hno (by rw [hrep]; simp [hb])
    simp [-getElem?_pos,f0,f2,f4,f5,f6,hp,gt,ga,g0,g0s,AV.clo1,hn1,zeroF,GF.enc]
   | false=>
    have w2:IntKind.i64.wrap ((n:Int) - (i:Int) - 1)=(n:Int) - ((i+1:Nat):Int):=by rw [wr64 (by omega) (by omega)]; omega
    have hc:=fun bs=>trow_ok Ti.at' bs
    have hrep2:rep rowT n st5=((vs++[(rowT sti).1])++(rep rowT (n - (i+1)) (rowT sti).2).1,(rep rowT (n - (i+1)) (rowT sti).2).2):=by
     rw [hrep,show n - i=(n - (i+1))+1 by omega]
     simp [rep,hb]
    obtain ⟨v,stn,hev⟩:∃ v stn,rowT sti=(v,stn):=⟨_,_,rfl⟩
    rw [hev] at hc hrep2
    have Tn:=Ti.set stn
    obtain ⟨τn,hτn⟩:∃ τn:Heap,τn=τ.set 1 (tk stn):=⟨_,rfl⟩
    simp only [←hτn] at hc Tn
    have gan:=Tn.obj
    rw [hl4] at gan
    rw [hb] at gt
    simp [-getElem?_pos,f0,f2,f4,f5,f6,hp,gt,ga,hlt,hc,chkO_l,objOf,gan,-appendA_ag,GW.cls,setRun]
    have Ln:LX (2+1) 3 τn (vs.map GW.enc) l:=by
     rw [hτn]; exact Li.keep fun j o hj ho=>by rw [zqC (by omega)]; exact ho
    have hNl:2+1≤τn.length:=by have:=Tn.len; omega
    refine stW_app1 (N:=2+1) Ln rfl rfl (by omega) (by omega) hNl (by simp; omega) fun x' σ' hL' hlen' hk'=>?_
    have T6:Tk σ4 1 stn [.str (ba fr),.str (ba to),.int .i64 sta,.int .i64 sq,l] σ':=Tn.same (by omega) (by rw [hl4]; exact hk')
    have ga5:=T6.obj
    have T7:=T6.put [.str (ba fr),.str (ba to),.int .i64 sta,.int .i64 sq,x']
    rw [hl4] at ga5 T7
    have L7:LX (2+1) 3 (σ'.set 2 (.cells [.str (ba fr),.str (ba to),.int .i64 sta,.int .i64 sq,x'] 0 false)) ((vs++[v]).map GW.enc) x':=by
     have e:vs.map GW.enc++[AV.agg (List.map AV.nrm [.str v.name,.isl (GV.encs v.args) false,.int .i64 v.stamp])]=(vs++[v]).map GW.enc:=by
      simp [GW.enc,GW.cls]
     rw [←e]
     exact hL'.keep fun j o hj ho=>by rw [zqC (by omega)]; exact ho
    simp [-getElem?_pos,f0,f2,f4,f5,f6,ga5,hL'.solid,hL'.cells,setRun,w2]
    exact ⟨stn,vs++[v],x',T7,L7,by simp [hvl],hrep2⟩
  ·have he:i=n:=by omega
   subst he
   simp only [Nat.sub_self,rep,List.append_nil] at hrep
   rw [hrep] at hno hyes hgood
   cases hb:sti.2 with
   | true=>
    rw [hb] at gt
    have hn1:=hno (by simp [hb])
    simp [-getElem?_pos,f0,f2,f4,f5,f6,gt,ga,g0,g0s,AV.clo1,hn1,zeroF,GF.enc]
   | false=>
    rw [hb] at gt
    by_cases h4:sti.1.length=4
    ·have h4':(sti.1.length:Int)=4:=by omega
     obtain ⟨b,hbq⟩:∃ b:GF,b=⟨ba fr,ba to,sta,sq,vs⟩:=⟨_,rfl⟩
     have hz:SzF b:=by rw [hbq]; exact hgood hb hs
     rw [←hbq] at hno hyes
     obtain ⟨τ6,e6,-⟩:=Li.close
     have hcl:∀ bs:Nat,closeT τ [.agg [.str (ba fr),.str (ba to),.int .i64 sta,.int .i64 sq,l]]=some ([b.enc],τ6):=fun bs=>by
      rw [hbq]; simp [close1_of0 e6,GF.enc]
     by_cases hF:FOk b
     ·have hlay:=fun (bs:Nat)=>call_scal (T:=T) (bs:=bs) (f:=13) rfl rfl rfl (lay_yes b hz hF) rfl (by simp) (hcl bs)
      by_cases hq:layB b=s
      ·have hy1:=hyes ⟨hb,h4,hF,hq⟩
       have L7:LX (2+1) 3 (τ.set 0 (.cells [.str (ba fr),.str (ba to),.int .i64 sta,.int .i64 sq,l] 0 false)) (vs.map GW.enc) l:=
        Li.keep fun j o hj ho=>by rw [zqC (by omega)]; exact ho
       obtain ⟨τ7,e7,-⟩:=L7.close
       have hcl7:=close1_of0 e7
       simp [-getElem?_pos,f0,f2,f4,f5,f6,gt,ga,g0,g0s,AV.clo1,h4,hlay,hq,zqE,zqD,setRun,hcl7]
       rw [hy1,hbq]; exact ⟨rfl,rfl⟩
      ·have hn1:=hno (fun h=>hq h.2.2.2)
       simp [-getElem?_pos,f0,f2,f4,f5,f6,gt,ga,g0,g0s,AV.clo1,h4,hlay,hq,ba_inj,hn1,zeroF,GF.enc,zqE,zqD]
     ·have hlay:=fun (bs:Nat)=>call_scal (T:=T) (bs:=bs) (f:=13) rfl rfl rfl (lay_no b hz hF) rfl (by simp) (hcl bs)
      have hn1:=hno (fun h=>hF h.2.2.1)
      simp [-getElem?_pos,f0,f2,f4,f5,f6,gt,ga,g0,g0s,AV.clo1,h4,hlay,hn1,zeroF,GF.enc,zqE,zqD]
    ·have h4':¬ (sti.1.length:Int)=4:=by omega
     have hn1:=hno (fun h=>h4 h.2.1)
     simp [-getElem?_pos,f0,f2,f4,f5,f6,gt,ga,g0,g0s,AV.clo1,h4',hn1,zeroF,GF.enc]
 ·exact ⟨by simp,by simp,by simp,by simp,by simp,st5,[],.isl [] true,T5,.inl ⟨rfl,rfl⟩,rfl,by simp⟩
open Go.Mach
def rk (S:List UInt8) (st:TS):AObj:=.cells [.str (ba S),.int .i64 ((S.length - st.1.length:Nat):Int),.bool st.2] 0 false
def Sfx (S:List UInt8) (st:TS):Prop:=∃ p,p++st.1=S
theorem Sfx.take {S:List UInt8} {st:TS} (h:Sfx S st) (n:Nat):Sfx S (takeN n st).2:=by
 unfold takeN
 split
 ·exact h
 ·obtain ⟨p,hp⟩:=h
  exact ⟨p++st.1.take n,by simp [hp]⟩
theorem Sfx.num {S:List UInt8} {st:TS} (h:Sfx S st) (n:Nat):Sfx S (nbT n st).2:=h.take n
theorem Sfx.text {S:List UInt8} {st:TS} (h:Sfx S st):Sfx S (textT st).2:=(h.num 1).take _
theorem rbytes_ok {S:List UInt8} (hS:S.length≤1000000000) {σ:Heap} {t:Nat} {st:TS} (h:σ[t]?=some (rk S st)) (hx:Sfx S st) (n:Nat) (hn:n≤1000000000) (bs:Nat) :
  callT T 53 [.ptr t 0,.int .i64 n] bs σ=some (.str (ba (takeN n st).1),σ.set t (rk S (takeN n st).2)):=by
 obtain ⟨p,hp⟩:=hx
 obtain ⟨r,bad⟩:=st
 have hp':p++r=S:=hp
 have ht:=(zqI.1 h).1
 have hs1:∀ o,(σ.set t o)[t]?=some o:=fun o=>List.getElem?_set_self ht
 have hl:S.length=p.length+r.length:=by rw [←hp',zqJ]
 have hpl:S.length - r.length=p.length:=by omega
 have h':σ[t]?=some (.cells [.str (ba S),.int .i64 (p.length:Int),.bool bad] 0 false):=by rw [h]; simp only [rk,hpl]
 have hw:IntKind.i64.wrap ((S.length:Int) - (p.length:Int))=(r.length:Int):=by rw [wr64 (by omega) (by omega)]; omega
 refine heap_enter (af:=c53) (args':=[.ptr t 0,.int .i64 n]) (σ1:=σ) rfl rfl (by simp [c53]) (by simp [c53]) rfl ?_
 cases bad with
 | true=>
  simp [-getElem?_pos,c53,baseA,h',setRun,dropA_gc,refLt,res1,take_self,takeN,rk,AV.clo1,rf_str,hpl]
  rfl
 | false=>
  by_cases hlt:r.length<n
  ·have hl':(r.length:Int)<(n:Int):=by omega
   simp [-getElem?_pos,c53,baseA,h',setRun,dropA_gc,refLt,res1,take_self,takeN,rk,AV.clo1,hlt,rf_str,hpl,hw]
   rfl
  ·have hl':¬ (r.length:Int)<(n:Int):=by omega
   have hle:n≤r.length:=by omega
   have w1:IntKind.i64.wrap ((p.length:Int)+(n:Int))=((p.length+n:Nat):Int):=by rw [wr64 (by omega) (by omega)]; omega
   have w2:IntKind.i64.wrap (((p.length+n:Nat):Int) - (n:Int))=(p.length:Int):=by rw [wr64 (by omega) (by omega)]; omega
   have hd:S.length - (r.length - n)=p.length+n:=by omega
   have hex:((S.take (p.length+n)).drop p.length)=r.take n:=by
    rw [←hp',List.take_append,List.drop_append]; simp
   have hb1:(0:Int)≤(p.length:Int)+(n:Int):=by omega
   have hb2:((p.length:Int)+(n:Int))≤(S.length:Int):=by omega
   have hwp:IntKind.i64.wrap (p.length:Int)=(p.length:Int):=wr64 (by omega) (by omega)
   have hb4:(p.length:Int)≤(p.length:Int)+(n:Int):=by omega
   have hb3:((p.length:Int)+(n:Int)).toNat=p.length+n:=by omega
   simp [-getElem?_pos,c53,baseA,h',setRun,dropA_gc,refLt,res1,take_self,takeN,rk,AV.clo1,hlt,hle,ba_extract,rf_str,hs1,hpl,hw,w1,hd,hb1,hb2,hb3,hwp,hb4,hex]
theorem rrnum_ok {S:List UInt8} (hS:S.length≤1000000000) {σ:Heap} {t:Nat} {st:TS} (h:σ[t]?=some (rk S st)) (hx:Sfx S st) (n:Nat) (hn:n≤1000000000) (bs:Nat) :
  callT T 35 [.ptr t 0,.int .i64 n] bs σ=some (.int .i64 (nbT n st).1,σ.set t (rk S (nbT n st).2)):=by
 have hc:=rbytes_ok hS h hx n hn
 have hln:=takeN_len n st
 unfold nbT
 generalize takeN n st=r at *
 obtain ⟨l,st'⟩:=r
 have hll:l.length≤n:=hln
 obtain ⟨τ,hτ⟩:∃ τ,τ=σ.set t (rk S st'):=⟨_,rfl⟩
 have hτl:τ.length=σ.length:=by rw [hτ]; simp
 have hc':∀ bs,callT T 53 [.ptr t 0,.int .i64 n] bs σ=some (.str (ba l),τ):=fun bs=>by rw [hτ]; exact hc bs
 show _=some (AV.int .i64 (nbP l),σ.set t (rk S st'))
 rw [←hτ]
 refine heap_enter (af:=c35) (args':=[.ptr t 0,.int .i64 n]) (σ1:=σ) rfl rfl (by simp [c35]) (by simp [c35]) rfl ?_
 simp [c35,baseA,hc']
 refine W_for T _ 25 l.length (fun i f τ'=>f 5=.str (ba l)∧f 6=.int .i64 (nbP (l.take i))∧f 7=.int .i64 (i:Int)∧τ'=τ) ?_ _ _ ?_
 ·rintro i f τ' hi ⟨f5,f6,f7,rfl⟩
  by_cases hlt:i<l.length
  ·have w1:IntKind.i64.wrap ((i:Int)+1)=(i:Int)+1:=wr64 (by omega) (by omega)
   have ho:=or_byte (nbP (l.take i)) l[i]
   have hd:∀ h,(ba l).data[i]'h=l[i]:=fun h=>rfl
   simp [f5,f6,f7,hlt,w1,nbP_snoc' hlt]
   exact ho
  ·have he:i=l.length:=by omega
   subst he
   simp [f5,f6,f7,dropA_gc,refLt,res1,rf_int,←hτl]
 ·simp [nbP]
theorem rrtext_ok {S:List UInt8} (hS:S.length≤1000000000) {σ:Heap} {t:Nat} {st:TS} (h:σ[t]?=some (rk S st)) (hx:Sfx S st) (bs:Nat) :
  callT T 34 [.ptr t 0] bs σ=some (.str (ba (textT st).1),σ.set t (rk S (textT st).2)):=by
 have ht:=(zqI.1 h).1
 have hr:=nbT1_rng st
 have h1:=rrnum_ok hS h hx 1 (by omega)
 have hx1:=hx.num 1
 rw [textT_eq]
 generalize nbT 1 st=r at *
 obtain ⟨v,st1⟩:=r
 obtain ⟨n,rfl⟩:∃ n:Nat,v=(n:Int):=⟨v.toNat,by have:=hr.1; simp only at this; omega⟩
 have hn:n<256:=by have:=hr.2; simp only at this; omega
 have hs1:(σ.set t (rk S st1))[t]?=some (rk S st1):=List.getElem?_set_self ht
 have h2:=rbytes_ok hS hs1 hx1 n (by omega)
 simp only [Int.cast_ofNat_Int,List.set_set] at h1 h2
 refine heap_enter (af:=c34) (args':=[.ptr t 0]) (σ1:=σ) rfl rfl (by simp [c34]) (by simp [c34]) rfl ?_
 simp [c34,baseA,h1,h2,dropA_gc,refLt,res1,rf_str]
 rw [List.take_of_length_le (by simp)]
structure Tr (S:List UInt8) (σ:Heap) (t:Nat) (st:TS) (cs:List AV) (τ:Heap):Prop where
 lt:t<σ.length
 len:σ.length+2≤τ.length
 sfx:Sfx S st
 at':τ[t]?=some (rk S st)
 obj0:τ[σ.length]?=some (.cells [.int .i64 0,.int .i64 0,.str ⟨#[]⟩,.isl [] true] 0 false)
 obj:τ[σ.length+1]?=some (.cells cs 0 false)
 keep:∀ i,i<σ.length→i≠t→τ[i]?=σ[i]?
theorem Tr.set {S:List UInt8} {σ τ:Heap} {t:Nat} {st:TS} {cs:List AV} (h:Tr S σ t st cs τ) (st':TS) (hx:Sfx S st'):Tr S σ t st' cs (τ.set t (rk S st')):=by
 have h1:=h.lt
 have h2:=h.len
 exact ⟨h1,by simpa using h2,hx,List.getElem?_set_self (by omega),by rw [zqC (by omega)]; exact h.obj0,by rw [zqC (by omega)]; exact h.obj,fun i hi hne=>by rw [zqC (Ne.symm hne)]; exact h.keep i hi hne⟩
theorem Tr.put {S:List UInt8} {σ τ:Heap} {t:Nat} {st:TS} {cs:List AV} (h:Tr S σ t st cs τ) (cs':List AV):Tr S σ t st cs' (τ.set (σ.length+1) (.cells cs' 0 false)):=by
 have h1:=h.lt
 have h2:=h.len
 exact ⟨h1,by simpa using h2,h.sfx,by rw [zqC (by omega)]; exact h.at',by rw [zqC (by omega)]; exact h.obj0,List.getElem?_set_self (by omega),fun i hi hne=>by rw [zqC (by omega)]; exact h.keep i hi hne⟩
theorem Tr.same {S:List UInt8} {σ τ τ':Heap} {t:Nat} {st:TS} {cs:List AV} (h:Tr S σ t st cs τ) (hl:τ.length≤τ'.length) (hk:∀ i,i<σ.length+2→τ'[i]?=τ[i]?):Tr S σ t st cs τ':=by
 have h1:=h.lt
 have h2:=h.len
 exact ⟨h1,by omega,h.sfx,by rw [hk t (by omega)]; exact h.at',by rw [hk _ (by omega)]; exact h.obj0,by rw [hk _ (by omega)]; exact h.obj,fun i hi hne=>by rw [hk i (by omega)]; exact h.keep i hi hne⟩
theorem Tr.drop {S:List UInt8} {σ τ τ':Heap} {t:Nat} {st:TS} {cs:List AV} (h:Tr S σ t st cs τ) (hk:∀ i,i<σ.length→τ'[i]?=τ[i]?) (hl:τ.length≤τ'.length):τ'.take σ.length=σ.set t (rk S st):=by
 have h1:=h.lt
 have h2:=h.len
 apply List.ext_getElem?
 intro i
 rw [List.getElem?_take]
 by_cases hi:i<σ.length
 ·rw [if_pos hi,hk i hi]
  by_cases e:i=t
  ·subst e; rw [h.at',List.getElem?_set_self h1]
  ·rw [h.keep i hi e,zqC (Ne.symm e)]
 ·rw [if_neg hi,List.getElem?_eq_none (by simp; omega)]
def WLoop (S:List UInt8) (σ:Heap) (t a d n:Nat) (sub:TS→GV × TS) (st3:TS) (i:Nat) (τ:Heap):Prop:=
 ∃ (sti:TS) (vs:List GV) (l:AV),Tr S σ t sti [.int .i64 4,.int .i64 0,.str ⟨#[]⟩,l] τ∧LX (a+2) 4 τ (GV.encs vs) l∧vs.length=i∧(d=0→sti.2=true)∧rep sub n st3=(vs++(rep sub (n - i) sti).1,(rep sub (n - i) sti).2)
open Go.Mach
theorem Sfx.rep {α:Type} {S:List UInt8} {f:TS→α × TS} (hf:∀ st,Sfx S st→Sfx S (f st).2):∀ (n:Nat) (st:TS),Sfx S st→Sfx S (Go.Proofs.Ytkempedphjopmaa.rep f n st).2
 | 0,st,h=>h
 | n+1,st,h=>by
  unfold Go.Proofs.Ytkempedphjopmaa.rep
  split
  ·exact h
  ·exact Sfx.rep hf n _ (hf st h)
theorem Sfx.valR {S:List UInt8} {d:Nat} {sub:TS→GV × TS} (hf:∀ st,Sfx S st→Sfx S (sub st).2) (k:Int) (st:TS) (h:Sfx S st):Sfx S (Go.Proofs.Ytkempedphjopmaa.valR d sub k st).2:=by
 unfold Go.Proofs.Ytkempedphjopmaa.valR
 split
 ·exact h.num 8
 ·split
  ·exact h.text
  ·split
   ·have h1:=h.num 1
    exact Sfx.rep hf _ _ h1
   ·exact h
theorem Sfx.valT {S:List UInt8}:∀ (d:Nat) (st:TS),Sfx S st→Sfx S (Go.Proofs.Ytkempedphjopmaa.valT d st).2
 | 0,st,h=>Sfx.valR (fun _ h=>h) _ _ (h.num 1)
 | d+1,st,h=>Sfx.valR (fun st h=>Sfx.valT d st h) _ _ (h.num 1)
theorem rvalue_aux {S:List UInt8} (hS:S.length≤1000000000) (d:Nat) (hd:d≤4) (sub:TS→GV × TS) (hsx:∀ st,Sfx S st→Sfx S (sub st).2) (hsub:d=0∨∀ {σ:Heap} {t:Nat} {st:TS},σ[t]?=some (rk S st)→Sfx S st→∀ bs,callT T 36 [.ptr t 0,.int .i64 ((d:Int) - 1)] bs σ=some ((sub st).1.enc,σ.set t (rk S (sub st).2)))
  {σ:Heap} {t:Nat} {st:TS} (h:σ[t]?=some (rk S st)) (hx:Sfx S st) (bs:Nat) :
  callT T 36 [.ptr t 0,.int .i64 d] bs σ=some ((valR d sub (nbT 1 st).1 (nbT 1 st).2).1.enc,σ.set t (rk S (valR d sub (nbT 1 st).1 (nbT 1 st).2).2)):=by
 obtain ⟨a,ha⟩:∃ a,a=σ.length:=⟨_,rfl⟩
 have ht:=(zqI.1 h).1
 obtain ⟨τ0,hτ0⟩:∃ τ0:Heap,τ0=σ++[.cells [.int .i64 0,.int .i64 0,.str ⟨#[]⟩,.isl [] true] 0 false]:=⟨_,rfl⟩
 have h0:τ0[t]?=some (rk S st):=by rw [hτ0,zqA ht]; exact h
 have c1:=fun bs=>rrnum_ok hS h0 hx 1 (by omega) bs
 have hx1:=hx.num 1
 generalize nbT 1 st=r at *
 obtain ⟨k,st1⟩:=r
 obtain ⟨τ1,hτ1⟩:∃ τ1:Heap,τ1=τ0.set t (rk S st1):=⟨_,rfl⟩
 simp only [Int.cast_ofNat_Int,←hτ1] at c1
 have hl1:τ1.length=a+1:=by rw [hτ1,hτ0,ha]; simp
 obtain ⟨τ2,hτ2⟩:∃ τ2:Heap,τ2=τ1++[.cells [.int .i64 k,.int .i64 0,.str ⟨#[]⟩,.isl [] true] 0 false]:=⟨_,rfl⟩
 have hg1:∀ o:AObj,(τ1++[o])[a+1]?=some o:=fun o=>by rw [←hl1]; simp
 have hst1:∀ o o':AObj,(τ1++[o]).set (a+1) o'=τ1++[o']:=fun o o'=>by rw [←hl1]; simp
 have T2:Tr S σ t st1 [.int .i64 k,.int .i64 0,.str ⟨#[]⟩,.isl [] true] τ2:=by
  refine ⟨ht,by rw [hτ2]; simp; omega,hx1,?_,?_,by rw [hτ2,←ha]; exact hg1 _,fun i hi hne=>?_⟩
  ·rw [hτ2,zqA (by omega),hτ1,List.getElem?_set_self (by rw [hτ0]; simp; omega)]
  ·rw [hτ2,zqA (by omega),hτ1,zqC (by omega),hτ0]; simp
  ·rw [hτ2,zqA (by omega),hτ1,zqC (Ne.symm hne),hτ0,zqA hi]
 have hat:a≠t:=by omega
 have g2:=T2.obj
 rw [←ha] at g2
 show _=some ((valR d sub k st1).1.enc,σ.set t (rk S (valR d sub k st1).2))
 have hend:∀ (st5:TS) (k v:Int) (s:ByteArray) (vs:List GV) (l:AV) (τ5:Heap),Tr S σ t st5 [.int .i64 k,.int .i64 v,.str s,l] τ5→LX (a+2) 4 τ5 (GV.encs vs) l →
   τ5[a+1]?=some (.cells [.int .i64 k,.int .i64 v,.str s,l] 0 false)∧τ5[a]?=some (.cells [.int .i64 0,.int .i64 0,.str ⟨#[]⟩,.isl [] true] 0 false)∧∃ τ6 τ7,τ5.set a (.cells [.int .i64 k,.int .i64 v,.str s,l] 0 false)=τ6∧τ6[a]?=some (.cells [.int .i64 k,.int .i64 v,.str s,l] 0 false)∧close1 τ6 l=some (.isl (GV.encs vs) false,τ7)∧τ7.take a=σ.set t (rk S st5):=fun st5 k v s vs l τ5 T5 L5=>by
  have e1:=T5.obj
  have e0:=T5.obj0
  rw [←ha] at e1 e0
  have L6:LX (a+2) 4 (τ5.set a (.cells [.int .i64 k,.int .i64 v,.str s,l] 0 false)) (GV.encs vs) l:=L5.keep fun j o hj ho=>by rw [zqC (by omega)]; exact ho
  obtain ⟨τ7,f1,f2,f3,_⟩:=L6.close
  refine ⟨e1,e0,_,τ7,rfl,List.getElem?_set_self (by have:=T5.len; omega),close1_of0 f1,?_⟩
  rw [ha]
  exact T5.drop (fun i hi=>by rw [f3 i (by omega),zqC (by omega)]) (by rw [f2]; simp)
 have hLnil:∀ τ,LX (a+2) 4 τ (GV.encs []) (.isl [] true):=fun τ=>.inl ⟨rfl,rfl⟩
 refine heap_enter (af:=c36) (args':=[.ptr t 0,.int .i64 d]) (σ1:=σ) rfl rfl (by simp [c36]) (by simp [c36]) rfl ?_
 by_cases k1:k=1
 ·subst k1
  have c2:=fun bs=>rrnum_ok hS T2.at' T2.sfx 8 (by omega) bs
  have hv:valR d sub 1 st1=(.mk 1 (nbT 8 st1).1 ⟨#[]⟩ [],(nbT 8 st1).2):=by simp [valR]
  have hx2:=hx1.num 8
  rw [hv]
  generalize nbT 8 st1=r at *
  obtain ⟨v,st2⟩:=r
  have T3:=T2.set st2 hx2
  obtain ⟨τ3,hτ3⟩:∃ τ3:Heap,τ3=τ2.set t (rk S st2):=⟨_,rfl⟩
  simp only [Int.cast_ofNat_Int,←hτ3] at c2 T3
  have g3:=T3.obj
  rw [←ha] at g3
  have T4:=T3.put [.int .i64 1,.int .i64 v,.str ⟨#[]⟩,.isl [] true]
  obtain ⟨τ4,hτ4⟩:∃ τ4:Heap,τ4=τ3.set (a+1) (.cells [.int .i64 1,.int .i64 v,.str ⟨#[]⟩,.isl [] true] 0 false):=⟨_,rfl⟩
  rw [←ha,←hτ4] at T4
  obtain ⟨e1,e0,τ6,τ7,e2,e3,e4,e5⟩:=hend st2 1 v ⟨#[]⟩ [] (.isl [] true) τ4 T4 (hLnil _)
  have e4':τ7=τ6:=by simp [close1,close0] at e4; exact e4.symm
  rw [e4'] at e5
  simp [-getElem?_pos,c36,baseA,←ha,←hτ0,c1,hl1,hg1,hst1,setRun,←hτ2,g2,c2,g3,←hτ4,e0,e1,e2,e3,e5,dropA_gc,refLt,res1,GV.enc,GV.encs]
  rfl
 ·by_cases k23:k=2∨k=3
  ·have c2:=fun bs=>rrtext_ok hS T2.at' T2.sfx bs
   have hv:valR d sub k st1=(.mk k 0 (ba (textT st1).1) [],(textT st1).2):=by simp [valR,k1,k23]
   have hx2:=T2.sfx.text
   rw [hv]
   generalize textT st1=r at *
   obtain ⟨v,st2⟩:=r
   have T3:=T2.set st2 hx2
   obtain ⟨τ3,hτ3⟩:∃ τ3:Heap,τ3=τ2.set t (rk S st2):=⟨_,rfl⟩
   simp only [←hτ3] at c2 T3
   have g3:=T3.obj
   rw [←ha] at g3
   have T4:=T3.put [.int .i64 k,.int .i64 0,.str (ba v),.isl [] true]
   obtain ⟨τ4,hτ4⟩:∃ τ4:Heap,τ4=τ3.set (a+1) (.cells [.int .i64 k,.int .i64 0,.str (ba v),.isl [] true] 0 false):=⟨_,rfl⟩
   rw [←ha,←hτ4] at T4
   obtain ⟨e1,e0,τ6,τ7,e2,e3,e4,e5⟩:=hend st2 k 0 (ba v) [] (.isl [] true) τ4 T4 (hLnil _)
   have e4':τ7=τ6:=by simp [close1,close0] at e4; exact e4.symm
   rw [e4'] at e5
   rcases k23 with rfl | rfl
   ·simp [-getElem?_pos,c36,baseA,←ha,←hτ0,c1,hl1,hg1,hst1,setRun,←hτ2,g2,c2,g3,←hτ4,e0,e1,e2,e3,e5,dropA_gc,refLt,res1,GV.enc,GV.encs]
    rfl
   ·simp [-getElem?_pos,c36,baseA,←ha,←hτ0,c1,hl1,hg1,hst1,setRun,←hτ2,g2,c2,g3,←hτ4,e0,e1,e2,e3,e5,dropA_gc,refLt,res1,GV.enc,GV.encs]
    rfl
  ·have k2:k≠2:=fun e=>k23 (.inl e)
   have k3:k≠3:=fun e=>k23 (.inr e)
   by_cases k4:k=4
   ·subst k4
    have c2:=fun bs=>rrnum_ok hS T2.at' T2.sfx 1 (by omega) bs
    have hr1:=nbT1_rng st1
    have hx2:=T2.sfx.num 1
    have hv:valR d sub 4 st1=(.mk 4 0 ⟨#[]⟩ (rep sub (nbT 1 st1).1.toNat ((nbT 1 st1).2.1,(nbT 1 st1).2.2 || decide (d=0))).1,(rep sub (nbT 1 st1).1.toNat ((nbT 1 st1).2.1,(nbT 1 st1).2.2 || decide (d=0))).2):=by simp [valR]
    rw [hv]
    generalize nbT 1 st1=r at *
    obtain ⟨v,r2,b2⟩:=r
    obtain ⟨n,rfl⟩:∃ n:Nat,v=(n:Int):=⟨v.toNat,by have:=hr1.1; simp only at this; omega⟩
    have hn:n<256:=by have:=hr1.2; simp only at this; omega
    have T3:=T2.set (r2,b2) hx2
    obtain ⟨τ3,hτ3⟩:∃ τ3:Heap,τ3=τ2.set t (rk S (r2,b2)):=⟨_,rfl⟩
    simp only [Int.cast_ofNat_Int,←hτ3] at c2 T3
    have g3:=T3.obj
    rw [←ha] at g3
    have gt3:τ3[t]?=some (.cells [.str (ba S),.int .i64 ((S.length - r2.length:Nat):Int),.bool b2] 0 false):=T3.at'
    have T4:=T3.set (r2,b2 || decide (d=0)) hx2
    obtain ⟨τ4,hτ4⟩:∃ τ4:Heap,τ4=τ3.set t (rk S (r2,b2 || decide (d=0))):=⟨_,rfl⟩
    rw [←hτ4] at T4
    have hτ4':τ4=τ3.set t (.cells [.str (ba S),.int .i64 ((S.length - r2.length:Nat):Int),.bool (b2 || decide (d=0))] 0 false):=hτ4
    obtain ⟨st3,hst3⟩:∃ st3:TS,st3=(r2,b2 || decide (d=0)):=⟨_,rfl⟩
    have hd3:d=0→st3.2=true:=fun e=>by rw [hst3]; simp [e]
    rw [←hst3] at T4
    simp only [←hst3]
    have hn':(n:Int).toNat=n:=rfl
    simp only [hn']
    by_cases hd0:d=0
    have hdz:(decide (d=0))=true:=by simp [hd0]
    rw [hdz,Bool.or_true] at hτ4'
    simp [-getElem?_pos,c36,baseA,←ha,←hτ0,c1,hl1,hg1,hst1,setRun,←hτ2,g2,c2,gt3,AV.clo1,hd0,←hτ4']
    rotate_left
    have hdz:(decide (d=0))=false:=by simp [hd0]
    rw [hdz,Bool.or_false] at hτ4'
    have hsame:τ3.set t (.cells [.str (ba S),.int .i64 ((S.length - r2.length:Nat):Int),.bool b2] 0 false)=τ3:=list_set_same gt3
    rw [hsame] at hτ4'
    simp [-getElem?_pos,c36,baseA,←ha,←hτ0,c1,hl1,hg1,hst1,setRun,←hτ2,g2,c2,gt3,AV.clo1,hd0,←hτ4']
    rotate_left
    all_goals
     refine W_for T a 58 n (fun i f τ=>f 0=.ptr t 0∧f 1=.int .i64 (d:Int)∧f 4=.ptr a 0∧f 5=.ptr (a+1) 0∧f 6=.int .i64 (n:Int)∧f 7=.int .i64 (i:Int)∧WLoop S σ t a d n sub st3 i τ) ?_ _ _ ?_
     ·rintro i f τ hi ⟨f0,f1,f4,f5,f6,f7,sti,vs,l,Ti,Li,hvl,hdi,hrep⟩
      have ga:=Ti.obj
      rw [←ha] at ga
      have gt:τ[t]?=some (.cells [.str (ba S),.int .i64 ((S.length - sti.1.length:Nat):Int),.bool sti.2] 0 false):=Ti.at'
      obtain ⟨e1,e0,τ6,τ7,e2,e3,e4,e5⟩:=hend sti 4 0 ⟨#[]⟩ vs l τ Ti Li
      by_cases hlt:i<n
      ·cases hb:sti.2 with
       | true=>
        rw [rep_bad _ _ _ hb,List.append_nil] at hrep
        rw [hrep]
        rw [hb] at gt
        simp [-getElem?_pos,f0,f1,f4,f5,f6,f7,hlt,gt,ga,e0,setRun,e2,e3,e4,dropA_gc,refLt,res1,e5,GV.enc]
        rfl
       | false=>
        have hd0:d≠0:=fun e=>by rw [hdi e] at hb; cases hb
        rcases hsub with e | hsub
        ·exact absurd e hd0
        have w1:IntKind.i64.wrap ((d:Int) - 1)=(d:Int) - 1:=wr64 (by omega) (by omega)
        have w2:IntKind.i64.wrap ((i:Int)+1)=(i:Int)+1:=wr64 (by omega) (by omega)
        have hc:=hsub Ti.at' Ti.sfx
        have hxn:=hsx sti Ti.sfx
        have hrep2:rep sub n st3=((vs++[(sub sti).1])++(rep sub (n - (i+1)) (sub sti).2).1,(rep sub (n - (i+1)) (sub sti).2).2):=by
         rw [hrep,show n - i=(n - (i+1))+1 by omega]
         simp [rep,hb]
        generalize sub sti=r at *
        obtain ⟨v,stn⟩:=r
        have Tn:=Ti.set stn hxn
        obtain ⟨τn,hτn⟩:∃ τn:Heap,τn=τ.set t (rk S stn):=⟨_,rfl⟩
        simp only [←hτn] at hc Tn
        have gan:=Tn.obj
        rw [←ha] at gan
        rw [hb] at gt
        simp [-getElem?_pos,f0,f1,f4,f5,f6,f7,gt,ga,w1,hlt,hc,chkO_l,objOf,gan,-appendA_ag]
        have Ln:LX (a+2) 4 τn (GV.encs vs) l:=by
         rw [hτn]; exact Li.keep fun j o hj ho=>by rw [zqC (by have:=Ti.lt; omega)]; exact ho
        have hNl:a+2≤τn.length:=by have:=Tn.len; omega
        refine stW_app1 (N:=a+2) Ln rfl rfl (by omega) (by omega) hNl (by simp; omega) fun x' σ' hL' hlen' hk'=>?_
        have T5:Tr S σ t stn [.int .i64 4,.int .i64 0,.str ⟨#[]⟩,l] σ':=Tn.same (by omega) (by rw [←ha]; exact hk')
        have ga5:=T5.obj
        have T6:=T5.put [.int .i64 4,.int .i64 0,.str ⟨#[]⟩,x']
        rw [←ha] at ga5 T6
        have L6:LX (a+2) 4 (σ'.set (a+1) (.cells [.int .i64 4,.int .i64 0,.str ⟨#[]⟩,x'] 0 false)) (GV.encs (vs++[v])) x':=by
         have e:GV.encs vs++[AV.agg (List.map AV.nrm [.int .i64 v.kind,.int .i64 v.num,.str v.text,.isl (GV.encs v.items) false])]=GV.encs (vs++[v]):=by
          have e2:GV.encs (vs++[v])=GV.encs vs++[v.enc]:=by simp [GV.encs_map]
          rw [e2,GV.enc_eq]; rfl
         rw [←e]
         exact hL'.keep fun j o hj ho=>by rw [zqC (by omega)]; exact ho
        simp [-getElem?_pos,f0,f1,f4,f5,f6,f7,ga5,hL'.solid,hL'.cells,setRun,w2,hlt]
        exact ⟨stn,vs++[v],x',T6,L6,by simp [hvl],fun e=>absurd e hd0,hrep2⟩
      ·have he:i=n:=by omega
       subst he
       simp only [Nat.sub_self,rep,List.append_nil] at hrep
       rw [hrep]
       simp [-getElem?_pos,f0,f1,f4,f5,f6,f7,gt,ga,e0,setRun,e2,e3,e4,dropA_gc,refLt,res1,e5,GV.enc]
       rfl
     ·exact ⟨by simp,by simp [hd0],by simp,by simp,by simp,by simp,st3,[],.isl [] true,T4,.inl ⟨rfl,rfl⟩,rfl,hd3,by simp⟩
   ·have hv:valR d sub k st1=(.mk k 0 ⟨#[]⟩ [],(st1.1,true)):=by simp [valR,k1,k2,k3,k4]
    rw [hv]
    have T3:=T2.set (st1.1,true) T2.sfx
    obtain ⟨τ3,hτ3⟩:∃ τ3:Heap,τ3=τ2.set t (rk S (st1.1,true)):=⟨_,rfl⟩
    rw [←hτ3] at T3
    obtain ⟨e1,e0,τ6,τ7,e2,e3,e4,e5⟩:=hend (st1.1,true) k 0 ⟨#[]⟩ [] (.isl [] true) τ3 T3 (hLnil _)
    have e4':τ7=τ6:=by simp [close1,close0] at e4; exact e4.symm
    rw [e4'] at e5
    have gt:τ2[t]?=some (.cells [.str (ba S),.int .i64 ((S.length - st1.1.length:Nat):Int),.bool st1.2] 0 false):=T2.at'
    have hτ3':τ3=τ2.set t (.cells [.str (ba S),.int .i64 ((S.length - st1.1.length:Nat):Int),.bool true] 0 false):=hτ3
    simp [-getElem?_pos,c36,baseA,←ha,←hτ0,c1,hl1,hg1,hst1,setRun,←hτ2,g2,gt,k1,k2,k3,k4,←hτ3',e0,e1,e2,e3,e5,dropA_gc,refLt,res1,GV.enc,GV.encs,AV.clo1]
    rfl
theorem rvalue_ok {S:List UInt8} (hS:S.length≤1000000000):∀ (d:Nat),d≤4→∀ {σ:Heap} {t:Nat} {st:TS} (h:σ[t]?=some (rk S st)) (hx:Sfx S st) (bs:Nat),
  callT T 36 [.ptr t 0,.int .i64 d] bs σ=some ((valT d st).1.enc,σ.set t (rk S (valT d st).2)):=by
 intro d
 induction d with
 | zero=>exact fun _ {σ t st} h hx bs=>rvalue_aux hS 0 (by omega) _ (fun _ h=>h) (.inl rfl) h hx bs
 | succ d ih=>
  intro hd σ t st h hx bs
  refine rvalue_aux hS (d+1) hd (valT d) (fun st h=>h.valT d) (.inr fun {σ t st} h hx bs=>?_) h hx bs
  have:=ih (by omega) h hx bs
  rwa [show ((d+1:Nat):Int) - 1=(d:Int) by omega]
end Go.Proofs.Ytkempedphjopmaa
end
section
namespace Go.Mach
theorem closeX_row {N j:Nat} {σ:Heap} {nm:ByteArray} {st:Int} {es:List AV} {la:AV} (hL:LX N 4 σ es la) (hj:σ[j]?=some (.cells [.str nm,la,.int .i64 st] 0 false)) :
  ∃ σ1 z fj,closeX σ (.sl j 0 1 3 true)=σ1∧σ1[j]?=some (.cells [.str nm,z,.int .i64 st] fj false)∧z.clo1=true∧z.nrm=.isl es false∧σ1.length=σ.length∧∀ i,i<N→i≠j→σ1[i]?=σ[i]?:=by
 have hjl:=(zqI.1 hj).1
 rcases hL with ⟨rfl,rfl⟩ | ⟨k,cs,fz,rfl,hN,hk,hl,hc,rfl⟩ | ⟨k,rfl,hN,hk,hes⟩
 ·refine ⟨σ,.isl [] true,0,?_,hj,rfl,rfl,rfl,fun _ _ _=>rfl⟩
  simp [closeX,hj,AV.clo1]
 ·have hkj:j≠k:=by rintro rfl; rw [hj] at hk; injection hk with hk; injection hk with hk; subst hk; simp at hl
  have hc1:=close1_of0 (close0_one hk hl hc)
  have hcl:closeL σ [.str nm,.sl k 0 1 4 true,.int .i64 st]=some ([.str nm,.isl [.agg (cs.map AV.nrm)] false,.int .i64 st],frz σ k 4):=by
   simp [closeL,hc1]
  have hg:(frz σ k 4)[j]?=some (.cells [.str nm,.sl k 0 1 4 true,.int .i64 st] 0 false):=by rw [frz_get hkj]; exact hj
  have he:closeX σ (.sl j 0 1 3 true)=(frz σ k 4).set j (.cells [.str nm,.isl [.agg (cs.map AV.nrm)] false,.int .i64 st] 0 false):=by
   simp only [closeX,hj]
   rw [if_neg (by simp [AV.clo1])]
   simp only [hcl,hg]
   rw [if_pos ⟨by simp [AV.clo1],rfl⟩]
  refine ⟨_,.isl [.agg (cs.map AV.nrm)] false,0,he,List.getElem?_set_self (by rw [frz_len]; exact hjl),rfl,rfl,by simp [frz_len],fun i hi hne=>?_⟩
  rw [zqC (Ne.symm hne),frz_get (by omega)]
 ·have hkj:j≠k:=by rintro rfl; rw [hj] at hk; cases hk
  have hcl:closeL σ [.str nm,.own k es,.int .i64 st]=some ([.str nm,.isl es false,.int .i64 st],σ):=by
   have:close1 σ (.own k es)=some (.isl es false,σ):=close1_of0 rfl
   simp [closeL,this]
  have he:closeX σ (.sl j 0 1 3 true)=σ.set j (.cells [.str nm,.isl es false,.int .i64 st] 0 false):=by
   simp only [closeX,hj]
   rw [if_neg (by simp [AV.clo1])]
   simp only [hcl,hj]
   rw [if_pos ⟨by simp [AV.clo1],rfl⟩]
  refine ⟨_,.isl es false,0,he,List.getElem?_set_self hjl,rfl,rfl,by simp,fun i hi hne=>?_⟩
  rw [zqC (Ne.symm hne)]
end Go.Mach
namespace Go.Proofs.Ytkempedphjopmaa
open Go.Mach
theorem Sfx.rowT {S:List UInt8} {st:TS} (h:Sfx S st):Sfx S (Go.Proofs.Ytkempedphjopmaa.rowT st).2:=(Sfx.rep (fun st h=>h.valT 4) _ _ (h.text.num 1)).num 8
structure Tb (S:List UInt8) (st:TS) (cs:List AV) (τ:Heap):Prop where
 len:3≤τ.length
 sfx:Sfx S st
 z:τ[0]?=some (.cells [.str ⟨#[]⟩,.str ⟨#[]⟩,.int .i64 0,.int .i64 0,.isl [] true] 0 false)
 rd:τ[1]?=some (rk S st)
 obj:τ[2]?=some (.cells cs 0 false)
def ULoop (S:List UInt8) (n:Nat) (b:GF) (st3:TS) (i:Nat) (τ:Heap):Prop:=
 ∃ (sti:TS) (vs:List GW) (l:AV),Tb S sti [.str b.frm,.str b.to,.int .i64 b.start,.int .i64 b.seq,l] τ∧LX 3 3 τ (vs.map GW.enc) l∧vs.length=i∧rep rowT n st3=(vs++(rep rowT (n - i) sti).1,(rep rowT (n - i) sti).2)
def SLoop (S:List UInt8) (τ0:Heap) (a m:Nat) (nm:ByteArray) (st3:TS) (j:Nat) (τ:Heap):Prop:=
 ∃ (stj:TS) (vs:List GV) (la:AV),a+1≤τ.length∧Sfx S stj∧τ[1]?=some (rk S stj)∧τ[a]?=some (.cells [.str nm,la,.int .i64 0] 0 false)∧(∀ i,i<a→i≠1→τ[i]?=τ0[i]?)∧LX (a+1) 4 τ (GV.encs vs) la∧vs.length=j∧rep (valT 4) m st3=(vs++(rep (valT 4) (m - j) stj).1,(rep (valT 4) (m - j) stj).2)
theorem take18_ok (s:List UInt8) (hs:s.length≤16000000):pureT T c18 [.str (ba s)]=some (takeO s):=by
 have hS:s.length≤1000000000:=by omega
 obtain ⟨σ,hσ⟩:∃ σ:Heap,σ=[.cells [.str ⟨#[]⟩,.str ⟨#[]⟩,.int .i64 0,.int .i64 0,.isl [] true] 0 false,rk s (s,false)]:=⟨_,rfl⟩
 have h0:σ[1]?=some (rk s (s,false)):=by rw [hσ]; rfl
 have x0:Sfx s (s,false):=⟨[],rfl⟩
 have hl1:1<σ.length:=by rw [hσ]; simp
 obtain ⟨fr,st1,e1⟩:∃ x y,textT (s,false)=(x,y):=⟨_,_,rfl⟩
 have c1:=fun bs=>rrtext_ok hS h0 x0 bs
 have x1:=x0.text
 rw [e1] at c1 x1
 have h1:(σ.set 1 (rk s st1))[1]?=some (rk s st1):=List.getElem?_set_self hl1
 obtain ⟨to,st2,e2⟩:∃ x y,textT st1=(x,y):=⟨_,_,rfl⟩
 have c2:=fun bs=>rrtext_ok hS h1 x1 bs
 have x2:=x1.text
 rw [e2] at c2 x2
 have h2:(σ.set 1 (rk s st2))[1]?=some (rk s st2):=List.getElem?_set_self hl1
 obtain ⟨sta,st3,e3⟩:∃ x y,nbT 8 st2=(x,y):=⟨_,_,rfl⟩
 have c3:=fun bs=>rrnum_ok hS h2 x2 8 (by omega) bs
 have x3:=x2.num 8
 rw [e3] at c3 x3
 have h3:(σ.set 1 (rk s st3))[1]?=some (rk s st3):=List.getElem?_set_self hl1
 obtain ⟨sq,st4,e4⟩:∃ x y,nbT 8 st3=(x,y):=⟨_,_,rfl⟩
 have c4:=fun bs=>rrnum_ok hS h3 x3 8 (by omega) bs
 have x4:=x3.num 8
 rw [e4] at c4 x4
 have h4:(σ.set 1 (rk s st4))[1]?=some (rk s st4):=List.getElem?_set_self hl1
 simp only [Int.cast_ofNat_Int,List.set_set] at c1 c2 c3 c4
 obtain ⟨σ4,hσ4⟩:∃ σ4,σ4=σ.set 1 (rk s st4):=⟨_,rfl⟩
 rw [←hσ4] at c4 h4
 have hl4:σ4.length=2:=by rw [hσ4,hσ]; rfl
 obtain ⟨τ0,hτ0⟩:∃ τ0:Heap,τ0=σ4++[.cells [.str (ba fr),.str (ba to),.int .i64 sta,.int .i64 sq,.isl [] true] 0 false]:=⟨_,rfl⟩
 have hg2:∀ o:AObj,(σ4++[o])[2]?=some o:=fun o=>by rw [←hl4]; simp
 have T0:Tb s st4 [.str (ba fr),.str (ba to),.int .i64 sta,.int .i64 sq,.isl [] true] τ0:=by
  refine ⟨by rw [hτ0]; simp [hl4],x4,?_,?_,by rw [hτ0]; exact hg2 _⟩
  ·rw [hτ0,zqA (by omega),hσ4,zqC (by omega),hσ]; rfl
  ·rw [hτ0,zqA (by omega)]; exact h4
 have c5:=fun bs=>rrnum_ok hS T0.rd x4 2 (by omega) bs
 have x5:=x4.num 2
 have hr:=nbT2_rng st4
 obtain ⟨v,st5,e5⟩:∃ x y,nbT 2 st4=(x,y):=⟨_,_,rfl⟩
 rw [e5] at c5 hr x5
 obtain ⟨n,rfl⟩:∃ n:Nat,v=(n:Int):=⟨v.toNat,by have:=hr.1; simp only at this; omega⟩
 have hn:n<65536:=by have:=hr.2; simp only at this; omega
 obtain ⟨τ5,hτ5⟩:∃ τ5:Heap,τ5=τ0.set 1 (rk s st5):=⟨_,rfl⟩
 have T5:Tb s st5 [.str (ba fr),.str (ba to),.int .i64 sta,.int .i64 sq,.isl [] true] τ5:=by
  rw [hτ5]
  exact ⟨by simpa using T0.len,x5,by rw [zqC (by omega)]; exact T0.z,List.getElem?_set_self (by have:=T0.len; omega),by rw [zqC (by omega)]; exact T0.obj⟩
 simp only [Int.cast_ofNat_Int,←hτ5] at c5
 have hbody:bodyT (s,false)=(⟨ba fr,ba to,sta,sq,(rep rowT n st5).1⟩,(rep rowT n st5).2):=by
  simp only [bodyT,e1,e2,e3,e4,e5]; rfl
 have hgood:=bodyT_good (s,false)
 rw [hbody] at hgood
 have hno:=takeO_no (s:=s)
 have hyes:=takeO_yes (s:=s)
 rw [hbody] at hno hyes
 apply pure_enter (by simp [c18])
 have htk:rk s (s,false)=.cells [.str (ba s),.int .i64 0,.bool false] 0 false:=by simp [rk]
 rw [htk] at hσ
 simp [-getElem?_pos,c18,setRun,←hσ,c1,c2,c3,c4,hl4,hg2,←hτ0,c5]
 refine W_for T 0 91 n (fun i f τ=>f 0=.str (ba s)∧f 2=.ptr 0 0∧f 4=.ptr 1 0∧f 5=.ptr 2 0∧f 6=.int .i64 (n:Int)∧f 7=.int .i64 (i:Int)∧ULoop s n ⟨ba fr,ba to,sta,sq,[]⟩ st5 i τ) ?_ _ _ ?_
 ·rintro i f τ hi ⟨f0,f2,f4,f5,f6,f7,sti,vs,l,Ti,Li,hvl,hrep⟩
  have ga:=Ti.obj
  have g0:=Ti.z
  have gt:τ[1]?=some (.cells [.str (ba s),.int .i64 ((s.length - sti.1.length:Nat):Int),.bool sti.2] 0 false):=Ti.rd
  have g0s:∀ o,(τ.set 0 o)[0]?=some o:=fun o=>List.getElem?_set_self (by have:=Ti.len; omega)
  have w1:IntKind.i64.wrap ((i:Int)+1)=(i:Int)+1:=wr64 (by omega) (by omega)
  by_cases hlt:i<n
  ·cases hb:sti.2 with
   | true=>
    rw [rep_bad _ _ _ hb,List.append_nil] at hrep
    rw [hb] at gt
    have hn1:=hno (by rw [hrep]; simp [hb])
    simp [-getElem?_pos,f0,f2,f4,f5,f6,f7,hlt,gt,ga,g0,g0s,AV.clo1,hn1,zeroF,GF.enc]
   | false=>
    rw [hb] at gt
    obtain ⟨nm,stA,eA⟩:∃ x y,textT sti=(x,y):=⟨_,_,rfl⟩
    have cA:=fun bs=>rrtext_ok hS Ti.rd Ti.sfx bs
    have xA:=Ti.sfx.text
    rw [eA] at cA xA
    obtain ⟨τA,hτA⟩:∃ τA:Heap,τA=τ.set 1 (rk s stA):=⟨_,rfl⟩
    simp only [←hτA] at cA
    obtain ⟨a,ha⟩:∃ a,a=τ.length:=⟨_,rfl⟩
    have ha3:3≤a:=by rw [ha]; exact Ti.len
    have hAl:τA.length=a:=by rw [hτA,ha]; simp
    have hA1:τA[1]?=some (rk s stA):=by rw [hτA]; exact List.getElem?_set_self (by omega)
    have hAk:∀ i,i≠1→τA[i]?=τ[i]?:=fun i hi=>by rw [hτA,zqC (Ne.symm hi)]
    obtain ⟨τB,hτB⟩:∃ τB:Heap,τB=τA++[.cells [.str (ba nm),.isl [] true,.int .i64 0] 0 false]:=⟨_,rfl⟩
    have hgA:∀ o:AObj,(τA++[o])[a]?=some o:=fun o=>by rw [←hAl]; simp
    have hsA:∀ o o':AObj,(τA++[o]).set a o'=τA++[o']:=fun o o'=>by rw [←hAl]; simp
    have hB1:τB[1]?=some (rk s stA):=by rw [hτB,zqA (by omega)]; exact hA1
    have cB:=fun bs=>rrnum_ok hS hB1 xA 1 (by omega) bs
    have xB:=xA.num 1
    have hrm:=nbT1_rng stA
    obtain ⟨v,stB,eB⟩:∃ x y,nbT 1 stA=(x,y):=⟨_,_,rfl⟩
    rw [eB] at cB xB hrm
    obtain ⟨m,rfl⟩:∃ m:Nat,v=(m:Int):=⟨v.toNat,by have:=hrm.1; simp only at this; omega⟩
    have hm:m<256:=by have:=hrm.2; simp only at this; omega
    obtain ⟨τC,hτC⟩:∃ τC:Heap,τC=τB.set 1 (rk s stB):=⟨_,rfl⟩
    simp only [Int.cast_ofNat_Int,←hτC] at cB
    have hBl:τB.length=a+1:=by rw [hτB]; simp [hAl]
    have SC:SLoop s τA a m (ba nm) stB 0 τC:=by
     refine ⟨stB,[],.isl [] true,by rw [hτC]; simp [hBl],xB,by rw [hτC]; exact List.getElem?_set_self (by omega),?_,fun i hi hne=>?_,.inl ⟨rfl,rfl⟩,rfl,by simp⟩
     ·rw [hτC,zqC (by omega),hτB]; exact hgA _
     ·rw [hτC,zqC (Ne.symm hne),hτB,zqA (by omega)]
    have hrowT:rowT sti=(⟨ba nm,(rep (valT 4) m stB).1,(nbT 8 (rep (valT 4) m stB).2).1⟩,(nbT 8 (rep (valT 4) m stB).2).2):=by
     simp only [rowT,eA,eB]; rfl
    have hrep2:rep rowT n st5=((vs++[(rowT sti).1])++(rep rowT (n - (i+1)) (rowT sti).2).1,(rep rowT (n - (i+1)) (rowT sti).2).2):=by
     rw [hrep,show n - i=(n - (i+1))+1 by omega]
     simp [rep,hb]
    rw [hrowT] at hrep2
    simp [-getElem?_pos,f0,f2,f4,f5,f6,f7,hlt,gt,setRun,cA,hAl,hgA,hsA,←hτB,cB]
    refine W_for T 0 91 m (fun j f' τ'=>f' 0=.str (ba s)∧f' 2=.ptr 0 0∧f' 4=.ptr 1 0∧f' 5=.ptr 2 0∧f' 6=.int .i64 (n:Int)∧f' 7=.int .i64 (i:Int)∧f' 8=.ptr a 0∧f' 9=.int .i64 (m:Int)∧f' 10=.int .i64 (j:Int)∧SLoop s τA a m (ba nm) stB j τ') ?_ _ _ ?_
    ·clear f0 f2 f4 f5 f6 f7 SC cA cB hτC f
     rintro j f τ' hj ⟨f0,f2,f4,f5,f6,f7,f8,f9,f10,stj,asq,la,hl',xj,h1',ha',hk',La,hasl,hrepa⟩
     have gt':τ'[1]?=some (.cells [.str (ba s),.int .i64 ((s.length - stj.1.length:Nat):Int),.bool stj.2] 0 false):=h1'
     have w2:IntKind.i64.wrap ((j:Int)+1)=(j:Int)+1:=wr64 (by omega) (by omega)
     by_cases hgo:j<m∧stj.2=false
     ·obtain ⟨hjm,hb2⟩:=hgo
      rw [hb2] at gt'
      have hc:=fun bs=>rvalue_ok hS 4 (by omega) h1' xj bs
      have xn:=xj.valT 4
      have hrepa2:rep (valT 4) m stB=((asq++[(valT 4 stj).1])++(rep (valT 4) (m - (j+1)) (valT 4 stj).2).1,(rep (valT 4) (m - (j+1)) (valT 4 stj).2).2):=by
       rw [hrepa,show m - j=(m - (j+1))+1 by omega]
       simp [rep,hb2]
      obtain ⟨v,stn,hev⟩:∃ v stn,valT 4 stj=(v,stn):=⟨_,_,rfl⟩
      rw [hev] at hc hrepa2 xn
      obtain ⟨τn,hτn⟩:∃ τn:Heap,τn=τ'.set 1 (rk s stn):=⟨_,rfl⟩
      simp only [Int.cast_ofNat_Int,←hτn] at hc
      have gan:τn[a]?=some (.cells [.str (ba nm),la,.int .i64 0] 0 false):=by rw [hτn,zqC (by omega)]; exact ha'
      simp [-getElem?_pos,f0,f2,f4,f5,f6,f7,f8,f9,f10,hjm,gt',ha',hc,chkO_l,objOf,gan,-appendA_ag]
      have Ln:LX (a+1) 4 τn (GV.encs asq) la:=by
       rw [hτn]; exact La.keep fun j o hj ho=>by rw [zqC (by omega)]; exact ho
      have hNl:a+1≤τn.length:=by rw [hτn]; simpa using hl'
      refine stW_app1 (N:=a+1) Ln rfl rfl (by omega) (by omega) hNl (by simp; omega) fun x' σ' hL' hlen' hk2=>?_
      have ga5:σ'[a]?=some (.cells [.str (ba nm),la,.int .i64 0] 0 false):=by rw [hk2 a (by omega)]; exact gan
      have L6:LX (a+1) 4 (σ'.set a (.cells [.str (ba nm),x',.int .i64 0] 0 false)) (GV.encs (asq++[v])) x':=by
       have e:GV.encs asq++[AV.agg (List.map AV.nrm [.int .i64 v.kind,.int .i64 v.num,.str v.text,.isl (GV.encs v.items) false])]=GV.encs (asq++[v]):=by
        have e2:GV.encs (asq++[v])=GV.encs asq++[v.enc]:=by simp [GV.encs_map]
        rw [e2,GV.enc_eq]; rfl
       rw [←e]
       exact hL'.keep fun j o hj ho=>by rw [zqC (by omega)]; exact ho
      simp [-getElem?_pos,f0,f2,f4,f5,f6,f7,f8,f9,f10,ga5,hL'.solid,hL'.cells,setRun,w2,hjm]
      refine ⟨stn,asq++[v],x',by simp; omega,xn,?_,List.getElem?_set_self (by omega),fun i hi hne=>?_,L6,by simp [hasl],hrepa2⟩
      ·rw [zqC (by omega),hk2 1 (by omega),hτn]; exact List.getElem?_set_self (by omega)
      ·rw [zqC (by omega),hk2 i (by omega),hτn,zqC (Ne.symm hne)]; exact hk' i hi hne
     ·have hend:rep (valT 4) (m - j) stj=([],stj):=by
       by_cases hjm:j<m
       ·exact rep_bad _ _ _ (by cases h:stj.2 with | true=>rfl | false=>exact absurd ⟨hjm,h⟩ hgo)
       ·rw [show m - j=0 by omega]; rfl
      rw [hend,List.append_nil] at hrepa
      rw [hrepa] at hrep2
      have cD:=fun bs=>rrnum_ok hS h1' xj 8 (by omega) bs
      have xD:=xj.num 8
      obtain ⟨stp,stD,eD⟩:∃ x y,nbT 8 stj=(x,y):=⟨_,_,rfl⟩
      rw [eD] at cD xD hrep2
      obtain ⟨τD,hτD⟩:∃ τD:Heap,τD=τ'.set 1 (rk s stD):=⟨_,rfl⟩
      simp only [Int.cast_ofNat_Int,←hτD] at cD
      have gaD:τD[a]?=some (.cells [.str (ba nm),la,.int .i64 0] 0 false):=by rw [hτD,zqC (by omega)]; exact ha'
      obtain ⟨τE,hτE⟩:∃ τE:Heap,τE=τD.set a (.cells [.str (ba nm),la,.int .i64 stp] 0 false):=⟨_,rfl⟩
      have hEl:τE.length=τ'.length:=by rw [hτE,hτD]; simp
      have gaE:τE[a]?=some (.cells [.str (ba nm),la,.int .i64 stp] 0 false):=by rw [hτE]; exact List.getElem?_set_self (by rw [hτD]; simp; omega)
      have g2E:τE[2]?=some (.cells [.str (ba fr),.str (ba to),.int .i64 sta,.int .i64 sq,l] 0 false):=by
       rw [hτE,zqC (by omega),hτD,zqC (by omega),hk' 2 (by omega) (by omega),hAk 2 (by omega)]; exact ga
      have g1E:τE[1]?=some (rk s stD):=by rw [hτE,zqC (by omega),hτD]; exact List.getElem?_set_self (by omega)
      have g0E:τE[0]?=some (.cells [.str ⟨#[]⟩,.str ⟨#[]⟩,.int .i64 0,.int .i64 0,.isl [] true] 0 false):=by
       rw [hτE,zqC (by omega),hτD,zqC (by omega),hk' 0 (by omega) (by omega),hAk 0 (by omega)]; exact g0
      have LE:LX (a+1) 4 τE (GV.encs asq) la:=La.keep fun j o hj ho=>by rw [hτE,zqC (by omega),hτD,zqC (by omega)]; exact ho
      have hs3:la.solid=true:=LE.solid
      have hc3:la.cells=[la]:=LE.cells
      by_cases hjm:j<m
      have hb2:stj.2=true:=by cases h:stj.2 with | true=>rfl | false=>exact absurd ⟨hjm,h⟩ hgo
      rw [hb2] at gt'
      simp [-getElem?_pos,f0,f2,f4,f5,f6,f7,f8,f9,f10,hjm,gt',cD,gaD,setRun,←hτE,gaE,g2E,-appendA_ag]
      rotate_left
      have hjm':j=m:=by omega
      simp [-getElem?_pos,f0,f2,f4,f5,f6,f7,f8,f9,f10,hjm,gt',cD,gaD,setRun,←hτE,gaE,g2E,-appendA_ag]
      rotate_left
      all_goals
       obtain ⟨σ0,hσ0⟩:∃ σ0:Heap,σ0=τ.set 1 (rk s stD):=⟨_,rfl⟩
       have h0l:σ0.length=a:=by rw [hσ0,ha]; simp
       have L0:LX 3 3 σ0 (vs.map GW.enc) l:=by rw [hσ0]; exact Li.keep fun j o hj ho=>by rw [zqC (by omega)]; exact ho
       have hjF:(τE++[AObj.cells [.str (ba nm),la,.int .i64 stp] 0 false])[τE.length]?=some (.cells [.str (ba nm),la,.int .i64 stp] 0 false):=by simp
       obtain ⟨σ1,z,fj,hX,hj1,hz1,hz2,hl1,hk1⟩:=closeX_row (LE.app _) hjF
       have hall:∀ i,i<σ0.length→σ1[i]?=σ0[i]?:=fun i hi=>by
        rw [hk1 i (by omega) (by omega),zqA (by omega),hτE,zqC (by omega),hτD,hσ0]
        by_cases e:i=1
        ·subst e
         rw [List.getElem?_set_self (by omega),List.getElem?_set_self (by omega)]
        ·rw [zqC (Ne.symm e),zqC (Ne.symm e),hk' i (by omega) e,hAk i e]
       refine stW_appX (σ0:=σ0) (N:=3) hX hj1 rfl (by simp [AV.clo1]; exact hz1) (by omega) (by omega) L0 hall (by omega) (by omega) (by simp; omega) fun x' σ' hL' hlen' hk2=>?_
       have hl2:3≤σ'.length:=by rw [hl1,zqJ] at hlen'; simp at hlen'; omega
       have e2:σ'[2]?=some (.cells [.str (ba fr),.str (ba to),.int .i64 sta,.int .i64 sq,l] 0 false):=by
        rw [hk2 2 (by omega),hσ0,zqC (by omega)]; exact ga
       have e1:σ'[1]?=some (rk s stD):=by rw [hk2 1 (by omega),hσ0]; exact List.getElem?_set_self (by omega)
       have e0:σ'[0]?=some (.cells [.str ⟨#[]⟩,.str ⟨#[]⟩,.int .i64 0,.int .i64 0,.isl [] true] 0 false):=by rw [hk2 0 (by omega),hσ0,zqC (by omega)]; exact g0
       have L7:LX 3 3 (σ'.set 2 (.cells [.str (ba fr),.str (ba to),.int .i64 sta,.int .i64 sq,x'] 0 false)) ((vs++[(⟨ba nm,asq,stp⟩:GW)]).map GW.enc) x':=by
        have e:vs.map GW.enc++[AV.agg (List.map AV.nrm [.str (ba nm),z,.int .i64 stp])]=(vs++[(⟨ba nm,asq,stp⟩:GW)]).map GW.enc:=by
         simp [GW.enc,GW.cls,hz2]
        rw [←e]
        exact hL'.keep fun j o hj ho=>by rw [zqC (by omega)]; exact ho
       simp [-getElem?_pos,f0,f2,f4,f5,f6,f7,e2,hL'.solid,hL'.cells,setRun,w1,hlt]
       exact ⟨stD,vs++[⟨ba nm,asq,stp⟩],x',⟨by simp; omega,xD,by rw [zqC (by omega)]; exact e0,by rw [zqC (by omega)]; exact e1,List.getElem?_set_self (by omega)⟩,L7,by simp [hvl],hrep2⟩
    ·exact ⟨by simp [f0],by simp [f2],by simp [f4],by simp [f5],by simp [f6],by simp [f7],by simp,by simp,by simp,SC⟩
  ·have he:i=n:=by omega
   subst he
   simp only [Nat.sub_self,rep,List.append_nil] at hrep
   rw [hrep] at hno hyes hgood
   cases hb:sti.2 with
   | true=>
    rw [hb] at gt
    have hn1:=hno (by simp [hb])
    simp [-getElem?_pos,f0,f2,f4,f5,f6,f7,gt,ga,g0,g0s,AV.clo1,hn1,zeroF,GF.enc]
   | false=>
    rw [hb] at gt
    obtain ⟨b,hbq⟩:∃ b:GF,b=⟨ba fr,ba to,sta,sq,vs⟩:=⟨_,rfl⟩
    have hz:SzF b:=by rw [hbq]; exact hgood hb hs
    rw [←hbq] at hno hyes
    obtain ⟨τ6,e6,-⟩:=Li.close
    have hcl:∀ bs:Nat,closeT τ [.agg [.str (ba fr),.str (ba to),.int .i64 sta,.int .i64 sq,l]]=some ([b.enc],τ6):=fun bs=>by
     rw [hbq]; simp [close1_of0 e6,GF.enc]
    by_cases hF:FOk b
    ·have hlay:=fun (bs:Nat)=>call_scal (T:=T) (bs:=bs) (f:=14) rfl rfl rfl (rlay_yes b hz hF) rfl (by simp) (hcl bs)
     by_cases hq:layB b=s
     ·have hlen:sti.1.length=4:=by
       have hbt:=bodyT_ok hF (nbB 4 ((sumL (bodyB b)).toNat:Int))
       rw [show bodyB b++nbB 4 ((sumL (bodyB b)).toNat:Int)=s from hq,hbody,hrep] at hbt
       have:=congrArg (fun x=>x.2.1.length) hbt
       simpa using this
      have hy1:=hyes ⟨hb,hlen,hF,hq⟩
      have L7:LX 3 3 (τ.set 0 (.cells [.str (ba fr),.str (ba to),.int .i64 sta,.int .i64 sq,l] 0 false)) (vs.map GW.enc) l:=
       Li.keep fun j o hj ho=>by rw [zqC (by omega)]; exact ho
      obtain ⟨τ7,e7,-⟩:=L7.close
      have hcl7:=close1_of0 e7
      simp [-getElem?_pos,f0,f2,f4,f5,f6,f7,gt,ga,g0,g0s,AV.clo1,hlay,hq,zqE,zqD,setRun,hcl7]
      rw [hy1,hbq]; exact ⟨rfl,rfl⟩
     ·have hn1:=hno (fun h=>hq h.2.2.2)
      simp [-getElem?_pos,f0,f2,f4,f5,f6,f7,gt,ga,g0,g0s,AV.clo1,hlay,hq,ba_inj,hn1,zeroF,GF.enc,zqE,zqD]
    ·have hlay:=fun (bs:Nat)=>call_scal (T:=T) (bs:=bs) (f:=14) rfl rfl rfl (rlay_no b hz hF) rfl (by simp) (hcl bs)
     have hn1:=hno (fun h=>hF h.2.2.1)
     simp [-getElem?_pos,f0,f2,f4,f5,f6,f7,gt,ga,g0,g0s,AV.clo1,hlay,hn1,zeroF,GF.enc,zqE,zqD]
 ·exact ⟨by simp,by simp,by simp,by simp,by simp,by simp,st5,[],.isl [] true,T5,.inl ⟨rfl,rfl⟩,rfl,by simp⟩
end Go.Proofs.Ytkempedphjopmaa
end
section
namespace Go.Mach
theorem LX.closeR {N sz:Nat} {σ:Heap} {es:List AV} {x:AV} (h:LX N sz σ es x):∃ σ',Go.Mach.closeR σ x=some (.isl es false,σ'):=by
 obtain ⟨σ',h1,-⟩:=h.close
 have h2:=close1_of0 h1
 rcases h with ⟨rfl,rfl⟩ | ⟨k,cs,fz,rfl,_⟩ | ⟨k,rfl,_⟩ <;> exact ⟨σ',h2⟩
end Go.Mach
namespace Go.Proofs.Ytkempedphjopmaa
open Go.Mach
theorem pick15_ok (c n:Int) (h:n≠0):pureT T c12 [.int .i64 c,.int .i64 n]=some (.int .i64 ((if c<0 then IntKind.i64.wrap (0 - IntKind.i64.wrap (c+1)) else c).tmod n)):=by
 apply pure_enter (by simp [c12])
 by_cases hc:c<0
 ·simp [c12,hc,h]
 ·simp [c12,hc,h]
theorem pick15 (c:Int) (n:Nat) (h:0<n) (h1:GV.i64ok c) (bs:Nat) (σ:Heap) :
  callT T 12 [.int .i64 c,.int .i64 (n:Int)] bs σ=some (.int .i64 (pickN c n:Int),σ):=by
 refine call_clean rfl rfl rfl rfl ?_
 rw [pick15_ok c n (by omega),pick_eq c n h h1.1 h1.2]
theorem pick10_ok (c n:Int) (h:n≠0):pureT T c46 [.int .i64 c,.int .i64 n]=some (.int .i64 ((if c<0 then IntKind.i64.wrap (0 - IntKind.i64.wrap (c+1)) else c).tmod n)):=by
 apply pure_enter (by simp [c46])
 by_cases hc:c<0
 ·simp [c46,hc,h]
 ·simp [c46,hc,h]
theorem pick10 (c:Int) (n:Nat) (h:0<n) (h1:GV.i64ok c) (bs:Nat) (σ:Heap) :
  callT T 46 [.int .i64 c,.int .i64 (n:Int)] bs σ=some (.int .i64 (pickN c n:Int),σ):=by
 refine call_clean rfl rfl rfl rfl ?_
 rw [pick10_ok c n (by omega),pick_eq c n h h1.1 h1.2]
theorem pick10_9 (c:Int) (h1:GV.i64ok c) (bs:Nat) (σ:Heap):callT T 46 [.int .i64 c,.int .i64 9] bs σ=some (.int .i64 (pickN c 9:Int),σ):=pick10 c 9 (by omega) h1 bs σ
def rowX (x:GRaw):GW:=⟨(factR x).name,(factR x).args,(pickN x.n3 9:Int)⟩
def rowsX (l:List GRaw):List GW:=(l.take 40).map rowX
theorem rows10_ok (facts:List GRaw) (hx:FactsOk facts):pureT T c28 [.isl (facts.map GRaw.enc) false]=some (.isl ((rowsX facts).map GW.enc) false):=by
 obtain ⟨hok,hlen⟩:=hx
 have hrl:(rowsX facts).length=min 40 facts.length:=by simp [rowsX]
 apply pure_enter (by simp [c28])
 simp [c28]
 refine W_for T 0 37 (min 40 facts.length) (fun i f τ=>f 0=.isl (facts.map GRaw.enc) false∧f 4=.int .i64 (i:Int)∧∃ l,f 3=l∧LX 0 3 τ (((rowsX facts).take i).map GW.enc) l) ?_ _ _ ?_
 ·rintro i f τ hi ⟨f0,f4,l,f3,Li⟩
  by_cases hlt:i<min 40 facts.length
  ·have hl1:i<facts.length:=by omega
   have hl2:(i:Int)<40:=by omega
   have w1:IntKind.i64.wrap ((i:Int)+1)=(i:Int)+1:=wr64 (by omega) (by omega)
   have hk:=hok _ (zqT hl1)
   have hc:=callFact6 facts[i] hk
   rw [GRaw.enc_eq] at hc
   have hp:=pick10_9 facts[i].n3 hk.2.2.2.2.2
   have hrx:(rowsX facts)[i]?=some (rowX facts[i]):=by simp [rowsX,hl1,show i<40 by omega]
   simp [f0,f3,f4,hl1,hl2,w1,hc,GU.enc_eq,setRun,hp,chkO_l,objOf,GRaw.enc_eq,-appendA_ag]
   refine stW_app2 (N:=0) Li rfl rfl (by omega) (by omega) (by omega) (by simp; omega) fun x' σ' hL' hlen' hk'=>?_
   have e:((rowsX facts).take i).map GW.enc++[AV.agg (List.map AV.nrm [.str (factR facts[i]).name,.isl (GV.encs (factR facts[i]).args) false,.int .i64 (pickN facts[i].n3 9:Int)])]=((rowsX facts).take (i+1)).map GW.enc:=by
    rw [List.take_add_one,hrx]; simp [GW.enc,GW.cls,rowX]
   rw [e] at hL'
   simp [f0,f4,w1,hlt]
   rw [List.map_take] at hL'
   exact hL'
  ·have he:i=min 40 facts.length:=by omega
   have hrt:(rowsX facts).take i=rowsX facts:=List.take_of_length_le (by omega)
   rw [hrt] at Li
   obtain ⟨τ6,hcl⟩:=Li.closeR
   by_cases h1:i<facts.length
   ·have h2:¬ (i:Int)<40:=by omega
    simp [f0,f3,f4,h1,h2,hcl]
   ·simp [f0,f3,f4,h1,hcl]
 ·exact ⟨by simp,by simp,.isl [] true,by simp,.inl ⟨by simp,rfl⟩⟩
end Go.Proofs.Ytkempedphjopmaa
end
section
namespace Go.Mach
theorem LX.isl {N sz bytes:Nat} {b:Bool} {σ:Heap} {es:List AV} {x:AV} (h:LX N sz σ es x) (ys:List AV) (hok:ys.all (okEl sz true)=true) (hl:es.length+ys.length≤1000000000) (h0:0<sz) (hb:bytes≤1000) (hN:N≤σ.length) :
  ∃ x' σ',appendC σ sz true bytes false x (.isl ys b)=some (x',σ')∧LX N sz σ' (es++ys) x'∧σ.length≤σ'.length∧∀ (i:Nat) (o:AObj),σ[i]?=some o→(i<N∨((∀ n,o≠.tok n sz)∧∀ cs fz,o=.cells cs fz false→cs.length≠sz))→σ'[i]?=some o:=by
 rw [appendC_isl]
 have he2:elemsN σ sz true (.isl ys b)=some ys:=rfl
 rcases h with ⟨rfl,rfl⟩ | ⟨k,cs,fz,rfl,hkN,hk,hcl,hcc,rfl⟩ | ⟨k,rfl,hkN,hk,hes⟩
 ·rw [closeS_isl]
  by_cases hy:ys=[]
  ·subst hy
   refine ⟨.isl [] true,σ,by simp [appendA,elemsN,elemsA,isSl],.inl ⟨rfl,rfl⟩,Nat.le_refl _,fun i o h _=>h⟩
  ·have he1:elemsA σ sz true (.isl [] true)=some []:=rfl
   have hmul:(0+ys.length) * bytes≤1000000000 * 1000:=Nat.mul_le_mul (by simpa using hl) hb
   have hn:¬ (sz=0∨(0+ys.length) * bytes > 70368744177664∨0+ys.length > 70368744177664):=by simp at hl; omega
   refine ⟨.own σ.length ys,σ++[.tok ys.length sz],?_,.inr (.inr ⟨σ.length,by simp,hN,by simp,by simpa using hok⟩),by simp,fun i o h _=>by rw [zqA (zqI.1 h).1]; exact h⟩
   simp only [appendA,he1,he2,Option.bind_some,isSl,if_neg hy,List.length_nil,if_neg hn]
   simp [hok]
 ·obtain ⟨c1,c2⟩:=LX.closeS_len (σ:=σ) k sz
  have hkl:=(zqI.1 hk).1
  have tidyN:∀ l:List AV,l.all AV.tidy=true→l.map AV.nrm=l:=fun l hl=>by
   rw [zqQ] at hl
   rw [List.map_congr_left (g:=fun y=>y) (fun x hx=>?_),List.map_id']
   have:=hl x hx
   cases x with
   | isl es b=>cases b with
    | true=>cases this
    | false=>rfl
   | _=>rfl
  have k1:∃ fz',(closeS σ (.sl k 0 1 sz true))[k]?=some (.cells (cs.map AV.nrm) fz' false):=by
   simp only [closeS,hk]
   split
   ·exact ⟨fz,by simp [hkl]⟩
   ·rename_i hn
    have:cs.all AV.tidy=true:=by
     cases h:cs.all AV.tidy with
     | true=>rfl
     | false=>exact absurd ⟨h,hcc⟩ hn
    rw [tidyN cs this]; exact ⟨fz,hk⟩
  obtain ⟨fz',k1⟩:=k1
  have hkeep:∀ (i:Nat) (o:AObj),σ[i]?=some o→(i<N∨((∀ n,o≠.tok n sz)∧∀ cs fz,o=.cells cs fz false→cs.length≠sz))→(closeS σ (.sl k 0 1 sz true))[i]?=some o:=fun i o hi h12=>by
   have hne:i≠k:=by
    rintro rfl
    rw [hk] at hi; injection hi with hi
    rcases h12 with h | ⟨_,h2⟩
    ·omega
    ·exact h2 cs fz hi.symm hcl
   rw [c2 i hne]; exact hi
  have hnn:((cs.map AV.nrm).map AV.nrm)=cs.map AV.nrm:=by
   rw [List.map_map]; apply List.map_congr_left; intro x _
   cases x <;> rfl
  have hcl':(cs.map AV.nrm).length=sz:=by simpa using hcl
  have hcc':=nrm_all hcc
  generalize closeS σ (.sl k 0 1 sz true)=τ at *
  by_cases hy:ys=[]
  ·subst hy
   refine ⟨.sl k 0 1 sz true,τ,?_,.inr (.inl ⟨k,cs.map AV.nrm,fz',rfl,hkN,k1,hcl',hcc',by rw [hnn]; simp⟩),by omega,hkeep⟩
   have e1:=elems_ag1 k1 hcl'
   simp [appendA,elemsN,elemsA,isSl] at e1 ⊢
   simp [e1]
  ·have e1:=elems_ag1 k1 hcl'
   have he2':elemsN τ sz true (.isl ys b)=some ys:=rfl
   have hmul:(1+ys.length) * bytes≤1000000000 * 1000:=Nat.mul_le_mul (by simpa using hl) hb
   have hn:¬ (sz=0∨(1+ys.length) * bytes > 70368744177664∨1+ys.length > 70368744177664):=by simp at hl; omega
   have o1:okEl sz true (.agg (cs.map AV.nrm))=true:=by simp only [okEl,AV.clo,hcc',AV.cells,hcl',decide_true,Bool.and_self]
   refine ⟨.own τ.length (.agg (cs.map AV.nrm) :: ys),τ++[.tok (1+ys.length) sz],?_,.inr (.inr ⟨τ.length,rfl,by omega,by simp; omega,by simp [o1]; simpa using hok⟩),by simp; omega,fun i o hi h12=>by
    have:=hkeep i o hi h12
    rw [zqA (zqI.1 this).1]; exact this⟩
   simp only [appendA,e1,he2',Option.bind_some,isSl,if_neg hy,List.length_singleton,if_neg hn,k1]
   simp [hok,o1,hcl]
 ·rw [closeS_own]
  have hkl:=(zqI.1 hk).1
  by_cases hy:ys=[]
  ·subst hy
   exact ⟨.own k es,σ,by simp [appendA,elemsN,elemsA,isSl],.inr (.inr ⟨k,by simp,hkN,by simpa using hk,by simpa using hes⟩),Nat.le_refl _,fun i o h _=>h⟩
  ·have he1:elemsA σ sz true (.own k es)=some es:=rfl
   have hmul:(es.length+ys.length) * bytes≤1000000000 * 1000:=Nat.mul_le_mul hl hb
   have hn:¬ (sz=0∨(es.length+ys.length) * bytes > 70368744177664∨es.length+ys.length > 70368744177664):=by omega
   refine ⟨.own k (es++ys),σ.set k (.tok (es.length+ys.length) sz),?_,.inr (.inr ⟨k,rfl,hkN,by rw [zqJ,List.getElem?_set_self hkl],by simp [List.all_append,hes,hok]⟩),by simp,fun i o hi h12=>?_⟩
   ·simp only [appendA,he1,he2,Option.bind_some,isSl,if_neg hy,if_neg hn,hk]
    simp [hok,hes]
   ·have:k≠i:=by
     rintro rfl
     rw [hk] at hi; injection hi with hi
     rcases h12 with h | ⟨h1,_⟩
     ·omega
     ·exact h1 _ hi.symm
    rw [zqC this]; exact hi
theorem LX.put {N sz j fz:Nat} {ext:Bool} {σ:Heap} {es cs:List AV} {x:AV} (h:LX N sz σ es x) (hj:σ[j]?=some (.cells cs fz ext)) (hne:cs.length≠sz) (o:AObj):LX N sz (σ.set j o) es x:=by
 rcases h with h | ⟨k,cs',fz',h1,h2,h3,h4,h5⟩ | ⟨k,h1,h2,h3,h4⟩
 ·exact .inl h
 ·have:j≠k:=by rintro rfl; rw [hj] at h3; injection h3 with h3; injection h3 with h3; subst h3; exact hne h4
  exact .inr (.inl ⟨k,cs',fz',h1,h2,by rw [zqC this]; exact h3,h4,h5⟩)
 ·have:j≠k:=by rintro rfl; rw [hj] at h3; cases h3
  exact .inr (.inr ⟨k,h1,h2,by rw [zqC this]; exact h3,h4⟩)
end Go.Mach
end
section
namespace Go.Proofs.Ytkempedphjopmaa
open Go.Mach
theorem nameFit_le (s:ByteArray):(nameFit s).size≤16:=(nameFit_size s).2
theorem textFit_le (s:ByteArray):(textFit s).size≤s.size:=by
 have h:textFit s=ba ((s.data.toList.take 32).map textC):=rfl
 rw [h,baF_size]
 have:s.data.toList.length=s.size:=by simp
 simp; omega
theorem fitV_size:∀ (d:Nat) (v:GV),(fitV d v).size≤5 * v.size
 | d,.mk k n t l=>by
  have hz:(⟨#[]⟩:ByteArray).size=0:=rfl
  have h1:=nameFit_le t
  have h2:=textFit_le t
  unfold fitV
  split
  ·simp only [GV.size,GV.sizes,hz]; omega
  split
  ·simp only [GV.size,GV.sizes,GV.text]; omega
  split
  ·simp only [GV.size,GV.sizes,GV.text]; omega
  split
  ·simp only [GV.size,GV.sizes,hz]; omega
  ·rename_i d'
   have hs:GV.sizes ((l.take 16).map fun x=>fitV d' (if d'=0∧pickN x.kind 4=3 then .mk 0 x.num x.text x.items else x))≤5 * GV.sizes (l.take 16):=by
    generalize l.take 16=m
    induction m with
    | nil=>simp [GV.sizes]
    | cons x m ih=>
     have hx:=fitV_size d' (if d'=0∧pickN x.kind 4=3 then .mk 0 x.num x.text x.items else x)
     have he:(if d'=0∧pickN x.kind 4=3 then (.mk 0 x.num x.text x.items:GV) else x).size=x.size:=by
      split
      ·cases x; rfl
      ·rfl
     rw [he] at hx
     simp only [List.map_cons,GV.sizes]; omega
   have h16:GV.sizes (l.take 16)≤GV.sizes l:=by
    rw [sizes_sum,sizes_sum,List.map_take]
    generalize l.map GV.size=m
    have:m.sum=(m.take 16).sum+(m.drop 16).sum:=by rw [←List.sum_append,List.take_append_drop]
    omega
   have hz':(GV.mk 4 0 ⟨#[]⟩ ((l.take 16).map fun x=>fitV d' (if d'=0∧pickN x.kind 4=3 then .mk 0 x.num x.text x.items else x))).size=(⟨#[]⟩:ByteArray).size+GV.sizes ((l.take 16).map fun x=>fitV d' (if d'=0∧pickN x.kind 4=3 then .mk 0 x.num x.text x.items else x))+5:=rfl
   have hv':(GV.mk k n t l).size=t.size+GV.sizes l+5:=rfl
   simp only [GV.items]
   rw [hz',hv',hz]; omega
theorem fit_le (v:GV):(fit v).size≤5 * v.size:=fitV_size 4 v
def toV:GV:=.mk 3 0 ⟨#[98]⟩ []
def bRow (more:List GV) (i:Nat) (x:GW):GW:=⟨x.name,toV :: x.args.drop 1++(match more[i]? with | some v=>[fit v] | none=>[]),x.stamp⟩
def bRows (more:List GV) (l:List GW):Nat→List GW
 | 0=>[]
 | i+1=>bRows more l i++(match l[i]? with | some x=>[bRow more i x] | none=>[])
theorem bRows_succ {more:List GV} {l:List GW} {i:Nat} (h:i<l.length):bRows more l (i+1)=bRows more l i++[bRow more i l[i]]:=by
 rw [bRows,zqF h]
theorem bRows_len (more:List GV) (l:List GW):∀ i,i≤l.length→(bRows more l i).length=i
 | 0,_=>rfl
 | i+1,h=>by rw [bRows_succ (by omega),zqJ,bRows_len more l i (by omega)]; rfl
theorem bRows_mem {more:List GV} {l:List GW}:∀ {i:Nat},i≤l.length→∀ {x:GW},x∈bRows more l i→∃ k,∃ h:k<l.length,x=bRow more k l[k]
 | 0,_,x,hx=>by simp [bRows] at hx
 | i+1,h,x,hx=>by
  rw [bRows_succ (by omega)] at hx
  rcases List.mem_append.1 hx with hx | hx
  ·exact bRows_mem (by omega) hx
  ·simp at hx; exact ⟨i,by omega,hx⟩
theorem GV_okEl (l:List GV):(GV.encs l).all (okEl 4 true)=true:=by
 rw [zqQ]; intro x hx
 rw [GV.encs_map] at hx; obtain ⟨v,_,rfl⟩:=List.mem_map.1 hx
 rw [GV.enc_eq]; rfl
theorem sizes_app (a b:List GV):GV.sizes (a++b)=GV.sizes a+GV.sizes b:=by simp [sizes_sum]
theorem sizesW_app (a b:List GW):sizesW (a++b)=sizesW a+sizesW b:=by simp [sizesW_sum]
theorem addrN_size (n:Nat):(addrN n).size≤1:=by
 unfold addrN
 match n with
 | 0=>decide
 | 1=>decide
 | 2=>decide
 | 3=>decide
 | n+4=>simp; decide
theorem fargR_size (x:GRaw) (i:Nat):(fargR x i).size≤6:=by
 have hz:(⟨#[]⟩:ByteArray).size=0:=rfl
 unfold fargR
 split
 ·have:=addrN_size (pickN ((x.at' i).tdiv 2) 4)
  simp only [addrV,GV.size,GV.sizes]; omega
 ·simp only [numV,GV.size,GV.sizes,hz]; omega
theorem rowX_size (x:GRaw):GV.sizes (rowX x).args≤18:=by
 have h:∀ m:List Nat,GV.sizes (m.map (fargR x))≤6 * m.length:=fun m=>by
  induction m with
  | nil=>simp [GV.sizes]
  | cons i m ih=>have:=fargR_size x i; simp only [List.map_cons,GV.sizes,zqU]; omega
 have h2:=h (List.range (relR x).arity.toNat)
 have h3:=(rel_arity x).2.1
 simp at h2
 show GV.sizes ((List.range (relR x).arity.toNat).map (fargR x))≤18
 omega
theorem bRow_size (more:List GV) (i:Nat) (x:GRaw):GV.sizes (bRow more i (rowX x)).args≤24+(match more[i]? with | some v=>5 * v.size | none=>0):=by
 have h1:=rowX_size x
 have h2:GV.sizes ((rowX x).args.drop 1)≤GV.sizes (rowX x).args:=by
  have:GV.sizes (rowX x).args=GV.sizes ((rowX x).args.take 1)+GV.sizes ((rowX x).args.drop 1):=by rw [←sizes_app,List.take_append_drop]
  omega
 have h3:toV.size=6:=by decide
 simp only [bRow]
 rw [List.cons_append,GV.sizes,sizes_app]
 cases h:more[i]? with
 | none=>simp only [GV.sizes]; omega
 | some v=>have:=fit_le v; simp only [GV.sizes]; omega
theorem bRows_size (more:List GV) (facts:List GRaw):∀ i,i≤(rowsX facts).length→sizesW (bRows more (rowsX facts) i)≤24 * i+5 * GV.sizes (more.take i)
 | 0,_=>by simp [bRows,sizesW]
 | i+1,h=>by
  have ih:=bRows_size more facts i (by omega)
  have hxl:(rowsX facts).length=(facts.take 40).length:=by simp [rowsX]
  obtain ⟨y,hy⟩:∃ y,(rowsX facts)[i]'(by omega)=rowX y:=⟨(facts.take 40)[i]'(by omega),by simp [rowsX]⟩
  have hb:=bRow_size more i y
  rw [bRows_succ (by omega),sizesW_app,hy,List.take_add_one (l:=more)]
  simp only [sizesW]
  cases hm:more[i]? with
  | none=>rw [hm] at hb; simp at hb ⊢; omega
  | some v=>rw [hm] at hb; rw [sizes_app]; simp [GV.sizes] at hb ⊢; omega
theorem sizes_take_le (l:List GV) (i:Nat):GV.sizes (l.take i)≤GV.sizes l:=by
 have:GV.sizes l=GV.sizes (l.take i)+GV.sizes (l.drop i):=by rw [←sizes_app,List.take_append_drop]
 omega
theorem sizesW_mem {l:List GW} {x:GW} (h:x∈l):GV.sizes x.args≤sizesW l:=by
 rw [sizesW_sum]; exact mem_le_sum (List.mem_map_of_mem (f:=fun x:GW=>GV.sizes x.args) h)
theorem sizesW_sub:∀ {K L:List GW},K.Nodup→(∀ x∈K,x∈L)→sizesW K≤sizesW L
 | [],_,_,_=>by simp [sizesW]
 | x :: K,L,hn,hs=>by
  obtain ⟨A,B,rfl⟩:=List.append_of_mem (hs x (by simp))
  rw [List.nodup_cons] at hn
  have:=sizesW_sub (K:=K) (L:=A++B) hn.2 fun y hy=>by
   have h:=hs y (by simp [hy])
   rcases List.mem_append.1 h with h | h
   ·exact List.mem_append_left _ h
   ·rcases List.mem_cons.1 h with rfl | h
    ·exact absurd hy hn.1
    ·exact List.mem_append_right _ h
  rw [sizesW_app] at this ⊢
  simp only [sizesW]; omega
def PLoop (s1 s2:Int) (L:List GW) (τ:Heap):Prop:=
 ∃ l,3≤τ.length∧τ[0]?=some (.cells [.str ⟨#[]⟩,.str ⟨#[]⟩,.int .i64 0,.int .i64 0,.isl [] true] 0 false)∧τ[1]?=some (.cells [.str ⟨#[97]⟩,.str ⟨#[98]⟩,.int .i64 s1,.int .i64 s2,l] 0 false)∧τ[2]?=some (.cells [.int .i64 3,.int .i64 0,.str ⟨#[98]⟩,.isl [] true] 0 false)∧LX 3 3 τ (L.map GW.enc) l
set_option maxHeartbeats 1000000 in
theorem batch_ok (facts:List GRaw) (hx:FactsOk facts) (more:List GV) (hm:GV.oks more) (hms:GV.sizes more≤1048576) (start seq:Int) (h1:GV.i64ok start) (h2:GV.i64ok seq) :
  ∃ K:List GW,UpW K∧(∀ x∈K,x∈bRows more (rowsX facts) (rowsX facts).length)∧K.length≤(rowsX facts).length ∧
   pureT T c15 [.isl (facts.map GRaw.enc) false,.isl (GV.encs more) false,.int .i64 start,.int .i64 seq]=some (GF.mk ⟨#[97]⟩ ⟨#[98]⟩ (pickN start 1099511627777:Int) (pickN seq 1099511627777:Int) K).enc:=by
 have p1:=fun bs σ=>pick15 start 1099511627777 (by omega) h1 bs σ
 have p2:=fun bs σ=>pick15 seq 1099511627777 (by omega) h2 bs σ
 simp only [Int.cast_ofNat_Int] at p1 p2
 have p1':∀ bs σ,callT T 12 [.int .i64 start,.int .i64 1099511627777] bs σ=some (.int .i64 (pickN start 1099511627777:Int),σ):=p1
 have p2':∀ bs σ,callT T 12 [.int .i64 seq,.int .i64 1099511627777] bs σ=some (.int .i64 (pickN seq 1099511627777:Int),σ):=p2
 have cr:∀ bs σ,callT T 28 [.isl (facts.map GRaw.enc) false] bs σ=some (.isl ((rowsX facts).map GW.enc) false,σ):=fun bs σ=>call_clean rfl rfl rfl (by simp) (rows10_ok facts hx)
 obtain ⟨rows,hrows⟩:∃ rows,rows=rowsX facts:=⟨_,rfl⟩
 rw [←hrows] at cr ⊢
 have hrl:rows.length≤40:=by rw [hrows]; simp [rowsX]; omega
 have hrne:∀ x∈rows,x.args≠[]∧x.args.length≤3:=fun x hh=>by
  rw [hrows] at hh
  obtain ⟨y,_,rfl⟩:=List.mem_map.1 hh
  have h1:=fargs_len y
  obtain ⟨a1,a2,_⟩:=rel_arity y
  exact ⟨fun e=>by have:(factR y).args=[]:=e; rw [this] at h1; simp at h1; omega,by show (factR y).args.length≤3; omega⟩
 obtain ⟨L,hL⟩:∃ L,L=bRows more rows rows.length:=⟨_,rfl⟩
 have hLl:L.length=rows.length:=by rw [hL]; exact bRows_len _ _ _ (Nat.le_refl _)
 have hsz:∀ x∈L,x.args≠[]∧GV.sizes x.args≤1000000000:=fun x hh=>by
  have hmem:=hh
  rw [hL] at hh
  obtain ⟨k,hk,rfl⟩:=bRows_mem (Nat.le_refl _) hh
  refine ⟨by simp [bRow],?_⟩
  have h1:=bRows_size more facts rows.length (by rw [hrows]; exact Nat.le_refl _)
  rw [←hrows,←hL] at h1
  have h2:=sizesW_mem hmem
  have h3:=sizes_take_le more rows.length
  omega
 have hM:∃ K:List GW,UpW K∧(∀ x∈K,x∈L)∧K.length≤L.length∧pureT T c30 [.isl (L.map GW.enc) false]=some (.isl (K.map GW.enc) false):=by
  by_cases e:L=[]
  ·rw [e]
   exact ⟨[],by simp [UpW],fun x h=>h,Nat.le_refl _,merge_none⟩
  ·exact merge_some L e (by omega) hsz
 obtain ⟨K,k1,k2,k3,k4⟩:=hM
 refine ⟨K,k1,by rw [←hL]; exact k2,by omega,?_⟩
 generalize pickN start 1099511627777=s1 at *
 generalize pickN seq 1099511627777=s2 at *
 apply pure_enter (by simp [c15])
 simp [c15,p1',p2',cr,setRun]
 refine W_for T 0 73 rows.length (fun i f τ=>f 1=.isl (GV.encs more) false∧f 8=.ptr 0 0∧f 9=.ptr 1 0∧f 10=.ptr 2 0∧f 11=.isl (rows.map GW.enc) false∧f 12=.int .i64 (i:Int)∧PLoop s1 s2 (bRows more rows i) τ) ?_ _ _ ?_
 ·rintro i f τ hi ⟨f1,f8,f9,f10,f11,f12,l,hl3,g0,g1,g2,Li⟩
  by_cases hlt:i<rows.length
  ·have w1:IntKind.i64.wrap ((i:Int)+1)=(i:Int)+1:=wr64 (by omega) (by omega)
   obtain ⟨hne,hal⟩:=hrne _ (zqT hlt)
   have hsucc:=bRows_succ (more:=more) hlt
   obtain ⟨nm,args,st,hr⟩:∃ nm args st,rows[i]=⟨nm,args,st⟩:=⟨_,_,_,rfl⟩
   rw [hr] at hne hal hsucc
   have hg:rows[i]?=some ⟨nm,args,st⟩:=by rw [zqF hlt,hr]
   have hne':args≠[]:=hne
   have hal':args.length≤3:=hal
   have h1l:1≤args.length:=List.length_pos_iff.2 hne'
   have hdrop:slSlV 4 (some (.int .i64 1)) none (.isl (GV.encs args) false)=some (.isl (GV.encs (args.drop 1)) false):=by
    have:=slI_drop (sz:=4) (es:=GV.encs args) (c:=false) (n:=1) (by simp; omega) (by rw [zqQ]; intro e he; simp [lenIs,encsV_len args e he])
    rw [show ((1:Nat):Int)=1 from rfl] at this
    rw [this,GV.encs_map,GV.encs_map,List.map_drop]
   obtain ⟨a,ha⟩:∃ a,a=τ.length:=⟨_,rfl⟩
   obtain ⟨τ0,hτ0⟩:∃ τ0:Heap,τ0=τ++[.cells [.int .i64 3,.int .i64 0,.str ⟨#[98]⟩,.isl [] true] 0 false,.cells [.str ⟨#[]⟩,.isl [] true,.int .i64 0] 0 false]:=⟨_,rfl⟩
   have h0l:τ0.length=a+2:=by rw [hτ0,ha]; simp
   have q0:τ0[a]?=some (.cells [.int .i64 3,.int .i64 0,.str ⟨#[98]⟩,.isl [] true] 0 false):=by rw [hτ0,ha]; simp
   have q1:τ0[a+1]?=some (.cells [.str ⟨#[]⟩,.isl [] true,.int .i64 0] 0 false):=by rw [hτ0,ha]; simp
   have qk:∀ i,i<a→τ0[i]?=τ[i]?:=fun i hi=>by rw [hτ0,zqA (by omega)]
   have L0:LX a 4 τ0 (GV.encs [toV]) (.sl a 0 1 4 true):=.inr (.inl ⟨a,_,0,rfl,Nat.le_refl _,q0,rfl,rfl,rfl⟩)
   obtain ⟨x1,τ1,e1,L1,hl1,hk1⟩:=L0.isl (bytes:=56) (b:=false) (GV.encs (args.drop 1)) (GV_okEl _) (by simp; omega) (by omega) (by omega) (by omega)
   have ecat:GV.encs [toV]++GV.encs (args.drop 1)=GV.encs (toV :: args.drop 1):=rfl
   rw [ecat] at L1
   rw [appendC_isl,List.drop_one] at e1
   have q1':τ1[a+1]?=some (.cells [.str ⟨#[]⟩,.isl [] true,.int .i64 0] 0 false):=hk1 _ _ q1 (.inr ⟨fun n e=>(by cases e),fun cs fz e=>(by injection e with e; subst e; simp)⟩)
   have hk1':∀ i,i<a→τ1[i]?=τ[i]?:=fun i hi=>by
    rw [←qk i hi,hk1 i _ (zqF (by omega)) (.inl hi),zqF]
   obtain ⟨τ2,hτ2⟩:∃ τ2:Heap,τ2=τ1.set (a+1) (.cells [.str nm,x1,.int .i64 st] 0 false):=⟨_,rfl⟩
   have L2:LX a 4 τ2 (GV.encs (toV :: args.drop 1)) x1:=by rw [hτ2]; exact L1.put q1' (by simp) _
   have q2:τ2[a+1]?=some (.cells [.str nm,x1,.int .i64 st] 0 false):=by rw [hτ2]; exact List.getElem?_set_self (by omega)
   have hl2:τ2.length=τ1.length:=by rw [hτ2]; simp
   have hk2:∀ i,i<a→τ2[i]?=τ[i]?:=fun i hi=>by rw [hτ2,zqC (by omega)]; exact hk1' i hi
   have hs1:=L1.solid
   have hc1:=L1.cells
   have hfin:∀ (args':List GV) (x:AV) (τ5:Heap),bRow more i ⟨nm,args,st⟩=⟨nm,args',st⟩→(∀ i,i<a→τ5[i]?=τ[i]?)→τ5[a+1]?=some (.cells [.str nm,x,.int .i64 st] 0 false)→LX a 4 τ5 (GV.encs args') x→a+2≤τ5.length →
     ∃ x' σ',appendC (τ5++[.cells [.str nm,x,.int .i64 st] 0 false]) 3 true 48 false l (.sl τ5.length 0 1 3 true)=some (x',σ')∧σ'[1]?=some (.cells [.str ⟨#[97]⟩,.str ⟨#[98]⟩,.int .i64 s1,.int .i64 s2,l] 0 false)∧x'.solid=true∧x'.cells=[x'] ∧
      PLoop s1 s2 (bRows more rows (i+1)) (σ'.set 1 (.cells [.str ⟨#[97]⟩,.str ⟨#[98]⟩,.int .i64 s1,.int .i64 s2,x'] 0 false)):=fun args' x τ5 hb hk5 hq5 L5 hl5=>by
    have hjF:(τ5++[AObj.cells [.str nm,x,.int .i64 st] 0 false])[τ5.length]?=some (.cells [.str nm,x,.int .i64 st] 0 false):=by simp
    obtain ⟨σ1,z,fj,hX,hj1,hz1,hz2,hlσ,hkσ⟩:=closeX_row (L5.app _) hjF
    have hall:∀ i,i<τ.length→σ1[i]?=τ[i]?:=fun i hi=>by
     rw [hkσ i (by omega) (by omega),zqA (by omega),hk5 i (by omega)]
    obtain ⟨x',σ',m1,m2,m3,m4,-⟩:=app_any (bytes:=48) hX hj1 (sz:=3) rfl (by simp [AV.clo1]; exact hz1) (by omega) (by omega) Li hall (by omega) hl3 (by simp [bRows_len more rows i (by omega)]; omega)
    have hl':3≤σ'.length:=by rw [hlσ,zqJ] at m3; simp at m3; omega
    refine ⟨x',σ',m1,by rw [m4 1 (by omega)]; exact g1,m2.solid,m2.cells,x',by simpa using hl',by rw [zqC (by omega),m4 0 (by omega)]; exact g0,List.getElem?_set_self (by omega),by rw [zqC (by omega),m4 2 (by omega)]; exact g2,?_⟩
    rw [hsucc,hb]
    have e:(bRows more rows i).map GW.enc++[AV.agg (List.map AV.nrm [.str nm,z,.int .i64 st])]=(bRows more rows i++[(⟨nm,args',st⟩:GW)]).map GW.enc:=by
     simp [GW.enc,GW.cls,hz2]
    rw [←e]
    exact m2.keep fun j o hj ho=>by rw [zqC (by omega)]; exact ho
   by_cases hmore:i<more.length
   ·have hgm:more[i]?=some more[i]:=zqF hmore
    have hbR:bRow more i ⟨nm,args,st⟩=⟨nm,(toV :: args.drop 1)++[fit more[i]],st⟩:=by simp [bRow,hgm]
    have hmm:=sizes_mem (zqT hmore)
    have hfit:=callFit more[i] ((GV.oks_iff _).1 hm _ (zqT hmore)) (by omega)
    have hj3:(τ2++[AObj.cells (fit more[i]).enc.cells 0 false])[τ2.length]?=some (.cells (fit more[i]).enc.cells 0 false):=by simp
    have hclo:(fit more[i]).enc.cells.all AV.clo1=true:=by rw [GV.enc_cells]; rfl
    obtain ⟨x2,τ4,n1,n2,n3,n4⟩:=app_any0 (bytes:=56) (closeX_idem hj3 hclo) hj3 (sz:=4) (by rw [GV.enc_cells]; rfl) hclo (by omega) (by omega) L2 (fun i hi=>zqA hi) (Nat.le_refl _) (by omega) (by simp; omega)
    have e4:GV.encs (toV :: args.drop 1)++[AV.agg ((fit more[i]).enc.cells.map AV.nrm)]=GV.encs ((toV :: args.drop 1)++[fit more[i]]):=by
     have e2:GV.encs ((toV :: args.drop 1)++[fit more[i]])=GV.encs (toV :: args.drop 1)++[(fit more[i]).enc]:=by simp [GV.encs_map]
     rw [e2,GV.enc_cells,GV.enc_eq]; rfl
    rw [e4] at n2
    have q4:τ4[a+1]?=some (.cells [.str nm,x1,.int .i64 st] 0 false):=n4 _ _ q2 (.inr ⟨fun n e=>(by cases e),fun cs fz e=>(by injection e with e; subst e; simp)⟩)
    have n3':a+2≤τ4.length:=by simp at n3; omega
    have L5:LX a 4 (τ4.set (a+1) (.cells [.str nm,x2,.int .i64 st] 0 false)) (GV.encs ((toV :: args.drop 1)++[fit more[i]])) x2:=n2.toLX.put q4 (by simp) _
    have q5:(τ4.set (a+1) (.cells [.str nm,x2,.int .i64 st] 0 false))[a+1]?=some (.cells [.str nm,x2,.int .i64 st] 0 false):=List.getElem?_set_self (by omega)
    have hk5:∀ i,i<a→(τ4.set (a+1) (.cells [.str nm,x2,.int .i64 st] 0 false))[i]?=τ[i]?:=fun i hi=>by
     rw [zqC (by omega),←hk2 i hi,n4 i _ (zqF (by omega)) (.inl hi),zqF]
    obtain ⟨τ5,hτ5⟩:∃ τ5:Heap,τ5=τ4.set (a+1) (.cells [.str nm,x2,.int .i64 st] 0 false):=⟨_,rfl⟩
    rw [←hτ5] at L5 q5 hk5
    obtain ⟨x',σ',f1',f2',f3',f4',f5'⟩:=hfin _ x2 τ5 hbR hk5 q5 L5 (by rw [hτ5]; simpa using n3')
    have g15:τ5[1]?=some (.cells [.str ⟨#[97]⟩,.str ⟨#[98]⟩,.int .i64 s1,.int .i64 s2,l] 0 false):=by rw [hk5 1 (by omega)]; exact g1
    have hs2:=n2.solid
    have hc2:=n2.cells
    rw [GV.enc_cells] at n1
    simp [-getElem?_pos,f1,f8,f9,f10,f11,f12,hlt,hr,hg,g2,GW.cls,hdrop,setRun,←ha,←hτ0,e1,chkO_l,objOf,q1,q1',hs1,hc1,←hτ2,hmore,q2,hgm,hfit,n1,q4,hs2,hc2,←hτ5,g15,q5,f1',f2',f3',f4',w1,-appendA_ag]
    exact f5'
   ·have hgm:more[i]?=none:=List.getElem?_eq_none (by omega)
    have hbR:bRow more i ⟨nm,args,st⟩=⟨nm,toV :: args.drop 1,st⟩:=by simp [bRow,hgm]
    obtain ⟨x',σ',f1',f2',f3',f4',f5'⟩:=hfin _ x1 τ2 hbR hk2 q2 L2 (by omega)
    have g12:τ2[1]?=some (.cells [.str ⟨#[97]⟩,.str ⟨#[98]⟩,.int .i64 s1,.int .i64 s2,l] 0 false):=by rw [hk2 1 (by omega)]; exact g1
    simp [-getElem?_pos,f1,f8,f9,f10,f11,f12,hlt,hr,hg,g2,GW.cls,hdrop,setRun,←ha,←hτ0,e1,chkO_l,objOf,q1,q1',hs1,hc1,←hτ2,hmore,q2,g12,f1',f2',f3',f4',w1,-appendA_ag]
    exact f5'
  ·have he:i=rows.length:=by omega
   subst he
   rw [←hL] at Li
   obtain ⟨σ',hcA,hcl,hck⟩:=Li.closeA
   have hm0:callT T 30 [l] 0 τ=some (.isl (K.map GW.enc) false,σ'):=call_data rfl rfl rfl k4 rfl rfl (by simp only [closeT,hcA,Option.bind_some,Option.map_some])
   have u1:σ'[1]?=some (.cells [.str ⟨#[97]⟩,.str ⟨#[98]⟩,.int .i64 s1,.int .i64 s2,l] 0 false):=by rw [hck 1 (by omega)]; exact g1
   have u0:σ'[0]?=some (.cells [.str ⟨#[]⟩,.str ⟨#[]⟩,.int .i64 0,.int .i64 0,.isl [] true] 0 false):=by rw [hck 0 (by omega)]; exact g0
   have u1s:∀ o,(σ'.set 1 o)[1]?=some o:=fun o=>List.getElem?_set_self (by omega)
   have u0s:∀ o,(σ'.set 1 o)[0]?=σ'[0]?:=fun o=>by rw [zqC (by omega)]
   have u2s:∀ o o',((σ'.set 1 o).set 0 o')[0]?=some o':=fun o o'=>List.getElem?_set_self (by simp; omega)
   simp [-getElem?_pos,f1,f8,f9,f10,f11,f12,g1,hm0,u1,setRun,u1s,u0s,u0,u2s,GF.enc]
   done
 ·exact ⟨by simp,by simp,by simp,by simp,by simp,by simp,.isl [] true,by simp,by simp,by simp,by simp,.inl ⟨rfl,rfl⟩⟩
open Go.Mach
theorem frValues (l l2:List GV) (hs:GV.sizes l≤10000000000) (bs:Nat) (σ:Heap):callT T 54 [.isl (GV.encs l) false,.isl (GV.encs l2) false] bs σ=some (.bool (sym (decide (l=l2))),σ):=
 call_clean rfl rfl rfl (by simp) (values_ok l l2 (by have:=len_sizes l; omega) fun x hx y hy bs σ=>callSame x y (by have:=(sizes_mem hx).1; omega) bs σ)
theorem gw_iff (a b:GW):a=b↔a.name=b.name∧a.stamp=b.stamp∧a.args=b.args:=⟨fun h=>by rw [h]; simp,fun h=>by cases a; cases b; simp_all⟩
theorem gf_iff (a b:GF):a=b↔a.frm=b.frm∧a.to=b.to∧a.start=b.start∧a.seq=b.seq∧a.rows=b.rows:=⟨fun h=>by rw [h]; simp,fun h=>by cases a; cases b; simp_all⟩
instance:DecidableEq GW:=fun a b=>decidable_of_iff _ (gw_iff a b).symm
instance:DecidableEq GF:=fun a b=>decidable_of_iff _ (gf_iff a b).symm
theorem same10_ok (l l2:List GW) (hl:l.length≤10000000000) (hs:∀ x∈l,GV.sizes x.args≤10000000000):pureT T c37 [.isl (l.map GW.enc) false,.isl (l2.map GW.enc) false]=some (.bool (decide (l=l2))):=by
 apply pure_enter (by simp [c37])
 by_cases hlen:l.length=l2.length
 ·have hi:(l.length:Int)=(l2.length:Int):=by omega
  simp [c37,hi]
  refine W_for T 0 55 l.length (fun i f τ=>f 0=.isl (l.map GW.enc) false∧f 1=.isl (l2.map GW.enc) false∧f 5=.int .i64 (i:Int)∧∀ k,k<i→l[k]?=l2[k]?) ?_ _ _ ?_
  ·rintro i f τ hi ⟨f0,f1,f5,hall⟩
   by_cases hlt:i<l.length
   ·have w1:IntKind.i64.wrap ((i:Int)+1)=(i:Int)+1:=wr64 (by omega) (by omega)
    have hlt2:i<l2.length:=by omega
    have hv:=frValues l[i].args l2[i].args (hs _ (zqT hlt))
    have hno:¬ l[i]=l2[i]→¬ l=l2:=fun h e=>h (by subst e; rfl)
    have hyes:l[i]=l2[i]→∀ k,k<i+1→l[k]?=l2[k]?:=fun h k hk=>by
     by_cases e:k=i
     ·subst e; rw [zqF hlt,zqF hlt2,h]
     ·exact hall k (by omega)
    rw [gw_iff] at hno hyes
    simp [f0,f1,f5,hlt,hlt2,w1,GW.cls,hv]
    exact ⟨fun h=>hno fun e=>h e.1,fun h1=>⟨fun h=>hno fun e=>h e.2.1,fun h2=>⟨fun h3=>hyes ⟨h1,h2,h3⟩,fun h=>hno fun e=>h e.2.2⟩⟩⟩
   ·have he:i=l.length:=by omega
    subst he
    have:l=l2:=List.ext_getElem? fun k=>by
     by_cases hk:k<l.length
     ·exact hall k hk
     ·rw [List.getElem?_eq_none (by omega),List.getElem?_eq_none (by omega)]
    simp [f0,f1,f5,this]
  ·simp
 ·have hi:¬ (l.length:Int)=(l2.length:Int):=by omega
  have hne:¬ l=l2:=fun e=>hlen (by rw [e])
  simp [c37,hi,hne]
theorem callSame10 (l l2:List GW) (hl:l.length≤10000000000) (hs:∀ x∈l,GV.sizes x.args≤10000000000) (bs:Nat) (σ:Heap):callT T 37 [.isl (l.map GW.enc) false,.isl (l2.map GW.enc) false] bs σ=some (.bool (sym (decide (l=l2))),σ):=
 call_clean rfl rfl rfl (by simp) (same10_ok l l2 hl hs)
theorem same15_ok (a b:GF) (hs:SzF a):pureT T c19 [a.enc,b.enc]=some (.bool (decide (a=b))):=by
 have hv:=callSame10 a.rows b.rows (by have:=hs.len; omega) fun x hx=>by have:=(hs.rows x hx).args; omega
 have hd:decide (a=b)=decide (a.frm=b.frm∧a.to=b.to∧a.start=b.start∧a.seq=b.seq∧a.rows=b.rows):=decide_eq_decide.2 (gf_iff a b)
 rw [hd]
 apply pure_enter (by simp [c19])
 simp [c19,GF.enc_eq,hv,setRun]
 repeat' (first | apply And.intro | intro _)
 all_goals first | (simp_all; done) | grind
theorem callSame15 (a b:GF) (hs:SzF a) (bs:Nat) (σ:Heap):callT T 19 [a.enc,b.enc] bs σ=some (.bool (sym (decide (a=b))),σ):=call_clean rfl rfl rfl (by simp) (same15_ok a b hs)
theorem awake15_ev:evalFn T 300 10 [] 0 []=some (.bool true,[]):=by kernel_rfl
theorem awake15_ok:pureT T c10 []=some (.bool true):=pureT_of_call rfl rfl rfl rfl (callT_of_eval awake15_ev)
theorem callAwake15 (bs:Nat) (σ:Heap):callT T 10 [] bs σ=some (.bool true,σ):=call_clean rfl rfl rfl rfl awake15_ok
theorem toV_right:rightV 4 toV=true:=by decide +kernel
theorem nameA:nameOK ⟨#[97]⟩=true:=by decide +kernel
theorem nameBb:nameOK ⟨#[98]⟩=true:=by decide +kernel
theorem bRow_ok (more:List GV) (i:Nat) (y:GRaw):rowOK ⟨#[98]⟩ (bRow more i (rowX y))=true:=by
 have h1:nameOK (factR y).name=true:=by
  have:=rel_OK y
  simp only [relOK,zqL] at this
  exact this.1.1
 have h2:=fargs_len y
 obtain ⟨a1,a2,_⟩:=rel_arity y
 have h3:∀ v∈(factR y).args,rightV 4 v=true:=fun v hv=>by
  obtain ⟨i,_,rfl⟩:=List.mem_map.1 hv
  exact fargR_R y i
 have h4:nearB (pickN y.n3 9:Int)=true:=by rw [nearB_iff]; have:=pickN_lt (c:=y.n3) (n:=9) (by omega); omega
 obtain ⟨E,hE,hEl,hEr⟩:∃ E,(bRow more i (rowX y)).args=toV :: ((factR y).args.drop 1++E)∧E.length≤1∧∀ v∈E,rightV 4 v=true:=by
  cases hm:more[i]? with
  | none=>exact ⟨[],by simp [bRow,rowX,hm],by simp,by simp⟩
  | some w=>exact ⟨[fit w],by simp [bRow,rowX,hm],by simp,fun v hv=>by simp at hv; rw [hv]; exact fit_right w⟩
 have h7:((bRow more i (rowX y)).args).all (rightV 4)=true:=by
  rw [zqQ]; intro v hv
  rw [hE] at hv
  rcases List.mem_cons.1 hv with rfl | hv
  ·exact toV_right
  ·rcases List.mem_append.1 hv with hv | hv
   ·exact h3 v (List.mem_of_mem_drop hv)
   ·exact hEr v hv
 have h8:(bRow more i (rowX y)).args.length≤8∧1≤(bRow more i (rowX y)).args.length:=by
  rw [hE]; simp only [zqU,zqJ,List.length_drop]; omega
 have h9:headB ⟨#[98]⟩ (bRow more i (rowX y)).args=true:=by simp [bRow,headB,toV,GV.kind,GV.text]
 simp only [rowOK,zqL,decide_eq_true_eq]
 exact ⟨⟨⟨⟨⟨h1,h8.2⟩,h8.1⟩,h4⟩,h7⟩,h9⟩
theorem batch_good {more:List GV} {facts:List GRaw} (hms:GV.sizes more≤1048576) {K:List GW} (k1:UpW K) (k2:∀ x∈K,x∈bRows more (rowsX facts) (rowsX facts).length) (k3:K.length≤(rowsX facts).length) (s1 s2:Nat) (h1:s1<1099511627777) (h2:s2<1099511627777) :
  FOk ⟨⟨#[97]⟩,⟨#[98]⟩,s1,s2,K⟩∧SzF ⟨⟨#[97]⟩,⟨#[98]⟩,s1,s2,K⟩∧(layB ⟨⟨#[97]⟩,⟨#[98]⟩,s1,s2,K⟩).length≤12000000:=by
 have hrl:(rowsX facts).length≤40:=by simp [rowsX]; omega
 have hrow:∀ x∈K,rowOK ⟨#[98]⟩ x=true:=fun x hx=>by
  obtain ⟨k,hk,rfl⟩:=bRows_mem (Nat.le_refl _) (k2 x hx)
  obtain ⟨y,hy⟩:∃ y,(rowsX facts)[k]=rowX y:=⟨(facts.take 40)[k]'(by simpa [rowsX] using hk),by simp [rowsX]⟩
  rw [hy]; exact bRow_ok more k y
 have hF:FOk ⟨⟨#[97]⟩,⟨#[98]⟩,s1,s2,K⟩:=by
  refine ⟨nameA,nameBb,(by decide:(⟨#[97]⟩:ByteArray)≠⟨#[98]⟩),(nearB_iff _).2 ⟨by show (0:Int)≤s1; omega,by show (s1:Int)≤_; omega⟩,(nearB_iff _).2 ⟨by show (0:Int)≤s2; omega,by show (s2:Int)≤_; omega⟩,by show K.length≤400; omega,fun k hk x hx=>⟨hrow x (zqR hx),?_⟩⟩
  by_cases h0:k=0
  ·exact .inl h0
  ·refine .inr fun y hy=>?_
   have hk':k<K.length:=hk
   have hx':K[k]?=some x:=hx
   have hy':K[k - 1]?=some y:=hy
   rw [zqF hk'] at hx'; injection hx' with hx'
   rw [zqF (by omega)] at hy'; injection hy' with hy'
   rw [←hx',←hy']
   exact List.pairwise_iff_getElem.1 k1 (k - 1) k (by omega) hk' (by omega)
 have hnd:K.Nodup:=by
  refine List.Pairwise.imp (fun {a b} h=>?_) k1
  rintro rfl
  have:=cmpW_self a; omega
 have hz1:=sizesW_sub hnd k2
 have hz2:=bRows_size more facts (rowsX facts).length (Nat.le_refl _)
 have hz3:=sizes_take_le more (rowsX facts).length
 have hz:sizesW K≤5243840:=by omega
 have hS:SzF ⟨⟨#[97]⟩,⟨#[98]⟩,s1,s2,K⟩:=by
  refine ⟨by show sizesW K≤_; omega,by show (1:Nat)≤_; omega,by show (1:Nat)≤_; omega,by show K.length≤_; omega,fun x hx=>⟨?_,?_⟩⟩
  ·have:=(hF.name hx).2.1; omega
  ·have:=sizesW_mem (l:=K) hx; omega
 refine ⟨hF,hS,?_⟩
 have l1:=preB_len hF
 have l2:=rowsB_len K fun x hx=>(hF.name hx).2.1
 have l3:(layB ⟨⟨#[97]⟩,⟨#[98]⟩,s1,s2,K⟩).length=(bodyB ⟨⟨#[97]⟩,⟨#[98]⟩,s1,s2,K⟩).length+4:=by simp [layB]
 rw [l3,bodyB_eq,zqJ]
 simp only
 omega
theorem callBatch {facts:List GRaw} (hx:FactsOk facts) {more:List GV} (hm:GV.oks more) (hms:GV.sizes more≤1048576) {start seq:Int} (h1:GV.i64ok start) (h2:GV.i64ok seq) :
  ∃ b:GF,FOk b∧SzF b∧(layB b).length≤12000000∧b.frm=⟨#[97]⟩∧b.to=⟨#[98]⟩∧b.rows.length≤40∧pureT T c15 [.isl (facts.map GRaw.enc) false,.isl (GV.encs more) false,.int .i64 start,.int .i64 seq]=some b.enc ∧
   ∀ bs σ,callT T 15 [.isl (facts.map GRaw.enc) false,.isl (GV.encs more) false,.int .i64 start,.int .i64 seq] bs σ=some (b.enc,σ):=by
 obtain ⟨K,k1,k2,k3,k4⟩:=batch_ok facts hx more hm hms start seq h1 h2
 obtain ⟨g1,g2,g3⟩:=batch_good hms k1 k2 k3 (pickN start 1099511627777) (pickN seq 1099511627777) (pickN_lt (by omega)) (pickN_lt (by omega))
 exact ⟨_,g1,g2,g3,rfl,rfl,by show K.length≤40; have:(rowsX facts).length≤40:=by {simp [rowsX]; omega}; omega,k4,fun bs σ=>call_clean rfl rfl rfl (by simp) k4⟩
theorem callLay {b:GF} (hs:SzF b) (h:FOk b) (bs:Nat) (σ:Heap):callT T 13 [b.enc] bs σ=some (.tup [.str (ba (layB b)),.int .i64 0],σ):=call_clean rfl rfl rfl (by simp) (lay_yes b hs h)
theorem callLayNo {b:GF} (hs:SzF b) (h:¬ FOk b) (bs:Nat) (σ:Heap):callT T 13 [b.enc] bs σ=some (.tup [.str ⟨#[]⟩,.int .i64 1],σ):=call_clean rfl rfl rfl (by simp) (lay_no b hs h)
theorem callTake (s:List UInt8) (hs:s.length≤16000000) (bs:Nat) (σ:Heap):callT T 17 [.str (ba s)] bs σ=some (takeO s,σ):=by
 have h:=take17_ok s hs
 exact call_clean rfl rfl rfl rfl h
open Go.Mach
theorem takeO_lay {b:GF} (h:FOk b):takeO (layB b)=.tup [b.enc,.int .i64 0]:=by
 have hb:bodyT (layB b,false)=(b,(nbB 4 ((sumL (bodyB b)).toNat:Int),false)):=bodyT_ok h _
 have:=takeO_yes (s:=layB b) (by rw [hb]; exact ⟨rfl,by simp,h,rfl⟩)
 rw [this,hb]
theorem takeO_cases (s:List UInt8) (hs:s.length≤16000000):takeO s=.tup [zeroF.enc,.int .i64 150]∨∃ b,FOk b∧SzF b∧layB b=s∧takeO s=.tup [b.enc,.int .i64 0]:=by
 by_cases h:(bodyT (s,false)).2.2=false∧(bodyT (s,false)).2.1.length=4∧FOk (bodyT (s,false)).1∧layB (bodyT (s,false)).1=s
 ·exact .inr ⟨_,h.2.2.1,bodyT_good (s,false) h.1 hs,h.2.2.2,takeO_yes h⟩
 ·exact .inl (takeO_no h)
theorem lay_prefix {b c:GF} (hb:FOk b) (hc:FOk c) {r:List UInt8} (h:layB b=layB c++r):r=[]:=by
 have h1:bodyT (layB b,false)=(b,(nbB 4 ((sumL (bodyB b)).toNat:Int),false)):=bodyT_ok hb _
 have h2:bodyT (layB c++r,false)=(c,(nbB 4 ((sumL (bodyB c)).toNat:Int)++r,false)):=by
  have:=bodyT_ok hc (nbB 4 ((sumL (bodyB c)).toNat:Int)++r)
  rw [←zqP] at this; exact this
 rw [h,h2] at h1
 have:=congrArg (fun x=>x.2.1.length) h1
 simp at this
 exact this
theorem lay_inj {b c:GF} (hb:FOk b) (hc:FOk c) (h:layB b=layB c):b=c:=by
 have h1:bodyT (layB b,false)=(b,(nbB 4 ((sumL (bodyB b)).toNat:Int),false)):=bodyT_ok hb _
 have h2:bodyT (layB c,false)=(c,(nbB 4 ((sumL (bodyB c)).toNat:Int),false)):=bodyT_ok hc _
 rw [h,h2] at h1
 exact (congrArg Prod.fst h1).symm
theorem nbB4_inj {v w:Nat} (hv:v<4294967296) (hw:w<4294967296) (h:nbB 4 (v:Int)=nbB 4 (w:Int)):v=w:=by
 have e:∀ u:Int,nbB 4 u=[byteI (u / 256 / 256 / 256),byteI (u / 256 / 256),byteI (u / 256),byteI u]:=fun u=>by simp [nbB]
 rw [e,e] at h
 simp only [List.cons.injEq,and_true] at h
 obtain ⟨h1,h2,h3,h4⟩:=h
 have k1:=congrArg (fun x:UInt8=>(x.toNat:Int)) h1
 have k2:=congrArg (fun x:UInt8=>(x.toNat:Int)) h2
 have k3:=congrArg (fun x:UInt8=>(x.toNat:Int)) h3
 have k4:=congrArg (fun x:UInt8=>(x.toNat:Int)) h4
 simp only [byteI_nat] at k1 k2 k3 k4
 omega
theorem layB_len (b:GF):(layB b).length=(bodyB b).length+4:=by simp [layB]
theorem lay_changed {b c:GF} (hb:FOk b) (hc:FOk c) {k:Nat} (hk:k<(layB b).length) {v:UInt8} (hv:(layB b)[k]≠v):layB c≠(layB b).set k v:=by
 intro h
 have hlen:=congrArg List.length h
 rw [List.length_set,layB_len,layB_len] at hlen
 have hbl:(bodyB c).length=(bodyB b).length:=by omega
 have s1:(sumL (bodyB b)).toNat<4294967296:=(sumL (bodyB b)).isLt
 have s2:(sumL (bodyB c)).toNat<4294967296:=(sumL (bodyB c)).isLt
 rw [layB_len] at hk
 by_cases hkb:k<(bodyB b).length
 ·have e1:(layB b).set k v=(bodyB b).set k v++nbB 4 ((sumL (bodyB b)).toNat:Int):=by
   unfold layB; rw [List.set_append_left _ _ hkb]
  rw [e1] at h
  obtain ⟨h1,h2⟩:=List.append_inj h (by simpa using hbl)
  have h3:=nbB4_inj s2 s1 h2
  have h4:sumL (bodyB c)=sumL (bodyB b):=BitVec.eq_of_toNat_eq h3
  rw [h1] at h4
  refine sum_set hkb ?_ h4
  have:(layB b)[k]'(by rw [layB_len]; omega)=(bodyB b)[k]:=by simp [layB,List.getElem_append_left hkb]
  rw [←this]; exact hv
 ·have e1:(layB b).set k v=bodyB b++(nbB 4 ((sumL (bodyB b)).toNat:Int)).set (k - (bodyB b).length) v:=by
   unfold layB; rw [List.set_append_right _ _ (by omega)]
  rw [e1] at h
  obtain ⟨h1,h2⟩:=List.append_inj h (by simpa using hbl)
  rw [h1] at h2
  have hk4:k - (bodyB b).length<4:=by omega
  have:(nbB 4 ((sumL (bodyB b)).toNat:Int))[k - (bodyB b).length]'(by simp; omega)=v:=by
   have:(nbB 4 ((sumL (bodyB b)).toNat:Int))[k - (bodyB b).length]?=((nbB 4 ((sumL (bodyB b)).toNat:Int)).set (k - (bodyB b).length) v)[k - (bodyB b).length]?:=by rw [←h2]
   rw [zqF (by simp; omega),List.getElem?_set_self (by simp; omega)] at this
   injection this
  apply hv
  rw [←this]
  simp [layB,List.getElem_append_right (Nat.le_of_not_lt hkb)]
theorem back_law (facts:List GRaw) (hx:FactsOk facts) (more:List GV) (hm:GV.oks more) (hms:GV.sizes more≤1048576) (start seq:Int) (h1:GV.i64ok start) (h2:GV.i64ok seq) :
  pureT T c5 [.isl (facts.map GRaw.enc) false,.isl (GV.encs more) false,.int .i64 start,.int .i64 seq]=some (.bool true):=by
 obtain ⟨b,f1,f2,f3,f4,f5,f6,f7,f8⟩:=callBatch hx hm hms h1 h2
 have hlay:=callLay f2 f1
 have htk:=callTake (layB b) (by omega)
 rw [takeO_lay f1] at htk
 have hsame:∀ bs σ,callT T 19 [b.enc,b.enc] bs σ=some (.bool true,σ):=fun bs σ=>by
  have:=callSame15 b b f2 bs σ
  simpa using this
 apply pure_enter (by simp [c5])
 rw [GF.enc_eq] at f8 hlay htk hsame
 simp [c5,callAwake15,f8,GF.enc_eq,setRun,hlay,htk,hsame]
theorem apart_law (one two:List GRaw) (hx:FactsOk one) (hy:FactsOk two) (a0 a1 b0 b1:Int) (h0:GV.i64ok a0) (h1:GV.i64ok a1) (h2:GV.i64ok b0) (h3:GV.i64ok b1) :
  pureT T c8 [.isl (one.map GRaw.enc) false,.isl (two.map GRaw.enc) false,.agg [.int .i64 a0,.int .i64 a1],.agg [.int .i64 b0,.int .i64 b1]]=some (.bool true):=by
 obtain ⟨b,f1,f2,f3,f4,f5,f6,f7,f8⟩:=callBatch hx (more:=[]) (by simp [GV.oks]) (by simp [GV.sizes]) h0 h1
 obtain ⟨c,g1,g2,g3,g4,g5,g6,g7,g8⟩:=callBatch hy (more:=[]) (by simp [GV.oks]) (by simp [GV.sizes]) h2 h3
 have fb:∀ bs σ,callT T 15 [.isl (one.map GRaw.enc) false,.isl [] true,.int .i64 a0,.int .i64 a1] bs σ=some (b.enc,σ):=fun bs σ=>call_data rfl rfl rfl f7 rfl rfl rfl
 have gb:∀ bs σ,callT T 15 [.isl (two.map GRaw.enc) false,.isl [] true,.int .i64 b0,.int .i64 b1] bs σ=some (c.enc,σ):=fun bs σ=>call_data rfl rfl rfl g7 rfl rfl rfl
 have l1:=callLay f2 f1
 have l2:=callLay g2 g1
 have hsame:=callSame15 b c f2
 have hiff:ba (layB b)=ba (layB c)↔b=c:=by rw [ba_inj]; exact ⟨lay_inj f1 g1,fun h=>by rw [h]⟩
 apply pure_enter (by simp [c8])
 by_cases e:b=c
 ·subst e
  have hsame':∀ bs σ,callT T 19 [b.enc,b.enc] bs σ=some (.bool true,σ):=fun bs σ=>by
   have:=hsame bs σ
   simpa using this
  rw [GF.enc_eq] at fb gb l1 l2 hsame'
  simp [c8,callAwake15,fb,gb,setRun,GF.enc_eq,l1,l2,hsame']
 ·have e2:¬ ba (layB b)=ba (layB c):=fun h=>e (hiff.1 h)
  have hsame':∀ bs σ,callT T 19 [b.enc,c.enc] bs σ=some (.bool false,σ):=fun bs σ=>by
   have:=hsame bs σ
   simpa [e] using this
  rw [GF.enc_eq,GF.enc_eq] at hsame'
  rw [GF.enc_eq] at fb gb l1 l2
  simp [c8,callAwake15,fb,gb,setRun,GF.enc_eq,l1,l2,hsame',e2]
open Go.Mach
theorem layB_pos (b:GF):4≤(layB b).length:=by rw [layB_len]; omega
theorem xor_byte (b0:UInt8) (d:Nat) (h1:1≤d) (h2:d≤255):∃ b1:UInt8,b0≠b1∧IntKind.u8.wrap (xorI .u8 (b0.toNat:Int) (d:Int))=((b1.toNat:Nat):Int):=by
 have hb0lt:=b0.toNat_lt
 have hx2:b0.toNat ^^^ d<256:=Nat.xor_lt_two_pow (n:=8) (by omega) (by omega)
 refine ⟨UInt8.ofNat (b0.toNat ^^^ d),fun e=>?_,?_⟩
 ·have h1:=congrArg UInt8.toNat e
  rw [UInt8.toNat_ofNat',Nat.mod_eq_of_lt hx2] at h1
  have h2:b0.toNat ^^^ b0.toNat=b0.toNat ^^^ (b0.toNat ^^^ d):=by rw [←h1]
  rw [←Nat.xor_assoc,Nat.xor_self,Nat.zero_xor] at h2
  omega
 ·rw [xorI_nat .u8 (by simp; omega) (by simp; omega),wru8 (by omega) (by omega),UInt8.toNat_ofNat',Nat.mod_eq_of_lt hx2]
theorem takeO_none {s:List UInt8} (hs:s.length≤16000000) (h:∀ c,FOk c→layB c≠s):takeO s=.tup [zeroF.enc,.int .i64 150]:=by
 rcases takeO_cases s hs with h1 | ⟨b,h1,h2,h3,h4⟩
 ·exact h1
 ·exact absurd h3 (h b h1)
theorem changed_law (facts:List GRaw) (hx:FactsOk facts) (more:List GV) (hm:GV.oks more) (hms:GV.sizes more≤1048576) (at':Int) (h1:GV.i64ok at') (c:UInt8) :
  pureT T c7 [.isl (facts.map GRaw.enc) false,.isl (GV.encs more) false,.int .i64 at',.int .u8 (c.toNat:Int)]=some (.bool true):=by
 obtain ⟨b,f1,f2,f3,f4,f5,f6,f7,f8⟩:=callBatch hx hm hms h1 h1
 have hlay:=callLay f2 f1
 have hpos:=layB_pos b
 obtain ⟨l,hl⟩:∃ l,l=layB b:=⟨_,rfl⟩
 have hch:=fun (k:Nat) (hk:k<(layB b).length) (v:UInt8) hv c hc=>lay_changed (c:=c) f1 hc hk (v:=v) hv
 have hpre:=fun c hc (r:List UInt8) h=>lay_prefix (c:=c) (r:=r) f1 hc h
 have hpre2:=fun c hc (r:List UInt8) h=>lay_prefix (b:=c) (c:=b) (r:=r) hc f1 h
 rw [←hl] at hlay hpos f3
 have hpk:=pick15 at' l.length (by omega) h1
 have hk:=pickN_lt (c:=at') (n:=l.length) (by omega)
 generalize pickN at' l.length=k at *
 have hc:=c.toNat_lt
 obtain ⟨d,hd1,hd2,hd3⟩:∃ d:Nat,1≤d∧d≤255∧IntKind.u8.wrap (1+((c.toNat:Int)).tmod 255)=(d:Int):=
  ⟨1+c.toNat % 255,by omega,by omega,by
   have:((c.toNat:Int)).tmod 255=((c.toNat % 255:Nat):Int):=rfl
   rw [this,wru8 (by omega) (by omega)]; omega⟩
 obtain ⟨b1,hne,hx3⟩:=xor_byte (l[k]) d hd1 hd2
 have t1:takeO (l.set k b1)=.tup [zeroF.enc,.int .i64 150]:=takeO_none (by simp; omega) fun c hc=>by
  subst hl; exact hch k hk b1 hne c hc
 have t2:takeO (l.take k)=.tup [zeroF.enc,.int .i64 150]:=takeO_none (by simp; omega) fun c hc h=>by
  have:=hpre c hc (l.drop k) (by rw [h,←hl,List.take_append_drop])
  have:=congrArg List.length this
  simp at this; omega
 have t3:takeO (l++[c])=.tup [zeroF.enc,.int .i64 150]:=takeO_none (by simp; omega) fun c' hc h=>by
  have:=hpre2 c' hc [c] (by rw [h,←hl])
  cases this
 have c1:=callTake (l.set k b1) (by simp; omega)
 have c2:=callTake (l.take k) (by simp; omega)
 have c3:=callTake (l++[c]) (by simp; omega)
 rw [t1] at c1
 rw [t2] at c2
 rw [t3] at c3
 have hu:u8s (ba l)=bv l:=by rw [u8s_bv]; show bv (bl (ba l))=_; rw [bl_ba]
 have hw:=bv_win hk
 have hset:(bv l).set k (.int .u8 (b1.toNat:Int))=bv (l.set k b1):=bv_set l k b1
 have hne0:¬ ba l=⟨#[]⟩:=fun e=>by
  have h:=congrArg ByteArray.size e
  rw [baF_size] at h
  have h0:(⟨#[]⟩:ByteArray).size=0:=rfl
  omega
 apply pure_enter (by simp [c7])
 rw [GF.enc_eq] at f8 hlay
 have hz:zeroF.enc=.agg [.str ⟨#[]⟩,.str ⟨#[]⟩,.int .i64 0,.int .i64 0,.isl [] false]:=rfl
 rw [hz] at c1 c2 c3
 have hk1:k+1≤l.length:=hk
 have hk0:k≤l.length:=Nat.le_of_lt hk
 have hap:ba l++⟨#[c]⟩=ba (l++[c]):=ba_append l [c]
 have hle:(l.length:Int)+1≤9223372036854775807:=by omega
 have hcz:(⟨#[c]⟩:ByteArray).size=1:=rfl
 have hb2:∀ A:Heap,b2sV (A++[.cells [.int .u8 (c.toNat:Int)] 0 false]) (.sl A.length 0 1 1 false)=some (.str ⟨#[c]⟩):=fun A=>b2s_bv (l:=[c]) (fz:=0) (ext:=false) (by simp [bv]) rfl
 have hb23:=hb2 [.cells (bv (l.set k b1)) 0 true,.cells [.str ⟨#[]⟩,.str ⟨#[]⟩,.int .i64 0,.int .i64 0,.isl [] false] 0 false,.cells [.str ⟨#[]⟩,.str ⟨#[]⟩,.int .i64 0,.int .i64 0,.isl [] false] 0 false]
 simp only [List.cons_append,List.nil_append,zqU,List.length_nil] at hb23
 have hb1:b2sV [.cells (bv (l.set k b1)) 0 true] (.sl 0 0 l.length 1 false)=some (.str (ba (l.set k b1))):=b2s_bv (σ:=[.cells (bv (l.set k b1)) 0 true]) (id:=0) (l:=l.set k b1) (fz:=0) (ext:=true) (n:=l.length) rfl (by simp)
 simp [c7,callAwake15,f8,setRun,hlay,hne0,hpk,hu,hk,hw,hd3,hx3,hset,hb1,hk1,hk0,c1,c2,ba_extract,hb23,hcz,hle,hap,c3]
open Go.Mach
theorem sum4 (S:Nat) (hS:S<4294967296):nbB 4 (S:Int)=[byteI ((S:Int) / 16777216),byteI ((S:Int) / 65536),byteI ((S:Int) / 256),byteI (S:Int)]:=by
 have e:nbB 4 (S:Int)=[byteI ((S:Int) / 256 / 256 / 256),byteI ((S:Int) / 256 / 256),byteI ((S:Int) / 256),byteI (S:Int)]:=by simp [nbB]
 rw [e,show (S:Int) / 256 / 256 / 256=(S:Int) / 16777216 by omega,show (S:Int) / 256 / 256=(S:Int) / 65536 by omega]
theorem same0 (bs:Nat) (σ:Heap):callT T 19 [zeroF.enc,.agg [.str ⟨#[]⟩,.str ⟨#[]⟩,.int .i64 0,.int .i64 0,.isl [] true]] bs σ=some (.bool true,σ):=by
 have h:=same15_ok zeroF zeroF ⟨by show (0:Nat)≤_; omega,by show (0:Nat)≤_; omega,by show (0:Nat)≤_; omega,by show (0:Nat)≤_; omega,fun x hx=>by cases hx⟩
 have h':pureT T c19 [zeroF.enc,zeroF.enc]=some (.bool true):=by simpa using h
 exact call_scal rfl rfl rfl h' rfl (by simp) rfl
theorem forth_law (s:ByteArray) (hs:s.size≤1048576) (facts:List GRaw) (hx:FactsOk facts) (more:List GV) (hm:GV.oks more) (hms:GV.sizes more≤1048576) (at':Int) (h1:GV.i64ok at') (by':ByteArray) (hb:by'.size≤1048576) :
  pureT T c6 [.str s,.isl (facts.map GRaw.enc) false,.isl (GV.encs more) false,.int .i64 at',.str by']=some (.bool true):=by
 obtain ⟨b,f1,f2,f3,f4,f5,f6,f7,f8⟩:=callBatch (start:=3) (seq:=4) hx hm hms ⟨by omega,by omega⟩ ⟨by omega,by omega⟩
 have hlay:=callLay f2 f1
 have hpos:=layB_pos b
 have hpos5:5≤(layB b).length:=by
  rw [layB_len,bodyB_eq]; simp [preB,textB]
 obtain ⟨l,hl⟩:∃ l,l=layB b:=⟨_,rfl⟩
 rw [←hl] at hlay hpos f3 hpos5
 have hw4:IntKind.i64.wrap ((l.length:Int) - 4)=((l.length - 4:Nat):Int):=by rw [wr64 (by omega) (by omega)]; omega
 have hpk:=pick15 at' (l.length - 4) (by omega) h1
 have hk:=pickN_lt (c:=at') (n:=l.length - 4) (by omega)
 generalize pickN at' (l.length - 4)=k at *
 obtain ⟨y,hy⟩:∃ y:List UInt8,y=bl by':=⟨_,rfl⟩
 have hby:by'=ba y:=by rw [hy,ba_bl]
 have hyl:y.length≤1048576:=by rw [hy,bl_len]; exact hb
 subst hby
 obtain ⟨S,hS⟩:∃ S:List UInt8,S=bl s:=⟨_,rfl⟩
 have hss:s=ba S:=by rw [hS,ba_bl]
 have hSl:S.length≤1048576:=by rw [hS,bl_len]; exact hs
 subst hss
 obtain ⟨m,hm1,hm2,hm3⟩:∃ m:Nat,(if ((l.length - 4:Nat):Int)<(k:Int)+(y.length:Int) then ((l.length - 4:Nat):Int) else (k:Int)+(y.length:Int))=(m:Int)∧k≤m∧m≤l.length - 4:=by
  split
  ·exact ⟨l.length - 4,rfl,by omega,Nat.le_refl _⟩
  ·exact ⟨k+y.length,by omega,by omega,by omega⟩
 have hw1:IntKind.i64.wrap ((k:Int)+(y.length:Int))=(k:Int)+(y.length:Int):=wr64 (by omega) (by omega)
 have hne0:¬ (l.length:Int)<4:=by omega
 have hk0:k≤l.length:=by omega
 have hle1:(k:Int)+(y.length:Int)≤9223372036854775807:=by omega
 obtain ⟨B,hB⟩:∃ B:List UInt8,B=l.take k++(y++(l.take (l.length - 4)).drop m):=⟨_,rfl⟩
 have hBl:B.length≤14000000:=by rw [hB]; simp; omega
 have hle2:(k:Int)+(y.length:Int)+((l.length - 4 - m:Nat):Int)≤9223372036854775807:=by omega
 have hsum:=callSum B (by omega)
 obtain ⟨u,hu⟩:∃ u:Nat,u=(sumL B).toNat:=⟨_,rfl⟩
 have hul:u<4294967296:=by rw [hu]; exact (sumL B).isLt
 rw [←hu] at hsum
 have h4:=sum4 u hul
 have hcells:bv (nbB 4 (u:Int))=[.int .u8 ((byteI ((u:Int) / 16777216)).toNat:Int),.int .u8 ((byteI ((u:Int) / 65536)).toNat:Int),.int .u8 ((byteI ((u:Int) / 256)).toNat:Int),.int .u8 ((byteI (u:Int)).toNat:Int)]:=by rw [h4]; rfl
 have hb4:b2sV [.cells (bv (nbB 4 (u:Int))) 0 false] (.sl 0 0 4 1 false)=some (.str (ba (nbB 4 (u:Int)))):=b2s_bv rfl (by simp)
 rw [hcells] at hb4
 have hle3:(B.length:Int)+4≤9223372036854775807:=by omega
 obtain ⟨t2,ht2⟩:∃ t2:List UInt8,t2=B++nbB 4 (u:Int):=⟨_,rfl⟩
 have ht2l:t2.length≤16000000:=by rw [ht2]; simp; omega
 have hd1:(u:Int).fdiv 16777216=(u:Int) / 16777216:=Int.fdiv_eq_ediv_of_nonneg _ (by omega)
 have hd2:(u:Int).fdiv 65536=(u:Int) / 65536:=Int.fdiv_eq_ediv_of_nonneg _ (by omega)
 have hd3:(u:Int).fdiv 256=(u:Int) / 256:=Int.fdiv_eq_ediv_of_nonneg _ (by omega)
 rw [GF.enc_eq] at f8 hlay
 apply pure_enter (by simp [c6])
 simp [c6,callAwake15,f8,setRun,hlay,hne0,hw4,hpk,hk0,ba_extract,ba_append,hle1,hw1,hm1,hm3,hle2,←hB,hsum,wru8_byte,hd1,hd2,hd3,hb4,hle3,←ht2]
 refine W_for T 0 118 2 (fun i f τ=>f 84=.sl 1 0 2 1 false∧f 85=.int .i64 2∧f 86=.int .i64 (i:Int)∧∃ A J,τ=A :: .cells [.str (ba S),.str (ba t2)] 0 false :: J) ?_ _ _ ?_
 ·rintro i f τ hi ⟨f84,f85,f86,A,J,rfl⟩
  by_cases hlt:i<2
  ·have w1:IntKind.i64.wrap ((i:Int)+1)=(i:Int)+1:=wr64 (by omega) (by omega)
   have hi2:(i:Int)<2:=by omega
   obtain ⟨t,htl,hget⟩:∃ t:List UInt8,t.length≤16000000∧window [AV.str (ba S),.str (ba t2)] i 1=some [.str (ba t)]:=by
    match i,hlt with
    | 0,_=>exact ⟨S,by omega,rfl⟩
    | 1,_=>exact ⟨t2,ht2l,rfl⟩
   have ct:=callTake t htl
   have hz:zeroF.enc=.agg [.str ⟨#[]⟩,.str ⟨#[]⟩,.int .i64 0,.int .i64 0,.isl [] false]:=rfl
   rcases takeO_cases t htl with e | ⟨c,c1,c2,c3,e⟩
   ·rw [e,hz] at ct
    have hs0:=same0
    rw [hz] at hs0
    simp [f84,f85,f86,hi2,hlt,w1,hget,ct,setRun,hs0]
    done
   ·rw [e,GF.enc_eq] at ct
    have hlc:=callLay c2 c1
    rw [c3,GF.enc_eq] at hlc
    simp [f84,f85,f86,hi2,hlt,w1,hget,ct,setRun,hlc]
    done
  ·have he:i=2:=by omega
   subst he
   simp [f84,f85,f86]
 ·simp
  done
open Go.Mach
noncomputable def layO (b:GF):AV:=if fokB b=true then .tup [.str (ba (layB b)),.int .i64 0] else .tup [.str ⟨#[]⟩,.int .i64 1]
theorem callLayO {b:GF} (hs:SzF b) (bs:Nat) (σ:Heap):callT T 13 [b.enc] bs σ=some (layO b,σ):=by
 unfold layO
 by_cases h:FOk b
 ·rw [if_pos (fokB_t.2 h)]; exact callLay hs h bs σ
 ·rw [fokB_f h]; exact callLayNo hs h bs σ
theorem callRLayO {b:GF} (hs:SzF b) (bs:Nat) (σ:Heap):callT T 14 [b.enc] bs σ=some (layO b,σ):=by
 unfold layO
 by_cases h:FOk b
 ·rw [if_pos (fokB_t.2 h)]; exact call_clean rfl rfl rfl (by simp) (rlay_yes b hs h)
 ·rw [fokB_f h]; exact call_clean rfl rfl rfl (by simp) (rlay_no b hs h)
theorem layO_eq (b:GF):∃ (t:ByteArray) (e:Int),layO b=.tup [.str t,.int .i64 e]:=by
 unfold layO; split
 ·exact ⟨_,_,rfl⟩
 ·exact ⟨_,_,rfl⟩
theorem callRTake (s:List UInt8) (hs:s.length≤16000000) (bs:Nat) (σ:Heap):callT T 18 [.str (ba s)] bs σ=some (takeO s,σ):=call_clean rfl rfl rfl rfl (take18_ok s hs)
theorem takeO_eq (s:List UInt8) (hs:s.length≤16000000):∃ (b:GF) (e:Int),takeO s=.tup [b.enc,.int .i64 e]∧SzF b:=by
 rcases takeO_cases s hs with h | ⟨b,h1,h2,h3,h4⟩
 ·exact ⟨zeroF,150,h,⟨by show (0:Nat)≤_; omega,by show (0:Nat)≤_; omega,by show (0:Nat)≤_; omega,by show (0:Nat)≤_; omega,fun x hx=>by cases hx⟩⟩
 ·exact ⟨b,0,h4,h2⟩
theorem tells_law (any:GF) (hz:SzF any) (s:ByteArray) (hs:s.size≤1048576) (facts:List GRaw) (hx:FactsOk facts) (more:List GV) (hm:GV.oks more) (hms:GV.sizes more≤1048576) (start at':Int) (h0:GV.i64ok start) (h1:GV.i64ok at') (by':ByteArray) (hb:by'.size≤1048576) :
  pureT T c4 [any.enc,.str s,.isl (facts.map GRaw.enc) false,.isl (GV.encs more) false,.int .i64 start,.int .i64 at',.str by']=some (.bool true):=by
 obtain ⟨b,f1,f2,f3,f4,f5,f6,f7,f8⟩:=callBatch hx hm hms h0 h0
 have hlay:=callLay f2 f1
 have hrlay:∀ bs σ,callT T 14 [b.enc] bs σ=some (.tup [.str (ba (layB b)),.int .i64 0],σ):=fun bs σ=>call_clean rfl rfl rfl (by simp) (rlay_yes b f2 f1)
 have a1:=callLayO hz
 have a2:=callRLayO hz
 obtain ⟨ta,ea,hae⟩:=layO_eq any
 rw [hae] at a1 a2
 have hpos:=layB_pos b
 obtain ⟨l,hl⟩:∃ l,l=layB b:=⟨_,rfl⟩
 rw [←hl] at hlay hrlay hpos f3
 have hpk:=pick15 at' l.length (by omega) h1
 have hk:=pickN_lt (c:=at') (n:=l.length) (by omega)
 generalize pickN at' l.length=k at *
 obtain ⟨y,hy⟩:∃ y:List UInt8,y=bl by':=⟨_,rfl⟩
 have hby:by'=ba y:=by rw [hy,ba_bl]
 have hyl:y.length≤1048576:=by rw [hy,bl_len]; exact hb
 subst hby
 obtain ⟨S,hS⟩:∃ S:List UInt8,S=bl s:=⟨_,rfl⟩
 have hss:s=ba S:=by rw [hS,ba_bl]
 have hSl:S.length≤1048576:=by rw [hS,bl_len]; exact hs
 subst hss
 have sS1:=callSum S (by omega)
 have sS2:=callRSum S (by omega)
 obtain ⟨m,hm1,hm2,hm3⟩:∃ m:Nat,(if (l.length:Int)<(k:Int)+(y.length:Int) then (l.length:Int) else (k:Int)+(y.length:Int))=(m:Int)∧k≤m∧m≤l.length:=by
  split
  ·exact ⟨l.length,rfl,by omega,Nat.le_refl _⟩
  ·exact ⟨k+y.length,by omega,by omega,by omega⟩
 have hw1:IntKind.i64.wrap ((k:Int)+(y.length:Int))=(k:Int)+(y.length:Int):=wr64 (by omega) (by omega)
 have hk0:k≤l.length:=by omega
 have hle1:(k:Int)+(y.length:Int)≤9223372036854775807:=by omega
 have hle2:(k:Int)+(y.length:Int)+((l.length - m:Nat):Int)≤9223372036854775807:=by omega
 obtain ⟨E,hE⟩:∃ E:List UInt8,E=l.take k++(y++l.drop m):=⟨_,rfl⟩
 have hEl:E.length≤14000000:=by rw [hE]; simp; omega
 have hw2:IntKind.i64.wrap ((E.length:Int) - 4)=(E.length:Int) - 4:=wr64 (by omega) (by omega)
 obtain ⟨q,hq,hq2⟩:∃ q:Nat,(if (E.length:Int) - 4<0 then (0:Int) else (E.length:Int) - 4)=(q:Int)∧q≤E.length:=by
  split
  ·exact ⟨0,rfl,by omega⟩
  ·exact ⟨E.length - 4,by omega,by omega⟩
 obtain ⟨B,hB⟩:∃ B:List UInt8,B=E.take q:=⟨_,rfl⟩
 have hBl:B.length≤14000000:=by rw [hB]; simp; omega
 have hsum:=callRSum B (by omega)
 obtain ⟨u,hu⟩:∃ u:Nat,u=(sumL B).toNat:=⟨_,rfl⟩
 have hul:u<4294967296:=by rw [hu]; exact (sumL B).isLt
 rw [←hu] at hsum
 have h4:=sum4 u hul
 have hcells:bv (nbB 4 (u:Int))=[.int .u8 ((byteI ((u:Int) / 16777216)).toNat:Int),.int .u8 ((byteI ((u:Int) / 65536)).toNat:Int),.int .u8 ((byteI ((u:Int) / 256)).toNat:Int),.int .u8 ((byteI (u:Int)).toNat:Int)]:=by rw [h4]; rfl
 have hb4:b2sV [.cells [.str any.frm,.str any.to,.int .i64 any.start,.int .i64 any.seq,.isl (any.rows.map GW.enc) false] 0 false,.cells [.str b.frm,.str b.to,.int .i64 b.start,.int .i64 b.seq,.isl (b.rows.map GW.enc) false] 0 false,.cells (bv (nbB 4 (u:Int))) 0 false] (.sl 2 0 4 1 false)=some (.str (ba (nbB 4 (u:Int)))):=b2s_bv rfl (by simp)
 rw [hcells] at hb4
 have hle3:(B.length:Int)+4≤9223372036854775807:=by omega
 have hle4:(l.length:Int)+(y.length:Int)≤9223372036854775807:=by omega
 obtain ⟨t2,ht2⟩:∃ t2:List UInt8,t2=B++nbB 4 (u:Int):=⟨_,rfl⟩
 have ht2l:t2.length≤16000000:=by rw [ht2]; simp; omega
 have hd1:(u:Int).fdiv 16777216=(u:Int) / 16777216:=Int.fdiv_eq_ediv_of_nonneg _ (by omega)
 have hd2:(u:Int).fdiv 65536=(u:Int) / 65536:=Int.fdiv_eq_ediv_of_nonneg _ (by omega)
 have hd3:(u:Int).fdiv 256=(u:Int) / 256:=Int.fdiv_eq_ediv_of_nonneg _ (by omega)
 rw [GF.enc_eq] at f8 hlay hrlay a1 a2
 apply pure_enter (by simp [c4])
 simp [c4,callAwake15,f8,setRun,hlay,hrlay,GF.enc_eq,a1,a2,sS1,sS2,hpk,hk0,ba_extract,ba_append,hle1,hw1,hm1,hm3,hle2,←hE,hw2,hq,hq2,←hB,hsum,wru8_byte,hd1,hd2,hd3,hb4,hle3,hle4,←ht2]
 refine W_for T 0 171 6 (fun i f τ=>f 145=.sl 3 0 6 1 false∧f 146=.int .i64 6∧f 147=.int .i64 (i:Int)∧∃ A0 A1 A2 J,τ=A0 :: A1 :: A2 :: .cells [.str (ba S),.str (ba l),.str (ba E),.str (ba (l.take k)),.str (ba (l++y)),.str (ba t2)] 0 false :: J) ?_ _ _ ?_
 ·rintro i f τ hi ⟨f145,f146,f147,A0,A1,A2,J,rfl⟩
  by_cases hlt:i<6
  ·have w1:IntKind.i64.wrap ((i:Int)+1)=(i:Int)+1:=wr64 (by omega) (by omega)
   have hi2:(i:Int)<6:=by omega
   obtain ⟨t,htl,hget⟩:∃ t:List UInt8,t.length≤16000000∧window [AV.str (ba S),.str (ba l),.str (ba E),.str (ba (l.take k)),.str (ba (l++y)),.str (ba t2)] i 1=some [.str (ba t)]:=by
    match i,hlt with
    | 0,_=>exact ⟨S,by omega,rfl⟩
    | 1,_=>exact ⟨l,by omega,rfl⟩
    | 2,_=>exact ⟨E,by omega,rfl⟩
    | 3,_=>exact ⟨l.take k,by simp; omega,rfl⟩
    | 4,_=>exact ⟨l++y,by simp; omega,rfl⟩
    | 5,_=>exact ⟨t2,ht2l,rfl⟩
   have ct:=callTake t htl
   have cr:=callRTake t htl
   obtain ⟨c,e,he,hc⟩:=takeO_eq t htl
   have hsame:∀ bs σ,callT T 19 [c.enc,c.enc] bs σ=some (.bool true,σ):=fun bs σ=>by
    have:=callSame15 c c hc bs σ
    simpa using this
   rw [he] at ct cr
   rw [GF.enc_eq] at ct cr hsame
   simp [f145,f146,f147,hi2,hlt,w1,hget,ct,cr,setRun,hsame]
   done
  ·have he:i=6:=by omega
   subst he
   simp [f145,f146,f147]
 ·simp
  done
open Go.Mach
structure IsFr (P:Program) (tF tWL tW tV tL tI tS:TypeId):Prop where
 fs:∃ fs:Array Field,P.underlying tF=some (.struct fs)∧fs.toList.map (·.type)=[tS,tS,tI,tI,tWL]
 list:P.underlying tWL=some (.slice tW)
 row:∃ fs:Array Field,P.underlying tW=some (.struct fs)∧fs.toList.map (·.type)=[tS,tL,tI]
 val:IsV P tV tL tI tS
theorem asRow {P:Program} {tF tWL tW tV tL tI tS:TypeId} (hT:IsFr P tF tWL tW tV tL tI tS) {x:AV} (h:TyA P tW x):∃ v:GW,x=v.enc∧v.ok:=by
 have e1:IntKind.i64.min=-9223372036854775808:=by decide
 have e2:IntKind.i64.max=9223372036854775807:=by decide
 obtain ⟨fs0,hf0,hts⟩:=hT.row
 obtain ⟨vs,rfl,hl,hv⟩:=h.asStruct hf0
 have hlen:vs.length=3:=by rw [hl,←List.length_map (f:=(·.type)),hts]; rfl
 match vs,hlen with
 | [x0,x1,x2],_=>
  obtain ⟨y0,rfl⟩:=(field_ty hts hv (i:=0) rfl rfl).asStr hT.val.str
  obtain ⟨y1,rfl,p1⟩:=((field_ty hts hv (i:=1) rfl rfl).asValue hT.val).2 rfl
  obtain ⟨y2,rfl,p2,q2⟩:=(field_ty hts hv (i:=2) rfl rfl).asInt hT.val.int
  rw [e1] at p2; rw [e2] at q2
  exact ⟨⟨y0,y1,y2⟩,by simp [GW.enc,GW.cls,flat],p1,p2,q2⟩
theorem argFr {P:Program} {tF tWL tW tV tL tI tS:TypeId} (hT:IsFr P tF tWL tW tV tL tI tS) {x:AV} (h:TyA P tF x) (hb:bulkA x≤1048576):∃ v:GF,x=v.enc∧SzF v:=by
 obtain ⟨fs0,hf0,hts⟩:=hT.fs
 obtain ⟨vs,rfl,hl,hv⟩:=h.asStruct hf0
 have hlen:vs.length=5:=by rw [hl,←List.length_map (f:=(·.type)),hts]; rfl
 match vs,hlen with
 | [x0,x1,x2,x3,x4],_=>
  obtain ⟨y0,rfl⟩:=(field_ty hts hv (i:=0) rfl rfl).asStr hT.val.str
  obtain ⟨y1,rfl⟩:=(field_ty hts hv (i:=1) rfl rfl).asStr hT.val.str
  obtain ⟨y2,rfl,_,_⟩:=(field_ty hts hv (i:=2) rfl rfl).asInt hT.val.int
  obtain ⟨y3,rfl,_,_⟩:=(field_ty hts hv (i:=3) rfl rfl).asInt hT.val.int
  obtain ⟨es,rfl,hes⟩:=(field_ty hts hv (i:=4) rfl rfl).asSlice hT.list
  obtain ⟨l,rfl,hl2⟩:=list_enc GW.enc GW.ok es fun z hz=>asRow hT (hes z hz)
  refine ⟨⟨y0,y1,y2,y3,l⟩,by simp [GF.enc,flat],?_⟩
  have hfl:flat [AV.str y0,.str y1,.int .i64 y2,.int .i64 y3,.isl (l.map GW.enc) false]=[AV.str y0,.str y1,.int .i64 y2,.int .i64 y3,.isl (l.map GW.enc) false]:=by simp [flat]
  rw [hfl] at hb
  simp only [bulkA,bulkAs] at hb
  have hw:∀ x:GW,bulkA x.enc=x.name.size+GV.sizes x.args+4:=fun x=>by
   simp only [GW.enc,GW.cls,bulkA,bulkAs,GV.bulk_encs]; omega
  have hrow:∀ x∈l,x.name.size+GV.sizes x.args+4≤1048576:=fun x hx=>by
   have:=bulk_mem (List.mem_map_of_mem (f:=GW.enc) hx)
   rw [hw] at this; omega
  have htot:∀ m:List GW,sizesW m+m.length≤bulkAs (m.map GW.enc):=fun m=>by
   induction m with
   | nil=>simp [sizesW]
   | cons x m ih=>simp only [List.map_cons,bulkAs,hw,sizesW,zqU]; omega
  have ht:=htot l
  exact ⟨by show sizesW l≤_; omega,by show y0.size≤_; omega,by show y1.size≤_; omega,by show l.length≤_; omega,fun x hx=>⟨by have:=hrow x hx; omega,by have:=hrow x hx; omega⟩⟩
theorem argP2 {P:Program} {tA tI:TypeId} (hA:P.underlying tA=some (.array 2 tI)) (hI:P.underlying tI=some (.int .i64)) {x:AV} (h:TyA P tA x) (hb:bulkA x≤1048576):∃ p:Int × Int,x=.agg [.int .i64 p.1,.int .i64 p.2]∧GV.i64ok p.1∧GV.i64ok p.2:=by
 have e1:IntKind.i64.min=-9223372036854775808:=by decide
 have e2:IntKind.i64.max=9223372036854775807:=by decide
 obtain ⟨ws,rfl,hwl,hw⟩:=h.asArray hA
 match ws,hwl with
 | [w0,w1],_=>
  obtain ⟨z0,rfl,a0,b0⟩:=(hw w0 (by simp)).asInt hI
  obtain ⟨z1,rfl,a1,b1⟩:=(hw w1 (by simp)).asInt hI
  rw [e1] at a0 a1; rw [e2] at b0 b1
  exact ⟨(z0,z1),by simp [flat],⟨a0,b0⟩,⟨a1,b1⟩⟩
theorem argY2 {P:Program} {tI:TypeId} (hS:P.underlying tI=some (.int .u8)) {x:AV} (h:TyA P tI x) (hb:bulkA x≤1048576):∃ n:UInt8,x=.int .u8 (n.toNat:Int)∧True:=by
 obtain ⟨n,hn⟩:=argY hS h hb
 exact ⟨n,hn,trivial⟩
theorem tyFr:IsFr Try.prog 31 29 52 50 33 3 9:=⟨fieldTys_some (by kernel_rfl),by kernel_rfl,fieldTys_some (by kernel_rfl),tyV⟩
end Go.Proofs.Ytkempedphjopmaa
end
