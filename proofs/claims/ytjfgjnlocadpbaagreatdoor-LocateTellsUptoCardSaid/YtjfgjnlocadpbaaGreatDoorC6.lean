import Derived.Test.YtjfgjnlocadpbaaGreatDoorC5
import Derived.KernelRfl
set_option linter.unusedVariables false
set_option linter.unusedSimpArgs false
set_option linter.unnecessarySimpa false
section
namespace Go.Proofs.YtjfgjnlocadpbaaGreatDoor
open Go.Mach
def varG (s:ByteArray) (i:Nat):Bool:=upB (bt s i) || (decide (i≠0) && innerB (bt s i))
theorem varG_iff (s:ByteArray) (i:Nat):varG s i=true↔(65≤bt s i∧bt s i≤90)∨(i≠0∧((97≤bt s i∧bt s i≤122)∨bt s i=95∨(48≤bt s i∧bt s i≤57))):=by
 simp only [varG,upB,innerB,letterB,Bool.or_eq_true,zqL,decide_eq_true_eq]; omega
theorem varOK_iff (t:ByteArray):varOK t=true↔(∀ i,i<t.size→varG t i=true)∧t.size≠0∧t.size≤16:=by
 have hs:t.data.toList.length=t.size:=by simp
 simp only [varOK,zqL,decide_eq_true_eq]
 match hl:t.data.toList with
 | []=>
  rw [hl] at hs; simp at hs
  simp only [varL,Bool.false_eq_true,false_and,false_iff]; omega
 | c :: l=>
  rw [hl] at hs; simp at hs
  have hb:∀ i,bt t i=(((c :: l)[i]?).getD 0).toNat:=fun i=>by simp only [bt,hl]
  simp only [varL,zqL,zqQ]
  constructor
  ·rintro ⟨⟨h1,h2⟩,h3⟩
   refine ⟨fun i hi=>?_,by omega,h3⟩
   unfold varG
   cases i with
   | zero=>simp [hb,h1]
   | succ i=>
    have hi':i<l.length:=by omega
    have:=h2 l[i] (zqT hi')
    simpa [hb,zqF hi'] using this
  ·rintro ⟨h1,h2,h3⟩
   refine ⟨⟨?_,fun x hx=>?_⟩,h3⟩
   ·have:=h1 0 (by omega)
    simpa [varG,hb] using this
   ·obtain ⟨i,hi,rfl⟩:=zqS hx
    have:=h1 (i+1) (by omega)
    simpa [varG,hb,zqF hi] using this
theorem varOK_no {t:ByteArray} {i:Nat} (h:i<t.size) (hp:¬ ((65≤bt t i∧bt t i≤90)∨(i≠0∧((97≤bt t i∧bt t i≤122)∨bt t i=95∨(48≤bt t i∧bt t i≤57))))):varOK t=false:=by
 rw [←varG_iff] at hp
 rw [Bool.eq_false_iff,Ne,varOK_iff]; intro hh; exact hp (hh.1 i h)
theorem var_ok (t:ByteArray) (ht:t.size≤100000000000):pureT T c111 [.str t]=some (.bool (varOK t)):=by
 apply pure_enter (by simp [c111])
 simp [c111]
 refine W_for T 0 52 t.size (fun i f σ=>f 0=.str t∧f 7=.ptr 0 0∧σ=[.iter t i]∧∀ j,j<i→varG t j=true) ?_ _ _ ?_
 ·rintro i f σ hi ⟨h0,h6,rfl,hall⟩
  by_cases hlt:i<t.size
  ·have hno:=@varOK_no t i hlt
   have hyes:_→∀ j,j<i+1→varG t j=true:=fun h j hj=>by
    by_cases e:j=i
    ·subst e; exact (varG_iff t j).2 h
    ·exact hall j (by omega)
   by_cases hlo:bt t i<128
   ·simp [h0,h6,hlt,dec_lo hlt hlo]
    repeat' (first | apply And.intro | intro _)
    all_goals first | exact hno (by omega) | exact hyes (by omega) _ (by assumption)
   ·have:=dec_hi hlt (by omega)
    simp [h0,h6,hlt]
    repeat' (first | apply And.intro | intro _)
    all_goals first | exact hno (by omega) | omega
  ·have he:i=t.size:=by omega
   subst he
   have hb:(varOK t=true)↔t.size≠0∧t.size≤16:=by rw [varOK_iff]; exact ⟨fun h=>h.2,fun h=>⟨fun i hi=>hall i hi,h⟩⟩
   simp [h0,h6,ba_empty,ba_nil,-ByteArray.size_eq_zero_iff]
   refine ⟨fun h=>⟨fun h2=>hb.2 ⟨h,by omega⟩,fun h2=>?_⟩,fun h=>?_⟩
   all_goals (refine Bool.eq_false_iff.2 fun hh=>?_; have:=hb.1 hh; omega)
 ·simp
theorem callVar (t:ByteArray) (ht:t.size≤100000000000) (bs:Nat) (σ:Heap):callT T 111 [.str t] bs σ=some (.bool (sym (varOK t)),σ):=call_clean rfl rfl rfl rfl (var_ok t ht)
theorem rel_ok (t:ByteArray) (ht:t.size≤100000000000):pureT T c69 [.str t]=some (.bool (relOK t)):=by
 have h1:=name_call t ht
 have h2:=bArity t
 apply pure_enter (by simp [c69])
 unfold relOK sMat
 generalize nameOK t=b at *
 cases b
 ·simp [c69,h1,h2]
 ·by_cases h3:arityOf t<0
  ·by_cases h4:t=⟨#[109,97,116,101,114,105,97,108,105,122,101]⟩
   ·simp [c69,h1,h2,h3,←h4]
   ·simp [c69,h1,h2,h3,h4]
  ·simp [c69,h1,h2,h3]
theorem callRel (t:ByteArray) (ht:t.size≤100000000000) (bs:Nat) (σ:Heap):callT T 69 [.str t] bs σ=some (.bool (sym (relOK t)),σ):=call_clean rfl rfl rfl rfl (rel_ok t ht)
theorem pterm_ok:∀ (d:Nat) (t:GT),d≤100→t.size≤100000000000→pureT T c133 [t.enc,.int .i64 (d:Int)]=some (.bool (termR d t)):=by
 intro d
 induction d with
 | zero=>
  intro t hd hs
  obtain ⟨k,n,⟨vk,vn,vt,vl⟩,l⟩:=t
  simp only [GT.size,GV.size] at hs
  have hvar:=callVar n (by omega)
  have hval:=valRight (.mk vk vn vt vl) (by simp only [GV.size]; omega)
  have har1:=bArity vt
  have har2:=bArity n
  apply pure_enter (by simp [c133])
  by_cases h1:k=1
  ·subst h1
   simp [c133,GT.enc_eq,GT.kind,GT.name,GT.value,GT.args,GV.kind,GV.num,GV.text,GV.items,hvar,hval,har1,har2,enc_mk,setRun,termR,termB,bareV,opOK]
   repeat' (first | apply And.intro | intro _)
   all_goals first | (simp_all; done) | grind
  by_cases h2:k=2
  ·subst h2
   simp [c133,GT.enc_eq,GT.kind,GT.name,GT.value,GT.args,GV.kind,GV.num,GV.text,GV.items,hvar,hval,har1,har2,enc_mk,setRun,termR,termB,bareV,opOK]
   repeat' (first | apply And.intro | intro _)
   all_goals first | (simp_all; done) | grind
  by_cases h3:k=3
  ·subst h3
   simp [c133,GT.enc_eq,GT.kind,GT.name,GT.value,GT.args,GV.kind,GV.num,GV.text,GV.items,hvar,hval,har1,har2,enc_mk,setRun,termR,termB,bareV,opOK]
   repeat' (first | apply And.intro | intro _)
   all_goals first | (simp_all; done) | grind
  by_cases h4:k=4
  ·subst h4
   simp [c133,GT.enc_eq,GT.kind,GT.name,GT.value,GT.args,GV.kind,GV.num,GV.text,GV.items,hvar,hval,har1,har2,enc_mk,setRun,termR,termB,bareV,opOK]
   repeat' (first | apply And.intro | intro _)
   all_goals first | (simp_all; done) | grind
  simp [c133,GT.enc_eq,GT.kind,GT.name,GT.value,GT.args,GV.kind,GV.num,GV.text,GV.items,hvar,hval,har1,har2,enc_mk,setRun,termR,termB,bareV,opOK,h1,h2,h3,h4]
 | succ d ih=>
  intro t hd hs
  obtain ⟨k,n,⟨vk,vn,vt,vl⟩,l⟩:=t
  simp only [GT.size,GV.size] at hs
  have hlen:=GT.len_sizes l
  have hw:IntKind.i64.wrap (d:Int)=(d:Int):=wr64 (by omega) (by omega)
  have hall:∀ bs A C,callT T 108 [.isl (GT.encs l) false,.func 153 [.ptr 1 0]] bs [A,.cells [.int .i64 ((d:Int)+1)] 0 false,C]=some (.bool (sym (l.all (termR d))),[A,.cells [.int .i64 ((d:Int)+1)] 0 false,C]):=fun bs A C=>
   allTerm (termR d) l 153 [.ptr 1 0] (by omega) _ (fun x hx τ bs=>by
    have hr:∀ bs σ,callT T 133 [x.enc,.int .i64 d] bs σ=some (.bool (termR d x),σ):=fun bs σ=>call_clean rfl rfl rfl (by simp) (ih x (by omega) (by have:=(GT.sizes_mem hx).1; omega))
    refine heap_enter (af:=c153) (args':=[x.enc,.ptr 1 0]) rfl rfl (by simp [c153]) (by simp [c153]) rfl ?_
    simp [c153,baseA,hr,hw,←GT.enc_eq,setRun,dropA_gc,refLt,res1,refLt2_bool]) bs
  have hvar:=callVar n (by omega)
  have hval:=valRight (.mk vk vn vt vl) (by simp only [GV.size]; omega)
  have har1:=bArity vt
  have har2:=bArity n
  apply pure_enter (by simp [c133])
  by_cases h1:k=1
  ·subst h1
   simp [c133,GT.enc_eq,GT.kind,GT.name,GT.value,GT.args,GV.kind,GV.num,GV.text,GV.items,hvar,hval,har1,har2,enc_mk,setRun,termR,termB,bareV,opOK,hall]
   repeat' (first | apply And.intro | intro _)
   all_goals first | (simp_all; done) | grind
  by_cases h2:k=2
  ·subst h2
   simp [c133,GT.enc_eq,GT.kind,GT.name,GT.value,GT.args,GV.kind,GV.num,GV.text,GV.items,hvar,hval,har1,har2,enc_mk,setRun,termR,termB,bareV,opOK,hall]
   repeat' (first | apply And.intro | intro _)
   all_goals first | (simp_all; done) | grind
  by_cases h3:k=3
  ·subst h3
   simp [c133,GT.enc_eq,GT.kind,GT.name,GT.value,GT.args,GV.kind,GV.num,GV.text,GV.items,hvar,hval,har1,har2,enc_mk,setRun,termR,termB,bareV,opOK,hall]
   repeat' (first | apply And.intro | intro _)
   all_goals first | (simp_all; done) | grind
  by_cases h4:k=4
  ·subst h4
   simp [c133,GT.enc_eq,GT.kind,GT.name,GT.value,GT.args,GV.kind,GV.num,GV.text,GV.items,hvar,hval,har1,har2,enc_mk,setRun,termR,termB,bareV,opOK,hall]
   repeat' (first | apply And.intro | intro _)
   all_goals first | (simp_all; done) | grind
  simp [c133,GT.enc_eq,GT.kind,GT.name,GT.value,GT.args,GV.kind,GV.num,GV.text,GV.items,hvar,hval,har1,har2,enc_mk,setRun,termR,termB,bareV,opOK,h1,h2,h3,h4]
open Go.Mach
theorem idxS_ok (l:List ByteArray) (s:ByteArray) (hl:l.length≤100000000000) :
  pureT T c85 [.isl (l.map .str) false,.str s]=some (.int .i64 (idxG (fun x=>decide (s=x)) l)):=by
 apply pure_enter (by simp [c85])
 simp [c85]
 refine W_for T 0 19 l.length (fun i f σ=>f 0=.isl (l.map .str) false∧f 1=.str s∧f 7=.int .i64 (l.length:Int)∧f 8=.int .i64 (i:Int)∧∀ j,(hj:j<l.length)→j<i→decide (s=l[j])=false) ?_ _ _ ?_
 ·rintro i f σ hi ⟨h0,h1,h7,h8,hall⟩
  by_cases hlt:i<l.length
  ·have e1:l[i]?=some l[i]:=zqF hlt
   by_cases hp:s=l[i]
   ·simp [h0,h1,h7,h8,hlt,←hp]
    simp [idxG,idxG_drop (fun x=>decide (s=x)) l i hlt hall (by simp [←hp])]
   ·simp [h0,h1,h7,h8,hlt,hp]
    refine ⟨wr64 (by omega) (by omega),fun j hj hji=>?_⟩
    by_cases e:j=i
    ·subst e; exact hp
    ·simpa using hall j hj (by omega)
  ·have he:i=l.length:=by omega
   subst he
   have hn:l.findIdx? (fun x=>decide (s=x))=none:=by
    rw [List.findIdx?_eq_none_iff]
    intro x hx
    obtain ⟨j,hj,rfl⟩:=zqS hx
    exact hall j hj hj
   simp [h0,h1,h7,h8,idxG,hn]
 ·simp
theorem conS_ok (l:List ByteArray) (s:ByteArray) (hl:l.length≤100000000000) :
  pureT T c48 [.isl (l.map .str) false,.str s]=some (.bool (l.any (fun x=>decide (s=x)))):=by
 have h1:∀ bs σ,callT T 85 [.isl (l.map .str) false,.str s] bs σ=some (.int .i64 (idxG (fun x=>decide (s=x)) l),σ):=fun bs σ=>call_clean rfl rfl rfl (by simp) (idxS_ok l s hl)
 have h2:=idxG_any (fun x=>decide (s=x)) l
 apply pure_enter (by simp [c48])
 simp [c48,h1]
 refine ⟨fun h=>by simpa using h2.1 h,fun h x hx e=>?_⟩
 have:=h2.2 (by simp; exact e ▸ hx)
 omega
def six:List ByteArray:=[⟨#[61,61]⟩,⟨#[33,61]⟩,⟨#[60]⟩,⟨#[60,61]⟩,⟨#[62]⟩,⟨#[62,61]⟩]
theorem six_any (s:ByteArray):six.any (fun x=>decide (s=x))=tOK s:=by
 rw [Bool.eq_iff_iff]; simp [six,tOK]
theorem conSix (s:ByteArray) (o:AObj) (bs:Nat):callT T 48 [.sl 1 0 6 1 false,.str s] bs [o,.cells [.str ⟨#[61,61]⟩,.str ⟨#[33,61]⟩,.str ⟨#[60]⟩,.str ⟨#[60,61]⟩,.str ⟨#[62]⟩,.str ⟨#[62,61]⟩] 0 false] =
  some (.bool (sym (tOK s)),[o,.cells [.str ⟨#[61,61]⟩,.str ⟨#[33,61]⟩,.str ⟨#[60]⟩,.str ⟨#[60,61]⟩,.str ⟨#[62]⟩,.str ⟨#[62,61]⟩] 0 false]):=by
 have h:=conS_ok six s (by decide)
 rw [six_any] at h
 exact call_scal rfl rfl rfl h rfl (by simp) rfl
theorem fine_ok (t:GT) (hs:t.size≤100000000000):pureT T c109 [t.enc]=some (.bool (termR 8 t)):=by
 have h:∀ bs σ,callT T 133 [t.enc,.int .i64 8] bs σ=some (.bool (sym (termR 8 t)),σ):=fun bs σ=>call_clean rfl rfl rfl (by simp) (pterm_ok 8 t (by omega) hs)
 apply pure_enter (by simp [c109])
 simp [c109,h,←GT.enc_eq]
theorem callFine (t:GT) (hs:t.size≤100000000000) (bs:Nat) (σ:Heap):callT T 109 [t.enc] bs σ=some (.bool (sym (termR 8 t)),σ):=call_clean rfl rfl rfl (by simp) (fine_ok t hs)
theorem allFine (l:List GT) (hs:GT.sizes l≤10000000000) (bs:Nat) (σ:Heap):callT T 108 [.isl (GT.encs l) false,.func 109 []] bs σ=some (.bool (sym (l.all (termR 8))),σ):=
 allTerm (termR 8) l 109 [] (by have:=GT.len_sizes l; omega) σ (fun x hx τ bs=>callFine x (by have:=(GT.sizes_mem hx).1; omega) bs _) bs
theorem pargs_ok (l:List GT) (hs:GT.sizes l≤10000000000):pureT T c76 [.isl (GT.encs l) false]=some (.bool (argsB l)):=by
 have hall:=allFine l hs
 have hlen:=GT.len_sizes l
 apply pure_enter (by simp [c76])
 unfold argsB headOK
 generalize l.all (termR 8)=b at *
 match l with
 | []=>simp [c76]
 | x :: l=>
  simp only [zqU] at *
  by_cases h8:l.length+1≤8
  ·have h8':¬ (8<(l.length:Int)+1):=by omega
   have h1':¬ ((l.length:Int)+1<1):=by omega
   cases b
   ·simp [c76,hall,h8,h8',h1']
   ·simp [c76,hall,h8,h8',h1']
    repeat' (first | apply And.intro | intro _)
    all_goals first | (simp_all; done) | grind
  ·have h8':8<(l.length:Int)+1:=by omega
   have h1':¬ ((l.length:Int)+1<1):=by omega
   simp [c76,hall,h8,h8',h1']
theorem callArgs (l:List GT) (hs:GT.sizes l≤10000000000) (bs:Nat) (σ:Heap):callT T 76 [.isl (GT.encs l) false] bs σ=some (.bool (sym (argsB l)),σ):=call_clean rfl rfl rfl (by simp) (pargs_ok l hs)
theorem plit_ok (x:GL) (hs:x.size≤10000000000):pureT T c78 [x.enc]=some (.bool (litB x)):=by
 have h1:=x.name_le
 have h2:=x.args_le
 obtain ⟨k,n,l⟩:=x
 simp only at h1 h2
 have hrel:=callRel n (by omega)
 have hvar:=callVar n (by omega)
 have hargs:=callArgs l (by omega)
 have hall:=allFine l (by omega)
 have hcon:=conSix n
 apply pure_enter (by simp [c78])
 unfold litB
 by_cases k1:k=1
 ·subst k1
  simp [c78,GL.enc_eq,hrel,hargs]
  cases relOK n <;> simp
 by_cases k2:k=2
 ·subst k2
  simp [c78,GL.enc_eq,hrel,hargs]
  cases relOK n <;> simp
 by_cases k3:k=3
 ·subst k3
  generalize l.all (termR 8)=b at *
  simp [c78,GL.enc_eq,hcon,hall]
  repeat' (first | apply And.intro | intro _)
  all_goals first | (simp_all; done) | omega | grind
 by_cases k4:k=4
 ·subst k4
  generalize l.all (termR 8)=b at *
  simp [c78,GL.enc_eq,hvar,hall]
  repeat' (first | apply And.intro | intro _)
  all_goals first | (simp_all; done) | omega | grind
 simp [c78,GL.enc_eq,k1,k2,k3,k4]
theorem callPLit (x:GL) (hs:x.size≤10000000000) (bs:Nat) (σ:Heap):callT T 78 [x.enc] bs σ=some (.bool (sym (litB x)),σ):=call_clean rfl rfl rfl (by simp) (plit_ok x hs)
theorem ptup_ok (x:GU) (hs:x.size≤10000000000):pureT T c65 [x.enc]=some (.bool (tupB x)):=by
 have h1:=x.name_le
 have h2:=x.args_le
 obtain ⟨n,l⟩:=x
 simp only at h1 h2
 have hrel:=callRel n (by omega)
 have hlen:=len_sizes l
 have hall:∀ bs σ,callT T 97 [.isl (GV.encs l) false,.func 98 []] bs σ=some (.bool (sym (l.all rightT)),σ):=fun bs σ=>
  allValue rightT l 98 [] (by omega) σ (fun x hx τ bs=>valRight x (by have:=(sizes_mem hx).1; omega) bs _) bs
 apply pure_enter (by simp [c65])
 unfold tupB
 generalize l.all rightT=b at *
 match l with
 | []=>
  simp [c65,GU.enc_eq,hrel]
 | x :: l=>
  simp only [zqU] at *
  simp [c65,GU.enc_eq,hrel,hall]
  repeat' (first | apply And.intro | intro _)
  all_goals first | (simp_all; done) | omega | grind
theorem callPTup (x:GU) (hs:x.size≤10000000000) (bs:Nat) (σ:Heap):callT T 65 [x.enc] bs σ=some (.bool (sym (tupB x)),σ):=call_clean rfl rfl rfl (by simp) (ptup_ok x hs)
theorem pdecl_ok (x:GD) (hs:x.size≤10000000000):pureT T c68 [x.enc]=some (.bool (declB x)):=by
 have h1:=x.name_le
 obtain ⟨n,l⟩:=x
 simp only at h1
 have hrel:=callRel n (by omega)
 apply pure_enter (by simp [c68])
 unfold declB
 simp [c68,GD.enc_eq,hrel]
 repeat' (first | apply And.intro | intro _)
 all_goals first | (simp_all; done) | omega | grind
theorem callPDecl (x:GD) (hs:x.size≤10000000000) (bs:Nat) (σ:Heap):callT T 68 [x.enc] bs σ=some (.bool (sym (declB x)),σ):=call_clean rfl rfl rfl (by simp) (pdecl_ok x hs)
open Go.Mach
theorem prule_ok (x:GR) (hs:x.size≤10000000000):pureT T c46 [x.enc]=some (.bool (ruleB x)):=by
 have h1:=x.label_le
 have h2:=x.head_le
 have h3:=x.args_le
 have h4:=x.agg_le
 have h5:=x.body_len
 have h6:=fun y hy=>x.body_mem (y:=y) hy
 obtain ⟨lab,hd,l,agg,at',body⟩:=x
 simp only at h1 h2 h3 h4 h5 h6
 have hlen:=GT.len_sizes l
 have hr1:=callRel lab (by omega)
 have hr2:=callRel hd (by omega)
 have hargs:=callArgs l (by omega)
 have hall:∀ bs σ,callT T 77 [.isl (body.map GL.enc) false,.func 78 []] bs σ=some (.bool (sym (body.all litB)),σ):=fun bs σ=>
  allLiteral litB body 78 [] (by omega) σ (fun y hy τ bs=>callPLit y (by have:=h6 y hy; omega) bs _) bs
 apply pure_enter (by simp [c46])
 unfold ruleB
 simp only
 generalize body.all litB=b at *
 generalize relOK lab=b1 at *
 generalize relOK hd=b2 at *
 generalize argsB l=b3 at *
 cases b1
 ·simp [c46,GR.enc_eq,hr1]
 cases b2
 ·simp [c46,GR.enc_eq,hr1,hr2]
 cases b3
 ·simp [c46,GR.enc_eq,hr1,hr2,hargs]
 by_cases c1:body.length<1
 ·have c1':(body.length:Int)<1:=by omega
  simp [c46,GR.enc_eq,hr1,hr2,hargs,c1']
  omega
 by_cases c2:8<body.length
 ·have c1':¬ (body.length:Int)<1:=by omega
  have c2':8<(body.length:Int):=by omega
  simp [c46,GR.enc_eq,hr1,hr2,hargs,c1',c2']
  omega
 have c1':¬ (body.length:Int)<1:=by omega
 have c2':¬ 8<(body.length:Int):=by omega
 cases b
 ·simp [c46,GR.enc_eq,hr1,hr2,hargs,c1',c2',hall]
 have c3:1≤body.length∧body.length≤8:=by omega
 unfold aggB
 simp only [c3,and_self,decide_true,Bool.and_true,Bool.true_and]
 by_cases g0:agg=⟨#[]⟩
 ·subst g0
  simp [c46,GR.enc_eq,hr1,hr2,hargs,c1',c2',hall]
  done
 rw [if_neg g0]
 by_cases g1:agg=sMin∨agg=sMax∨agg=sCount
 ·have hat:∀ h:1≤at'∧at'<l.length,at'.toNat<l.length:=fun h=>by omega
  by_cases g2:1≤at'∧at'<(l.length:Int)
  ·obtain ⟨t,ht⟩:∃ t,l[at'.toNat]?=some t:=⟨_,zqF (hat g2)⟩
   have g3:0≤at':=by omega
   rcases g1 with rfl | rfl | rfl
   all_goals
    simp [c46,GR.enc_eq,hr1,hr2,hargs,c1',c2',hall,g2,g3,ht]
  ·rcases g1 with rfl | rfl | rfl
   all_goals
    simp [c46,GR.enc_eq,hr1,hr2,hargs,c1',c2',hall,g2]
    try grind
 ·have g1':=not_or.1 g1
  have g2':=not_or.1 g1'.2
  simp [c46,GR.enc_eq,hr1,hr2,hargs,c1',c2',hall,g0,g1'.1,g2'.1,g2'.2]
theorem callPRule (x:GR) (hs:x.size≤10000000000) (bs:Nat) (σ:Heap):callT T 46 [x.enc] bs σ=some (.bool (sym (ruleB x)),σ):=call_clean rfl rfl rfl (by simp) (prule_ok x hs)
theorem pright_ok (x:GP) (hs:x.size≤10000000000):pureT T c42 [x.enc]=some (.bool (progB x)):=by
 have h1:=x.decls_len
 have h2:=x.facts_len
 have h3:=x.rules_len
 have m1:=fun y hy=>x.decls_mem (y:=y) hy
 have m2:=fun y hy=>x.facts_mem (y:=y) hy
 have m3:=fun y hy=>x.rules_mem (y:=y) hy
 obtain ⟨ds,us,rs⟩:=x
 simp only at h1 h2 h3 m1 m2 m3
 have a1:∀ bs σ,callT T 67 [.isl (ds.map GD.enc) false,.func 68 []] bs σ=some (.bool (sym (ds.all declB)),σ):=fun bs σ=>
  allDecl declB ds 68 [] (by omega) σ (fun y hy τ bs=>callPDecl y (by have:=m1 y hy; omega) bs _) bs
 have a2:∀ bs σ,callT T 64 [.isl (us.map GU.enc) false,.func 65 []] bs σ=some (.bool (sym (us.all tupB)),σ):=fun bs σ=>
  allTuple tupB us 65 [] (by omega) σ (fun y hy τ bs=>callPTup y (by have:=m2 y hy; omega) bs _) bs
 have a3:∀ bs σ,callT T 66 [.isl (rs.map GR.enc) false,.func 46 []] bs σ=some (.bool (sym (rs.all ruleB)),σ):=fun bs σ=>
  allRule ruleB rs 46 [] (by omega) σ (fun y hy τ bs=>callPRule y (by have:=m3 y hy; omega) bs _) bs
 apply pure_enter (by simp [c42])
 unfold progB
 simp only
 generalize ds.all declB=b1 at *
 generalize us.all tupB=b2 at *
 generalize rs.all ruleB=b3 at *
 simp [c42,GP.enc_eq,a1,a2,a3]
 repeat' (first | apply And.intro | intro _)
 all_goals first | (simp_all; done) | omega | grind
theorem callPRight (x:GP) (hs:x.size≤10000000000) (bs:Nat) (σ:Heap):callT T 42 [x.enc] bs σ=some (.bool (sym (progB x)),σ):=call_clean rfl rfl rfl (by simp) (pright_ok x hs)
open Go.Mach
def joinF {α:Type} (f:Nat→α→List UInt8) (sep:List UInt8):Nat→List α→List UInt8
 | _,[]=>[]
 | i,x :: l=>(if i=0 then [] else sep)++(f i x++joinF f sep (i+1) l)
theorem joinF_snoc {α:Type} (f:Nat→α→List UInt8) (sep:List UInt8):∀ (i:Nat) (l:List α) (x:α),joinF f sep i (l++[x])=joinF f sep i l++((if i+l.length=0 then [] else sep)++f (i+l.length) x)
 | i,[],x=>by simp [joinF]
 | i,y :: l,x=>by
  have e:i+1+l.length=i+(l.length+1):=by omega
  simp only [List.cons_append,joinF,joinF_snoc f sep (i+1) l x,zqP,zqU,e]
  try simp
theorem joinF_take {α:Type} (f:Nat→α→List UInt8) (sep:List UInt8) (l:List α) (i:Nat) (h:i<l.length):joinF f sep 0 (l.take (i+1))=joinF f sep 0 (l.take i)++((if i=0 then [] else sep)++f i l[i]):=by
 have e:l.take (i+1)=l.take i++[l[i]]:=by rw [List.take_add_one,zqF h]; rfl
 have e2:0+(l.take i).length=i:=by simp; omega
 rw [e,joinF_snoc,e2]
theorem joinF_app {α:Type} (f:Nat→α→List UInt8) (sep:List UInt8):∀ (i:Nat) (l m:List α),joinF f sep i (l++m)=joinF f sep i l++joinF f sep (i+l.length) m
 | i,[],m=>by simp [joinF]
 | i,x :: l,m=>by
  have e:i+1+l.length=i+(l.length+1):=by omega
  simp only [List.cons_append,joinF,joinF_app f sep (i+1) l m,zqP,zqU,e]
theorem joinF_le {α:Type} (f:Nat→α→List UInt8) (sep:List UInt8) (l:List α) (i:Nat):(joinF f sep 0 (l.take i)).length≤(joinF f sep 0 l).length:=by
 have:=joinF_app f sep 0 (l.take i) (l.drop i)
 rw [List.take_append_drop] at this
 rw [this,zqJ]; omega
theorem bld_app {σ τ:Heap} {id:Nat} {o:AObj} (h:id<σ.length):(σ.set id o++τ)[id]?=some o:=by
 rw [zqA (by simpa using h)]; simp [h]
theorem set_app {σ τ:Heap} {id:Nat} {o o':AObj} (h:id<σ.length):(σ.set id o++τ).set id o'=σ.set id o'++τ:=by
 rw [List.set_append_left _ _ (by simpa using h),List.set_set]
theorem take_app2 {σ τ ρ:Heap} {id:Nat} {o:AObj}:(σ.set id o++(τ++ρ)).take (σ.length+τ.length)=σ.set id o++τ:=by
 rw [←zqP,List.take_append_of_le_length (by simp),List.take_of_length_le (by simp)]
theorem ws_at {σ τ:Heap} {id t:Nat} {l:List UInt8} {s:ByteArray} (bs:Nat) (h:id<σ.length) (ht:t∈bldTs) (hl:l.length+s.size≤70368744177664) :
  callT T 79 [.ptr id 0,.str s] bs (σ.set id (.bld t 5 l)++τ)=some (.undef,σ.set id (.bld t 5 (l++s.data.toList))++τ):=by
 rw [callWS bs (bld_app h) ht hl,set_app h]
theorem wb_at {σ τ:Heap} {id t:Nat} {l:List UInt8} {n:Int} (bs:Nat) (h:id<σ.length) (ht:t∈bldTs) (hl:l.length+1≤70368744177664) (h0:0≤n) (h1:n<256) :
  callT T 84 [.ptr id 0,.int .u8 n] bs (σ.set id (.bld t 5 l)++τ)=some (.undef,σ.set id (.bld t 5 (l++[UInt8.ofNat n.toNat]))++τ):=by
 rw [callWB bs (bld_app h) ht hl h0 h1,set_app h]
theorem listTerm (w:Nat→GT→List UInt8) (s:ByteArray) (l:List GT) (g:Nat) (caps:List AV) (σ:Heap) (id t:Nat) (c0:List UInt8) (τ:Heap) (hid:id<σ.length) (ht:t∈bldTs) (hl:l.length≤100000000000) (hL:c0.length+(joinF w s.data.toList 0 l).length≤70368744177664)
  (hc:∀ (i:Nat) (hi:i<l.length) (cur:List UInt8) ρ bs,cur.length+(w i l[i]).length≤70368744177664→callT T g (.int .i64 (i:Int) :: l[i].enc :: caps) bs (σ.set id (.bld t 5 cur)++(τ++ρ))=some (.tup [],σ.set id (.bld t 5 (cur++w i l[i]))++(τ++ρ))) (bs:Nat) :
  callT T 113 [.ptr id 0,.isl (GT.encs l) false,.str s,.func g caps] bs (σ.set id (.bld t 5 c0)++τ)=some (.tup [],σ.set id (.bld t 5 (c0++joinF w s.data.toList 0 l))++τ):=by
 have hsl:(σ.set id (.bld t 5 c0)++τ).length=σ.length+τ.length:=by simp
 refine heap_enter (af:=c113) (args':=[.ptr id 0,.isl (GT.encs l) false,.str s,.func g caps]) (σ1:=σ.set id (.bld t 5 c0)++τ) rfl rfl (by simp [c113]) (by simp [c113]) rfl ?_
 simp [c113,baseA]
 refine W_for T _ 29 l.length (fun i f ρ=>f 0=.ptr id 0∧f 2=.str s∧f 3=.func g caps∧f 10=.isl (GT.encs l) false∧f 11=.int .i64 (l.length:Int)∧f 12=.int .i64 (i:Int)∧∃ rest,ρ=σ.set id (.bld t 5 (c0++joinF w s.data.toList 0 (l.take i)))++(τ++rest)) ?_ _ _ ?_
 ·rintro i f ρ hi ⟨g0,g2,g3,g10,g11,g12,rest,rfl⟩
  by_cases hlt:i<l.length
  ·have e1:l[i]?=some l[i]:=zqF hlt
   have hw:IntKind.i64.wrap ((i:Int)+1)=(i:Int)+1:=wr64 (by omega) (by omega)
   have hj:=joinF_take w s.data.toList l i hlt
   have hle:=joinF_le w s.data.toList l (i+1)
   rw [hj] at hle ⊢
   generalize joinF w s.data.toList 0 (l.take i)=cur at *
   have hss:s.data.toList.length=s.size:=by simp
   by_cases h0:i=0
   ·have h0':¬ (0<i):=by omega
    simp only [h0,if_true,List.nil_append,zqJ] at hle
    have hcl:=fun r bs=>hc i hlt (c0++cur) (rest++r) bs (by simp only [zqJ]; subst h0; omega)
    simp [g0,g2,g3,g10,g11,g12,hlt,hcl,hw,h0',←GT.enc_eq]
    exact ⟨_,by rw [if_pos h0]; rfl⟩
   ·have h0':0<i:=by omega
    simp only [h0,if_false,zqJ] at hle
    have hws:=fun r bs=>ws_at (σ:=σ) (τ:=τ++(rest++r)) (s:=s) (l:=c0++cur) bs hid ht (by simp only [zqJ]; omega)
    have hcl:=fun r bs=>hc i hlt (c0++cur++s.data.toList) (rest++r) bs (by simp only [zqJ]; omega)
    simp only [zqP] at hws hcl
    simp [g0,g2,g3,g10,g11,g12,hlt,hws,hcl,hw,h0',←GT.enc_eq]
    exact ⟨_,by rw [if_neg h0]⟩
  ·have he:i=l.length:=by omega
   subst he
   simp [g0,g2,g3,g10,g11,g12,dropA_gc,refLt,res1]
   exact take_app2
 ·simp [joinF]
theorem listLiteral (w:Nat→GL→List UInt8) (s:ByteArray) (l:List GL) (g:Nat) (caps:List AV) (σ:Heap) (id t:Nat) (c0:List UInt8) (τ:Heap) (hid:id<σ.length) (ht:t∈bldTs) (hl:l.length≤100000000000) (hL:c0.length+(joinF w s.data.toList 0 l).length≤70368744177664)
  (hc:∀ (i:Nat) (hi:i<l.length) (cur:List UInt8) ρ bs,cur.length+(w i l[i]).length≤70368744177664→callT T g (.int .i64 (i:Int) :: l[i].enc :: caps) bs (σ.set id (.bld t 5 cur)++(τ++ρ))=some (.tup [],σ.set id (.bld t 5 (cur++w i l[i]))++(τ++ρ))) (bs:Nat) :
  callT T 81 [.ptr id 0,.isl (l.map GL.enc) false,.str s,.func g caps] bs (σ.set id (.bld t 5 c0)++τ)=some (.tup [],σ.set id (.bld t 5 (c0++joinF w s.data.toList 0 l))++τ):=by
 have hsl:(σ.set id (.bld t 5 c0)++τ).length=σ.length+τ.length:=by simp
 refine heap_enter (af:=c81) (args':=[.ptr id 0,.isl (l.map GL.enc) false,.str s,.func g caps]) (σ1:=σ.set id (.bld t 5 c0)++τ) rfl rfl (by simp [c81]) (by simp [c81]) rfl ?_
 simp [c81,baseA]
 refine W_for T _ 29 l.length (fun i f ρ=>f 0=.ptr id 0∧f 2=.str s∧f 3=.func g caps∧f 10=.isl (l.map GL.enc) false∧f 11=.int .i64 (l.length:Int)∧f 12=.int .i64 (i:Int)∧∃ rest,ρ=σ.set id (.bld t 5 (c0++joinF w s.data.toList 0 (l.take i)))++(τ++rest)) ?_ _ _ ?_
 ·rintro i f ρ hi ⟨g0,g2,g3,g10,g11,g12,rest,rfl⟩
  by_cases hlt:i<l.length
  ·have e1:l[i]?=some l[i]:=zqF hlt
   have hw:IntKind.i64.wrap ((i:Int)+1)=(i:Int)+1:=wr64 (by omega) (by omega)
   have hj:=joinF_take w s.data.toList l i hlt
   have hle:=joinF_le w s.data.toList l (i+1)
   rw [hj] at hle ⊢
   generalize joinF w s.data.toList 0 (l.take i)=cur at *
   have hss:s.data.toList.length=s.size:=by simp
   by_cases h0:i=0
   ·have h0':¬ (0<i):=by omega
    simp only [h0,if_true,List.nil_append,zqJ] at hle
    have hcl:=fun r bs=>hc i hlt (c0++cur) (rest++r) bs (by simp only [zqJ]; subst h0; omega)
    simp [g0,g2,g3,g10,g11,g12,hlt,hcl,hw,h0',←GL.enc_eq]
    exact ⟨_,by rw [if_pos h0]; rfl⟩
   ·have h0':0<i:=by omega
    simp only [h0,if_false,zqJ] at hle
    have hws:=fun r bs=>ws_at (σ:=σ) (τ:=τ++(rest++r)) (s:=s) (l:=c0++cur) bs hid ht (by simp only [zqJ]; omega)
    have hcl:=fun r bs=>hc i hlt (c0++cur++s.data.toList) (rest++r) bs (by simp only [zqJ]; omega)
    simp only [zqP] at hws hcl
    simp [g0,g2,g3,g10,g11,g12,hlt,hws,hcl,hw,h0',←GL.enc_eq]
    exact ⟨_,by rw [if_neg h0]⟩
  ·have he:i=l.length:=by omega
   subst he
   simp [g0,g2,g3,g10,g11,g12,dropA_gc,refLt,res1]
   exact take_app2
 ·simp [joinF]
open Go.Mach
theorem tc_join (sep:List UInt8):∀ (i:Nat) (l:List GT),joinF (fun _=>shT) sep (i+1) l=shTc sep l
 | _,[]=>rfl
 | i,x :: l=>by simp only [joinF,shTc,tc_join sep (i+1) l]; simp
theorem ts_join (sep:List UInt8) (l:List GT):joinF (fun _=>shT) sep 0 l=shTs sep l:=by
 cases l with
 | nil=>rfl
 | cons x l=>simp only [joinF,shTs,tc_join]; simp
theorem term_value {d:Nat} {k:Int} {n:ByteArray} {v:GV} {l:List GT} (h:termR d (.mk k n v l)=true) (hk:k=2):rightT v=true:=by
 obtain ⟨_,⟨n',e,hn⟩ | ⟨v',e,hv,_⟩ | ⟨n',l',e,hn,_⟩ | ⟨n',l',e,_⟩⟩:=term_cases h <;> injection e with e1 e2 e3 e4 <;> subst e1
 ·omega
 ·rw [e3]; exact hv
 ·omega
 ·omega
theorem term_args {d:Nat} {k:Int} {n:ByteArray} {v:GV} {l:List GT} (h:termR d (.mk k n v l)=true):∀ x∈l,∃ e,termR e x=true:=by
 intro x hx
 obtain ⟨_,⟨n',e,hn⟩ | ⟨v',e,hv,_⟩ | ⟨n',l',e,hn,hl⟩ | ⟨n',l',e,_,_,hl⟩⟩:=term_cases h <;> injection e with e1 e2 e3 e4 <;> subst e4
 ·cases hx
 ·cases hx
 ·exact ⟨_,hl x hx⟩
 ·exact ⟨_,hl x hx⟩
theorem take_eq {L A:Heap} (B:Heap) {n:Nat} (h1:L=A++B) (h2:n=A.length):L.take n=A:=by rw [h1,h2]; simp
theorem printV_list {v:GV} (h:rightT v=true):(printV v).data.toList=pr v:=by simp [printV,h,S]
theorem printV_size {v:GV} (h:rightT v=true):(printV v).size=(pr v).length:=by simp only [printV,h,if_true]; rfl
theorem wterm_ok:∀ (m:Nat) (t:GT),t.size≤m→m≤10000000000→(∃ d,termR d t=true)→∀ (σ:Heap) (id tt:Nat) (c0:List UInt8) (τ:Heap) (bs:Nat),id<σ.length→tt∈bldTs→c0.length+(shT t).length≤70368744177664 →
  callT T 115 [.ptr id 0,t.enc] bs (σ.set id (.bld tt 5 c0)++τ)=some (.tup [],σ.set id (.bld tt 5 (c0++shT t))++τ):=by
 intro m
 induction m with
 | zero=>intro t h; obtain ⟨k,n,⟨vk,vn,vt,vl⟩,l⟩:=t; simp [GT.size] at h
 | succ m ih=>
  intro t hs hm hd σ id tt c0 τ bs hid ht hlen
  obtain ⟨d,hd⟩:=hd
  obtain ⟨k,n,v,l⟩:=t
  simp only [GT.size] at hs
  have hsl:∀ o:AObj,(σ.set id o++τ).length=σ.length+τ.length:=fun o=>by simp
  have hns:n.data.toList.length=n.size:=by simp
  refine heap_enter (af:=c115) (args':=[.ptr id 0,(GT.mk k n v l).enc]) (σ1:=σ.set id (.bld tt 5 c0)++τ) rfl rfl (by simp [c115]) (by simp [c115]) rfl ?_
  by_cases h1:k=1
  ·subst h1
   have hp:shT (.mk 1 n v l)=n.data.toList:=by simp [shT]
   rw [hp] at hlen ⊢
   have hws:=fun r bs=>ws_at (σ:=σ) (τ:=τ++r) (s:=n) (l:=c0) bs hid ht (by omega)
   simp [c115,baseA,GT.enc_eq,GT.kind,GT.name,GT.value,GT.args,hws,dropA_gc,refLt,res1]
   exact take_app2
  by_cases h2:k=2
  ·subst h2
   have hv:=term_value hd rfl
   have hp:shT (.mk 2 n v l)=pr v:=by simp [shT]
   rw [hp] at hlen ⊢
   have hpv:=valPrint v (right_okV _ _ hv) (by have:=rightT_size hv; omega)
   have hws:=fun r bs=>ws_at (σ:=σ) (τ:=τ++r) (s:=printV v) (l:=c0) bs hid ht (by rw [printV_size hv]; exact hlen)
   rw [printV_list hv] at hws
   simp [c115,baseA,GT.enc_eq,GT.kind,GT.name,GT.value,GT.args,hws,hpv,dropA_gc,refLt,res1]
   exact take_app2
  have hlist:∀ (sep:ByteArray) (cur:List UInt8) (o:AObj) (bs:Nat),cur.length+(shTs sep.data.toList l).length≤70368744177664 →
    callT T 113 [.ptr id 0,.isl (GT.encs l) false,.str sep,.func 136 [.ptr (σ.length+τ.length) 0]] bs (σ.set id (.bld tt 5 cur)++(τ++[.cells [.ptr id 0] 0 false,o])) =
     some (.tup [],σ.set id (.bld tt 5 (cur++shTs sep.data.toList l))++(τ++[.cells [.ptr id 0] 0 false,o])):=fun sep cur o bs hb=>by
   rw [←ts_join] at hb ⊢
   refine listTerm (fun _=>shT) sep l 136 [.ptr (σ.length+τ.length) 0] σ id tt cur (τ++[.cells [.ptr id 0] 0 false,o]) hid ht (by have:=GT.len_sizes l; omega) hb (fun i hi cur ρ bs hb2=>?_) bs
   have hx:=zqT hi
   have hw:=fun r bs=>ih l[i] (by have:=(GT.sizes_mem hx).1; omega) (by omega) (term_args hd _ hx) σ id tt cur (τ++r) bs hid ht hb2
   have hk:∀ r:Heap,(σ.set id (.bld tt 5 cur)++(τ++.cells [.ptr id 0] 0 false :: r))[σ.length+τ.length]?=some (.cells [.ptr id 0] 0 false):=fun r=>by
    rw [←zqP,zqB (by simp)]; simp
   refine heap_enter (af:=c136) (args':=[.int .i64 (i:Int),l[i].enc,.ptr (σ.length+τ.length) 0]) rfl rfl (by simp [c136]) (by simp [c136]) rfl ?_
   simp [c136,baseA,hk,hw,←GT.enc_eq,dropA_gc,refLt,res1]
   exact take_eq [_] (by simp; rfl) (by simp)
  by_cases h3:k=3
  ·subst h3
   have hp:shT (.mk 3 n v l)=n.data.toList++40 :: (shTs [44] l++[41]):=by simp [shT]
   rw [hp] at hlen ⊢
   simp only [zqJ,zqU,List.length_nil,hns] at hlen
   have hws:=fun r bs=>ws_at (σ:=σ) (τ:=τ++r) (s:=n) (l:=c0) bs hid ht (by omega)
   have hwb:=fun r bs=>wb_at (σ:=σ) (τ:=τ++r) (n:=40) (l:=c0++n.data.toList) bs hid ht (by simp only [zqJ,hns]; omega) (by decide) (by decide)
   have hli:=fun o bs=>hlist ⟨#[44]⟩ (c0++n.data.toList++[40]) o bs (by simp only [zqJ,zqU,List.length_nil,hns]; show _+(shTs [44] l).length≤_; omega)
   have hwe:=fun r bs=>wb_at (σ:=σ) (τ:=τ++r) (n:=41) (l:=c0++n.data.toList++[40]++shTs [44] l) bs hid ht (by simp only [zqJ,zqU,List.length_nil,hns]; omega) (by decide) (by decide)
   simp [-List.append_assoc] at hws hwb hli hwe
   simp only [zqP,List.cons_append,List.nil_append] at hws hwb hli hwe
   simp [c115,baseA,GT.enc_eq,GT.kind,GT.name,GT.value,GT.args,hws,hwb,hli,hwe,dropA_gc,refLt,res1]
   exact take_app2
  have hp:shT (.mk k n v l)=40 :: (shTs n.data.toList l++[41]):=by simp [shT,h1,h2,h3]
  rw [hp] at hlen ⊢
  simp only [zqJ,zqU,List.length_nil] at hlen
  have hwb:=fun r bs=>wb_at (σ:=σ) (τ:=τ++r) (n:=40) (l:=c0) bs hid ht (by omega) (by decide) (by decide)
  have hli:=fun o bs=>hlist n (c0++[40]) o bs (by simp only [zqJ,zqU,List.length_nil]; omega)
  have hwe:=fun r bs=>wb_at (σ:=σ) (τ:=τ++r) (n:=41) (l:=c0++[40]++shTs n.data.toList l) bs hid ht (by simp only [zqJ,zqU,List.length_nil]; omega) (by decide) (by decide)
  simp [-List.append_assoc] at hwb hli hwe
  simp only [zqP,List.cons_append,List.nil_append] at hwb hli hwe
  simp [c115,baseA,GT.enc_eq,GT.kind,GT.name,GT.value,GT.args,hwb,hli,hwe,dropA_gc,refLt,res1,h1,h2,h3]
  exact take_app2
theorem callWTerm (t:GT) (hs:t.size≤10000000000) (hd:∃ d,termR d t=true) (σ:Heap) (id tt:Nat) (c0:List UInt8) (τ:Heap) (bs:Nat) (hid:id<σ.length) (ht:tt∈bldTs) (hl:c0.length+(shT t).length≤70368744177664) :
  callT T 115 [.ptr id 0,t.enc] bs (σ.set id (.bld tt 5 c0)++τ)=some (.tup [],σ.set id (.bld tt 5 (c0++shT t))++τ):=wterm_ok t.size t (Nat.le_refl _) hs hd σ id tt c0 τ bs hid ht hl
open Go.Mach
theorem at_join (agg:List UInt8) (p:Int):∀ (i:Nat) (l:List GT),joinF (shAt agg p) [44] (i+1) l=shAtC agg p (i+1) l
 | _,[]=>rfl
 | i,x :: l=>by simp only [joinF,shAtC,at_join agg p (i+1) l]; simp
theorem ats_join (agg:List UInt8) (p:Int) (l:List GT):joinF (shAt agg p) [44] 0 l=shAtS agg p 0 l:=by
 cases l with
 | nil=>rfl
 | cons x l=>simp only [joinF,shAtS,at_join]; simp
theorem watom (name agg:ByteArray) (at':Int) (l:List GT) (hn:name.size≤10000000000) (hg:agg.size≤10000000000) (hs:GT.sizes l≤10000000000) (hd:∀ x∈l,∃ d,termR d x=true) (σ:Heap) (id tt:Nat) (c0:List UInt8) (τ:Heap) (bs:Nat) (hid:id<σ.length) (ht:tt∈bldTs)
  (hl:c0.length+(shAtom name.data.toList l agg.data.toList at').length≤70368744177664) :
  callT T 80 [.ptr id 0,.str name,.isl (GT.encs l) false,.str agg,.int .i64 at'] bs (σ.set id (.bld tt 5 c0)++τ)=some (.tup [],σ.set id (.bld tt 5 (c0++shAtom name.data.toList l agg.data.toList at'))++τ):=by
 have hlen:=GT.len_sizes l
 have hnn:name.data.toList.length=name.size:=by simp
 have hgg:agg.data.toList.length=agg.size:=by simp
 have hsl:∀ o:AObj,(σ.set id o++τ).length=σ.length+τ.length:=fun o=>by simp
 simp only [shAtom,zqJ,zqU,List.length_nil,hnn] at hl
 have hlist:∀ (cur:List UInt8) (bs:Nat),cur.length+(shAtS agg.data.toList at' 0 l).length≤70368744177664 →
   callT T 113 [.ptr id 0,.isl (GT.encs l) false,.str ⟨#[44]⟩,.func 114 [.ptr (σ.length+τ.length+1) 0,.ptr (σ.length+τ.length+2) 0,.ptr (σ.length+τ.length) 0]] bs
    (σ.set id (.bld tt 5 cur)++(τ++[.cells [.ptr id 0] 0 false,.cells [.str agg] 0 false,.cells [.int .i64 at'] 0 false])) =
   some (.tup [],σ.set id (.bld tt 5 (cur++shAtS agg.data.toList at' 0 l))++(τ++[.cells [.ptr id 0] 0 false,.cells [.str agg] 0 false,.cells [.int .i64 at'] 0 false])):=fun cur bs hb=>by
  rw [←ats_join] at hb ⊢
  refine listTerm (shAt agg.data.toList at') ⟨#[44]⟩ l 114 _ σ id tt cur (τ++[.cells [.ptr id 0] 0 false,.cells [.str agg] 0 false,.cells [.int .i64 at'] 0 false]) hid ht (by omega) hb (fun i hi cur ρ bs hb2=>?_) bs
  have hx:=zqT hi
  have hxs:=(GT.sizes_mem hx).1
  have hxn:=GT.name_le l[i]
  have hk:∀ (j:Nat) (o:AObj) (r:Heap),([AObj.cells [.ptr id 0] 0 false,.cells [.str agg] 0 false,.cells [.int .i64 at'] 0 false]:Heap)[j]?=some o→(σ.set id (.bld tt 5 cur)++(τ++.cells [.ptr id 0] 0 false :: .cells [.str agg] 0 false :: .cells [.int .i64 at'] 0 false :: r))[σ.length+τ.length+j]?=some o:=fun j o r h=>by
   rw [←zqP,zqB (by simp)]
   have e:σ.length+τ.length+j - (σ.set id (.bld tt 5 cur)++τ).length=j:=by rw [hsl]; omega
   rw [e]
   have hj:j<3:=by have:=(zqI.1 h).1; simpa using this
   rw [←h]
   have:j=0∨j=1∨j=2:=by omega
   rcases this with rfl | rfl | rfl <;> simp
  have hk0:=fun r=>hk 0 _ r rfl
  have hk1:=fun r=>hk 1 _ r rfl
  have hk2:=fun r=>hk 2 _ r rfl
  rw [Nat.add_zero] at hk0
  refine heap_enter (af:=c114) (args':=[.int .i64 (i:Int),l[i].enc,.ptr (σ.length+τ.length+1) 0,.ptr (σ.length+τ.length+2) 0,.ptr (σ.length+τ.length) 0]) rfl rfl (by simp [c114]) (by simp [c114]) rfl ?_
  by_cases hc:agg.data.toList≠[]∧(i:Int)=at'
  ·have hag:agg≠⟨#[]⟩:=fun e=>hc.1 (ba_list_nil.2 e)
   have hsh:shAt agg.data.toList at' i l[i]=agg.data.toList++60 :: (l[i].name.data.toList++[62]):=by rw [shAt,if_pos hc]
   rw [hsh] at hb2 ⊢
   have hnx:l[i].name.data.toList.length=l[i].name.size:=by simp
   simp only [zqJ,zqU,List.length_nil,hgg,hnx] at hb2
   have hws:=fun r bs=>ws_at (σ:=σ) (τ:=τ++r) (s:=((agg++⟨#[60]⟩)++l[i].name)++⟨#[62]⟩) (l:=cur) bs hid ht (by have e1:(ByteArray.mk #[60]).size=1:=rfl; have e2:(ByteArray.mk #[62]).size=1:=rfl; simp only [ByteArray.size_append,e1,e2]; omega)
   have z1:(ByteArray.mk #[60]).size=1:=rfl
   have z2:(ByteArray.mk #[62]).size=1:=rfl
   have q1:(agg.size:Int)+1≤9223372036854775807:=by omega
   have q2:(agg.size:Int)+1+(l[i].name.size:Int)≤9223372036854775807:=by omega
   have q3:(agg.size:Int)+1+(l[i].name.size:Int)+1≤9223372036854775807:=by omega
   simp at hws
   simp [c114,baseA,hk0,hk1,hk2,hws,hag,hc.2,←GT.enc_eq,dropA_gc,refLt,res1,z1,z2,q1,q2,q3,ByteArray.size_append]
   exact take_eq [_] (by simp; rfl) (by simp)
  ·have hsh:shAt agg.data.toList at' i l[i]=shT l[i]:=by rw [shAt,if_neg hc]
   rw [hsh] at hb2 ⊢
   have hw:=fun r bs=>callWTerm l[i] (by omega) (hd _ hx) σ id tt cur (τ++r) bs hid ht hb2
   by_cases hag:agg=⟨#[]⟩
   ·subst hag
    simp [c114,baseA,hk0,hk1,hk2,hw,←GT.enc_eq,dropA_gc,refLt,res1]
    exact take_eq [_] (by simp; rfl) (by simp)
   ·have hat:¬ ((i:Int)=at'):=fun e=>hc ⟨fun h=>hag (ba_list_nil.1 h),e⟩
    simp [c114,baseA,hk0,hk1,hk2,hw,hag,hat,←GT.enc_eq,dropA_gc,refLt,res1]
    exact take_eq [_] (by simp; rfl) (by simp)
 have z1:(ByteArray.mk #[40,64]).size=2:=rfl
 have q1:(name.size:Int)+2≤9223372036854775807:=by omega
 have hws:=fun r bs=>ws_at (σ:=σ) (τ:=τ++r) (s:=name++⟨#[40,64]⟩) (l:=c0) bs hid ht (by simp only [ByteArray.size_append,z1]; omega)
 have hn2:(name++⟨#[40,64]⟩).data.toList.length=name.size+2:=by simp
 have b1:(c0++(name++⟨#[40,64]⟩).data.toList).length+(shAtS agg.data.toList at' 0 l).length≤70368744177664:=by rw [zqJ,hn2]; omega
 have hli:=fun bs=>hlist (c0++(name++⟨#[40,64]⟩).data.toList) bs b1
 have b2:(c0++(name++⟨#[40,64]⟩).data.toList++shAtS agg.data.toList at' 0 l).length+1≤70368744177664:=by rw [zqJ,zqJ,hn2]; omega
 have hwe:=fun r bs=>wb_at (σ:=σ) (τ:=τ++r) (n:=41) (l:=c0++(name++⟨#[40,64]⟩).data.toList++shAtS agg.data.toList at' 0 l) bs hid ht b2 (by decide) (by decide)
 simp [Nat.add_assoc] at hws hli hwe
 refine heap_enter (af:=c80) (args':=[.ptr id 0,.str name,.isl (GT.encs l) false,.str agg,.int .i64 at']) (σ1:=σ.set id (.bld tt 5 c0)++τ) rfl rfl (by simp [c80]) (by simp [c80]) rfl ?_
 simp [c80,baseA,hws,hli,hwe,z1,q1,dropA_gc,refLt,res1,shAtom]
 exact take_app2
open Go.Mach
theorem key_at {σ τ r:Heap} {id:Nat} {o a:AObj}:(σ.set id o++(τ++a :: r))[σ.length+τ.length]?=some a:=by
 rw [←zqP,zqB (by simp)]; simp
theorem args_ex {l:List GT} (h:∀ x∈l,termR 8 x=true):∀ x∈l,∃ d,termR d x=true:=fun x hx=>⟨8,h x hx⟩
theorem rel_size {s:ByteArray} (h:relOK s=true):s.size≤16:=((nameOK_iff s).1 (rel_name h).1).2.2
theorem var_size {s:ByteArray} (h:varOK s=true):s.size≤16:=((varOK_iff s).1 h).2.2
theorem test_size {s:ByteArray} (h:tOK s=true):s.size≤2:=by
 rcases of_decide_eq_true h with rfl | rfl | rfl | rfl | rfl | rfl <;> decide
theorem wlit_ok (x : GL) (hx : litB x = true) (hs : x.size ≤ 10000000000) (σ : Heap) (id tt : Nat) (c0 : List UInt8) (τ : Heap) (bs : Nat) (hid : id < σ.length) (ht : tt ∈ bldTs) (hl : c0.length + (shLit x).length ≤ 70368744177664) :
    callT T 83 [.ptr id 0, x.enc] bs (σ.set id (.bld tt 5 c0) ++ τ) = some (.tup [], σ.set id (.bld tt 5 (c0 ++ shLit x)) ++ τ) := by
  have hal := x.args_le
  have hsl : ∀ o : AObj, (σ.set id o ++ τ).length = σ.length + τ.length := fun o => by simp
  refine heap_enter (af := c83) (args' := [.ptr id 0, x.enc]) (σ1 := σ.set id (.bld tt 5 c0) ++ τ) rfl rfl (by simp [c83]) (by simp [c83]) rfl ?_
  have z0 : (ByteArray.mk #[32]).size = 1 := rfl
  have z4 : (ByteArray.mk #[32, 58, 61, 32]).size = 4 := rfl
  rcases lit_cases hx with ⟨hk, h1, h2⟩ | ⟨hk, h1, y, z, e, hy, hz⟩ | ⟨hk, h1, y, e, hy⟩
  · have hn := rel_size h1
    rcases hk with hk | hk
    · rw [sh1 hk] at hl ⊢
      have hat := fun r bs => watom x.name ⟨#[]⟩ 0 x.args (by omega) (by decide) (by omega) (args_ex (args_all h2)) σ id tt c0 (τ ++ r) bs hid ht hl
      simp at hat
      simp [c83, baseA, GL.enc_eq, hk, hat, dropA_gc, refLt, res1]
      exact take_app2
    · rw [sh2 hk] at hl ⊢
      simp only [zqU] at hl
      have hwb := fun r bs => wb_at (σ := σ) (τ := τ ++ r) (n := 33) (l := c0) bs hid ht (by omega) (by decide) (by decide)
      have hat := fun r bs => watom x.name ⟨#[]⟩ 0 x.args (by omega) (by decide) (by omega) (args_ex (args_all h2)) σ id tt (c0 ++ [33]) (τ ++ r) bs hid ht (by simp only [zqJ, zqU, List.length_nil]; show _ + (shAtom x.name.data.toList x.args [] 0).length ≤ _; omega)
      simp at hat hwb
      simp [c83, baseA, GL.enc_eq, hk, hat, hwb, dropA_gc, refLt, res1]
      exact take_app2
  · have hn := test_size h1
    have hp : shLit x = shTs (32 :: (x.name.data.toList ++ [32])) x.args := by simp [shLit, hk]
    rw [hp] at hl ⊢
    have hsep : ((⟨#[32]⟩ ++ x.name) ++ ⟨#[32]⟩ : ByteArray).data.toList = 32 :: (x.name.data.toList ++ [32]) := by simp
    have hli : ∀ (o : AObj) (bs : Nat), callT T 113 [.ptr id 0, .isl (GT.encs x.args) false, .str ((⟨#[32]⟩ ++ x.name) ++ ⟨#[32]⟩), .func 116 [.ptr (σ.length + τ.length) 0]] bs (σ.set id (.bld tt 5 c0) ++ (τ ++ [.cells [.ptr id 0] 0 false, o])) =
          some (.tup [], σ.set id (.bld tt 5 (c0 ++ shTs (32 :: (x.name.data.toList ++ [32])) x.args)) ++ (τ ++ [.cells [.ptr id 0] 0 false, o])) := fun o bs => by
      rw [← hsep, ← ts_join] at hl ⊢
      refine listTerm (fun _ => shT) _ x.args 116 [.ptr (σ.length + τ.length) 0] σ id tt c0 (τ ++ [.cells [.ptr id 0] 0 false, o]) hid ht (by have := GT.len_sizes x.args; omega) hl (fun i hi cur ρ bs hb2 => ?_) bs
      have hm := zqT hi
      have hex : ∃ d, termR d x.args[i] = true := by
        refine args_ex (l := x.args) (fun w hw => ?_) _ hm
        rw [e] at hw; simp at hw; rcases hw with rfl | rfl; exact hy; exact hz
      have hw := fun r bs => callWTerm x.args[i] (by have := (GT.sizes_mem hm).1; omega) hex σ id tt cur (τ ++ r) bs hid ht hb2
      refine heap_enter (af := c116) (args' := [.int .i64 (i : Int), x.args[i].enc, .ptr (σ.length + τ.length) 0]) rfl rfl (by simp [c116]) (by simp [c116]) rfl ?_
      simp [c116, baseA, key_at, hw, ← GT.enc_eq, dropA_gc, refLt, res1]
      exact take_eq [_] (by simp; rfl) (by simp)
    have q1 : (1 : Int) + (x.name.size : Int) ≤ 9223372036854775807 := by omega
    have q2 : (1 : Int) + (x.name.size : Int) + 1 ≤ 9223372036854775807 := by omega
    simp [c83, baseA, GL.enc_eq, hk, hli, z0, q1, q2, dropA_gc, refLt, res1, ByteArray.size_append]
    exact take_app2
  · have hn := var_size h1
    have hns : x.name.data.toList.length = x.name.size := by simp
    rw [sh4 hk e] at hl ⊢
    simp only [zqJ, zqU, hns] at hl
    have hy8 : y.size ≤ 10000000000 := by have := (GT.sizes_mem (l := x.args) (x := y) (by simp [e])).1; omega
    have b1 : (x.name ++ ⟨#[32, 58, 61, 32]⟩).data.toList.length = x.name.size + 4 := by simp
    have hws := fun r bs => ws_at (σ := σ) (τ := τ ++ r) (s := x.name ++ ⟨#[32, 58, 61, 32]⟩) (l := c0) bs hid ht (by simp only [ByteArray.size_append, z4]; omega)
    have hw := fun r bs => callWTerm y hy8 ⟨8, hy⟩ σ id tt (c0 ++ (x.name ++ ⟨#[32, 58, 61, 32]⟩).data.toList) (τ ++ r) bs hid ht (by rw [zqJ, b1]; omega)
    have q1 : (x.name.size : Int) + 4 ≤ 9223372036854775807 := by omega
    simp at hws hw
    simp [c83, baseA, GL.enc_eq, hk, hws, hw, z4, q1, e, ← GT.enc_eq, dropA_gc, refLt, res1]
    exact take_app2
open Go.Mach
mutual
theorem sh_len:∀ (t:GT) (d:Nat),termR d t=true→(shT t).length+1≤27 * t.size
 | .mk k n v l,d,h=>by
  obtain ⟨hd,h'⟩:=term_cases h
  rcases h' with ⟨n',e,hn⟩ | ⟨v',e,hv,_⟩ | ⟨n',l',e,hn,hl⟩ | ⟨n',l',e,ho,h2,hl⟩ <;> injection e with e1 e2 e3 e4 <;> subst e1 e2 e3 e4
  ·have:n.data.toList.length=n.size:=by simp
   simp only [shT,if_true,this,GT.size,GV.size,GT.sizes,GV.sizes]; omega
  ·have:=pr_len v (right_okV _ _ hv)
   have hp:shT (.mk 2 ⟨#[]⟩ v [])=pr v:=by simp [shT]
   rw [hp]
   simp only [GT.size]; omega
  ·have hp:shT (.mk 3 n nil0 l)=n.data.toList++40 :: (shTs [44] l++[41]):=by simp [shT]
   have hh:=shs_len l [44] (d - 1) (by simp) hl
   have:n.data.toList.length=n.size:=by simp
   rw [hp]
   simp only [zqJ,zqU,List.length_nil,this,GT.size,GV.size,GV.sizes]; omega
  ·have hp:shT (.mk 4 n nil0 l)=40 :: (shTs n.data.toList l++[41]):=by simp [shT]
   obtain ⟨c,q1,_⟩:=op_char ho
   have hh:=shs_len l n.data.toList (d - 1) (by rw [q1]; simp) hl
   rw [hp]
   simp only [zqJ,zqU,List.length_nil,GT.size,GV.size,GV.sizes]; omega
theorem shs_len:∀ (l:List GT) (sep:List UInt8) (d:Nat),sep.length≤1→(∀ x∈l,termR d x=true)→(shTs sep l).length≤27 * GT.sizes l
 | [],sep,d,_,_=>by simp [shTs]
 | x :: l,sep,d,hs,h=>by
  have h1:=sh_len x d (h x (by simp))
  have h2:=shc_len l sep d hs fun y hy=>h y (by simp [hy])
  simp only [shTs,zqJ,GT.sizes]; omega
theorem shc_len:∀ (l:List GT) (sep:List UInt8) (d:Nat),sep.length≤1→(∀ x∈l,termR d x=true)→(shTc sep l).length≤27 * GT.sizes l
 | [],sep,d,_,_=>by simp [shTc]
 | x :: l,sep,d,hs,h=>by
  have h1:=sh_len x d (h x (by simp))
  have h2:=shc_len l sep d hs fun y hy=>h y (by simp [hy])
  simp only [shTc,zqJ,GT.sizes]; omega
end
theorem at_len {agg:List UInt8} {p:Int} {i d:Nat} {t:GT} (ha:agg.length≤5) (h:termR d t=true):(shAt agg p i t).length+1≤28 * t.size:=by
 have h1:=sh_len t d h
 have:t.name.data.toList.length=t.name.size:=by simp
 have h3:t.name.size+3≤t.size:=by obtain ⟨k,n,⟨vk,vn,vt,vl⟩,l⟩:=t; simp only [GT.size,GT.name,GV.size]; omega
 unfold shAt
 split
 ·simp only [zqJ,zqU,List.length_nil,this]; omega
 ·omega
theorem atc_len {agg:List UInt8} {p:Int} {d:Nat} (ha:agg.length≤5):∀ (i:Nat) (l:List GT),(∀ x∈l,termR d x=true)→(shAtC agg p i l).length≤28 * GT.sizes l
 | _,[],_=>by simp [shAtC]
 | i,x :: l,h=>by
  have h1:=at_len (p:=p) (i:=i) ha (h x (by simp))
  have h2:=atc_len ha (p:=p) (i+1) l fun y hy=>h y (by simp [hy])
  simp only [shAtC,zqJ,zqU,GT.sizes]; omega
theorem ats_len {agg:List UInt8} {p:Int} {d:Nat} (ha:agg.length≤5) (i:Nat) (l:List GT) (h:∀ x∈l,termR d x=true):(shAtS agg p i l).length≤28 * GT.sizes l:=by
 cases l with
 | nil=>simp [shAtS]
 | cons x l=>
  have h1:=at_len (p:=p) (i:=i) ha (h x (by simp))
  have h2:=atc_len ha (p:=p) (i+1) l fun y hy=>h y (by simp [hy])
  simp only [shAtS,zqJ,GT.sizes]; omega
theorem lit_len {x:GL} (h:litB x=true):(shLit x).length+2≤28 * x.size:=by
 have hsz:x.size=x.name.size+GT.sizes x.args+4:=by simp only [GL.size,GL.enc,bulkA,bulkAs,GT.bulk_encs]; omega
 have hn:x.name.data.toList.length=x.name.size:=by simp
 rw [hsz]
 rcases lit_cases h with ⟨hk,h1,h2⟩ | ⟨hk,h1,y,z,e,hy,hz⟩ | ⟨hk,h1,y,e,hy⟩
 ·have hh:=ats_len (agg:=[]) (p:=0) (by simp) 0 x.args (args_all h2)
  rcases hk with hk | hk
  ·rw [sh1 hk]; simp only [shAtom,zqJ,zqU,List.length_nil,hn]; omega
  ·rw [sh2 hk]; simp only [shAtom,zqJ,zqU,List.length_nil,hn]; omega
 ·rw [sh3 hk e,e]
  have h2:=sh_len y 8 hy
  have h3:=sh_len z 8 hz
  simp only [zqJ,zqU,hn,GT.sizes]; omega
 ·rw [sh4 hk e,e]
  have h2:=sh_len y 8 hy
  simp only [zqJ,zqU,hn,GT.sizes]; omega
theorem litc_len:∀ l:List GL,(∀ x∈l,litB x=true)→(shLitC l).length≤28 * bulkAs (l.map GL.enc)
 | [],_=>by simp [shLitC]
 | x :: l,h=>by
  have h1:=lit_len (h x (by simp))
  have h2:=litc_len l fun y hy=>h y (by simp [hy])
  have e:bulkA x.enc=x.size:=rfl
  simp only [shLitC,zqJ,zqU,List.map_cons,bulkAs,e]; omega
theorem lits_len (l:List GL) (h:∀ x∈l,litB x=true):(shLitS l).length≤28 * bulkAs (l.map GL.enc):=by
 cases l with
 | nil=>simp [shLitS]
 | cons x l=>
  have h1:=lit_len (h x (by simp))
  have h2:=litc_len l fun y hy=>h y (by simp [hy])
  have e:bulkA x.enc=x.size:=rfl
  simp only [shLitS,zqJ,List.map_cons,bulkAs,e]; omega
theorem agg_len {r:GR} (h:aggB r=true):r.agg.size≤5:=by
 have hn:r.agg.data.toList.length=r.agg.size:=by simp
 rcases (agg_L h).1 with e | e | e | e <;> (rw [←hn,e]; decide)
theorem rule_len {x:GR} (h:ruleB x=true):(shRule x).length+1≤28 * x.size:=by
 have hsz:x.size=x.label.size+x.head.size+GT.sizes x.args+x.agg.size+bulkAs (x.body.map GL.enc)+7:=by simp only [GR.size,GR.enc,bulkA,bulkAs,GT.bulk_encs]; omega
 have hn:x.label.data.toList.length=x.label.size:=by simp
 have hn2:x.head.data.toList.length=x.head.size:=by simp
 have hn3:x.agg.data.toList.length=x.agg.size:=by simp
 simp only [ruleB,zqL,decide_eq_true_eq,zqQ] at h
 obtain ⟨⟨⟨⟨⟨a1,a2⟩,a3⟩,a4⟩,a5⟩,a6⟩:=h
 have h1:=ats_len (agg:=x.agg.data.toList) (p:=x.pos) (by rw [hn3]; exact agg_len a6) 0 x.args (args_all a3)
 have h2:=lits_len x.body a5
 rw [hsz]
 simp only [shRule,shAtom,zqJ,zqU,List.length_nil,hn,hn2]; omega
theorem flat_len {α:Type} (f:α→List UInt8) (enc:α→AV) (l:List α) (h:∀ x∈l,(f x).length≤28 * bulkA (enc x)):(l.flatMap f).length≤28 * bulkAs (l.map enc):=by
 induction l with
 | nil=>simp
 | cons x l ih=>
  have h1:=h x (by simp)
  have h2:=ih fun y hy=>h y (by simp [hy])
  simp only [List.flatMap_cons,zqJ,List.map_cons,bulkAs]; omega
open Go.Mach
theorem lc_join:∀ (i:Nat) (l:List GL),joinF (fun _=>shLit) [44,32] (i+1) l=shLitC l
 | _,[]=>rfl
 | i,x :: l=>by simp only [joinF,shLitC,lc_join (i+1) l]; simp
theorem ls_join (l:List GL):joinF (fun _=>shLit) [44,32] 0 l=shLitS l:=by
 cases l with
 | nil=>rfl
 | cons x l=>simp only [joinF,shLitS,lc_join]; simp
theorem wrule_ok (x:GR) (hx:ruleB x=true) (hs:x.size≤10000000000) (σ:Heap) (id tt:Nat) (c0:List UInt8) (τ:Heap) (bs:Nat) (hid:id<σ.length) (ht:tt∈bldTs) (hl:c0.length+(shRule x).length≤70368744177664) :
  callT T 47 [.ptr id 0,x.enc] bs (σ.set id (.bld tt 5 c0)++τ)=some (.tup [],σ.set id (.bld tt 5 (c0++shRule x))++τ):=by
 have hal:=x.args_le
 have hbl:=x.body_len
 have hbm:=fun y hy=>x.body_mem (y:=y) hy
 simp only [ruleB,zqL,decide_eq_true_eq,zqQ] at hx
 obtain ⟨⟨⟨⟨⟨a1,a2⟩,a3⟩,a4⟩,a5⟩,a6⟩:=hx
 have n1:=rel_size a1
 have n2:=rel_size a2
 have n3:=agg_len a6
 have e1:x.label.data.toList.length=x.label.size:=by simp
 have z1:(ByteArray.mk #[32]).size=1:=rfl
 have z2:(ByteArray.mk #[32,58,45,32]).size=4:=rfl
 have q1:(x.label.size:Int)+1≤9223372036854775807:=by omega
 have hsl:∀ o:AObj,(σ.set id o++τ).length=σ.length+τ.length:=fun o=>by simp
 generalize hA:shAtom x.head.data.toList x.args x.agg.data.toList x.pos=A at *
 have hR:shRule x=x.label.data.toList++32 :: (A++32 :: 58 :: 45 :: 32 :: (shLitS x.body++[46])):=by rw [←hA]; rfl
 rw [hR] at hl ⊢
 simp only [zqJ,zqU,List.length_nil,e1] at hl
 have s1:=fun r bs=>ws_at (σ:=σ) (τ:=τ++r) (s:=x.label++⟨#[32]⟩) (l:=c0) bs hid ht (by simp only [ByteArray.size_append,z1]; omega)
 have d1:(x.label++⟨#[32]⟩).data.toList=x.label.data.toList++[32]:=by simp
 rw [d1] at s1
 have s2:=fun r bs=>watom x.head x.agg x.pos x.args (by omega) (by omega) (by omega) (args_ex (args_all a3)) σ id tt (c0++(x.label.data.toList++[32])) (τ++r) bs hid ht (by rw [hA]; simp only [zqJ,zqU,List.length_nil,e1]; omega)
 rw [hA] at s2
 have s3:=fun r bs=>ws_at (σ:=σ) (τ:=τ++r) (s:=⟨#[32,58,45,32]⟩) (l:=c0++(x.label.data.toList++[32])++A) bs hid ht (by simp only [zqJ,zqU,List.length_nil,e1,z2]; omega)
 have s4:∀ (o:AObj) (bs:Nat),callT T 81 [.ptr id 0,.isl (x.body.map GL.enc) false,.str ⟨#[44,32]⟩,.func 82 [.ptr (σ.length+τ.length) 0]] bs (σ.set id (.bld tt 5 (c0++(x.label.data.toList++[32])++A++[32,58,45,32]))++(τ++[.cells [.ptr id 0] 0 false,o])) =
   some (.tup [],σ.set id (.bld tt 5 (c0++(x.label.data.toList++[32])++A++[32,58,45,32]++shLitS x.body))++(τ++[.cells [.ptr id 0] 0 false,o])):=fun o bs=>by
  rw [←ls_join]
  refine listLiteral (fun _=>shLit) ⟨#[44,32]⟩ x.body 82 [.ptr (σ.length+τ.length) 0] σ id tt _ (τ++[.cells [.ptr id 0] 0 false,o]) hid ht (by omega) (by show _+(joinF (fun _=>shLit) [44,32] 0 x.body).length≤_; rw [ls_join]; simp only [zqJ,zqU,List.length_nil,e1]; omega) (fun i hi cur ρ bs hb2=>?_) bs
  have hm:=zqT hi
  have hw:=fun r bs=>wlit_ok x.body[i] (a5 _ hm) (by have:=hbm _ hm; omega) σ id tt cur (τ++r) bs hid ht hb2
  refine heap_enter (af:=c82) (args':=[.int .i64 (i:Int),x.body[i].enc,.ptr (σ.length+τ.length) 0]) rfl rfl (by simp [c82]) (by simp [c82]) rfl ?_
  simp [c82,baseA,key_at,hw,←GL.enc_eq,dropA_gc,refLt,res1]
  exact take_eq [_] (by simp; rfl) (by simp)
 have s5:=fun r bs=>wb_at (σ:=σ) (τ:=τ++r) (n:=46) (l:=c0++(x.label.data.toList++[32])++A++[32,58,45,32]++shLitS x.body) bs hid ht (by simp only [zqJ,zqU,List.length_nil,e1]; omega) (by decide) (by decide)
 simp at s1 s2 s3 s4 s5
 refine heap_enter (af:=c47) (args':=[.ptr id 0,x.enc]) (σ1:=σ.set id (.bld tt 5 c0)++τ) rfl rfl (by simp [c47]) (by simp [c47]) rfl ?_
 simp [c47,baseA,GR.enc_eq,s1,s2,s3,s4,s5,z1,q1,dropA_gc,refLt,res1]
 exact take_app2
open Go.Mach
open Go.Mach
def textRule (x:GR):ByteArray:=if ruleB x=true then S (shRule x) else S []
theorem textRule_ok (b:Bool) (x:GR) (hb:b=true→ruleB x=true) (hs:x.size≤10000000000):pureT T c45 [.bool b,x.enc,.func 47 []]=some (.str (if b=true then S (shRule x) else S [])):=by
 apply pure_enter (by simp [c45])
 cases b
 ·simp [c45,S]
 ·have hx:=hb rfl
  have hln:=rule_len hx
  have hw:=fun o bs=>wrule_ok x hx (by omega) [o,.dead] 1 124 [] [] bs (by simp) (by decide) (by simp only [List.length_nil]; omega)
  have hst:=fun o bs=>callStr (σ:=[o,.bld 124 5 (shRule x)]) (id:=1) (l:=shRule x) bs rfl (by omega)
  simp at hw hst
  simp [c45,hw,hst,setRun,S,←GR.enc_eq]
theorem pRule_ok (x:GR) (hs:x.size≤10000000000):pureT T c23 [x.enc]=some (.str (textRule x)):=by
 have h1:=callPRule x (by omega)
 have h2:∀ bs σ,callT T 45 [.bool (ruleB x),x.enc,.func 47 []] bs σ=some (.str (textRule x),σ):=fun bs σ=>call_clean rfl rfl rfl (by simp) (by rw [textRule_ok (ruleB x) x (fun h=>h) hs]; rfl)
 apply pure_enter (by simp [c23])
 generalize (ruleB x)=b at *
 simp [c23,h1,h2,sym,←GR.enc_eq]
theorem sayRule (x:GR) (hs:x.size≤10000000000) (bs:Nat) (σ:Heap):callT T 23 [x.enc] bs σ=some (.str (textRule x),σ):=call_clean rfl rfl rfl (by simp) (pRule_ok x hs)
open Go.Mach
def varOf (s:ByteArray):ByteArray:=⟨#[86]⟩++(nameFit s).extract 1 (nameFit s).size
theorem lawVar_ok (s:ByteArray) (hs:s.size≤100000000000):pureT T c35 [.str s]=some (.str (varOf s)):=by
 have hn:=nameFit_size s
 have hc:=lawName s hs
 have h1:(⟨#[86]⟩:ByteArray).size=1:=rfl
 have h2:((nameFit s).extract 1 (nameFit s).size).size=(nameFit s).size - 1:=by rw [ByteArray.size_extract]; omega
 apply pure_enter (by simp [c35])
 have h0:(1:Int)≤((nameFit s).size:Int):=by omega
 have h3:(1:Int)+(((nameFit s).size - 1:Nat):Int)≤9223372036854775807:=by omega
 simp [c35,hc,h0,h1,h3,varOf]
theorem lawVar (s:ByteArray) (hs:s.size≤100000000000) (bs:Nat) (σ:Heap):callT T 35 [.str s] bs σ=some (.str (varOf s),σ):=call_clean rfl rfl rfl (by simp) (lawVar_ok s hs)
def relOf (s:ByteArray):ByteArray:=if 0≤arityOf (nameFit s)∨nameFit s=⟨#[109,97,116,101,114,105,97,108,105,122,101]⟩ then ⟨#[110]⟩ else nameFit s
theorem lawRel_ok (s:ByteArray) (hs:s.size≤100000000000):pureT T c30 [.str s]=some (.str (relOf s)):=by
 have hc:=lawName s hs
 have ha:=refArity (nameFit s)
 apply pure_enter (by simp [c30])
 simp [c30,hc,ha]
 unfold relOf
 grind
theorem lawRel (s:ByteArray) (hs:s.size≤100000000000) (bs:Nat) (σ:Heap):callT T 30 [.str s] bs σ=some (.str (relOf s),σ):=call_clean rfl rfl rfl (by simp) (lawRel_ok s hs)
theorem pick4_ok (c n:Int) (h:n≠0):pureT T c31 [.int .i64 c,.int .i64 n]=some (.int .i64 ((if c<0 then IntKind.i64.wrap (0 - IntKind.i64.wrap (c+1)) else c).tmod n)):=by
 apply pure_enter (by simp [c31])
 by_cases hc:c<0
 ·simp [c31,hc,h]
 ·simp [c31,hc,h]
theorem pickQ (c:Int) (n:Nat) (h:0<n) (h1:GV.i64ok c) (bs:Nat) (σ:Heap) :
  callT T 31 [.int .i64 c,.int .i64 (n:Int)] bs σ=some (.int .i64 (pickN c n:Int),σ):=by
 refine call_clean rfl rfl rfl rfl ?_
 rw [pick4_ok c n (by omega),pick_eq c n h h1.1 h1.2]
theorem pickQ4 (c:Int) (h1:GV.i64ok c) (bs:Nat) (σ:Heap):callT T 31 [.int .i64 c,.int .i64 4] bs σ=some (.int .i64 (pickN c 4:Int),σ):=pickQ c 4 (by omega) h1 bs σ
theorem pickQ6 (c:Int) (h1:GV.i64ok c) (bs:Nat) (σ:Heap):callT T 31 [.int .i64 c,.int .i64 6] bs σ=some (.int .i64 (pickN c 6:Int),σ):=pickQ c 6 (by omega) h1 bs σ
theorem pickQ3 (c:Int) (h1:GV.i64ok c) (bs:Nat) (σ:Heap):callT T 31 [.int .i64 c,.int .i64 3] bs σ=some (.int .i64 (pickN c 3:Int),σ):=pickQ c 3 (by omega) h1 bs σ
theorem wrap_ok (n:Int):GV.i64ok (IntKind.i64.wrap n):=by unfold GV.i64ok; rw [IntKind.wrap_i64]; omega
def fnOf (n:Nat):ByteArray:=if n=0 then sCons else if n=1 then sSize else if n=2 then sMember else if n=3 then sFirst else if n=4 then sReverse else sConcat
def opOf (n:Nat):ByteArray:=if n=0 then ⟨#[43]⟩ else if n=1 then ⟨#[45]⟩ else ⟨#[42]⟩
def valOf (v:GV):GV:=if (fit v).kind=3 then .mk (fit v).kind (fit v).num (relOf (fit v).text) (fit v).items else fit v
def leafT (t:GT):GT:=if pickN t.kind 4 % 2=0 then .mk 1 (varOf t.name) nilV [] else .mk 2 ⟨#[]⟩ (valOf t.value) []
def termV:Nat→GT→GT
 | 0,t=>leafT t
 | d+1,t=>
  if d=0∨t.args.length<2 then leafT t
  else if pickN t.kind 4=0 then .mk 1 (varOf t.name) nilV []
  else if pickN t.kind 4=1 then .mk 2 ⟨#[]⟩ (valOf t.value) []
  else if pickN t.kind 4=2 then
   .mk 3 (fnOf (pickN (IntKind.i64.wrap ((t.name.size:Int)+t.kind)) 6)) nilV ((t.args.take (arityOf (fnOf (pickN (IntKind.i64.wrap ((t.name.size:Int)+t.kind)) 6))).toNat).map (termV d))
  else .mk 4 (opOf (pickN t.name.size 3)) nilV ((t.args.take 2).map (termV d))
theorem term_leaf (d:Int) (t:GT) (ht:t.ok) (hs:t.size≤100000000000) (h:d≤1∨t.args.length<2):pureT T c55 [t.enc,.int .i64 d]=some (leafT t).enc:=by
 have hk:GV.i64ok t.kind∧t.value.ok:=by revert ht; cases t; simp only [GT.ok]; exact fun h=>⟨h.1,h.2.1⟩
 have hp:=pickQ4 t.kind hk.1
 have hv:=lawVar t.name (Nat.le_trans (GT.name_le t) hs)
 have hf:=callFit t.value hk.2 (Nat.le_trans (GT.value_le t) hs)
 have hpl:=pickN_lt (c:=t.kind) (n:=4) (by omega)
 have htm:((pickN t.kind 4:Int)).tmod 2=((pickN t.kind 4 % 2:Nat):Int):=rfl
 have hfs:(fit t.value).text.size≤100000000000:=Nat.le_trans (Nat.le_trans (text_le _) (fit_size _)) (by omega)
 have hr:=lawRel (fit t.value).text hfs
 apply pure_enter (by simp [c55])
 have hcond:d≤1∨(¬ d≤1∧((t.args.length:Int)<2)):=by omega
 rcases hcond with hd | ⟨hd,hl⟩
 ·by_cases hz:pickN t.kind 4 % 2=0
  ·simp [c55,hp,htm,hd,hz,hv,setRun]
   simp [leafT,hz,GT.enc,nilV]
  ·have hz1:pickN t.kind 4 % 2=1:=by omega
   simp [c55,hp,htm,hd,hz1,hf,setRun,enc_mk,hr]
   refine ⟨fun h=>?_,fun h=>?_⟩
   all_goals simp [leafT,hz1,GT.enc,valOf,h]
 ·by_cases hz:pickN t.kind 4 % 2=0
  ·simp [c55,hp,htm,hd,hl,hz,hv,setRun]
   simp [leafT,hz,GT.enc,nilV]
  ·have hz1:pickN t.kind 4 % 2=1:=by omega
   simp [c55,hp,htm,hd,hl,hz1,hf,setRun,enc_mk,hr]
   refine ⟨fun h=>?_,fun h=>?_⟩
   all_goals simp [leafT,hz1,GT.enc,valOf,h]
theorem fnOf_arity (n:Nat):arityOf (fnOf n)=if n=0∨n=2∨5≤n then 2 else 1:=by
 unfold fnOf
 by_cases h0:n=0
 ·subst h0; decide
 ·by_cases h1:n=1
  ·subst h1; decide
  ·by_cases h2:n=2
   ·subst h2; decide
   ·by_cases h3:n=3
    ·subst h3; decide
    ·by_cases h4:n=4
     ·subst h4; decide
     ·rw [if_neg h0,if_neg h1,if_neg h2,if_neg h3,if_neg h4,if_pos (by omega)]; decide
theorem term_call (d:Nat) (hd0:0<d) (hd:d≤100) (t:GT) (ht:t.ok) (hs:t.size≤100000000000) (h2:2≤t.args.length) (hk:pickN t.kind 4=2) (g:GT→GT)
  (hg:∀ x∈t.args,∀ bs σ,callT T 55 [x.enc,.int .i64 (d:Int)] bs σ=some ((g x).enc,σ)) (fn:ByteArray) (hfn:fn=fnOf (pickN (IntKind.i64.wrap ((t.name.size:Int)+t.kind)) 6)) :
  pureT T c55 [t.enc,.int .i64 ((d:Int)+1)]=some (GT.mk 3 fn nilV ((t.args.take (arityOf fn).toNat).map g)).enc:=by
 have hk1:GV.i64ok t.kind:=by revert ht; cases t; simp only [GT.ok]; exact fun h=>h.1
 have hp:=pickQ4 t.kind hk1
 rw [hk] at hp
 have hp6:=pickQ6 _ (wrap_ok ((t.name.size:Int)+t.kind))
 have hlt:=pickN_lt (c:=IntKind.i64.wrap ((t.name.size:Int)+t.kind)) (n:=6) (by omega)
 have har:=fnOf_arity (pickN (IntKind.i64.wrap ((t.name.size:Int)+t.kind)) 6)
 rw [←hfn] at har
 generalize pickN (IntKind.i64.wrap ((t.name.size:Int)+t.kind)) 6=m at *
 have hdd:¬ ((d:Int)+1≤1):=by omega
 have hll:¬ ((t.args.length:Int)<2):=by omega
 have hget:∀ σ:Heap,∀ L:List AV,L=[AV.str sCons,.str sSize,.str sMember,.str sFirst,.str sReverse,.str sConcat]→(window L m 1).bind (mk false)=some (.str fn):=by
  intro σ L e; subst e hfn
  match m,hlt with
  | 0,_=>rfl
  | 1,_=>rfl
  | 2,_=>rfl
  | 3,_=>rfl
  | 4,_=>rfl
  | 5,_=>rfl
 obtain ⟨a,ha,ha1,ha2⟩:∃ a:Nat,arityOf fn=(a:Int)∧1≤a∧a≤2:=by
  rw [har]; split
  ·exact ⟨2,rfl,by omega,by omega⟩
  ·exact ⟨1,rfl,by omega,by omega⟩
 have hary:=refArity fn
 rw [ha] at hary ⊢
 have hw2:=hget [] _ rfl
 have hlt':(m:Int)<6:=by omega
 apply pure_enter (by simp [c55])
 simp [c55,hp,hdd,hll,hp6,hlt',setRun,hw2]
 refine W_for T 0 103 a (fun i f σ=>f 1=.int .i64 ((d:Int)+1)∧f 2=.ptr 0 0∧f 4=.ptr 1 0∧f 7=.str fn∧f 8=.ptr 3 0∧f 9=.int .i64 (i:Int)∧∃ S lst rest,
  σ=[.cells [.int .i64 t.kind,.str t.name,.int .i64 t.value.kind,.int .i64 t.value.num,.str t.value.text,.isl (GV.encs t.value.items) false,.isl (GT.encs t.args) false] 0 false,
   .cells [.int .i64 0,.str ⟨#[]⟩,.int .i64 0,.int .i64 0,.str ⟨#[]⟩,.isl [] true,.isl [] true] 0 false,S,
   .cells [.int .i64 3,.str fn,.int .i64 0,.int .i64 0,.str ⟨#[]⟩,.isl [] true,lst] 0 false]++rest ∧
  LstAt rest 4 (GT.encs ((t.args.take i).map g)) 7 lst) ?_ _ _ ?_
 ·rintro i f σ hi ⟨h1,h2',h4,h7,h8,h9,S,lst,rest,rfl,hlst⟩
  by_cases hia:i<a
  ·have hw:IntKind.i64.wrap ((i:Int)+1)=(i:Int)+1:=wr64 (by omega) (by omega)
   have hwd:IntKind.i64.wrap (d:Int)=(d:Int):=wr64 (by omega) (by omega)
   have hc1:i<t.args.length:=by omega
   have hcl:=hg t.args[i] (zqT hc1)
   have htk:(t.args.take (i+1)).map g=(t.args.take i).map g++[g t.args[i]]:=by rw [List.take_add_one,zqF hc1,List.map_append]; rfl
   have hlen:((t.args.take i).map g).length=i:=by simp; omega
   rw [htk]
   generalize (t.args.take i).map g=done at *
   have hdl:done.length≤10000000000:=by omega
   rcases hlst with ⟨he,rfl⟩ | ⟨kk,rfl,hkl,hkk⟩
   ·have hd0:done=[]:=(GT.encs_nil _).1 he
    simp [h1,h2',h4,h7,h8,h9,hia,hc1,hw,hwd,hary,setRun,hcl,GT.enc_mk]
    exact ⟨_,_,_,⟨rfl,rfl,rfl⟩,.inr ⟨rest.length+1,by simp [hd0],by simp,by simp [hd0]⟩⟩
   ·simp [h1,h2',h4,h7,h8,h9,hia,hc1,hw,hwd,hary,setRun,hcl,GT.enc_mk,zqA hkl,hkk,List.set_append_left _ _ hkl,hdl]
    exact ⟨_,_,_,⟨rfl,rfl,rfl⟩,.inr ⟨kk,rfl,by simp; omega,by rw [zqA (by simpa using hkl)]; simp [hkl]⟩⟩
  ·have he:i=a:=by omega
   subst he
   rcases hlst with ⟨he2,rfl⟩ | ⟨kk,rfl,hkl,hkk⟩
   ·simp [h1,h2',h4,h7,h8,h9,hary,setRun,GT.enc,he2,←List.map_take,nilV]
   ·simp [h1,h2',h4,h7,h8,h9,hary,setRun,GT.enc,←List.map_take,nilV]
 ·exact ⟨by simp,by simp,by simp,by simp,by simp,by simp,_,_,[],rfl,.inl ⟨by simp,rfl⟩⟩
theorem term_op (d:Nat) (hd0:0<d) (hd:d≤100) (t:GT) (ht:t.ok) (hs:t.size≤100000000000) (h2:2≤t.args.length) (hk:pickN t.kind 4=3) (g:GT→GT)
  (hg:∀ x∈t.args,∀ bs σ,callT T 55 [x.enc,.int .i64 (d:Int)] bs σ=some ((g x).enc,σ)) (fn:ByteArray) (hfn:fn=opOf (pickN t.name.size 3)) :
  pureT T c55 [t.enc,.int .i64 ((d:Int)+1)]=some (GT.mk 4 fn nilV ((t.args.take 2).map g)).enc:=by
 have hk1:GV.i64ok t.kind:=by revert ht; cases t; simp only [GT.ok]; exact fun h=>h.1
 have hp:=pickQ4 t.kind hk1
 rw [hk] at hp
 have hns:=GT.name_le t
 have hp3:=pickQ3 (t.name.size:Int) ⟨by omega,by omega⟩
 have hlt:=pickN_lt (c:=(t.name.size:Int)) (n:=3) (by omega)
 generalize pickN (t.name.size:Int) 3=m at *
 have hdd:¬ ((d:Int)+1≤1):=by omega
 have hll:¬ ((t.args.length:Int)<2):=by omega
 have hget:∀ L:List AV,L=[AV.str ⟨#[43]⟩,.str ⟨#[45]⟩,.str ⟨#[42]⟩]→(window L m 1).bind (mk false)=some (.str fn):=by
  intro L e; subst e hfn
  match m,hlt with
  | 0,_=>rfl
  | 1,_=>rfl
  | 2,_=>rfl
 have hw2:=hget _ rfl
 have hlt':(m:Int)<3:=by omega
 obtain ⟨x,y,l,hargs⟩:∃ x y l,t.args=x :: y :: l:=by
  match t.args,h2 with
  | x :: y :: l,_=>exact ⟨x,y,l,rfl⟩
 have hx:=hg x (by simp [hargs])
 have hy:=hg y (by simp [hargs])
 have hwd:IntKind.i64.wrap (d:Int)=(d:Int):=wr64 (by omega) (by omega)
 have he:GT.encs t.args=x.enc :: y.enc :: GT.encs l:=by rw [hargs]; rfl
 have hll:¬ ((l.length:Int)+1+1<2):=by omega
 apply pure_enter (by simp [c55])
 simp [c55,hp,hdd,hll,hp3,hlt',setRun,hw2,he,hwd,hx,hy,hargs,GT.enc_mk]
 simp [close1,close0,window,chunk,mk,GT.encs,GT.enc,GT.enc_eq (g x),GT.enc_eq (g y),nilV]
theorem term_ok:∀ (d:Nat) (t:GT),d≤100→t.ok→t.size≤100000000000→pureT T c55 [t.enc,.int .i64 (d:Int)]=some (termV d t).enc:=by
 intro d
 induction d with
 | zero=>intro t hd ht hs; exact term_leaf 0 t ht hs (.inl (by omega))
 | succ d ih=>
  intro t hd ht hs
  unfold termV
  by_cases hl:d=0∨t.args.length<2
  ·rw [if_pos hl]
   refine term_leaf _ t ht hs ?_
   rcases hl with h | h
   ·exact .inl (by omega)
   ·exact .inr h
  ·have hlt:=pickN_lt (c:=t.kind) (n:=4) (by omega)
   have hok:GT.oks t.args:=by revert ht; cases t; simp only [GT.ok]; exact fun h=>h.2.2
   have hargs:=GT.args_le t
   have hcl:∀ x∈t.args,∀ bs σ,callT T 55 [x.enc,.int .i64 (d:Int)] bs σ=some ((termV d x).enc,σ):=fun x hx bs σ=>
    call_clean rfl rfl rfl (by simp) (ih x (by omega) ((GT.oks_iff _).1 hok x hx) (by have:=(GT.sizes_mem hx).1; omega))
   have e:(((d+1:Nat)):Int)=(d:Int)+1:=by omega
   rw [if_neg hl,e]
   by_cases h2:pickN t.kind 4=2
   ·rw [if_neg (by omega),if_neg (by omega),if_pos h2]
    exact term_call d (by omega) (by omega) t ht hs (by omega) h2 _ hcl _ rfl
   ·by_cases h3:pickN t.kind 4=3
    ·rw [if_neg (by omega),if_neg (by omega),if_neg h2]
     exact term_op d (by omega) (by omega) t ht hs (by omega) h3 _ hcl _ rfl
    ·have hk1:GV.i64ok t.kind∧t.value.ok:=by revert ht; cases t; simp only [GT.ok]; exact fun h=>⟨h.1,h.2.1⟩
     have hp:=pickQ4 t.kind hk1.1
     have hv:=lawVar t.name (Nat.le_trans (GT.name_le t) hs)
     have hf:=callFit t.value hk1.2 (Nat.le_trans (GT.value_le t) hs)
     have hfs:(fit t.value).text.size≤100000000000:=Nat.le_trans (Nat.le_trans (text_le _) (fit_size _)) (by omega)
     have hr:=lawRel (fit t.value).text hfs
     have hdd:¬ ((d:Int)+1≤1):=by omega
     have hll:¬ ((t.args.length:Int)<2):=by omega
     apply pure_enter (by simp [c55])
     by_cases h0:pickN t.kind 4=0
     ·rw [h0] at hp
      rw [if_pos h0]
      simp [c55,hp,hdd,hll,hv,setRun,GT.enc,nilV]
     ·have h1:pickN t.kind 4=1:=by omega
      rw [h1] at hp
      rw [if_neg h0,if_pos h1]
      simp [c55,hp,hdd,hll,hf,hr,setRun,enc_mk]
      refine ⟨fun h=>?_,fun h=>?_⟩
      all_goals simp [GT.enc,valOf,h]
theorem callTerm (d:Nat) (t:GT) (hd:d≤100) (ht:t.ok) (hs:t.size≤100000000000) (bs:Nat) (σ:Heap):callT T 55 [t.enc,.int .i64 (d:Int)] bs σ=some ((termV d t).enc,σ):=call_clean rfl rfl rfl (by simp) (term_ok d t hd ht hs)
open Go.Mach
mutual
def sameT:GT→GT→Bool
 | .mk k n v l,.mk k2 n2 v2 l2=>decide (k=k2) && decide (n=n2) && decide (v=v2) && sameTs l l2
def sameTs:List GT→List GT→Bool
 | [],[]=>true
 | x :: l,y :: m=>sameT x y && sameTs l m
 | _,_=>false
end
mutual
theorem sameT_iff:∀ a b:GT,sameT a b=true↔a=b
 | .mk k n v l,.mk k2 n2 v2 l2=>by
  have:=sameTs_iff l l2
  simp only [sameT,zqL,decide_eq_true_eq,this,GT.mk.injEq,and_assoc]
theorem sameTs_iff:∀ a b:List GT,sameTs a b=true↔a=b
 | [],[]=>by simp [sameTs]
 | [],_ :: _=>by simp [sameTs]
 | _ :: _,[]=>by simp [sameTs]
 | x :: l,y :: m=>by
  have h1:=sameT_iff x y
  have h2:=sameTs_iff l m
  simp only [sameTs,zqL,h1,h2,List.cons.injEq]
end
instance:DecidableEq GT:=fun a b=>decidable_of_iff _ (sameT_iff a b)
open Go.Mach
instance:DecidableEq GL:=fun a b=>decidable_of_iff (a.kind=b.kind∧a.name=b.name∧a.args=b.args) ⟨fun h=>gl_ext h.1 h.2.1 h.2.2,fun h=>by rw [h]; simp⟩
def termI (l:List GT) (i:Nat):GT:=match l[i]? with
 | some t=>termV 8 t
 | none=>.mk 1 ⟨#[88]⟩ nilV []
theorem lawterm_ok (l:List GT) (i:Nat) (hl:GT.oks l) (hs:GT.sizes l≤1000000000) (hi:i≤100):pureT T c56 [.isl (GT.encs l) false,.int .i64 (i:Int)]=some (termI l i).enc:=by
 apply pure_enter (by simp [c56])
 by_cases hlt:i<l.length
 ·have hm:=zqT hlt
  have hc:∀ bs σ,callT T 55 [l[i].enc,.int .i64 8] bs σ=some ((termV 8 l[i]).enc,σ):=callTerm 8 l[i] (by omega) ((GT.oks_iff l).1 hl _ hm) (by have:=(GT.sizes_mem hm).1; omega)
  have e:termI l i=termV 8 l[i]:=by simp [termI,zqF hlt]
  rw [e]
  simp [c56,hlt,hc,←GT.enc_eq,setRun]
 ·have e:termI l i=.mk 1 ⟨#[88]⟩ nilV []:=by simp [termI,List.getElem?_eq_none (Nat.le_of_not_lt hlt)]
  rw [e]
  simp [c56,hlt,setRun,GT.enc,nilV]
theorem callLawterm0 (l:List GT) (hl:GT.oks l) (hs:GT.sizes l≤1000000000) (bs:Nat) (σ:Heap):callT T 56 [.isl (GT.encs l) false,.int .i64 0] bs σ=some ((termI l 0).enc,σ):=call_clean rfl rfl rfl (by simp) (lawterm_ok l 0 hl hs (by omega))
theorem callLawterm1 (l:List GT) (hl:GT.oks l) (hs:GT.sizes l≤1000000000) (bs:Nat) (σ:Heap):callT T 56 [.isl (GT.encs l) false,.int .i64 1] bs σ=some ((termI l 1).enc,σ):=call_clean rfl rfl rfl (by simp) (lawterm_ok l 1 hl hs (by omega))
open Go.Mach
theorem app_two {σ:Heap} {k j sz fk fj bytes:Nat} {ej:Bool} {cs ds:List AV} (hk:σ[k]?=some (.cells cs fk false)) (hj:σ[j]?=some (.cells ds fj ej)) (hc:cs.length=sz) (hd:ds.length=sz) (h0:0<sz) (hb:bytes≤1000) :
  appendA σ sz true bytes true (.sl k 0 1 sz true) (.sl j 0 1 sz true)=some (.sl σ.length 0 2 sz true,σ++[.cells (cs++ds.map AV.nrm) 0 true]):=by
 have e1:=elems_ag1 hk hc
 have e2:=elemsN_ag1 hj hd
 have hne:¬ (sz=0∨(1+1) * bytes > 70368744177664∨1+1 > 70368744177664):=by omega
 simp only [appendA,e1,e2,Option.bind_some,isSl,List.length_singleton,if_neg hne,hk]
 simp [flat,AV.cells,hc,hd]
def firstOf (l:List GT):GT:=match l with
 | t :: _=>if pickN t.kind 4=1 then .mk 2 ⟨#[]⟩ (.mk 3 0 (relOf t.name) []) [] else .mk 1 ⟨#[83]⟩ nilV []
 | []=>.mk 1 ⟨#[83]⟩ nilV []
def argsOf (l:List GT):List GT:=firstOf l :: ((l.drop 1).take 7).map (termV 8)
theorem args_take (l:List GT) (j:Nat) (h:j+1<l.length):((l.drop 1).take (j+1)).map (termV 8)=((l.drop 1).take j).map (termV 8)++[termV 8 l[j+1]]:=by
 have e:(l.drop 1)[j]?=some l[j+1]:=by rw [List.getElem?_drop,show 1+j=j+1 by omega,zqF h]
 rw [List.take_add_one,e,List.map_append]; rfl
def cur (l:List GT) (j:Nat):List GT:=firstOf l :: ((l.drop 1).take j).map (termV 8)
theorem cur_len (l:List GT) (j:Nat) (h:j≤l.length - 1):(cur l j).length=j+1:=by simp [cur]; omega
def rawFirst (l:List GT):List AV:=match l with
 | t :: _=>if pickN t.kind 4=1 then [.int .i64 2,.str ⟨#[]⟩,.int .i64 3,.int .i64 0,.str (relOf t.name),.isl [] true,.isl [] true] else [.int .i64 1,.str ⟨#[83]⟩,.int .i64 0,.int .i64 0,.str ⟨#[]⟩,.isl [] true,.isl [] true]
 | []=>[.int .i64 1,.str ⟨#[83]⟩,.int .i64 0,.int .i64 0,.str ⟨#[]⟩,.isl [] true,.isl [] true]
theorem rawFirst_nrm (l:List GT):(rawFirst l).map AV.nrm=(firstOf l).enc.cells:=by
 unfold rawFirst firstOf
 cases l with
 | nil=>rfl
 | cons t l=>
  simp only
  split <;> simp [AV.nrm,GT.enc_cells,GT.kind,GT.name,GT.value,GT.args,GV.kind,GV.num,GV.text,GV.items,nilV]
theorem rawFirst_len (l:List GT):(rawFirst l).length=7:=by
 unfold rawFirst
 cases l with
 | nil=>rfl
 | cons t l=>simp only; split <;> rfl
def rawCur (l:List GT) (j:Nat):List AV:=rawFirst l++flat (GT.encs (((l.drop 1).take j).map (termV 8)))
theorem encsT_agg7 (l:List GT):∀ e∈GT.encs l,∃ cs,e=.agg cs∧cs.length=7:=fun e he=>by
 rw [GT.encs_map] at he
 obtain ⟨v,_,rfl⟩:=List.mem_map.1 he
 exact ⟨_,v.enc_eq,rfl⟩
theorem close_terms {σ:Heap} {k fz:Nat} {ext:Bool} {cs:List AV} {L:List GT} (h:σ[k]?=some (.cells cs fz ext)) (hn:cs.map AV.nrm=flat (GT.encs L)) (hc:cs.all AV.clo1=true) (hne:L≠[]) :
  close1 σ (.sl k 0 L.length 7 true)=some (.isl (GT.encs L) false,frz σ k (0+L.length * 7)):=by
 have hl0:L.length≠0:=fun e=>hne (List.length_eq_zero_iff.1 e)
 have hlen:cs.length=L.length * 7:=by
  have:=congrArg List.length hn
  rw [List.length_map,Go.Mach.flat_len (encsT_len L),GT.encs_length] at this; exact this
 refine close1_of0 ?_
 unfold close0
 simp only [if_neg hl0,h,window_full hlen,Option.bind_some,hc,if_true,hn]
 have hch:=flat_chunk (encsT_agg7 L)
 rw [GT.encs_length] at hch
 rw [hch]; rfl
theorem flat_cons (x:GT) (l:List GT):flat (GT.encs (x :: l))=x.enc.cells++flat (GT.encs l):=by simp [flat,GT.encs]
theorem flat_nrm (l:List GT):(flat (GT.encs l)).map AV.nrm=flat (GT.encs l)∧(flat (GT.encs l)).all AV.clo1=true:=by
 induction l with
 | nil=>exact ⟨rfl,rfl⟩
 | cons x l ih=>
  rw [flat_cons]
  constructor
  ·rw [List.map_append,ih.1]; simp [AV.nrm]
  ·rw [List.all_append,ih.2]; simp [AV.clo1]
theorem rawFirst_clo (l:List GT):(rawFirst l).all AV.clo1=true:=by
 unfold rawFirst
 cases l with
 | nil=>rfl
 | cons t l=>simp only; split <;> rfl
theorem rawCur_nrm (l:List GT) (j:Nat):(rawCur l j).map AV.nrm=flat (GT.encs (cur l j))∧(rawCur l j).all AV.clo1=true:=by
 obtain ⟨h1,h2⟩:=flat_nrm (((l.drop 1).take j).map (termV 8))
 constructor
 ·rw [rawCur,List.map_append,rawFirst_nrm,h1,cur,flat_cons]
 ·rw [rawCur,List.all_append,rawFirst_clo,h2]; rfl
def rawEls (l:List GT) (j:Nat):List AV:=.agg (rawFirst l) :: GT.encs (((l.drop 1).take j).map (termV 8))
theorem rawEls_flat (l:List GT) (j:Nat):flat (rawEls l j)=rawCur l j:=by simp [rawEls,rawCur,flat,AV.cells]
theorem rawEls_agg (l:List GT) (j:Nat):∀ e∈rawEls l j,∃ cs,e=.agg cs∧cs.length=7:=fun e he=>by
 rcases List.mem_cons.1 he with rfl | he
 ·exact ⟨_,rfl,rawFirst_len l⟩
 ·exact encsT_agg7 _ e he
theorem rawEls_len (l:List GT) (j:Nat) (h:j≤l.length - 1):(rawEls l j).length=j+1:=by simp [rawEls]; omega
def ArgsAt (σ0:Heap) (l:List GT) (r:AV × Heap):Prop:=
 ∃ k cs rest ext,r=(.sl (σ0.length+k) 0 (argsOf l).length 7 true,σ0++rest)∧rest[k]?=some (.cells cs 0 ext)∧cs.map AV.nrm=flat (GT.encs (argsOf l))∧cs.all AV.clo1=true
theorem lawargsR (l:List GT) (hl:GT.oks l) (hs:GT.sizes l≤1000000000) (bs:Nat) (σ0:Heap):∃ r,callT T 33 [.isl (GT.encs l) false] bs σ0=some r∧ArgsAt σ0 l r:=by
 have hlen:=GT.len_sizes l
 refine heap_enterE (P:=ArgsAt σ0 l) (af:=c33) (args':=[.isl (GT.encs l) false]) (σ1:=σ0) rfl rfl (by simp [c33]) (by simp [c33]) (clean_closeT (by simp)).1 ?_
 cases l with
 | nil=>
  simp [c33,baseA]
  refine W_for T _ 46 0 (fun i f σ=>f 0=.isl [] false∧f 4=.int .i64 1∧f 3=.sl σ0.length 0 1 7 true∧σ=σ0++[.cells (rawFirst []) 0 false]) ?_ _ _ ?_
  ·rintro i f σ hi ⟨g0,g4,g3,hk⟩
   simp [g0,g4,g3,res1]
   have h:=rawCur_nrm [] 0
   have e:rawCur [] 0=rawFirst []:=by simp [rawCur,flat]
   rw [e] at h
   exact ⟨0,_,_,_,by rw [hk]; rfl,rfl,h.1,h.2⟩
  ·simp [rawFirst]
 | cons t l=>
  have ht:=(GT.oks_iff (t :: l)).1 hl t (by simp)
  have hp:=pickQ4 t.kind (by obtain ⟨k,n,v,ar⟩:=t; simp only [GT.ok] at ht; exact ht.1)
  have hr:=lawRel t.name (by have:=GT.name_le t; simp only [GT.sizes] at hs; omega)
  have round:∀ (rest:Heap) (L:List GT) (j:Nat) (x:AV),L=t :: l→j+1<L.length→rest≠[] →
    ((j=0∧x=.sl σ0.length 0 1 7 true∧rest[0]?=some (.cells (rawFirst L) 0 false))∨(0<j∧∃ k,x=.sl (σ0.length+k) 0 (j+1) 7 true∧rest[k]?=some (.cells (rawCur L j) 0 true))) →
    ∀ y:GT,y=termV 8 (L.getD (j+1) default)→∃ rest2,appendA (σ0++(rest++[.cells y.enc.cells 0 false])) 7 true 104 true x (.sl (σ0.length+rest.length) 0 1 7 true)=some (.sl (σ0.length+(rest.length+1)) 0 (j+2) 7 true,σ0++rest2)∧rest2[rest.length+1]?=some (.cells (rawCur L (j+1)) 0 true):=by
   intro rest L j x hLe hj hne h y hy
   have hy2:rawCur L (j+1)=rawCur L j++y.enc.cells:=by
    have e:L.getD (j+1) default=L[j+1]:=by simp [List.getD,zqF hj]
    rw [e] at hy
    simp only [rawCur,args_take L j hj,←hy,zqP]
    congr 1
    simp [flat,GT.encs_map]
   have hyn:y.enc.cells.map AV.nrm=y.enc.cells:=by simp [AV.nrm]
   have hlast:(σ0++(rest++[AObj.cells y.enc.cells 0 false]))[σ0.length+rest.length]?=some (.cells y.enc.cells 0 false):=by
    rw [zqB (by omega)]; simp
   have hsl:(σ0++(rest++[AObj.cells y.enc.cells 0 false])).length=σ0.length+(rest.length+1):=by simp
   rcases h with ⟨rfl,rfl,h0⟩ | ⟨hj0,k,rfl,hk⟩
   ·have h00:(σ0++(rest++[AObj.cells y.enc.cells 0 false]))[σ0.length]?=some (.cells (rawFirst L) 0 false):=by
     rw [zqB (by omega),Nat.sub_self,zqA (List.length_pos_iff.2 hne)]; exact h0
    have:=app_two (bytes:=104) h00 hlast (rawFirst_len L) (by simp) (by omega) (by omega)
    rw [this,hsl]
    refine ⟨_,by simp; rfl,?_⟩
    have e:rawCur L 0=rawFirst L:=by simp [rawCur,flat]
    rw [hy2,e]; simp
   ·have hkl:k<rest.length:=(zqI.1 hk).1
    have hrl:=rawEls_len L j (by omega)
    have hfl:(flat (rawEls L j)).length=(rawEls L j).length * 7:=Go.Mach.flat_len fun e he=>by obtain ⟨cs,rfl,h⟩:=rawEls_agg L j e he; exact h
    have hk2:(σ0++(rest++[AObj.cells y.enc.cells 0 false]))[σ0.length+k]?=some (.cells (rawCur L j) 0 true):=by
     rw [zqB (by omega),Nat.add_sub_cancel_left,zqA hkl]; exact hk
    have:=app_mt_sl (σ:=σ0++(rest++[.cells y.enc.cells 0 false])) (id:=σ0.length+rest.length) (k:=σ0.length+k) (fz:=0) (ext:=false) (cs:=y.enc.cells) (es:=rawEls L j) (sz:=7) (bytes:=104) hlast (by simp) (by omega) (by omega)
     (by rw [rawEls_flat]; exact hk2) hfl (flat_chunk (rawEls_agg L j)) (by rw [hrl]; subst hLe; simp only [zqU] at hj ⊢; have:=GT.len_sizes (t :: l); simp only [zqU] at this; omega)
    rw [hrl,hsl] at this
    rw [this,rawEls_flat]
    refine ⟨(rest++[AObj.cells y.enc.cells 0 false]).set k .dead++[.cells (rawCur L j++y.enc.cells.map AV.nrm) 0 true],?_,?_⟩
    ·rw [List.set_append_right _ _ (by omega),Nat.add_sub_cancel_left,zqP]
    ·rw [zqB (by simp)]
     rw [hy2]; simp
  have hlc:l.length+1≤1000000000:=by simp only [zqU] at hlen; omega
  have h8:=fun (x:GT) (hx:x∈t :: l) (bs:Nat) (σ:Heap)=>(callTerm 8 x (by omega) ((GT.oks_iff (t :: l)).1 hl x hx) (by have:=(GT.sizes_mem hx).1; omega) bs σ:callT T 55 [x.enc,.int .i64 8] bs σ=_)
  have hk':(((pickN t.kind 4:Nat):Int)=1)=(pickN t.kind 4=1):=propext ⟨fun h=>by omega,fun h=>by omega⟩
  by_cases hk:pickN t.kind 4=1
  all_goals
   simp [c33,baseA,hp,hr,hk',hk,GT.encs]
   refine W_for T _ 46 (min l.length 7) (fun j f σ=>f 0=.isl (t.enc :: GT.encs l) false∧f 4=.int .i64 ((j:Int)+1)∧∃ rest,σ=σ0++rest∧rest≠[] ∧
    ((j=0∧f 3=.sl σ0.length 0 1 7 true∧rest[0]?=some (.cells (rawFirst (t :: l)) 0 false))∨(0<j∧∃ k,f 3=.sl (σ0.length+k) 0 (j+1) 7 true∧rest[k]?=some (.cells (rawCur (t :: l) j) 0 true)))) ?_ _ _ ?_
  rotate_left 1
  ·simp [rawFirst,hk]
  rotate_left 1
  ·simp [rawFirst,hk]
  all_goals
   rintro j f σ hj ⟨g0,g4,rest,rfl,hne,hst⟩
   by_cases hlt:j<min l.length 7
   ·have hj1:j+1<(t :: l).length:=by simp only [zqU]; omega
    obtain ⟨σ2,ha,hb⟩:=round rest (t :: l) j (f 3) rfl hj1 hne hst _ rfl
    have he:(t :: l).getD (j+1) default=l[j]:=by simp [List.getD,zqF (show j<l.length by omega)]
    rw [he] at ha
    have hT:∀ bs σ,callT T 55 [l[j].enc,.int .i64 8] bs σ=some ((termV 8 l[j]).enc,σ):=h8 l[j] (by simp)
    have hw:IntKind.i64.wrap ((j:Int)+1+1)=(j:Int)+1+1:=wr64 (by omega) (by omega)
    have c1:j<l.length:=by omega
    have c2:(j:Int)+1<8:=by omega
    have c3:((j:Int)+1).toNat=j+1:=by omega
    have c4:0≤(j:Int)+1:=by omega
    obtain ⟨x3,hx3⟩:∃ x,f 3=x:=⟨_,rfl⟩
    rw [hx3] at ha
    simp at ha
    simp [g0,g4,hx3,c1,c2,c3,c4,hT,hw,ha,←GT.enc_eq]
    exact ⟨hlt,by rintro rfl; simp at hb,hb⟩
   ·have hj2:j=min l.length 7:=by omega
    have c1:¬ (j<l.length∧(j:Int)+1<8):=by omega
    have hfin:∃ k ext cs,f 3=.sl (σ0.length+k) 0 (argsOf (t :: l)).length 7 true∧rest[k]?=some (.cells cs 0 ext)∧cs.map AV.nrm=flat (GT.encs (argsOf (t :: l)))∧cs.all AV.clo1=true:=by
     have hcur:cur (t :: l) j=argsOf (t :: l):=by
      unfold cur argsOf
      have:List.take j (List.drop 1 (t :: l))=List.take 7 (List.drop 1 (t :: l)):=by
       simp only [List.drop_succ_cons,List.drop_zero]
       rw [hj2]; simp [List.take_eq_take_iff,Nat.min_comm]
      rw [this]
     have hcl:(argsOf (t :: l)).length=j+1:=by rw [←hcur]; exact cur_len _ _ (by simp; omega)
     have hn:=rawCur_nrm (t :: l) j
     rw [hcur] at hn
     rcases hst with ⟨rfl,h3,hk⟩ | ⟨_,k,h3,hk⟩
     ·have e:rawCur (t :: l) 0=rawFirst (t :: l):=by simp [rawCur,flat]
      rw [e] at hn
      exact ⟨0,_,_,by rw [h3,hcl]; rfl,hk,hn.1,hn.2⟩
     ·exact ⟨k,_,_,by rw [h3,hcl],hk,hn.1,hn.2⟩
    obtain ⟨k,ext,cs,h3,hkk,hn1,hn2⟩:=hfin
    have hfin2:ArgsAt σ0 (t :: l) (.sl (σ0.length+k) 0 (argsOf (t :: l)).length 7 true,σ0++rest):=⟨k,cs,rest,ext,rfl,hkk,hn1,hn2⟩
    by_cases d1:j<l.length
    ·have d2:¬ ((j:Int)+1<8):=by omega
     simp [g0,g4,d1,d2,h3,res1,hfin2]
    ·simp [g0,g4,d1,h3,res1,hfin2]
noncomputable def argsX (l:List GT) (bs:Nat) (σ:Heap):AV × Heap:=(callT T 33 [.isl (GT.encs l) false] bs σ).getD default
theorem argsX_at (l:List GT) (hl:GT.oks l) (hs:GT.sizes l≤1000000000) (bs:Nat) (σ:Heap):ArgsAt σ l (argsX l bs σ)∧callT T 33 [.isl (GT.encs l) false] bs σ=some (argsX l bs σ):=by
 obtain ⟨r,hr,ha⟩:=lawargsR l hl hs bs σ
 have:argsX l bs σ=r:=by unfold argsX; rw [hr]; rfl
 rw [this]; exact ⟨ha,hr⟩
open Go.Mach
open Go.Mach
def testOf (n:Nat):ByteArray:=if n=0 then ⟨#[61,61]⟩ else if n=1 then ⟨#[33,61]⟩ else if n=2 then ⟨#[60]⟩ else if n=3 then ⟨#[60,61]⟩ else if n=4 then ⟨#[62]⟩ else ⟨#[62,61]⟩
def litOf (x:GL):GL:=
 if pickN x.kind 4=0 then ⟨1,relOf x.name,argsOf x.args⟩
 else if pickN x.kind 4=1 then ⟨2,relOf x.name,argsOf x.args⟩
 else if pickN x.kind 4=2 then ⟨3,testOf (pickN x.name.size 6),[termI x.args 0,termI x.args 1]⟩
 else ⟨4,varOf x.name,[termI x.args 0]⟩
theorem testOf_at {p:Nat} (h:p<6):window [AV.str ⟨#[61,61]⟩,.str ⟨#[33,61]⟩,.str ⟨#[60]⟩,.str ⟨#[60,61]⟩,.str ⟨#[62]⟩,.str ⟨#[62,61]⟩] p 1=some [.str (testOf p)]:=by
 have:p=0∨p=1∨p=2∨p=3∨p=4∨p=5:=by omega
 rcases this with rfl | rfl | rfl | rfl | rfl | rfl <;> rfl
theorem lawlit_ok (x:GL) (ho:x.ok) (hs:x.size≤1000000000):pureT T c34 [x.enc]=some (litOf x).enc:=by
 have h1:=x.name_le
 have h2:=x.args_le
 obtain ⟨k,n,l⟩:=x
 obtain ⟨hk,hl⟩:=ho
 simp only at h1 h2 hk hl
 have hp:=pickQ4 k hk
 have hp6:=pickQ6 (n.size:Int) (by unfold GV.i64ok; omega)
 have hlt6:=pickN_lt (c:=(n.size:Int)) (n:=6) (by omega)
 have hwin:=testOf_at hlt6
 have hr:=lawRel n (by omega)
 have hv:=lawVar n (by omega)
 have hargs:∀ A B:AObj,∃ K R,callT T 33 [.isl (GT.encs l) false] 0 [A,B]=some (.sl K 0 (argsOf l).length 7 true,A :: B :: R) ∧
   ∀ A2 B2,close1 (A2 :: B2 :: R) (.sl K 0 (argsOf l).length 7 true)=some (.isl (GT.encs (argsOf l)) false,frz (A2 :: B2 :: R) K (0+(argsOf l).length * 7)):=fun A B=>by
  obtain ⟨⟨k,cs,R,ext,hr,hk,hn,hc⟩,hcall⟩:=argsX_at l hl (by omega) 0 [A,B]
  rw [hr] at hcall
  exact ⟨_,R,hcall,fun A2 B2=>close_terms (by rw [zqU,List.length_singleton,Nat.add_comm]; exact hk) hn hc (by simp [argsOf])⟩
 have t0:=callLawterm0 l hl (by omega)
 have t1:=callLawterm1 l hl (by omega)
 have hc6:((pickN (n.size:Int) 6:Nat):Int)<6:=by omega
 have e0:(((pickN k 4:Nat):Int)=0)=(pickN k 4=0):=propext ⟨fun h=>by omega,fun h=>by omega⟩
 have e1:(((pickN k 4:Nat):Int)=1)=(pickN k 4=1):=propext ⟨fun h=>by omega,fun h=>by omega⟩
 have e2:(((pickN k 4:Nat):Int)=2)=(pickN k 4=2):=propext ⟨fun h=>by omega,fun h=>by omega⟩
 apply pure_enter (by simp [c34])
 unfold litOf
 simp only
 generalize pickN (n.size:Int) 6=q at *
 by_cases k0:pickN k 4=0
 ·obtain ⟨K,R,ha,hcl⟩:=hargs (.cells [.int .i64 k,.str n,.isl (GT.encs l) false] 0 false) (.cells [.int .i64 0,.str ⟨#[]⟩,.isl [] true] 0 false)
  simp [c34,GL.enc_eq,hp,hr,ha,k0,setRun,hcl]
 by_cases k1:pickN k 4=1
 ·obtain ⟨K,R,ha,hcl⟩:=hargs (.cells [.int .i64 k,.str n,.isl (GT.encs l) false] 0 false) (.cells [.int .i64 0,.str ⟨#[]⟩,.isl [] true] 0 false)
  simp [c34,GL.enc_eq,hp,hr,ha,k1,setRun,hcl]
 by_cases k2:pickN k 4=2
 ·have hcl:=close1_flat (σ:=[]) (id:=0) (s:=7) (fz:=0) (ext:=false) (es:=GT.encs [termI l 0,termI l 1])
  simp [c34,GL.enc_eq,hp,hp6,hlt6,hc6,hwin,t0,t1,k2,setRun]
  rw [show (AV.sl 3 0 2 7 true)=.sl 3 0 [termI l 0,termI l 1].length 7 true from rfl,close_terms (L:=[termI l 0,termI l 1]) rfl (by simp [flat,GT.encs,AV.nrm]) (by simp [AV.clo1]) (by simp)]
  exact ⟨_,rfl⟩
 ·simp [c34,GL.enc_eq,hp,hv,t0,e0,e1,e2,k0,k1,k2,setRun]
  rw [show (AV.sl 2 0 1 7 true)=.sl 2 0 [termI l 0].length 7 true from rfl,close_terms (L:=[termI l 0]) rfl (by simp [flat,GT.encs,AV.nrm]) (by simp [AV.clo1]) (by simp)]
  exact ⟨_,rfl⟩
theorem callLawLit (x:GL) (ho:x.ok) (hs:x.size≤1000000000) (bs:Nat) (σ:Heap):callT T 34 [x.enc] bs σ=some ((litOf x).enc,σ):=call_clean rfl rfl rfl (by simp) (lawlit_ok x ho hs)
open Go.Mach
theorem r4upper_ok (t:ByteArray) (ht:t.size≤100000000000):pureT T c121 [.str t]=some (.bool (varOK t)):=by
 apply pure_enter (by simp [c121])
 have hn:varOK t=true↔(∀ i,i<t.size→varG t i=true)∧t.size≠0∧t.size≤16:=varOK_iff t
 by_cases h0:1≤t.size
 ·have hno0:¬ (65≤bt t 0∧bt t 0≤90)→varOK t=false:=fun h=>varOK_no (i:=0) (by omega) (by omega)
  have hb:=@idx_bt t 0 (by omega)
  have hb':t.data[0]?.map (fun b=>(AV.int .u8 (b.toNat:Int)))=some (.int .u8 (bt t 0)):=by simpa using hb
  have hlong:¬ t.size≤16→varOK t=false:=fun h=>by rw [Bool.eq_false_iff,Ne,hn]; omega
  simp [c121,hb']
  refine ⟨fun h=>by omega,fun h=>⟨fun h=>hlong (by omega),fun h2=>⟨fun h=>hno0 (by omega),fun h3=>⟨fun h=>hno0 (by omega),fun h4=>?_⟩⟩⟩⟩
  refine W_for T 0 59 (t.size - 1) (fun i f σ=>f 0=.str t∧f 3=.int .i64 ((i:Int)+1)∧σ=[]∧∀ j,j<i+1→varG t j=true) ?_ _ _ ?_
  ·rintro i f σ hi ⟨h0,h3,rfl,hall⟩
   by_cases hlt:i+1<t.size
   ·have hno:=@varOK_no t (i+1) hlt
    have hyes:_→∀ j,j<i+1+1→varG t j=true:=fun h j hj=>by
     by_cases e:j=i+1
     ·subst e; exact (varG_iff t (i+1)).2 h
     ·exact hall j (by omega)
    have hb:=@idx_bt t (i+1) hlt
    have hb':t.data[i+1]?.map (fun b=>(AV.int .u8 (b.toNat:Int)))=some (.int .u8 (bt t (i+1))):=by simpa using hb
    have hw:IntKind.i64.wrap ((i:Int)+1+1)=(i:Int)+1+1:=wr64 (by omega) (by omega)
    have hc1:((i:Int)+1<(t.size:Int)):=by omega
    have hc2:(0:Int)≤(i:Int)+1:=by omega
    have hc3:((i:Int)+1).toNat=i+1:=by omega
    have hc4:i<t.size - 1:=by omega
    simp [h0,h3,hc1,hc2,hc3,hb',hw,hc4]
    repeat' (first | apply And.intro | intro _)
    all_goals first | exact hno (by omega) | exact hyes (by omega) _ (by assumption)
   ·have hc1:¬ ((i:Int)+1<(t.size:Int)):=by omega
    simp [h0,h3,hc1]
    exact hn.2 ⟨fun j hj=>hall j (by omega),by omega,by omega⟩
  ·simp
   exact (varG_iff t 0).2 (by omega)
 ·have:t.size=0:=by omega
  have hf:varOK t=false:=by rw [Bool.eq_false_iff,Ne,hn]; omega
  simp [c121,this,hf]
theorem callR4Upper (t:ByteArray) (ht:t.size≤100000000000) (bs:Nat) (σ:Heap):callT T 121 [.str t] bs σ=some (.bool (sym (varOK t)),σ):=call_clean rfl rfl rfl rfl (r4upper_ok t ht)
theorem r4rel_ok (t:ByteArray) (ht:t.size≤100000000000):pureT T c87 [.str t]=some (.bool (relOK t)):=by
 have h1:=refName_call t ht
 have h2:=refArity t
 apply pure_enter (by simp [c87])
 unfold relOK sMat
 generalize nameOK t=b at *
 cases b
 ·simp [c87,h1,h2]
 ·by_cases h3:arityOf t<0
  ·by_cases h4:t=⟨#[109,97,116,101,114,105,97,108,105,122,101]⟩
   ·simp [c87,h1,h2,h3,←h4]
   ·simp [c87,h1,h2,h3,h4]
  ·simp [c87,h1,h2,h3]
theorem callR4Rel (t:ByteArray) (ht:t.size≤100000000000) (bs:Nat) (σ:Heap):callT T 87 [.str t] bs σ=some (.bool (sym (relOK t)),σ):=call_clean rfl rfl rfl rfl (r4rel_ok t ht)
theorem r4none_ok (v:GV):pureT T c155 [v.enc]=some (.bool (bareV v)):=by
 obtain ⟨k,n,s,l⟩:=v
 apply pure_enter (by simp [c155])
 unfold bareV
 simp [c155,GV.enc_eq,GV.kind,GV.num,GV.text,GV.items]
 repeat' (first | apply And.intro | intro _)
 all_goals first | (simp_all; done) | omega | grind
theorem callR4None (v:GV) (bs:Nat) (σ:Heap):callT T 155 [v.enc] bs σ=some (.bool (sym (bareV v)),σ):=call_clean rfl rfl rfl (by simp) (r4none_ok v)
theorem r4in_ok (l:List ByteArray) (s:ByteArray) (hl:l.length≤100000000000):pureT T c93 [.isl (l.map .str) false,.str s]=some (.bool (l.any fun x=>decide (x=s))):=by
 apply pure_enter (by simp [c93])
 simp [c93]
 refine W_for T 0 18 l.length (fun i f σ=>f 0=.isl (l.map .str) false∧f 1=.str s∧f 5=.int .i64 (i:Int)∧∀ j,(hj:j<l.length)→j<i→l[j]≠s) ?_ _ _ ?_
 ·rintro i f σ hi ⟨h0,h1,h5,hall⟩
  by_cases hlt:i<l.length
  ·have e1:l[i]?=some l[i]:=zqF hlt
   have hw:IntKind.i64.wrap ((i:Int)+1)=(i:Int)+1:=wr64 (by omega) (by omega)
   by_cases hp:l[i]=s
   ·have:∃ x∈l,x=s:=⟨_,zqT hlt,hp⟩
    simp [h0,h1,h5,hlt,e1,hp,hw]
    simpa using this
   ·simp [h0,h1,h5,hlt,e1,hp,hw]
    intro j hj hji
    by_cases e:j=i
    ·subst e; exact hp
    ·exact hall j hj (by omega)
  ·have he:i=l.length:=by omega
   subst he
   simp [h0,h1,h5]
   intro x hx e
   obtain ⟨j,hj,rfl⟩:=zqS hx
   exact hall j hj hj e
 ·simp
theorem inOps (s:ByteArray) (o:AObj) (bs:Nat):callT T 93 [.sl 1 0 3 1 false,.str s] bs [o,.cells [.str ⟨#[43]⟩,.str ⟨#[45]⟩,.str ⟨#[42]⟩] 0 false]=some (.bool (sym (opOK s)),[o,.cells [.str ⟨#[43]⟩,.str ⟨#[45]⟩,.str ⟨#[42]⟩] 0 false]):=by
 have h:=r4in_ok [⟨#[43]⟩,⟨#[45]⟩,⟨#[42]⟩] s (by decide)
 have e:([⟨#[43]⟩,⟨#[45]⟩,⟨#[42]⟩]:List ByteArray).any (fun x=>decide (x=s))=opOK s:=by
  rw [Bool.eq_iff_iff]; simp only [List.any_cons,List.any_nil,Bool.or_false,Bool.or_eq_true,decide_eq_true_eq,opOK]; grind
 rw [e] at h
 exact call_scal rfl rfl rfl h rfl (by simp) rfl
theorem r4term_ok:∀ (d:Nat) (t:GT),d≤100→t.size≤100000000000→pureT T c138 [t.enc,.int .i64 (d:Int)]=some (.bool (termR d t)):=by
 intro d
 induction d with
 | zero=>
  intro t hd hs
  apply pure_enter (by simp [c138])
  simp [c138,termR]
 | succ d ih=>
  intro t hd hs
  obtain ⟨k,n,⟨vk,vn,vt,vl⟩,l⟩:=t
  simp only [GT.size,GV.size] at hs
  have hlen:=GT.len_sizes l
  have hw:IntKind.i64.wrap (d:Int)=(d:Int):=wr64 (by omega) (by omega)
  have hr:∀ x∈l,∀ bs σ,callT T 138 [x.enc,.int .i64 d] bs σ=some (.bool (sym (termR d x)),σ):=fun x hx bs σ=>call_clean rfl rfl rfl (by simp) (ih x (by omega) (by have:=(GT.sizes_mem hx).1; omega))
  have hvar:=callR4Upper n (by omega)
  have hnone:=callR4None (.mk vk vn vt vl)
  have hval:=refRight (.mk vk vn vt vl) (by simp only [GV.size]; omega)
  have har1:=refArity vt
  have har2:=refArity n
  have hin:=inOps n
  have hd1:¬ ((d:Int)+1<1):=by omega
  have hd2:(d:Int)+1 - 1=(d:Int):=by omega
  apply pure_enter (by simp [c138])
  by_cases h1:k=1
  ·subst h1
   simp [c138,GT.enc_eq,GT.kind,GT.name,GT.value,GT.args,GV.kind,GV.num,GV.text,GV.items,hvar,hnone,enc_mk,setRun,termR,termB,hd1]
   repeat' (first | apply And.intro | intro _)
   all_goals first | (simp_all; done) | omega | grind
  by_cases h2:k=2
  ·subst h2
   simp [c138,GT.enc_eq,GT.kind,GT.name,GT.value,GT.args,GV.kind,GV.num,GV.text,GV.items,hval,har1,enc_mk,setRun,termR,termB,hd1]
   repeat' (first | apply And.intro | intro _)
   all_goals first | (simp_all; done) | omega | grind
  by_cases h3:k=3
  ·subst h3
   have hsplit:termR (d+1) (.mk 3 n (.mk vk vn vt vl) l)=(decide (arityOf n=(l.length:Int)) && (bareV (.mk vk vn vt vl) && l.all (termR d))):=by
    rw [Bool.eq_iff_iff]; simp only [termR,termB,GT.kind,GT.name,GT.value,GT.args]
    simp
    grind
   rw [hsplit]
   generalize bareV (.mk vk vn vt vl)=b0 at *
   by_cases hc:arityOf n=(l.length:Int)
   ·simp [c138,GT.enc_eq,GT.kind,GT.name,GT.value,GT.args,GV.kind,GV.num,GV.text,GV.items,hnone,har2,hc,enc_mk,setRun,hd1]
    refine ⟨fun hb0=>?_,fun hb0=>?_⟩
    all_goals
     refine W_for T 0 111 l.length (fun i f σ=>f 1=.int .i64 ((d:Int)+1)∧f 2=.ptr 0 0∧f 9=.bool (b0 && (l.take i).all (termR d))∧f 10=.int .i64 (i:Int)∧∃ rest,σ=[.cells [.int .i64 3,.str n,.int .i64 vk,.int .i64 vn,.str vt,.isl (GV.encs vl) false,.isl (GT.encs l) false] 0 false]++rest) ?_ _ _ ?_
     ·rintro i f σ hi ⟨g1,g2,g9,g10,rest,rfl⟩
      by_cases hlt:i<l.length
      ·have hm:=zqT hlt
       have hrx:=hr l[i] hm
       have hw2:IntKind.i64.wrap ((i:Int)+1)=(i:Int)+1:=wr64 (by omega) (by omega)
       have htk:(l.take (i+1)).all (termR d)=((l.take i).all (termR d) && termR d l[i]):=by
        rw [List.take_add_one,zqF hlt,List.all_append]; simp
       rw [htk,←Bool.and_assoc]
       generalize (b0 && (l.take i).all (termR d))=b1 at *
       generalize termR d l[i]=b2 at *
       cases b1 <;> simp [g1,g2,g9,g10,hlt,hrx,hw,hw2,←GT.enc_eq,hd2]
      ·have he:i=l.length:=by omega
       subst he
       rw [List.take_length] at g9
       simp [g1,g2,g9,g10]
     ·simp [hb0]
   ·simp [c138,GT.enc_eq,GT.kind,GT.name,GT.value,GT.args,GV.kind,GV.num,GV.text,GV.items,har2,hc,enc_mk,setRun,hd1]
  by_cases h4:k=4
  ·subst h4
   have hsplit:termR (d+1) (.mk 4 n (.mk vk vn vt vl) l)=(opOK n && decide (l.length=2) && (bareV (.mk vk vn vt vl) && l.all (termR d))):=by
    rw [Bool.eq_iff_iff]; simp only [termR,termB,GT.kind,GT.name,GT.value,GT.args]
    simp
    grind
   rw [hsplit]
   generalize bareV (.mk vk vn vt vl)=b0 at *
   by_cases hc:opOK n=true∧l.length=2
   ·have hc2:(l.length:Int)=2:=by omega
    simp [c138,GT.enc_eq,GT.kind,GT.name,GT.value,GT.args,GV.kind,GV.num,GV.text,GV.items,hnone,hin,hc,hc2,enc_mk,setRun,hd1]
    refine ⟨fun hb0=>?_,fun hb0=>?_⟩
    all_goals
     refine W_for T 0 111 l.length (fun i f σ=>f 1=.int .i64 ((d:Int)+1)∧f 2=.ptr 0 0∧f 9=.bool (b0 && (l.take i).all (termR d))∧f 10=.int .i64 (i:Int)∧∃ rest,σ=[.cells [.int .i64 4,.str n,.int .i64 vk,.int .i64 vn,.str vt,.isl (GV.encs vl) false,.isl (GT.encs l) false] 0 false]++rest) ?_ _ _ ?_
     ·rintro i f σ hi ⟨g1,g2,g9,g10,rest,rfl⟩
      by_cases hlt:i<l.length
      ·have hm:=zqT hlt
       have hrx:=hr l[i] hm
       have hw2:IntKind.i64.wrap ((i:Int)+1)=(i:Int)+1:=wr64 (by omega) (by omega)
       have htk:(l.take (i+1)).all (termR d)=((l.take i).all (termR d) && termR d l[i]):=by
        rw [List.take_add_one,zqF hlt,List.all_append]; simp
       rw [htk,←Bool.and_assoc]
       generalize (b0 && (l.take i).all (termR d))=b1 at *
       generalize termR d l[i]=b2 at *
       cases b1 <;> simp [g1,g2,g9,g10,hlt,hrx,hw,hw2,←GT.enc_eq,hd2]
      ·have he:i=l.length:=by omega
       subst he
       rw [List.take_length] at g9
       simp [g1,g2,g9,g10]
     ·simp [hb0]
   ·have hf:(opOK n && decide (l.length=2))=false:=by rw [Bool.eq_false_iff]; simpa using hc
    have hc3:opOK n=true→¬ ((l.length:Int)=2):=fun h e=>hc ⟨h,by omega⟩
    rw [hf]
    cases ho:opOK n
    ·rw [ho] at hin
     simp [c138,GT.enc_eq,GT.kind,GT.name,GT.value,GT.args,GV.kind,GV.num,GV.text,GV.items,hin,enc_mk,setRun,hd1]
    ·have hc4:=hc3 ho
     rw [ho] at hin
     simp [c138,GT.enc_eq,GT.kind,GT.name,GT.value,GT.args,GV.kind,GV.num,GV.text,GV.items,hin,hc4,enc_mk,setRun,hd1]
  simp [c138,GT.enc_eq,GT.kind,GT.name,GT.value,GT.args,GV.kind,GV.num,GV.text,GV.items,termR,termB,hd1,h1,h2,h3,h4]
open Go.Mach
theorem callR4Term (t:GT) (hs:t.size≤100000000000) (bs:Nat) (σ:Heap):callT T 138 [t.enc,.int .i64 8] bs σ=some (.bool (sym (termR 8 t)),σ):=call_clean rfl rfl rfl (by simp) (r4term_ok 8 t (by omega) hs)
theorem r4terms_ok (l:List GT) (hs:GT.sizes l≤10000000000):pureT T c120 [.isl (GT.encs l) false]=some (.bool (l.all (termR 8))):=by
 have hlen:=GT.len_sizes l
 apply pure_enter (by simp [c120])
 simp [c120]
 refine W_for T 0 18 l.length (fun i f σ=>f 0=.isl (GT.encs l) false∧f 3=.int .i64 (i:Int)∧∀ j,(hj:j<l.length)→j<i→termR 8 l[j]=true) ?_ _ _ ?_
 ·rintro i f σ hi ⟨h0,h3,hall⟩
  by_cases hlt:i<l.length
  ·have hm:=zqT hlt
   have hw:IntKind.i64.wrap ((i:Int)+1)=(i:Int)+1:=wr64 (by omega) (by omega)
   have hc:=callR4Term l[i] (by have:=(GT.sizes_mem hm).1; omega)
   cases hp:termR 8 l[i]
   ·rw [hp] at hc
    simp [h0,h3,hlt,hc,hw,←GT.enc_eq]
    exact ⟨_,hm,hp⟩
   ·rw [hp] at hc
    simp [h0,h3,hlt,hc,hw,←GT.enc_eq]
    intro j hj hji
    by_cases e:j=i
    ·subst e; exact hp
    ·exact hall j hj (by omega)
  ·have he:i=l.length:=by omega
   subst he
   simp [h0,h3]
   intro x hx
   obtain ⟨j,hj,rfl⟩:=zqS hx
   exact hall j hj hj
 ·simp
theorem callR4Terms (l:List GT) (hs:GT.sizes l≤10000000000) (bs:Nat) (σ:Heap):callT T 120 [.isl (GT.encs l) false] bs σ=some (.bool (sym (l.all (termR 8))),σ):=call_clean rfl rfl rfl (by simp) (r4terms_ok l hs)
theorem r4args_ok (l:List GT) (hs:GT.sizes l≤10000000000):pureT T c91 [.isl (GT.encs l) false]=some (.bool (argsB l)):=by
 have hall:=callR4Terms l hs
 have hlen:=GT.len_sizes l
 apply pure_enter (by simp [c91])
 unfold argsB headOK
 generalize l.all (termR 8)=b at *
 match l with
 | []=>
  simp only [GT.encs] at hall
  simp [c91,hall]
 | x :: l=>
  simp only [zqU] at *
  simp [c91,hall]
  repeat' (first | apply And.intro | intro _)
  all_goals first | (simp_all; done) | omega | grind
theorem callR4Args (l:List GT) (hs:GT.sizes l≤10000000000) (bs:Nat) (σ:Heap):callT T 91 [.isl (GT.encs l) false] bs σ=some (.bool (sym (argsB l)),σ):=call_clean rfl rfl rfl (by simp) (r4args_ok l hs)
theorem inSix (s:ByteArray) (o:AObj) (bs:Nat):callT T 93 [.sl 1 0 6 1 false,.str s] bs [o,.cells [.str ⟨#[61,61]⟩,.str ⟨#[33,61]⟩,.str ⟨#[60]⟩,.str ⟨#[60,61]⟩,.str ⟨#[62]⟩,.str ⟨#[62,61]⟩] 0 false] =
  some (.bool (sym (tOK s)),[o,.cells [.str ⟨#[61,61]⟩,.str ⟨#[33,61]⟩,.str ⟨#[60]⟩,.str ⟨#[60,61]⟩,.str ⟨#[62]⟩,.str ⟨#[62,61]⟩] 0 false]):=by
 have h:=r4in_ok six s (by decide)
 have e:six.any (fun x=>decide (x=s))=tOK s:=by rw [←six_any]; congr 1; funext x; exact decide_eq_decide.2 ⟨Eq.symm,Eq.symm⟩
 rw [e] at h
 exact call_scal rfl rfl rfl h rfl (by simp) rfl
theorem r4lit_ok (x:GL) (hs:x.size≤10000000000):pureT T c92 [x.enc]=some (.bool (litB x)):=by
 have h1:=x.name_le
 have h2:=x.args_le
 obtain ⟨k,n,l⟩:=x
 simp only at h1 h2
 have hrel:=callR4Rel n (by omega)
 have hvar:=callR4Upper n (by omega)
 have hargs:=callR4Args l (by omega)
 have hall:=callR4Terms l (by omega)
 have hcon:=inSix n
 apply pure_enter (by simp [c92])
 unfold litB
 by_cases k1:k=1
 ·subst k1
  simp [c92,GL.enc_eq,hrel,hargs]
  cases relOK n <;> simp
 by_cases k2:k=2
 ·subst k2
  simp [c92,GL.enc_eq,hrel,hargs]
  cases relOK n <;> simp
 by_cases k3:k=3
 ·subst k3
  generalize l.all (termR 8)=b at *
  simp [c92,GL.enc_eq,hcon,hall]
  repeat' (first | apply And.intro | intro _)
  all_goals first | (simp_all; done) | omega | grind
 by_cases k4:k=4
 ·subst k4
  generalize l.all (termR 8)=b at *
  simp [c92,GL.enc_eq,hvar,hall]
  repeat' (first | apply And.intro | intro _)
  all_goals first | (simp_all; done) | omega | grind
 simp [c92,GL.enc_eq,k1,k2,k3,k4]
theorem callR4Lit (x:GL) (hs:x.size≤10000000000) (bs:Nat) (σ:Heap):callT T 92 [x.enc] bs σ=some (.bool (sym (litB x)),σ):=call_clean rfl rfl rfl (by simp) (r4lit_ok x hs)
open Go.Mach
theorem r4tup_ok (x:GU) (hs:x.size≤10000000000):pureT T c88 [x.enc]=some (.bool (tupB x)):=by
 have h1:=x.name_le
 have h2:=x.args_le
 obtain ⟨n,l⟩:=x
 simp only at h1 h2
 have hrel:=callR4Rel n (by omega)
 have hlen:=len_sizes l
 apply pure_enter (by simp [c88])
 unfold tupB
 simp only
 cases hn:relOK n
 ·rw [hn] at hrel
  simp [c88,GU.enc_eq,hrel]
 rw [hn] at hrel
 match l with
 | []=>simp [c88,GU.enc_eq,hrel]
 | x :: l=>
  by_cases h8:(x :: l).length≤8
  ·by_cases hk:x.kind=3
   ·have d1:¬ ((((x :: l).length:Nat):Int)<1):=by simp only [zqU]; omega
    have d2:¬ (8<(((x :: l).length:Nat):Int)):=by omega
    have e0:(x :: l)[0]?=some x:=rfl
    have hsp:(true && decide (1≤(x :: l).length∧(x :: l).length≤8) && decide (x.kind=3) && (x :: l).all rightT)=(x :: l).all rightT:=by
     have:1≤(x :: l).length∧(x :: l).length≤8:=⟨by simp,h8⟩
     simp only [this,hk,and_self,decide_true,Bool.true_and]
    simp only [hsp]
    generalize hL:x :: l=L at *
    simp [c88,GU.enc_eq,hrel,d1,d2,e0,hk]
    refine W_for T 0 46 L.length (fun i f σ=>f 1=.ptr 0 0∧f 4=.int .i64 (i:Int)∧σ=[.cells [.str n,.isl (GV.encs L) false] 0 false]∧∀ j,(hj:j<L.length)→j<i→rightT L[j]=true) ?_ _ _ ?_
    ·rintro i f σ hi ⟨g1,g4,rfl,hall⟩
     by_cases hlt:i<L.length
     ·have hm:=zqT hlt
      have hw:IntKind.i64.wrap ((i:Int)+1)=(i:Int)+1:=wr64 (by omega) (by omega)
      have hc:=refRight L[i] (by have:=(sizes_mem hm).1; omega)
      cases hp:rightT L[i]
      ·rw [hp] at hc
       simp [g1,g4,hlt,hc,hw,←GV.enc_eq]
       exact ⟨_,hm,hp⟩
      ·rw [hp] at hc
       simp [g1,g4,hlt,hc,hw,←GV.enc_eq]
       intro j hj hji
       by_cases e:j=i
       ·subst e; exact hp
       ·exact hall j hj (by omega)
     ·have he:i=L.length:=by omega
      subst he
      simp [g1,g4]
      intro y hy
      obtain ⟨j,hj,rfl⟩:=zqS hy
      exact hall j hj hj
    ·simp
   ·simp only [zqU] at *
    have d1:¬ ((l.length:Int)+1<1):=by omega
    have d2:¬ (8<(l.length:Int)+1):=by omega
    simp [c88,GU.enc_eq,hrel,d1,d2,hk]
  ·simp only [zqU] at *
   have d1:¬ ((l.length:Int)+1<1):=by omega
   have d2:8<(l.length:Int)+1:=by omega
   simp [c88,GU.enc_eq,hrel,d1,d2]
   try omega
theorem callR4Tup (x:GU) (hs:x.size≤10000000000) (bs:Nat) (σ:Heap):callT T 88 [x.enc] bs σ=some (.bool (sym (tupB x)),σ):=call_clean rfl rfl rfl (by simp) (r4tup_ok x hs)
open Go.Mach
theorem inThree (s:ByteArray) (o:AObj) (bs:Nat):callT T 93 [.sl 1 0 3 1 false,.str s] bs [o,.cells [.str sMin,.str sMax,.str sCount] 0 false]=some (.bool (sym (decide (s=sMin∨s=sMax∨s=sCount))),[o,.cells [.str sMin,.str sMax,.str sCount] 0 false]):=by
 have h:=r4in_ok [sMin,sMax,sCount] s (by decide)
 have e:([sMin,sMax,sCount]:List ByteArray).any (fun x=>decide (x=s))=decide (s=sMin∨s=sMax∨s=sCount):=by
  rw [Bool.eq_iff_iff]; simp only [List.any_cons,List.any_nil,Bool.or_false,Bool.or_eq_true,decide_eq_true_eq]; grind
 rw [e] at h
 exact call_scal rfl rfl rfl h rfl (by simp) rfl
theorem r4rule_ok (x:GR) (hs:x.size≤10000000000):pureT T c60 [x.enc]=some (.bool (ruleB x)):=by
 have h1:=x.label_le
 have h2:=x.head_le
 have h3:=x.args_le
 have h4:=x.agg_le
 have h5:=x.body_len
 have h6:=fun y hy=>x.body_mem (y:=y) hy
 obtain ⟨lab,hd,l,agg,at',body⟩:=x
 simp only at h1 h2 h3 h4 h5 h6
 have hlen:=GT.len_sizes l
 have hr1:=callR4Rel lab (by omega)
 have hr2:=callR4Rel hd (by omega)
 have hargs:=callR4Args l (by omega)
 have hin:=inThree agg
 apply pure_enter (by simp [c60])
 unfold ruleB
 simp only
 generalize relOK lab=b1 at *
 generalize relOK hd=b2 at *
 generalize argsB l=b3 at *
 cases b1
 ·simp [c60,GR.enc_eq,hr1,hr2,hargs]
 cases b2
 ·simp [c60,GR.enc_eq,hr1,hr2,hargs]
 cases b3
 ·simp [c60,GR.enc_eq,hr1,hr2,hargs]
 by_cases c1:body.length<1
 ·have c1':(body.length:Int)<1:=by omega
  simp [c60,GR.enc_eq,hr1,hr2,hargs,c1']
  omega
 by_cases c2:8<body.length
 ·have c1':¬ (body.length:Int)<1:=by omega
  have c2':8<(body.length:Int):=by omega
  simp [c60,GR.enc_eq,hr1,hr2,hargs,c1',c2']
  omega
 have c1':¬ (body.length:Int)<1:=by omega
 have c2':¬ 8<(body.length:Int):=by omega
 have c3:1≤body.length∧body.length≤8:=by omega
 simp only [c3,and_self,decide_true,Bool.and_true,Bool.true_and]
 simp [c60,GR.enc_eq,hr1,hr2,hargs,c1',c2']
 refine W_for T 0 89 body.length (fun i f σ=>f 1=.ptr 0 0∧f 6=.int .i64 (i:Int)∧σ=[.cells [.str lab,.str hd,.isl (GT.encs l) false,.str agg,.int .i64 at',.isl (body.map GL.enc) false] 0 false]∧∀ j,(hj:j<body.length)→j<i→litB body[j]=true) ?_ _ _ ?_
 ·rintro i f σ hi ⟨g1,g6,rfl,hall⟩
  by_cases hlt:i<body.length
  ·have hm:=zqT hlt
   have e1:body[i]?=some body[i]:=zqF hlt
   have hw:IntKind.i64.wrap ((i:Int)+1)=(i:Int)+1:=wr64 (by omega) (by omega)
   have hc:=callR4Lit body[i] (by have:=h6 _ hm; omega)
   cases hp:litB body[i]
   ·rw [hp] at hc
    have hf:body.all litB=false:=by rw [Bool.eq_false_iff]; intro h; rw [zqQ.1 h _ hm] at hp; cases hp
    simp [g1,g6,hlt,e1,hc,hw,hf,←GL.enc_eq]
   ·rw [hp] at hc
    simp [g1,g6,hlt,e1,hc,hw,←GL.enc_eq]
    intro j hj hji
    by_cases e:j=i
    ·subst e; exact hp
    ·exact hall j hj (by omega)
  ·have he:i=body.length:=by omega
   subst he
   have hf:body.all litB=true:=by
    rw [zqQ]; intro y hy
    obtain ⟨j,hj,rfl⟩:=zqS hy
    exact hall j hj hj
   unfold aggB
   simp only [hf,Bool.true_and]
   by_cases g0:agg=⟨#[]⟩
   ·subst g0
    simp [g1,g6]
   rw [if_neg g0]
   by_cases g2:agg=sMin∨agg=sMax∨agg=sCount
   ·by_cases g3:1≤at'∧at'<(l.length:Int)
    ·obtain ⟨t,ht⟩:∃ t,l[at'.toNat]?=some t:=⟨_,zqF (by omega)⟩
     have g4:0≤at':=by omega
     simp [g1,g6,g0,hin,g2,g3,g4,ht]
    ·simp [g1,g6,g0,hin,g2,g3]
     try grind
   ·simp [g1,g6,g0,hin,g2]
 ·simp
theorem callR4Rule (x:GR) (hs:x.size≤10000000000) (bs:Nat) (σ:Heap):callT T 60 [x.enc] bs σ=some (.bool (sym (ruleB x)),σ):=call_clean rfl rfl rfl (by simp) (r4rule_ok x hs)
open Go.Mach
theorem all_no {α:Type} {p:α→Bool} {l:List α} {x:α} (h:x∈l) (hp:p x=false):l.all p=false:=by
 rw [Bool.eq_false_iff]; intro hh; rw [zqQ.1 hh _ h] at hp; cases hp
theorem all_yes {α:Type} {p:α→Bool} {l:List α} (h:∀ j,(hj:j<l.length)→j<l.length→p l[j]=true):l.all p=true:=by
 rw [zqQ]; intro y hy
 obtain ⟨j,hj,rfl⟩:=zqS hy
 exact h j hj hj
theorem all_step {α:Type} {p:α→Bool} {l:List α} {i:Nat} (hlt:i<l.length) (hp:p l[i]=true) (h:∀ j,(hj:j<l.length)→j<i→p l[j]=true):∀ j,(hj:j<l.length)→j<i+1→p l[j]=true:=fun j hj hji=>by
 by_cases e:j=i
 ·subst e; exact hp
 ·exact h j hj (by omega)
set_option maxRecDepth 100000 in
theorem r4right_ok (x:GP) (hs:x.size≤10000000000):pureT T c57 [x.enc]=some (.bool (progB x)):=by
 have m1:=fun y hy=>x.decls_mem (y:=y) hy
 have m2:=fun y hy=>x.facts_mem (y:=y) hy
 have m3:=fun y hy=>x.rules_mem (y:=y) hy
 obtain ⟨ds,us,rs⟩:=x
 simp only at m1 m2 m3
 apply pure_enter (by simp [c57])
 unfold progB
 simp only
 by_cases c1:ds.length≤64∧us.length≤64∧rs.length≤64
 ·have d1:¬ (64<(ds.length:Int)):=by omega
  have d2:¬ (64<(us.length:Int)):=by omega
  have d3:¬ (64<(rs.length:Int)):=by omega
  simp only [c1,and_self,decide_true,Bool.true_and]
  simp [c57,GP.enc_eq,d1,d2,d3]
  refine W_for T 0 89 ds.length (fun i f σ=>f 1=.ptr 0 0∧f 3=.int .i64 (i:Int)∧σ=[.cells [.isl (ds.map GD.enc) false,.isl (us.map GU.enc) false,.isl (rs.map GR.enc) false] 0 false]∧∀ j,(hj:j<ds.length)→j<i→declB ds[j]=true) ?_ _ _ ?_
  rotate_left 1
  ·simp
  rintro i f σ hi ⟨g1,g3,rfl,hall⟩
  by_cases hlt:i<ds.length
  ·have hm:=zqT hlt
   have e1:ds[i]?=some ds[i]:=zqF hlt
   have hw:IntKind.i64.wrap ((i:Int)+1)=(i:Int)+1:=wr64 (by omega) (by omega)
   have hrel:=callR4Rel ds[i].name (by have:=m1 _ hm; have:=ds[i].name_le; omega)
   cases hp:declB ds[i]
   ·have hf:=all_no hm hp
    have hp2:¬ (relOK ds[i].name=true∧1≤ds[i].arity∧ds[i].arity≤8):=by simpa [declB] using hp
    simp [g1,g3,hlt,e1,hrel,hw,hf]
    grind
   ·have hp2:relOK ds[i].name=true∧1≤ds[i].arity∧ds[i].arity≤8:=by simpa [declB] using hp
    have p1:¬ (ds[i].arity<1):=by omega
    have p2:¬ (8<ds[i].arity):=by omega
    rw [hp2.1] at hrel
    simp [g1,g3,hlt,e1,hrel,hw,p1,p2]
    exact all_step hlt hp hall
  ·have he:i=ds.length:=by omega
   subst he
   have hf1:=all_yes hall
   simp only [hf1,Bool.and_true]
   simp [g1,g3]
   refine W_for T 0 89 us.length (fun i f σ=>f 1=.ptr 0 0∧f 5=.int .i64 (i:Int)∧σ=[.cells [.isl (ds.map GD.enc) false,.isl (us.map GU.enc) false,.isl (rs.map GR.enc) false] 0 false]∧∀ j,(hj:j<us.length)→j<i→tupB us[j]=true) ?_ _ _ ?_
   rotate_left 1
   ·simp [g1]
   clear g1 g3
   rintro i f σ hi ⟨g1,g3,rfl,hall⟩
   by_cases hlt:i<us.length
   ·have hm:=zqT hlt
    have e1:us[i]?=some us[i]:=zqF hlt
    have hw:IntKind.i64.wrap ((i:Int)+1)=(i:Int)+1:=wr64 (by omega) (by omega)
    have hc:=callR4Tup us[i] (by have:=m2 _ hm; omega)
    cases hp:tupB us[i]
    ·have hf:=all_no hm hp
     rw [hp] at hc
     simp [g1,g3,hlt,e1,hc,hw,hf,←GU.enc_eq]
    ·rw [hp] at hc
     simp [g1,g3,hlt,e1,hc,hw,←GU.enc_eq]
     exact all_step hlt hp hall
   ·have he:i=us.length:=by omega
    subst he
    have hf2:=all_yes hall
    simp only [hf2,Bool.true_and]
    simp [g1,g3]
    refine W_for T 0 89 rs.length (fun i f σ=>f 1=.ptr 0 0∧f 7=.int .i64 (i:Int)∧σ=[.cells [.isl (ds.map GD.enc) false,.isl (us.map GU.enc) false,.isl (rs.map GR.enc) false] 0 false]∧∀ j,(hj:j<rs.length)→j<i→ruleB rs[j]=true) ?_ _ _ ?_
    rotate_left 1
    ·simp [g1]
    clear g1 g3
    rintro i f σ hi ⟨g1,g3,rfl,hall⟩
    by_cases hlt:i<rs.length
    ·have hm:=zqT hlt
     have e1:rs[i]?=some rs[i]:=zqF hlt
     have hw:IntKind.i64.wrap ((i:Int)+1)=(i:Int)+1:=wr64 (by omega) (by omega)
     have hc:=callR4Rule rs[i] (by have:=m3 _ hm; omega)
     cases hp:ruleB rs[i]
     ·have hf:=all_no hm hp
      rw [hp] at hc
      simp [g1,g3,hlt,e1,hc,hw,hf,←GR.enc_eq]
     ·rw [hp] at hc
      simp [g1,g3,hlt,e1,hc,hw,←GR.enc_eq]
      exact all_step hlt hp hall
    ·have he:i=rs.length:=by omega
     subst he
     have hf3:=all_yes hall
     simp [g1,g3,hf3]
 ·have hf:decide (ds.length≤64∧us.length≤64∧rs.length≤64)=false:=decide_eq_false c1
  simp only [hf,Bool.false_and]
  by_cases d1:64<(ds.length:Int)
  ·simp [c57,GP.enc_eq,d1]
  by_cases d2:64<(us.length:Int)
  ·simp [c57,GP.enc_eq,d1,d2]
  have d3:64<(rs.length:Int):=by omega
  simp [c57,GP.enc_eq,d1,d2,d3]
theorem callR4Right (x:GP) (hs:x.size≤10000000000) (bs:Nat) (σ:Heap):callT T 57 [x.enc] bs σ=some (.bool (sym (progB x)),σ):=call_clean rfl rfl rfl (by simp) (r4right_ok x hs)
open Go.Mach
def joinB (ls:List ByteArray) (sep:ByteArray):List UInt8:=joinF (fun _ (x:ByteArray)=>x.data.toList) sep.data.toList 0 ls
theorem S_ap (a:List UInt8) (b:ByteArray):S a++b=S (a++b.data.toList):=bytes_ext (by simp [S])
theorem S_sz (a:List UInt8):(S a).size=a.length:=rfl
theorem joined_ok (ls:List ByteArray) (sep:ByteArray) (hl:ls.length≤1000000) (hb:(joinB ls sep).length≤1000000000000):pureT T c63 [.isl (ls.map .str) false,.str sep]=some (.str (S (joinB ls sep))):=by
 apply pure_enter (by simp [c63])
 simp [c63]
 refine W_for T 0 25 ls.length (fun i f σ=>f 0=.isl (ls.map .str) false∧f 1=.str sep∧f 5=.str (S (joinF (fun _ (x:ByteArray)=>x.data.toList) sep.data.toList 0 (ls.take i)))∧f 6=.int .i64 (i:Int)) ?_ _ _ ?_
 ·rintro i f σ hi ⟨g0,g1,g5,g6⟩
  by_cases hlt:i<ls.length
  ·have e1:ls[i]?=some ls[i]:=zqF hlt
   have hw:IntKind.i64.wrap ((i:Int)+1)=(i:Int)+1:=wr64 (by omega) (by omega)
   have hj:=joinF_take (fun _ (x:ByteArray)=>x.data.toList) sep.data.toList ls i hlt
   have hle:=joinF_le (fun _ (x:ByteArray)=>x.data.toList) sep.data.toList ls (i+1)
   have hb':(joinF (fun _ (x:ByteArray)=>x.data.toList) sep.data.toList 0 ls).length≤1000000000000:=hb
   rw [hj] at hle ⊢
   generalize joinF (fun _ (x:ByteArray)=>x.data.toList) sep.data.toList 0 (ls.take i)=cur at *
   have hn:ls[i].data.toList.length=ls[i].size:=by simp
   have hn2:sep.data.toList.length=sep.size:=by simp
   by_cases h0:i=0
   ·have h0':¬ (0<i):=by omega
    rw [if_pos h0] at hle ⊢
    simp only [zqJ,List.length_nil,hn] at hle
    have q:(cur.length:Int)+(ls[i].size:Int)≤9223372036854775807:=by omega
    simp [g0,g1,g5,g6,hlt,e1,hw,h0',S_sz,S_ap,q]
   ·have h0':0<i:=by omega
    rw [if_neg h0] at hle ⊢
    simp only [zqJ,hn,hn2] at hle
    have q0:(cur.length:Int)+(sep.size:Int)≤9223372036854775807:=by omega
    have q:(cur.length:Int)+(sep.size:Int)+(ls[i].size:Int)≤9223372036854775807:=by omega
    simp [g0,g1,g5,g6,hlt,e1,hw,h0',S_sz,S_ap,q0,q]
  ·have he:i=ls.length:=by omega
   subst he
   rw [List.take_length] at g5
   simp [g0,g1,g5,g6,joinB]
 ·simp [joinF,S]
open Go.Mach
theorem chkO_e1 (ρ:Regs) (σ σ':Heap) (x:AX):(chkO ρ σ σ' [x]=some ())=(objOf σ (ev ρ x)=objOf σ' (ev ρ x)):=by
 have:=sameO_iff (objOf σ (ev ρ x)) (objOf σ' (ev ρ x))
 unfold chkO
 simp only [List.all_cons,List.all_nil,Bool.and_true]
 rw [←this]
 split <;> simp_all
theorem sz_mk (a:Array UInt8):(ByteArray.mk a).size=a.size:=rfl
theorem joinB_map {α:Type} (f:α→List UInt8) (l:List α) (sep:ByteArray):joinB (l.map fun x=>S (f x)) sep=joinF (fun _=>f) sep.data.toList 0 l:=by
 unfold joinB
 suffices h:∀ i,joinF (fun _ (x:ByteArray)=>x.data.toList) sep.data.toList i (l.map fun x=>S (f x))=joinF (fun _=>f) sep.data.toList i l from h 0
 induction l with
 | nil=>intro i; rfl
 | cons x l ih=>intro i; simp only [List.map_cons,joinF,ih,S_toList]
theorem joinB_terms (l:List GT) (sep:ByteArray):joinB (l.map fun x=>S (shT x)) sep=shTs sep.data.toList l:=by rw [joinB_map,ts_join]
def TxAt (σ:Heap) (x:AV) (ls:List ByteArray):Prop:=(ls=[]∧x=.isl [] true)∨∃ k ext,x=.sl k 0 ls.length 1 false∧σ[k]?=some (.cells (ls.map .str) 0 ext)
theorem tx_close {σ:Heap} {x:AV} {ls:List ByteArray} (h:TxAt σ x ls):∃ σ1,close1 σ x=some (.isl (ls.map .str) false,σ1):=by
 rcases h with ⟨rfl,rfl⟩ | ⟨k,ext,rfl,hk⟩
 ·exact ⟨_,rfl⟩
 ·by_cases h0:ls.length=0
  ·have:ls=[]:=List.length_eq_zero_iff.1 h0
   subst this
   exact ⟨_,rfl⟩
  ·have hcl:(ls.map AV.str).all AV.clo1=true:=by rw [zqQ]; intro y hy; obtain ⟨z,_,rfl⟩:=List.mem_map.1 hy; rfl
   have hnr:(ls.map AV.str).map AV.nrm=ls.map AV.str:=by rw [List.map_map]; rfl
   have hch:=chunk_one (ls.map AV.str)
   rw [List.length_map] at hch
   refine ⟨frz σ k (0+ls.length * 1),close1_of0 ?_⟩
   unfold close0
   simp only [if_neg h0,hk,window_full (show (ls.map AV.str).length=ls.length * 1 by simp),Option.bind_some,hcl,if_true,hnr,hch,Option.map_some]
theorem tx_args {σ:Heap} {x:AV} {ls:List ByteArray} (h:TxAt σ x ls) (s:ByteArray):∃ σ1,closeT σ [x,.str s]=some ([.isl (ls.map .str) false,.str s],σ1):=by
 obtain ⟨σ1,h1⟩:=tx_close h
 refine ⟨σ1,?_⟩
 have h2:closeA σ x=close1 σ x:=by rcases h with ⟨_,rfl⟩ | ⟨k,ext,rfl,_⟩ <;> rfl
 simp [closeT,h2,h1]
theorem callJoinedX (ls:List ByteArray) (sep:ByteArray) (hl:ls.length≤1000000) (hb:(joinB ls sep).length≤1000000000000) (bs:Nat) {σ:Heap} {x:AV} (h:TxAt σ x ls) :
  callT T 63 [x,.str sep] bs σ=some (.str (S (joinB ls sep)),σ):=by
 obtain ⟨σ1,hc⟩:=tx_args h sep
 exact call_scal rfl rfl rfl (joined_ok ls sep hl hb) rfl (by simp) hc
theorem callShJoinedX (l:List GT) (sep:ByteArray) (hl:l.length≤1000000) (hb:(shTs sep.data.toList l).length≤1000000000000) (bs:Nat) {σ:Heap} {x:AV} (h:TxAt σ x (l.map fun x=>S (shT x))) :
  callT T 63 [x,.str sep] bs σ=some (.str (S (shTs sep.data.toList l)),σ):=by
 have:=callJoinedX (l.map fun x=>S (shT x)) sep (by simpa using hl) (by rw [joinB_terms]; exact hb) bs h
 rwa [joinB_terms] at this
theorem app_tx {σ:Heap} {j fz:Nat} {e:Bool} {s:ByteArray} {x:AV} {ls:List ByteArray} (h:(ls=[]∧x=.isl [] true)∨∃ k,x=.sl k 0 ls.length 1 false∧σ[k]?=some (.cells (ls.map .str) 0 true)) (hj:σ[j]?=some (.cells [.str s] fz e)) (hn:ls.length≤1000000000) :
  ∃ σ1,appendA σ 1 false 16 true x (.sl j 0 1 1 false)=some (.sl σ.length 0 (ls++[s]).length 1 false,σ1++[.cells ((ls++[s]).map .str) 0 true])∧(σ1=σ∨∃ k,x=.sl k 0 ls.length 1 false∧σ1=σ.set k .dead):=by
 have e2:=elemsN_s1 hj
 rcases h with ⟨rfl,rfl⟩ | ⟨k,rfl,hk⟩
 ·refine ⟨σ,?_,.inl rfl⟩
  have he2:elemsA σ 1 false (.isl [] true)=some []:=rfl
  have hne:¬ ((1:Nat)=0∨(0+1) * 16 > 70368744177664∨0+1 > 70368744177664):=by omega
  simp only [appendA,e2,he2,Option.bind_some,isSl,List.length_nil,List.length_singleton,if_neg hne]
  simp [flat,AV.cells]
 ·refine ⟨σ.set k .dead,?_,.inr ⟨k,rfl,rfl⟩⟩
  have hfl:∀ l:List ByteArray,flat (l.map AV.str)=l.map AV.str:=fun l=>by
   induction l with
   | nil=>rfl
   | cons a l ih=>simp only [flat,List.map_cons,List.flatMap_cons,AV.cells] at ih ⊢; rw [ih]; rfl
  have he2:elemsA σ 1 false (.sl k 0 ls.length 1 false)=some (ls.map .str):=by
   simp only [elemsA,hk]
   rw [window_full (by simp),Option.bind_some]
   have:=chunk_one (ls.map AV.str); rwa [List.length_map] at this
  have hne:¬ ((1:Nat)=0∨(ls.length+1) * 16 > 70368744177664∨ls.length+1 > 70368744177664):=by omega
  have hf1:flat [(AV.str s).nrm]=[.str s]:=rfl
  simp only [appendA,e2,he2,Option.bind_some,isSl,List.length_map,List.length_singleton,if_neg hne]
  have hf2:flat [AV.str s]=[.str s]:=rfl
  simp [hk,hfl,hf1,hf2]
theorem printedX (l:List GT) (hs:GT.sizes l≤1000000000) (hc:∀ x∈l,∀ bs σ,callT T 94 [x.enc] bs σ=some (.str (S (shT x)),σ)) (bs:Nat) (σ0:Heap) :
  ∃ r,callT T 61 [.isl (GT.encs l) false] bs σ0=some r∧∃ R,r.2=σ0++R∧((l=[]∧r.1=.isl [] true)∨∃ k,r.1=.sl (σ0.length+k) 0 l.length 1 false∧R[k]?=some (.cells (l.map fun x=>.str (S (shT x))) 0 true)):=by
 have hlen:=GT.len_sizes l
 refine heap_enterE (af:=c61) (args':=[.isl (GT.encs l) false]) (σ1:=σ0) rfl rfl (by simp [c61]) (by simp [c61]) (clean_closeT (by simp)).1 ?_
 simp [c61,baseA]
 refine W_for T _ 20 l.length (fun i f σ=>f 0=.isl (GT.encs l) false∧f 4=.int .i64 (i:Int)∧∃ R,σ=σ0++R∧((i=0∧f 3=.isl [] true)∨∃ k,f 3=.sl (σ0.length+k) 0 i 1 false∧R[k]?=some (.cells ((l.take i).map fun x=>.str (S (shT x))) 0 true))) ?_ _ _ ?_
 ·rintro i f σ hi ⟨g0,g4,R,rfl,g3⟩
  by_cases hlt:i<l.length
  ·have hx:=hc l[i] (zqT hlt)
   have hw:IntKind.i64.wrap ((i:Int)+1)=(i:Int)+1:=wr64 (by omega) (by omega)
   have htk:(l.take (i+1)).map (fun x=>S (shT x))=(l.take i).map (fun x=>S (shT x))++[S (shT l[i])]:=by
    rw [List.take_add_one,zqF hlt,List.map_append]; rfl
   have hln:((l.take i).map fun x=>S (shT x)).length=i:=by simp; omega
   have hst:((l.take i).map (fun x=>S (shT x))=[]∧f 3=.isl [] true)∨∃ k,f 3=.sl k 0 ((l.take i).map fun x=>S (shT x)).length 1 false∧(σ0++(R++[AObj.cells [.str (S (shT l[i]))] 0 false]))[k]?=some (.cells (((l.take i).map fun x=>S (shT x)).map .str) 0 true):=by
    rcases g3 with ⟨rfl,g3⟩ | ⟨k,g3,hk⟩
    ·exact .inl ⟨rfl,g3⟩
    ·refine .inr ⟨σ0.length+k,by rw [hln]; exact g3,?_⟩
     have hkl:k<R.length:=(zqI.1 hk).1
     rw [zqB (by omega),Nat.add_sub_cancel_left,zqA hkl,hk,List.map_map]; rfl
   have hj:(σ0++(R++[AObj.cells [.str (S (shT l[i]))] 0 false]))[σ0.length+R.length]?=some (.cells [.str (S (shT l[i]))] 0 false):=by
    rw [zqB (by omega),Nat.add_sub_cancel_left]; simp
   obtain ⟨σ1,ha,h1⟩:=app_tx hst hj (by omega)
   have hR2:∃ R2,σ1=σ0++R2∧R2.length=R.length+1:=by
    rcases h1 with rfl | ⟨k,h3,rfl⟩
    ·exact ⟨_,rfl,by simp⟩
    ·rcases g3 with ⟨_,g3⟩ | ⟨k',g3,_⟩
     ·rw [g3] at h3; cases h3
     ·rw [g3] at h3; injection h3 with h3; subst h3
      exact ⟨_,by rw [List.set_append_right _ _ (by omega)],by simp⟩
   obtain ⟨R2,rfl,hR2⟩:=hR2
   obtain ⟨x3,hx3⟩:∃ x,f 3=x:=⟨_,rfl⟩
   rw [hx3,←htk] at ha
   have hle:(σ0++(R++[AObj.cells [.str (S (shT l[i]))] 0 false])).length=σ0.length+R2.length:=by simp [hR2]
   rw [hle] at ha
   have hll:((l.take (i+1)).map fun x=>S (shT x)).length=i+1:=by simp; omega
   rw [hll] at ha
   simp [g0,g4,hx3,hlt,hx,hw,←GT.enc_eq,ha]
   rfl
  ·have he:i=l.length:=by omega
   subst he
   rw [List.take_length] at g3
   simp [g0,g4,res1]
   rcases g3 with ⟨h0,g3⟩ | ⟨k,g3,hk⟩
   ·exact .inl ⟨List.length_eq_zero_iff.1 h0,g3⟩
   ·exact .inr ⟨k,g3,hk⟩
 ·simp
theorem printedAt (l:List GT) (hs:GT.sizes l≤1000000000) (hc:∀ x∈l,∀ bs σ,callT T 94 [x.enc] bs σ=some (.str (S (shT x)),σ)) (bs:Nat) (σ0:Heap) :
  ∃ x R,callT T 61 [.isl (GT.encs l) false] bs σ0=some (x,σ0++R)∧(∀ τ X,τ.length=σ0.length→TxAt (τ++(R++X)) x (l.map fun x=>S (shT x))) ∧
   ((l=[]∧x=.isl [] true)∨∃ k,x=.sl (σ0.length+k) 0 l.length 1 false∧R[k]?=some (.cells (l.map fun x=>.str (S (shT x))) 0 true)):=by
 obtain ⟨⟨x,σ1⟩,h1,R,h2,h3⟩:=printedX l hs hc bs σ0
 simp only at h2 h3; subst h2
 refine ⟨x,R,h1,fun τ X hτ=>?_,h3⟩
 rcases h3 with ⟨rfl,h3⟩ | ⟨k,h3,hk⟩
 ·exact .inl ⟨rfl,h3⟩
 ·refine .inr ⟨σ0.length+k,true,by simpa using h3,?_⟩
  have hkl:k<R.length:=(zqI.1 hk).1
  rw [←hτ,zqB (by omega),Nat.add_sub_cancel_left,zqA hkl,hk,List.map_map]; rfl
theorem term_few {d:Nat} {k:Int} {n:ByteArray} {v:GV} {l:List GT} (h:termR d (.mk k n v l)=true):l.length≤2:=by
 obtain ⟨_,⟨n',e,hn⟩ | ⟨v',e,hv,_⟩ | ⟨n',l',e,hn,hl⟩ | ⟨n',l',e,_,h2,hl⟩⟩:=term_cases h <;> injection e with e1 e2 e3 e4 <;> subst e4
 ·simp
 ·simp
 ·unfold arityOf at hn
  split at hn
  ·omega
  ·split at hn <;> omega
 ·omega
theorem shown_ok:∀ (m:Nat) (t:GT),t.size≤m→m≤1000000000→(∃ d,termR d t=true)→pureT T c94 [t.enc]=some (.str (S (shT t))):=by
 intro m
 induction m with
 | zero=>intro t h; obtain ⟨k,n,⟨vk,vn,vt,vl⟩,l⟩:=t; simp [GT.size] at h
 | succ m ih=>
  intro t hs hm hd
  obtain ⟨d,hd⟩:=hd
  have hlen:=sh_len t d hd
  obtain ⟨k,n,⟨vk,vn,vt,vl⟩,l⟩:=t
  simp only [GT.size] at hs hlen
  have hll:=GT.len_sizes l
  have hcl:∀ x∈l,∀ bs σ,callT T 94 [x.enc] bs σ=some (.str (S (shT x)),σ):=fun x hx bs σ=>
   call_clean rfl rfl rfl (by simp) (ih x (by have:=(GT.sizes_mem hx).1; omega) (by omega) (term_args hd x hx))
  have har:=term_few hd
  apply pure_enter (by simp [c94])
  by_cases h1:k=1
  ·subst h1
   have hp:shT (.mk 1 n (.mk vk vn vt vl) l)=n.data.toList:=by simp [shT]
   rw [hp,S_data]
   simp [c94,GT.enc_eq,GT.kind,GT.name,GT.value,GT.args]
  by_cases h2:k=2
  ·subst h2
   have hv:=term_value hd rfl
   have hp:shT (.mk 2 n (.mk vk vn vt vl) l)=pr (.mk vk vn vt vl):=by simp [shT]
   have hpv:=refPrint (.mk vk vn vt vl) (right_okV _ _ hv) (by have:=rightT_size hv; omega)
   have hpv2:printV (.mk vk vn vt vl)=S (pr (.mk vk vn vt vl)):=by simp [printV,hv]
   rw [hpv2] at hpv
   rw [hp]
   simp [c94,GT.enc_eq,GT.kind,GT.name,GT.value,GT.args,GV.kind,GV.num,GV.text,GV.items,enc_mk,hpv]
  obtain ⟨x,R,hpr,hat,_⟩:=printedAt l (by omega) hcl 0 [.cells (GT.mk k n (.mk vk vn vt vl) l).enc.cells 0 false]
  have hat:=hat [.cells (GT.mk k n (.mk vk vn vt vl) l).enc.cells 0 false] [] rfl
  rw [List.append_nil] at hat
  by_cases h3:k=3
  ·subst h3
   have hp:shT (.mk 3 n (.mk vk vn vt vl) l)=n.data.toList++40 :: (shTs [44] l++[41]):=by simp [shT]
   rw [hp] at hlen ⊢
   simp only [zqJ,zqU,List.length_nil] at hlen
   have hns:n.data.toList.length=n.size:=by simp
   have hj:=callShJoinedX l ⟨#[44]⟩ (by omega) (by show (shTs [44] l).length≤_; omega) 0 hat
   have e:n++⟨#[40]⟩++S (shTs [44] l)++⟨#[41]⟩=S (n.data.toList++40 :: (shTs [44] l++[41])):=bytes_ext (by simp [S])
   have q0:(n.size:Int)+1≤9223372036854775807:=by omega
   have q1:(n.size:Int)+1+((shTs [44] l).length:Int)≤9223372036854775807:=by omega
   have q2:(n.size:Int)+1+((shTs [44] l).length:Int)+1≤9223372036854775807:=by omega
   simp [GT.enc_eq,GT.kind,GT.name,GT.value,GT.args,GV.kind,GV.num,GV.text,GV.items] at hpr hj
   simp [c94,GT.enc_eq,GT.kind,GT.name,GT.value,GT.args,GV.kind,GV.num,GV.text,GV.items,hpr,hj,S_sz,sz_mk,chkO_e1,objOf,q0,q1,q2,e]
  have hp:shT (.mk k n (.mk vk vn vt vl) l)=40 :: (shTs n.data.toList l++[41]):=by simp [shT,h1,h2,h3]
  rw [hp] at hlen ⊢
  simp only [zqJ,zqU,List.length_nil] at hlen
  have hj:=callShJoinedX l n (by omega) (by omega) 0 hat
  have e:(⟨#[40]⟩:ByteArray)++S (shTs n.data.toList l)++⟨#[41]⟩=S (40 :: (shTs n.data.toList l++[41])):=bytes_ext (by simp [S])
  have q1:(1:Int)+((shTs n.data.toList l).length:Int)≤9223372036854775807:=by omega
  have q2:(1:Int)+((shTs n.data.toList l).length:Int)+1≤9223372036854775807:=by omega
  simp [GT.enc_eq,GT.kind,GT.name,GT.value,GT.args,GV.kind,GV.num,GV.text,GV.items] at hpr hj
  simp [c94,GT.enc_eq,GT.kind,GT.name,GT.value,GT.args,GV.kind,GV.num,GV.text,GV.items,hpr,hj,S_sz,sz_mk,chkO_e1,objOf,q1,q2,e,h1,h2,h3]
theorem callShown (t:GT) (hs:t.size≤1000000000) (hd:∃ d,termR d t=true) (bs:Nat) (σ:Heap):callT T 94 [t.enc] bs σ=some (.str (S (shT t)),σ):=call_clean rfl rfl rfl (by simp) (shown_ok t.size t (Nat.le_refl _) hs hd)
theorem callPrinted (l:List GT) (hs:GT.sizes l≤1000000000) (hd:∀ x∈l,termR 8 x=true) (bs:Nat) (σ0:Heap) :
  ∃ x R,callT T 61 [.isl (GT.encs l) false] bs σ0=some (x,σ0++R)∧(∀ τ X,τ.length=σ0.length→TxAt (τ++(R++X)) x (l.map fun x=>S (shT x))) ∧
   ((l=[]∧x=.isl [] true)∨∃ k,x=.sl (σ0.length+k) 0 l.length 1 false∧R[k]?=some (.cells (l.map fun x=>.str (S (shT x))) 0 true)):=
 printedAt l hs (fun x hx bs σ=>callShown x (by have:=(GT.sizes_mem hx).1; omega) ⟨8,hd x hx⟩ bs σ) bs σ0
open Go.Mach
def textLiteral (x:GL):ByteArray:=if litB x=true then S (shLit x) else S []
theorem shAt_nil (p:Int):shAt [] p=fun _=>shT:=by funext i t; simp [shAt]
theorem atS_nil (p:Int) (l:List GT):shAtS [] p 0 l=shTs [44] l:=by rw [←ats_join,shAt_nil,ts_join]
theorem r4Lit_ok (x:GL) (hs:x.size≤1000000000):pureT T c62 [x.enc]=some (.str (textLiteral x)):=by
 have h1:=callR4Lit x (by omega)
 have hal:=x.args_le
 have hnl:=x.name_le
 apply pure_enter (by simp [c62])
 unfold textLiteral
 cases hb:litB x
 ·rw [hb] at h1
  simp [c62,h1,←GL.enc_eq,S]
 ·rw [hb] at h1
  have hln:=lit_len hb
  have hlc:=lit_cases hb
  obtain ⟨k,n,l⟩:=x
  simp only at hal hnl hlc
  have hns:n.data.toList.length=n.size:=by simp
  have hll:=GT.len_sizes l
  have hall:∀ y∈l,termR 8 y=true:=by
   rcases hlc with ⟨_,_,ha⟩ | ⟨_,_,a,b,rfl,ha,hb⟩ | ⟨_,_,a,rfl,ha⟩
   ·exact args_all ha
   ·intro y hy; simp at hy; rcases hy with rfl | rfl <;> assumption
   ·intro y hy; simp at hy; subst hy; exact ha
  obtain ⟨x,R,hpr,hat,hshape⟩:=callPrinted l (by omega) hall 0 [.cells [.int .i64 k,.str n,.isl (GT.encs l) false] 0 false]
  have hat:=hat [.cells [.int .i64 k,.str n,.isl (GT.encs l) false] 0 false] [] rfl
  rw [List.append_nil] at hat
  simp at hpr
  have hlen1:l.length≤1000000:=by
   rcases hlc with ⟨_,_,ha⟩ | ⟨_,_,a,b,rfl,ha,hb⟩ | ⟨_,_,a,rfl,ha⟩
   ·have:1≤l.length∧l.length≤8:=by have:=ha; simp only [argsB,zqL,decide_eq_true_eq] at this; exact this.1.1
    omega
   ·simp
   ·simp
  rw [GL.enc_eq] at h1
  simp only [GL.kind,GL.name,GL.args] at h1
  have hj:∀ sep:ByteArray,(shTs sep.data.toList l).length≤1000000000000→callT T 63 [x,.str sep] 0 (.cells [.int .i64 k,.str n,.isl (GT.encs l) false] 0 false :: R)=some (.str (S (shTs sep.data.toList l)),.cells [.int .i64 k,.str n,.isl (GT.encs l) false] 0 false :: R):=
   fun sep hsep=>callShJoinedX l sep hlen1 hsep 0 hat
  rcases hlc with ⟨hk | hk,_,_⟩ | ⟨hk,_,a,b,hl,_⟩ | ⟨hk,_,a,hl,_⟩
  ·subst hk
   have hp:shLit ⟨1,n,l⟩=n.data.toList++40 :: 64 :: (shTs [44] l++[41]):=by rw [sh1 rfl,shAtom,atS_nil]
   rw [hp] at hln ⊢
   simp only [zqJ,zqU,List.length_nil,hns] at hln
   have hj:=hj ⟨#[44]⟩ (by show (shTs [44] l).length≤_; omega)
   simp at hj
   have e:n++⟨#[40,64]⟩++S (shTs [44] l)++⟨#[41]⟩=S (n.data.toList++40 :: 64 :: (shTs [44] l++[41])):=bytes_ext (by simp [S])
   have q0:(n.size:Int)+2≤9223372036854775807:=by omega
   have q1:(n.size:Int)+2+((shTs [44] l).length:Int)≤9223372036854775807:=by omega
   have q2:(n.size:Int)+2+((shTs [44] l).length:Int)+1≤9223372036854775807:=by omega
   simp [c62,GL.enc_eq,h1,hpr,hj,S_sz,sz_mk,chkO_e1,objOf,q0,q1,q2,e]
  ·subst hk
   have hp:shLit ⟨2,n,l⟩=33 :: (n.data.toList++40 :: 64 :: (shTs [44] l++[41])):=by rw [sh2 rfl,shAtom,atS_nil]
   rw [hp] at hln ⊢
   simp only [zqJ,zqU,List.length_nil,hns] at hln
   have hj:=hj ⟨#[44]⟩ (by show (shTs [44] l).length≤_; omega)
   simp at hj
   have e:(⟨#[33]⟩:ByteArray)++n++⟨#[40,64]⟩++S (shTs [44] l)++⟨#[41]⟩=S (33 :: (n.data.toList++40 :: 64 :: (shTs [44] l++[41]))):=bytes_ext (by simp [S])
   have q:(1:Int)+(n.size:Int)≤9223372036854775807:=by omega
   have q0:(1:Int)+(n.size:Int)+2≤9223372036854775807:=by omega
   have q1:(1:Int)+(n.size:Int)+2+((shTs [44] l).length:Int)≤9223372036854775807:=by omega
   have q2:(1:Int)+(n.size:Int)+2+((shTs [44] l).length:Int)+1≤9223372036854775807:=by omega
   simp [c62,GL.enc_eq,h1,hpr,hj,S_sz,sz_mk,chkO_e1,objOf,q,q0,q1,q2,e]
  ·subst hk
   have hp:shLit ⟨3,n,l⟩=shTs (32 :: (n.data.toList++[32])) l:=by simp [shLit]
   rw [hp] at hln ⊢
   have e:(⟨#[32]⟩:ByteArray)++n++⟨#[32]⟩=S (32 :: (n.data.toList++[32])):=bytes_ext (by simp [S])
   have hj:=hj (S (32 :: (n.data.toList++[32]))) (by rw [S_toList]; omega)
   rw [S_toList] at hj
   have q:(1:Int)+(n.size:Int)≤9223372036854775807:=by omega
   have q0:(1:Int)+(n.size:Int)+1≤9223372036854775807:=by omega
   simp [c62,GL.enc_eq,h1,hpr,hj,S_sz,sz_mk,q,q0,e]
  ·subst hk
   subst hl
   have hp:shLit ⟨4,n,[a]⟩=n.data.toList++32 :: 58 :: 61 :: 32 :: shT a:=by simp [shLit]
   rw [hp] at hln ⊢
   simp only [zqJ,zqU,List.length_nil,hns] at hln
   rcases hshape with ⟨h0,_⟩ | ⟨kk,hx,hR⟩
   ·cases h0
   subst hx
   have e:n++⟨#[32,58,61,32]⟩++S (shT a)=S (n.data.toList++32 :: 58 :: 61 :: 32 :: shT a):=bytes_ext (by simp [S])
   have q0:(n.size:Int)+4≤9223372036854775807:=by omega
   have q1:(n.size:Int)+4+((shT a).length:Int)≤9223372036854775807:=by omega
   have hget:∀ o:AObj,(o :: R)[1+kk]?=some (.cells [.str (S (shT a))] 0 true):=fun o=>by rw [Nat.add_comm]; exact hR
   simp [GT.encs] at hpr h1
   simp [c62,GL.enc_eq,h1,hpr,S_sz,sz_mk,q0,q1,e,GT.encs,hget]
theorem callR4LitP (x:GL) (hs:x.size≤1000000000) (bs:Nat) (σ:Heap):callT T 62 [x.enc] bs σ=some (.str (textLiteral x),σ):=call_clean rfl rfl rfl (by simp) (r4Lit_ok x hs)
open Go.Mach
def ixm (f:Nat→GT→List UInt8):Nat→List GT→List ByteArray
 | _,[]=>[]
 | i,x :: l=>S (f i x) :: ixm f (i+1) l
theorem joinB_ixm (f:Nat→GT→List UInt8) (sep:ByteArray) (l:List GT):joinB (ixm f 0 l) sep=joinF f sep.data.toList 0 l:=by
 unfold joinB
 suffices h:∀ i,joinF (fun _ (x:ByteArray)=>x.data.toList) sep.data.toList i (ixm f i l)=joinF f sep.data.toList i l from h 0
 induction l with
 | nil=>intro i; rfl
 | cons x l ih=>intro i; simp only [ixm,joinF,ih,S_toList]
theorem ixm_len (f:Nat→GT→List UInt8):∀ (i:Nat) (l:List GT),(ixm f i l).length=l.length
 | _,[]=>rfl
 | i,x :: l=>by simp only [ixm,zqU,ixm_len]
theorem ixm_get (f:Nat→GT→List UInt8):∀ (i:Nat) (l:List GT) (j:Nat),(ixm f i l)[j]?=l[j]?.map fun t=>S (f (i+j) t)
 | _,[],_=>by simp [ixm]
 | i,x :: l,0=>by simp [ixm]
 | i,x :: l,j+1=>by simp only [ixm,zqD,ixm_get f (i+1) l j]; rw [show i+1+j=i+(j+1) by omega]
theorem ixm_nil (p:Int) (l:List GT):ixm (shAt [] p) 0 l=l.map fun t=>S (shT t):=by
 apply List.ext_getElem?; intro j
 rw [ixm_get,shAt_nil,List.getElem?_map]
theorem ixm_set {agg:List UInt8} (h:agg≠[]) (l:List GT) (p:Nat) (hp:p<l.length):(l.map fun t=>AV.str (S (shT t))).set p (.str (S (agg++60 :: ((l[p]).name.data.toList++[62]))))=(ixm (shAt agg (p:Int)) 0 l).map .str:=by
 apply List.ext_getElem?; intro j
 rw [List.getElem?_map,ixm_get,List.getElem?_set,List.getElem?_map,List.length_map]
 by_cases e:p=j
 ·subst e
  simp [hp,zqF hp,shAt,h]
 ·rw [if_neg e]
  have hne:¬ ((j:Int)=(p:Int)):=by omega
  cases hj:l[j]? with
  | none=>rfl
  | some t=>simp [shAt,hne]
theorem callJoinedO (ls:List ByteArray) (sep:ByteArray) (k:Nat) (hl:ls.length≤1000000) (hb:(joinB ls sep).length≤1000000000000) (bs:Nat) (σ:Heap) :
  callT T 63 [.own k (ls.map .str),.str sep] bs σ=some (.str (S (joinB ls sep)),σ):=
 call_scal rfl rfl rfl (joined_ok ls sep hl hb) rfl (by simp) rfl
set_option maxRecDepth 100000 in
theorem r4Rule_ok (x:GR) (hs:x.size≤1000000000):pureT T c39 [x.enc]=some (.str (textRule x)):=by
 have h1:=callR4Rule x (by omega)
 have hal:=x.args_le
 have hbl:=x.body_len
 have hbm:=fun y hy=>x.body_mem (y:=y) hy
 apply pure_enter (by simp [c39])
 unfold textRule
 cases hb:ruleB x
 ·rw [hb] at h1
  simp [c39,h1,←GR.enc_eq,S]
 ·rw [hb] at h1
  have hln:=rule_len hb
  simp only [ruleB,zqL,decide_eq_true_eq,zqQ] at hb
  obtain ⟨⟨⟨⟨⟨a1,a2⟩,a3⟩,a4⟩,a5⟩,a6⟩:=hb
  have n1:=rel_size a1
  have n2:=rel_size a2
  have n3:=agg_len a6
  have a7:1≤x.args.length∧x.args.length≤8:=by have:=a3; simp only [argsB,zqL,decide_eq_true_eq] at this; exact this.1.1
  obtain ⟨lab,hd,l,agg,pos,body⟩:=x
  simp only at hal hbl hbm a1 a2 a3 a4 a5 a6 a7 n1 n2 n3
  have e1:lab.data.toList.length=lab.size:=by simp
  have e2:hd.data.toList.length=hd.size:=by simp
  rw [GR.enc_eq] at h1
  simp only at h1
  obtain ⟨x,R,hpr,hat,hshape⟩:=callPrinted l (by omega) (args_all a3) 0 [.cells [.str lab,.str hd,.isl (GT.encs l) false,.str agg,.int .i64 pos,.isl (body.map GL.enc) false] 0 false]
  simp only [List.length_singleton] at hat hshape
  simp at hpr
  have hpl:shRule ⟨lab,hd,l,agg,pos,body⟩=lab.data.toList++32 :: (hd.data.toList++40 :: 64 :: (joinF (shAt agg.data.toList pos) [44] 0 l++[41])++32 :: 58 :: 45 :: 32 :: (joinF (fun _=>shLit) [44,32] 0 body++[46])):=by
   simp only [shRule,shAtom,ats_join,ls_join]
  rw [hpl] at hln ⊢
  simp only [zqJ,zqU,List.length_nil,e1,e2] at hln
  have hlits:=fun (y:GL) (hy:y∈body) (bs:Nat) (σ:Heap)=>callR4LitP y (by have:=hbm y hy; omega) bs σ
  have hlit:∀ y∈body,∀ bs σ,callT T 62 [y.enc] bs σ=some (.str (S (shLit y)),σ):=fun y hy bs σ=>by
   rw [hlits y hy bs σ]; unfold textLiteral; rw [if_pos (a5 y hy)]
  by_cases hagg:agg=⟨#[]⟩
  obtain ⟨R1,hR1⟩:∃ R1,R1=R:=⟨_,rfl⟩
  have hat2:∀ X,TxAt (AObj.cells [.str lab,.str hd,.isl (GT.encs l) false,.str agg,.int .i64 pos,.isl (body.map GL.enc) false] 0 false :: (R1++X)) x (ixm (shAt agg.data.toList pos) 0 l):=fun X=>by
   rw [hR1]
   have:=hat [AObj.cells [.str lab,.str hd,.isl (GT.encs l) false,.str agg,.int .i64 pos,.isl (body.map GL.enc) false] 0 false] X rfl
   rw [hagg] at this ⊢
   rw [show (⟨#[]⟩:ByteArray).data.toList=[] from rfl,ixm_nil]
   exact this
  have hagg':(agg=⟨#[]⟩)=True:=eq_true hagg
  simp [c39,GR.enc_eq,h1,hpr,sz_mk,hagg',-List.append_eq]
  rw [←hR1]
  rotate_left 1
  have hne:agg.data.toList≠[]:=fun h=>hagg (ba_list_nil.1 h)
  simp only [aggB,if_neg hagg,zqL,decide_eq_true_eq] at a6
  obtain ⟨⟨_,p1,p2⟩,p3⟩:=a6
  obtain ⟨p,rfl⟩:∃ p:Nat,pos=(p:Int):=⟨pos.toNat,by omega⟩
  have hp:p<l.length:=by omega
  rw [Int.toNat_natCast,zqF hp] at p3
  simp only [Option.map_some,Option.some.injEq] at p3
  have hsh:shT l[p]=(l[p]).name.data.toList:=by
   generalize l[p]=t at p3
   obtain ⟨k,n,v,ll⟩:=t
   simp only [GT.kind] at p3; subst p3
   simp [shT]
  rcases hshape with ⟨h0,_⟩ | ⟨k,hx,hR⟩
  ·rw [h0] at hp; simp at hp
  rw [Nat.add_comm 1 k] at hx
  have hkl:k<R.length:=(zqI.1 hR).1
  have hset:=ixm_set hne l p hp
  obtain ⟨R1,hR1⟩:∃ R1,R1=R.set k (.cells ((l.map fun x=>AV.str (S (shT x))).set p (.str (S (agg.data.toList++60 :: ((l[p]).name.data.toList++[62]))))) 0 true):=⟨_,rfl⟩
  have hat2:∀ X,TxAt (AObj.cells [.str lab,.str hd,.isl (GT.encs l) false,.str agg,.int .i64 (p:Int),.isl (body.map GL.enc) false] 0 false :: (R1++X)) x (ixm (shAt agg.data.toList (p:Int)) 0 l):=fun X=>by
   refine .inr ⟨k+1,true,by rw [hx,ixm_len],?_⟩
   rw [zqD,hR1,zqA (by simpa using hkl),←hset]
   simp [hkl]
  have hwin:window (l.map fun x=>AV.str (S (shT x))) p 1=some [.str (S (shT l[p]))]:=by
   unfold window
   rw [if_pos (by simp; omega),zqM (by simpa using hp)]
   simp
  have e5:agg++⟨#[60]⟩++S (shT l[p])++⟨#[62]⟩=S (agg.data.toList++60 :: ((l[p]).name.data.toList++[62])):=bytes_ext (by simp [S,hsh])
  have e6:(shT l[p]).length≤100000000000:=by
   have:=sh_len l[p] 8 (args_all a3 _ (zqT hp))
   have:=(GT.sizes_mem (zqT hp)).1
   omega
  have q0:(agg.size:Int)+1≤9223372036854775807:=by omega
  have q1:(agg.size:Int)+1+((shT l[p]).length:Int)≤9223372036854775807:=by omega
  have q2:(agg.size:Int)+1+((shT l[p]).length:Int)+1≤9223372036854775807:=by omega
  simp [c39,GR.enc_eq,h1,hpr,sz_mk,S_sz,hagg,hx,hp,hR,hwin,q0,q1,q2,e5,setRun,show p+1≤l.length by omega]
  rw [←hR1,←hx]
  generalize hpos:(p:Int)=pos at *
  rotate_left 1
  all_goals
   clear hat hpr
   refine W_for T 0 62 body.length (fun i f σ=>f 1=.ptr 0 0∧f 4=x∧f 6=.int .i64 (i:Int)∧∃ X,σ=AObj.cells [.str lab,.str hd,.isl (GT.encs l) false,.str agg,.int .i64 pos,.isl (body.map GL.enc) false] 0 false :: (R1++X) ∧
     ((i=0∧f 5=.isl [] true)∨∃ k,f 5=.own (R1.length+k+1) ((body.take i).map fun y=>.str (S (shLit y)))∧X[k]?=some (.tok i 1))) ?_ _ _ ?_
   rotate_left 1
   ·simp
   rintro i f σ hi ⟨g1,g4,g6,X,rfl,g5⟩
   by_cases hlt:i<body.length
   ·have e1:body[i]?=some body[i]:=zqF hlt
    have hx:=hlit body[i] (zqT hlt)
    have hw:IntKind.i64.wrap ((i:Int)+1)=(i:Int)+1:=wr64 (by omega) (by omega)
    have htk:(body.take (i+1)).map (fun x=>AV.str (S (shLit x)))=(body.take i).map (fun x=>AV.str (S (shLit x)))++[.str (S (shLit body[i]))]:=by
     rw [List.take_add_one,zqF hlt,List.map_append]; rfl
    rw [htk]
    have hall:((body.take i).map fun x=>AV.str (S (shLit x))).all (okEl 1 false)=true:=by
     rw [zqQ]; intro y hy
     obtain ⟨x,_,rfl⟩:=List.mem_map.1 hy; rfl
    have hel:((body.take i).map fun x=>AV.str (S (shLit x))).length=i:=by simp; omega
    have hnil:i=0→(body.take i).map (fun x=>AV.str (S (shLit x)))=[]:=fun h=>by subst h; rfl
    generalize hES:(body.take i).map (fun x=>AV.str (S (shLit x)))=es at *
    rcases g5 with ⟨h0,g5⟩ | ⟨kk,g5,hk⟩
    ·rw [hnil h0]
     simp [g1,g4,g6,g5,hlt,e1,hx,hw,←GL.enc_eq]
     simp [h0]
    ·have hkl:kk<X.length:=(zqI.1 hk).1
     have hne:i≤10000000000:=by omega
     simp [g1,g4,g6,g5,hlt,e1,hx,hw,←GL.enc_eq,hk,hel,hall,hne,zqA hkl,List.set_append_left _ _ hkl]
     rw [zqA (by simpa using hkl)]; simp [hkl]
   ·have he:i=body.length:=by omega
    subst he
    rcases g5 with ⟨h0,g5⟩ | ⟨kk,g5,hk⟩
    ·omega
    rw [List.take_length] at g5
    have j1:=callJoinedX (ixm (shAt agg.data.toList pos) 0 l) ⟨#[44]⟩ (by rw [ixm_len]; omega) (by rw [joinB_ixm]; show (joinF _ [44] 0 l).length≤_; omega) 0 (hat2 X)
    rw [joinB_ixm] at j1
    have j2:=callJoinedO (body.map fun y=>S (shLit y)) ⟨#[44,32]⟩ (R1.length+kk+1) (by simp; omega) (by rw [joinB_map]; show (joinF _ [44,32] 0 body).length≤_; omega) 0 (AObj.cells [.str lab,.str hd,.isl (GT.encs l) false,.str agg,.int .i64 pos,.isl (body.map GL.enc) false] 0 false :: (R1++X))
    rw [joinB_map,List.map_map] at j2
    have e4:(AV.str ∘ fun y=>S (shLit y))=fun y=>AV.str (S (shLit y)):=rfl
    rw [e4] at j2
    simp only [show (⟨#[44]⟩:ByteArray).data.toList=[44] from rfl,show (⟨#[44,32]⟩:ByteArray).data.toList=[44,32] from rfl] at j1 j2
    generalize joinF (shAt agg.data.toList pos) [44] 0 l=A at *
    generalize joinF (fun _=>shLit) [44,32] 0 body=B at *
    have e6:lab++⟨#[32]⟩++hd++⟨#[40,64]⟩++S A++⟨#[41,32,58,45,32]⟩++S B++⟨#[46]⟩=S (lab.data.toList++32 :: (hd.data.toList++40 :: 64 :: (A++41 :: 32 :: 58 :: 45 :: 32 :: (B++[46])))):=bytes_ext (by simp [S])
    have q1:(lab.size:Int)+1≤9223372036854775807:=by omega
    have q2:(lab.size:Int)+1+(hd.size:Int)≤9223372036854775807:=by omega
    have q3:(lab.size:Int)+1+(hd.size:Int)+2≤9223372036854775807:=by omega
    have q4:(lab.size:Int)+1+(hd.size:Int)+2+(A.length:Int)≤9223372036854775807:=by omega
    have q5:(lab.size:Int)+1+(hd.size:Int)+2+(A.length:Int)+5≤9223372036854775807:=by omega
    have q6:(lab.size:Int)+1+(hd.size:Int)+2+(A.length:Int)+5+(B.length:Int)≤9223372036854775807:=by omega
    have q7:(lab.size:Int)+1+(hd.size:Int)+2+(A.length:Int)+5+(B.length:Int)+1≤9223372036854775807:=by omega
    simp [g1,g4,g6,g5,j1,j2,sz_mk,S_sz,q1,q2,q3,q4,q5,q6,q7,e6]
theorem callR4RuleP (x:GR) (hs:x.size≤1000000000) (bs:Nat) (σ:Heap):callT T 39 [x.enc] bs σ=some (.str (textRule x),σ):=call_clean rfl rfl rfl (by simp) (r4Rule_ok x hs)
open Go.Mach
def aggOf (n:Nat):ByteArray:=if n=0 then sMin else if n=1 then sMax else sCount
def declOf (d:GD):GD:=⟨relOf d.name,1+(pickN d.arity 8:Int)⟩
def tupOf (t:GU):GU:=⟨relOf t.name,.mk 3 0 ⟨#[97]⟩ [] :: (t.args.take 7).map fit⟩
def lit0:GL:=⟨0,⟨#[]⟩,[]⟩
def bodyOf (l:List GL):List GL:=if l=[] then [litOf lit0] else (l.take 8).map litOf
def hasAgg (r:GR):Prop:=1<(argsOf r.args).length∧pickN r.pos 2=1
instance (r:GR):Decidable (hasAgg r):=inferInstanceAs (Decidable (_∧_))
def posOf (r:GR):Nat:=1+pickN r.pos ((argsOf r.args).length - 1)
def ruleOf (r:GR):GR:=
 if hasAgg r then ⟨relOf r.label,relOf r.head,(argsOf r.args).set (posOf r) (.mk 1 (varOf r.agg) nilV []),aggOf (pickN r.pos 3),(posOf r:Int),bodyOf r.body⟩
 else ⟨relOf r.label,relOf r.head,argsOf r.args,⟨#[]⟩,0,bodyOf r.body⟩
def progOf (p:GP):GP:=⟨(p.decls.take 64).map declOf,(p.facts.take 64).map tupOf,(p.rules.take 64).map ruleOf⟩
theorem argsOf_len (l:List GT):1≤(argsOf l).length∧(argsOf l).length≤8:=by simp [argsOf]; omega
theorem posOf_lt {r:GR} (h:hasAgg r):1≤posOf r∧posOf r<(argsOf r.args).length:=by
 have:=pickN_lt (c:=r.pos) (n:=(argsOf r.args).length - 1) (by have:=h.1; omega)
 unfold posOf; omega
theorem relOf_le (s:ByteArray):(relOf s).size≤16:=by
 have:=nameFit_size s
 unfold relOf; split
 ·show 1≤16; omega
 ·omega
theorem varOf_le (s:ByteArray):(varOf s).size≤16:=by
 have:=nameFit_size s
 unfold varOf; rw [ByteArray.size_append,ByteArray.size_extract]
 show 1+_≤16; omega
theorem gv_pos (v:GV):5≤v.size:=by cases v; simp only [GV.size]; omega
theorem gt_pos (t:GT):8≤t.size:=by cases t with | mk k n v l=>simp only [GT.size]; have:=gv_pos v; omega
theorem sizesV_map (f:GV→GV) (h:∀ x,(f x).size≤8 * x.size):∀ (l:List GV) (n:Nat),GV.sizes ((l.take n).map f)≤8 * GV.sizes l
 | [],n=>by simp [GV.sizes]
 | x :: l,0=>by simp [GV.sizes]
 | x :: l,n+1=>by have:=sizesV_map f h l n; have:=h x; simp only [List.take_succ_cons,List.map_cons,GV.sizes]; omega
theorem sizesT_map (f:GT→GT) (h:∀ x,(f x).size≤8 * x.size):∀ (l:List GT) (n:Nat),GT.sizes ((l.take n).map f)≤8 * GT.sizes l
 | [],n=>by simp [GT.sizes]
 | x :: l,0=>by simp [GT.sizes]
 | x :: l,n+1=>by have:=sizesT_map f h l n; have:=h x; simp only [List.take_succ_cons,List.map_cons,GT.sizes]; omega
theorem fitV_le:∀ (d:Nat) (v:GV),(fitV d v).size≤8 * v.size:=by
 intro d
 induction d with
 | zero=>
  intro v
  have:=gv_pos v
  rw [fitV]
  repeat' split
  ·simp only [GV.size,GV.sizes]; show 0+0+5≤_; omega
  ·simp only [GV.size,GV.sizes]
   have:(textFit v.text).size≤32:=by simp only [textFit,ByteArray.size,List.size_toArray,List.length_map,List.length_take]; omega
   omega
  ·simp only [GV.size,GV.sizes]; have:=nameFit_size v.text; omega
  ·simp only [GV.size,GV.sizes]; show 0+0+5≤_; omega
 | succ d ih=>
  intro v
  have:=gv_pos v
  rw [fitV]
  repeat' split
  ·simp only [GV.size,GV.sizes]; show 0+0+5≤_; omega
  ·simp only [GV.size,GV.sizes]
   have:(textFit v.text).size≤32:=by simp only [textFit,ByteArray.size,List.size_toArray,List.length_map,List.length_take]; omega
   omega
  ·simp only [GV.size,GV.sizes]; have:=nameFit_size v.text; omega
  ·have hm:=sizesV_map (fun x=>fitV d (if d=0∧pickN x.kind 4=3 then .mk 0 x.num x.text x.items else x)) (fun x=>by
    have h1:=ih (if d=0∧pickN x.kind 4=3 then .mk 0 x.num x.text x.items else x)
    have h2:(if d=0∧pickN x.kind 4=3 then GV.mk 0 x.num x.text x.items else x).size=x.size:=by
     split
     ·cases x; simp only [GV.size,GV.text,GV.items]
     ·rfl
    rw [h2] at h1; exact h1) v.items 16
   have h3:v.size=v.text.size+GV.sizes v.items+5:=by cases v; simp only [GV.size,GV.text,GV.items]
   simp only [GV.size]; show 0+_+5≤_; omega
theorem fit_le (v:GV):(fit v).size≤8 * v.size:=fitV_le 4 v
theorem valOf_le (v:GV):(valOf v).size≤8 * v.size:=by
 unfold valOf
 split
 ·rename_i h
  have h1:=gv_pos v
  have h2:=relOf_le (fit v).text
  obtain ⟨n,t,e⟩:∃ n t,fit v=.mk 3 n t []:=by
   have hr:=fit_right v
   unfold fit at h ⊢
   rw [fitV] at h ⊢
   repeat' split
   ·rename_i h1; rw [if_pos h1] at h; simp [GV.kind] at h
   ·rename_i h1 h2; rw [if_neg h1,if_pos h2] at h; simp [GV.kind] at h
   ·exact ⟨_,_,rfl⟩
   ·rename_i h1 h2 h3; simp [h1,h2,h3,GV.kind] at h
  have e2:(fit v).items=[]:=by rw [e]
  rw [e2]
  simp only [GV.size,GV.sizes]; omega
 ·exact fit_le v
theorem leafT_le (t:GT):(leafT t).size≤8 * t.size:=by
 have h0:=gt_pos t
 unfold leafT
 split
 ·have:=varOf_le t.name
  simp only [GT.size,GT.sizes,nilV,GV.size,GV.sizes]; show _+(0+0+5)+0+3≤_; omega
 ·have h1:=valOf_le t.value
  have h2:t.size=t.name.size+t.value.size+GT.sizes t.args+3:=by cases t; rfl
  simp only [GT.size,GT.sizes]; show 0+_+0+3≤_; omega
theorem termV_le:∀ (d:Nat) (t:GT),(termV d t).size≤8 * t.size
 | 0,t=>by rw [termV]; exact leafT_le t
 | d+1,t=>by
  have h0:=gt_pos t
  have h2:t.size=t.name.size+t.value.size+GT.sizes t.args+3:=by cases t; rfl
  have h5:=gv_pos t.value
  rw [termV]
  split
  ·exact leafT_le t
  split
  ·have:=varOf_le t.name
   simp only [GT.size,GT.sizes,nilV,GV.size,GV.sizes]; show _+(0+0+5)+0+3≤_; omega
  split
  ·have h1:=valOf_le t.value
   simp only [GT.size,GT.sizes]; show 0+_+0+3≤_; omega
  split
  ·generalize pickN (IntKind.i64.wrap ((t.name.size:Int)+t.kind)) 6=q
   have h3:=sizesT_map (termV d) (termV_le d) t.args (arityOf (fnOf q)).toNat
   have h4:(fnOf q).size≤9:=by unfold fnOf; (repeat' split) <;> decide
   simp only [GT.size,nilV,GV.size,GV.sizes]; show _+(0+0+5)+_+3≤_; omega
  ·have h3:=sizesT_map (termV d) (termV_le d) t.args 2
   have h4:∀ q,(opOf q).size≤9:=fun q=>by unfold opOf; (repeat' split) <;> decide
   have h4:=h4 (pickN t.name.size 3)
   simp only [GT.size,nilV,GV.size,GV.sizes]; show _+(0+0+5)+_+3≤_; omega
theorem argsOf_le (l:List GT):GT.sizes (argsOf l)≤24+8 * GT.sizes l:=by
 have h1:=sizesT_map (termV 8) (termV_le 8) (l.drop 1) 7
 have h2:GT.sizes (l.drop 1)≤GT.sizes l:=by cases l with
  | nil=>simp [GT.sizes]
  | cons x l=>simp only [List.drop_succ_cons,List.drop_zero,GT.sizes]; omega
 have h3:(firstOf l).size≤24:=by
  unfold firstOf
  cases l with
  | nil=>simp only [GT.size,GT.sizes,nilV,GV.size,GV.sizes]; show 1+(0+0+5)+0+3≤_; omega
  | cons t l=>
   simp only
   split
   ·have:=relOf_le t.name
    simp only [GT.size,GT.sizes,GV.size,GV.sizes]; show 0+_+0+3≤_; omega
   ·simp only [GT.size,GT.sizes,nilV,GV.size,GV.sizes]; show 1+(0+0+5)+0+3≤_; omega
 simp only [argsOf,GT.sizes]; omega
theorem termI_le (l:List GT) (i:Nat):(termI l i).size≤9+8 * GT.sizes l:=by
 unfold termI
 split
 ·rename_i t h
  have:=termV_le 8 t
  have:=(GT.sizes_mem (zqR h)).1
  omega
 ·simp only [GT.size,GT.sizes,nilV,GV.size,GV.sizes]; show 1+(0+0+5)+0+3≤_; omega
theorem gl_size (x:GL):x.size=x.name.size+GT.sizes x.args+4:=by simp only [GL.size,GL.enc,bulkA,bulkAs,GT.bulk_encs]; omega
theorem litOf_le (x:GL):(litOf x).size≤16 * x.size:=by
 have h0:=gl_size x
 have h1:=argsOf_le x.args
 have h2:=relOf_le x.name
 have h3:=varOf_le x.name
 have h4:=termI_le x.args 0
 have h5:=termI_le x.args 1
 have h6:(testOf (pickN x.name.size 6)).size≤2:=by unfold testOf; (repeat' split) <;> decide
 rw [gl_size]
 unfold litOf
 repeat' split
 all_goals simp only [GT.sizes]; omega
theorem gr_size (x:GR):x.size=x.label.size+x.head.size+GT.sizes x.args+x.agg.size+bulkAs (x.body.map GL.enc)+7:=by simp only [GR.size,GR.enc,bulkA,bulkAs,GT.bulk_encs]; omega
theorem gu_size (x:GU):x.size=x.name.size+GV.sizes x.args+3:=by simp only [GU.size,GU.enc,bulkA,bulkAs,GV.bulk_encs]; omega
theorem gd_size (x:GD):x.size=x.name.size+3:=by simp only [GD.size,GD.enc,bulkA,bulkAs]
theorem bulk_map {α:Type} (f:α→α) (enc:α→AV) (K:Nat) (h:∀ x,bulkA (enc (f x))≤K * bulkA (enc x)):∀ (l:List α) (n:Nat),bulkAs (((l.take n).map f).map enc)≤K * bulkAs (l.map enc)
 | [],n=>by simp [bulkAs]
 | x :: l,0=>by simp [bulkAs]
 | x :: l,n+1=>by have:=bulk_map f enc K h l n; have:=h x; simp only [List.take_succ_cons,List.map_cons,bulkAs,Nat.mul_add]; omega
theorem bodyOf_le (l:List GL):bulkAs ((bodyOf l).map GL.enc)≤64+16 * bulkAs (l.map GL.enc):=by
 unfold bodyOf
 split
 ·have h:=litOf_le lit0
  have h2:lit0.size=4:=by rw [gl_size]; rfl
  have h3:bulkAs ([litOf lit0].map GL.enc)=(litOf lit0).size:=by simp only [List.map_cons,List.map_nil,bulkAs,GL.size]; omega
  rw [h3]; omega
 ·have:=bulk_map litOf GL.enc 16 litOf_le l 8
  omega
theorem sizes_set (l:List GT) (n:Nat) (v:GT):GT.sizes (l.set n v)≤GT.sizes l+v.size:=by
 induction l generalizing n with
 | nil=>simp [GT.sizes]
 | cons x l ih=>
  cases n with
  | zero=>simp only [List.set_cons_zero,GT.sizes]; omega
  | succ n=>have:=ih n; simp only [List.set_cons_succ,GT.sizes]; omega
theorem ruleOf_le (r:GR):(ruleOf r).size≤40 * r.size:=by
 have h0:=gr_size r
 have h1:=argsOf_le r.args
 have h2:=relOf_le r.label
 have h3:=relOf_le r.head
 have h4:=bodyOf_le r.body
 have h5:=varOf_le r.agg
 have h6:(aggOf (pickN r.pos 3)).size≤5:=by unfold aggOf; (repeat' split) <;> decide
 have h7:=sizes_set (argsOf r.args) (posOf r) (.mk 1 (varOf r.agg) nilV [])
 have h8:(GT.mk 1 (varOf r.agg) nilV []).size≤24:=by simp only [GT.size,GT.sizes,nilV,GV.size,GV.sizes]; show _+(0+0+5)+0+3≤_; omega
 rw [gr_size]
 unfold ruleOf
 split
 ·simp only; omega
 ·simp only; show _+_+_+0+_+7≤_; omega
theorem tupOf_le (t:GU):(tupOf t).size≤40 * t.size:=by
 have h1:=relOf_le t.name
 have h2:=sizesV_map fit fit_le t.args 7
 have h3:=gu_size t
 rw [gu_size]
 simp only [tupOf,GV.sizes,GV.size]
 show _+(1+0+5+_)+3≤_; omega
theorem declOf_le (d:GD):(declOf d).size≤40 * d.size:=by
 have h1:=relOf_le d.name
 have h3:=gd_size d
 rw [gd_size]; simp only [declOf]; omega
theorem gp_size (p:GP):p.size=bulkAs (p.decls.map GD.enc)+bulkAs (p.facts.map GU.enc)+bulkAs (p.rules.map GR.enc)+4:=by simp only [GP.size,GP.enc,bulkA,bulkAs]; omega
theorem progOf_le (p:GP):(progOf p).size≤40 * p.size:=by
 have h1:=bulk_map declOf GD.enc 40 declOf_le p.decls 64
 have h2:=bulk_map tupOf GU.enc 40 tupOf_le p.facts 64
 have h3:=bulk_map ruleOf GR.enc 40 ruleOf_le p.rules 64
 have h4:=gp_size p
 rw [gp_size]; simp only [progOf]; omega
end Go.Proofs.YtjfgjnlocadpbaaGreatDoor
end
section
namespace Go.Mach
def ACode.fst:ACode→ACode | .seq a _=>a | c=>c
def ACode.snd:ACode→ACode | .seq _ b=>b | c=>c
def ACode.inn:ACode→ACode | .block _ c=>c | .loop c=>c | c=>c
end Go.Mach
namespace Go.Proofs.YtjfgjnlocadpbaaGreatDoor
open Go.Mach
def LstA (R:Heap) (off:Nat) (es:List AV) (sz:Nat) (x:AV):Prop:=(es=[]∧x=.isl [] true)∨∃ k,x=.own (k+off) es∧R[k]?=some (.tok es.length sz)
def LstB (es:List AV) (x:AV):Prop:=(es=[]∧x=.isl [] true)∨∃ k,x=.own k es
theorem LstA.b {R:Heap} {off sz:Nat} {es:List AV} {x:AV} (h:LstA R off es sz x):LstB es x:=by
 rcases h with h | ⟨k,h,_⟩
 ·exact .inl h
 ·exact .inr ⟨_,h⟩
theorem LstB.close {σ:Heap} {es:List AV} {x:AV} (h:LstB es x):close1 σ x=some (.isl es false,σ):=by
 rcases h with ⟨rfl,rfl⟩ | ⟨k,rfl⟩
 ·rfl
 ·rfl
theorem LstA.more {R:Heap} {off sz:Nat} {es:List AV} {x:AV} (h:LstA R off es sz x) (S:Heap):LstA (R++S) off es sz x:=by
 rcases h with h | ⟨k,h1,h2⟩
 ·exact .inl h
 ·exact .inr ⟨k,h1,by rw [zqA (zqI.1 h2).1]; exact h2⟩
theorem LstA.snoc {R T:Heap} {k off sz:Nat} {es:List AV} {v:AV} (hk:k<R.length):LstA (R.set k (.tok (es.length+1) sz)++T) off (es++[v]) sz (.own (k+off) (es++[v])):=
 .inr ⟨k,rfl,by rw [zqA (by simpa using hk)]; simp [hk]⟩
theorem allEl_map {α:Type} (enc:α→AV) (sz:Nat) (h:∀ x,okEl sz true (enc x)=true) (l:List α):(l.map enc).all (okEl sz true)=true:=by
 rw [zqQ]; intro y hy
 obtain ⟨x,_,rfl⟩:=List.mem_map.1 hy; exact h x
theorem take_map {α β:Type} (f:α→β) (l:List α) (i:Nat) (h:i<l.length):(l.take (i+1)).map f=(l.take i).map f++[f l[i]]:=by
 rw [List.take_add_one,zqF h,List.map_append]; rfl
theorem grow {pre R:Heap} {m sz bytes fz:Nat} {ext:Bool} {es:List AV} {x:AV} {cs:List AV} (hx:LstA R pre.length es sz x) (hm:R[m]?=some (.cells cs fz ext)) (hl:cs.length=sz) (hc:cs.all AV.clo1=true) (h0:0<sz) (hb:bytes≤1000) (hes:es.all (okEl sz true)=true) (hn:es.length≤10000000000) :
  ∃ x' R2,appendC (pre++R) sz true bytes false x (.sl (m+pre.length) 0 1 sz true)=some (x',pre++R2)∧LstA R2 pre.length (es++[.agg (cs.map AV.nrm)]) sz x'∧∀ (j:Nat) cs' f e,R[j]?=some (AObj.cells cs' f e)→R2[j]?=some (AObj.cells cs' f e):=by
 have hmσ:(pre++R)[m+pre.length]?=some (.cells cs fz ext):=by rw [zqB (by omega),Nat.add_sub_cancel]; exact hm
 rcases hx with ⟨rfl,rfl⟩ | ⟨k,rfl,hk⟩
 ·refine ⟨.own (R.length+pre.length) [.agg (cs.map AV.nrm)],R++[.tok 1 sz],?_,.inr ⟨R.length,rfl,by simp⟩,fun j cs' f e hj=>by rw [zqA (zqI.1 hj).1]; exact hj⟩
  rw [appendC_clo hmσ hc,closeS_isl]
  refine app_ag hmσ hl hc h0 hb ?_
  simp [Nat.add_comm]
 ·have hkl:k<R.length:=(zqI.1 hk).1
  refine ⟨.own (k+pre.length) (es++[.agg (cs.map AV.nrm)]),R.set k (.tok (es.length+1) sz),?_,.inr ⟨k,rfl,by simp [hkl]⟩,fun j cs' f e hj=>?_⟩
  ·rw [appendC_clo hmσ hc,closeS_own]
   refine app_ag hmσ hl hc h0 hb ?_
   rw [app1_own hes hn (by rw [zqB (by omega),Nat.add_sub_cancel]; exact hk)]
   rw [List.set_append_right _ _ (by omega),Nat.add_sub_cancel]
  ·have:k≠j:=fun e=>by subst e; rw [hk] at hj; cases hj
   rw [List.getElem?_set,if_neg this]; exact hj
theorem growC {pre R R1:Heap} {m sz bytes fz fz1:Nat} {ext ext1:Bool} {es:List AV} {x:AV} {cs ys:List AV} (hx:LstA R pre.length es sz x) (hm:R[m]?=some (.cells cs fz ext)) (hl:ys.length=sz) (hcn:cs.all AV.clo1=false) (hcl:closeL (pre++R) cs=some (ys,pre++R1)) (hm1:R1[m]?=some (.cells cs fz1 ext1))
  (hlc:cs.length=ys.length) (hc:ys.all AV.clo1=true) (htok:∀ (k n s:Nat),R[k]?=some (AObj.tok n s)→R1[k]?=some (AObj.tok n s)) (hRl:R1.length=R.length) (h0:0<sz) (hb:bytes≤1000) (hes:es.all (okEl sz true)=true) (hn:es.length≤10000000000) :
  ∃ x' R2,appendC (pre++R) sz true bytes false x (.sl (m+pre.length) 0 1 sz true)=some (x',pre++R2)∧LstA R2 pre.length (es++[.agg (ys.map AV.nrm)]) sz x':=by
 have hmσ:(pre++R)[m+pre.length]?=some (.cells cs fz ext):=by rw [zqB (by omega),Nat.add_sub_cancel]; exact hm
 have hm1σ:(pre++R1)[m+pre.length]?=some (.cells cs fz1 ext1):=by rw [zqB (by omega),Nat.add_sub_cancel]; exact hm1
 have hset:(pre++R1).set (m+pre.length) (.cells ys fz1 ext1)=pre++R1.set m (.cells ys fz1 ext1):=by rw [List.set_append_right _ _ (by omega),Nat.add_sub_cancel]
 have hml:m<R1.length:=(zqI.1 hm1).1
 rcases hx with ⟨rfl,rfl⟩ | ⟨k,rfl,hk⟩
 ·refine ⟨.own (R.length+pre.length) [.agg (ys.map AV.nrm)],R1.set m (.cells ys fz1 ext1)++[.tok 1 sz],?_,.inr ⟨R.length,rfl,by rw [←hRl]; simp⟩⟩
  refine appendC_close hmσ hcn hcl hm1σ hlc hc hl h0 hb ?_
  rw [hset]
  simp [Nat.add_comm,hRl]
 ·have hk1:=htok _ _ _ hk
  have hkl:k<R1.length:=(zqI.1 hk1).1
  have hkm:m≠k:=fun e=>by subst e; rw [hk] at hm; cases hm
  refine ⟨.own (k+pre.length) (es++[.agg (ys.map AV.nrm)]),(R1.set m (.cells ys fz1 ext1)).set k (.tok (es.length+1) sz),?_,.inr ⟨k,rfl,by simp [hkl]⟩⟩
  refine appendC_close hmσ hcn hcl hm1σ hlc hc hl h0 hb ?_
  rw [hset,app1_own hes hn (by rw [zqB (by omega),Nat.add_sub_cancel,List.getElem?_set,if_neg hkm]; exact hk1)]
  rw [List.set_append_right _ _ (by omega),Nat.add_sub_cancel]
theorem frz_app {pre R:Heap} {k n:Nat}:frz (pre++R) (k+pre.length) n=pre++frz R k n:=by
 have e:(pre++R)[k+pre.length]?=R[k]?:=by rw [zqB (by omega),Nat.add_sub_cancel]
 unfold frz
 rw [e]
 split
 ·rw [List.set_append_right _ _ (by omega),Nat.add_sub_cancel]
 ·rfl
theorem frz_tok {R:Heap} {j m:Nat} {k n s:Nat} (h:R[k]?=some (.tok n s)):(frz R j m)[k]?=some (.tok n s):=by
 unfold frz
 split
 ·rename_i hj
  have:j≠k:=fun e=>by subst e; rw [h] at hj; cases hj
  rw [List.getElem?_set,if_neg this]; exact h
 ·exact h
theorem frz_len {R:Heap} {j m:Nat}:(frz R j m).length=R.length:=by unfold frz; split <;> simp
theorem LstA.cell {R:Heap} {off sz:Nat} {es:List AV} {x:AV} (h:LstA R off es sz x):x.solid=true∧x.cells=[x]:=by
 rcases h with ⟨_,rfl⟩ | ⟨k,rfl,_⟩ <;> exact ⟨rfl,rfl⟩
def fitP (p:GP) (xd xu xr:AV) (R:Heap):Heap:=.cells [.isl (p.decls.map GD.enc) false,.isl (p.facts.map GU.enc) false,.isl (p.rules.map GR.enc) false] 0 false :: .cells [.isl [] true,.isl [] true,.isl [] true] 0 false :: .cells [xd,xu,xr] 0 false :: R
theorem fit1 (p:GP) (hp:p.ok) (hs:p.size≤1048576) (K:List Fr) (Q:AExit→FR→Heap→Prop) (f:FR) (σ:Heap) (h1:f 1=.ptr 0 0) (h2:f 2=.ptr 1 0) (h3:f 3=.ptr 2 0) (hσ:σ=fitP p (.isl [] true) (.isl [] true) (.isl [] true) [])
  (hk:∀ f σ,f 1=.ptr 0 0→f 2=.ptr 1 0→f 3=.ptr 2 0→(∃ xd R,σ=fitP p xd (.isl [] true) (.isl [] true) R∧LstB (((p.decls.take 64).map declOf).map GD.enc) xd)→wpK T 0 202 K f σ Q) :
  wpK T 0 202 (.code c15.body.snd.snd.fst :: K) f σ Q:=by
 subst hσ
 have hl:=p.decls_len
 have hm:=fun y hy=>p.decls_mem (y:=y) hy
 have hok:∀ d∈p.decls,GV.i64ok d.arity:=fun d hd=>(hp.1 d hd)
 simp [c15,ACode.fst,ACode.snd,fitP]
 refine W_for T 0 202 (min p.decls.length 64) (fun i f σ=>f 1=.ptr 0 0∧f 2=.ptr 1 0∧f 3=.ptr 2 0∧f 4=.int .i64 (i:Int)∧∃ xd R,σ=fitP p xd (.isl [] true) (.isl [] true) R∧LstA R 3 (((p.decls.take i).map declOf).map GD.enc) 2 xd) ?_ _ _ ?_
 rotate_left 1
 ·exact ⟨by simp [h1],by simp [h2],by simp [h3],by simp,_,_,rfl,.inl ⟨by simp,rfl⟩⟩
 clear h1 h2 h3
 rintro i f σ hi ⟨h1,h2,h3,h4,xd,R,rfl,hx⟩
 by_cases hlt:i<min p.decls.length 64
 ·have c1:i<p.decls.length:=by omega
  have c2:(i:Int)<64:=by omega
  have hmem:=zqT c1
  have hsz:=hm _ hmem
  have hn:=GD.name_le p.decls[i]
  have hlw:IntKind.i64.wrap ((i:Int)+1)=(i:Int)+1:=wr64 (by omega) (by omega)
  have hr:=lawRel p.decls[i].name (by omega)
  have hq:=pickQ p.decls[i].arity 8 (by omega) (hok _ hmem)
  have hql:=pickN_lt (c:=p.decls[i].arity) (n:=8) (by omega)
  have hw2:IntKind.i64.wrap (1+(pickN p.decls[i].arity 8:Int))=1+(pickN p.decls[i].arity 8:Int):=wr64 (by omega) (by omega)
  have he:declOf p.decls[i]=⟨relOf p.decls[i].name,1+(pickN p.decls[i].arity 8:Int)⟩:=rfl
  rw [take_map declOf _ _ c1,List.map_append]
  have hall:=allEl_map GD.enc 2 (fun x=>rfl) ((p.decls.take i).map declOf)
  have hlen:(((p.decls.take i).map declOf).map GD.enc).length=i:=by simp; omega
  have hnil:i=0→((p.decls.take i).map declOf).map GD.enc=[]:=fun h=>by subst h; rfl
  generalize hES:((p.decls.take i).map declOf).map GD.enc=es at *
  have hq:∀ bs σ,callT T 31 [.int .i64 p.decls[i].arity,.int .i64 8] bs σ=some (.int .i64 (pickN p.decls[i].arity 8:Int),σ):=hq
  rcases hx with ⟨h0,rfl⟩ | ⟨k,rfl,hk2⟩
  ·subst h0
   simp [fitP,h1,h2,h3,h4,c1,c2,hr,hq,hw2,hlw,setRun]
   exact ⟨hlt,_,_,⟨rfl,rfl⟩,.inr ⟨R.length+1,rfl,by simp⟩⟩
  ·have hkl:k<R.length:=(zqI.1 hk2).1
   have hne:i≤10000000000:=by omega
   simp [fitP,h1,h2,h3,h4,c1,c2,hr,hq,hw2,hlw,setRun,hk2,hall,hlen,hne,zqA hkl,List.set_append_left _ _ hkl]
   have:=LstA.snoc (T:=[AObj.cells [AV.str (relOf p.decls[i].name),AV.int IntKind.i64 (1+(pickN p.decls[i].arity 8:Int))] 0 false]) (off:=3) (sz:=2) (es:=es) (v:=(declOf p.decls[i]).enc) hkl
   rw [hlen] at this
   exact ⟨hlt,_,_,⟨rfl,rfl⟩,this⟩
 ·have c1:¬ (i<p.decls.length∧(i:Int)<64):=by omega
  have hfin:(p.decls.take i)=p.decls.take 64:=by
   have:i=min p.decls.length 64:=by omega
   rw [this]; simp [List.take_eq_take_iff,Nat.min_comm]
  rw [hfin] at hx
  by_cases d1:i<p.decls.length
  ·have d2:¬ ((i:Int)<64):=fun h=>c1 ⟨d1,h⟩
   simp [fitP,h1,h4,d1,d2]
   exact hk _ _ (by simp [h1]) (by simp [h2]) (by simp [h3]) ⟨_,_,rfl,hx.b⟩
  ·simp [fitP,h1,h4,d1]
   exact hk _ _ (by simp [h1]) (by simp [h2]) (by simp [h3]) ⟨_,_,rfl,hx.b⟩
def arr0 (b:Bool) (fz:Nat):AObj:=.cells [.int .i64 3,.int .i64 0,.str ⟨#[97]⟩,.isl [] b] fz false
def TupY (A:AObj) (R2:Heap) (off:Nat) (l:List GV) (y:AV):Prop:=
 (l=[]∧y=.sl off 0 1 4 true∧A=arr0 true 0)∨((l≠[]∧A=arr0 false 0)∧∃ k,y=.own (k+(off+2)) (GV.encs (.mk 3 0 ⟨#[97]⟩ [] :: l))∧R2[k]?=some (.tok (l.length+1) 4))
theorem TupY.close {pre R2:Heap} {A T:AObj} {off:Nat} {l:List GV} {y:AV} (h:TupY A R2 off l y) (ho:pre.length=off) (R':Heap):∃ A1,close1 (pre++(A :: T :: R')) y=some (.isl (GV.encs (.mk 3 0 ⟨#[97]⟩ [] :: l)) false,pre++(A1 :: T :: R'))∧∃ cs f e,A1=.cells cs f e∨A1=A:=by
 subst ho
 rcases h with ⟨rfl,rfl,rfl⟩ | ⟨hl,k,rfl,hk⟩
 ·refine ⟨arr0 true 4,close1_of0 ?_,_,_,_,.inl rfl⟩
  have e:(pre++(arr0 true 0 :: T :: R'))[pre.length]?=some (arr0 true 0):=by simp
  have e2:frz (pre++(arr0 true 0 :: T :: R')) pre.length 4=pre++(arr0 true 4 :: T :: R'):=by
   unfold frz; rw [e]; simp [arr0]
  simp [close0,e,arr0,window,chunk,mk,AV.clo1,GV.encs,GV.enc,AV.nrm]
  exact e2
 ·exact ⟨A,rfl,[],0,false,.inr rfl⟩
theorem gvs_len (l:List GV):(GV.encs l).length=l.length:=GV.encs_length l
theorem TupY.cell {A:AObj} {R2:Heap} {off:Nat} {l:List GV} {y:AV} (h:TupY A R2 off l y):y.solid=true∧y.cells=[y]:=by
 rcases h with ⟨_,rfl,_⟩ | ⟨_,k,rfl,_⟩ <;> exact ⟨rfl,rfl⟩
theorem TupY.notok {A:AObj} {R2:Heap} {off:Nat} {l:List GV} {y:AV} (h:TupY A R2 off l y) (n s:Nat):¬ A=.tok n s:=by
 rcases h with ⟨_,_,rfl⟩ | ⟨⟨_,rfl⟩,_⟩ <;> (intro e; cases e)
theorem TupY.clo1f {A:AObj} {R2:Heap} {off:Nat} {l:List GV} {y:AV} (h:TupY A R2 off l y):y.clo1=false:=by
 rcases h with ⟨_,rfl,_⟩ | ⟨_,k,rfl,_⟩ <;> rfl
theorem TupY.grow {a b c T:AObj} {R R2:Heap} {A:AObj} {l:List GV} {y:AV} {v:GV} (h:TupY A R2 (R.length+3) l y) (hl:l.length≤100) :
  ∃ y' R3,appendC (a :: b :: c :: (R++(A :: T :: (R2++[.cells v.enc.cells 0 false])))) 4 true 56 false y (.sl (R.length+(R2.length+1+1)+1+1+1) 0 1 4 true)=some (y',a :: b :: c :: (R++(arr0 false 0 :: T :: R3)))∧TupY (arr0 false 0) R3 (R.length+3) (l++[v]) y':=by
 have hvn:v.enc.cells.map AV.nrm=v.enc.cells:=by simp [AV.nrm]
 have hvc:v.enc.cells.all AV.clo1=true:=by simp [AV.clo1]
 rcases h with ⟨rfl,rfl,rfl⟩ | ⟨hne,k,rfl,hk⟩
 ·have hid:(a :: b :: c :: (R++(arr0 true 0 :: T :: (R2++[AObj.cells v.enc.cells 0 false]))))[R.length+3]?=some (.cells [.int .i64 3,.int .i64 0,.str ⟨#[97]⟩,.isl [] true] 0 false):=by simp [arr0]
  have hj:(a :: b :: c :: (R++(arr0 true 0 :: T :: (R2++[AObj.cells v.enc.cells 0 false]))))[R.length+(R2.length+1+1)+1+1+1]?=some (.cells v.enc.cells 0 false):=by simp
  have:=app_slC (sz:=4) (bytes:=56) hid hj (show R.length+3≠R.length+(R2.length+1+1)+1+1+1 by omega) rfl (by simp) rfl hvc (by omega) (by omega)
  rw [this,hvn]
  have hcs:closeS (a :: b :: c :: (R++(arr0 true 0 :: T :: (R2++[AObj.cells v.enc.cells 0 false])))) (.sl (R.length+3) 0 1 4 true)=a :: b :: c :: (R++(arr0 false 0 :: T :: (R2++[AObj.cells v.enc.cells 0 false]))):=by
   unfold closeS
   simp only [hid]
   simp [AV.tidy,AV.clo1,arr0,AV.nrm]
  rw [hcs]
  refine ⟨_,R2++[.cells v.enc.cells 0 false,.tok 2 4],by simp; rfl,.inr ⟨⟨by simp,rfl⟩,R2.length+1,?_,by simp⟩⟩
  simp [GV.encs,GV.enc,AV.nrm]
  omega
 ·obtain ⟨hne,rfl⟩:=hne
  have hx:LstA (R2++[AObj.cells v.enc.cells 0 false]) (a :: b :: c :: (R++[arr0 false 0,T])).length (GV.encs (.mk 3 0 ⟨#[97]⟩ [] :: l)) 4 (.own (k+(R.length+3+2)) (GV.encs (.mk 3 0 ⟨#[97]⟩ [] :: l))):=by
   refine .inr ⟨k,by simp,?_⟩
   rw [zqA (zqI.1 hk).1,hk,gvs_len]; rfl
  obtain ⟨x',R3,h1,h2,_⟩:=Go.Proofs.YtjfgjnlocadpbaaGreatDoor.grow (bytes:=56) (m:=R2.length) (cs:=v.enc.cells) (fz:=0) (ext:=false) hx (by simp) (by simp) hvc (by omega) (by omega) (encs_okEl _) (by rw [gvs_len]; simp; omega)
  rw [hvn] at h2
  refine ⟨x',R3,?_,?_⟩
  ·have e0:∀ S:Heap,(a :: b :: c :: (R++[arr0 false 0,T]))++S=a :: b :: c :: (R++(arr0 false 0 :: T :: S)):=fun S=>by simp
   have e:R2.length+(a :: b :: c :: (R++[arr0 false 0,T])).length=R.length+(R2.length+1+1)+1+1+1:=by simp; omega
   rw [e0,e0,e] at h1
   exact h1
  ·rcases h2 with ⟨h2,_⟩ | ⟨k',h2,h3⟩
   ·cases (List.append_eq_nil_iff.1 h2).2
   ·refine .inr ⟨⟨by simp,rfl⟩,k',?_,?_⟩
    ·rw [h2]
     have e2:AV.agg v.enc.cells=v.enc:=by rw [GV.enc_cells]; exact (GV.enc_eq v).symm
     have e3:GV.encs (.mk 3 0 ⟨#[97]⟩ [] :: l)++[AV.agg v.enc.cells]=GV.encs (.mk 3 0 ⟨#[97]⟩ [] :: (l++[v])):=by
      rw [e2]; simp only [GV.encs_map,List.map_append,List.map_cons,List.map_nil,List.cons_append]
     rw [e3]; simp
    ·rw [h3]; simp [gvs_len]
open Go.Mach
theorem take_min {α:Type} (l:List α) (i n:Nat) (h:i=min l.length n):l.take i=l.take n:=by
 rw [h]; simp [List.take_eq_take_iff,Nat.min_comm]
theorem fit2in (p:GP) (hs:p.size≤1048576) (i:Nat) (hi:i<p.facts.length) (ho:(p.facts[i]).ok) (nm:ByteArray) (xd xu:AV) (R:Heap) (K:List Fr) (Q:AExit→FR→Heap→Prop) (f:FR) (σ:Heap)
  (h1:f 1=.ptr 0 0) (h2:f 2=.ptr 1 0) (h3:f 3=.ptr 2 0) (h5:f 5=.int .i64 (i:Int)) (h6:f 6=.ptr (R.length+4) 0) (hσ:σ=fitP p xd xu (.isl [] true) (R++[arr0 true 0,.cells [.str nm,.sl (R.length+3) 0 1 4 true] 0 false]))
  (hk:∀ f σ,f 1=.ptr 0 0→f 2=.ptr 1 0→f 3=.ptr 2 0→f 5=.int .i64 (i:Int)→f 6=.ptr (R.length+4) 0 →
   (∃ y A R2,σ=fitP p xd xu (.isl [] true) (R++(A :: .cells [.str nm,y] 0 false :: R2))∧TupY A R2 (R.length+3) (((p.facts[i]).args.take 7).map fit) y)→wpK T 0 202 K f σ Q) :
  wpK T 0 202 (.code c15.body.snd.snd.snd.fst.snd.inn.inn.snd.fst.inn.snd.fst :: K) f σ Q:=by
 subst hσ
 have hl:=p.facts_len
 have hm:=p.facts_mem (zqT hi)
 have hal:=GU.args_le p.facts[i]
 have e1:p.facts[i]?=some p.facts[i]:=zqF hi
 generalize hu:p.facts[i]=u at *
 have hlen:=len_sizes u.args
 simp [c15,ACode.fst,ACode.snd,ACode.inn,fitP]
 refine W_for T 0 202 (min u.args.length 7) (fun j f σ=>f 1=.ptr 0 0∧f 2=.ptr 1 0∧f 3=.ptr 2 0∧f 5=.int .i64 (i:Int)∧f 6=.ptr (R.length+4) 0∧f 7=.int .i64 (j:Int) ∧
  ∃ y A R2,σ=fitP p xd xu (.isl [] true) (R++(A :: .cells [.str nm,y] 0 false :: R2))∧TupY A R2 (R.length+3) ((u.args.take j).map fit) y) ?_ _ _ ?_
 rotate_left 1
 ·exact ⟨by simp [h1],by simp [h2],by simp [h3],by simp [h5],by simp [h6],by simp,_,_,[],rfl,.inl ⟨by simp,rfl,rfl⟩⟩
 clear h1 h2 h3 h5 h6
 rintro j f σ hj ⟨h1,h2,h3,h5,h6,h7,y,A,R2,rfl,hy⟩
 by_cases hlt:j<min u.args.length 7
 ·have c1:j<u.args.length:=by omega
  have c2:(j:Int)<7:=by omega
  have hvo:GV.ok u.args[j]:=(GV.oks_iff _).1 ho _ (zqT c1)
  have hvs:=(sizes_mem (zqT c1)).1
  have hf:=callFit u.args[j] hvo (by omega)
  have hlw:IntKind.i64.wrap ((j:Int)+1)=(j:Int)+1:=wr64 (by omega) (by omega)
  rw [take_map fit _ _ c1]
  obtain ⟨y',R3,ha,hy'⟩:=hy.grow (v:=fit u.args[j]) (T:=.cells [.str nm,y] 0 false) (a:=.cells [.isl (p.decls.map GD.enc) false,.isl (p.facts.map GU.enc) false,.isl (p.rules.map GR.enc) false] 0 false) (b:=.cells [.isl [] true,.isl [] true,.isl [] true] 0 false) (c:=.cells [xd,xu,.isl [] true] 0 false) (by simp; omega)
  generalize (u.args.take j).map fit=done at *
  obtain ⟨s1,s2⟩:=hy'.cell
  simp [←GV.enc_eq] at ha
  simp [fitP,h1,h2,h3,h5,h6,h7,hi,e1,hu,c1,c2,hf,hlw,setRun,←GV.enc_eq,ha,s1,s2]
  exact ⟨hlt,y',_,R3,⟨rfl,rfl,rfl⟩,hy'⟩
 ·have c1:¬ (j<u.args.length∧(j:Int)<7):=by omega
  rw [take_min u.args j 7 (by omega)] at hy
  by_cases d1:j<u.args.length
  ·have d2:¬ ((j:Int)<7):=fun h=>c1 ⟨d1,h⟩
   simp [fitP,h1,h2,h3,h5,h6,h7,hi,e1,hu,d1,d2]
   exact hk _ _ (by simp [h1]) (by simp [h2]) (by simp [h3]) (by simp [h5]) (by simp [h6]) ⟨_,_,_,rfl,hy⟩
  ·simp [fitP,h1,h2,h3,h5,h6,h7,hi,e1,hu,d1]
   exact hk _ _ (by simp [h1]) (by simp [h2]) (by simp [h3]) (by simp [h5]) (by simp [h6]) ⟨_,_,_,rfl,hy⟩
theorem gu_okEl (x:GU):okEl 2 true x.enc=true:=rfl
theorem fit2 (p:GP) (hp:p.ok) (hs:p.size≤1048576) (xd:AV) (R0:Heap) (K:List Fr) (Q:AExit→FR→Heap→Prop) (f:FR) (σ:Heap) (h1:f 1=.ptr 0 0) (h2:f 2=.ptr 1 0) (h3:f 3=.ptr 2 0) (hσ:σ=fitP p xd (.isl [] true) (.isl [] true) R0)
  (hk:∀ f σ,f 1=.ptr 0 0→f 2=.ptr 1 0→f 3=.ptr 2 0→(∃ xu R,σ=fitP p xd xu (.isl [] true) R∧LstB (((p.facts.take 64).map tupOf).map GU.enc) xu)→wpK T 0 202 K f σ Q) :
  wpK T 0 202 (.code c15.body.snd.snd.snd.fst :: K) f σ Q:=by
 subst hσ
 have hl:=p.facts_len
 have hin:=fit2in p hs
 have hcode:∃ c,c=c15.body.snd.snd.snd.fst.snd.inn.inn.snd.fst.inn.snd.fst:=⟨_,rfl⟩
 obtain ⟨c,hc⟩:=hcode
 simp only [←hc] at hin
 have hL:c15.body.snd.snd.snd.fst=.seq c15.body.snd.snd.snd.fst.fst (.block 2 (.loop (.seq c15.body.snd.snd.snd.fst.snd.inn.inn.fst (.seq (.block 3 (.seq c15.body.snd.snd.snd.fst.snd.inn.inn.snd.fst.inn.fst (.seq c c15.body.snd.snd.snd.fst.snd.inn.inn.snd.fst.inn.snd.snd))) c15.body.snd.snd.snd.fst.snd.inn.inn.snd.snd)))):=by rw [hc]; rfl
 rw [hL]
 clear hL hc
 simp [c15,ACode.fst,ACode.snd,ACode.inn,fitP]
 refine W_for T 0 202 (min p.facts.length 64) (fun i f σ=>f 1=.ptr 0 0∧f 2=.ptr 1 0∧f 3=.ptr 2 0∧f 5=.int .i64 (i:Int)∧∃ xu R,σ=fitP p xd xu (.isl [] true) R∧LstA R 3 (((p.facts.take i).map tupOf).map GU.enc) 2 xu) ?_ _ _ ?_
 rotate_left 1
 ·exact ⟨by simp [h1],by simp [h2],by simp [h3],by simp,_,_,rfl,.inl ⟨by simp,rfl⟩⟩
 clear h1 h2 h3
 rintro i f σ hi ⟨h1,h2,h3,h5,xu,R,rfl,hx⟩
 by_cases hlt:i<min p.facts.length 64
 ·have c1:i<p.facts.length:=by omega
  have c2:(i:Int)<64:=by omega
  have hmem:=zqT c1
  have hsz:=p.facts_mem hmem
  have hn:=GU.name_le p.facts[i]
  have hlw:IntKind.i64.wrap ((i:Int)+1)=(i:Int)+1:=wr64 (by omega) (by omega)
  have hr:=lawRel p.facts[i].name (by omega)
  have e1:p.facts[i]?=some p.facts[i]:=zqF c1
  have hin:=hin i c1 (hp.2.1 _ hmem) (relOf p.facts[i].name) xd xu R
  rw [take_map tupOf _ _ c1,List.map_append]
  have hall:=allEl_map GU.enc 2 gu_okEl ((p.facts.take i).map tupOf)
  have hlen:(((p.facts.take i).map tupOf).map GU.enc).length=i:=by simp; omega
  generalize hES:((p.facts.take i).map tupOf).map GU.enc=es at *
  simp [fitP,h1,h2,h3,h5,c1,c2,e1,hr,setRun]
  refine hin _ _ _ _ (by simp [h1]) (by simp [h2]) (by simp [h3]) (by simp [h5]) (by simp) (by simp [fitP,arr0]) ?_
  clear hin h1 h2 h3 h5
  rintro f σ h1 h2 h3 h5 h6 ⟨y,A,R2,rfl,hy⟩
  obtain ⟨a,ha⟩:∃ a,a=AObj.cells [.isl (p.decls.map GD.enc) false,.isl (p.facts.map GU.enc) false,.isl (p.rules.map GR.enc) false] 0 false:=⟨_,rfl⟩
  obtain ⟨b,hb⟩:∃ b,b=AObj.cells [.isl [] true,.isl [] true,.isl [] true] 0 false:=⟨_,rfl⟩
  obtain ⟨c,hc⟩:∃ c,c=AObj.cells [xd,xu,.isl [] true] 0 false:=⟨_,rfl⟩
  obtain ⟨y1,y2⟩:=hy.cell
  have hyk:=hy.clo1f
  obtain ⟨A1,hcl,hA1⟩:=hy.close (pre:=a :: b :: c :: R) (T:=.cells [.str (relOf p.facts[i].name),y] 0 false) (by simp) (R2++[.cells [.str (relOf p.facts[i].name),y] 0 false])
  obtain ⟨x',R3,hg,hx'⟩:=growC (pre:=[a,b,c]) (R:=R++(A :: .cells [.str (relOf p.facts[i].name),y] 0 false :: (R2++[.cells [.str (relOf p.facts[i].name),y] 0 false])))
   (R1:=R++(A1 :: .cells [.str (relOf p.facts[i].name),y] 0 false :: (R2++[.cells [.str (relOf p.facts[i].name),y] 0 false]))) (m:=R.length+(R2.length+2)) (sz:=2) (bytes:=40) (fz:=0) (fz1:=0) (ext:=false) (ext1:=false)
   (x:=xu) (es:=es) (cs:=[.str (relOf p.facts[i].name),y]) (ys:=[.str (relOf p.facts[i].name),.isl (GV.encs (.mk 3 0 ⟨#[97]⟩ [] :: (p.facts[i].args.take 7).map fit)) false])
   (hx.more _) (by simp) rfl (by simp [hyk]) (by
    simp only [List.cons_append,List.nil_append] at hcl ⊢
    simp [closeL,hcl]) (by simp) rfl (by simp) (by
    intro k n s hk
    rcases Nat.lt_or_ge k R.length with hk2 | hk2
    ·rw [zqA hk2] at hk ⊢; exact hk
    ·rw [zqB hk2] at hk ⊢
     generalize k - R.length=m at *
     match m with
     | 0=>
      simp at hk ⊢
      rcases hA1 with ⟨cs,f,e,h | h⟩
      ·exact absurd hk (hy.notok _ _)
      ·rw [h]; exact hk
     | m+1=>simpa using hk) (by simp) (by omega) (by omega) hall (by rw [hlen]; omega)
  obtain ⟨s1,s2⟩:=hx'.cell
  have hfin:es++[AV.agg ([AV.str (relOf p.facts[i].name),.isl (GV.encs (.mk 3 0 ⟨#[97]⟩ [] :: (p.facts[i].args.take 7).map fit)) false].map AV.nrm)]=es++[(tupOf p.facts[i]).enc]:=rfl
  rw [hfin] at hx'
  subst ha hb hc
  simp [hyk] at hg
  simp [fitP,h1,h2,h3,h5,h6,hlw,setRun,y1,y2,s1,s2,hyk,hg]
  exact ⟨hlt,_,_,⟨rfl,rfl⟩,hx'⟩
 ·have c1:¬ (i<p.facts.length∧(i:Int)<64):=by omega
  rw [take_min p.facts i 64 (by omega)] at hx
  by_cases d1:i<p.facts.length
  ·have d2:¬ ((i:Int)<64):=fun h=>c1 ⟨d1,h⟩
   simp [fitP,h1,h5,d1,d2]
   exact hk _ _ (by simp [h1]) (by simp [h2]) (by simp [h3]) ⟨_,_,rfl,hx.b⟩
  ·simp [fitP,h1,h5,d1]
   exact hk _ _ (by simp [h1]) (by simp [h2]) (by simp [h3]) ⟨_,_,rfl,hx.b⟩
open Go.Mach
theorem chkO_f1 (ρ:Regs) (σ σ':Heap) (x:AX):(chkO ρ σ σ' [x]=some ())=(objOf σ (ev ρ x)=objOf σ' (ev ρ x)):=by
 have:=sameO_iff (objOf σ (ev ρ x)) (objOf σ' (ev ρ x))
 unfold chkO
 simp only [List.all_cons,List.all_nil,Bool.and_true]
 rw [←this]
 split <;> simp_all
theorem grow5 {a b c d e:AObj} {R R2:Heap} {es cs:List AV} {x:AV} {sz bytes:Nat} (hx:LstA R2 (R.length+5) es sz x) (hl:cs.length=sz) (hc:cs.all AV.clo1=true) (h0:0<sz) (hb:bytes≤1000) (hes:es.all (okEl sz true)=true) (hn:es.length≤10000000000) :
  ∃ x' R3,appendC (a :: b :: c :: (R++(d :: e :: (R2++[.cells cs 0 false])))) sz true bytes false x (.sl (R.length+(R2.length+1+1)+1+1+1) 0 1 sz true)=some (x',a :: b :: c :: (R++(d :: e :: R3)))∧LstA R3 (R.length+5) (es++[.agg (cs.map AV.nrm)]) sz x' ∧
   ∀ (j:Nat) cs' f e,R2[j]?=some (AObj.cells cs' f e)→R3[j]?=some (AObj.cells cs' f e):=by
 have hlen:(a :: b :: c :: (R++[d,e])).length=R.length+5:=by simp
 have hx2:=hx.more [AObj.cells cs 0 false]
 rw [←hlen] at hx2
 obtain ⟨x',R3,h1,h2,h3⟩:=grow (bytes:=bytes) (m:=R2.length) (cs:=cs) (fz:=0) (ext:=false) hx2 (by simp) hl hc h0 hb hes hn
 have e0:∀ S:Heap,(a :: b :: c :: (R++[d,e]))++S=a :: b :: c :: (R++(d :: e :: S)):=fun S=>by simp
 have e1:R2.length+(a :: b :: c :: (R++[d,e])).length=R.length+(R2.length+1+1)+1+1+1:=by simp; omega
 rw [e0,e0,e1] at h1
 rw [hlen] at h2
 exact ⟨x',R3,h1,h2,fun j cs' f e hj=>h3 j cs' f e (by rw [zqA (zqI.1 hj).1]; exact hj)⟩
def RuSt (p:GP) (xd xu xr:AV) (R:Heap) (r:GR) (L:List GT) (agg:ByteArray) (pos:Int) (es:List AV) (σ:Heap):Prop:=
 ∃ k cs ext y R2,σ=fitP p xd xu xr (R++(.cells r.enc.cells 0 false :: .cells [.str (relOf r.label),.str (relOf r.head),.sl (k+(R.length+5)) 0 L.length 7 true,.str agg,.int .i64 pos,y] 0 false :: R2)) ∧
  R2[k]?=some (.cells cs 0 ext)∧cs.map AV.nrm=flat (GT.encs L)∧cs.all AV.clo1=true∧LstA R2 (R.length+5) es 3 y
def Fr3 (R:Heap) (i:Nat) (f:FR):Prop:=f 1=.ptr 0 0∧f 2=.ptr 1 0∧f 3=.ptr 2 0∧f 8=.int .i64 (i:Int)∧f 9=.ptr (R.length+3) 0∧f 10=.ptr (R.length+4) 0
abbrev body3:ACode:=c15.body.snd.snd.snd.snd.fst.snd.inn.inn.snd.fst.inn
theorem fit3a (p:GP) (hs:p.size≤1048576) (i:Nat) (hi:i<p.rules.length) (ho:(p.rules[i]).ok) (xd xu xr:AV) (R:Heap) (C:ACode) (K:List Fr) (Q:AExit→FR→Heap→Prop) (f:FR) (σ:Heap)
  (h1:f 1=.ptr 0 0) (h2:f 2=.ptr 1 0) (h3:f 3=.ptr 2 0) (h8:f 8=.int .i64 (i:Int)) (hσ:σ=fitP p xd xu xr R)
  (hk:∀ f σ,Fr3 R i f→RuSt p xd xu xr R p.rules[i] (argsOf (p.rules[i]).args) ⟨#[]⟩ 0 [] σ→wpK T 0 202 (.code C :: K) f σ Q) :
  wpK T 0 202 (.code body3.fst :: .code (.seq body3.snd.fst C) :: K) f σ Q:=by
 subst hσ
 have hm:=p.rules_mem (zqT hi)
 have hal:=GR.args_le p.rules[i]
 have hl1:=GR.label_le p.rules[i]
 have hl2:=GR.head_le p.rules[i]
 have e1:p.rules[i]?=some p.rules[i]:=zqF hi
 generalize hu:p.rules[i]=r at *
 have hr1:=lawRel r.label (by omega)
 have hr2:=lawRel r.head (by omega)
 obtain ⟨hA,hcall⟩:=argsX_at r.args ho.1 (by omega) 0 (fitP p xd xu xr (R++[.cells r.enc.cells 0 false,.cells [.str ⟨#[]⟩,.str ⟨#[]⟩,.isl [] true,.str ⟨#[]⟩,.int .i64 0,.isl [] true] 0 false]))
 obtain ⟨k,cs,rest,ext,hr,hkk,hn,hc⟩:=hA
 rw [hr] at hcall
 simp [fitP] at hcall
 simp [body3,c15,ACode.fst,ACode.snd,ACode.inn,fitP,h1,h2,h3,h8,hi,e1,hu,setRun,hr1,hr2,hcall,chkO_f1,objOf]
 refine hk _ _ ⟨by simp [h1],by simp [h2],by simp [h3],by simp [h8],by simp,by simp⟩ ⟨k,cs,ext,_,rest,?_,hkk,hn,hc,.inl ⟨rfl,rfl⟩⟩
 simp [fitP]
 omega
theorem gl_okEl (x:GL):okEl 3 true x.enc=true:=rfl
theorem fit3b (p:GP) (hs:p.size≤1048576) (i:Nat) (hi:i<p.rules.length) (ho:(p.rules[i]).ok) (xd xu xr:AV) (R:Heap) (L:List GT) (K:List Fr) (Q:AExit→FR→Heap→Prop) (f:FR) (σ:Heap)
  (hf:Fr3 R i f) (hσ:RuSt p xd xu xr R p.rules[i] L ⟨#[]⟩ 0 [] σ)
  (hk:∀ f σ,Fr3 R i f→RuSt p xd xu xr R p.rules[i] L ⟨#[]⟩ 0 ((((p.rules[i]).body.take 8).map litOf).map GL.enc) σ→wpK T 0 202 K f σ Q) :
  wpK T 0 202 (.code body3.snd.snd.fst :: K) f σ Q:=by
 have hm:=p.rules_mem (zqT hi)
 have hbl:=GR.body_len p.rules[i]
 have hbm:=fun y (hy:y∈(p.rules[i]).body)=>(p.rules[i]).body_mem hy
 have e1:p.rules[i]?=some p.rules[i]:=zqF hi
 generalize hu:p.rules[i]=r at *
 obtain ⟨k,cs,ext,y,R2,rfl,hk1,hk2,hk3,hy⟩:=hσ
 obtain ⟨h1,h2,h3,h8,h9,h10⟩:=hf
 simp [body3,c15,ACode.fst,ACode.snd,ACode.inn,fitP]
 refine W_for T 0 202 (min r.body.length 8) (fun j f σ=>Fr3 R i f∧f 11=.int .i64 (j:Int)∧RuSt p xd xu xr R r L ⟨#[]⟩ 0 (((r.body.take j).map litOf).map GL.enc) σ) ?_ _ _ ?_
 rotate_left 1
 ·exact ⟨⟨by simp [h1],by simp [h2],by simp [h3],by simp [h8],by simp [h9],by simp [h10]⟩,by simp,k,cs,ext,y,R2,by simp [fitP],hk1,hk2,hk3,hy⟩
 clear h1 h2 h3 h8 h9 h10 hk1 hk2 hk3 hy
 rintro j f σ hj ⟨⟨h1,h2,h3,h8,h9,h10⟩,h11,k,cs,ext,y,R2,rfl,hk1,hk2,hk3,hy⟩
 by_cases hlt:j<min r.body.length 8
 ·have c1:j<r.body.length:=by omega
  have c2:(j:Int)<8:=by omega
  have hmem:=zqT c1
  have hlo:=ho.2.2 _ hmem
  have hls:=hbm _ hmem
  have hlit:=callLawLit r.body[j] hlo (by omega)
  have hlw:IntKind.i64.wrap ((j:Int)+1)=(j:Int)+1:=wr64 (by omega) (by omega)
  have e2:r.body[j]?=some r.body[j]:=zqF c1
  rw [take_map litOf _ _ c1,List.map_append]
  have hall:=allEl_map GL.enc 3 gl_okEl ((r.body.take j).map litOf)
  have hlen:(((r.body.take j).map litOf).map GL.enc).length=j:=by simp; omega
  generalize hES:((r.body.take j).map litOf).map GL.enc=es at *
  obtain ⟨a,ha⟩:∃ a,a=AObj.cells [.isl (p.decls.map GD.enc) false,.isl (p.facts.map GU.enc) false,.isl (p.rules.map GR.enc) false] 0 false:=⟨_,rfl⟩
  obtain ⟨b,hb⟩:∃ b,b=AObj.cells [.isl [] true,.isl [] true,.isl [] true] 0 false:=⟨_,rfl⟩
  obtain ⟨c,hc⟩:∃ c,c=AObj.cells [xd,xu,xr] 0 false:=⟨_,rfl⟩
  obtain ⟨d,hd⟩:∃ d,d=AObj.cells r.enc.cells 0 false:=⟨_,rfl⟩
  obtain ⟨e,he⟩:∃ e,e=AObj.cells [.str (relOf r.label),.str (relOf r.head),.sl (k+(R.length+5)) 0 L.length 7 true,.str ⟨#[]⟩,.int .i64 0,y] 0 false:=⟨_,rfl⟩
  obtain ⟨x',R3,hg,hx',hpres⟩:=grow5 (a:=a) (b:=b) (c:=c) (d:=d) (e:=e) (R:=R) (R2:=R2) (bytes:=48) (cs:=(litOf r.body[j]).enc.cells) hy (by simp) (by simp [AV.clo1]) (by omega) (by omega) hall (by rw [hlen]; omega)
  obtain ⟨s1,s2⟩:=hx'.cell
  obtain ⟨s3,s4⟩:=hy.cell
  have hfin:es++[AV.agg ((litOf r.body[j]).enc.cells.map AV.nrm)]=es++[(litOf r.body[j]).enc]:=by simp [AV.nrm,←GL.enc_eq]
  rw [hfin] at hx'
  subst ha hb hc hd he
  simp [←GL.enc_eq] at hg
  simp [fitP,h1,h2,h3,h8,h9,h10,h11,hi,e1,e2,hu,c1,c2,hlit,hlw,setRun,s1,s2,s3,s4,←GL.enc_eq,hg]
  exact ⟨hlt,⟨by simp [h1],by simp [h2],by simp [h3],by simp [h8],by simp [h9],by simp [h10]⟩,k,cs,ext,x',R3,by simp [fitP],hpres _ _ _ _ hk1,hk2,hk3,hx'⟩
 ·have c1:¬ (j<r.body.length∧(j:Int)<8):=by omega
  rw [take_min r.body j 8 (by omega)] at hy
  by_cases d1:j<r.body.length
  ·have d2:¬ ((j:Int)<8):=fun h=>c1 ⟨d1,h⟩
   simp [fitP,h1,h2,h3,h8,h9,h10,h11,hi,e1,hu,d1,d2]
   exact hk _ _ ⟨by simp [h1],by simp [h2],by simp [h3],by simp [h8],by simp [h9],by simp [h10]⟩ ⟨k,cs,ext,y,R2,by simp [fitP],hk1,hk2,hk3,hy⟩
  ·simp [fitP,h1,h2,h3,h8,h9,h10,h11,hi,e1,hu,d1]
   exact hk _ _ ⟨by simp [h1],by simp [h2],by simp [h3],by simp [h8],by simp [h9],by simp [h10]⟩ ⟨k,cs,ext,y,R2,by simp [fitP],hk1,hk2,hk3,hy⟩
open Go.Mach
theorem callLit0 (bs:Nat) (σ:Heap):callT T 34 [.agg [.int .i64 0,.str ⟨#[]⟩,.isl [] true]] bs σ=some ((litOf lit0).enc,σ):=
 call_data rfl rfl rfl (lawlit_ok lit0 ⟨by unfold GV.i64ok; simp [lit0],by simp [lit0,GT.oks]⟩ (by rw [gl_size]; decide)) rfl rfl rfl
theorem fit3c (p:GP) (i:Nat) (hi:i<p.rules.length) (xd xu xr:AV) (R:Heap) (L:List GT) (K:List Fr) (Q:AExit→FR→Heap→Prop) (f:FR) (σ:Heap)
  (hf:Fr3 R i f) (hσ:RuSt p xd xu xr R p.rules[i] L ⟨#[]⟩ 0 ((((p.rules[i]).body.take 8).map litOf).map GL.enc) σ)
  (hk:∀ f σ,Fr3 R i f→RuSt p xd xu xr R p.rules[i] L ⟨#[]⟩ 0 ((bodyOf (p.rules[i]).body).map GL.enc) σ→wpK T 0 202 K f σ Q) :
  wpK T 0 202 (.code body3.snd.snd.snd.fst :: K) f σ Q:=by
 generalize hu:p.rules[i]=r at *
 obtain ⟨k,cs,ext,y,R2,rfl,hk1,hk2,hk3,hy⟩:=hσ
 obtain ⟨h1,h2,h3,h8,h9,h10⟩:=hf
 by_cases hb:r.body=[]
 ·have hes:(((r.body.take 8).map litOf).map GL.enc)=[]:=by rw [hb]; rfl
  have hbo:(bodyOf r.body).map GL.enc=[(litOf lit0).enc]:=by simp [bodyOf,hb]
  rw [hes] at hy
  rw [hbo] at hk
  rcases hy with ⟨_,rfl⟩ | ⟨k',rfl,hk'⟩
  ·obtain ⟨a,ha⟩:∃ a,a=AObj.cells [.isl (p.decls.map GD.enc) false,.isl (p.facts.map GU.enc) false,.isl (p.rules.map GR.enc) false] 0 false:=⟨_,rfl⟩
   simp [body3,c15,ACode.fst,ACode.snd,ACode.inn,fitP,h1,h2,h3,h8,h9,h10,setRun,callLit0]
   refine hk _ _ ⟨by simp [h1],by simp [h2],by simp [h3],by simp [h8],by simp [h9],by simp [h10]⟩ ⟨k,cs,ext,_,R2++[.cells (litOf lit0).enc.cells 0 false,.tok 1 3],?_,?_,hk2,hk3,.inr ⟨R2.length+1,rfl,by simp⟩⟩
   ·simp [fitP,←GL.enc_eq]
    omega
   ·rw [zqA (zqI.1 hk1).1]; exact hk1
  ·have hy0:LstA R2 (R.length+5) [] 3 (.own (k'+(R.length+5)) []):=.inr ⟨k',rfl,hk'⟩
   obtain ⟨x',R3,hg,hx',hpres⟩:=grow5 (a:=.cells [.isl (p.decls.map GD.enc) false,.isl (p.facts.map GU.enc) false,.isl (p.rules.map GR.enc) false] 0 false) (b:=.cells [.isl [] true,.isl [] true,.isl [] true] 0 false) (c:=.cells [xd,xu,xr] 0 false) (d:=.cells r.enc.cells 0 false)
    (e:=.cells [.str (relOf r.label),.str (relOf r.head),.sl (k+(R.length+5)) 0 L.length 7 true,.str ⟨#[]⟩,.int .i64 0,.own (k'+(R.length+5)) []] 0 false) (R:=R) (R2:=R2) (bytes:=48) (cs:=(litOf lit0).enc.cells) hy0 (by simp) (by simp [AV.clo1]) (by omega) (by omega) rfl (by simp)
   obtain ⟨s1,s2⟩:=hx'.cell
   have hfin:([]:List AV)++[AV.agg ((litOf lit0).enc.cells.map AV.nrm)]=[(litOf lit0).enc]:=by simp [AV.nrm,←GL.enc_eq]
   rw [hfin] at hx'
   simp [←GL.enc_eq] at hg
   simp [body3,c15,ACode.fst,ACode.snd,ACode.inn,fitP,h1,h2,h3,h8,h9,h10,setRun,callLit0,←GL.enc_eq,hg,s1,s2]
   exact hk _ _ ⟨by simp [h1],by simp [h2],by simp [h3],by simp [h8],by simp [h9],by simp [h10]⟩ ⟨k,cs,ext,x',R3,by simp [fitP],hpres _ _ _ _ hk1,hk2,hk3,hx'⟩
 ·have hbo:bodyOf r.body=(r.body.take 8).map litOf:=by simp [bodyOf,hb]
  rw [hbo] at hk
  have hne:(((r.body.take 8).map litOf).map GL.enc)≠[]:=by simp [hb]
  rcases hy with ⟨h0,_⟩ | ⟨k',rfl,hk'⟩
  ·exact absurd h0 hne
  ·have hlen:¬ ((((r.body.take 8).map litOf).map GL.enc).length=0):=fun h=>hne (List.length_eq_zero_iff.1 h)
   generalize ((r.body.take 8).map litOf).map GL.enc=es at *
   simp [body3,c15,ACode.fst,ACode.snd,ACode.inn,fitP,h1,h2,h3,h8,h9,h10,hlen,hne]
   exact hk _ _ ⟨by simp [h1],by simp [h2],by simp [h3],by simp [h8],by simp [h9],by simp [h10]⟩ ⟨k,cs,ext,_,R2,by simp [fitP],hk1,hk2,hk3,.inr ⟨k',rfl,hk'⟩⟩
end Go.Proofs.YtjfgjnlocadpbaaGreatDoor
end
