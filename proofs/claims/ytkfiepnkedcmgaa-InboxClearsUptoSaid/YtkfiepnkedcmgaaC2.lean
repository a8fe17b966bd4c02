import Derived.Test.YtkfiepnkedcmgaaC1
import Derived.Laws.StructEq
import Derived.MapKept
import Derived.OrdersIn
import Derived.TacticsIn
import Derived.RangeFuncIn
import Derived.RangeFuncRecord
import Derived.RangeFuncLeaves
import Derived.Orders
set_option linter.unusedVariables false
set_option linter.unusedSimpArgs false
set_option linter.unnecessarySimpa false
section
namespace Go.Mach
open Go.RowKit
section
variable {P:Program} {bs:Nat} {g:Gh} {ow:Nat→Option Nat} {σ σ1:Heap} {w:World}
def ClOut (bs:Nat) (g:Gh) (ow:Nat→Option Nat) (σ:Heap) (w:World) (σ1:Heap) (g1:Gh):Prop:=
 HR g1 ow σ1 w∧St bs g ow σ w g1 ow σ1 w∧σ1.length=σ.length
theorem ClOut.refl (h:HR g ow σ w):ClOut bs g ow σ w σ g:=⟨h,.refl ..,rfl⟩
theorem ClOut.trans {g1 g2:Gh} {σ2:Heap} (h:ClOut bs g ow σ w σ1 g1) (k:ClOut bs g1 ow σ1 w σ2 g2):ClOut bs g ow σ w σ2 g2:=⟨k.1,h.2.1.trans k.2.1,k.2.2.trans h.2.2⟩
theorem close0_sound (h:HR g ow σ w) {x y:AV} {c:Value} (hx:VR g x c) (hc:close0 σ x=some (y,σ1)):∃ g1,ClOut bs g ow σ w σ1 g1∧VR g1 y c∧(x.cellv=true→y.cellv=true):=by
 cases hx with
 | isl vs hcl hs ha hcap hn hM hV=>
  simp only [close0] at hc; injection hc with hc; injection hc with e1 e2; subst e1 e2
  exact ⟨g,.refl h,.isl vs hcl hs ha (fun h=>by cases h) hn hM hV,fun _=>rfl⟩
 | own vs hcl hs hp hn hM hV=>
  simp only [close0] at hc; injection hc with hc; injection hc with e1 e2; subst e1 e2
  exact ⟨g,.refl h,.isl vs hcl hs (.inr rfl) (fun h=>by cases h) hn hM hV,fun _=>rfl⟩
 | @sl id off len sz ag b c cc hp hcc hs hl=>
  simp only [close0] at hc
  split at hc
  ·rename_i h0
   injection hc with hc; injection hc with e1 e2; subst e1 e2 h0
   exact ⟨g,.refl h,by exact isl_VR (es:=[]) (b:=0) (p:=0) (s:=1) (by simp) (by omega) (.inl rfl) (fun hh=>by cases hh) (Nat.zero_le _) (by simp [flat]),fun _=>rfl⟩
  ·split at hc
   ·rename_i cs fz ext hσ
    obtain ⟨win,hw,hc⟩:=zqH.1 hc
    split at hc
    ·rename_i hall
     obtain ⟨es,hch,e⟩:=zqG.1 hc
     injection e with e1 e2; subst e1 e2
     obtain ⟨cv,tag,fr,hb,k1,k2,k3,k4,k5,k6⟩:=h.cel id cs fz ext hσ b c hp
     obtain ⟨hH,hS⟩:=h.freeze (bs:=bs) hσ hp hb (lo:=off) (hi:=off+len * sz)
     obtain ⟨hr,hlen⟩:=(Rd.cel hH (list_set_at (h.dom id _ hp).1) hp).win hw
     rw [Nat.zero_add] at hr
     have hcl1:∀ x∈win,x.clo1=true:=fun x hx=>zqQ.1 hall x hx
     have hr:=hr.nrm
     have hlen:(win.map AV.nrm).length=len * sz:=by rw [List.length_map]; exact hlen
     have hcl1:∀ x∈win.map AV.nrm,x.clo1=true:=fun x hx=>by obtain ⟨y,hy,rfl⟩:=List.mem_map.1 hx; rw [nrm_clo1]; exact hcl1 y hy
     obtain ⟨i1,i2,i3⟩:=chunk_flat (fun x hx=>clo1_cellv (hcl1 x hx)) hch hlen
     refine ⟨_,⟨by simpa only [frz,hσ] using hH,by simpa only [frz,hσ] using hS,by simp [frz,hσ]⟩,?_,fun _=>rfl⟩
     have hgo:VR (g.fz b off (off+len * sz) cv) (.isl es false) (.slice (some ⟨b,off,none⟩) es.length cc):=?_
     ·rw [i2] at hgo; exact hgo
     refine isl_VR (b:=b) (p:=off) (s:=sz) (fun e he=>?_) hs (.inr rfl) (fun hh=>by cases hh) (by omega) fun i x hx=>?_
     ·obtain ⟨j1,j2⟩:=i3 e he
      refine ⟨?_,j1⟩
      have hsub:∀ x∈e.cells,x.clo1=true:=fun x hx=>hcl1 x (by rw [←i1]; exact List.mem_flatMap.2 ⟨e,he,hx⟩)
      cases ag with
      | true=>
       simp only [if_true] at j2
       obtain ⟨cs',rfl⟩:=j2
       exact zqQ.2 hsub
      | false=>
       simp only [Bool.false_eq_true,if_false] at j2
       have h1:=hsub e (by rw [AV.cells_of_cellv j2]; simp)
       cases e <;> simp [AV.clo,AV.clo1,AV.cellv] at h1 j2 ⊢
     ·rw [i1] at hx
      obtain ⟨_,v,hv,hV⟩:=hr i x hx
      refine ⟨v,?_,hV⟩
      have hi:i<(win.map AV.nrm).length:=(zqI.1 hx).1
      rw [cell_heap hb] at hv
      show (if b=b∧off≤off+i∧off+i<off+len * sz then cv[off+i]? else g.M b (off+i))=some v
      rw [if_pos ⟨rfl,by omega,by omega⟩]; exact hv
    ·cases hc
   ·cases hc
 | undef=>simp only [close0] at hc; injection hc with hc; injection hc with e1 e2; subst e1 e2; exact ⟨g,.refl h,.undef _,id⟩
 | int k n=>simp only [close0] at hc; injection hc with hc; injection hc with e1 e2; subst e1 e2; exact ⟨g,.refl h,.int k n,id⟩
 | bool b=>simp only [close0] at hc; injection hc with hc; injection hc with e1 e2; subst e1 e2; exact ⟨g,.refl h,.bool b,id⟩
 | str s=>simp only [close0] at hc; injection hc with hc; injection hc with e1 e2; subst e1 e2; exact ⟨g,.refl h,.str s,id⟩
 | nilptr=>simp only [close0] at hc; injection hc with hc; injection hc with e1 e2; subst e1 e2; exact ⟨g,.refl h,.nilptr,id⟩
 | nilfunc=>simp only [close0] at hc; injection hc with hc; injection hc with e1 e2; subst e1 e2; exact ⟨g,.refl h,.nilfunc,id⟩
 | nilmap=>simp only [close0] at hc; injection hc with hc; injection hc with e1 e2; subst e1 e2; exact ⟨g,.refl h,.nilmap,id⟩
 | map hp=>simp only [close0] at hc; injection hc with hc; injection hc with e1 e2; subst e1 e2; exact ⟨g,.refl h,.map hp,id⟩
 | yld hp=>simp only [close0] at hc; injection hc with hc; injection hc with e1 e2; subst e1 e2; exact ⟨g,.refl h,.yld hp,id⟩
 | ptr hp=>simp only [close0] at hc; injection hc with hc; injection hc with e1 e2; subst e1 e2; exact ⟨g,.refl h,.ptr hp,id⟩
 | iptr vs a b c=>simp only [close0] at hc; injection hc with hc; injection hc with e1 e2; subst e1 e2; exact ⟨g,.refl h,.iptr vs a b c,id⟩
 | func a b=>simp only [close0] at hc; injection hc with hc; injection hc with e1 e2; subst e1 e2; exact ⟨g,.refl h,.func a b,id⟩
 | meth a b=>simp only [close0] at hc; injection hc with hc; injection hc with e1 e2; subst e1 e2; exact ⟨g,.refl h,.meth a b,id⟩
 | agg a b c=>simp only [close0] at hc; injection hc with hc; injection hc with e1 e2; subst e1 e2; exact ⟨g,.refl h,.agg a b c,id⟩
 | tup a b=>simp only [close0] at hc; injection hc with hc; injection hc with e1 e2; subst e1 e2; exact ⟨g,.refl h,.tup a b,id⟩
structure VRs (g:Gh) (xs:List AV) (cs:List Value):Prop where
 len:xs.length=cs.length
 val:∀ (i:Nat) x c,xs[i]?=some x→cs[i]?=some c→VR g x c
theorem VRs.mono {g g':Gh} (hg:g.le g') {xs cs} (h:VRs g xs cs):VRs g' xs cs:=⟨h.len,fun i x c hx hc=>(h.val i x c hx hc).mono hg⟩
theorem VRs.cons {x c xs cs} (hx:VR g x c) (h:VRs g xs cs):VRs g (x :: xs) (c :: cs):=by
 refine ⟨by simp [h.len],fun i y d hy hd=>?_⟩
 cases i with
 | zero=>simp at hy hd; subst hy hd; exact hx
 | succ i=>simp at hy hd; exact h.val i y d hy hd
theorem VRs.uncons {x xs cs} (h:VRs g (x :: xs) cs):∃ c cs',cs=c :: cs'∧VR g x c∧VRs g xs cs':=by
 cases cs with
 | nil=>have:=h.len; simp at this
 | cons c cs=>exact ⟨c,cs,rfl,h.val 0 x c rfl rfl,by have:=h.len; simpa using this,fun i y d hy hd=>h.val (i+1) y d (by simpa using hy) (by simpa using hd)⟩
theorem VRs.nil_left {cs} (h:VRs g [] cs):cs=[]:=by cases cs with
 | nil=>rfl
 | cons c cs=>have:=h.len; simp at this
def CloS (bs:Nat) (f:Heap→AV→Option (AV × Heap)):Prop:=∀ {g:Gh} {ow:Nat→Option Nat} {σ σ1:Heap} {w:World} {x y:AV} {c:Value},HR g ow σ w→VR g x c→f σ x=some (y,σ1)→∃ g1,ClOut bs g ow σ w σ1 g1∧VR g1 y c∧(x.cellv=true→y.cellv=true)
theorem closeLW_sound {f:Heap→AV→Option (AV × Heap)} (hf:CloS bs f):∀ (xs:List AV) {g:Gh} {σ σ1:Heap} {ys:List AV} {cs:List Value},HR g ow σ w→VRs g xs cs→closeLW f σ xs=some (ys,σ1) →
  ∃ g1,ClOut bs g ow σ w σ1 g1∧VRs g1 ys cs
 | [],g,σ,σ1,ys,cs,h,hx,hc=>by
  simp only [closeLW] at hc; injection hc with hc; injection hc with e1 e2; subst e1 e2
  exact ⟨g,.refl h,hx⟩
 | x :: xs,g,σ,σ1,ys,cs,h,hx,hc=>by
  simp only [closeLW] at hc
  obtain ⟨⟨y,σa⟩,h1,hc⟩:=zqH.1 hc
  obtain ⟨⟨ys',σb⟩,h2,e⟩:=zqG.1 hc
  injection e with e1 e2; subst e1 e2
  obtain ⟨c,cs',rfl,hxc,hxs⟩:=hx.uncons
  obtain ⟨ga,ka,va,la⟩:=hf h hxc h1
  obtain ⟨gb,kb,vb⟩:=closeLW_sound hf xs ka.1 (hxs.mono ka.2.1.gle) h2
  exact ⟨gb,ka.trans kb,.cons (va.mono kb.2.1.gle) vb⟩
theorem closeUp_sound {f:Heap→AV→Option (AV × Heap)} (hf:CloS bs f):CloS bs (closeUp f):=by
 intro g ow σ σ1 w x y c h hx hc
 unfold closeUp at hc
 split at hc
 ·rename_i id off len sz ag
  split at hc
  ·rename_i cs fz ext hσ
   cases hx with
   | @sl _ _ _ _ _ b c cc hp hcc hs hl=>
    obtain ⟨win,hw,hc⟩:=zqH.1 hc
    obtain ⟨⟨ys,σ2⟩,h1,hc⟩:=zqH.1 hc
    simp only at hc
    split at hc
    ·rename_i hall
     obtain ⟨es,hch,e⟩:=zqG.1 hc
     injection e with e1 e2; subst e1 e2
     obtain ⟨cv,tag,fr,hb,k1,k2,k3,k4,k5,k6⟩:=h.cel id cs fz ext hσ b c hp
     obtain ⟨hH,hS⟩:=h.freeze (bs:=bs) hσ hp hb (lo:=off) (hi:=off+len * sz)
     obtain ⟨hr,hlen⟩:=(Rd.cel hH (list_set_at (h.dom id _ hp).1) hp).win hw
     rw [Nat.zero_add] at hr
     have hf':frz σ id (off+len * sz)=σ.set id (.cells cs (max fz (off+len * sz)) ext):=by simp only [frz,hσ]
     rw [hf'] at h1
     have hcell:∀ i,i<win.length→∃ v,cv[off+i]?=some v∧VR (g.fz b off (off+len * sz) cv) win[i]! v:=fun i hi=>by
      obtain ⟨_,v,hv,hV⟩:=hr i win[i] (zqF hi)
      rw [cell_heap hb] at hv
      exact ⟨v,hv,by rw [getElem!_pos win i hi]; exact hV⟩
     obtain ⟨g2,m2,v2⟩:=closeLW_sound hf win (cs:=(cv.toList.drop off).take win.length) hH ⟨by
       simp only [List.length_take,List.length_drop,Array.length_toList]
       rcases Nat.eq_zero_or_pos win.length with h0 | h0
       ·omega
       ·obtain ⟨v,hv,_⟩:=hcell (win.length - 1) (by omega)
        have:=(zqN.1 hv).1
        omega,fun i x v hx hv=>by
      have hi:i<win.length:=(zqI.1 hx).1
      obtain ⟨u,hu,hV⟩:=hcell i hi
      rw [List.getElem?_take,if_pos hi,List.getElem?_drop,Array.getElem?_toList,hu] at hv
      injection hv with hv; subst hv
      rw [zqF hi] at hx; injection hx with hx; subst hx
      rw [getElem!_pos win i hi] at hV; exact hV⟩ h1
     have hyl:ys.length=win.length:=by
      have:=v2.len
      simp only [List.length_take,List.length_drop,Array.length_toList] at this
      rcases Nat.eq_zero_or_pos win.length with h0 | h0
      ·omega
      ·obtain ⟨v,hv,_⟩:=hcell (win.length - 1) (by omega)
       have:=(zqN.1 hv).1
       omega
     have hcl1:∀ x∈ys,x.clo1=true:=fun x hx=>zqQ.1 hall x hx
     obtain ⟨i1,i2,i3⟩:=chunk_flat (fun x hx=>clo1_cellv (hcl1 x hx)) hch (hyl.trans hlen)
     refine ⟨g2,ClOut.trans (σ1:=σ.set id (.cells cs (max fz (off+len * sz)) ext)) ⟨hH,hS,by simp⟩ m2,?_,fun _=>rfl⟩
     have hgo:VR g2 (.isl es false) (.slice (some ⟨b,off,none⟩) es.length cc):=?_
     ·rw [i2] at hgo; exact hgo
     refine isl_VR (b:=b) (p:=off) (s:=sz) (fun e he=>?_) hs (.inr rfl) (fun hh=>by cases hh) (by omega) fun i x hx=>?_
     ·obtain ⟨j1,j2⟩:=i3 e he
      refine ⟨?_,j1⟩
      have hsub:∀ x∈e.cells,x.clo1=true:=fun x hx=>hcl1 x (by rw [←i1]; exact List.mem_flatMap.2 ⟨e,he,hx⟩)
      cases ag with
      | true=>
       simp only [if_true] at j2
       obtain ⟨cs',rfl⟩:=j2
       exact zqQ.2 hsub
      | false=>
       simp only [Bool.false_eq_true,if_false] at j2
       have h1:=hsub e (by rw [AV.cells_of_cellv j2]; simp)
       cases e <;> simp [AV.clo,AV.clo1,AV.cellv] at h1 j2 ⊢
     ·rw [i1] at hx
      have hi:i<ys.length:=(zqI.1 hx).1
      obtain ⟨v,hv,_⟩:=hcell i (by omega)
      refine ⟨v,m2.2.1.gle.M _ _ _ ?_,v2.val i x v hx ?_⟩
      ·show (if b=b∧off≤off+i∧off+i<off+len * sz then cv[off+i]? else g.M b (off+i))=some v
       rw [if_pos ⟨rfl,by omega,by omega⟩]; exact hv
      ·rw [List.getElem?_take,if_pos (by omega),List.getElem?_drop,Array.getElem?_toList]; exact hv
    ·cases hc
  ·cases hc
 ·exact close0_sound h hx hc
theorem close1_sound (h:HR g ow σ w) {x y:AV} {c:Value} (hx:VR g x c) (hc:close1 σ x=some (y,σ1)):∃ g1,ClOut bs g ow σ w σ1 g1∧VR g1 y c∧(x.cellv=true→y.cellv=true):=by
 unfold close1 at hc
 split at hc
 ·rename_i r hr; injection hc with hc; subst hc; exact close0_sound h hx hr
 ·exact closeUp_sound (closeUp_sound (closeUp_sound (closeUp_sound fun h hx hc=>close0_sound h hx hc))) h hx hc
theorem closeL_sound:∀ (xs:List AV) {g:Gh} {σ σ1:Heap} {ys:List AV} {cs:List Value},HR g ow σ w→VRs g xs cs→closeL σ xs=some (ys,σ1) →
  ∃ g1,ClOut bs g ow σ w σ1 g1∧VRs g1 ys cs∧((∀ x∈xs,x.cellv=true)→∀ y∈ys,y.cellv=true)
 | [],g,σ,σ1,ys,cs,h,hx,hc=>by
  simp only [closeL] at hc; injection hc with hc; injection hc with e1 e2; subst e1 e2
  exact ⟨g,.refl h,hx,fun _ y hy=>by simp at hy⟩
 | x :: xs,g,σ,σ1,ys,cs,h,hx,hc=>by
  simp only [closeL] at hc
  obtain ⟨⟨y,σa⟩,h1,hc⟩:=zqH.1 hc
  obtain ⟨⟨ys',σb⟩,h2,e⟩:=zqG.1 hc
  injection e with e1 e2; subst e1 e2
  obtain ⟨c,cs',rfl,hxc,hxs⟩:=hx.uncons
  obtain ⟨ga,ka,va,la⟩:=close1_sound (bs:=bs) h hxc h1
  obtain ⟨gb,kb,vb,lb⟩:=closeL_sound xs ka.1 (hxs.mono ka.2.1.gle) h2
  refine ⟨gb,ka.trans kb,.cons (va.mono kb.2.1.gle) vb,fun hcv z hz=>?_⟩
  rcases List.mem_cons.1 hz with rfl | hz
  ·exact la (hcv x (by simp))
  ·exact lb (fun u hu=>hcv u (by simp [hu])) z hz
theorem closeP_sound (h:HR g ow σ w) {x y:AV} {c:Value} (hx:VR g x c) (hc:closeP σ x=some (y,σ1)):∃ g1,ClOut bs g ow σ w σ1 g1∧VR g1 y c:=by
 unfold closeP at hc
 split at hc
 ·rename_i id off
  split at hc
  ·rename_i cs fz ext hσ
   cases hx with
   | @ptr _ _ b c hp=>
    obtain ⟨⟨xs,σ2⟩,h1,hc⟩:=zqH.1 hc
    simp only at hc
    split at hc
    ·rename_i hall
     injection hc with e; injection e with e1 e2; subst e1 e2
     obtain ⟨cv,tag,fr,hb,k1,k2,k3,k4,k5,k6⟩:=h.cel id cs fz ext hσ b c hp
     obtain ⟨hH,hS⟩:=h.freeze (bs:=bs) hσ hp hb (lo:=0) (hi:=cs.length)
     have hf:frz σ id cs.length=σ.set id (.cells cs (max fz cs.length) ext):=by simp only [frz,hσ]
     rw [hf] at h1
     obtain ⟨cv1,tag1,fr1,hb1,l1,l2,l3,l4,l5,l6⟩:=hH.cel id cs _ ext (list_set_at (h.dom id _ hp).1) b c hp
     rw [hb] at hb1; injection hb1 with hb1; injection hb1 with e1 e2 e3; subst e1 e2 e3
     obtain ⟨g2,m2,v2,_⟩:=closeL_sound (bs:=bs) cs (cs:=cv.toList.take cs.length) hH ⟨by simp; omega,fun i x v hx hv=>by
      obtain ⟨_,u,hu,hV⟩:=l4 i x hx
      have hi:i<cs.length:=(zqI.1 hx).1
      rw [List.getElem?_take,if_pos hi,Array.getElem?_toList,hu] at hv
      injection hv with hv; subst hv; exact hV⟩ h1
     refine ⟨g2,ClOut.trans (σ1:=σ.set id (.cells cs (max fz cs.length) ext)) ⟨hH,hS,by simp⟩ m2,?_⟩
     have hcv:∀ (i:Nat) x,xs[i]?=some x→i<cs.length∧∃ v,cv[i]?=some v∧VR g2 x v:=fun i x hx=>by
      have hi:i<xs.length:=(zqI.1 hx).1
      have hlen:=v2.len
      simp only [List.length_take,Array.length_toList] at hlen
      have hi2:i<cs.length:=by omega
      obtain ⟨_,u,hu,_⟩:=l4 i cs[i] (zqF hi2)
      refine ⟨hi2,u,hu,v2.val i x u hx ?_⟩
      rw [List.getElem?_take,if_pos hi2,Array.getElem?_toList]; exact hu
     have hgo:VR g2 (.iptr xs off) (.pointer (some ⟨b,0+off,none⟩)):=.iptr (fun i=>(cv[i]?).getD default) (fun x hx=>zqQ.1 hall x hx) (fun i x hx=>by
      obtain ⟨hi,u,hu,_⟩:=hcv i x hx
      refine m2.2.1.gle.M _ _ _ ?_
      show (if b=b∧0≤0+i∧0+i<cs.length then cv[0+i]? else g.M b (0+i))=_
      rw [if_pos ⟨rfl,by omega,by omega⟩,Nat.zero_add,hu]; rfl) (fun i x hx=>by
      obtain ⟨hi,u,hu,hV⟩:=hcv i x hx
      rw [hu]; exact hV)
     rwa [Nat.zero_add] at hgo
    ·cases hc
  ·cases hc
 ·obtain ⟨g1,k1,v1,_⟩:=close1_sound (bs:=bs) h hx hc
  exact ⟨g1,k1,v1⟩
theorem closePL_sound:∀ (xs:List AV) {g:Gh} {σ σ1:Heap} {ys:List AV} {cs:List Value},HR g ow σ w→VRs g xs cs→closePL σ xs=some (ys,σ1) →
  ∃ g1,ClOut bs g ow σ w σ1 g1∧VRs g1 ys cs
 | [],g,σ,σ1,ys,cs,h,hx,hc=>by
  simp only [closePL] at hc; injection hc with hc; injection hc with e1 e2; subst e1 e2
  exact ⟨g,.refl h,hx⟩
 | x :: xs,g,σ,σ1,ys,cs,h,hx,hc=>by
  simp only [closePL] at hc
  obtain ⟨⟨y,σa⟩,h1,hc⟩:=zqH.1 hc
  obtain ⟨⟨ys',σb⟩,h2,e⟩:=zqG.1 hc
  injection e with e1 e2; subst e1 e2
  obtain ⟨c,cs',rfl,hxc,hxs⟩:=hx.uncons
  obtain ⟨ga,ka,va⟩:=closeP_sound (bs:=bs) h hxc h1
  obtain ⟨gb,kb,vb⟩:=closePL_sound xs ka.1 (hxs.mono ka.2.1.gle) h2
  exact ⟨gb,ka.trans kb,.cons (va.mono kb.2.1.gle) vb⟩
theorem closeA_sound (h:HR g ow σ w) {x y:AV} {c:Value} (hx:VR g x c) (hc:closeA σ x=some (y,σ1)):∃ g1,ClOut bs g ow σ w σ1 g1∧VR g1 y c:=by
 unfold closeA at hc
 split at hc
 ·rename_i cs
  obtain ⟨⟨xs,σ2⟩,h1,e⟩:=zqG.1 hc
  injection e with e1 e2; subst e1 e2
  cases hx with
  | @agg _ vs hl hcv hV=>
   obtain ⟨g1,k1,v1,l1⟩:=closeL_sound (bs:=bs) cs (cs:=vs.toList) h ⟨by simpa using hl,fun i x v hx hv=>hV i x v hx (by simpa using hv)⟩ h1
   exact ⟨g1,k1,.agg (by have:=v1.len; simpa using this) (l1 hcv) fun i x v hx hv=>v1.val i x v hx (by simpa using hv)⟩
 ·rename_i f cs
  obtain ⟨⟨xs,σ2⟩,h1,e⟩:=zqG.1 hc
  injection e with e1 e2; subst e1 e2
  cases hx with
  | @func _ _ vs hl hV=>
   obtain ⟨g1,k1,v1⟩:=closePL_sound (bs:=bs) cs (cs:=vs.toList) h ⟨by simpa using hl,fun i x v hx hv=>hV i x v hx (by simpa using hv)⟩ h1
   exact ⟨g1,k1,.func (by have:=v1.len; simpa using this) fun i x v hx hv=>v1.val i x v hx (by simpa using hv)⟩
 ·rename_i f cs
  obtain ⟨⟨xs,σ2⟩,h1,e⟩:=zqG.1 hc
  injection e with e1 e2; subst e1 e2
  cases hx with
  | @meth _ _ vs hl hV=>
   obtain ⟨g1,k1,v1⟩:=closePL_sound (bs:=bs) cs (cs:=vs.toList) h ⟨by simpa using hl,fun i x v hx hv=>hV i x v hx (by simpa using hv)⟩ h1
   exact ⟨g1,k1,.meth (by have:=v1.len; simpa using this) fun i x v hx hv=>v1.val i x v hx (by simpa using hv)⟩
 ·obtain ⟨g1,k1,v1,_⟩:=close1_sound (bs:=bs) h hx hc
  exact ⟨g1,k1,v1⟩
theorem eqF_sound {cs ds:List AV} {xs ys:Array Value} (hl1:cs.length=xs.size) (hc1:∀ x∈cs,x.cellv=true) (hV1:∀ (i:Nat) x v,cs[i]?=some x→xs[i]?=some v→VR g x v)
  (hl2:ds.length=ys.size) (hc2:∀ x∈ds,x.cellv=true) (hV2:∀ (i:Nat) x v,ds[i]?=some x→ys[i]?=some v→VR g x v) (d:Nat) :
  ∀ (fs:List Field) (ks:List Nat) (i:Nat) (r:Bool),scalF P i fs=some ks→eqcs ks (cs.drop i) (ds.drop i)=some r→(Op.eqFields (d+1) xs ys fs).run P w=.ok r w
 | [],ks,i,r,hf,hr=>by
  simp only [scalF] at hf; injection hf with hf; subst hf
  generalize cs.drop i=a at hr
  generalize ds.drop i=b at hr
  cases a <;> cases b <;> simp [eqcs] at hr
  subst hr
  simp [Op.eqFields]
 | f :: fs,ks,i,r,hf,hr=>by
  simp only [scalF] at hf
  split at hf
  ·rename_i hcond
   obtain ⟨rfl,hnm,hsz,hag⟩:=hcond
   obtain ⟨k0,hk0,hf⟩:=zqH.1 hf
   obtain ⟨ks',hks,rfl⟩:=zqG.1 hf
   have hi1:f.offset<cs.length:=by
    rcases Nat.lt_or_ge f.offset cs.length with h | h
    ·exact h
    ·rw [List.drop_of_length_le h] at hr
     cases hd:ds.drop f.offset <;> rw [hd] at hr <;> simp [eqcs] at hr
   have hi2:f.offset<ds.length:=by
    rcases Nat.lt_or_ge f.offset ds.length with h | h
    ·exact h
    ·rw [List.drop_of_length_le h] at hr
     rw [zqM hi1] at hr
     simp [eqcs] at hr
   have w1:window cs f.offset 1=some [cs[f.offset]]:=by
    unfold window; rw [if_pos (by omega),zqM hi1]; rfl
   have w2:window ds f.offset 1=some [ds[f.offset]]:=by
    unfold window; rw [if_pos (by omega),zqM hi2]; rfl
   obtain ⟨u1,hr1,hv1⟩:=run_part hl1 hc1 hV1 hsz hag w1 (v:=cs[f.offset]) rfl w
   obtain ⟨u2,hr2,hv2⟩:=run_part hl2 hc2 hV2 hsz hag w2 (v:=ds[f.offset]) rfl w
   rw [zqM hi1,zqM hi2] at hr
   have key:∀ q r',(Op.equalIn (d+1) f.type u1 u2).run P w=.ok q w→eqcs ks' (cs.drop (f.offset+1)) (ds.drop (f.offset+1))=some r'→(q && r')=r→(Op.eqFields (d+1) xs ys (f :: fs)).run P w=.ok r w:=by
    intro q r' hq hr' hqr
    have ih:=eqF_sound hl1 hc1 hV1 hl2 hc2 hV2 d fs ks' (f.offset+1) r' hks hr'
    subst hqr
    cases q
    ·simp [Op.eqFields,hnm,hr1,hr2,hq]
    ·simp [Op.eqFields,hnm,hr1,hr2,hq,ih]
   generalize cs[f.offset]=c at *
   generalize ds[f.offset]=e at *
   unfold scalK at hk0
   split at hk0
   ·rename_i k3 hu
    injection hk0 with hk0; subst hk0
    cases hv1 <;> try (cases hv2 <;> simp [eqcs] at hr; done)
    rename_i k a
    cases hv2 <;> try (simp [eqcs] at hr; done)
    rename_i k2 b
    simp only [eqcs] at hr
    split at hr
    ·rename_i hk; subst hk
     obtain ⟨r',hr',e⟩:=zqG.1 hr
     exact key _ _ (run_equalIn_int w d f.type k k3 a b hu) hr' e
    ·cases hr
   ·rename_i hu
    injection hk0 with hk0; subst hk0
    cases hv1 <;> try (cases hv2 <;> simp [eqcs] at hr; done)
    rename_i a
    cases hv2 <;> try (simp [eqcs] at hr; done)
    rename_i b
    simp only [eqcs] at hr
    obtain ⟨r',hr',e⟩:=zqG.1 hr
    exact key _ _ (run_equalIn_bool w d f.type a b hu) hr' e
   ·rename_i hu
    injection hk0 with hk0; subst hk0
    cases hv1 <;> try (cases hv2 <;> simp [eqcs] at hr; done)
    rename_i a
    cases hv2 <;> try (simp [eqcs] at hr; done)
    rename_i b
    simp only [eqcs] at hr
    obtain ⟨r',hr',e⟩:=zqG.1 hr
    exact key _ _ (run_equalIn_string w d f.type a b hu) hr' e
   ·cases hk0
  ·cases hf
theorem s_eqag (h:HR g ow σ w) {neg:Bool} {op:BinOp} (hop:op=if neg then .neq else .eql) {t:TypeId} {ks:List Nat} (ht:scalT P t=some ks) {ox oy:Operand} {x y v:AV} {cx cy:Value} (hx:VR g x cx) (hy:VR g y cy)
  (hs:eqagV neg ks x y=some v):OpOut bs g ow σ w (Sem.run P (do pure (Next.value (← (do eqGuard op t ox oy cx cy; binOp op t cx cy)))) w) v σ:=by
 unfold scalT at ht
 split at ht
 ·rename_i fs hu
  split at ht
  ·rename_i hc
   cases hx <;> try (cases hy <;> simp [eqagV] at hs; done)
   rename_i cs vs hl1 hc1 hV1
   cases hy <;> try (simp [eqagV] at hs; done)
   rename_i ds us hl2 hc2 hV2
   simp only [eqagV] at hs
   obtain ⟨r,hr,rfl⟩:=zqG.1 hs
   have hF:=eqF_sound (P:=P) (w:=w) hl1 hc1 hV1 hl2 hc2 hV2 9998 fs.toList ks 0 r ht (by simpa using hr)
   have hfo:P.fieldsOf t=fs:=by simp only [Program.fieldsOf,hu]
   have hE:(Op.equalIn 10000 t (.agg vs) (.agg us)).run P w=.ok r w:=by
    rw [run_equalIn_agg w 9999 t vs us (by rw [hfo]; exact hu) hc.1,hfo]; exact hF
   refine OpOut.pure h (cv:=.bool (neg != r)) ?_ (.bool _)
   cases neg <;> simp at hop <;> subst hop
   ·simp only [Sem.run_bind,run_eqGuard_agg w _ t ox oy vs us hc.2,Result.andThen_ok,run_eql_struct,hE,Sem.run_pure]; simp
   ·simp only [Sem.run_bind,run_eqGuard_agg w _ t ox oy vs us hc.2,Result.andThen_ok,run_neq_struct,hE,Sem.run_pure]; simp
  ·cases ht
 ·cases ht
theorem HR.setc (h:HR g ow σ w) {id fz:Nat} {ext:Bool} {cs ys:List AV} (hσ:σ[id]?=some (.cells cs fz ext)) (hl:ys.length=cs.length) (hc:∀ y∈ys,y.clo1=true)
  (hv:∀ b c,g.φ id=some (b,c)→∀ cv tag fr,w.heap[b]?=some (.cells cv tag fr)→∀ (i:Nat) y,ys[i]?=some y→∃ v,cv[i]?=some v∧VR g y v) :
  HR g ow (σ.set id (.cells ys fz ext)) w∧St bs g ow σ w g ow (σ.set id (.cells ys fz ext)) w:=by
 have hid:id<σ.length:=(zqI.1 hσ).1
 have hσne:∀ j,j≠id→(σ.set id (.cells ys fz ext))[j]?=σ[j]?:=fun j hj=>list_set_ne hj
 refine ⟨⟨h.mem,fun j x hx=>by simpa using h.dom j x hx,fun j n x hx=>by simpa using h.domψ j n x hx,?_,?_,?_,?_,?_,h.pin⟩,?_⟩
 ·intro j cs2 fz2 ext2 hσ2 b2 c2 hp2
  by_cases e:j=id
  ·subst e
   rw [list_set_at hid] at hσ2; injection hσ2 with hσ2; injection hσ2 with e1 e2 e3; subst e1 e2 e3
   obtain ⟨cv,tag,fr,k0,k1,k2,k3,k4,k5,k6⟩:=h.cel j cs fz ext hσ b2 c2 hp2
   refine ⟨cv,tag,fr,k0,by omega,k2,fun e=>by rw [hl]; exact k3 e,fun i x hx=>?_,k5,k6⟩
   exact ⟨clo1_cellv (hc x (zqR hx)),hv b2 c2 hp2 cv tag fr k0 i x hx⟩
  ·rw [hσne j e] at hσ2
   exact h.cel j cs2 fz2 ext2 hσ2 b2 c2 hp2
 ·intro j n s hσ2
  have e:j≠id:=fun e=>by subst e; rw [list_set_at hid] at hσ2; injection hσ2 with hσ2; cases hσ2
  rw [hσne j e] at hσ2
  exact h.tk j n s hσ2
 ·intro j n s hσ2
  have e:j≠id:=fun e=>by subst e; rw [list_set_at hid] at hσ2; injection hσ2 with hσ2; cases hσ2
  rw [hσne j e] at hσ2
  exact h.tle j n s hσ2
 ·intro j s2 pos2 hσ2
  have e:j≠id:=fun e=>by subst e; rw [list_set_at hid] at hσ2; injection hσ2 with hσ2; cases hσ2
  rw [hσne j e] at hσ2
  exact h.it j s2 pos2 hσ2
 ·intro j o2 hsp hσ2
  have e:j≠id:=fun e=>by subst e; rw [list_set_at hid] at hσ2; injection hσ2 with hσ2; subst hσ2; cases hsp
  rw [hσne j e] at hσ2
  exact h.bd j o2 hsp hσ2
 ·refine ⟨.refl g,rfl,rfl,rfl,Nat.le_refl _,fun b' hb' ho=>⟨rfl,ho⟩,by simp,fun _ _ hh=>hh,fun _ _ _ _=>rfl,fun j hj hjl cs2 fz2 ext2 hσ2=>?_⟩
  by_cases e:j=id
  ·subst e
   rw [list_set_at hid] at hσ2; injection hσ2 with hσ2; injection hσ2 with e1 e2 e3; subst e1 e2 e3
   exact ⟨cs,fz,ext,hσ,fun i x hx=>.inl (hc x (zqR hx))⟩
  ·rw [hσne j e] at hσ2
   exact ⟨cs2,fz2,ext2,hσ2,fun i x hx=>.inr ⟨hx,fun _ _ _=>rfl⟩⟩
theorem closeX_sound (h:HR g ow σ w) {x:AV} {c:Value} (hx:VR g x c):∃ g1,HR g1 ow (closeX σ x) w∧St bs g ow σ w g1 ow (closeX σ x) w:=by
 have hno:∃ g1,HR g1 ow σ w∧St bs g ow σ w g1 ow σ w:=⟨g,h,.refl ..⟩
 unfold closeX
 split
 ·rename_i id off len sz ag
  split
  ·rename_i cs fz0 ext0 hσ
   split
   ·exact hno
   ·split
    ·rename_i ys σ1 hcl
     split
     ·rename_i cs1 fz1 ext1 hσ1
      split
      ·rename_i hall
       cases hx with
       | @sl _ _ _ _ _ b c cc hp hcc hs hl=>
        obtain ⟨cv,tag,fr,k0,k1,k2,k3,k4,k5,k6⟩:=h.cel id cs fz0 ext0 hσ b c hp
        obtain ⟨g1,m1,v1,_⟩:=closeL_sound (bs:=bs) cs (cs:=cv.toList.take cs.length) h ⟨by simp; omega,fun i x v hx hv=>by
         obtain ⟨_,u,hu,hV⟩:=k4 i x hx
         have hi:i<cs.length:=(zqI.1 hx).1
         rw [List.getElem?_take,if_pos hi,Array.getElem?_toList,hu] at hv
         injection hv with hv; subst hv; exact hV⟩ hcl
        have hyl:ys.length=cs.length:=by have:=v1.len; simp only [List.length_take,Array.length_toList] at this; omega
        obtain ⟨hH,hS⟩:=m1.1.setc (bs:=bs) hσ1 (ys:=ys) hall.2.symm (fun y hy=>zqQ.1 hall.1 y hy) (fun b2 c2 hp2 cv2 tag2 fr2 hb2 i y hy=>by
         rw [m1.2.1.gle.φ _ _ hp] at hp2; injection hp2 with hp2; injection hp2 with e1 e2; subst e1 e2
         rw [k0] at hb2; injection hb2 with hb2; injection hb2 with e1 e2 e3; subst e1 e2 e3
         have hi:i<cs.length:=by have:=(zqI.1 hy).1; omega
         obtain ⟨_,u,hu,_⟩:=k4 i cs[i] (zqF hi)
         exact ⟨u,hu,v1.val i y u hy (by rw [List.getElem?_take,if_pos hi,Array.getElem?_toList]; exact hu)⟩)
        exact ⟨g1,hH,m1.2.1.trans hS⟩
      ·exact hno
     ·exact hno
    ·exact hno
  ·exact hno
 ·exact hno
theorem closeS_sound (h:HR g ow σ w) (x:AV):HR g ow (closeS σ x) w∧St bs g ow σ w g ow (closeS σ x) w:=by
 have hno:HR g ow σ w∧St bs g ow σ w g ow σ w:=⟨h,.refl ..⟩
 unfold closeS
 split
 ·rename_i id off len sz ag
  split
  ·rename_i cs fz ext hσ
   split
   ·rename_i hc
    refine h.setc (bs:=bs) hσ (by simp) (fun y hy=>?_) (fun b c hp cv tag fr hb i y hy=>?_)
    ·obtain ⟨z,hz,rfl⟩:=List.mem_map.1 hy
     rw [nrm_clo1]; exact zqQ.1 hc.2 z hz
    ·obtain ⟨hr⟩:=(⟨(Rd.cel h hσ hp).nrm⟩:PLift _)
     obtain ⟨_,v,hv,hV⟩:=hr i y hy
     rw [Nat.zero_add] at hv
     rw [cell_heap hb] at hv
     exact ⟨v,hv,hV⟩
   ·exact hno
  ·exact hno
 ·exact hno
theorem s_appendC (h:HR g ow σ w) {t u ty e:TypeId} {i:TypeInfo} (ht:P.underlying t=some (.slice e)) (hu:P.underlying u=some .string∨∃ e',P.underlying u=some (.slice e')) (hi:P.info? e=some i)
  {sz:Nat} {ag mt:Bool} (hsz:i.size=sz) {zs:List AV} (hz:zeroT P e=some zs) (hzl:zs.length=sz) {s x v:AV} {σ':Heap} {cs cx:Value} (hs:VR g s cs) (hx:VR g x cx)
  (hap:appendC σ sz ag i.bytes mt s x=some (v,σ')):OpOut bs g ow σ w (Sem.run P (do pure (Next.value (← Builtin.append_ #[t,u] ty #[cs,cx]))) w) v σ':=by
 unfold appendC at hap
 split at hap
 ·exact s_append h ht hu hi hsz hz hzl hs hx hap
 ·obtain ⟨g1,hH,hS⟩:=closeX_sound (bs:=bs) h hx
  obtain ⟨hH3,hS3⟩:=closeS_sound (bs:=bs) hH s
  obtain ⟨g',ow',w',cv',hr,hV,hH2,hS2⟩:=s_append (bs:=bs) hH3 ht hu hi hsz hz hzl (hs.mono hS.gle) (hx.mono hS.gle) hap
  exact ⟨g',ow',w',cv',hr,hV,hH2,(hS.trans hS3).trans hS2⟩
end
end Go.Mach
end
section
namespace Go.Mach
open Go.RowKit
theorem HR.spTo {bs:Nat} {g:Gh} {ow ow':Nat→Option Nat} {σ:Heap} {w w':World} (h:HR g ow σ w) {id b c:Nat} {v:Value} (hp:g.φ id=some (b,c))
  (hob:ow b=some id) (hMb:∀ i,g.M b i=none) (hog:∀ k,v.ownBlock=some k→ow k=some id∧∀ i,g.M k i=none)
  (hs:Same w w') (hsz:w.heap.size≤w'.heap.size) (hfr:∀ k,k<w.heap.size→k≠b→some k≠v.ownBlock→w'.heap[k]?=w.heap[k]?) (how:∀ k,k<w.heap.size→ow' k=ow k)
  (o':AObj) (ho:o'=.dead∨(o'.sp=true∧SpAt g ow' id b o' w')) :
  HR g ow' (σ.set id o') w'∧St bs g ow σ w g ow' (σ.set id o') w':=by
 have hid:id<σ.length:=(h.dom id _ hp).1
 have hme:(σ.set id o')[id]?=some o':=by simp [hid]
 have hoth:∀ j,j≠id→(σ.set id o')[j]?=σ[j]?:=fun j hj=>by rw [List.getElem?_set,if_neg (fun e=>hj e.symm)]
 have hsame:∀ k j,k<w.heap.size→ow k=some j→j≠id→w'.heap[k]?=w.heap[k]?:=fun k j hk hj0 hne=>
  hfr k hk (fun e=>by subst e; rw [hob] at hj0; injection hj0 with hj0; exact hne hj0.symm) (fun e=>by have:=(hog k e.symm).1; rw [this] at hj0; injection hj0 with hj0; exact hne hj0.symm)
 have hnone:∀ k,k<w.heap.size→ow k=none→w'.heap[k]?=w.heap[k]?:=fun k hk hj0=>
  hfr k hk (fun e=>by subst e; rw [hob] at hj0; cases hj0) (fun e=>by have:=(hog k e.symm).1; rw [this] at hj0; cases hj0)
 have hcellne:∀ {j cs fz ext},(σ.set id o')[j]?=some (.cells cs fz ext)→j≠id:=fun hc e=>by
  subst e; rw [hme] at hc; injection hc with hc
  rcases ho with rfl | ⟨hsp,_⟩
  ·cases hc
  ·subst hc; cases hsp
 have htokne:∀ {j n s},(σ.set id o')[j]?=some (.tok n s)→j≠id:=fun hc e=>by
  subst e; rw [hme] at hc; injection hc with hc
  rcases ho with rfl | ⟨hsp,_⟩
  ·cases hc
  ·subst hc; cases hsp
 have hitne:∀ {j s n},(σ.set id o')[j]?=some (.iter s n)→j≠id:=fun hc e=>by
  subst e; rw [hme] at hc; injection hc with hc
  rcases ho with rfl | ⟨hsp,_⟩
  ·cases hc
  ·subst hc; cases hsp
 refine ⟨⟨fun k i u hm=>?_,fun j x hx=>⟨by simpa using (h.dom j x hx).1,Nat.lt_of_lt_of_le (h.dom j x hx).2 hsz⟩,fun j n x hx=>by simpa using h.domψ j n x hx,?_,?_,?_,?_,?_,h.pin.of fun k hk hn=>⟨hnone k hk hn,(how k hk).trans hn⟩⟩,?_⟩
 ·refine (cell_congr (hfr k (h.lt hm) (fun e=>by subst e; rw [hMb] at hm; cases hm) (fun e=>by rw [(hog k e.symm).2] at hm; cases hm)) i).trans (h.mem k i u hm)
 ·intro j cs fz ext hc k c' hp'
  have hj:=hcellne hc
  rw [hoth j hj] at hc
  obtain ⟨cv,tag,fr,k0,k1,k2,k3,k4,k5,k6⟩:=h.cel j cs fz ext hc k c' hp'
  have hk:=(h.dom j _ hp').2
  exact ⟨cv,tag,fr,(hsame k j hk k5 hj).trans k0,k1,k2,k3,k4,(how k hk).trans k5,k6⟩
 ·intro j n s hc k q c' hp'
  have hj:=htokne hc
  rw [hoth j hj] at hc
  obtain ⟨cv,tag,fr,k0,k1,k2,k3,k4⟩:=h.tk j n s hc k q c' hp'
  have hk:k<w.heap.size:=(zqN.1 k0).1
  exact ⟨cv,tag,fr,(hsame k j hk k3 hj).trans k0,k1,k2,(how k hk).trans k3,k4⟩
 ·intro j n s hc m x hp'
  have hj:=htokne hc
  rw [hoth j hj] at hc
  exact h.tle j n s hc m x hp'
 ·intro j s pos hc k c' hp'
  have hj:=hitne hc
  rw [hoth j hj] at hc
  obtain ⟨k0,k1⟩:=h.it j s pos hc k c' hp'
  have hk:=(h.dom j _ hp').2
  exact ⟨(hsame k j hk k1 hj).trans k0,(how k hk).trans k1⟩
 ·intro j o2 hsp hc k c' hp'
  by_cases hj:j=id
  ·subst hj
   rw [hp] at hp'; injection hp' with hp'; injection hp' with e1 e2; subst e1 e2
   rw [hme] at hc; injection hc with hc
   subst hc
   rcases ho with rfl | ⟨_,hB⟩
   ·cases hsp
   ·exact hB
  ·rw [hoth j hj] at hc
   exact (h.bd j o2 hsp hc k c' hp').keep (.refl _) fun b' ho' hb'=>⟨hsame b' j hb' ho' hj,(how b' hb').trans ho',fun i hi=>hi⟩
 ·refine ⟨.refl g,hs.os,hs.tape,hs.output,hsz,fun k hk hno=>⟨hnone k hk hno,(how k hk).trans hno⟩,by simp,fun _ _ hh=>hh,fun _ _ _ _=>rfl,fun j _ hj cs fz ext hc=>?_⟩
  have hne:=hcellne hc
  rw [hoth j hne] at hc
  refine ⟨cs,fz,ext,hc,fun i x hx=>.inr ⟨hx,fun k c' hp'=>?_⟩⟩
  obtain ⟨cv,tag,fr,k0,k1,k2,k3,k4,k5,k6⟩:=h.cel j cs fz ext hc k c' hp'
  exact cell_congr (hsame k j (h.dom j _ hp').2 k5 hne) i
section
variable {P:Program} {bs:Nat} {g:Gh} {ow:Nat→Option Nat} {σ σ1 σ':Heap} {w:World}
theorem eqcs_len:∀ {ks:List Nat} {cs ds:List AV} {r:Bool},eqcs ks cs ds=some r→ks.length=cs.length∧ks.length=ds.length
 | [],cs,ds,r,h=>by cases cs <;> cases ds <;> simp [eqcs] at h ⊢
 | k :: ks,cs,ds,r,h=>by
  unfold eqcs at h
  split at h <;> try (cases h; done)
  ·rename_i e; cases e
  all_goals
   rename_i e; injection e with e1 e2; subst e1 e2
  ·split at h
   ·obtain ⟨r',h,_⟩:=zqG.1 h
    have:=eqcs_len h; simp; omega
   ·cases h
  ·obtain ⟨r',h,_⟩:=zqG.1 h
   have:=eqcs_len h; simp; omega
  ·obtain ⟨r',h,_⟩:=zqG.1 h
   have:=eqcs_len h; simp; omega
def Scal (v:Value):Prop:=(∃ k a,v=.int k a)∨(∃ b,v=.bool b)∨∃ s,v=.string s
theorem Scal.bits {v:Value} (h:Scal v) (n:Nat):Instr.sameBits n v v=true:=by
 rcases h with ⟨k,a,rfl⟩ | ⟨b,rfl⟩ | ⟨s,rfl⟩ <;> simp [Instr.sameBits,MapKept.bytes_beq]
theorem bytes_lbeq {a b:ByteArray} (h:(a.toList == b.toList)=true):a=b:=by
 rw [←beq_toListBytes] at h
 exact (MapKept.bytes_beq a b).1 h
theorem eqcs_true:∀ {ks:List Nat} {cs ds:List AV} {r:Bool} {xs ys:List Value},eqcs ks cs ds=some r→VRs g cs xs→VRs g ds ys→(∀ x∈xs,Scal x)∧(r=true→xs=ys)
 | [],cs,ds,r,xs,ys,h,hx,hy=>by
  cases cs <;> cases ds <;> simp [eqcs] at h
  rw [hx.nil_left,hy.nil_left]; simp
 | k :: ks,cs,ds,r,xs,ys,h,hx,hy=>by
  unfold eqcs at h
  split at h <;> try (cases h; done)
  ·rename_i e; cases e
  all_goals
   rename_i e; injection e with e1 e2; subst e1 e2
   obtain ⟨c,cs',rfl,h1,h2⟩:=hx.uncons
   obtain ⟨d,ds',rfl,h3,h4⟩:=hy.uncons
   cases h1; cases h3
  ·split at h
   ·rename_i hk; subst hk
    obtain ⟨r',h',rfl⟩:=zqG.1 h
    obtain ⟨i1,i2⟩:=eqcs_true h' h2 h4
    refine ⟨fun x hx=>?_,fun hr=>?_⟩
    ·rcases List.mem_cons.1 hx with rfl | hx
     ·exact .inl ⟨_,_,rfl⟩
     ·exact i1 x hx
    ·simp only [zqL,beq_iff_eq] at hr
     rw [hr.1,i2 hr.2]
   ·cases h
  ·obtain ⟨r',h',rfl⟩:=zqG.1 h
   obtain ⟨i1,i2⟩:=eqcs_true h' h2 h4
   refine ⟨fun x hx=>?_,fun hr=>?_⟩
   ·rcases List.mem_cons.1 hx with rfl | hx
    ·exact .inr (.inl ⟨_,rfl⟩)
    ·exact i1 x hx
   ·simp only [zqL,beq_iff_eq] at hr
    rw [hr.1,i2 hr.2]
  ·obtain ⟨r',h',rfl⟩:=zqG.1 h
   obtain ⟨i1,i2⟩:=eqcs_true h' h2 h4
   refine ⟨fun x hx=>?_,fun hr=>?_⟩
   ·rcases List.mem_cons.1 hx with rfl | hx
    ·exact .inr (.inr ⟨_,rfl⟩)
    ·exact i1 x hx
   ·rw [zqL] at hr
    rw [bytes_lbeq hr.1,i2 hr.2]
theorem key_cells {ag:Bool} {k:AV} {ck:Value} {c:List AV} (hV:VR g k ck) (hc:keyC ag k=some c) :
  (ag=true∧∃ vs,ck=.agg vs∧c.length=vs.size∧(∀ x∈c,x.cellv=true)∧(∀ (i:Nat) x v,c[i]?=some x→vs[i]?=some v→VR g x v))∨(ag=false∧c=[k]):=by
 unfold keyC at hc
 split at hc
 ·split at hc
  ·rename_i e
   injection hc with hc; subst hc
   cases hV with
   | agg hl hcv hV=>exact .inl ⟨e,_,rfl,hl,hcv,hV⟩
  ·cases hc
 ·split at hc
  ·cases hc
  ·rename_i e
   injection hc with hc; subst hc
   exact .inr ⟨by simpa using e,rfl⟩
theorem agg_VRs {c:List AV} {vs:Array Value} (hl:c.length=vs.size) (hV:∀ (i:Nat) x v,c[i]?=some x→vs[i]?=some v→VR g x v):VRs g c vs.toList:=⟨by simpa using hl,fun i x v hx hv=>hV i x v hx (by simpa using hv)⟩
theorem key_same {ag:Bool} {ks:List Nat} {k k':AV} {ck ck':Value} {c c':List AV} (h1:VR g k ck) (h2:VR g k' ck') (hc:keyC ag k=some c) (hc':keyC ag k'=some c') (h:eqcs ks c c'=some true) :
  ck'=ck∧∀ n,Instr.sameBits (n+1) ck ck=true:=by
 rcases key_cells h1 hc with ⟨e,vs,rfl,hl,hcv,hV⟩ | ⟨e,rfl⟩
 ·rcases key_cells h2 hc' with ⟨_,us,rfl,hl',hcv',hV'⟩ | ⟨e',_⟩
  ·obtain ⟨i1,i2⟩:=eqcs_true h (agg_VRs hl hV) (agg_VRs hl' hV')
   have:=i2 rfl
   refine ⟨by rw [Array.toList_inj.1 this],fun n=>?_⟩
   simp only [Instr.sameBits,beq_self_eq_true,Bool.true_and,zqQ]
   intro p hp
   obtain ⟨x,y⟩:=p
   have hxy:x=y:=by
    have:=List.of_mem_zip hp
    obtain ⟨i,hi,e⟩:=zqS hp
    simp at e
    rw [←e.1,←e.2]
   subst hxy
   exact (i1 x (List.of_mem_zip hp).1).bits n
  ·rw [e] at e'; cases e'
 ·rcases key_cells h2 hc' with ⟨e',_⟩ | ⟨_,rfl⟩
  ·rw [e] at e'; cases e'
  ·obtain ⟨i1,i2⟩:=eqcs_true h (xs:=[ck]) (ys:=[ck']) ⟨rfl,fun i x v hx hv=>by cases i <;> simp at hx hv; subst hx hv; exact h1⟩ ⟨rfl,fun i x v hx hv=>by cases i <;> simp at hx hv; subst hx hv; exact h2⟩
   have:=i2 rfl
   injection this with e; subst e
   exact ⟨rfl,fun n=>(i1 _ (by simp)).bits _⟩
theorem run_forIn_ok {α:Type} (f:α→Unit→Sem (ForInStep Unit)):∀ (l:List α),(∀ x∈l,(f x ()).run P w=.ok (.yield ()) w)→(forIn l () f).run P w=.ok () w
 | [],_=>by simp
 | x :: l,h=>by
  rw [List.forIn_cons]
  simp only [Sem.run_bind,h x (by simp),Result.andThen]
  exact run_forIn_ok f l fun y hy=>h y (by simp [hy])
theorem scalF_checks {cs:List AV} {xs:Array Value} (hl1:cs.length=xs.size) (hc1:∀ x∈cs,x.cellv=true) (hV1:∀ (i:Nat) x v,cs[i]?=some x→xs[i]?=some v→VR g x v) (e:Bool) (d:Nat) :
  ∀ (fs : List Field) (ks : List Nat) (i : Nat) (r : Bool), scalF P i fs = some ks → eqcs ks (cs.drop i) (cs.drop i) = some r → ∀ f ∈ fs, f.name ≠ "_" ∧ ∃ u, (part f.type xs f.offset).run P w = .ok u w ∧ (Instr.checkKey e (d + 1) f.type u).run P w = .ok () w
 | [],ks,i,r,hf,hr,f,hm=>by simp at hm
 | f :: fs,ks,i,r,hf,hr,f',hm=>by
  simp only [scalF] at hf
  split at hf
  ·rename_i hcond
   obtain ⟨rfl,hnm,hsz,hag⟩:=hcond
   obtain ⟨k0,hk0,hf⟩:=zqH.1 hf
   obtain ⟨ks',hks,rfl⟩:=zqG.1 hf
   have hi1:f.offset<cs.length:=by
    have:=(eqcs_len hr).1
    simp at this; omega
   have w1:window cs f.offset 1=some [cs[f.offset]]:=by
    unfold window; rw [if_pos (by omega),zqM hi1]; rfl
   obtain ⟨u1,hr1,hv1⟩:=run_part hl1 hc1 hV1 hsz hag w1 (v:=cs[f.offset]) rfl w
   rcases List.mem_cons.1 hm with rfl | hm
   ·refine ⟨hnm,u1,hr1,?_⟩
    unfold Instr.checkKey
    unfold scalK at hk0
    split at hk0
    ·rename_i hu; simp only [Sem.run_bind,run_underlying hu,Result.andThen]; simp
    ·rename_i hu; simp only [Sem.run_bind,run_underlying hu,Result.andThen]; simp
    ·rename_i hu; simp only [Sem.run_bind,run_underlying hu,Result.andThen]; simp
    ·cases hk0
   ·rw [zqM hi1] at hr
    have:∃ r',eqcs ks' (cs.drop (f.offset+1)) (cs.drop (f.offset+1))=some r':=by
     unfold eqcs at hr
     split at hr <;> try (cases hr; done)
     ·rename_i e; cases e
     all_goals
      rename_i e1 e2 e3
      injection e1 with e1 e1'; injection e2 with e2 e2'; injection e3 with e3 e3'
      subst e1' e2'
     ·split at hr
      ·obtain ⟨r',h,_⟩:=zqG.1 hr
       exact ⟨r',by rw [←e3'] at h; exact h⟩
      ·cases hr
     ·obtain ⟨r',h,_⟩:=zqG.1 hr
      exact ⟨r',by rw [←e3'] at h; exact h⟩
     ·obtain ⟨r',h,_⟩:=zqG.1 hr
      exact ⟨r',by rw [←e3'] at h; exact h⟩
    obtain ⟨r',hr'⟩:=this
    exact scalF_checks hl1 hc1 hV1 e d fs ks' (f.offset+1) r' hks hr' f' hm
  ·cases hf
theorem keyT_some {kt:TypeId} {ag:Bool} {ks:List Nat} (h:keyT P kt=some (ag,ks)) :
  (∃ k,P.underlying kt=some (.int k)∧ag=false∧ks=[0])∨(P.underlying kt=some .string∧ag=false∧ks=[2])∨∃ fs,P.underlying kt=some (.struct fs)∧ag=true∧scalT P kt=some ks:=by
 unfold keyT at h
 split at h
 ·rename_i k hu; injection h with h; injection h with e1 e2; exact .inl ⟨k,hu,e1.symm,e2.symm⟩
 ·rename_i hu; injection h with h; injection h with e1 e2; exact .inr (.inl ⟨hu,e1.symm,e2.symm⟩)
 ·rename_i fs hu
  obtain ⟨ks',hks,e⟩:=zqG.1 h
  injection e with e1 e2; subst e1 e2
  exact .inr (.inr ⟨fs,hu,rfl,hks⟩)
 ·cases h
theorem checkKey_sound {kt:TypeId} {ag:Bool} {ks:List Nat} (hk:keyT P kt=some (ag,ks)) {k:AV} {ck:Value} {c:List AV} (hV:VR g k ck) (hc:keyC ag k=some c) (hs:(eqcs ks c c).isSome=true) (e:Bool) :
  (Instr.checkKey e 10000 kt ck).run P w=.ok () w:=by
 show (Instr.checkKey e (9998+1+1) kt ck).run P w=.ok () w
 unfold Instr.checkKey
 rcases keyT_some hk with ⟨i,hu,rfl,rfl⟩ | ⟨hu,rfl,rfl⟩ | ⟨fs,hu,rfl,hks⟩
 ·simp only [Sem.run_bind,run_underlying hu,Result.andThen]; simp
 ·simp only [Sem.run_bind,run_underlying hu,Result.andThen]; simp
 ·rcases key_cells hV hc with ⟨_,vs,rfl,hl,hcv,hVs⟩ | ⟨e',_⟩
  ·simp only [Sem.run_bind,run_underlying hu,Result.andThen]
   unfold scalT at hks
   rw [hu] at hks
   simp only at hks
   split at hks
   ·obtain ⟨r,hr⟩:=Option.isSome_iff_exists.1 hs
    have hall:=scalF_checks (P:=P) (w:=w) hl hcv hVs e 9998 fs.toList ks 0 r hks (by simpa using hr)
    rw [←Array.forIn_toList]
    have:=run_forIn_ok (P:=P) (w:=w) (fun (f:Field) (_:Unit)=>(do
      if f.name ≠ "_" then Instr.checkKey e (9998 + 1) f.type (← part f.type vs f.offset)
      pure (.yield ()):Sem (ForInStep Unit))) fs.toList (fun f hf=>by
     obtain ⟨h1,u,h2,h3⟩:=hall f hf
     simp [h1,h2,h3])
    simp at this ⊢
    rw [this]
   ·cases hks
  ·cases e'
def EntR (g:Gh) (es:List (AV × AV)) (esC:List MapEntry):Prop:=
 es.length=esC.length∧∀ (i:Nat) k v,es[i]?=some (k,v)→∃ e:MapEntry,esC[i]?=some e∧VR g k e.key∧VR g v e.val
theorem EntR.uncons {k v:AV} {es:List (AV × AV)} {esC:List MapEntry} (h:EntR g ((k,v) :: es) esC):∃ e esC',esC=e :: esC'∧VR g k e.key∧VR g v e.val∧EntR g es esC':=by
 cases esC with
 | nil=>have:=h.1; simp at this
 | cons e esC=>
  obtain ⟨e',he,h1,h2⟩:=h.2 0 k v rfl
  simp at he; subst he
  exact ⟨e,esC,rfl,h1,h2,by have:=h.1; simpa using this,fun i k v hi=>by simpa using h.2 (i+1) k v (by simpa using hi)⟩
def FindR (g:Gh) (i:Nat) (es:List (AV × AV)) (esC:List MapEntry) (ck:Value):Option (Nat × AV)→Option (Nat × Value)→Prop
 | none,none=>True
 | some (j,v),some (j',cv)=>j=j'∧VR g v cv∧∃ n e,j=i+n∧n<es.length∧esC[n]?=some e∧e.key=ck∧∀ d,Instr.sameBits (d+1) ck ck=true
 | _,_=>False
theorem FindR.next {i:Nat} {x:AV × AV} {es:List (AV × AV)} {e:MapEntry} {esC:List MapEntry} {ck:Value} {q q'} (h:FindR g (i+1) es esC ck q q'):FindR g i (x :: es) (e :: esC) ck q q':=by
 cases q <;> cases q' <;> simp only [FindR] at h ⊢
 obtain ⟨h1,h2,n,e',h3,h4,h5,h6⟩:=h
 exact ⟨h1,h2,n+1,e',by omega,by simp; omega,by simpa using h5,h6⟩
theorem findNow_sound {d:TypeDesc} {ag:Bool} {ks:List Nat} {k:AV} {ck:Value} {c:List AV} (hV:VR g k ck) (hc:keyC ag k=some c)
  (hstep:∀ (k':AV) (ck':Value) (c':List AV) (r:Bool),VR g k' ck'→keyC ag k'=some c'→eqcs ks c c'=some r→Instr.sameNow d ck ck'=some r) :
  ∀ (es:List (AV × AV)) (esC:List MapEntry) (i:Nat) (q:Option (Nat × AV)),EntR g es esC→mfind ag ks c i es=some q→∃ q',Instr.findNow d ck esC i=some q'∧FindR g i es esC ck q q'
 | [],esC,i,q,h,hm=>by
  have:esC=[]:=by have:=h.1; simpa using this.symm
  subst this
  simp only [mfind] at hm; injection hm with hm; subst hm
  exact ⟨none,rfl,trivial⟩
 | (k',v') :: es,esC,i,q,h,hm=>by
  obtain ⟨e,esC',rfl,h1,h2,h3⟩:=h.uncons
  simp only [mfind] at hm
  obtain ⟨c',hc',hm⟩:=zqH.1 hm
  obtain ⟨b,hb,hm⟩:=zqH.1 hm
  have hs:=hstep k' e.key c' b h1 hc' hb
  cases b with
  | true=>
   simp only at hm; injection hm with hm; subst hm
   obtain ⟨e1,e2⟩:=key_same hV h1 hc hc' hb
   exact ⟨some (i,e.val),by simp only [Instr.findNow,hs],rfl,h2,0,e,rfl,by simp,rfl,e1,e2⟩
  | false=>
   simp only at hm
   obtain ⟨q',hq,hr⟩:=findNow_sound hV hc hstep es esC' (i+1) q h3 hm
   exact ⟨q',by simp only [Instr.findNow,hs]; exact hq,hr.next⟩
theorem findAsk_sound {kt:TypeId} {ag:Bool} {ks:List Nat} {k:AV} {ck:Value} {c:List AV} (hV:VR g k ck) (hc:keyC ag k=some c)
  (hstep:∀ (k':AV) (ck':Value) (c':List AV) (r:Bool),VR g k' ck'→keyC ag k'=some c'→eqcs ks c c'=some r→(Op.equal kt ck ck').run P w=.ok r w) :
  ∀ (es:List (AV × AV)) (esC:List MapEntry) (i:Nat) (q:Option (Nat × AV)),EntR g es esC→mfind ag ks c i es=some q→∃ q',(Instr.findAsking kt ck esC i).run P w=.ok q' w∧FindR g i es esC ck q q'
 | [],esC,i,q,h,hm=>by
  have:esC=[]:=by have:=h.1; simpa using this.symm
  subst this
  simp only [mfind] at hm; injection hm with hm; subst hm
  exact ⟨none,rfl,trivial⟩
 | (k',v') :: es,esC,i,q,h,hm=>by
  obtain ⟨e,esC',rfl,h1,h2,h3⟩:=h.uncons
  simp only [mfind] at hm
  obtain ⟨c',hc',hm⟩:=zqH.1 hm
  obtain ⟨b,hb,hm⟩:=zqH.1 hm
  have hs:=hstep k' e.key c' b h1 hc' hb
  cases b with
  | true=>
   simp only at hm; injection hm with hm; subst hm
   obtain ⟨e1,e2⟩:=key_same hV h1 hc hc' hb
   exact ⟨some (i,e.val),by simp [Instr.findAsking,hs],rfl,h2,0,e,rfl,by simp,rfl,e1,e2⟩
  | false=>
   simp only at hm
   obtain ⟨q',hq,hr⟩:=findAsk_sound hV hc hstep es esC' (i+1) q h3 hm
   exact ⟨q',by simp [Instr.findAsking,hs,hq],hr.next⟩
theorem findKey_sound {kt:TypeId} {ag:Bool} {ks:List Nat} (hk:keyT P kt=some (ag,ks)) {k:AV} {ck:Value} {c:List AV} (hV:VR g k ck) (hc:keyC ag k=some c) {es:List (AV × AV)} {esC:List MapEntry} {q:Option (Nat × AV)}
  (he:EntR g es esC) (hm:mfind ag ks c 0 es=some q):∃ q',(Instr.findKey kt ck esC).run P w=.ok q' w∧FindR g 0 es esC ck q q':=by
 rcases keyT_some hk with ⟨i,hu,rfl,rfl⟩ | ⟨hu,rfl,rfl⟩ | ⟨fs,hu,rfl,hks⟩
 ·obtain ⟨q',h1,h2⟩:=findNow_sound (d:=.int i) hV hc (fun k' ck' c' r hV' hc' hr=>by
   rcases key_cells hV hc with ⟨e,_⟩ | ⟨_,rfl⟩
   ·cases e
   rcases key_cells hV' hc' with ⟨e,_⟩ | ⟨_,rfl⟩
   ·cases e
   cases hV <;> try (simp [eqcs] at hr; done)
   cases hV' <;> try (simp [eqcs] at hr; done)
   simp only [eqcs] at hr
   split at hr
   ·rename_i e; subst e
    simp at hr; subst hr
    simp [Instr.sameNow]
   ·cases hr) es esC 0 q he hm
  exact ⟨q',MapKept.run_findKey hu h1,h2⟩
 ·obtain ⟨q',h1,h2⟩:=findNow_sound (d:=.string) hV hc (fun k' ck' c' r hV' hc' hr=>by
   rcases key_cells hV hc with ⟨e,_⟩ | ⟨_,rfl⟩
   ·cases e
   rcases key_cells hV' hc' with ⟨e,_⟩ | ⟨_,rfl⟩
   ·cases e
   cases hV <;> try (simp [eqcs] at hr; done)
   cases hV' <;> try (simp [eqcs] at hr; done)
   simp only [eqcs,Option.map_some,Bool.and_true] at hr
   injection hr with hr; subst hr
   simp [Instr.sameNow,beq_toListBytes]) es esC 0 q he hm
  exact ⟨q',MapKept.run_findKey hu h1,h2⟩
 ·have hstep:∀ (k':AV) (ck':Value) (c':List AV) (r:Bool),VR g k' ck'→keyC true k'=some c'→eqcs ks c c'=some r→(Op.equal kt ck ck').run P w=.ok r w:=by
   intro k' ck' c' r hV' hc' hr
   rcases key_cells hV hc with ⟨_,vs,rfl,hl,hcv,hVs⟩ | ⟨e',_⟩
   ·rcases key_cells hV' hc' with ⟨_,us,rfl,hl',hcv',hVs'⟩ | ⟨e',_⟩
    ·unfold scalT at hks
     rw [hu] at hks
     simp only at hks
     split at hks
     ·rename_i hcd
      have hF:=eqF_sound (P:=P) (w:=w) hl hcv hVs hl' hcv' hVs' 9998 fs.toList ks 0 r hks (by simpa using hr)
      have hfo:P.fieldsOf kt=fs:=by simp only [Program.fieldsOf,hu]
      show (Op.equalIn 10000 kt (.agg vs) (.agg us)).run P w=.ok r w
      rw [run_equalIn_agg w 9999 kt vs us (by rw [hfo]; exact hu) hcd.1,hfo]; exact hF
     ·cases hks
    ·cases e'
   ·cases e'
  obtain ⟨q',h1,h2⟩:=findAsk_sound (P:=P) (w:=w) hV hc hstep es esC 0 q he hm
  refine ⟨q',?_,h2⟩
  cases esC with
  | nil=>
   simp only [Instr.findKey,Sem.run_bind,run_underlying hu,Result.andThen,Instr.findNow]
   simpa [Instr.findAsking] using h1
  | cons e esC=>
   have:Instr.findNow (.struct fs) ck (e :: esC) 0=none:=by
    simp only [Instr.findNow,Instr.sameNow]
   simp only [Instr.findKey,Sem.run_bind,run_underlying hu,Result.andThen,this]
   exact h1
theorem run_zeroV {t:TypeId} {z:AV} (h:zeroV P t=some z):∃ cz,(∀ w,(zeroValue t).run P w=.ok cz w)∧VR g z cz:=by
 obtain ⟨cz,hz,hm⟩:=zqH.1 h
 obtain ⟨i,hi,hz'⟩:=zqH.1 hz
 exact ⟨cz,fun w=>by simp [zeroValue,typeInfo,hi,hz'],cV_VR hm⟩
theorem mapOf_sound (h:HR g ow σ w) {x:AV} {cx:Value} (hx:VR g x cx) {es:List (AV × AV)} (hm:mapOf σ x=some es) :
  (cx=.map none∧es=[])∨∃ id b c esC clock,x=.map id∧cx=.map (some b)∧σ[id]?=some (.mp es)∧g.φ id=some (b,c)∧w.heap[b]?=some (.map esC clock)∧EntR g es esC.toList∧MapAt g ow id b es w:=by
 cases hx <;> simp only [mapOf] at hm <;> try (cases hm; done)
 ·injection hm with hm; exact .inl ⟨rfl,hm.symm⟩
 ·rename_i id b c hp
  split at hm
  ·rename_i es' hσ
   injection hm with hm; subst hm
   have hM:MapAt g ow id b es' w:=h.bd id (.mp es') rfl hσ b c hp
   have hM':=hM
   obtain ⟨esC,clock,h1,h2,h3,h4,h5,h6⟩:=hM'
   refine .inr ⟨id,b,c,esC,clock,rfl,rfl,hσ,hp,h1,⟨by simp [h2],fun i k v hi=>?_⟩,hM⟩
   obtain ⟨e,he,_,_,v1,v2⟩:=h3 i k v hi
   exact ⟨e,by simpa using he,v1,v2⟩
  ·cases hm
theorem s_mlook (h:HR g ow σ w) {t kt et:TypeId} (ht:P.underlying t=some (.map kt et)) {ag:Bool} {ks:List Nat} (hk:keyT P kt=some (ag,ks)) {zv:AV} (hz:zeroV P et=some zv) {ok:Bool}
  {x k v:AV} {cx ck:Value} (hx:VR g x cx) (hV:VR g k ck) (hl:mlookA σ ag ks zv ok x k=some v) :
  OpOut bs g ow σ w (Sem.run P (do pure (Next.value (← Instr.lookup t cx ck ok))) w) v σ:=by
 unfold mlookA at hl
 obtain ⟨c,hc,hl⟩:=zqH.1 hl
 split at hl
 ·rename_i hs
  obtain ⟨es,hes,hl⟩:=zqH.1 hl
  obtain ⟨q,hq,rfl⟩:=zqG.1 hl
  obtain ⟨cz,hrz,hVz⟩:=run_zeroV (g:=g) hz
  have hck:∀ e,(Instr.checkKey e 10000 kt ck).run P w=.ok () w:=fun e=>checkKey_sound hk hV hc hs e
  have fin:∀ (esC:List MapEntry),EntR g es esC→∃ q' cv,(Instr.findKey kt ck esC).run P w=.ok q' w∧VR g (lookV zv ok q) cv ∧
    ((∃ j u,q'=some (j,u)∧cv=if ok then .tuple #[u,.bool true] else u)∨(q'=none∧cv=if ok then .tuple #[cz,.bool false] else cz)):=by
   intro esC hE
   obtain ⟨q',hq',hF⟩:=findKey_sound (P:=P) (w:=w) hk hV hc hE hq
   have two:∀ {x:AV} {u:Value} {r:Bool},VR g x u→VR g (.tup [x,.bool r]) (.tuple #[u,.bool r]):=fun {x u r} hxu=>.tup rfl fun i x v hx hv=>by
    match i,hx,hv with
    | 0,hx,hv=>simp at hx hv; subst hx hv; exact hxu
    | 1,hx,hv=>simp at hx hv; subst hx hv; exact .bool _
    | i+2,hx,hv=>simp at hx
   cases q with
   | none=>
    cases q' with
    | none=>
     refine ⟨none,if ok then .tuple #[cz,.bool false] else cz,hq',?_,.inr ⟨rfl,rfl⟩⟩
     cases ok
     ·simpa [lookV] using hVz
     ·simpa [lookV] using two hVz
    | some p=>exact absurd hF (by simp [FindR])
   | some p=>
    obtain ⟨j,v⟩:=p
    cases q' with
    | none=>exact absurd hF (by simp [FindR])
    | some p'=>
     obtain ⟨j',cv⟩:=p'
     obtain ⟨_,hVv,_⟩:=hF
     refine ⟨_,if ok then .tuple #[cv,.bool true] else cv,hq',?_,.inl ⟨_,_,rfl,rfl⟩⟩
     cases ok
     ·simpa [lookV] using hVv
     ·simpa [lookV] using two hVv
  rcases mapOf_sound h hx hes with ⟨rfl,rfl⟩ | ⟨id,b,c',esC,clock,rfl,rfl,hσ,hp,hb,hE,_⟩
  ·obtain ⟨q',cv,hr,hcv,hh⟩:=fin [] ⟨rfl,fun i k v hi=>by simp at hi⟩
   refine OpOut.pure h (cv:=cv) ?_ hcv
   rcases hh with ⟨j,u,rfl,rfl⟩ | ⟨rfl,rfl⟩
   ·simp [Instr.lookup,run_underlying ht,Result.andThen,hck,hr]
   ·simp [Instr.lookup,run_underlying ht,Result.andThen,hck,hr,hrz]
  ·obtain ⟨q',cv,hr,hcv,hh⟩:=fin esC.toList hE
   refine OpOut.pure h (cv:=cv) ?_ hcv
   rcases hh with ⟨j,u,rfl,rfl⟩ | ⟨rfl,rfl⟩
   ·simp [Instr.lookup,run_underlying ht,Result.andThen,hck,MapKept.run_getObj_map hb,hr]
   ·simp [Instr.lookup,run_underlying ht,Result.andThen,hck,MapKept.run_getObj_map hb,hr,hrz]
 ·cases hl
theorem _root_.Go.Mach.Stm.push {esC:Array MapEntry} {clock:Nat} (h:Stm esC clock) (k v:Value):Stm (esC.push {key:=k,val:=v,born:=clock}) (clock+1):=by
 obtain ⟨h1,h2⟩:=h
 refine ⟨by simp [h1],fun i e he=>?_⟩
 rw [Array.getElem?_push] at he
 split at he
 ·rename_i hi; injection he with he; subst he; show clock=i; omega
 ·exact h2 i e he
theorem _root_.Go.Mach.Stm.modify {esC:Array MapEntry} {clock:Nat} (h:Stm esC clock) (j:Nat) (k v:Value):Stm (esC.modify j fun e=>{e with key:=k,val:=v}) clock:=by
 obtain ⟨h1,h2⟩:=h
 refine ⟨by simp [h1],fun i e he=>?_⟩
 rw [Array.getElem?_modify] at he
 split at he
 ·rename_i hij; subst hij
  obtain ⟨x,hx,rfl⟩:=zqG.1 he
  exact h2 _ x hx
 ·exact h2 i e he
theorem s_mset (h:HR g ow σ w) {t kt et:TypeId} (ht:P.underlying t=some (.map kt et)) {ag:Bool} {ks:List Nat} (hk:keyT P kt=some (ag,ks))
  {m k v:AV} {cm ck cx:Value} (hM:VR g m cm) (hV:VR g k ck) (hX:VR g v cx) (hs:msetA σ ag ks m k v=some σ') :
  OpOut bs g ow σ w (Sem.run P (do Instr.mapUpdate t cm ck cx; pure Next.skip) w) .undef σ':=by
 unfold msetA at hs
 split at hs
 ·rename_i id
  obtain ⟨c,hc,hs⟩:=zqH.1 hs
  split at hs
  ·rename_i hcd
   obtain ⟨⟨y,σ1⟩,hcl,hs⟩:=zqH.1 hs
   simp only at hs
   split at hs
   ·rename_i hyc
    split at hs
    ·rename_i es hσ1
     obtain ⟨q,hq,rfl⟩:=zqG.1 hs
     obtain ⟨g1,k1,v1⟩:=closeA_sound (bs:=bs) h hX hcl
     obtain ⟨hH,hS,hlen⟩:=k1
     have hV1:=hV.mono hS.gle
     have hM1:=hM.mono hS.gle
     cases hM1 with
     | @map _ b c' hp=>
      obtain ⟨esC,clock,h1,h2,h3,h4,h5,h6⟩:MapAt g1 ow id b es w:=hH.bd id (.mp es) rfl hσ1 b c' hp
      have hE:EntR g1 es esC.toList:=⟨by simp [h2],fun i k v hi=>by
       obtain ⟨e,he,_,_,v1,v2⟩:=h3 i k v hi
       exact ⟨e,by simpa using he,v1,v2⟩⟩
      obtain ⟨q',hq',hF⟩:=findKey_sound (P:=P) (w:=w) hk hV1 hc hE hq
      have hck:∀ e,(Instr.checkKey e 10000 kt ck).run P w=.ok () w:=fun e=>checkKey_sound hk hV hc hcd.1 e
      have hlt:b<w.heap.size:=(zqN.1 h1).1
      have fin:∀ (o:Obj) (es':List (AV × AV)),(∀ w',w'.heap[b]?=some o→MapAt g1 ow id b es' w') →
        ∀ r,r=Result.ok Next.skip {w with heap:=w.heap.setIfInBounds b o}→OpOut bs g ow σ w r .undef (σ1.set id (.mp es')):=by
       intro o es' hat r hr
       have hH2:=hH.spTo (bs:=bs) (ow':=ow) (w':={w with heap:=w.heap.setIfInBounds b o}) (v:=.bool true) hp h4 h5 (fun k hk=>by simp [Value.ownBlock] at hk) ⟨rfl,rfl,rfl⟩ (by simp) (fun k hk hne _=>by simp [Ne.symm hne]) (fun _ _=>rfl) (.mp es')
        (.inr ⟨rfl,hat _ (by simp [hlt])⟩)
       exact ⟨g1,ow,_,Go.undef,.inr ⟨hr,rfl⟩,.undef _,hH2.1,hS.trans hH2.2⟩
      cases q with
      | none=>
       cases q' with
       | none=>
        refine fin (.map (esC.push {key:=ck,val:=cx,born:=clock}) (clock+1)) (es++[(k,y)]) (fun w' hw'=>⟨_,_,hw',by simp [h2],fun i k2 v2 hi=>?_,h4,h5,h6.push ck cx⟩) _ ?_
        ·rcases Nat.lt_or_ge i es.length with hi2 | hi2
         ·rw [zqA hi2] at hi
          obtain ⟨e,he,r⟩:=h3 i k2 v2 hi
          exact ⟨e,by rw [Array.getElem?_push,if_neg (by omega)]; exact he,r⟩
         ·rw [zqB hi2] at hi
          have h0:i - es.length=0:=by
           rcases Nat.eq_zero_or_pos (i - es.length) with h | h
           ·exact h
           ·rw [List.getElem?_eq_none (by simp; omega)] at hi; cases hi
          rw [h0] at hi; simp at hi
          obtain ⟨rfl,rfl⟩:=hi
          exact ⟨{key:=ck,val:=cx,born:=clock},by rw [Array.getElem?_push,if_pos (by omega)],hcd.2,hyc,hV1,v1⟩
        ·simp [Instr.mapUpdate,run_underlying ht,Result.andThen,hck,MapKept.run_getObj_map h1,hq',MapKept.run_setObj_map _ h1]
       | some p=>exact absurd hF (by simp [FindR])
      | some p=>
       obtain ⟨j,u⟩:=p
       cases q' with
       | none=>exact absurd hF (by simp [FindR])
       | some p'=>
        obtain ⟨j',cv⟩:=p'
        obtain ⟨rfl,hVv,n,e,hn,hnl,hen,hek,hsb⟩:=hF
        rw [Nat.zero_add] at hn; subst hn
        have hen':esC[j]?=some e:=by simpa using hen
        refine fin (.map (esC.modify j fun e=>{e with key:=ck,val:=cx}) clock) (es.set j (k,y)) (fun w' hw'=>⟨_,_,hw',by simp [h2],fun i k2 v2 hi=>?_,h4,h5,h6.modify j ck cx⟩) _ ?_
        ·by_cases hij:j=i
         ·subst hij
          rw [List.getElem?_set,if_pos rfl,if_pos hnl] at hi
          injection hi with hi; injection hi with e1 e2; subst e1 e2
          exact ⟨{e with key:=ck,val:=cx},by simp [Array.getElem?_modify,hen'],hcd.2,hyc,hV1,v1⟩
         ·rw [List.getElem?_set,if_neg hij] at hi
          obtain ⟨e2,he2,r⟩:=h3 i k2 v2 hi
          exact ⟨e2,by simp [Array.getElem?_modify,hij,he2],r⟩
        ·have hst:(Instr.keyThatStays ck ck).run P w=.ok ck w:=by simp [Instr.keyThatStays,hsb]
         simp [Instr.mapUpdate,run_underlying ht,Result.andThen,hck,MapKept.run_getObj_map h1,hq',hen',hek,hst,MapKept.run_setObj_map _ h1]
    ·cases hs
   ·cases hs
  ·cases hs
 ·cases hs
theorem s_mkmap {t:TypeId}:NewRes g w (Sem.run P (do pure (Next.value (← Instr.makeMap t none))) w) (fun id=>.map id) (.mp []):=by
 refine ⟨w.alloc (.map #[] 0),_,0,.map (some w.heap.size),?_,rfl,⟨rfl,rfl,rfl⟩,fun cs fz ext h=>(by cases h),fun s pos h=>(by cases h),fun n s h=>(by cases h),fun g' id hp=>.map hp,fun _=>.inr ⟨rfl,rfl⟩⟩
 simp [Instr.makeMap]
end
end Go.Mach
end
section
namespace Go.Mach
open Go.RowKit
section
variable {P:Program} {bs:Nat} {g:Gh} {ow:Nat→Option Nat} {σ σ':Heap} {w:World} {ρ:Regs} {a:Act} {v:AV} {mt:Bool}
theorem VR.intv {k:IntKind} {n:Int} {c:Value} (h:VR g (.int k n) c):c=.int k n:=by cases h; rfl
theorem VR.strv {s:ByteArray} {c:Value} (h:VR g (.str s) c):c=.string s:=by cases h; rfl
theorem VR.boolv {b:Bool} {c:Value} (h:VR g (.bool b) c):c=.bool b:=by cases h; rfl
theorem isSl_ns {x:AV} (h:¬ (isSl x=false)):∀ s,x≠.str s:=fun s e=>by subst e; exact h rfl
theorem bin_sound (h:HR g ow σ w) (hR:RR g ρ a.tmps) {op:BinOp} {t t':TypeId} {x y:Operand} {ao:AOp} (hc:compBin P op t x y=some ao) (hs:stepOp bs ρ σ ao=some (v,σ')) :
  OpOut bs g ow σ w (Sem.run P (do pure (Next.value (← (do eqGuard op t x y (a.eval x) (a.eval y); binOp op t (a.eval x) (a.eval y))))) w) v σ':=by
 unfold compBin at hc
 split at hc
 ·simp only [zqK,zqH] at hc
  obtain ⟨ax,hx,ay,hy,e⟩:=hc
  injection e with e; subst e
  simp only [stepOp] at hs
  obtain ⟨u,hu,e⟩:=zqG.1 hs
  injection e with e1 e2; subst e1 e2
  exact s_bin h (ev_VR hR hx) (ev_VR hR hy) hu
 ·simp only [zqK,zqH] at hc
  obtain ⟨ax,hx,ay,hy,e⟩:=hc
  injection e with e; subst e
  simp only [stepOp] at hs
  obtain ⟨u,hu,e⟩:=zqG.1 hs
  injection e with e1 e2; subst e1 e2
  exact s_bin h (ev_VR hR hx) (ev_VR hR hy) hu
 ·rename_i ht
  have hgo:∀ neg (hop:op=if neg then BinOp.neq else .eql),(cx x >>= fun ax=>cx y >>= fun ay=>some (AOp.eqb neg ax ay))=some ao→OpOut bs g ow σ w (Sem.run P (do pure (Next.value (← (do eqGuard op t x y (a.eval x) (a.eval y); binOp op t (a.eval x) (a.eval y))))) w) v σ':=by
   intro neg hop hc
   simp only [zqK,zqH] at hc
   obtain ⟨ax,hx,ay,hy,e⟩:=hc
   injection e with e; subst e
   simp only [stepOp] at hs
   have hvx:=ev_VR hR hx
   have hvy:=ev_VR hR hy
   split at hs
   ·rename_i b1 b2 e1 e2
    injection hs with hs; injection hs with e3 e4; subst e3 e4
    rw [e1] at hvx; rw [e2] at hvy
    rw [hvx.boolv,hvy.boolv]
    exact s_eqb h hop ht
   ·cases hs
  split at hc
  ·exact hgo false rfl hc
  ·exact hgo true rfl hc
  ·cases hc
 ·rename_i e ht
  have hgo:∀ neg (hop:op=if neg then BinOp.neq else .eql),y=.const (.slice none 0 0)→(cx x >>= fun ax=>some (AOp.eqnil neg ax))=some ao→OpOut bs g ow σ w (Sem.run P (do pure (Next.value (← (do eqGuard op t x y (a.eval x) (a.eval y); binOp op t (a.eval x) (a.eval y))))) w) v σ':=by
   intro neg hop hy hcc
   clear hc
   subst hy
   simp only [zqK,zqH] at hcc
   obtain ⟨ax,hx,e'⟩:=hcc
   injection e' with e'; subst e'
   simp only [stepOp] at hs
   have hvx:=ev_VR hR hx
   split at hs
   ·rename_i hq
    injection hs with hs; injection hs with e3 e4; subst e3 e4
    exact s_eqnil h hop ht hvx hq
   ·cases hs
  split at hc
  ·exact hgo false rfl rfl hc
  ·exact hgo true rfl rfl hc
  ·cases hc
 ·rename_i e ht
  have hgo:∀ neg (hop:op=if neg then BinOp.neq else .eql),y=.const (.pointer none)→(cx x >>= fun ax=>some (AOp.eqp neg ax))=some ao→OpOut bs g ow σ w (Sem.run P (do pure (Next.value (← (do eqGuard op t x y (a.eval x) (a.eval y); binOp op t (a.eval x) (a.eval y))))) w) v σ':=by
   intro neg hop hy hcc
   clear hc
   subst hy
   simp only [zqK,zqH] at hcc
   obtain ⟨ax,hx,e'⟩:=hcc
   injection e' with e'; subst e'
   simp only [stepOp] at hs
   obtain ⟨u,hu,e⟩:=zqG.1 hs
   injection e with e1 e2; subst e1 e2
   exact s_eqp h hop ht (ev_VR hR hx) hu
  split at hc
  ·exact hgo false rfl rfl hc
  ·exact hgo true rfl rfl hc
  ·cases hc
 ·have hgo:∀ neg (hop:op=if neg then BinOp.neq else .eql),(scalT P t >>= fun n=>cx x >>= fun ax=>cx y >>= fun ay=>some (AOp.eqag neg n ax ay))=some ao→OpOut bs g ow σ w (Sem.run P (do pure (Next.value (← (do eqGuard op t x y (a.eval x) (a.eval y); binOp op t (a.eval x) (a.eval y))))) w) v σ':=by
   intro neg hop hc
   simp only [zqK,zqH] at hc
   obtain ⟨n,hn,ax,hx,ay,hy,e⟩:=hc
   injection e with e; subst e
   simp only [stepOp] at hs
   obtain ⟨u,hu,e⟩:=zqG.1 hs
   injection e with e1 e2; subst e1 e2
   exact s_eqag h hop hn (ev_VR hR hx) (ev_VR hR hy) hu
  split at hc
  ·exact hgo false rfl hc
  ·exact hgo true rfl hc
  ·cases hc
 ·cases hc
theorem conv_sound (h:HR g ow σ w) (hR:RR g ρ a.tmps) {src dst:TypeId} {x:Operand} {ao:AOp} (hc:compConv P src dst x=some ao) (hs:stepOp bs ρ σ ao=some (v,σ')) (hnew:∀ x,ao≠.s2b x) :
  OpOut bs g ow σ w (Sem.run P (do pure (Next.value (← convert src dst (a.eval x)))) w) v σ':=by
 unfold compConv at hc
 split at hc
 ·rename_i h1 h2
  simp only [zqK,zqH] at hc
  obtain ⟨ax,hx,e⟩:=hc
  injection e with e; subst e
  simp only [stepOp] at hs
  have hvx:=ev_VR hR hx
  split at hs
  ·rename_i e1
   injection hs with hs; injection hs with e3 e4; subst e3 e4
   rw [e1] at hvx; rw [hvx.intv]
   exact s_conv h h1 h2
  ·cases hs
 ·rename_i h1 h2
  simp only [zqK,zqH] at hc
  obtain ⟨ax,hx,e⟩:=hc
  injection e with e; subst e
  simp only [stepOp] at hs
  have hvx:=ev_VR hR hx
  split at hs
  ·rename_i s e1
   injection hs with hs; injection hs with e3 e4; subst e3 e4
   rw [e1] at hvx
   exact s_convS h h1 h2 hvx ⟨s,rfl⟩
  ·cases hs
 ·rename_i e h1 h2
  split at hc
  ·rename_i h3
   simp only [zqK,zqH] at hc
   obtain ⟨ax,hx,e⟩:=hc
   injection e with e; subst e
   exact absurd rfl (hnew _)
  ·cases hc
 ·rename_i e h1 h2
  split at hc
  ·rename_i h3
   simp only [zqK,zqH] at hc
   obtain ⟨ax,hx,e⟩:=hc
   injection e with e; subst e
   simp only [stepOp] at hs
   split at hs
   ·cases hs
   rename_i hsl
   obtain ⟨es,h4,hs⟩:=zqH.1 hs
   obtain ⟨s,h5,e⟩:=zqG.1 hs
   injection e with e3 e4; subst e3 e4
   exact s_b2s h h1 (isU8_und h3) h2 (ev_VR hR hx) (isSl_ns hsl) h4 h5
  ·cases hc
 ·cases hc
end
end Go.Mach
end
section
namespace Go.Mach
open Go.RowKit
section
variable {P:Program} {bs:Nat} {g:Gh} {ow:Nat→Option Nat} {σ σ':Heap} {w:World} {ρ:Regs} {a:Act} {v:AV} {mt:Bool}
theorem OpOut.val {bs g ow σ w v cv σ'} {r:Result Next} (hr:r=.ok (.value cv) w) (h:HR g ow σ w) (hv:VR g v cv) (hσ:σ'=σ):OpOut bs g ow σ w r v σ':=by subst hσ; exact .pure h hr hv
def isCall:AOp→Bool
 | .call _ _ | .callv _ _=>true
 | _=>false
theorem all_of {α:Type} {p:α→Bool} {x:Option α} {a:α} (h:x=some a) (hp:x.all p=true):p a=true:=by subst h; simpa using hp
theorem bind_all {α β:Type} {p:β→Bool} {x:Option α} {f:α→Option β} (h:∀ a,(f a).all p=true):(x >>= f).all p=true:=by
 cases x with
 | none=>rfl
 | some a=>exact h a
def isNew:AOp→Bool
 | .alloc _ | .allocB _ _ | .box _ | .buildSl _ _ _ _ _ | .s2b _ | .mksl _ _ _ _ _ _ | .rng _ | .mkmap=>true
 | _=>false
theorem op_new (hR:RR g ρ a.tmps) {o:Oper} {ao:AOp} (hc:compOp P mt o=some ao) (hn:isNew ao=true) (hs:stepOp bs ρ σ ao=some (v,σ')) :
  ∃ mkAV obj,v=mkAV σ.length∧σ'=σ++[obj]∧(∀ σ2:Heap,stepOp bs ρ σ2 ao=some (mkAV σ2.length,σ2++[obj]))∧NewRes g w ((execOp a.eval o).run P w) mkAV obj:=by
 unfold compOp at hc
 unfold execOp
 generalize hop:o.op=op at hc ⊢
 cases op <;> simp only at hc ⊢ <;> try (cases hc; done)
 case alloc e=>
  split at hc
  ·obtain ⟨zs,hz,hc⟩:=zqH.1 hc
   split at hc
   ·rename_i hb0
    injection hc with e; subst e
    simp only [stepOp] at hs ⊢; injection hs with hs; injection hs with e1 e2; subst e1 e2
    exact ⟨_,_,rfl,rfl,fun _=>rfl,s_allocB hz hb0⟩
   ·cases hc
  ·simp only [zqK,zqH] at hc
   obtain ⟨zs,hz,e⟩:=hc; injection e with e; subst e
   simp only [stepOp] at hs ⊢; injection hs with hs; injection hs with e1 e2; subst e1 e2
   exact ⟨_,_,rfl,rfl,fun _=>rfl,s_alloc hz⟩
 case box e x=>
  simp only [zqK,zqH] at hc
  obtain ⟨ax,hx,e⟩:=hc; injection e with e; subst e
  simp only [stepOp] at hs ⊢
  split at hs
  ·rename_i hso; injection hs with hs; injection hs with e1 e2; subst e1 e2
   exact ⟨_,_,rfl,rfl,fun _=>by rw [if_pos hso],s_box (ev_VR hR hx) hso⟩
  ·cases hs
 case buildSlice t n parts=>
  split at hc
  ·rename_i e ht
   simp only [zqK,zqH] at hc
   obtain ⟨s,hsz,zs,hz,hc⟩:=hc
   split at hc
   ·rename_i hcond
    simp only [zqH] at hc
    obtain ⟨ag,hag,ps,hp,e⟩:=hc; injection e with e; subst e
    simp only [stepOp] at hs ⊢
    obtain ⟨cs,hf,e⟩:=zqG.1 hs
    injection e with e1 e2; subst e1 e2
    exact ⟨_,_,rfl,rfl,fun _=>by rw [hf]; rfl,s_buildSl hR ht hsz hz hcond.1 hcond.2.1 hcond.2.2 hp hf⟩
   ·cases hc
  ·cases hc
 case convert src dst x=>
  unfold compConv at hc
  split at hc
  ·simp only [zqK,zqH] at hc
   obtain ⟨ax,hx,e⟩:=hc; injection e with e; subst e; simp [isNew] at hn
  ·simp only [zqK,zqH] at hc
   obtain ⟨ax,hx,e⟩:=hc; injection e with e; subst e; simp [isNew] at hn
  ·rename_i e h1 h2
   split at hc
   ·rename_i h3
    simp only [zqK,zqH] at hc
    obtain ⟨ax,hx,e⟩:=hc
    injection e with e; subst e
    simp only [stepOp] at hs ⊢
    have hvx:=ev_VR hR hx
    split at hs
    ·rename_i e1
     injection hs with hs; injection hs with e3 e4; subst e3 e4
     rw [e1] at hvx; rw [hvx.strv]
     exact ⟨_,_,rfl,rfl,fun _=>rfl,s_s2b h1 h2 (isU8_und h3)⟩
    ·cases hs
   ·cases hc
  ·split at hc
   ·simp only [zqK,zqH] at hc
    obtain ⟨ax,hx,e⟩:=hc; injection e with e; subst e; simp [isNew] at hn
   ·cases hc
  ·cases hc
 case makeSlice t l c=>
  split at hc
  ·rename_i e ht
   simp only [zqK,zqH] at hc
   obtain ⟨s,hsz,zs,hz,hc⟩:=hc
   split at hc
   ·rename_i hcond
    simp only [zqH] at hc
    obtain ⟨ag,hag,by',hby,al,hl,ac,hcc,e⟩:=hc; injection e with e; subst e
    simp only [stepOp] at hs ⊢
    have hvl:=ev_VR hR hl
    have hvc:=ev_VR hR hcc
    split at hs
    ·rename_i n m e1 e2
     split at hs
     ·rename_i hcond2
      have hcond3:=hcond2
      obtain ⟨rfl,h1,h2,h3⟩:=hcond2
      injection hs with hs; injection hs with e3 e4; subst e3 e4
      rw [e1] at hvl; rw [e2] at hvc
      rw [hvl.intv,hvc.intv]
      exact ⟨_,_,rfl,rfl,fun _=>by rw [if_pos hcond3],s_mksl ht hsz hz hby hcond.1 hcond.2 h1 h2 h3⟩
     ·cases hs
    ·cases hs
   ·cases hc
  ·cases hc
 case range t x=>
  split at hc
  ·rename_i ht
   simp only [zqK,zqH] at hc
   obtain ⟨ax,hx,e⟩:=hc; injection e with e; subst e
   simp only [stepOp] at hs ⊢
   have hv:=ev_VR hR hx
   split at hs
   ·rename_i s e0
    injection hs with hs; injection hs with e1 e2; subst e1 e2
    rw [e0] at hv; rw [hv.strv]
    exact ⟨_,_,rfl,rfl,fun _=>rfl,s_rng ht⟩
   ·cases hs
  ·cases hc
 case makeMap t r=>
  cases r <;> simp only at hc <;> try (cases hc; done)
  injection hc with e; subst e
  simp only [stepOp] at hs ⊢; injection hs with hs; injection hs with e1 e2; subst e1 e2
  exact ⟨_,_,rfl,rfl,fun _=>rfl,s_mkmap⟩
 case makeFunc fn first caps=>
  cases fn <;> simp only at hc <;> try (cases hc; done)
  exact absurd (all_of (p:=fun ao=>!isNew ao) hc (by repeat (first | rfl | (refine bind_all fun _=>?_) | split))) (by simp [hn])
 case next x b=>
  cases b <;> simp only at hc <;> try (cases hc; done)
  exact absurd (all_of (p:=fun ao=>!isNew ao) hc (by repeat (first | rfl | (refine bind_all fun _=>?_) | split))) (by simp [hn])
 all_goals (try unfold compBin at hc)
 all_goals (try unfold compCall at hc)
 all_goals exact absurd (all_of (p:=fun ao=>!isNew ao) hc (by repeat (first | rfl | (refine bind_all fun _=>?_) | split))) (by simp [hn])
theorem op_sound (h:HR g ow σ w) (hR:RR g ρ a.tmps) {o:Oper} {ao:AOp} (hc:compOp P mt o=some ao) (hnc:isCall ao=false) (hs:stepOp bs ρ σ ao=some (v,σ')) :
  OpOut bs g ow σ w ((execOp a.eval o).run P w) v σ':=by
 by_cases hnew:isNew ao=true
 ·obtain ⟨mkAV,obj,rfl,rfl,_,hN⟩:=op_new (g:=g) (w:=w) hR hc hnew hs
  exact .ofNew h hN
 unfold compOp at hc
 unfold execOp
 generalize hop:o.op=op at hc ⊢
 cases op <;> simp only at hc ⊢ <;> try (cases hc; done)
 case move x=>
  simp only [zqK,zqH] at hc
  obtain ⟨ax,hx,e⟩:=hc; injection e with e; subst e
  simp only [stepOp] at hs; injection hs with hs; injection hs with e1 e2; subst e1 e2
  exact OpOut.pure h rfl (ev_VR hR hx)
 case assign x=>
  simp only [zqK,zqH] at hc
  obtain ⟨ax,hx,e⟩:=hc; injection e with e; subst e
  simp only [stepOp] at hs; injection hs with hs; injection hs with e1 e2; subst e1 e2
  exact OpOut.pure h rfl (ev_VR hR hx)
 case pick c x y=>
  simp only [zqK,zqH] at hc
  obtain ⟨ac,hac,ax,hx,ay,hy,e⟩:=hc; injection e with e; subst e
  simp only [stepOp] at hs
  have hv:=ev_VR hR hac
  split at hs
  ·rename_i e0; injection hs with hs; injection hs with e1 e2; subst e1 e2
   rw [e0] at hv; rw [hv.boolv]
   exact OpOut.pure h (by simp [asBool]) (ev_VR hR hx)
  ·rename_i e0; injection hs with hs; injection hs with e1 e2; subst e1 e2
   rw [e0] at hv; rw [hv.boolv]
   exact OpOut.pure h (by simp [asBool]) (ev_VR hR hy)
  ·cases hs
 case makeMap t r=>
  cases r <;> simp only at hc <;> try (cases hc; done)
  injection hc with e; subst e
  exact absurd rfl hnew
 case lookup t x i ok=>
  split at hc
  ·rename_i kt et ht
   simp only [zqK,zqH] at hc
   obtain ⟨⟨ag,ks⟩,hk,zv,hz,ax,hx,ai,hi,e⟩:=hc; injection e with e; subst e
   simp only [stepOp] at hs
   obtain ⟨u,hu,e⟩:=zqG.1 hs
   injection e with e1 e2; subst e1 e2
   exact s_mlook h ht hk hz (ev_VR hR hx) (ev_VR hR hi) hu
  ·cases hc
 case mapUpdate t m k x=>
  split at hc
  ·rename_i kt et ht
   simp only [zqK,zqH] at hc
   obtain ⟨⟨ag,ks⟩,hk,am,hm,ak,hak,ax,hx,e⟩:=hc; injection e with e; subst e
   simp only [stepOp] at hs
   obtain ⟨u,hu,e⟩:=zqG.1 hs
   injection e with e1 e2; subst e1 e2
   exact s_mset h ht hk (ev_VR hR hm) (ev_VR hR hak) (ev_VR hR hx) hu
  ·cases hc
 case alloc e=>
  exact absurd (all_of (p:=fun ao=>isNew ao) hc (by repeat (first | rfl | (refine bind_all fun _=>?_) | split))) (by simp [hnew])
 case box e x=>
  exact absurd (all_of (p:=fun ao=>isNew ao) hc (by repeat (first | rfl | (refine bind_all fun _=>?_) | split))) (by simp [hnew])
 case build t parts=>
  split at hc
  ·rename_i fs ht
   simp only [zqK,zqH] at hc
   obtain ⟨sizes,hsz,zs,hz,ps,hp,e⟩:=hc; injection e with e; subst e
   simp only [stepOp] at hs
   obtain ⟨cs,hf,e⟩:=zqG.1 hs
   injection e with e1 e2; subst e1 e2
   exact s_buildS h hR ht hsz hz hp hf
  ·rename_i n e ht
   simp only [zqK,zqH] at hc
   obtain ⟨s,hsz,zs,hz,ps,hp,e⟩:=hc; injection e with e; subst e
   simp only [stepOp] at hs
   obtain ⟨cs,hf,e⟩:=zqG.1 hs
   injection e with e1 e2; subst e1 e2
   exact s_buildA h hR ht hsz hz hp hf
  ·cases hc
 case buildSlice t n parts=>
  exact absurd (all_of (p:=fun ao=>isNew ao) hc (by repeat (first | rfl | (refine bind_all fun _=>?_) | split))) (by simp [hnew])
 case load t x=>
  simp only [zqK,zqH] at hc
  obtain ⟨sz,hsz,ag,hag,ax,hx,e⟩:=hc; injection e with e; subst e
  simp only [stepOp] at hs
  obtain ⟨u,hu,e⟩:=zqG.1 hs
  injection e with e1 e2; subst e1 e2
  obtain ⟨cu,hr,hV⟩:=loadA_sound (P:=P) h hsz hag (ev_VR hR hx) hu
  exact OpOut.pure h (by simp only [Sem.run_bind,hr,Result.andThen_ok,Sem.run_pure]) hV
 case store t x y=>
  simp only [zqK,zqH] at hc
  obtain ⟨sz,hsz,ax,hx,ay,hy,e⟩:=hc; injection e with e; subst e
  simp only [stepOp] at hs
  obtain ⟨u,hu,e⟩:=zqG.1 hs
  injection e with e1 e2; subst e1 e2
  exact s_store h hsz (ev_VR hR hx) (ev_VR hR hy) hu
 case nilCheck x=>
  simp only [zqK,zqH] at hc
  obtain ⟨ax,hx,e⟩:=hc; injection e with e; subst e
  simp only [stepOp] at hs
  have hv:=ev_VR hR hx
  split at hs
  ·rename_i id off e0; injection hs with hs; injection hs with e1 e2; subst e1 e2
   rw [e0] at hv
   cases hcx:a.eval x <;> rw [hcx] at hv <;> cases hv
   exact OpOut.pure h rfl (.ptr (by assumption))
  ·rename_i cs off e0; injection hs with hs; injection hs with e1 e2; subst e1 e2
   rw [e0] at hv
   generalize hcx:a.eval x=cx at hv ⊢
   cases hv with
   | iptr vs hc hM hV=>exact OpOut.pure h rfl (.iptr vs hc hM hV)
  ·rename_i f caps e0; injection hs with hs; injection hs with e1 e2; subst e1 e2
   rw [e0] at hv
   generalize hcx:a.eval x=cx at hv ⊢
   cases hv with
   | func hl hV=>exact OpOut.pure h rfl (.func hl hV)
  ·rename_i f caps e0; injection hs with hs; injection hs with e1 e2; subst e1 e2
   rw [e0] at hv
   generalize hcx:a.eval x=cx at hv ⊢
   cases hv with
   | meth hl hV=>exact OpOut.pure h rfl (.meth hl hV)
  ·cases hs
 case binOp op t x y t'=>exact bin_sound h hR (t':=t') hc hs
 case unOp op t x=>
  simp only [zqK,zqH] at hc
  obtain ⟨ax,hx,e⟩:=hc; injection e with e; subst e
  simp only [stepOp] at hs
  obtain ⟨u,hu,e⟩:=zqG.1 hs
  injection e with e1 e2; subst e1 e2
  exact s_un h (ev_VR hR hx) hu
 case convert src dst x=>exact conv_sound h hR hc hs (fun x e=>by subst e; exact hnew rfl)
 case makeFunc fn first caps=>
  cases fn <;> simp only at hc <;> try (cases hc; done)
  split at hc
  ·rename_i hf
   simp only [zqK,zqH] at hc
   obtain ⟨xs,hx,e⟩:=hc; injection e with e; subst e
   simp only [stepOp] at hs; injection hs with hs; injection hs with e1 e2; subst e1 e2
   have e0:first.map a.eval=#[]:=by rw [Array.eq_empty_of_size_eq_zero hf]; simp
   have e1:caps.map a.eval=(caps.toList.map a.eval).toArray:=by apply Array.ext'; simp
   rw [e0,e1]
   exact s_mkfn h hR hx
  ·split at hc
   ·rename_i hf
    simp only [zqK,zqH] at hc
    obtain ⟨xs,hx,e⟩:=hc; injection e with e; subst e
    simp only [stepOp] at hs; injection hs with hs; injection hs with e1 e2; subst e1 e2
    have e0:caps.map a.eval=#[]:=by rw [Array.eq_empty_of_size_eq_zero hf]; simp
    have e1:first.map a.eval=(first.toList.map a.eval).toArray:=by apply Array.ext'; simp
    rw [e0,e1]
    exact s_mkmeth h hR hx
   ·cases hc
 case makeSlice t l c=>
  exact absurd (all_of (p:=fun ao=>isNew ao) hc (by repeat (first | rfl | (refine bind_all fun _=>?_) | split))) (by simp [hnew])
 case slice t x lo hi mx=>
  split at hc
  ·rename_i ht
   cases mx with
   | some m=>cases hc
   | none=>
    simp only [zqK,zqH] at hc
    obtain ⟨ax,hx,al,hl,ah,hh,e⟩:=hc; injection e with e; subst e
    simp only [stepOp] at hs
    have hv:=ev_VR hR hx
    split at hs
    ·rename_i s e0
     obtain ⟨hn,e1,hs⟩:=zqH.1 hs
     obtain ⟨ln,e2,e⟩:=zqG.1 hs
     injection e with e3 e4; subst e3 e4
     rw [e0] at hv; rw [hv.strv]
     exact s_strSl h hR ht hl hh e1 e2
    ·cases hs
  ·rename_i e ht
   cases mx with
   | none=>
    simp only [zqK,zqH] at hc
    obtain ⟨sz,hsz,ax,hx,al,hl,ah,hh,e⟩:=hc; injection e with e; subst e
    simp only [stepOp] at hs
    split at hs
    ·cases hs
    rename_i hsl
    obtain ⟨n,hn,hs⟩:=zqH.1 hs
    obtain ⟨hn',e1,hs⟩:=zqH.1 hs
    obtain ⟨ln,e2,hs⟩:=zqH.1 hs
    obtain ⟨u,hu,e⟩:=zqG.1 hs
    injection e with e3 e4; subst e3 e4
    exact s_slSl h hR ht hsz (ev_VR hR hx) hn (isSl_ns hsl) hl hh e1 e2 hu
   | some m=>
    cases lo with
    | none=>cases hc
    | some lo=>
     cases hi with
     | none=>cases hc
     | some hi=>
      simp only [zqK,zqH] at hc
      obtain ⟨sz,hsz,ax,hx,al,hl,ah,hh,am,hm,e⟩:=hc; injection e with e; subst e
      simp only [stepOp] at hs
      obtain ⟨n,hn,hs1⟩:=zqH.1 hs
      clear hs
      obtain ⟨m',e0,hs2⟩:=zqH.1 hs1
      clear hs1
      obtain ⟨hn',e1,hs3⟩:=zqH.1 hs2
      clear hs2
      obtain ⟨ln,e2,hs⟩:=zqH.1 hs3
      clear hs3
      have hv:=ev_VR hR hx
      split at hs
      ·rename_i hcond
       obtain ⟨rfl,rfl⟩:=hcond
       split at hs
       ·rename_i es cap0 e5
        injection hs with hs; injection hs with e3 e4; subst e3 e4
        rw [e5] at hv hn
        simp only [lenA] at hn; injection hn with hn; subst hn
        exact s_slCl h hR ht hsz hv hl hh hm e0 e1 e2 rfl
       ·cases hs
      ·cases hs
  ·rename_i n e ht
   cases mx with
   | some m=>cases hc
   | none=>
    simp only [zqK,zqH] at hc
    obtain ⟨sz,hsz,ag,hag,ax,hx,al,hl,ah,hh,e⟩:=hc; injection e with e; subst e
    simp only [stepOp] at hs
    have hv:=ev_VR hR hx
    split at hs
    ·rename_i id off e0
     split at hs
     ·rename_i cs fz hσ
      obtain ⟨hn,e1,hs⟩:=zqH.1 hs
      obtain ⟨ln,e2,hs⟩:=zqH.1 hs
      split at hs
      ·rename_i hcond
       injection hs with hs; injection hs with e3 e4; subst e3 e4
       rw [e0] at hv
       exact s_arrSl h hR ht hsz hv hσ hl hh e1 e2 hcond.1 hcond.2.1 hcond.2.2
      ·cases hs
     ·cases hs
    ·cases hs
  ·cases hc
 case fieldAddr t x f=>
  split at hc
  ·rename_i fs ht
   split at hc
   ·rename_i fd hf
    split at hc
    ·rename_i s hsz
     simp only [zqK,zqH] at hc
     obtain ⟨ax,hx,e⟩:=hc; injection e with e; subst e
     simp only [stepOp] at hs
     have hv:=ev_VR hR hx
     split at hs
     ·rename_i e0; injection hs with hs; injection hs with e3 e4; subst e3 e4
      rw [e0] at hv; exact s_faddr h ht hf hsz hv rfl
     ·rename_i e0; injection hs with hs; injection hs with e3 e4; subst e3 e4
      rw [e0] at hv; exact s_faddr h ht hf hsz hv rfl
     ·cases hs
    ·cases hc
   ·cases hc
  ·cases hc
 case field t x f=>
  split at hc
  ·rename_i fs ht
   split at hc
   ·rename_i fd hf
    simp only [zqK,zqH] at hc
    obtain ⟨sz,hsz,ag,hag,ax,hx,e⟩:=hc; injection e with e; subst e
    simp only [stepOp] at hs
    have hv:=ev_VR hR hx
    split at hs
    ·rename_i cs e0
     obtain ⟨u,hu,e⟩:=zqG.1 hs
     injection e with e1 e2; subst e1 e2
     obtain ⟨win,hw,hm⟩:=zqH.1 hu
     rw [e0] at hv
     exact s_field h ht hf hsz hag hv hw hm
    ·cases hs
   ·cases hc
  ·cases hc
 case indexAddr t x i=>
  split at hc
  ·rename_i e ht
   simp only [zqK,zqH] at hc
   obtain ⟨sz,hsz,ax,hx,ai,hi,e⟩:=hc; injection e with e; subst e
   simp only [stepOp] at hs
   have hv:=ev_VR hR hx
   have hvi:=ev_VR hR hi
   split at hs
   ·rename_i k m ei
    rw [ei] at hvi; rw [hvi.intv]
    split at hs
    ·rename_i h0
     split at hs
     ·rename_i es cap0 e0
      rw [e0] at hv
      obtain ⟨el,hel,hs'⟩:=zqH.1 hs
      split at hs'
      ·rename_i hl
       injection hs' with hs'; injection hs' with e1 e2; subst e1 e2
       exact s_iaddrS h ht hsz hv h0 (by simp [hel,hl])
      ·cases hs'
     ·rename_i id es e0
      rw [e0] at hv
      obtain ⟨el,hel,hs'⟩:=zqH.1 hs
      split at hs'
      ·rename_i hl
       injection hs' with hs'; injection hs' with e1 e2; subst e1 e2
       exact s_iaddrS h ht hsz hv h0 (by simp [hel,hl])
      ·cases hs'
     ·rename_i id off len sz' ag e0
      rw [e0] at hv
      split at hs
      ·rename_i hl
       injection hs with hs'; injection hs' with e1 e2; subst e1 e2
       exact s_iaddrS h ht hsz hv h0 (by simp only [hl,and_self,if_true])
      ·cases hs
     ·cases hs
    ·cases hs
   ·cases hs
  ·rename_i n e ht
   simp only [zqK,zqH] at hc
   obtain ⟨sz,hsz,ax,hx,ai,hi,e⟩:=hc; injection e with e; subst e
   simp only [stepOp] at hs
   have hv:=ev_VR hR hx
   have hvi:=ev_VR hR hi
   split at hs
   ·rename_i id off k m e0 ei
    split at hs
    ·rename_i hcond
     injection hs with hs; injection hs with e1 e2; subst e1 e2
     rw [ei] at hvi; rw [hvi.intv]
     rw [e0] at hv
     exact s_iaddrA h ht hsz hv hcond.1 hcond.2
    ·cases hs
   ·rename_i cs off k m e0 ei
    split at hs
    ·rename_i hcond
     injection hs with hs; injection hs with e1 e2; subst e1 e2
     rw [ei] at hvi; rw [hvi.intv]
     rw [e0] at hv
     exact s_iaddrAi h ht hsz hv hcond.1 hcond.2
    ·cases hs
   ·cases hs
  ·cases hc
 case index t x i=>
  split at hc
  ·rename_i ht
   simp only [zqK,zqH] at hc
   obtain ⟨ax,hx,ai,hi,e⟩:=hc; injection e with e; subst e
   simp only [stepOp] at hs
   have hv:=ev_VR hR hx
   have hvi:=ev_VR hR hi
   split at hs
   ·rename_i s k m e0 ei
    split at hs
    ·rename_i h0
     obtain ⟨b,hb,e⟩:=zqG.1 hs
     injection e with e1 e2; subst e1 e2
     rw [ei] at hvi; rw [hvi.intv]
     rw [e0] at hv; rw [hv.strv]
     exact s_idxStr h ht h0 hb
    ·cases hs
   ·cases hs
  ·rename_i n e ht
   simp only [zqK,zqH] at hc
   obtain ⟨sz,hsz,ag,hag,ax,hx,ai,hi,e⟩:=hc; injection e with e; subst e
   simp only [stepOp] at hs
   have hv:=ev_VR hR hx
   have hvi:=ev_VR hR hi
   split at hs
   ·rename_i cs k m e0 ei
    split at hs
    ·rename_i hcond
     obtain ⟨u,hu,e⟩:=zqG.1 hs
     injection e with e1 e2; subst e1 e2
     obtain ⟨win,hw,hm⟩:=zqH.1 hu
     rw [ei] at hvi; rw [hvi.intv]
     rw [e0] at hv
     exact s_idxArr h ht hsz hag hv hcond.1 hcond.2 hw hm
    ·cases hs
   ·cases hs
  ·cases hc
 case range t x=>
  exact absurd (all_of (p:=fun ao=>isNew ao) hc (by repeat (first | rfl | (refine bind_all fun _=>?_) | split))) (by simp [hnew])
 case next x b=>
  cases b with
  | false=>cases hc
  | true=>
   simp only [zqK,zqH] at hc
   obtain ⟨ax,hx,e⟩:=hc; injection e with e; subst e
   simp only [stepOp] at hs
   have hv:=ev_VR hR hx
   split at hs
   ·rename_i id e0
    rw [e0] at hv
    split at hs
    ·rename_i s pos hσ
     have:=s_nxt (P:=P) (bs:=bs) h hv hσ (ty:=o.type)
     split at hs
     ·rename_i hlt
      injection hs with hs; injection hs with e1 e2; subst e1 e2
      simpa only [if_pos hlt] using this
     ·rename_i hlt
      injection hs with hs; injection hs with e1 e2; subst e1 e2
      simpa only [if_neg hlt] using this
    ·cases hs
   ·cases hs
 case extract x i=>
  simp only [zqK,zqH] at hc
  obtain ⟨ax,hx,e⟩:=hc; injection e with e; subst e
  simp only [stepOp] at hs
  have hv:=ev_VR hR hx
  split at hs
  ·rename_i vs e0
   obtain ⟨u,hu,e⟩:=zqG.1 hs
   injection e with e1 e2; subst e1 e2
   rw [e0] at hv
   exact s_extract h hv hu
  ·cases hs
 case call c=>
  unfold compCall at hc
  split at hc
  ·simp only [zqK,zqH] at hc
   obtain ⟨xs,hx,e⟩:=hc; injection e with e; subst e; simp [isCall] at hnc
  ·simp only [zqK,zqH] at hc
   obtain ⟨ax,hx,xs,hxs,e⟩:=hc; injection e with e; subst e; simp [isCall] at hnc
  ·
   rename_i hcal
   split at hc
   ·rename_i t x hat har
    have hat':c.argTypes=#[t]:=by rw [←Array.toArray_toList (xs:=c.argTypes),hat]
    have har':c.args=#[x]:=by rw [←Array.toArray_toList (xs:=c.args),har]
    split at hc
    ·rename_i ht
     simp only [zqK,zqH] at hc
     obtain ⟨ax,hx,e⟩:=hc; injection e with e; subst e
     simp only [stepOp] at hs
     split at hs
     ·cases hs
     rename_i hst
     obtain ⟨n,hn,e⟩:=zqG.1 hs
     injection e with e1 e2; subst e1 e2
     have:=s_len (P:=P) (bs:=bs) h (ev_VR hR hx) hst hn (t:=t) (ty:=o.type) (.inl ⟨rfl,ht⟩)
     simpa [resolve,hcal,invoke,builtin,hat',har'] using this
    ·rename_i e ht
     simp only [zqK,zqH] at hc
     obtain ⟨ax,hx,e'⟩:=hc; injection e' with e'; subst e'
     simp only [stepOp] at hs
     split at hs
     ·cases hs
     rename_i hst
     obtain ⟨n,hn,e'⟩:=zqG.1 hs
     injection e' with e1 e2; subst e1 e2
     have:=s_len (P:=P) (bs:=bs) h (ev_VR hR hx) hst hn (t:=t) (ty:=o.type) (.inr ⟨rfl,e,ht⟩)
     simpa [resolve,hcal,invoke,builtin,hat',har'] using this
    ·cases hc
   ·cases hc
  ·
   rename_i hcal
   split at hc
   ·rename_i t u s x hat har
    have hat':c.argTypes=#[t,u]:=by rw [←Array.toArray_toList (xs:=c.argTypes),hat]
    have har':c.args=#[s,x]:=by rw [←Array.toArray_toList (xs:=c.args),har]
    have hgo:∀ e,P.underlying t=some (.slice e)→(P.underlying u=some .string∨∃ e',P.underlying u=some (.slice e')) →
      (do let sz ← sizeT P e; let zs ← zeroT P e; if zs.length=sz then some (AOp.append sz (← aggT P e) (← (P.info? e).map (·.bytes)) mt (← cx s) (← cx x)) else none)=some ao →
      OpOut bs g ow σ w (Sem.run P (do let d ← resolve a.eval c o.type; invoke d.target d.args) w) v σ':=by
     intro e ht hu hc'
     simp only [zqK,zqH] at hc'
     obtain ⟨sz,hsz,zs,hz,hc'⟩:=hc'
     split at hc'
     ·rename_i hzl
      simp only [zqH] at hc'
      obtain ⟨ag,hag,by',hby,asq,hs',ax,hx,e0⟩:=hc'; injection e0 with e0; subst e0
      simp only [stepOp] at hs
      obtain ⟨i,hi,rfl⟩:=zqG.1 hby
      obtain ⟨i',hi',rfl⟩:=zqG.1 hsz
      rw [hi] at hi'; injection hi' with hi'; subst hi'
      have:=s_appendC (P:=P) (bs:=bs) (ty:=o.type) h ht hu hi rfl hz hzl (ev_VR hR hs') (ev_VR hR hx) hs
      simpa [resolve,hcal,invoke,builtin,hat',har'] using this
     ·cases hc'
    split at hc
    ·rename_i e e' ht hu; exact hgo e ht (.inr ⟨e',hu⟩) hc
    ·rename_i e ht hu; exact hgo e ht (.inl hu) hc
    ·cases hc
   ·cases hc
  ·
   rename_i hcal
   split at hc
   ·rename_i x y har
    have har':c.args=#[x,y]:=by rw [←Array.toArray_toList (xs:=c.args),har]
    simp only [zqK,zqH] at hc
    obtain ⟨ax,hx,ay,hy,e⟩:=hc; injection e with e; subst e
    simp only [stepOp] at hs
    have hvx:=ev_VR hR hx
    have hvy:=ev_VR hR hy
    split at hs
    ·rename_i k n k' m e1 e2
     injection hs with hs; injection hs with e3 e4; subst e3 e4
     rw [e1] at hvx; rw [e2] at hvy
     have hx':=hvx.intv
     have hy':=hvy.intv
     have:=s_min2 (P:=P) (bs:=bs) h (t:=c.argTypes) (ty:=o.type) (k:=k) (k':=k') (x:=n) (y:=m)
     simpa [resolve,hcal,invoke,builtin,har',hx',hy'] using this
    ·cases hs
   ·cases hc
  ·
   rename_i hcal
   simp only [zqK,zqH] at hc
   obtain ⟨xs,hm,e⟩:=hc; injection e with e; subst e
   simp only [stepOp] at hs
   obtain ⟨u,hu,e⟩:=zqG.1 hs
   injection e with e1 e2; subst e1 e2
   have:=s_max (P:=P) (bs:=bs) h hR (t:=c.argTypes) (ty:=o.type) hm hu
   have har:(c.args.toList.map a.eval).toArray=c.args.map a.eval:=by rw [←Array.toList_map]
   rw [har] at this
   simpa [resolve,hcal,invoke,builtin] using this
  ·
   rename_i hcal
   split at hc
   ·rename_i t x hat har
    have hat':c.argTypes=#[t]:=by rw [←Array.toArray_toList (xs:=c.argTypes),hat]
    have har':c.args=#[x]:=by rw [←Array.toArray_toList (xs:=c.args),har]
    split at hc
    ·rename_i e ht
     simp only [zqK,zqH] at hc
     obtain ⟨sz,hsz,zs,hz,hc⟩:=hc
     split at hc
     ·rename_i hcond
      simp only [zqH] at hc
      obtain ⟨ax,hx,e0⟩:=hc; injection e0 with e0; subst e0
      simp only [stepOp] at hs
      obtain ⟨n,hn,e'⟩:=zqG.1 hs
      injection e' with e1 e2; subst e1 e2
      have:=s_clear (P:=P) (bs:=bs) h ht hcond.1 hcond.2 hz (ev_VR hR hx) hn (ty:=o.type)
      simpa [resolve,hcal,invoke,builtin,hat',har'] using this
     ·cases hc
    ·cases hc
   ·cases hc
  ·cases hc
end
end Go.Mach
end
section
namespace Go.Mach
open Go.RowKit
inductive AExit where
 | normal
 | exit (id:Nat)
 | ret
 deriving DecidableEq,Inhabited
abbrev St3:=AExit × Regs × Heap
abbrev CallF:=Nat→List AV→Nat→Heap→Option (AV × Heap)
def guardA (ρ:Regs):Option (Nat × Bool)→Option Bool
 | none=>some true
 | some (d,want)=>match ρ.getD d .undef with
  | .bool b=>some (b == want)
  | .tup _=>some false
  | _=>none
def setDst (ρ:Regs) (dst:Option Nat) (v:AV):Regs:=match dst with
 | some d=>ρ.set d v
 | none=>ρ
def objOf (σ:Heap):AV→Option AObj
 | .ptr id _=>σ[id]?
 | .sl id _ _ _ _=>σ[id]?
 | .map id=>σ[id]?
 | _=>none
def chkA (ρ:Regs) (σ σ':Heap) (l:List AX):Prop:=∀ x∈l,objOf σ (ev ρ x)=objOf σ' (ev ρ x)
abbrev yno:Nat:=18446744073709551616
def callN (call:CallF) (f:Nat) (args:List AV) (bs:Nat) (σ:Heap):Option (AV × Heap):=if f=yno then none else call f args bs σ
def stepAll (call:CallF) (bs:Nat) (ρ:Regs) (σ:Heap):AOp→Option (AV × Heap)
 | .call f args=>callN call f (args.map (ev ρ)) bs σ
 | .callv x args=>match ev ρ x with
  | .func f caps=>callN call f (args.map (ev ρ)++caps) bs σ
  | .meth f first=>callN call f (first++args.map (ev ρ)) bs σ
  | .yld id=>call yno (.yld id :: args.map (ev ρ)) bs σ
  | _=>none
 | op=>stepOp bs ρ σ op
mutual
def AV.same:AV→AV→Bool
 | .undef,.undef=>true
 | .int k n,.int k' n'=>decide (k=k') && decide (n=n')
 | .bool a,.bool b=>decide (a=b)
 | .str s,.str s'=>decide (s=s')
 | .nilptr,.nilptr=>true
 | .nilfunc,.nilfunc=>true
 | .ptr a b,.ptr a' b'=>decide (a=a') && decide (b=b')
 | .iptr cs o,.iptr cs' o'=>sameL cs cs' && decide (o=o')
 | .isl cs o,.isl cs' o'=>sameL cs cs' && decide (o=o')
 | .own i cs,.own i' cs'=>decide (i=i') && sameL cs cs'
 | .sl a b c d e,.sl a' b' c' d' e'=>decide (a=a') && decide (b=b') && decide (c=c') && decide (d=d') && decide (e=e')
 | .func f cs,.func f' cs'=>decide (f=f') && sameL cs cs'
 | .meth f cs,.meth f' cs'=>decide (f=f') && sameL cs cs'
 | .agg cs,.agg cs'=>sameL cs cs'
 | .tup cs,.tup cs'=>sameL cs cs'
 | .nilmap,.nilmap=>true
 | .map i,.map i'=>decide (i=i')
 | .yld i,.yld i'=>decide (i=i')
 | _,_=>false
def sameL:List AV→List AV→Bool
 | [],[]=>true
 | x :: xs,y :: ys=>x.same y && sameL xs ys
 | _,_=>false
end
def sameE:List (AV × AV)→List (AV × AV)→Bool
 | [],[]=>true
 | (k,v) :: es,(k',v') :: es'=>k.same k' && v.same v' && sameE es es'
 | _,_=>false
noncomputable def AObj.same:AObj→AObj→Bool
 | .cells cs f e,.cells cs' f' e'=>sameL cs cs' && decide (f=f') && decide (e=e')
 | .tok n s,.tok n' s'=>decide (n=n') && decide (s=s')
 | .iter s p,.iter s' p'=>decide (s=s') && decide (p=p')
 | .dead,.dead=>true
 | .bld t e l,.bld t' e' l'=>decide (t=t') && decide (e=e') && decide (l=l')
 | .mp es,.mp es'=>sameE es es'
 | .lp a b c d,.lp a' b' c' d'=>@decide (AObj.lp a b c d=AObj.lp a' b' c' d') (Classical.propDecidable _)
 | _,_=>false
noncomputable def sameO:Option AObj→Option AObj→Bool
 | none,none=>true
 | some a,some b=>a.same b
 | _,_=>false
mutual
theorem AV.same_eq:∀ a b:AV,a.same b=true→a=b
 | .undef,b=>by cases b <;> simp [AV.same]
 | .int k n,b=>by cases b <;> simp [AV.same] <;> intros <;> simp [*]
 | .bool a,b=>by cases b <;> simp [AV.same]
 | .str s,b=>by cases b <;> simp [AV.same]
 | .nilptr,b=>by cases b <;> simp [AV.same]
 | .nilfunc,b=>by cases b <;> simp [AV.same]
 | .ptr a c,b=>by cases b <;> simp [AV.same] <;> intros <;> simp [*]
 | .iptr cs o,b=>by
  cases b <;> simp [AV.same]
  intro h1 h2; exact ⟨sameL_eq _ _ h1,h2⟩
 | .isl cs o,b=>by
  cases b <;> simp [AV.same]
  intro h1 h2; exact ⟨sameL_eq _ _ h1,h2⟩
 | .own i cs,b=>by
  cases b <;> simp [AV.same]
  intro h1 h2; exact ⟨h1,sameL_eq _ _ h2⟩
 | .sl a c d e f,b=>by cases b <;> simp [AV.same] <;> intros <;> simp [*]
 | .func f cs,b=>by
  cases b <;> simp [AV.same]
  intro h1 h2; exact ⟨h1,sameL_eq _ _ h2⟩
 | .meth f cs,b=>by
  cases b <;> simp [AV.same]
  intro h1 h2; exact ⟨h1,sameL_eq _ _ h2⟩
 | .agg cs,b=>by
  cases b <;> simp [AV.same]
  intro h1; exact sameL_eq _ _ h1
 | .tup cs,b=>by
  cases b <;> simp [AV.same]
  intro h1; exact sameL_eq _ _ h1
 | .nilmap,b=>by cases b <;> simp [AV.same]
 | .map i,b=>by cases b <;> simp [AV.same]
 | .yld i,b=>by cases b <;> simp [AV.same]
theorem sameL_eq:∀ a b:List AV,sameL a b=true→a=b
 | [],b=>by cases b <;> simp [sameL]
 | x :: xs,b=>by
  cases b <;> simp [sameL]
  intro h1 h2; exact ⟨AV.same_eq _ _ h1,sameL_eq _ _ h2⟩
end
mutual
theorem AV.same_refl:∀ a:AV,a.same a=true
 | .undef | .int _ _ | .bool _ | .str _ | .nilptr | .nilfunc | .ptr _ _ | .sl _ _ _ _ _ | .nilmap | .map _ | .yld _=>by simp [AV.same]
 | .iptr cs _ | .isl cs _ | .own _ cs | .func _ cs | .meth _ cs | .agg cs | .tup cs=>by simp [AV.same,sameL_refl cs]
theorem sameL_refl:∀ a:List AV,sameL a a=true
 | []=>by simp [sameL]
 | x :: xs=>by simp [sameL,AV.same_refl x,sameL_refl xs]
end
theorem sameE_eq:∀ a b:List (AV × AV),sameE a b=true→a=b
 | [],b=>by cases b <;> simp [sameE]
 | (k,v) :: es,b=>by
  cases b with
  | nil=>simp [sameE]
  | cons y ys=>
   obtain ⟨k',v'⟩:=y
   simp only [sameE,zqL]
   rintro ⟨⟨h1,h2⟩,h3⟩
   rw [AV.same_eq _ _ h1,AV.same_eq _ _ h2,sameE_eq _ _ h3]
theorem sameE_refl:∀ a:List (AV × AV),sameE a a=true
 | []=>rfl
 | (k,v) :: es=>by simp [sameE,AV.same_refl,sameE_refl es]
theorem sameO_iff (a b:Option AObj):sameO a b=true↔a=b:=by
 constructor
 ·intro h
  cases a with
  | none=>cases b with
   | none=>rfl
   | some y=>simp [sameO] at h
  | some x=>cases b with
   | none=>simp [sameO] at h
   | some y=>
    simp only [sameO] at h
    cases x <;> cases y <;> simp [AObj.same] at h
    ·obtain ⟨⟨h1,h2⟩,h3⟩:=h; rw [sameL_eq _ _ h1,h2,h3]
    ·simp [h]
    ·simp [h]
    ·rfl
    ·simp [h]
    ·rw [sameE_eq _ _ h]
    ·obtain ⟨rfl,rfl,rfl,rfl⟩:=h; rfl
 ·rintro rfl
  cases a with
  | none=>rfl
  | some x=>cases x <;> simp [sameO,AObj.same,sameL_refl,sameE_refl]
noncomputable def chkO (ρ:Regs) (σ σ':Heap) (l:List AX):Option Unit:=if l.all (fun x=>sameO (objOf σ (ev ρ x)) (objOf σ' (ev ρ x)))=true then some () else none
theorem chkO_some {ρ:Regs} {σ σ':Heap} {l:List AX} {u:Unit} (h:chkO ρ σ σ' l=some u):chkA ρ σ σ' l:=by
 unfold chkO at h
 split at h
 ·rename_i hl
  intro x hx
  exact (sameO_iff _ _).1 (zqQ.1 hl x hx)
 ·cases h
theorem chkO_nil (ρ:Regs) (σ σ':Heap):chkO ρ σ σ' []=some ():=rfl
noncomputable def runOps (call:CallF) (bs:Nat):List AOper→Regs→Heap→Option (Regs × Heap)
 | [],ρ,σ=>some (ρ,σ)
 | o :: os,ρ,σ=>(guardA ρ o.guard).bind fun b=>match b with
  | true=>(stepAll call bs ρ σ o.op).bind fun r=>(chkO ρ σ r.2 o.chk).bind fun _=>runOps call bs os (setDst ρ o.dst r.1) r.2
  | false=>runOps call bs os (setDst ρ o.dst (.tup [])) σ
def loopN (body:Regs→Heap→Option St3):Nat→Regs→Heap→Option St3
 | 0,_,_=>none
 | n+1,ρ,σ=>(body ρ σ).bind fun r=>match r with
  | (.normal,ρ',σ')=>loopN body n ρ' σ'
  | r=>some r
def onNormal (r:St3) (k:Regs→Heap→Option St3):Option St3:=match r with
 | (.normal,ρ,σ)=>k ρ σ
 | r=>some r
def outBlock (id:Nat):St3→St3
 | (.exit id',ρ,σ)=>if id'=id then (.normal,ρ,σ) else (.exit id',ρ,σ)
 | r=>r
abbrev gno:Nat:=18446744073709551616
def gotoL (e:AExit) (l:Nat):Bool:=match e with
 | .exit id=>decide (id=gno+l)
 | _=>false
def scopeN (l:Nat) (rest:Regs→Heap→Option St3):Nat→St3→Option St3
 | 0,r=>if gotoL r.1 l=true then none else some r
 | n+1,r=>if gotoL r.1 l=true then (rest r.2.1 r.2.2).bind (scopeN l rest n) else some r
def pdX:Option Code→Option AExit
 | none=>some .normal
 | some .ret=>some .ret
 | some (.exit i)=>some (.exit i)
 | _=>none
def exPd:AExit→Option Code
 | .normal=>none
 | .ret=>some .ret
 | .exit i=>some (.exit i)
def endLp (id:Nat) (ρ:Regs) (σ:Heap):Option St3:=match σ[id]? with
 | some (.lp rc tm st pd)=>if st=.busy then none else (pdX pd).bind fun e=>match e with
  | .exit i=>if i<gno then some (.exit i,ρ,σ.set id (.lp rc tm .exhausted pd)) else none
  | e=>some (e,ρ,σ.set id (.lp rc tm .exhausted pd))
 | _=>none
noncomputable def exec (call:CallF) (k bs:Nat):ACode→Regs→Heap→Option St3
 | .skip,ρ,σ=>some (.normal,ρ,σ)
 | .region ops,ρ,σ=>(runOps call bs ops ρ σ).map fun (ρ,σ)=>(.normal,ρ,σ)
 | .seq a b,ρ,σ=>(exec call k bs a ρ σ).bind fun r=>onNormal r (exec call k bs b)
 | .cond c x y,ρ,σ=>match ev ρ c with
  | .bool true=>exec call k bs x ρ σ
  | .bool false=>exec call k bs y ρ σ
  | _=>none
 | .block id c,ρ,σ=>(exec call k bs c ρ σ).map (outBlock id)
 | .loop c,ρ,σ=>loopN (exec call k bs c) k ρ σ
 | .exit id,ρ,σ=>some (.exit id,ρ,σ)
 | .ret,ρ,σ=>some (.ret,ρ,σ)
 | .lab _,ρ,σ=>some (.normal,ρ,σ)
 | .scope c l rest,ρ,σ=>(exec call k bs c ρ σ).bind (scopeN l (exec call k bs rest) k)
 | .rfn x rc,ρ,σ=>match ev ρ x with
  | .func f caps=>(callN call f (.yld σ.length :: caps) bs (σ++[.lp rc ρ .ready none])).bind fun r=>endLp σ.length ρ r.2
  | _=>none
def resA (ρ:Regs) (σ:Heap):List ARes→Option (List AV)
 | []=>some []
 | .tmp t :: rs=>(resA ρ σ rs).map fun vs=>ρ.getD t .undef :: vs
 | .cell a sz ag :: rs=>(loadA σ sz ag (ρ.getD a .undef)).bind fun v=>(resA ρ σ rs).map fun vs=>v :: vs
def res1:List AV→AV
 | [v]=>v
 | vs=>.tup vs
def refLt0 (n:Nat):AV→Bool
 | .ptr id _ | .own id _ | .sl id _ _ _ _ | .map id | .yld id=>decide (id<n)
 | .undef | .int _ _ | .bool _ | .str _ | .nilptr | .nilfunc | .iptr _ _ | .isl _ _ | .nilmap=>true
 | _=>false
def refLt1 (n:Nat):AV→Bool
 | .func _ caps=>caps.all (refLt0 n)
 | .meth _ first=>first.all (refLt0 n)
 | v=>refLt0 n v
def refLt2 (n:Nat):AV→Bool
 | .agg cs=>cs.all (refLt1 n)
 | v=>refLt1 n v
def refLt (n:Nat):AV→Bool
 | .tup vs=>vs.all (refLt2 n)
 | v=>refLt2 n v
def closeArgs (c:Bool) (σ:Heap) (args:List AV):Option (List AV × Heap):=if c then closeT σ args else some (args,σ)
def closeRes (c:Bool) (σ:Heap) (v:AV):Option (AV × Heap):=if c then closeR σ v else some (v,σ)
def dropA (m:Mode) (n:Nat) (r:AV × Heap):Option (AV × Heap):=match m with
 | .raw=>some r
 | _=>if refLt n r.1=true then some (r.1,r.2.take n) else none
def finA (af:AFunc) (n:Nat) (r:St3):Option (AV × Heap):=match r with
 | (.exit _,_,_)=>none
 | (_,ρ,σ)=>(resA ρ σ af.res).bind fun vs=>(closeRes af.clRes σ (res1 vs)).bind (dropA af.mode n)
def AV.cloC:AV→Bool
 | .iptr cs _=>cs.all AV.clo1
 | v=>v.clo1
def AV.dat1:AV→Bool
 | .iptr cs _=>cs.all AV.clo1
 | .func _ cs=>cs.all AV.cloC
 | .meth _ cs=>cs.all AV.cloC
 | v=>v.clo1
def AV.dat:AV→Bool
 | .agg cs=>cs.all AV.dat1
 | v=>v.dat1
def AV.datR:AV→Bool
 | .tup vs=>vs.all AV.dat
 | v=>v.dat
def AV.scal1:AV→Bool
 | .int _ _ | .bool _ | .str _ | .nilptr | .nilfunc=>true
 | _=>false
def AV.scal:AV→Bool
 | .tup vs=>vs.all AV.scal1
 | v=>v.scal1
def finP (af:AFunc) (r:St3):Option AV:=match r with
 | (.exit _,_,_)=>none
 | (_,ρ,σ)=>(resA ρ σ af.res).bind fun vs=>(closeR σ (res1 vs)).bind fun x=>if x.1.datR=true then some x.1 else none
def startA (af:AFunc) (args:List AV):Regs:=args++List.replicate (af.ntmps - args.length) .undef
def baseA (af:AFunc) (bs n:Nat):Nat:=match af.mode with | .raw=>bs | _=>n
structure Tab where
 fn:Nat→Option AFunc
 pr:Nat→Option (List AV→Nat→Heap→Option (AV × Heap))
 rd:RCode→Option (Nat × ACode × ACode):=fun _=>none
def putAll (ps:List Nat) (xs:List AV) (tm:Regs):Regs:=(ps.zip xs).foldl (fun t p=>t.set p.1 p.2) tm
def begLp (id:Nat) (σ:Heap):Option Heap:=match σ[id]? with
 | some (.lp rc tm .ready pd)=>some (σ.set id (.lp rc tm .busy pd))
 | _=>none
def endRd (id:Nat) (r:St3):Option (AV × Heap):=match r.2.2[id]? with
 | some (.lp rc tm _ _)=>match r.1 with
  | .normal=>some (.bool true,r.2.2.set id (.lp rc tm .ready none))
  | .ret=>some (.bool false,r.2.2.set id (.lp rc tm .done (some .ret)))
  | .exit i=>if i<gno then some (.bool false,r.2.2.set id (.lp rc tm .done (some (.exit i)))) else none
 | _=>none
def bodyA (id:Nat) (body:Regs→Heap→Option St3) (r:St3):Option (AV × Heap):=match r with
 | (.normal,ρ,σ)=>(begLp id σ).bind fun σ2=>(body ρ σ2).bind (endRd id)
 | _=>none
def roundA (rd:RCode→Option (Nat × ACode × ACode)) (ex:ACode→Regs→Heap→Option St3) (args:List AV) (σ:Heap):Option (AV × Heap):=match args with
 | .yld id :: xs=>match σ[id]? with
  | some (.lp rc tm _ _)=>(rd rc).bind fun p=>if xs.length=rc.params.size∧p.1≤tm.length then (ex p.2.1 (putAll rc.params.toList xs tm) σ).bind (bodyA id (ex p.2.2)) else none
  | _=>none
 | _=>none
noncomputable def evalFn (T:Tab):Nat→CallF
 | 0,_,_,_,_=>none
 | k+1,f,args,bs,σ=>match T.pr f with
  | some p=>p args bs σ
  | none=>match T.fn f with
   | none=>if f=yno then roundA T.rd (exec (evalFn T k) k bs) args σ else none
   | some af=>match af.mode with
    | .pure=>(closeT σ args).bind fun r=>if r.1.all AV.dat=true then ((exec (evalFn T k) k 0 af.body (startA af r.1) []).bind (finP af)).map (fun v=>(v,if v.scal=true then σ else r.2)) else none
    | _=>(closeArgs af.clArgs σ args).bind fun r=>(exec (evalFn T k) k (baseA af bs r.2.length) af.body (startA af r.1) r.2).bind (finA af r.2.length)
def LeO {α:Type} (a b:Option α):Prop:=∀ r,a=some r→b=some r
theorem LeO.refl {α:Type} (a:Option α):LeO a a:=fun _ h=>h
theorem LeO.bind {α β:Type} {a a':Option α} {f f':α→Option β} (h:LeO a a') (k:∀ x,LeO (f x) (f' x)):LeO (a.bind f) (a'.bind f'):=by
 intro r hr
 obtain ⟨x,hx,hf⟩:=zqH.1 hr
 exact zqH.2 ⟨x,h x hx,k x r hf⟩
theorem LeO.map {α β:Type} {a a':Option α} (f:α→β) (h:LeO a a'):LeO (a.map f) (a'.map f):=by
 intro r hr
 obtain ⟨x,hx,hf⟩:=zqG.1 hr
 exact zqG.2 ⟨x,h x hx,hf⟩
def CallLe (c c':CallF):Prop:=∀ f args bs σ,LeO (c f args bs σ) (c' f args bs σ)
theorem callN_mono {c c':CallF} (h:CallLe c c') (f:Nat) (args:List AV) (bs:Nat) (σ:Heap):LeO (callN c f args bs σ) (callN c' f args bs σ):=by
 unfold callN; split
 ·exact LeO.refl _
 ·exact h _ _ _ _
theorem stepAll_mono {c c':CallF} (h:CallLe c c') (bs:Nat) (ρ:Regs) (σ:Heap) (op:AOp):LeO (stepAll c bs ρ σ op) (stepAll c' bs ρ σ op):=by
 cases op <;> try exact LeO.refl _
 ·exact callN_mono h _ _ _ _
 ·simp only [stepAll]; split
  ·exact callN_mono h _ _ _ _
  ·exact callN_mono h _ _ _ _
  ·exact h _ _ _ _
  ·exact LeO.refl _
theorem runOps_mono {c c':CallF} (h:CallLe c c') (bs:Nat):∀ (os:List AOper) (ρ:Regs) (σ:Heap),LeO (runOps c bs os ρ σ) (runOps c' bs os ρ σ)
 | [],_,_=>LeO.refl _
 | o :: os,ρ,σ=>by
  simp only [runOps]
  refine (LeO.refl _).bind fun b=>?_
  cases b with
  | true=>exact LeO.bind (stepAll_mono h bs ρ σ o.op) fun r=>(LeO.refl _).bind fun _=>runOps_mono h bs os _ _
  | false=>exact runOps_mono h bs os _ _
theorem loopN_mono {b b':Regs→Heap→Option St3} (h:∀ ρ σ,LeO (b ρ σ) (b' ρ σ)):∀ (n m:Nat) (ρ:Regs) (σ:Heap),n≤m→LeO (loopN b n ρ σ) (loopN b' m ρ σ)
 | 0,_,_,_,_=>fun r hr=>by simp [loopN] at hr
 | n+1,0,_,_,hm=>absurd hm (by omega)
 | n+1,m+1,ρ,σ,hm=>by
  simp only [loopN]
  refine (h ρ σ).bind fun r=>?_
  obtain ⟨e,ρ',σ'⟩:=r
  cases e with
  | normal=>exact loopN_mono h n m ρ' σ' (by omega)
  | exit _=>exact LeO.refl _
  | ret=>exact LeO.refl _
theorem scopeN_mono {l:Nat} {b b':Regs→Heap→Option St3} (h:∀ ρ σ,LeO (b ρ σ) (b' ρ σ)):∀ (n m:Nat) (r:St3),n≤m→LeO (scopeN l b n r) (scopeN l b' m r)
 | 0,0,r,_=>LeO.refl _
 | 0,m+1,r,_=>by
  simp only [scopeN]; split
  ·intro x hx; cases hx
  ·exact LeO.refl _
 | n+1,0,r,hm=>absurd hm (by omega)
 | n+1,m+1,r,hm=>by
  simp only [scopeN]; split
  ·exact (h _ _).bind fun r=>scopeN_mono h n m r (by omega)
  ·exact LeO.refl _
theorem exec_mono {c c':CallF} (h:CallLe c c') {k k':Nat} (hk:k≤k') (bs:Nat):∀ (code:ACode) (ρ:Regs) (σ:Heap),LeO (exec c k bs code ρ σ) (exec c' k' bs code ρ σ)
 | .skip,_,_=>LeO.refl _
 | .region ops,ρ,σ=>(runOps_mono h bs ops ρ σ).map _
 | .seq a b,ρ,σ=>by
  simp only [exec]
  refine (exec_mono h hk bs a ρ σ).bind fun r=>?_
  obtain ⟨e,ρ',σ'⟩:=r
  cases e with
  | normal=>exact exec_mono h hk bs b ρ' σ'
  | exit _=>exact LeO.refl _
  | ret=>exact LeO.refl _
 | .cond cc x y,ρ,σ=>by
  simp only [exec]; split
  ·exact exec_mono h hk bs x ρ σ
  ·exact exec_mono h hk bs y ρ σ
  ·exact LeO.refl _
 | .block id cc,ρ,σ=>(exec_mono h hk bs cc ρ σ).map _
 | .loop cc,ρ,σ=>loopN_mono (fun ρ σ=>exec_mono h hk bs cc ρ σ) k k' ρ σ hk
 | .exit _,_,_=>LeO.refl _
 | .ret,_,_=>LeO.refl _
 | .lab _,_,_=>LeO.refl _
 | .scope cc l rest,ρ,σ=>by
  simp only [exec]
  exact (exec_mono h hk bs cc ρ σ).bind fun r=>scopeN_mono (fun ρ σ=>exec_mono h hk bs rest ρ σ) k k' r hk
 | .rfn x rc,ρ,σ=>by
  simp only [exec]; split
  ·exact (callN_mono h _ _ _ _).bind fun r=>LeO.refl _
  ·exact LeO.refl _
theorem roundA_mono {rd:RCode→Option (Nat × ACode × ACode)} {ex ex':ACode→Regs→Heap→Option St3} (h:∀ c ρ σ,LeO (ex c ρ σ) (ex' c ρ σ)) (args:List AV) (σ:Heap):LeO (roundA rd ex args σ) (roundA rd ex' args σ):=by
 unfold roundA
 split
 ·split
  ·refine (LeO.refl _).bind fun p=>?_
   split
   ·refine (h _ _ _).bind fun r=>?_
    unfold bodyA
    split
    ·exact (LeO.refl _).bind fun σ2=>(h _ _ _).bind fun r=>LeO.refl _
    ·exact LeO.refl _
   ·exact LeO.refl _
  ·exact LeO.refl _
 ·exact LeO.refl _
theorem evalFn_succ (T:Tab):∀ k,CallLe (evalFn T k) (evalFn T (k+1))
 | 0=>fun f args bs σ r hr=>by simp [evalFn] at hr
 | k+1=>fun f args bs σ=>by
  have ih:=evalFn_succ T k
  show LeO (evalFn T (k+1) f args bs σ) (evalFn T (k+1+1) f args bs σ)
  unfold evalFn
  split
  ·exact LeO.refl _
  split
  ·split
   ·exact roundA_mono (fun c ρ σ=>exec_mono ih (Nat.le_succ k) bs c ρ σ) args σ
   ·exact LeO.refl _
  ·split
   ·refine (LeO.refl _).bind fun r=>?_
    split
    ·exact LeO.map _ (LeO.bind (exec_mono ih (Nat.le_succ k) _ _ _ _) fun x=>LeO.refl _)
    ·exact LeO.refl _
   ·exact (LeO.refl _).bind fun r=>LeO.bind (exec_mono ih (Nat.le_succ k) _ _ _ _) fun x=>LeO.refl _
theorem evalFn_mono (T:Tab) {k k':Nat} (h:k≤k'):CallLe (evalFn T k) (evalFn T k'):=by
 induction h with
 | refl=>exact fun _ _ _ _=>LeO.refl _
 | step h ih=>exact fun f args bs σ r hr=>evalFn_succ T _ f args bs σ r (ih f args bs σ r hr)
open Classical in
noncomputable def lim {α:Type} (f:Nat→Option α):Option α:=if h:∃ k r,f k=some r then f h.choose else none
structure Mono {α:Type} (f:Nat→Option α):Prop where
 le:∀ k k',k≤k'→LeO (f k) (f k')
theorem lim_eq {α:Type} {f:Nat→Option α} (h:Mono f) {k:Nat} {r:α} (hr:f k=some r):lim f=some r:=by
 unfold lim
 have hex:∃ k r,f k=some r:=⟨k,r,hr⟩
 rw [dif_pos hex]
 obtain ⟨r',hr'⟩:=hex.choose_spec
 rcases Nat.le_total k hex.choose with hle | hle
 ·exact h.le _ _ hle r hr
 ·have:=h.le _ _ hle r' hr'
  rw [hr] at this; injection this with this; subst this; exact hr'
theorem lim_some {α:Type} {f:Nat→Option α} {r:α} (h:lim f=some r):∃ k,f k=some r:=by
 unfold lim at h
 split at h
 ·exact ⟨_,h⟩
 ·cases h
theorem lim_iff {α:Type} {f:Nat→Option α} (h:Mono f) (r:α):lim f=some r↔∃ k,f k=some r:=⟨lim_some,fun ⟨_,hk⟩=>lim_eq h hk⟩
theorem opt_ext {α:Type} {a b:Option α} (h:∀ r,a=some r↔b=some r):a=b:=by
 cases a with
 | none=>cases b with
  | none=>rfl
  | some y=>exact absurd ((h y).2 rfl) (by simp)
 | some x=>exact ((h x).1 rfl).symm
theorem lim_const {α:Type} (a:Option α):lim (fun _=>a)=a:=opt_ext fun r=>by
 rw [lim_iff ⟨fun _ _ _=>LeO.refl _⟩]; exact ⟨fun ⟨_,h⟩=>h,fun h=>⟨0,h⟩⟩
theorem lim_bind {α β:Type} {f:Nat→Option α} {g:Nat→α→Option β} (hf:Mono f) (hg:∀ x,Mono fun k=>g k x):lim (fun k=>(f k).bind (g k))=(lim f).bind fun x=>lim fun k=>g k x:=by
 have hm:Mono fun k=>(f k).bind (g k):=⟨fun k k' h=>(hf.le k k' h).bind fun x=>(hg x).le k k' h⟩
 refine opt_ext fun r=>?_
 rw [lim_iff hm,zqH]
 constructor
 ·rintro ⟨k,hk⟩
  obtain ⟨x,hx,hg'⟩:=zqH.1 hk
  exact ⟨x,lim_eq hf hx,lim_eq (hg x) hg'⟩
 ·rintro ⟨x,hx,hg'⟩
  obtain ⟨k,hk⟩:=lim_some hx
  obtain ⟨k',hk'⟩:=lim_some hg'
  refine ⟨max k k',zqH.2 ⟨x,hf.le _ _ (Nat.le_max_left ..) x hk,(hg x).le _ _ (Nat.le_max_right ..) r hk'⟩⟩
theorem lim_map {α β:Type} {f:Nat→Option α} (g:α→β) (hf:Mono f):lim (fun k=>(f k).map g)=(lim f).map g:=by
 have hm:Mono fun k=>(f k).map g:=⟨fun k k' h=>(hf.le k k' h).map g⟩
 refine opt_ext fun r=>?_
 rw [lim_iff hm,zqG]
 constructor
 ·rintro ⟨k,hk⟩
  obtain ⟨x,hx,rfl⟩:=zqG.1 hk
  exact ⟨x,lim_eq hf hx,rfl⟩
 ·rintro ⟨x,hx,rfl⟩
  obtain ⟨k,hk⟩:=lim_some hx
  exact ⟨k,zqG.2 ⟨x,hk,rfl⟩⟩
noncomputable def callT (T:Tab):CallF:=fun f args bs σ=>lim fun k=>evalFn T k f args bs σ
noncomputable def execT (T:Tab) (bs:Nat) (c:ACode) (ρ:Regs) (σ:Heap):Option St3:=lim fun k=>exec (evalFn T k) k bs c ρ σ
noncomputable def opsT (T:Tab) (bs:Nat) (os:List AOper) (ρ:Regs) (σ:Heap):Option (Regs × Heap):=lim fun k=>runOps (evalFn T k) bs os ρ σ
theorem evalFn_M (T:Tab) (f:Nat) (args:List AV) (bs:Nat) (σ:Heap):Mono fun k=>evalFn T k f args bs σ:=⟨fun _ _ h=>evalFn_mono T h f args bs σ⟩
theorem exec_M (T:Tab) (bs:Nat) (c:ACode) (ρ:Regs) (σ:Heap):Mono fun k=>exec (evalFn T k) k bs c ρ σ:=⟨fun _ _ h=>exec_mono (evalFn_mono T h) h bs c ρ σ⟩
theorem runOps_M (T:Tab) (bs:Nat) (os:List AOper) (ρ:Regs) (σ:Heap):Mono fun k=>runOps (evalFn T k) bs os ρ σ:=⟨fun _ _ h=>runOps_mono (evalFn_mono T h) bs os ρ σ⟩
theorem stepAll_M (T:Tab) (bs:Nat) (ρ:Regs) (σ:Heap) (op:AOp):Mono fun k=>stepAll (evalFn T k) bs ρ σ op:=⟨fun _ _ h=>stepAll_mono (evalFn_mono T h) bs ρ σ op⟩
section
variable (T:Tab) (bs:Nat) (ρ:Regs) (σ:Heap)
theorem callT_succ (f:Nat) (args:List AV):callT T f args bs σ=lim fun k=>evalFn T (k+1) f args bs σ:=opt_ext fun r=>by
 unfold callT
 rw [lim_iff (evalFn_M ..),lim_iff ⟨fun k k' h=>evalFn_mono T (Nat.add_le_add_right h 1) f args bs σ⟩]
 exact ⟨fun ⟨k,hk⟩=>⟨k,evalFn_succ T k f args bs σ r hk⟩,fun ⟨k,hk⟩=>⟨k+1,hk⟩⟩
theorem callT_fn {f:Nat} {af:AFunc} (hp:T.pr f=none) (hf:T.fn f=some af) (hm:af.mode≠.pure) (args:List AV) :
  callT T f args bs σ=(closeArgs af.clArgs σ args).bind fun r=>(execT T (baseA af bs r.2.length) af.body (startA af r.1) r.2).bind (finA af r.2.length):=by
 rw [callT_succ]
 have h1:∀ k,evalFn T (k+1) f args bs σ=(closeArgs af.clArgs σ args).bind fun r=>(exec (evalFn T k) k (baseA af bs r.2.length) af.body (startA af r.1) r.2).bind (finA af r.2.length):=fun k=>by
  simp only [evalFn,hp,hf]
 simp only [h1]
 cases hc:closeArgs af.clArgs σ args with
 | none=>simp only [Option.bind_none]; exact lim_const none
 | some r=>
  simp only [Option.bind_some]
  rw [lim_bind (exec_M ..) (fun x=>⟨fun _ _ _=>LeO.refl _⟩)]
  simp only [lim_const,execT]
noncomputable def pureT (T:Tab) (af:AFunc) (args:List AV):Option AV:=(execT T 0 af.body (startA af args) []).bind (finP af)
theorem callT_pure {f:Nat} {af:AFunc} (hp:T.pr f=none) (hf:T.fn f=some af) (hm:af.mode=.pure) (args:List AV) :
  callT T f args bs σ=(closeT σ args).bind fun r=>if r.1.all AV.dat=true then (pureT T af r.1).map (fun v=>(v,if v.scal=true then σ else r.2)) else none:=by
 rw [callT_succ]
 simp only [evalFn,hp,hf,hm]
 cases hc:closeT σ args with
 | none=>simp only [Option.bind_none]; exact lim_const none
 | some r=>
  simp only [Option.bind_some]
  split
  ·rw [lim_map _ ⟨fun k k' h=>LeO.bind ((exec_M T 0 af.body (startA af r.1) []).le k k' h) fun _=>LeO.refl _⟩,lim_bind (exec_M ..) (fun x=>⟨fun _ _ _=>LeO.refl _⟩)]
   simp only [lim_const,execT,pureT]
  ·exact lim_const none
theorem callT_pr {f:Nat} {p:List AV→Nat→Heap→Option (AV × Heap)} (hp:T.pr f=some p) (args:List AV):callT T f args bs σ=p args bs σ:=by
 rw [callT_succ]; simp only [evalFn,hp]; exact lim_const _
theorem callN_lim (f:Nat) (args:List AV):(lim fun k=>callN (evalFn T k) f args bs σ)=callN (callT T) f args bs σ:=by
 unfold callN; split
 ·exact lim_const _
 ·rfl
theorem callT_yld (hp:T.pr yno=none) (hf:T.fn yno=none) (args:List AV):callT T yno args bs σ=roundA T.rd (execT T bs) args σ:=by
 rw [callT_succ]
 simp only [evalFn,hp,hf,if_true]
 unfold roundA
 split
 ·split
  ·rw [lim_bind (f:=fun _=>T.rd _) ⟨fun _ _ _=>LeO.refl _⟩ (fun p=>⟨fun k k' h=>by
    split
    ·refine ((exec_M T bs p.2.1 _ σ).le k k' h).bind fun r=>?_
     unfold bodyA; split
     ·exact (LeO.refl _).bind fun σ2=>((exec_M T bs p.2.2 _ σ2).le k k' h).bind fun r=>LeO.refl _
     ·exact LeO.refl _
    ·exact LeO.refl _⟩),lim_const]
   congr 1; funext p
   split
   ·rw [lim_bind (exec_M ..) (fun r=>⟨fun k k' h=>by
     unfold bodyA; split
     ·exact (LeO.refl _).bind fun σ2=>((exec_M T bs p.2.2 _ σ2).le k k' h).bind fun r=>LeO.refl _
     ·exact LeO.refl _⟩)]
    show (execT T bs p.2.1 _ σ).bind _=_
    congr 1; funext r
    unfold bodyA
    split
    ·rw [lim_bind (f:=fun _=>begLp _ _) ⟨fun _ _ _=>LeO.refl _⟩ (fun σ2=>⟨fun k k' h=>((exec_M T bs p.2.2 _ σ2).le k k' h).bind fun r=>LeO.refl _⟩),lim_const]
     congr 1; funext σ2
     rw [lim_bind (exec_M ..) (fun x=>⟨fun _ _ _=>LeO.refl _⟩)]
     simp only [lim_const,execT]
    ·exact lim_const _
   ·exact lim_const _
  ·exact lim_const _
 ·exact lim_const _
theorem execT_lab (l:Nat):execT T bs (.lab l) ρ σ=some (.normal,ρ,σ):=lim_const _
theorem execT_skip:execT T bs .skip ρ σ=some (.normal,ρ,σ):=lim_const _
theorem execT_exit (id:Nat):execT T bs (.exit id) ρ σ=some (.exit id,ρ,σ):=lim_const _
theorem execT_ret:execT T bs .ret ρ σ=some (.ret,ρ,σ):=lim_const _
theorem execT_region (os:List AOper):execT T bs (.region os) ρ σ=(opsT T bs os ρ σ).map fun r=>(.normal,r.1,r.2):=lim_map _ (runOps_M ..)
theorem execT_seq (a b:ACode):execT T bs (.seq a b) ρ σ=(execT T bs a ρ σ).bind fun r=>onNormal r (execT T bs b):=by
 unfold execT
 simp only [exec]
 rw [lim_bind (exec_M ..) (fun r=>?_)]
 ·congr 1; funext r
  obtain ⟨e,ρ',σ'⟩:=r
  cases e with
  | normal=>rfl
  | exit _=>exact lim_const _
  | ret=>exact lim_const _
 ·obtain ⟨e,ρ',σ'⟩:=r
  cases e with
  | normal=>exact exec_M T bs b ρ' σ'
  | exit _=>exact ⟨fun _ _ _=>LeO.refl _⟩
  | ret=>exact ⟨fun _ _ _=>LeO.refl _⟩
theorem execT_cond (c:AX) (x y:ACode):execT T bs (.cond c x y) ρ σ=(match ev ρ c with
  | .bool true=>execT T bs x ρ σ
  | .bool false=>execT T bs y ρ σ
  | _=>none):=by
 unfold execT
 simp only [exec]
 split
 ·rfl
 ·rfl
 ·exact lim_const _
theorem execT_block (id:Nat) (c:ACode):execT T bs (.block id c) ρ σ=(execT T bs c ρ σ).map (outBlock id):=lim_map _ (exec_M ..)
theorem execT_loop (c:ACode):execT T bs (.loop c) ρ σ=(execT T bs c ρ σ).bind fun r=>onNormal r (execT T bs (.loop c)):=by
 have hm:∀ ρ σ,Mono fun k=>loopN (exec (evalFn T k) k bs c) k ρ σ:=fun ρ σ=>exec_M T bs (.loop c) ρ σ
 have h1:execT T bs (.loop c) ρ σ=lim fun k=>loopN (exec (evalFn T k) k bs c) (k+1) ρ σ:=opt_ext fun r=>by
  unfold execT
  have hm':Mono fun k=>loopN (exec (evalFn T k) k bs c) (k+1) ρ σ:=⟨fun k k' h=>loopN_mono (fun ρ σ=>exec_mono (evalFn_mono T h) h bs c ρ σ) _ _ ρ σ (by omega)⟩
  rw [lim_iff (exec_M ..),lim_iff hm']
  simp only [exec]
  exact ⟨fun ⟨k,hk⟩=>⟨k,loopN_mono (fun ρ σ=>LeO.refl _) _ _ ρ σ (Nat.le_succ k) r hk⟩,fun ⟨k,hk⟩=>⟨k+1,loopN_mono (fun ρ σ=>exec_mono (evalFn_mono T (Nat.le_succ k)) (Nat.le_succ k) bs c ρ σ) _ _ ρ σ (Nat.le_refl _) r hk⟩⟩
 rw [h1]
 simp only [loopN]
 rw [lim_bind (exec_M ..) (fun r=>?_)]
 ·unfold execT; congr 1; funext r
  obtain ⟨e,ρ',σ'⟩:=r
  cases e with
  | normal=>rfl
  | exit _=>exact lim_const _
  | ret=>exact lim_const _
 ·obtain ⟨e,ρ',σ'⟩:=r
  cases e with
  | normal=>exact hm ρ' σ'
  | exit _=>exact ⟨fun _ _ _=>LeO.refl _⟩
  | ret=>exact ⟨fun _ _ _=>LeO.refl _⟩
theorem opsT_nil:opsT T bs [] ρ σ=some (ρ,σ):=lim_const _
theorem stepAllT (op:AOp):(lim fun k=>stepAll (evalFn T k) bs ρ σ op)=stepAll (callT T) bs ρ σ op:=by
 cases op <;> try exact lim_const _
 ·exact callN_lim ..
 ·simp only [stepAll]; split
  ·exact callN_lim ..
  ·exact callN_lim ..
  ·rfl
  ·exact lim_const _
theorem opsT_cons (o:AOper) (os:List AOper):opsT T bs (o :: os) ρ σ=(guardA ρ o.guard).bind fun b=>match b with
  | true=>(stepAll (callT T) bs ρ σ o.op).bind fun r=>(chkO ρ σ r.2 o.chk).bind fun _=>opsT T bs os (setDst ρ o.dst r.1) r.2
  | false=>opsT T bs os (setDst ρ o.dst (.tup [])) σ:=by
 unfold opsT
 simp only [runOps]
 cases hg:guardA ρ o.guard with
 | none=>simp only [Option.bind_none]; exact lim_const none
 | some b=>
  simp only [Option.bind_some]
  cases b with
  | false=>rfl
  | true=>
   rw [←stepAllT]
   simp only
   refine (lim_bind (f:=fun k=>stepAll (evalFn T k) bs ρ σ o.op) (g:=fun k r=>(chkO ρ σ r.2 o.chk).bind fun _=>runOps (evalFn T k) bs os (setDst ρ o.dst r.1) r.2) (stepAll_M ..)
    (fun r=>⟨fun k k' h=>LeO.bind (LeO.refl _) fun _=>(runOps_M ..).le k k' h⟩)).trans ?_
   congr 1; funext r
   refine (lim_bind (f:=fun _=>chkO ρ σ r.2 o.chk) (g:=fun k _=>runOps (evalFn T k) bs os (setDst ρ o.dst r.1) r.2) ⟨fun _ _ _=>LeO.refl _⟩ (fun _=>runOps_M ..)).trans ?_
   rw [lim_const]
end
end Go.Mach
end
section
namespace Go.Mach
open Go.RowKit
def compGuard (ops:Array Oper):Option (Nat × Bool)→Option (Option (Nat × Bool))
 | none=>some none
 | some (j,b)=>match (ops[j]?).bind (·.dst) with
  | some d=>some (some (d,b))
  | none=>none
def compOper (P:Program) (mt:Bool) (ops:Array Oper) (o:Oper):Option AOper:=
 (compOp P mt o).bind fun ao=>(compGuard ops o.guard).bind fun g=>some ⟨o.dst,ao,g,[]⟩
def Enters (P : Program) (f : Nat) : Prop := ∃ fn, P.funcs[f]? = some fn ∧ fn.body.isNone = false ∧ (fn.name == "runtime.NumGoroutine") = false
structure Args (g:Gh) (args:List AV) (cargs:Array Value):Prop where
 len:args.length=cargs.size
 val:∀ (i:Nat) x c,args[i]?=some x→cargs[i]?=some c→VR g x c
def CallPost (bs:Nat) (g:Gh) (ow:Nat→Option Nat) (σ:Heap) (w:World) (v:AV) (σ':Heap) (e:Ending) (w':World):Prop:=
 ∃ cv g' ow',e=.returned cv∧VR g' v cv∧HR g' ow' σ' w'∧St bs g ow σ w g' ow' σ' w'
abbrev rnd (r:Option Nat):Fence:={Fence.wide with round:=r}
structure CallOK (P:Program) (call:CallF):Prop where
 fn:∀ f args bs σ v σ',f≠yno→call f args bs σ=some (v,σ')→bs≤σ.length→Enters P f ∧
  ∀ g ow w cargs,HR g ow σ w→Args g args cargs→Calls P f cargs w (CallPost bs g ow σ w v σ')
 yl:∀ id args bs σ v σ',call yno (.yld id :: args) bs σ=some (v,σ')→bs≤σ.length →
  ∀ g ow w cargs l c,HR g ow σ w→g.φ id=some (l,c)→Args g args cargs →
   ∃ fn tmps assign body,(Instr.yield l cargs).run P w=.ok (.round l fn tmps assign body) w∧RoundIn Fence.wide 0 P l fn tmps assign body w (CallPost bs g ow σ w v σ')
theorem roundIn_rnd {P:Program} {r:Option Nat} {n m l:Nat} {f:FuncId} {tmps:Array Value} {assign body:Code} {w:World} {R:Ending→World→Prop} (h:RoundIn Fence.wide n P l f tmps assign body w R):RoundIn (rnd r) m P l f tmps assign body w R:=
 ⟨h.1,fun c cs _=>h.2 c cs (room_wide _)⟩
theorem callsIn_rnd {P:Program} {r:Option Nat} {m:Nat} {f:FuncId} {args:Array Value} {w:World} {R:Ending→World→Prop} (h:Calls P f args w R):CallsIn (rnd r) m P f args w R:=callsIn_wide (n:=m).2 h
section
variable {P:Program} {bs:Nat} {g:Gh} {ow:Nat→Option Nat} {σ σ':Heap} {w:World} {ρ ρ':Regs} {a:Act} {v:AV} {mt:Bool} {call:CallF}
theorem mapM_cx (hR:RR g ρ a.tmps):∀ (l:List Operand) (xs:List AX),l.mapM cx=some xs→xs.length=l.length∧∀ (i:Nat) x o,xs[i]?=some x→l[i]?=some o→VR g (ev ρ x) (a.eval o)
 | [],xs,h=>by simp at h; subst h; exact ⟨rfl,fun i x o hx=>by simp at hx⟩
 | c :: caps,xs,h=>by
  rw [List.mapM_cons] at h
  simp only [zqK,zqH,Option.pure_def] at h
  obtain ⟨x,hx,ys,hys,e⟩:=h
  injection e with e; subst e
  obtain ⟨h1,h2⟩:=mapM_cx hR caps ys hys
  refine ⟨by simp [h1],fun i y o hy ho=>?_⟩
  cases i with
  | zero=>simp at hy ho; subst hy ho; exact ev_VR hR hx
  | succ i=>simp at hy ho; exact h2 i y o hy ho
theorem args_of (hR:RR g ρ a.tmps) {l:Array Operand} {xs:List AX} (h:l.toList.mapM cx=some xs):Args g (xs.map (ev ρ)) (l.map a.eval):=by
 obtain ⟨h1,h2⟩:=mapM_cx hR _ _ h
 refine ⟨by simp [h1],fun i x c hx hc=>?_⟩
 simp only [List.getElem?_map] at hx
 obtain ⟨y,hy,rfl⟩:=zqG.1 hx
 simp only [Array.getElem?_map] at hc
 obtain ⟨o,ho,rfl⟩:=zqG.1 hc
 exact h2 i y o hy (by simpa using ho)
theorem Args.append {xs ys:List AV} {c d:Array Value} (h:Args g xs c) (k:Args g ys d):Args g (xs++ys) (c++d):=by
 refine ⟨by simp [h.len,k.len],fun i x v hx hv=>?_⟩
 rcases Nat.lt_or_ge i xs.length with hl | hl
 ·rw [zqA hl] at hx
  rw [Array.getElem?_append_left (by rw [←h.len]; exact hl)] at hv
  exact h.val i x v hx hv
 ·rw [zqB hl] at hx
  rw [Array.getElem?_append_right (by rw [←h.len]; exact hl),←h.len] at hv
  exact k.val _ x v hx hv
theorem run_callFunc {f:Nat} (hf:Enters P f) (args:Array Value):(callFunc f args).run P w=.ok (.enter f args) w:=by
 obtain ⟨fn,h1,h2,h3⟩:=hf
 have h3' : ¬ fn.name = "runtime.NumGoroutine" := by simpa using h3
 have h2':¬ fn.body=none:=fun e=>by rw [e] at h2; cases h2
 simp [callFunc,h1,h2',h3']
theorem run_call (hR:RR g ρ a.tmps) {o:Oper} {f:Nat} {xs:List AX} (hc:compOp P mt o=some (.call f xs)) (hf:Enters P f) :
  ∃ cargs,(execOp a.eval o).run P w=.ok (.enter f cargs) w∧Args g (xs.map (ev ρ)) cargs:=by
 unfold compOp at hc
 generalize hop:o.op=op at hc
 cases op <;> simp only at hc <;> try (cases hc; done)
 case call c=>
  unfold compCall at hc
  split at hc
  ·rename_i f' hcal
   simp only [zqK,zqH] at hc
   obtain ⟨ys,hy,e⟩:=hc; injection e with e; injection e with e1 e2; subst e1 e2
   refine ⟨c.args.map a.eval,?_,args_of hR hy⟩
   have:=run_callFunc (P:=P) (w:=w) hf (c.args.map a.eval)
   simp [execOp,hop,resolve,hcal,Deferred.ofValue,Act.eval,invoke,this]
  all_goals exact absurd (all_of (p:=fun ao=>match ao with | .call _ _=>false | _=>true) hc (by repeat (first | rfl | (refine bind_all fun _=>?_) | split))) (by simp)
 case makeFunc fn first caps=>
  cases fn <;> simp only at hc <;> try (cases hc; done)
  exact absurd (all_of (p:=fun ao=>match ao with | .call _ _=>false | _=>true) hc (by repeat (first | rfl | (refine bind_all fun _=>?_) | split))) (by simp)
 case makeMap t r=>cases r <;> simp only at hc <;> cases hc
 case next x b=>
  cases b <;> simp only at hc <;> try (cases hc; done)
  exact absurd (all_of (p:=fun ao=>match ao with | .call _ _=>false | _=>true) hc (by repeat (first | rfl | (refine bind_all fun _=>?_) | split))) (by simp)
 all_goals (try unfold compBin at hc)
 all_goals (try unfold compConv at hc)
 all_goals exact absurd (all_of (p:=fun ao=>match ao with | .call _ _=>false | _=>true) hc (by repeat (first | rfl | (refine bind_all fun _=>?_) | split))) (by simp)
theorem run_callv (hR:RR g ρ a.tmps) {o:Oper} {fx:AX} {xs:List AX} (hc:compOp P mt o=some (.callv fx xs)) {f:Nat} {caps:List AV} (hfx:ev ρ fx=.func f caps) (hf:Enters P f) :
  ∃ cargs,(execOp a.eval o).run P w=.ok (.enter f cargs) w∧Args g (xs.map (ev ρ)++caps) cargs:=by
 unfold compOp at hc
 generalize hop:o.op=op at hc
 cases op <;> simp only at hc <;> try (cases hc; done)
 case call c=>
  unfold compCall at hc
  split at hc
  case h_2=>
   rename_i x hne hcal
   simp only [zqK,zqH] at hc
   obtain ⟨y,hy,ys,hys,e⟩:=hc; injection e with e; injection e with e1 e2; subst e1 e2
   have hv:=ev_VR hR hy
   rw [hfx] at hv
   generalize hcx:a.eval x=cv at hv
   cases hv with
   | @func _ _ vs hl hV=>
    refine ⟨c.args.map a.eval++vs,?_,(args_of hR hys).append ⟨hl,hV⟩⟩
    have:=run_callFunc (P:=P) (w:=w) hf (c.args.map a.eval++vs)
    simp [execOp,hop,resolve,hcal,Deferred.ofValue,hcx,invoke,this]
  all_goals exact absurd (all_of (p:=fun ao=>match ao with | .callv _ _=>false | _=>true) hc (by repeat (first | rfl | (refine bind_all fun _=>?_) | split))) (by simp)
 case makeFunc fn first caps=>
  cases fn <;> simp only at hc <;> try (cases hc; done)
  exact absurd (all_of (p:=fun ao=>match ao with | .callv _ _=>false | _=>true) hc (by repeat (first | rfl | (refine bind_all fun _=>?_) | split))) (by simp)
 case makeMap t r=>cases r <;> simp only at hc <;> cases hc
 case next x b=>
  cases b <;> simp only at hc <;> try (cases hc; done)
  exact absurd (all_of (p:=fun ao=>match ao with | .callv _ _=>false | _=>true) hc (by repeat (first | rfl | (refine bind_all fun _=>?_) | split))) (by simp)
 all_goals (try unfold compBin at hc)
 all_goals (try unfold compConv at hc)
 all_goals exact absurd (all_of (p:=fun ao=>match ao with | .callv _ _=>false | _=>true) hc (by repeat (first | rfl | (refine bind_all fun _=>?_) | split))) (by simp)
theorem run_callm (hR:RR g ρ a.tmps) {o:Oper} {fx:AX} {xs:List AX} (hc:compOp P mt o=some (.callv fx xs)) {f:Nat} {caps:List AV} (hfx:ev ρ fx=.meth f caps) (hf:Enters P f) :
  ∃ cargs,(execOp a.eval o).run P w=.ok (.enter f cargs) w∧Args g (caps++xs.map (ev ρ)) cargs:=by
 unfold compOp at hc
 generalize hop:o.op=op at hc
 cases op <;> simp only at hc <;> try (cases hc; done)
 case call c=>
  unfold compCall at hc
  split at hc
  case h_2=>
   rename_i x hne hcal
   simp only [zqK,zqH] at hc
   obtain ⟨y,hy,ys,hys,e⟩:=hc; injection e with e; injection e with e1 e2; subst e1 e2
   have hv:=ev_VR hR hy
   rw [hfx] at hv
   generalize hcx:a.eval x=cv at hv
   cases hv with
   | @meth _ _ vs hl hV=>
    refine ⟨vs++c.args.map a.eval,?_,Args.append ⟨hl,hV⟩ (args_of hR hys)⟩
    have:=run_callFunc (P:=P) (w:=w) hf (vs++c.args.map a.eval)
    simp [execOp,hop,resolve,hcal,Deferred.ofValue,hcx,invoke,this]
  all_goals exact absurd (all_of (p:=fun ao=>match ao with | .callv _ _=>false | _=>true) hc (by repeat (first | rfl | (refine bind_all fun _=>?_) | split))) (by simp)
 case makeFunc fn first caps=>
  cases fn <;> simp only at hc <;> try (cases hc; done)
  exact absurd (all_of (p:=fun ao=>match ao with | .callv _ _=>false | _=>true) hc (by repeat (first | rfl | (refine bind_all fun _=>?_) | split))) (by simp)
 case makeMap t r=>cases r <;> simp only at hc <;> cases hc
 case next x b=>
  cases b <;> simp only at hc <;> try (cases hc; done)
  exact absurd (all_of (p:=fun ao=>match ao with | .callv _ _=>false | _=>true) hc (by repeat (first | rfl | (refine bind_all fun _=>?_) | split))) (by simp)
 all_goals (try unfold compBin at hc)
 all_goals (try unfold compConv at hc)
 all_goals exact absurd (all_of (p:=fun ao=>match ao with | .callv _ _=>false | _=>true) hc (by repeat (first | rfl | (refine bind_all fun _=>?_) | split))) (by simp)
theorem run_cally (hR:RR g ρ a.tmps) {o:Oper} {fx:AX} {xs:List AX} (hc:compOp P mt o=some (.callv fx xs)) {id:Nat} (hfx:ev ρ fx=.yld id) :
  ∃ l c cargs,g.φ id=some (l,c)∧Args g (xs.map (ev ρ)) cargs∧(execOp a.eval o).run P w=(Instr.yield l cargs).run P w:=by
 unfold compOp at hc
 generalize hop:o.op=op at hc
 cases op <;> simp only at hc <;> try (cases hc; done)
 case call c=>
  unfold compCall at hc
  split at hc
  case h_2=>
   rename_i x hne hcal
   simp only [zqK,zqH] at hc
   obtain ⟨y,hy,ys,hys,e⟩:=hc; injection e with e; injection e with e1 e2; subst e1 e2
   have hv:=ev_VR hR hy
   rw [hfx] at hv
   generalize hcx:a.eval x=cv at hv
   cases hv with
   | @yld _ b c' hp=>
    refine ⟨b,c',c.args.map a.eval,hp,args_of hR hys,?_⟩
    simp [execOp,hop,resolve,hcal,Deferred.ofValue,hcx,invoke]
  all_goals exact absurd (all_of (p:=fun ao=>match ao with | .callv _ _=>false | _=>true) hc (by repeat (first | rfl | (refine bind_all fun _=>?_) | split))) (by simp)
 case makeFunc fn first caps=>
  cases fn <;> simp only at hc <;> try (cases hc; done)
  exact absurd (all_of (p:=fun ao=>match ao with | .callv _ _=>false | _=>true) hc (by repeat (first | rfl | (refine bind_all fun _=>?_) | split))) (by simp)
 case makeMap t r=>cases r <;> simp only at hc <;> cases hc
 case next x b=>
  cases b <;> simp only at hc <;> try (cases hc; done)
  exact absurd (all_of (p:=fun ao=>match ao with | .callv _ _=>false | _=>true) hc (by repeat (first | rfl | (refine bind_all fun _=>?_) | split))) (by simp)
 all_goals (try unfold compBin at hc)
 all_goals (try unfold compConv at hc)
 all_goals exact absurd (all_of (p:=fun ao=>match ao with | .callv _ _=>false | _=>true) hc (by repeat (first | rfl | (refine bind_all fun _=>?_) | split))) (by simp)
theorem sem_of {o:Oper} {ao:AOp} (hc:compOp P mt o=some ao) (r:Option Nat) (ρ:Operand→Value):o.semAt r ρ=execOp ρ o:=by
 cases r with
 | none=>exact Oper.semAt_none _ _
 | some l=>
  refine Oper.semAt_some l ρ o fun c e=>?_
  unfold compOp at hc
  rw [e] at hc
  simp only at hc
  cases hc
theorem stepAll_nc {op:AOp} (h:isCall op=false):stepAll call bs ρ σ op=stepOp bs ρ σ op:=by cases op <;> first | rfl | simp [isCall] at h
theorem put_RR (hR:RR g ρ a.tmps) {dst:Option Nat} {x:AV} {c:Value} (hx:VR g x c):RR g (setDst ρ dst x) (a.put dst c).tmps:=by
 cases dst with
 | none=>exact hR
 | some d=>exact hR.set d hx
theorem put_defers {dst:Option Nat} {c:Value}:(a.put dst c).defers=a.defers:=by cases dst <;> rfl
theorem step_sound {r:Option Nat} {n:Nat} (hcall:CallOK P call) (h:HR g ow σ w) (hbs:bs≤σ.length) (hR:RR g ρ a.tmps) {o:Oper} {ao:AOp} (hc:compOp P mt o=some ao) (hs:stepAll call bs ρ σ ao=some (v,σ'))
  {next:Act→World→Prop} {Q:Exit→Act→World→Prop}
  (hn:∀ g' ow' w' cv,VR g' v cv→HR g' ow' σ' w'→St bs g ow σ w g' ow' σ' w'→next (a.put o.dst cv) w'):o.wpIn (rnd r) n P a w next Q:=by
 refine ⟨fun _ _=>trivial,?_⟩
 show o.uponIn (rnd r) n P a next Q ((o.semAt r a.eval).run P w)
 rw [sem_of hc]
 by_cases hic:isCall ao=true
 ·have hfin:∀ e w',CallPost bs g ow σ w v σ' e w'→(match e,w' with
    | .returned v,w''=>next (a.put o.dst v) w''
    | .panicked chain,w''=>Q (.panic chain) a w''
    | .outgrown,_=>LetsOut Q):=by
   rintro e w' ⟨cv,g',ow',rfl,hV,hH,hS⟩
   exact hn g' ow' w' cv hV hH hS
  have hgo:∀ {f args cargs},callN call f args bs σ=some (v,σ')→(Enters P f→(execOp a.eval o).run P w=.ok (.enter f cargs) w∧Args g args cargs)→o.uponIn (rnd r) n P a next Q ((execOp a.eval o).run P w):=by
   intro f args cargs hcn hk
   unfold callN at hcn
   split at hcn
   ·cases hcn
   ·rename_i hf0
    obtain ⟨hf,hcl⟩:=hcall.fn _ _ _ _ _ _ hf0 hcn hbs
    obtain ⟨hr,ha⟩:=hk hf
    rw [hr,Oper.uponIn_enter]
    exact ⟨(fun hh=>by cases hh),callsIn_rnd ((hcl g ow w cargs h ha).mono hfin)⟩
  cases ao <;> simp [isCall] at hic
  ·rename_i f xs
   simp only [stepAll] at hs
   by_cases hf:Enters P f
   ·obtain ⟨cargs,hr,ha⟩:=run_call (w:=w) hR hc hf
    exact hgo hs fun _=>⟨hr,ha⟩
   ·exact hgo (cargs:=#[]) hs fun hf'=>absurd hf' hf
  ·rename_i fx xs
   simp only [stepAll] at hs
   split at hs
   ·rename_i f caps hfx
    by_cases hf:Enters P f
    ·obtain ⟨cargs,hr,ha⟩:=run_callv (w:=w) hR hc hfx hf
     exact hgo hs fun _=>⟨hr,ha⟩
    ·exact hgo (cargs:=#[]) hs fun hf'=>absurd hf' hf
   ·rename_i f caps hfx
    by_cases hf:Enters P f
    ·obtain ⟨cargs,hr,ha⟩:=run_callm (w:=w) hR hc hfx hf
     exact hgo hs fun _=>⟨hr,ha⟩
    ·exact hgo (cargs:=#[]) hs fun hf'=>absurd hf' hf
   ·rename_i id hfx
    obtain ⟨l,c,cargs,hp,ha,hr⟩:=run_cally (w:=w) hR hc hfx
    obtain ⟨fn,tmps,assign,body,hy,hrd⟩:=hcall.yl _ _ _ _ _ _ hs hbs g ow w cargs l c h hp ha
    rw [hr,hy,Oper.uponIn_round]
    exact ⟨(fun hh=>by cases hh),roundIn_rnd (hrd.mono hfin)⟩
   ·cases hs
 ·have hic:isCall ao=false:=by simpa using hic
  rw [stepAll_nc hic] at hs
  obtain ⟨g',ow',w',cv,hr,hV,hH,hS⟩:=op_sound h hR hc hic hs
  rcases hr with hr | ⟨hr,rfl⟩
  ·rw [hr,Oper.uponIn_value]; exact hn g' ow' w' cv hV hH hS
  ·rw [hr,Oper.uponIn_skip]; exact hn g' ow' w' _ hV hH hS
theorem guard_sound {ops:Array Oper} {o:Oper} {gd:Option (Nat × Bool)} (hc:compGuard ops o.guard=some gd) (hR:RR g ρ a.tmps) {b:Bool} (hg:guardA ρ gd=some b):Region.wanted o (yielded ops a.tmps)=b:=by
 unfold Region.wanted
 cases ho:o.guard with
 | none=>rw [ho] at hc; simp only [compGuard] at hc; injection hc with hc; subst hc; simp only [guardA] at hg; injection hg
 | some jw=>
  obtain ⟨j,want⟩:=jw
  rw [ho] at hc
  simp only [compGuard] at hc
  split at hc
  ·rename_i d hd
   injection hc with hc; subst hc
   simp only [guardA] at hg
   have hv:=hR.val d
   have hget:a.tmps.getD d undef=((a.tmps[d]?).getD undef):=by simp [Array.getD_eq_getD_getElem?]
   rw [hget] at hv
   simp only [yielded,hd,Option.bind_some]
   split at hg
   ·rename_i b' e; injection hg with hg; subst hg
    rw [e] at hv
    cases htd:a.tmps[d]? with
    | none=>rw [htd] at hv; simp [undef] at hv; cases hv
    | some u=>rw [htd] at hv; simp at hv; rw [hv.boolv]; simp
   ·rename_i vs e; injection hg with hg; subst hg
    rw [e] at hv
    cases htd:a.tmps[d]? with
    | none=>simp
    | some u=>rw [htd] at hv; simp at hv; cases hv; simp
   ·cases hg
  ·cases hc
theorem ops_sound {r:Option Nat} {n:Nat} {ds:List Deferred} (hcall:CallOK P call) {ops:Array Oper} {Q:Exit→Act→World→Prop}:∀ (l:List Oper) (os:List AOper) (i:Nat) (ρ:Regs) (σ:Heap) (g:Gh) (ow:Nat→Option Nat) (a:Act) (w:World),
  (∀ j,l[j]?=ops[i+j]?)→l.mapM (compOper P mt ops)=some os→runOps call bs os ρ σ=some (ρ',σ')→HR g ow σ w→bs≤σ.length→RR g ρ a.tmps→a.defers=ds →
  (∀ g' ow' a' w',RR g' ρ' a'.tmps→a'.defers=ds→HR g' ow' σ' w'→St bs g ow σ w g' ow' σ' w'→Q .normal a' w') →
  wpOpsIn (rnd r) n P ops Q ((List.range l.length).map (i+·)) a w
 | [],os,i,ρ,σ,g,ow,a,w,hl,hc,hx,h,hbs,hR,hd,hQ=>by
  simp at hc; subst hc
  simp only [runOps] at hx; injection hx with hx; injection hx with e1 e2; subst e1 e2
  exact hQ g ow a w hR hd h (.refl ..)
 | o :: l,os,i,ρ,σ,g,ow,a,w,hl,hc,hx,h,hbs,hR,hd,hQ=>by
  rw [List.mapM_cons] at hc
  simp only [zqK,zqH,Option.pure_def] at hc
  obtain ⟨ao,hao,os',hos,e⟩:=hc
  injection e with e; subst e
  unfold compOper at hao
  obtain ⟨aop,haop,hao⟩:=zqH.1 hao
  obtain ⟨gd,hgd,e⟩:=zqH.1 hao
  injection e with e; subst e
  have h0:ops[i]?=some o:=by simpa using (hl 0).symm
  have hlist:(List.range (o :: l).length).map (i+·)=i :: (List.range l.length).map (i+1+·):=by
   rw [zqU,List.range_succ_eq_map,List.map_cons,List.map_map]
   congr 1
   apply List.map_congr_left; intro j _; simp only [Function.comp]; omega
  rw [hlist]
  have hl':∀ j,l[j]?=ops[i+1+j]?:=fun j=>by have:=hl (j+1); simpa [Nat.add_assoc,Nat.add_comm 1 j] using this
  simp only [wpOpsIn,h0]
  simp only [runOps] at hx
  obtain ⟨b,hb,hx⟩:=zqH.1 hx
  have hw:=guard_sound hgd hR hb
  rw [hw]
  cases b with
  | true=>
   simp only [if_true]
   obtain ⟨r,hr,hx1⟩:=zqH.1 hx
   obtain ⟨u,_,hx2⟩:=zqH.1 hx1
   obtain ⟨v1,σ1⟩:=r
   refine step_sound hcall h hbs hR haop hr fun g' ow' w' cv hV hH hS=>?_
   refine ops_sound (ds:=ds) hcall l os' (i+1) _ _ g' ow' _ w' hl' hos hx2 hH (Nat.le_trans hbs hS.len) (put_RR (hR.mono hS.gle) hV) (by rw [put_defers]; exact hd) ?_
   intro g2 ow2 a2 w2 h1 h2 h3 h4
   exact hQ g2 ow2 a2 w2 h1 h2 h3 (hS.trans h4)
  | false=>
   simp only [Bool.false_eq_true,if_false]
   refine ⟨fun _ _=>trivial,?_⟩
   refine ops_sound (ds:=ds) hcall l os' (i+1) _ _ g ow _ w hl' hos hx h hbs (put_RR hR (.tup rfl fun i x v hx=>by simp at hx)) (by rw [put_defers]; exact hd) ?_
   intro g2 ow2 a2 w2 h1 h2 h3 h4
   exact hQ g2 ow2 a2 w2 h1 h2 h3 h4
end
end Go.Mach
end
section
namespace Go.Mach
open Go.RowKit
def axo:Option AX→List AX
 | none=>[]
 | some x=>[x]
def opReads:AOp→List AX
 | .mv x | .box x | .load _ _ x | .nilck x | .eqnil _ x | .eqp _ x | .un _ x | .conv _ x | .cvs x | .s2b x | .b2s x | .faddr _ x | .field _ _ _ x | .rng x | .nxt x | .extract _ x | .len _ x | .clear _ _ x=>[x]
 | .pick c a b=>[c,a,b]
 | .alloc _ | .allocB _ _ | .mkmap=>[]
 | .mlook _ _ _ _ x k=>[x,k]
 | .mset _ _ m k v=>[m,k,v]
 | .build _ ps=>ps.map (·.2.2)
 | .buildSl _ _ _ _ ps=>ps.map (·.2.2)
 | .store _ a x=>[a,x]
 | .bin _ x y | .eqb _ x y | .eqag _ _ x y | .min2 x y=>[x,y]
 | .mkfn _ caps=>caps
 | .mkmeth _ first=>first
 | .mksl _ _ _ _ l c=>[l,c]
 | .strSl x lo hi=>x :: (axo lo++axo hi)
 | .slSl _ x lo hi=>x :: (axo lo++axo hi)
 | .slCl _ x lo hi mx=>[x,lo,hi,mx]
 | .arrSl _ _ _ x lo hi=>x :: (axo lo++axo hi)
 | .iaddrS _ x i=>[x,i]
 | .iaddrA _ _ x i=>[x,i]
 | .idxStr x i=>[x,i]
 | .idxArr _ _ _ x i=>[x,i]
 | .append _ _ _ _ s x=>[s,x]
 | .max xs=>xs
 | .call _ args=>args
 | .callv f args=>f :: args
section
variable {call:CallF} {bs:Nat} {ρ ρ':Regs} {σ:Heap}
theorem fillA_congr:∀ (ps:List (Nat × Nat × AX)) (zs:List AV),(∀ x∈ps.map (·.2.2),ev ρ x=ev ρ' x)→fillA ρ zs ps=fillA ρ' zs ps
 | [],zs,_=>rfl
 | (o,s,x) :: ps,zs,h=>by
  have h0:ev ρ x=ev ρ' x:=h x (by simp)
  simp only [fillA,h0]
  split
  ·exact fillA_congr ps _ fun y hy=>h y (by simp at hy ⊢; exact .inr hy)
  ·rfl
theorem asNat_congr {x:Option AX} (h:∀ y∈axo x,ev ρ y=ev ρ' y) (n d:Nat):asNat n x d ρ=asNat n x d ρ':=by
 cases x with
 | none=>rfl
 | some x=>simp only [asNat,h x (by simp [axo])]
theorem reads_congr {op:AOp} (h:∀ x∈opReads op,ev ρ x=ev ρ' x):stepAll call bs ρ σ op=stepAll call bs ρ' σ op:=by
 cases op
 case build zs ps=>simp only [stepAll,stepOp]; rw [fillA_congr ps zs h]
 case buildSl n sz ag zs ps=>simp only [stepAll,stepOp]; rw [fillA_congr ps zs h]
 case mkfn f caps=>
  have h2:caps.map (ev ρ)=caps.map (ev ρ'):=List.map_congr_left fun x hx=>h x hx
  simp only [stepAll,stepOp,h2]
 case mkmeth f caps=>
  have h2:caps.map (ev ρ)=caps.map (ev ρ'):=List.map_congr_left fun x hx=>h x hx
  simp only [stepAll,stepOp,h2]
 case call f args=>
  have h2:args.map (ev ρ)=args.map (ev ρ'):=List.map_congr_left fun x hx=>h x hx
  simp only [stepAll,h2]
 case callv f args=>
  have h1:ev ρ f=ev ρ' f:=h f (by simp [opReads])
  have h2:args.map (ev ρ)=args.map (ev ρ'):=List.map_congr_left fun x hx=>h x (by simp [opReads,hx])
  simp only [stepAll,h1,h2]
 case strSl x lo hi=>
  have h1:ev ρ x=ev ρ' x:=h x (by simp [opReads])
  have h2:=fun n d=>asNat_congr (ρ:=ρ) (ρ':=ρ') (x:=lo) (fun y hy=>h y (by simp [opReads,hy])) n d
  have h3:=fun n d=>asNat_congr (ρ:=ρ) (ρ':=ρ') (x:=hi) (fun y hy=>h y (by simp [opReads,hy])) n d
  simp only [stepAll,stepOp,h1,h2,h3]
 case slSl sz x lo hi=>
  have h1:ev ρ x=ev ρ' x:=h x (by simp [opReads])
  have h2:=fun n d=>asNat_congr (ρ:=ρ) (ρ':=ρ') (x:=lo) (fun y hy=>h y (by simp [opReads,hy])) n d
  have h3:=fun n d=>asNat_congr (ρ:=ρ) (ρ':=ρ') (x:=hi) (fun y hy=>h y (by simp [opReads,hy])) n d
  simp only [stepAll,stepOp,h1,h2,h3]
 case arrSl n sz ag x lo hi=>
  have h1:ev ρ x=ev ρ' x:=h x (by simp [opReads])
  have h2:=fun n d=>asNat_congr (ρ:=ρ) (ρ':=ρ') (x:=lo) (fun y hy=>h y (by simp [opReads,hy])) n d
  have h3:=fun n d=>asNat_congr (ρ:=ρ) (ρ':=ρ') (x:=hi) (fun y hy=>h y (by simp [opReads,hy])) n d
  simp only [stepAll,stepOp,h1,h2,h3]
 case slCl sz x lo hi mx=>
  have h1:ev ρ x=ev ρ' x:=h x (by simp [opReads])
  have h2:ev ρ lo=ev ρ' lo:=h lo (by simp [opReads])
  have h3:ev ρ hi=ev ρ' hi:=h hi (by simp [opReads])
  have h4:ev ρ mx=ev ρ' mx:=h mx (by simp [opReads])
  simp only [stepAll,stepOp,asNat,h1,h2,h3,h4]
 case max xs=>
  have h1:xs.map (ev ρ)=xs.map (ev ρ'):=List.map_congr_left fun x hx=>h x (by simpa [opReads] using hx)
  simp only [stepAll,stepOp,h1]
 all_goals (simp only [opReads,List.mem_cons,List.not_mem_nil,or_false,forall_eq_or_imp,forall_eq] at h)
 all_goals (simp only [stepAll,stepOp,h])
def clsN:AOp→Bool
 | .mv _ | .pick _ _ _ | .build _ _ | .nilck _ | .bin _ _ _ | .eqb _ _ _ | .eqag _ _ _ _ | .eqnil _ _ | .eqp _ _ | .un _ _ | .conv _ _ | .cvs _ | .mkfn _ _ | .mkmeth _ _ | .strSl _ _ _ | .slSl _ _ _ _ | .slCl _ _ _ _ _ | .faddr _ _
 | .field _ _ _ _ | .iaddrS _ _ _ | .iaddrA _ _ _ _ | .idxStr _ _ | .idxArr _ _ _ _ _ | .extract _ _ | .len _ _ | .min2 _ _ | .max _=>true
 | _=>false
def clsL:AOp→Option AX
 | .load _ _ x=>some x
 | .b2s x=>some x
 | .mlook _ _ _ _ x _=>some x
 | .arrSl _ _ _ x _ _=>some x
 | _=>none
def isE (op:AOp):Bool:=!clsN op && (clsL op).isNone && !isNew op
theorem N_step {op : AOp} (hn : clsN op = true) {v : AV} {σ' : Heap} (hs : stepOp bs ρ σ op = some (v, σ')) : σ' = σ ∧ ∀ σ2, stepOp bs ρ σ2 op = some (v, σ2) := by
  have key : ∃ r : Option AV, ∀ σ2 : Heap, stepOp bs ρ σ2 op = r.map fun v => (v, σ2) := by
    cases op <;> first | (simp [clsN] at hn; done) | skip
    case mv x => exact ⟨some (ev ρ x), fun _ => rfl⟩
    case pick c a b => cases hc : ev ρ c with
      | bool t => cases t
                  · exact ⟨some (ev ρ b), fun _ => by simp only [stepOp, hc]; rfl⟩
                  · exact ⟨some (ev ρ a), fun _ => by simp only [stepOp, hc]; rfl⟩
      | _ => exact ⟨none, fun _ => by simp only [stepOp, hc]; rfl⟩
    case build zs ps => exact ⟨(fillA ρ zs ps).map .agg, fun _ => by simp only [stepOp, Option.map_map]; rfl⟩
    case nilck x => cases hc : ev ρ x with
      | ptr id off => exact ⟨some (.ptr id off), fun _ => by simp only [stepOp, hc]; rfl⟩
      | iptr cs off => exact ⟨some (.iptr cs off), fun _ => by simp only [stepOp, hc]; rfl⟩
      | func f caps => exact ⟨some (.func f caps), fun _ => by simp only [stepOp, hc]; rfl⟩
      | meth f caps => exact ⟨some (.meth f caps), fun _ => by simp only [stepOp, hc]; rfl⟩
      | _ => exact ⟨none, fun _ => by simp only [stepOp, hc]; rfl⟩
    case bin op x y => exact ⟨binA op (ev ρ x) (ev ρ y), fun _ => rfl⟩
    case eqb neg x y =>
      simp only [stepOp]; cases ev ρ x <;> cases ev ρ y <;> first | exact ⟨none, fun _ => rfl⟩ | exact ⟨some _, fun _ => rfl⟩
    case eqag neg ks x y => exact ⟨eqagV neg ks (ev ρ x) (ev ρ y), fun _ => rfl⟩
    case eqnil neg x => exact ⟨if notNil (ev ρ x) = true then some (.bool neg) else none, fun _ => by simp only [stepOp]; split <;> rfl⟩
    case eqp neg x => exact ⟨eqpV neg (ev ρ x), fun _ => rfl⟩
    case un op x => exact ⟨unA op (ev ρ x), fun _ => rfl⟩
    case conv k x => simp only [stepOp]; cases ev ρ x <;> first | exact ⟨none, fun _ => rfl⟩ | exact ⟨some _, fun _ => rfl⟩
    case cvs x => simp only [stepOp]; cases ev ρ x <;> first | exact ⟨none, fun _ => rfl⟩ | exact ⟨some _, fun _ => rfl⟩
    case mkfn f caps => exact ⟨some (.func f (caps.map (ev ρ))), fun _ => rfl⟩
    case mkmeth f caps => exact ⟨some (.meth f (caps.map (ev ρ))), fun _ => rfl⟩
    case strSl x lo hi =>
      simp only [stepOp]; cases ev ρ x <;> first | exact ⟨none, fun _ => rfl⟩ | skip
      rename_i s
      simp only
      cases asNat s.size hi s.size ρ with
      | none => exact ⟨none, fun _ => rfl⟩
      | some h =>
        simp only [Option.bind_some]
        cases asNat h lo 0 ρ with
        | none => exact ⟨none, fun _ => rfl⟩
        | some l => exact ⟨some (.str (s.extract l h)), fun _ => rfl⟩
    case slSl sz x lo hi =>
      simp only [stepOp]
      by_cases h1 : isSl (ev ρ x) = false
      · simp only [if_pos h1]; exact ⟨none, fun _ => rfl⟩
      · simp only [if_neg h1]
        cases lenA (ev ρ x) with
        | none => exact ⟨none, fun _ => rfl⟩
        | some n =>
          simp only [Option.bind_some]
          cases asNat n hi n ρ with
          | none => exact ⟨none, fun _ => rfl⟩
          | some h =>
            simp only [Option.bind_some]
            cases asNat h lo 0 ρ with
            | none => exact ⟨none, fun _ => rfl⟩
            | some l => exact ⟨slSlA sz l h (ev ρ x), fun _ => rfl⟩
    case slCl sz x lo hi mx =>
      refine ⟨(lenA (ev ρ x)).bind fun n => (asNat n (some mx) n ρ).bind fun m => (asNat m (some hi) n ρ).bind fun h => (asNat h (some lo) 0 ρ).bind fun l => if l = 0 ∧ h = m then (match ev ρ x with | .isl es _ => some (.isl (es.take h) true) | _ => none) else none, fun _ => ?_⟩
      simp only [stepOp]
      cases lenA (ev ρ x) with
      | none => rfl
      | some n => simp only [Option.bind_some]; cases asNat n (some mx) n ρ with
        | none => rfl
        | some m => simp only [Option.bind_some]; cases asNat m (some hi) n ρ with
          | none => rfl
          | some h => simp only [Option.bind_some]; cases asNat h (some lo) 0 ρ with
            | none => rfl
            | some l =>
              simp only [Option.bind_some]
              split
              · cases ev ρ x <;> rfl
              · rfl
    case faddr off x => simp only [stepOp]; cases ev ρ x <;> first | exact ⟨none, fun _ => rfl⟩ | exact ⟨some _, fun _ => rfl⟩
    case field off sz ag x =>
      simp only [stepOp]; cases ev ρ x <;> first | exact ⟨none, fun _ => rfl⟩ | exact ⟨(window _ off sz).bind (mk ag), fun _ => rfl⟩
    case iaddrS sz x i =>
      simp only [stepOp]
      cases ev ρ i <;> first | exact ⟨none, fun _ => rfl⟩ | skip
      rename_i k n
      simp only
      by_cases h0 : 0 ≤ n
      · simp only [if_pos h0]
        cases ev ρ x <;> first | exact ⟨none, fun _ => rfl⟩ | skip
        case isl es c =>
          simp only
          cases es[n.toNat]? with
          | none => exact ⟨none, fun _ => rfl⟩
          | some e =>
            simp only [Option.bind_some]
            by_cases h1 : e.cells.length = sz
            · simp only [if_pos h1]; exact ⟨some _, fun _ => rfl⟩
            · simp only [if_neg h1]; exact ⟨none, fun _ => rfl⟩
        case own id es =>
          simp only
          cases es[n.toNat]? with
          | none => exact ⟨none, fun _ => rfl⟩
          | some e =>
            simp only [Option.bind_some]
            by_cases h1 : e.cells.length = sz
            · simp only [if_pos h1]; exact ⟨some _, fun _ => rfl⟩
            · simp only [if_neg h1]; exact ⟨none, fun _ => rfl⟩
        case sl id off len sz' ag =>
          simp only
          by_cases h1 : n < len ∧ sz = sz'
          · simp only [if_pos h1]; exact ⟨some _, fun _ => rfl⟩
          · simp only [if_neg h1]; exact ⟨none, fun _ => rfl⟩
      · simp only [if_neg h0]; exact ⟨none, fun _ => rfl⟩
    case iaddrA n sz x i =>
      simp only [stepOp]
      cases ev ρ x <;> first | exact ⟨none, fun _ => rfl⟩ | skip
      all_goals
        cases ev ρ i <;> first | exact ⟨none, fun _ => rfl⟩ | skip
        rename_i id off k m
        simp only
        by_cases h1 : 0 ≤ m ∧ m < n
        · simp only [if_pos h1]; exact ⟨some _, fun _ => rfl⟩
        · simp only [if_neg h1]; exact ⟨none, fun _ => rfl⟩
    case idxStr x i =>
      simp only [stepOp]
      cases ev ρ x <;> first | exact ⟨none, fun _ => rfl⟩ | skip
      cases ev ρ i <;> first | exact ⟨none, fun _ => rfl⟩ | skip
      rename_i s k m
      simp only
      by_cases h1 : 0 ≤ m
      · simp only [if_pos h1]
        cases s.data.toList[m.toNat]? with
        | none => exact ⟨none, fun _ => rfl⟩
        | some b => exact ⟨some (.int .u8 (b.toNat : Int)), fun _ => rfl⟩
      · simp only [if_neg h1]; exact ⟨none, fun _ => rfl⟩
    case idxArr n sz ag x i =>
      simp only [stepOp]
      cases ev ρ x <;> first | exact ⟨none, fun _ => rfl⟩ | skip
      cases ev ρ i <;> first | exact ⟨none, fun _ => rfl⟩ | skip
      rename_i cs k m
      simp only
      by_cases h1 : 0 ≤ m ∧ m < n
      · simp only [if_pos h1]; exact ⟨(window cs (m.toNat * sz) sz).bind (mk ag), fun _ => rfl⟩
      · simp only [if_neg h1]; exact ⟨none, fun _ => rfl⟩
    case extract i x => simp only [stepOp]; cases ev ρ x <;> first | exact ⟨none, fun _ => rfl⟩ | exact ⟨_, fun _ => rfl⟩
    case len st x =>
      simp only [stepOp]
      by_cases h1 : isSl (ev ρ x) = st
      · simp only [if_pos h1]; exact ⟨none, fun _ => rfl⟩
      · simp only [if_neg h1]
        cases lenA (ev ρ x) with
        | none => exact ⟨none, fun _ => rfl⟩
        | some n => exact ⟨some (.int .i64 (n : Int)), fun _ => rfl⟩
    case max xs => simp only [stepOp]; exact ⟨maxA (xs.map (ev ρ)), fun _ => rfl⟩
    case min2 x y => simp only [stepOp]; cases ev ρ x <;> cases ev ρ y <;> first | exact ⟨none, fun _ => rfl⟩ | exact ⟨some _, fun _ => rfl⟩
  obtain ⟨r, hr⟩ := key
  have h1 := hr σ
  rw [h1] at hs
  obtain ⟨u, rfl, e⟩ := zqG.1 hs
  injection e with e1 e2; subst e1 e2
  exact ⟨rfl, fun σ2 => by rw [hr σ2]; rfl⟩
theorem L_step {op:AOp} {x:AX} (hl:clsL op=some x) {v:AV} {σ':Heap} (hs:stepOp bs ρ σ op=some (v,σ')):σ'=σ∧((∀ σ2:Heap,objOf σ2 (ev ρ x)=none)∨∃ (id:Nat) (o:AObj),σ[id]?=some o∧(∀ σ2:Heap,objOf σ2 (ev ρ x)=σ2[id]?)) ∧
  ∀ σ2:Heap,objOf σ2 (ev ρ x)=objOf σ (ev ρ x)→stepOp bs ρ σ2 op=some (v,σ2):=by
 have hobj:(∀ σ2:Heap,objOf σ2 (ev ρ x)=none)∨∃ (id:Nat) (o:AObj),σ[id]?=some o∧(∀ σ2:Heap,objOf σ2 (ev ρ x)=σ2[id]?):=by
  have hex:∀ id:Nat,(∀ σ2:Heap,objOf σ2 (ev ρ x)=σ2[id]?)→(σ[id]?=none→False)→(∀ σ2:Heap,objOf σ2 (ev ρ x)=none)∨∃ (id:Nat) (o:AObj),σ[id]?=some o∧(∀ σ2:Heap,objOf σ2 (ev ρ x)=σ2[id]?):=fun id h1 h2=>by
   cases ho:σ[id]? with
   | none=>exact (h2 ho).elim
   | some o=>exact .inr ⟨id,o,ho,h1⟩
  cases hx:ev ρ x with
  | ptr id off=>
   rw [hx] at hex
   refine hex id (fun _=>rfl) fun ho=>?_
   cases op <;> simp only [clsL] at hl <;> first | (cases hl; done) | (injection hl with hl; subst hl; simp [stepOp,hx,loadA,elemsA,isSl,ho,mlookA,mapOf] at hs)
  | sl id off len sz ag=>
   rw [hx] at hex
   refine hex id (fun _=>rfl) fun ho=>?_
   cases op <;> simp only [clsL] at hl <;> first | (cases hl; done) | (injection hl with hl; subst hl; simp [stepOp,hx,loadA,elemsA,isSl,ho,mlookA,mapOf] at hs)
  | map id=>
   rw [hx] at hex
   refine hex id (fun _=>rfl) fun ho=>?_
   cases op <;> simp only [clsL] at hl <;> first | (cases hl; done) | (injection hl with hl; subst hl; simp [stepOp,hx,loadA,elemsA,isSl,ho,mlookA,mapOf] at hs)
  | _=>exact .inl fun _=>rfl
 cases op <;> simp only [clsL] at hl <;> try (cases hl; done)
 case load sz ag y=>
  injection hl with hl; subst hl
  simp only [stepOp] at hs ⊢
  obtain ⟨u,hu,e⟩:=zqG.1 hs
  injection e with e1 e2; subst e1 e2
  refine ⟨rfl,hobj,fun σ2 h2=>?_⟩
  have:loadA σ2 sz ag (ev ρ y)=loadA σ sz ag (ev ρ y):=by
   cases hx:ev ρ y <;> rw [hx] at h2 <;> simp only [objOf] at h2 <;> simp only [loadA,h2]
  rw [this,hu]; rfl
 case b2s y=>
  injection hl with hl; subst hl
  simp only [stepOp] at hs ⊢
  split at hs
  ·cases hs
  rename_i hsl
  obtain ⟨es,h1,hs⟩:=zqH.1 hs
  obtain ⟨s,h3,e⟩:=zqG.1 hs
  injection e with e1 e2; subst e1 e2
  refine ⟨rfl,hobj,fun σ2 h2=>?_⟩
  have:elemsA σ2 1 false (ev ρ y)=elemsA σ 1 false (ev ρ y):=by
   cases hx:ev ρ y <;> rw [hx] at h2 <;> simp only [objOf] at h2 <;> simp only [elemsA,h2]
  rw [if_neg hsl,this,h1]; simp [h3]
 case mlook ag ks zv ok y k=>
  injection hl with hl; subst hl
  simp only [stepOp] at hs ⊢
  obtain ⟨u,hu,e⟩:=zqG.1 hs
  injection e with e1 e2; subst e1 e2
  refine ⟨rfl,hobj,fun σ2 h2=>?_⟩
  have:mapOf σ2 (ev ρ y)=mapOf σ (ev ρ y):=by
   cases hx:ev ρ y <;> rw [hx] at h2 <;> simp only [objOf] at h2 <;> simp only [mapOf,h2]
  have h3:mlookA σ2 ag ks zv ok (ev ρ y) (ev ρ k)=mlookA σ ag ks zv ok (ev ρ y) (ev ρ k):=by simp only [mlookA,this]
  rw [h3,hu]; rfl
 case arrSl n sz ag y lo hi=>
  injection hl with hl; subst hl
  simp only [stepOp] at hs ⊢
  refine ⟨?_,hobj,fun σ2 h2=>?_⟩
  ·split at hs
   ·split at hs
    ·obtain ⟨h,h1,hs⟩:=zqH.1 hs
     obtain ⟨l,h3,hs⟩:=zqH.1 hs
     split at hs
     ·injection hs with hs; injection hs with e1 e2; exact e2.symm
     ·cases hs
    ·cases hs
   ·cases hs
  ·split at hs
   ·rename_i id off hx
    rw [hx] at h2; simp only [objOf] at h2
    rw [h2]
    split at hs
    ·rename_i cs fz ho
     obtain ⟨h,h1,hs⟩:=zqH.1 hs
     obtain ⟨l,h3,hs⟩:=zqH.1 hs
     split at hs
     ·rename_i hc
      injection hs with hs; injection hs with e1 e2; subst e1
      simp only [h1,Option.bind_some,h3,if_pos hc]
     ·cases hs
    ·cases hs
   ·cases hs
theorem new_obj {op:AOp} (hn:isNew op=true) {v:AV} {σ':Heap} (hs:stepOp bs ρ σ op=some (v,σ')):∃ obj,σ'=σ++[obj]∧∀ σ2:Heap,objOf σ2 v=σ2[σ.length]?:=by
 cases op <;> first | (simp [isNew] at hn; done) | skip
 case alloc zs=>simp only [stepOp] at hs; injection hs with hs; injection hs with e1 e2; subst e1 e2; exact ⟨_,rfl,fun _=>rfl⟩
 case allocB t e=>simp only [stepOp] at hs; injection hs with hs; injection hs with e1 e2; subst e1 e2; exact ⟨_,rfl,fun _=>rfl⟩
 case box x=>
  simp only [stepOp] at hs
  split at hs
  ·injection hs with hs; injection hs with e1 e2; subst e1 e2; exact ⟨_,rfl,fun _=>rfl⟩
  ·cases hs
 case buildSl n sz ag zs ps=>
  simp only [stepOp] at hs
  obtain ⟨cs,hf,e⟩:=zqG.1 hs
  injection e with e1 e2; subst e1 e2; exact ⟨_,rfl,fun _=>rfl⟩
 case s2b x=>
  simp only [stepOp] at hs
  split at hs
  ·injection hs with hs; injection hs with e1 e2; subst e1 e2; exact ⟨_,rfl,fun _=>rfl⟩
  ·cases hs
 case mksl sz ag by' zs l c=>
  simp only [stepOp] at hs
  split at hs
  ·split at hs
   ·injection hs with hs; injection hs with e1 e2; subst e1 e2; exact ⟨_,rfl,fun _=>rfl⟩
   ·cases hs
  ·cases hs
 case rng x=>
  simp only [stepOp] at hs
  split at hs
  ·injection hs with hs; injection hs with e1 e2; subst e1 e2; exact ⟨_,rfl,fun _=>rfl⟩
  ·cases hs
 case mkmap=>simp only [stepOp] at hs; injection hs with hs; injection hs with e1 e2; subst e1 e2; exact ⟨_,rfl,fun _=>rfl⟩
end
end Go.Mach
end
section
namespace Go.Mach
open Go.RowKit
theorem HR.extend {g ow σ w} (h:HR g ow σ w) (τ:List AObj):HR g ow (σ++τ) w:=by
 have hφ:∀ id x,g.φ id=some x→(σ++τ)[id]?=σ[id]?:=fun id x hx=>zqA (h.dom id x hx).1
 have hψ:∀ id n x,g.ψ id n=some x→(σ++τ)[id]?=σ[id]?:=fun id n x hx=>zqA (h.domψ id n x hx)
 refine ⟨h.mem,fun id x hx=>⟨by have:=(h.dom id x hx).1; simp; omega,(h.dom id x hx).2⟩,fun id n x hx=>by have:=h.domψ id n x hx; simp; omega,?_,?_,?_,?_,?_,h.pin⟩
 ·intro id cs fz ext hσ b c hp; rw [hφ id _ hp] at hσ; exact h.cel id cs fz ext hσ b c hp
 ·intro id n s hσ b p c hp; rw [hψ id n _ hp] at hσ; exact h.tk id n s hσ b p c hp
 ·intro id n s hσ m x hp; rw [hψ id m _ hp] at hσ; exact h.tle id n s hσ m x hp
 ·intro id s pos hσ b c hp; rw [hφ id _ hp] at hσ; exact h.it id s pos hσ b c hp
 ·intro id o2 hsp hσ b c hp; rw [hφ id _ hp] at hσ; exact h.bd id o2 hsp hσ b c hp
theorem St.extend {bs g0 ow0 σ0 w0 g ow σ w} (s:St bs g0 ow0 σ0 w0 g ow σ w) (τ:List AObj):St bs g0 ow0 σ0 w0 g ow (σ++τ) w:=
 ⟨s.gle,s.os,s.tape,s.output,s.size,s.frame,by have:=s.len; simp; omega,s.nonew,s.frM,fun id hi hl cs fz ext hσ=>s.disc id hi hl cs fz ext (by
  rw [zqA (Nat.lt_of_lt_of_le hl s.len)] at hσ; exact hσ)⟩
theorem St.late {bs g0 ow0 σ0 w0 g ow σ w w'} (s:St bs g0 ow0 σ0 w0 g ow σ w) (h0:HR g0 ow0 σ0 w0) {o:Obj} (hw:w'.heap=w.heap.push o) (hs:Same w w') {id:Nat} (hid:σ0.length≤id) (hn:g.φ id=none) (c:Nat) :
  St bs g0 ow0 σ0 w0 (g.put id w.heap.size c) (upd ow w.heap.size id) σ w':=by
 have hold:∀ b,b<w.heap.size→w'.heap[b]?=w.heap[b]?:=fun b hb=>by rw [hw,Array.getElem?_push]; simp [Nat.ne_of_lt hb]
 refine ⟨s.gle.trans (Gh.put_le hn _ _),hs.os.trans s.os,hs.tape.trans s.tape,hs.output.trans s.output,by rw [hw]; simp; have:=s.size; omega,fun b hb ho=>?_,s.len,fun j hj hj'=>?_,s.frM,fun j hj hl cs fz ext hσ=>?_⟩
 ·obtain ⟨e1,e2⟩:=s.frame b hb ho
  have hb':=Nat.lt_of_lt_of_le hb s.size
  exact ⟨(hold b hb').trans e1,by simp [upd,Nat.ne_of_lt hb',e2]⟩
 ·simp only [Gh.put]; rw [if_neg (by omega)]; exact s.nonew j hj hj'
 ·obtain ⟨cs0,fz0,ext0,h1,h2⟩:=s.disc j hj hl cs fz ext hσ
  refine ⟨cs0,fz0,ext0,h1,fun i x hx=>?_⟩
  rcases h2 i x hx with h3 | ⟨h3,h4⟩
  ·exact .inl h3
  ·refine .inr ⟨h3,fun b c' hp=>?_⟩
   rw [←h4 b c' hp]
   exact cell_congr (hold b (Nat.lt_of_lt_of_le (h0.dom j _ hp).2 s.size)) i
def StepR (call:CallF) (bs:Nat) (o:AOper) (ρ:Regs) (σ:Heap) (ρ':Regs) (σ':Heap):Prop:=
 (guardA ρ o.guard=some true∧∃ v,stepAll call bs ρ σ o.op=some (v,σ')∧chkA ρ σ σ' o.chk∧ρ'=setDst ρ o.dst v) ∨
 (guardA ρ o.guard=some false∧σ'=σ∧ρ'=setDst ρ o.dst (.tup []))
theorem run_steps {call:CallF} {bs:Nat}:∀ (os:List AOper) (ρ:Regs) (σ:Heap) (ρ':Regs) (σ':Heap),runOps call bs os ρ σ=some (ρ',σ') →
  ∃ (R:Nat→Regs) (H:Nat→Heap),R 0=ρ∧H 0=σ∧R os.length=ρ'∧H os.length=σ'∧∀ i o,os[i]?=some o→StepR call bs o (R i) (H i) (R (i+1)) (H (i+1))
 | [],ρ,σ,ρ',σ',h=>by
  simp only [runOps] at h; injection h with h; injection h with e1 e2
  exact ⟨fun _=>ρ,fun _=>σ,rfl,rfl,e1,e2,fun i o ho=>by simp at ho⟩
 | o :: os,ρ,σ,ρ',σ',h=>by
  simp only [runOps] at h
  obtain ⟨b,hb,h⟩:=zqH.1 h
  have key:∃ ρ1 σ1,StepR call bs o ρ σ ρ1 σ1∧runOps call bs os ρ1 σ1=some (ρ',σ'):=by
   cases b with
   | true=>
    simp only at h
    obtain ⟨⟨v,σ1⟩,hr,h⟩:=zqH.1 h
    obtain ⟨u,hu,h⟩:=zqH.1 h
    exact ⟨_,_,.inl ⟨hb,v,hr,chkO_some hu,rfl⟩,h⟩
   | false=>exact ⟨_,_,.inr ⟨hb,rfl,rfl⟩,h⟩
  obtain ⟨ρ1,σ1,hs,h1⟩:=key
  obtain ⟨R,H,e1,e2,e3,e4,hst⟩:=run_steps os ρ1 σ1 ρ' σ' h1
  refine ⟨fun i=>match i with | 0=>ρ | i+1=>R i,fun i=>match i with | 0=>σ | i+1=>H i,rfl,rfl,e3,e4,fun i o' ho=>?_⟩
  cases i with
  | zero=>simp at ho; subst ho; simp only [e1,e2]; exact hs
  | succ i=>exact hst i o' (by simpa using ho)
theorem setDst_len (ρ:Regs) (d:Option Nat) (v:AV):(setDst ρ d v).length=ρ.length:=by cases d <;> simp [setDst]
theorem setDst_ne {ρ:Regs} {d:Option Nat} {v:AV} {t:Nat} (h:d≠some t):(setDst ρ d v).getD t .undef=ρ.getD t .undef:=by
 cases d with
 | none=>rfl
 | some d=>
  have hd:d≠t:=fun e=>h (by rw [e])
  simp [setDst,List.getElem?_set,hd]
theorem StepR.len {call:CallF} {bs:Nat} {o:AOper} {ρ σ ρ' σ'} (h:StepR call bs o ρ σ ρ' σ'):ρ'.length=ρ.length:=by
 rcases h with ⟨_,v,_,_,rfl⟩ | ⟨_,_,rfl⟩ <;> exact setDst_len ..
theorem StepR.ne {call:CallF} {bs:Nat} {o:AOper} {ρ σ ρ' σ'} (h:StepR call bs o ρ σ ρ' σ') {t:Nat} (ht:o.dst≠some t):ρ'.getD t .undef=ρ.getD t .undef:=by
 rcases h with ⟨_,v,_,_,rfl⟩ | ⟨_,_,rfl⟩ <;> exact setDst_ne ht
theorem runOps_len {call:CallF} {bs:Nat} {os:List AOper} {ρ σ ρ' σ'} (h:runOps call bs os ρ σ=some (ρ',σ')):ρ'.length=ρ.length:=by
 obtain ⟨R,H,e1,e2,e3,e4,hst⟩:=run_steps os ρ σ ρ' σ' h
 have:∀ i,i≤os.length→(R i).length=ρ.length:=fun i=>by
  induction i with
  | zero=>intro _; rw [e1]
  | succ i ih=>intro hi; rw [(hst i _ (zqF (by omega))).len]; exact ih (by omega)
 rw [←e3]; exact this _ (Nat.le_refl _)
end Go.Mach
end
section
namespace Go.Mach
open Go.RowKit
open Classical
def guardT:Option (Nat × Bool)→List Nat
 | none=>[]
 | some (d,_)=>[d]
def tmpOf:AX→List Nat
 | .t n=>[n]
 | _=>[]
def readsT (o:AOper):List Nat:=guardT o.guard++(opReads o.op).flatMap tmpOf
structure Plan (P:Program) (mt:Bool) (nt:Nat) (ops:Array Oper) (n:Nat) (ord:Nat→Nat) (anc:Nat→Nat→Prop) (ao:Nat→AOper):Prop where
 lt:∀ p,p<n→ord p<n
 inj:∀ p q,p<n→q<n→ord p=ord q→p=q
 sur:∀ j,j<n→∃ p,p<n∧ord p=j
 size:ops.size=n
 comp:∀ p o,p<n→ops[ord p]?=some o→compOp P mt o=some (ao p).op∧compGuard ops o.guard=some (ao p).guard∧(ao p).dst=o.dst
 one:∀ p q t,p<n→q<n→(ao p).dst=some t→(ao q).dst=some t→p=q
 reads:∀ p q t,p<n→q<n→t∈readsT (ao p)→(ao q).dst=some t→q=p∨(q<p∧anc q p)∨(p<q∧anc p q)
 early:∀ p q,p<q→q<n→isE (ao p).op=true→(clsN (ao q).op=true∨anc p q)
 lateL:∀ p q x,p<q→q<n→isE (ao q).op=true→clsL (ao p).op=some x→anc p q∨(x∈(ao q).chk∧∀ t,x=.t t→∀ r,p≤r→r<n→(ao r).dst≠some t)
 lateG:∀ p q,p<q→q<n→isE (ao q).op=true→isNew (ao p).op=true→anc p q∨∃ d,(ao p).dst=some d∧d<nt∧AX.t d∈(ao q).chk
theorem isE_N {op:AOp} (h:isE op=true):clsN op=false:=by simp [isE] at h; exact h.1.1
theorem cls_cases (op:AOp):clsN op=true∨(∃ x,clsL op=some x)∨isNew op=true∨isE op=true:=by
 cases h1:clsN op
 ·cases h2:clsL op
  ·cases h3:isNew op
   ·exact .inr (.inr (.inr (by simp [isE,h1,h2,h3])))
   ·exact .inr (.inr (.inl rfl))
  ·exact .inr (.inl ⟨_,rfl⟩)
 ·exact .inl rfl
theorem L_notE {op:AOp} {x:AX} (h:clsL op=some x):isE op=false:=by simp [isE,h]
theorem G_notE {op:AOp} (h:isNew op=true):isE op=false:=by simp [isE,h]
theorem N_notE {op:AOp} (h:clsN op=true):isE op=false:=by simp [isE,h]
theorem L_notN {op:AOp} {x:AX} (h:clsL op=some x):clsN op=false:=by cases op <;> first | rfl | simp [clsL] at h
theorem G_notN {op:AOp} (h:isNew op=true):clsN op=false:=by cases op <;> first | rfl | simp [isNew] at h
theorem L_notC {op:AOp} {x:AX} (h:clsL op=some x):isCall op=false:=by cases op <;> first | rfl | simp [clsL] at h
theorem N_notC {op:AOp} (h:clsN op=true):isCall op=false:=by cases op <;> first | rfl | simp [clsN] at h
theorem G_notC {op:AOp} (h:isNew op=true):isCall op=false:=by cases op <;> first | rfl | simp [isNew] at h
section
variable {P:Program} {mt:Bool} {nt:Nat} {ops:Array Oper} {n:Nat} {ord:Nat→Nat} {anc:Nat→Nat→Prop} {ao:Nat→AOper} {call:CallF} {bs:Nat} {R:Nat→Regs} {H:Nat→Heap}
theorem R_keep (hst : ∀ i, i < n → StepR call bs (ao i) (R i) (H i) (R (i + 1)) (H (i + 1))) {t i : Nat} : ∀ j, i ≤ j → j ≤ n → (∀ q, i ≤ q → q < j → (ao q).dst ≠ some t) → (R j).getD t .undef = (R i).getD t .undef := by
  intro j
  induction j with
  | zero => intro h _ _; have : i = 0 := by omega
            rw [this]
  | succ j ih =>
    intro h hn hw
    rcases Nat.lt_or_ge i (j + 1) with hlt | hge
    · rw [(hst j (by omega)).ne (hw j (by omega) (by omega))]; exact ih (by omega) (by omega) fun q h1 h2 => hw q h1 (by omega)
    · have : i = j + 1 := by omega
      rw [this]
theorem R_len (hst:∀ i,i<n→StepR call bs (ao i) (R i) (H i) (R (i+1)) (H (i+1))):∀ i,i≤n→(R i).length=(R 0).length:=fun i=>by
 induction i with
 | zero=>intro _; rfl
 | succ i ih=>intro hi; rw [(hst i (by omega)).len]; exact ih (by omega)
noncomputable def mixR (R:Nat→Regs) (n:Nat) (ao:Nat→AOper) (L:Nat→Prop):Regs:=
 (List.range (R 0).length).map fun t=>if ∃ q,q<n∧L q∧(ao q).dst=some t then (R n).getD t .undef else (R 0).getD t .undef
theorem mixR_len {L:Nat→Prop}:(mixR R n ao L).length=(R 0).length:=by simp [mixR]
theorem mixR_get (hl:(R n).length=(R 0).length) {L:Nat→Prop} (t:Nat):(mixR R n ao L).getD t .undef=if ∃ q,q<n∧L q∧(ao q).dst=some t then (R n).getD t .undef else (R 0).getD t .undef:=by
 simp only [mixR,List.getD_eq_getElem?_getD,List.getElem?_map]
 rcases Nat.lt_or_ge t (R 0).length with h | h
 ·rw [List.getElem?_range h]; simp
 ·rw [List.getElem?_eq_none (by simpa using h),List.getElem?_eq_none (by omega),List.getElem?_eq_none h]; simp
theorem mixR_read (hP:Plan P mt nt ops n ord anc ao) (hst:∀ i,i<n→StepR call bs (ao i) (R i) (H i) (R (i+1)) (H (i+1))) {L:Nat→Prop} {p:Nat} (hp:p<n) (hL:¬ L p) (hdown:∀ q,anc q p→L q) (hdown2:∀ q,q<n→anc p q→L q→L p)
  {t:Nat} (ht:t∈readsT (ao p)):(mixR R n ao L).getD t .undef=(R p).getD t .undef:=by
 rw [mixR_get (R_len hst n (Nat.le_refl _))]
 split
 ·rename_i h
  obtain ⟨q,hq,hLq,hd⟩:=h
  rcases hP.reads p q t hp hq ht hd with rfl | ⟨h1,h2⟩ | ⟨h1,h2⟩
  ·exact absurd hLq hL
  ·exact R_keep hst n (by omega) (Nat.le_refl _) fun r hr1 hr2 hr=>by have:=hP.one q r t hq hr2 hd hr; omega
  ·exact absurd (hdown2 q hq h2 hLq) hL
 ·rename_i h
  refine (R_keep hst p (Nat.zero_le _) (by omega) fun r _ hr2 hr=>?_).symm
  rcases hP.reads p r t hp (by omega) ht hr with rfl | ⟨h1,h2⟩ | ⟨h1,h2⟩
  ·omega
  ·exact h ⟨r,by omega,hdown r h2,hr⟩
  ·omega
theorem mem_reads {o:AOper} {x:AX} (hx:x∈opReads o.op) {t:Nat} (ht:x=.t t):t∈readsT o:=by
 unfold readsT; rw [List.mem_append,List.mem_flatMap]; exact .inr ⟨x,hx,by subst ht; simp [tmpOf]⟩
theorem ev_congr {ρ ρ':Regs} {x:AX} (h:∀ t,x=.t t→ρ.getD t .undef=ρ'.getD t .undef):ev ρ x=ev ρ' x:=by
 cases x with
 | t t=>exact h t rfl
 | _=>rfl
theorem mixR_guard {o:AOper} {ρ ρ':Regs} (h:∀ t,t∈readsT o→ρ.getD t .undef=ρ'.getD t .undef):guardA ρ o.guard=guardA ρ' o.guard:=by
 cases hg:o.guard with
 | none=>rfl
 | some jw=>obtain ⟨d,w⟩:=jw; simp only [guardA]; rw [h d (by simp [readsT,hg,guardT])]
theorem mixR_set (hP:Plan P mt nt ops n ord anc ao) (hst:∀ i,i<n→StepR call bs (ao i) (R i) (H i) (R (i+1)) (H (i+1))) {L:Nat→Prop} {p:Nat} (hp:p<n) {v:AV} (hv:R (p+1)=setDst (R p) (ao p).dst v) (t:Nat) :
  (mixR R n ao (fun q=>L q∨q=p)).getD t .undef=(setDst (mixR R n ao L) (ao p).dst v).getD t .undef:=by
 have hl:=R_len hst n (Nat.le_refl _)
 by_cases hd:(ao p).dst=some t
 ·rw [mixR_get hl,if_pos ⟨p,hp,.inr rfl,hd⟩]
  have e1:(R n).getD t .undef=(R (p+1)).getD t .undef:=R_keep hst n (by omega) (Nat.le_refl _) fun r hr1 hr2 hr=>by have:=hP.one p r t hp hr2 hd hr; omega
  rw [e1,hv,hd]
  simp only [setDst,List.getD_eq_getElem?_getD,List.getElem?_set,if_true,mixR_len,R_len hst p (by omega)]
 ·rw [setDst_ne hd,mixR_get hl,mixR_get hl]
  have:(∃ q,q<n∧(L q∨q=p)∧(ao q).dst=some t)↔∃ q,q<n∧L q∧(ao q).dst=some t:=
   ⟨fun ⟨q,h1,h2,h3⟩=>⟨q,h1,h2.resolve_right fun e=>hd (e ▸ h3),h3⟩,fun ⟨q,h1,h2,h3⟩=>⟨q,h1,.inl h2,h3⟩⟩
  simp only [this]
theorem RR.congr {g:Gh} {ρ ρ':Regs} {tmps:Array Value} (h:RR g ρ tmps) (hl:ρ'.length=ρ.length) (he:∀ t,ρ'.getD t .undef=ρ.getD t .undef):RR g ρ' tmps:=
 ⟨hl.trans h.len,fun t=>by rw [he]; exact h.val t⟩
end
end Go.Mach
end
section
namespace Go.Mach
open Go.RowKit
open Classical
section
variable {P:Program} {mt:Bool} {nt:Nat} {ops:Array Oper} {n:Nat} {ord:Nat→Nat} {anc:Nat→Nat→Prop} {ao:Nat→AOper} {call:CallF} {bs:Nat} {R:Nat→Regs} {H:Nat→Heap} {ds:List Deferred}
theorem notE_heap (hst:∀ i,i<n→StepR call bs (ao i) (R i) (H i) (R (i+1)) (H (i+1))) {i:Nat} (hi:i<n) (hE:isE (ao i).op=false):∃ τ,H (i+1)=H i++τ:=by
 rcases hst i hi with ⟨_,v,hs,_,_⟩ | ⟨_,hs,_⟩
 ·rcases cls_cases (ao i).op with h | ⟨x,h⟩ | h | h
  ·rw [stepAll_nc (N_notC h)] at hs; exact ⟨[],by simp [(N_step h hs).1]⟩
  ·rw [stepAll_nc (L_notC h)] at hs; exact ⟨[],by simp [(L_step h hs).1]⟩
  ·rw [stepAll_nc (G_notC h)] at hs
   obtain ⟨obj,ho,_⟩:=new_obj h hs; exact ⟨[obj],ho⟩
  ·rw [h] at hE; cases hE
 ·exact ⟨[],by simp [hs]⟩
theorem obj_keep (hst : ∀ i, i < n → StepR call bs (ao i) (R i) (H i) (R (i + 1)) (H (i + 1))) {i : Nat} {av : AV} (hv : (∀ σ2 : Heap, objOf σ2 av = none) ∨ ∃ (id : Nat) (o : AObj), (H i)[id]? = some o ∧ ∀ σ2 : Heap, objOf σ2 av = σ2[id]?) :
    ∀ k, i ≤ k → k ≤ n → (∀ q, i ≤ q → q < k → isE (ao q).op = true → guardA (R q) (ao q).guard = some true → objOf (H q) av = objOf (H (q + 1)) av) → objOf (H k) av = objOf (H i) av := by
  rcases hv with hv | ⟨id, o, ho, hv⟩
  · intro k _ _ _; rw [hv, hv]
  intro k
  induction k with
  | zero => intro h _ _; have : i = 0 := by omega
            rw [this]
  | succ k ih =>
    intro h hn hE
    rcases Nat.lt_or_ge i (k + 1) with hlt | hge
    · have e := ih (by omega) (by omega) fun q h1 h2 => hE q h1 (by omega)
      rw [← e]
      cases hek : isE (ao k).op with
      | true =>
        rcases hst k (by omega) with ⟨hg, _⟩ | ⟨_, hs, _⟩
        · exact (hE k (by omega) (by omega) hek hg).symm
        · rw [hs]
      | false =>
        obtain ⟨τ, hτ⟩ := notE_heap hst (by omega) hek
        rw [hτ, hv, hv]
        rw [hv, hv, ho] at e
        exact zqA (zqI.1 e).1
    · have : i = k + 1 := by omega
      rw [this]
structure At (ds:List Deferred) (bs:Nat) (R:Nat→Regs) (H:Nat→Heap) (n:Nat) (ao:Nat→AOper) (g0:Gh) (ow0:Nat→Option Nat) (w0:World) (m:Nat) (L:Nat→Prop) (g:Gh) (ow:Nat→Option Nat) (a:Act) (w:World):Prop where
 le:m≤n
 E1:∀ q,q<m→isE (ao q).op=true→L q
 E2:∀ q,m≤q→q<n→isE (ao q).op=true→¬ L q
 hr:HR g ow (H m) w
 st:St bs g0 ow0 (H 0) w0 g ow (H m) w
 df:a.defers=ds
 rr:RR g (mixR R n ao L) a.tmps
 mono:∀ i j,i≤j→j≤m→(H i).length≤(H j).length
 fre:∀ q,q<m→isNew (ao q).op=true→guardA (R q) (ao q).guard=some true→¬ L q→g.φ (H q).length=none
def Inv (ds:List Deferred) (bs:Nat) (R:Nat→Regs) (H:Nat→Heap) (n:Nat) (ao:Nat→AOper) (g0:Gh) (ow0:Nat→Option Nat) (w0:World) (L:Nat→Prop) (a:Act) (w:World):Prop:=
 ∃ g ow k,At ds bs R H n ao g0 ow0 w0 k L g ow a w∧(k<n→isE (ao k).op=true)
theorem At.advance {g0 ow0 w0} (hst:∀ i,i<n→StepR call bs (ao i) (R i) (H i) (R (i+1)) (H (i+1))) {L:Nat→Prop} {g ow a w}:∀ (d m:Nat),n=m+d→At ds bs R H n ao g0 ow0 w0 m L g ow a w→Inv ds bs R H n ao g0 ow0 w0 L a w
 | 0,m,hd,h=>⟨g,ow,m,h,fun hlt=>by omega⟩
 | d+1,m,hd,h=>by
  cases hE:isE (ao m).op with
  | true=>exact ⟨g,ow,m,h,fun _=>hE⟩
  | false=>
   obtain ⟨τ,hτ⟩:=notE_heap hst (i:=m) (by omega) hE
   refine At.advance hst d (m+1) (by omega) ⟨by omega,fun q hq he=>?_,fun q h1 h2=>h.E2 q (by omega) h2,by rw [hτ]; exact h.hr.extend τ,by rw [hτ]; exact h.st.extend τ,h.df,h.rr,fun i j hij hj=>?_,fun q hq hn hg hL=>?_⟩
   ·rcases Nat.lt_or_ge q m with hlt | hge
    ·exact h.E1 q hlt he
    ·have:q=m:=by omega
     subst this; rw [hE] at he; cases he
   ·rcases Nat.lt_or_ge j (m+1) with hlt | hge
    ·exact h.mono i j hij (by omega)
    ·have hj':j=m+1:=by omega
     subst hj'
     rcases Nat.lt_or_ge i (m+1) with hlt | hge
     ·have:=h.mono i m (by omega) (Nat.le_refl _); rw [hτ]; simp; omega
     ·have:i=m+1:=by omega
      rw [this]; exact Nat.le_refl _
   ·rcases Nat.lt_or_ge q m with hlt | hge
    ·exact h.fre q hlt hn hg hL
    ·have:q=m:=by omega
     subst this; exact (h.hr.none_len (Nat.le_refl _)).1
theorem inv_start {g0 ow0 w0} {ρ:Regs} (hst:∀ i,i<n→StepR call bs (ao i) (R i) (H i) (R (i+1)) (H (i+1))) (h0:HR g0 ow0 (H 0) w0) (hR0:R 0=ρ) {a:Act} {w:World} (hw:Same w0 w) (hh:w.heap=w0.heap) (hR:RR g0 ρ a.tmps) (hd:a.defers=ds) :
  Inv ds bs R H n ao g0 ow0 w0 (fun _=>False) a w:=by
 refine At.advance hst n 0 (by omega) ⟨Nat.zero_le _,fun q hq=>by omega,fun q _ _ _ h=>h,h0.congr hh,St.congr hw hh,hd,?_,fun i j h1 h2=>?_,fun q hq=>by omega⟩
 ·refine hR.congr (by rw [mixR_len,hR0]) fun t=>?_
  rw [mixR_get (R_len hst n (Nat.le_refl _)),if_neg (fun ⟨q,_,h,_⟩=>h),hR0]
 ·have:i=j:=by omega
  rw [this]; exact Nat.le_refl _
end
end Go.Mach
end
section
namespace Go.Mach
open Go.RowKit
open Classical
section
variable {P:Program} {mt:Bool} {nt:Nat} {ops:Array Oper} {n:Nat} {ord:Nat→Nat} {anc:Nat→Nat→Prop} {ao:Nat→AOper} {call:CallF} {bs:Nat} {R:Nat→Regs} {H:Nat→Heap} {ds:List Deferred}
variable {g0:Gh} {ow0:Nat→Option Nat} {w0:World} {L:Nat→Prop} {a:Act} {w:World} {Q:Exit→Act→World→Prop}
theorem put_RR2 (hP:Plan P mt nt ops n ord anc ao) (hst:∀ i,i<n→StepR call bs (ao i) (R i) (H i) (R (i+1)) (H (i+1))) {p:Nat} (hp:p<n) {v:AV} (hv:R (p+1)=setDst (R p) (ao p).dst v)
  {g:Gh} (hR:RR g (mixR R n ao L) a.tmps) {cv:Value} (hV:VR g v cv):RR g (mixR R n ao (fun q=>L q∨q=p)) (a.put (ao p).dst cv).tmps:=
 (put_RR hR hV).congr (by rw [setDst_len,mixR_len,mixR_len]) fun t=>mixR_set hP hst hp hv t
theorem At.same (hP:Plan P mt nt ops n ord anc ao) (hst:∀ i,i<n→StepR call bs (ao i) (R i) (H i) (R (i+1)) (H (i+1))) {g ow} {k p:Nat} (h:At ds bs R H n ao g0 ow0 w0 k L g ow a w) (hp:p<n) (hE:isE (ao p).op=false)
  {v:AV} (hv:R (p+1)=setDst (R p) (ao p).dst v) {g' ow' w' cv} (hV:VR g' v cv) (hH:HR g' ow' (H k) w') (hS:St bs g0 ow0 (H 0) w0 g' ow' (H k) w') (hle:g.le g')
  (hnone:∀ q,q<k→isNew (ao q).op=true→guardA (R q) (ao q).guard=some true→¬ L q→q≠p→g'.φ (H q).length=none) :
  At ds bs R H n ao g0 ow0 w0 k (fun q=>L q∨q=p) g' ow' (a.put (ao p).dst cv) w':=
 ⟨h.le,fun q h1 h2=>.inl (h.E1 q h1 h2),fun q h1 h2 h3 h4=>h4.elim (h.E2 q h1 h2 h3) (fun e=>by subst e; rw [hE] at h3; cases h3),hH,hS,by rw [put_defers]; exact h.df,
  put_RR2 hP hst hp hv (h.rr.mono hle) hV,h.mono,fun q h1 h2 h3 h4=>hnone q h1 h2 h3 (fun e=>h4 (.inl e)) (fun e=>h4 (.inr e))⟩
theorem new_lt {call:CallF} {σ σ':Heap} {ρ:Regs} {op:AOp} {v:AV} (hn:isNew op=true) (hs:stepAll call bs ρ σ op=some (v,σ')):σ'.length=σ.length+1:=by
 rw [stepAll_nc (G_notC hn)] at hs
 obtain ⟨obj,rfl,_⟩:=new_obj hn hs; simp
theorem At.none_step (hst:∀ i,i<n→StepR call bs (ao i) (R i) (H i) (R (i+1)) (H (i+1))) {g ow} {k:Nat} (h:At ds bs R H n ao g0 ow0 w0 k L g ow a w) {q:Nat} (hq:q<k) (hn:isNew (ao q).op=true) (hg:guardA (R q) (ao q).guard=some true) :
  (H q).length+1=(H (q+1)).length∧(H q).length<(H k).length:=by
 have hle:=h.le
 rcases hst q (by omega) with ⟨_,v,hs,_,_⟩ | ⟨hg',_⟩
 ·have e:=new_lt hn hs
  have:=h.mono (q+1) k (by omega) (Nat.le_refl _)
  omega
 ·rw [hg] at hg'; cases hg'
theorem step_any {r0:Option Nat} {n0:Nat} (hP:Plan P mt nt ops n ord anc ao) (hcall:CallOK P call) (hst:∀ i,i<n→StepR call bs (ao i) (R i) (H i) (R (i+1)) (H (i+1))) (h0:HR g0 ow0 (H 0) w0) (hbs:bs≤(H 0).length) (hnt:nt≤(R 0).length)
  {p:Nat} (hp:p<n) (hL:¬ L p) (hdown:∀ q,anc q p→L q) (hdown2:∀ q r,q<n→r<n→anc q r→L r→L q) (hI:Inv ds bs R H n ao g0 ow0 w0 L a w) :
  wpOpIn (rnd r0) n0 P ops Q (ord p) (fun a' w'=>Inv ds bs R H n ao g0 ow0 w0 (fun q=>L q∨q=p) a' w') a w:=by
 obtain ⟨g,ow,k,h,hk⟩:=hI
 have hop:ord p<ops.size:=by rw [hP.size]; exact hP.lt p hp
 obtain ⟨o,ho⟩:∃ o,ops[ord p]?=some o:=⟨_,Array.getElem?_eq_getElem hop⟩
 obtain ⟨hc,hgd,hdst⟩:=hP.comp p o hp ho
 have hread:∀ t,t∈readsT (ao p)→(mixR R n ao L).getD t .undef=(R p).getD t .undef:=fun t ht=>mixR_read hP hst hp hL hdown (fun q hq ha hLq=>hdown2 p q hp hq ha hLq) ht
 have hev:∀ x∈opReads (ao p).op,ev (mixR R n ao L) x=ev (R p) x:=fun x hx=>ev_congr fun t ht=>hread t (mem_reads hx ht)
 have hrun:∀ σ:Heap,stepAll call bs (mixR R n ao L) σ (ao p).op=stepAll call bs (R p) σ (ao p).op:=fun σ=>reads_congr hev
 have hgu:guardA (mixR R n ao L) (ao p).guard=guardA (R p) (ao p).guard:=mixR_guard hread
 have hkE:k≤p→p<n→(isE (ao p).op=true∧p=k)∨clsN (ao p).op=true:=fun h1 h2=>by
  rcases Nat.lt_or_ge k p with hlt | hge
  ·rcases hP.early k p hlt h2 (hk (by omega)) with h3 | h3
   ·exact .inr h3
   ·exact absurd (hdown k h3) (h.E2 k (Nat.le_refl _) (by omega) (hk (by omega)))
  ·have:k=p:=by omega
   subst this; exact .inl ⟨hk h2,rfl⟩
 have hbsk:bs≤(H k).length:=Nat.le_trans hbs (h.mono 0 k (Nat.zero_le _) (Nat.le_refl _))
 have hnoneS:∀ {g' ow' w'},St bs g ow (H k) w g' ow' (H k) w'→∀ q,q<k→isNew (ao q).op=true→guardA (R q) (ao q).guard=some true→¬ L q→q≠p→g'.φ (H q).length=none:=fun hS q h1 h2 h3 h4 _=>
  hS.nonew _ (h.none_step hst h1 h2 h3).2 (h.fre q h1 h2 h3 h4)
 unfold wpOpIn
 simp only [ho]
 rcases hst p hp with ⟨hg,v,hs,hchk,hv⟩ | ⟨hg,hsame,hv⟩
 ·have hw:=guard_sound (b:=true) hgd h.rr (by rw [hgu,hg])
  rw [hw]
  simp only [if_true]
  rcases cls_cases (ao p).op with hN | ⟨x,hLd⟩ | hG | hE
  ·
   have hs2:stepAll call bs (mixR R n ao L) (H k) (ao p).op=some (v,H k):=by
    rw [hrun]; rw [stepAll_nc (N_notC hN)] at hs ⊢; exact (N_step hN hs).2 _
   refine step_sound hcall h.hr hbsk h.rr hc hs2 fun g' ow' w' cv hV hH hS=>?_
   rw [←hdst]
   exact ⟨g',ow',k,h.same hP hst hp (N_notE hN) hv hV hH (h.st.trans hS) hS.gle (hnoneS hS),hk⟩
  ·
   have hpk:p<k:=by
    rcases Nat.lt_or_ge p k with hlt | hge
    ·exact hlt
    ·rcases hkE hge hp with ⟨he,_⟩ | he
     ·rw [L_notE hLd] at he; cases he
     ·rw [L_notN hLd] at he; cases he
   have hs1:=hs
   rw [stepAll_nc (L_notC hLd)] at hs1
   obtain ⟨e1,hobj,hany⟩:=L_step hLd hs1
   have hkeep:=obj_keep hst hobj k (by omega) h.le fun q h1 h2 h3 h4=>by
    have hqp:p≠q:=fun e=>by subst e; rw [L_notE hLd] at h3; cases h3
    have hkn:=h.le
    rcases hP.lateL p q x (by omega) (by omega) h3 hLd with h5 | ⟨h5,h6⟩
    ·exact absurd (hdown2 p q hp (by omega) h5 (h.E1 q h2 h3)) hL
    ·rcases hst q (by omega) with ⟨_,v',_,hc',_⟩ | ⟨hg',_⟩
     ·have:=hc' x h5
      have hx:ev (R q) x=ev (R p) x:=ev_congr fun t ht=>R_keep hst q (by omega) (by omega) fun r hr1 hr2=>h6 t ht r hr1 (by omega)
      rw [hx] at this; exact this
     ·rw [h4] at hg'; cases hg'
   have hs2:stepAll call bs (mixR R n ao L) (H k) (ao p).op=some (v,H k):=by
    rw [hrun,stepAll_nc (L_notC hLd)]; exact hany _ hkeep
   refine step_sound hcall h.hr hbsk h.rr hc hs2 fun g' ow' w' cv hV hH hS=>?_
   rw [←hdst]
   exact ⟨g',ow',k,h.same hP hst hp (L_notE hLd) hv hV hH (h.st.trans hS) hS.gle (hnoneS hS),hk⟩
  ·
   have hpk:p<k:=by
    rcases Nat.lt_or_ge p k with hlt | hge
    ·exact hlt
    ·rcases hkE hge hp with ⟨he,_⟩ | he
     ·rw [G_notE hG] at he; cases he
     ·rw [G_notN hG] at he; cases he
   have hs1:=hs
   rw [stepAll_nc (G_notC hG)] at hs1
   obtain ⟨obj,hobj,hpt⟩:=new_obj hG hs1
   have hfree:=h.fre p hpk hG hg hL
   obtain ⟨hlen1,hlen2⟩:=h.none_step hst hpk hG hg
   have hat:(H (p+1))[(H p).length]?=some obj:=by rw [hobj]; simp
   have hkn:=h.le
   have hkeep:=obj_keep (av:=v) (i:=p+1) hst (.inr ⟨_,obj,hat,hpt⟩) k (by omega) h.le fun q h1 h2 h3 h4=>by
    rcases hP.lateG p q (by omega) (by omega) h3 hG with h5 | ⟨d,h5,h6,h7⟩
    ·exact absurd (hdown2 p q hp (by omega) h5 (h.E1 q h2 h3)) hL
    ·rcases hst q (by omega) with ⟨_,v',_,hc',_⟩ | ⟨hg',_⟩
     ·have:=hc' _ h7
      have hx:ev (R q) (.t d)=v:=by
       have e1:(R q).getD d .undef=(R (p+1)).getD d .undef:=R_keep hst q (by omega) (by omega) fun r hr1 hr2 hr=>by have:=hP.one p r d hp (by omega) h5 hr; omega
       simp only [ev]
       rw [e1,hv,h5]
       have hl:=R_len hst p (by omega)
       simp [setDst,List.getElem?_set,show d<(R p).length by omega]
      rw [hx] at this; exact this
     ·rw [h4] at hg'; cases hg'
   rw [hpt,hpt,hat] at hkeep
   have hs2:stepOp bs (mixR R n ao L) (H p) (ao p).op=some (v,H (p+1)):=by
    have:=hrun (H p); rw [stepAll_nc (G_notC hG),stepAll_nc (G_notC hG)] at this; rw [this,hs1]
   obtain ⟨mkAV,obj',e1,e2,_,hres⟩:=op_new (w:=w) h.rr hc hG hs2
   have:obj'=obj:=by
    have h3:=hobj.symm.trans e2
    have:=List.append_cancel_left h3
    simpa using this.symm
   subst this
   obtain ⟨w',o',c,cv,hr,hwp,hsm,hcs,hi,ht,hvr,hbdn⟩:=hres
   refine ⟨fun _ _=>trivial,?_⟩
   show o.uponIn (rnd r0) n0 P a _ Q ((o.semAt r0 a.eval).run P w)
   rw [sem_of hc,hr,Oper.uponIn_value]
   rw [←hdst]
   have hH:HR (g.put (H p).length w.heap.size c) (upd ow w.heap.size (H p).length) (H k) w':=
    h.hr.newAt hwp hfree (fun n s e=>by rw [hkeep] at e; injection e with e; exact ht n s e) (Nat.le_refl _) hlen2 (fun j _ _=>rfl) (fun j hj _=>h.hr.none_len hj) c
     (fun cs fz ext e=>by rw [hkeep] at e; injection e with e; exact hcs cs fz ext e) (fun s pos e=>by rw [hkeep] at e; injection e with e; exact hi s pos e) (fun o2 hsp he=>by rw [hkeep] at he; injection he with he; subst he; exact (hbdn hsp).imp id .inl)
   refine ⟨_,_,k,h.same hP hst hp (G_notE hG) hv (e1 ▸ hvr _ (H p).length (by simp [Gh.put])) hH (h.st.late h0 hwp hsm (h.mono 0 p (Nat.zero_le _) (by omega)) hfree c) (Gh.put_le hfree _ _) (fun q h1 h2 h3 h4 hqp=>?_),hk⟩
   ·have hne:(H q).length≠(H p).length:=by
     obtain ⟨hq1,_⟩:=h.none_step hst h1 h2 h3
     rcases Nat.lt_or_ge q p with hlt | hge
     ·have:=h.mono (q+1) p (by omega) (by omega); omega
     ·have:=h.mono (p+1) q (by omega) (by omega); omega
    simp only [Gh.put]; rw [if_neg hne]; exact h.fre q h1 h2 h3 h4
  ·
   have hpk:p=k:=by
    rcases Nat.lt_or_ge p k with hlt | hge
    ·exact absurd (h.E1 p hlt hE) hL
    ·rcases hkE hge hp with ⟨_,he⟩ | he
     ·exact he
     ·rw [isE_N hE] at he; cases he
   subst hpk
   have hs2:stepAll call bs (mixR R n ao L) (H p) (ao p).op=some (v,H (p+1)):=by rw [hrun,hs]
   refine step_sound hcall h.hr hbsk h.rr hc hs2 fun g' ow' w' cv hV hH hS=>?_
   rw [←hdst]
   refine At.advance hst (n - (p+1)) (p+1) (by omega) ⟨by omega,fun q h1 h2=>?_,fun q h1 h2 h3 h4=>?_,hH,h.st.trans hS,by rw [put_defers]; exact h.df,put_RR2 hP hst hp hv (h.rr.mono hS.gle) hV,fun i j hij hj=>?_,fun q h1 h2 h3 h4=>?_⟩
   ·rcases Nat.lt_or_ge q p with hlt | hge
    ·exact .inl (h.E1 q hlt h2)
    ·exact .inr (by omega)
   ·rcases h4 with h4 | h4
    ·exact h.E2 q (by omega) h2 h3 h4
    ·omega
   ·rcases Nat.lt_or_ge j (p+1) with hlt | hge
    ·exact h.mono i j hij (by omega)
    ·have hj':j=p+1:=by omega
     subst hj'
     rcases Nat.lt_or_ge i (p+1) with hlt | hge
     ·exact Nat.le_trans (h.mono i p (by omega) (Nat.le_refl _)) hS.len
     ·have:i=p+1:=by omega
      rw [this]; exact Nat.le_refl _
   ·have hq:q≠p:=fun e=>h4 (.inr e)
    exact hS.nonew _ (h.none_step hst (by omega) h2 h3).2 (h.fre q (by omega) h2 h3 fun e=>h4 (.inl e))
 ·have hw:=guard_sound (b:=false) hgd h.rr (by rw [hgu,hg])
  rw [hw]
  simp only [Bool.false_eq_true,if_false]
  refine ⟨fun _ _=>trivial,?_⟩
  have hV:VR g (.tup []) undef:=.tup rfl fun i x v hx=>by simp at hx
  rw [←hdst]
  cases hE:isE (ao p).op with
  | false=>exact ⟨g,ow,k,h.same hP hst hp hE hv hV h.hr h.st (.refl _) (fun q h1 h2 h3 h4 _=>h.fre q h1 h2 h3 h4),hk⟩
  | true=>
   have hpk:p=k:=by
    rcases Nat.lt_or_ge p k with hlt | hge
    ·exact absurd (h.E1 p hlt hE) hL
    ·rcases hkE hge hp with ⟨_,he⟩ | he
     ·exact he
     ·rw [isE_N hE] at he; cases he
   subst hpk
   refine At.advance hst (n - (p+1)) (p+1) (by omega) ⟨by omega,fun q h1 h2=>?_,fun q h1 h2 h3 h4=>?_,by rw [hsame]; exact h.hr,by rw [hsame]; exact h.st,by rw [put_defers]; exact h.df,put_RR2 hP hst hp hv h.rr hV,fun i j hij hj=>?_,fun q h1 h2 h3 h4=>?_⟩
   ·rcases Nat.lt_or_ge q p with hlt | hge
    ·exact .inl (h.E1 q hlt h2)
    ·exact .inr (by omega)
   ·rcases h4 with h4 | h4
    ·exact h.E2 q (by omega) h2 h3 h4
    ·omega
   ·rcases Nat.lt_or_ge j (p+1) with hlt | hge
    ·exact h.mono i j hij (by omega)
    ·have hj':j=p+1:=by omega
     subst hj'
     rcases Nat.lt_or_ge i (p+1) with hlt | hge
     ·rw [hsame]; exact h.mono i p (by omega) (Nat.le_refl _)
     ·have:i=p+1:=by omega
      rw [this]; exact Nat.le_refl _
   ·have hq:q≠p:=fun e=>h4 (.inr e)
    exact h.fre q (by omega) h2 h3 fun e=>h4 (.inl e)
end
end Go.Mach
end
section
namespace Go.Mach
open Go.RowKit
open Classical
def maskOf (acc:List Nat) (o:Oper):Nat:=
 o.after.toList.foldl (fun m e=>if Region.binds .any e then (m ||| (1 <<< e.on)) ||| acc.getD e.on 0 else m) 0
def masks:List Oper→List Nat→List Nat
 | [],acc=>acc
 | o :: os,acc=>masks os (acc++[maskOf acc o])
def okEdges:Nat→List Oper→Bool
 | _,[]=>true
 | i,o :: os=>o.after.toList.all (fun e=>!Region.binds .any e || decide (e.on<i)) && okEdges (i+1) os
def nextOp (asq:List AOper) (ms:List Nat) (done:Nat) (e:Bool):Nat→Nat→Option Nat
 | 0,_=>none
 | f+1,i=>if !done.testBit i && ((ms.getD i 0) &&& done == ms.getD i 0) && (isE (asq.getD i default).op == e) then some i else nextOp asq ms done e f (i+1)
def orderGo (asq:List AOper) (ms:List Nat):Nat→Nat→List Nat
 | 0,_=>[]
 | f+1,done=>match (nextOp asq ms done false asq.length 0).or (nextOp asq ms done true asq.length 0) with
  | some i=>i :: orderGo asq ms f (done ||| (1 <<< i))
  | none=>[]
def chkOf (asq:List AOper) (m:Nat) (before:List Nat):List AX:=before.filterMap fun j=>
 if m.testBit j then none else match clsL (asq.getD j default).op with
  | some x=>some x
  | none=>if isNew (asq.getD j default).op then (asq.getD j default).dst.map .t else none
def chkGo (asq:List AOper) (ms:List Nat):List Nat→List Nat→List (Nat × AOper)
 | _,[]=>[]
 | before,i :: rest=>(i,{asq.getD i default with chk:=if isE (asq.getD i default).op then chkOf asq (ms.getD i 0) before else []}) :: chkGo asq ms (before++[i]) rest
def isT (t:Nat):AX→Bool
 | .t n=>n == t
 | _=>false
def readBy (y:AOper):Option Nat→Bool
 | none=>false
 | some t=>(readsT y).contains t
def loneOK (tail:List (Nat × AOper)) (x y:AOper):Bool:=
 !readBy y x.dst && !readBy x y.dst && (!isE x.op || clsN y.op) && (!isE y.op ||
  ((match clsL x.op with
   | some (.t t)=>y.chk.any (isT t) && tail.all (fun z=>!(z.2.dst == some t))
   | some _=>false
   | none=>true)))
def newOK (nt:Nat) (x y:AOper):Bool:=!isE y.op || !isNew x.op || (match x.dst with | some d=>decide (d<nt) && y.chk.any (isT d) | none=>false)
def pairOK (nt:Nat) (ms:List Nat) (tail:List (Nat × AOper)) (x y:Nat × AOper):Bool:=
 !(x.1 == y.1) && (x.2.dst.isNone || !(x.2.dst == y.2.dst)) && ((ms.getD y.1 0).testBit x.1 || (loneOK tail x.2 y.2 && newOK nt x.2 y.2))
def pairsOK (nt:Nat) (ms:List Nat):List (Nat × AOper)→Bool
 | []=>true
 | x :: rest=>rest.all (pairOK nt ms (x :: rest) x) && pairsOK nt ms rest
def planOK (nt n:Nat) (ms:List Nat) (z:List (Nat × AOper)):Bool:=
 z.length == n && z.all (fun x=>decide (x.1<n)) && (List.range n).all (fun j=>z.any (fun x=>x.1 == j)) && pairsOK nt ms z
def planZ (nt:Nat) (asq:List AOper) (ms:List Nat):Option (List (Nat × AOper)):=
 let z:=chkGo asq ms [] (orderGo asq ms asq.length 0)
 if planOK nt asq.length ms z=true then some z else none
def compD (P:Program) (mt:Bool) (nt:Nat) (ops:Array Oper):Option (List AOper):=
 (ops.toList.mapM (compOper P mt ops)).bind fun asq=>if okEdges 0 ops.toList=true then (planZ nt asq (masks ops.toList [])).map fun z=>z.map (·.2) else none
theorem maskOf_bit {acc:List Nat} {o:Oper} {i:Nat} (h:(maskOf acc o).testBit i=true):∃ e∈o.after,Region.binds .any e=true∧(e.on=i∨(acc.getD e.on 0).testBit i=true):=by
 have go:∀ (l:List Edge) (m:Nat),(l.foldl (fun m e=>if Region.binds .any e then (m ||| (1 <<< e.on)) ||| acc.getD e.on 0 else m) m).testBit i=true →
   m.testBit i=true∨∃ e∈l,Region.binds .any e=true∧(e.on=i∨(acc.getD e.on 0).testBit i=true):=by
  intro l
  induction l with
  | nil=>intro m h; exact .inl h
  | cons e l ih=>
   intro m h
   rw [List.foldl_cons] at h
   rcases ih _ h with h1 | ⟨e',he,h2⟩
   ·split at h1
    ·rename_i hb
     rw [Nat.testBit_or,Nat.testBit_or,Bool.or_eq_true,Bool.or_eq_true] at h1
     rcases h1 with (h1 | h1) | h1
     ·exact .inl h1
     ·refine .inr ⟨e,List.mem_cons_self,hb,.inl ?_⟩
      rw [Nat.testBit_shiftLeft] at h1
      simp only [zqL,decide_eq_true_eq] at h1
      obtain ⟨h3,h4⟩:=h1
      rcases Nat.lt_or_ge 0 (i - e.on) with hlt | hge
      ·rw [Nat.testBit_one_eq_true_iff_self_eq_zero] at h4; omega
      ·omega
     ·exact .inr ⟨e,List.mem_cons_self,hb,.inr h1⟩
    ·exact .inl h1
   ·exact .inr ⟨e',List.mem_cons_of_mem _ he,h2⟩
 rcases go _ _ h with h1 | ⟨e,he,h2⟩
 ·simp at h1
 ·exact ⟨e,by simpa using he,h2⟩
theorem maskOf_congr {acc acc':List Nat} {o:Oper} (h:∀ e∈o.after,Region.binds .any e=true→acc.getD e.on 0=acc'.getD e.on 0):maskOf acc o=maskOf acc' o:=by
 unfold maskOf
 have go:∀ (l:List Edge) (m:Nat),(∀ e∈l,Region.binds .any e=true→acc.getD e.on 0=acc'.getD e.on 0) →
   l.foldl (fun m e=>if Region.binds .any e then (m ||| (1 <<< e.on)) ||| acc.getD e.on 0 else m) m=l.foldl (fun m e=>if Region.binds .any e then (m ||| (1 <<< e.on)) ||| acc'.getD e.on 0 else m) m:=by
  intro l
  induction l with
  | nil=>intro m _; rfl
  | cons e l ih=>
   intro m h
   rw [List.foldl_cons,List.foldl_cons]
   have:(if Region.binds .any e then (m ||| (1 <<< e.on)) ||| acc.getD e.on 0 else m)=if Region.binds .any e then (m ||| (1 <<< e.on)) ||| acc'.getD e.on 0 else m:=by
    split
    ·rename_i hb; rw [h e List.mem_cons_self hb]
    ·rfl
   rw [this]; exact ih _ fun e' he=>h e' (List.mem_cons_of_mem _ he)
 exact go _ _ fun e he=>h e (by simpa using he)
theorem okEdges_get:∀ (os:List Oper) (i:Nat),okEdges i os=true→∀ (j:Nat) o,os[j]?=some o→∀ e∈o.after,Region.binds .any e=true→e.on<i+j
 | [],_,_,j,o,ho=>by simp at ho
 | o :: os,i,h,j,o',ho=>by
  simp only [okEdges,zqL] at h
  intro e he hb
  cases j with
  | zero=>
   simp at ho; subst ho
   have:=zqQ.1 h.1 e (by simpa using he)
   simp only [hb,Bool.not_true,Bool.false_or,decide_eq_true_eq] at this
   omega
  | succ j=>have:=okEdges_get os (i+1) h.2 j o' (by simpa using ho) e he hb; omega
theorem masks_old:∀ (os:List Oper) (acc:List Nat) (i:Nat),i<acc.length→(masks os acc).getD i 0=acc.getD i 0
 | [],_,_,_=>rfl
 | o :: os,acc,i,hi=>by
  simp only [masks]
  rw [masks_old os _ i (by simp; omega)]
  simp only [List.getD_eq_getElem?_getD]
  rw [zqA hi]
theorem masks_get:∀ (os:List Oper) (acc:List Nat),okEdges acc.length os=true→∀ (j:Nat) o,os[j]?=some o→(masks os acc).getD (acc.length+j) 0=maskOf (masks os acc) o
 | [],_,_,j,o,ho=>by simp at ho
 | o :: os,acc,h,j,o',ho=>by
  have h':=h
  simp only [okEdges,zqL] at h
  simp only [masks]
  cases j with
  | zero=>
   simp at ho; subst ho
   rw [masks_old os _ _ (by simp)]
   rw [show (acc++[maskOf acc o]).getD (acc.length+0) 0=maskOf acc o by simp]
   refine maskOf_congr fun e he hb=>?_
   have:=okEdges_get _ _ h' 0 o rfl e he hb
   rw [masks_old os _ _ (by simp; omega)]
   simp only [List.getD_eq_getElem?_getD]
   rw [zqA (by omega)]
  | succ j=>
   have:=masks_get os (acc++[maskOf acc o]) (by simpa using h.2) j o' (by simpa using ho)
   simp only [zqJ,List.length_singleton] at this
   rw [show acc.length+(j+1)=acc.length+1+j by omega]; exact this
theorem chkGo_get (asq:List AOper) (ms:List Nat):∀ (l before:List Nat) x,x∈chkGo asq ms before l→∃ c,x.2={asq.getD x.1 default with chk:=c}
 | [],_,x,hx=>by simp [chkGo] at hx
 | i :: l,before,x,hx=>by
  simp only [chkGo,List.mem_cons] at hx
  rcases hx with rfl | hx
  ·exact ⟨_,rfl⟩
  ·exact chkGo_get asq ms l _ x hx
theorem pairs_get {nt:Nat} {ms:List Nat}:∀ (z:List (Nat × AOper)),pairsOK nt ms z=true→∀ (p q:Nat) x y,p<q→z[p]?=some x→z[q]?=some y→pairOK nt ms (z.drop p) x y=true
 | [],_,p,q,x,y,_,hx,_=>by simp at hx
 | x0 :: z,h,p,q,x,y,hpq,hx,hy=>by
  simp only [pairsOK,zqL] at h
  cases q with
  | zero=>omega
  | succ q=>
   have hy':z[q]?=some y:=by simpa using hy
   cases p with
   | zero=>
    simp at hx; subst hx
    exact zqQ.1 h.1 y (zqR hy')
   | succ p=>exact pairs_get z h.2 p q x y (by omega) (by simpa using hx) hy'
theorem any_isT {t:Nat} {l:List AX} (h:l.any (isT t)=true):AX.t t∈l:=by
 obtain ⟨x,hx,h1⟩:=List.any_eq_true.1 h
 cases x with
 | t n=>simp only [isT,beq_iff_eq] at h1; subst h1; exact hx
 | _=>simp [isT] at h1
theorem mapM_get {α β:Type} {f:α→Option β}:∀ {l:List α} {l':List β},l.mapM f=some l'→l'.length=l.length∧∀ (i:Nat) x y,l[i]?=some x→l'[i]?=some y→f x=some y
 | [],l',h=>by simp at h; subst h; exact ⟨rfl,fun i x y hx=>by simp at hx⟩
 | x :: l,l',h=>by
  rw [List.mapM_cons] at h
  simp only [zqK,zqH,Option.pure_def] at h
  obtain ⟨y,hy,ys,hys,e⟩:=h
  injection e with e; subst e
  obtain ⟨h1,h2⟩:=mapM_get hys
  refine ⟨by simp [h1],fun i a b ha hb=>?_⟩
  cases i with
  | zero=>simp at ha hb; subst ha hb; exact hy
  | succ i=>simp at ha hb; exact h2 i a b ha hb
def zord (z:List (Nat × AOper)) (p:Nat):Nat:=(z.getD p default).1
def zao (z:List (Nat × AOper)) (p:Nat):AOper:=(z.getD p default).2
def zanc (n:Nat) (ms:List Nat) (z:List (Nat × AOper)) (p q:Nat):Prop:=p<n∧(ms.getD (zord z q) 0).testBit (zord z p)=true
section
variable {P:Program} {mt:Bool} {nt:Nat} {ops:Array Oper}
theorem plan_of {asq:List AOper} {z:List (Nat × AOper)} {ms:List Nat} (ha:ops.toList.mapM (compOper P mt ops)=some asq) (hz:planZ nt asq ms=some z) :
  z.length=ops.size∧Plan P mt nt ops ops.size (zord z) (zanc ops.size ms z) (zao z):=by
 obtain ⟨hlen,hget⟩:=mapM_get ha
 have hlen':asq.length=ops.size:=by simpa using hlen
 simp only [planZ] at hz
 split at hz
 ·rename_i hok
  injection hz with hz
  rw [hz] at hok
  simp only [planOK,zqL,beq_iff_eq] at hok
  obtain ⟨⟨⟨h1,h2⟩,h3⟩,h4⟩:=hok
  rw [hlen'] at h1 h2 h3
  have hat:∀ p,p<ops.size→z[p]?=some (z.getD p default):=fun p hp=>by
   rw [List.getD_eq_getElem?_getD,zqF (by omega)]; rfl
  have hpair:∀ p q,p<q→q<ops.size→pairOK nt ms (z.drop p) (z.getD p default) (z.getD q default)=true:=fun p q hpq hq=>
   pairs_get z h4 p q _ _ hpq (hat p (by omega)) (hat q hq)
  have hpo:∀ p q,p<q→q<ops.size→zord z p≠zord z q∧(∀ t,(zao z p).dst=some t→(zao z q).dst≠some t)∧(zanc ops.size ms z p q∨(loneOK (z.drop p) (zao z p) (zao z q)=true∧newOK nt (zao z p) (zao z q)=true)):=fun p q hpq hq=>by
   have:=hpair p q hpq hq
   simp only [pairOK,zqL,Bool.not_eq_true',beq_eq_false_iff_ne,Bool.or_eq_true] at this
   obtain ⟨⟨e1,e2⟩,e3⟩:=this
   refine ⟨e1,fun t ht hq'=>?_,e3.imp (fun h=>⟨by omega,h⟩) id⟩
   rcases e2 with e2 | e2
   ·unfold zao at ht; rw [ht] at e2; cases e2
   ·exact e2 (ht.trans hq'.symm)
  refine ⟨h1,⟨fun p hp=>?_,fun p q hp hq he=>?_,fun j hj=>?_,rfl,fun p o hp ho=>?_,fun p q t hp hq hdp hdq=>?_,fun p q t hp hq ht hd=>?_,fun p q hpq hq hE=>?_,fun p q x hpq hq hE hx=>?_,fun p q hpq hq hE hG=>?_⟩⟩
  ·have:=zqQ.1 h2 _ (zqR (hat p hp))
   exact of_decide_eq_true this
  ·rcases Nat.lt_trichotomy p q with h | h | h
   ·exact absurd he (hpo p q h hq).1
   ·exact h
   ·exact absurd he.symm (hpo q p h hp).1
  ·have:=zqQ.1 h3 j (by simpa using hj)
   obtain ⟨x,hx,hj'⟩:=List.any_eq_true.1 this
   obtain ⟨p,hp,he⟩:=zqS hx
   refine ⟨p,by omega,?_⟩
   unfold zord
   rw [List.getD_eq_getElem?_getD,zqF hp,he]; simpa using hj'
  ·have hmem:z.getD p default∈chkGo asq ms [] (orderGo asq ms asq.length 0):=by rw [hz]; exact zqR (hat p hp)
   obtain ⟨c,hc⟩:=chkGo_get asq ms _ _ _ hmem
   have hlt:=(zqN.1 ho).1
   have has:asq[zord z p]?=some (asq.getD (zord z p) default):=by rw [List.getD_eq_getElem?_getD,zqF (by omega)]; rfl
   have:=hget (zord z p) o _ (by simpa using ho) has
   unfold compOper at this
   obtain ⟨aop,e1,this⟩:=zqH.1 this
   obtain ⟨gd,e2,this⟩:=zqH.1 this
   injection this with this
   have hc':zao z p={asq.getD (zord z p) default with chk:=c}:=hc
   rw [hc',←this]
   exact ⟨e1,e2,rfl⟩
  ·rcases Nat.lt_trichotomy p q with h | h | h
   ·exact absurd hdq ((hpo p q h hq).2.1 t hdp)
   ·exact h
   ·exact absurd hdp ((hpo q p h hp).2.1 t hdq)
  ·rcases Nat.lt_trichotomy p q with h | h | h
   ·rcases (hpo p q h hq).2.2 with h5 | ⟨h5,_⟩
    ·exact .inr (.inr ⟨h,h5⟩)
    ·simp only [loneOK,zqL,Bool.not_eq_true'] at h5
     have:=h5.1.1.2
     rw [hd] at this; simp only [readBy] at this
     rw [List.contains_eq_mem] at this
     exact absurd ht (by simpa using this)
   ·exact .inl h.symm
   ·rcases (hpo q p h hp).2.2 with h5 | ⟨h5,_⟩
    ·exact .inr (.inl ⟨h,h5⟩)
    ·simp only [loneOK,zqL,Bool.not_eq_true'] at h5
     have:=h5.1.1.1
     rw [hd] at this; simp only [readBy] at this
     rw [List.contains_eq_mem] at this
     exact absurd ht (by simpa using this)
  ·rcases (hpo p q hpq hq).2.2 with h5 | ⟨h5,_⟩
   ·exact .inr h5
   ·simp only [loneOK,zqL,Bool.or_eq_true,Bool.not_eq_true'] at h5
    rcases h5.1.2 with h6 | h6
    ·rw [hE] at h6; cases h6
    ·exact .inl h6
  ·rcases (hpo p q hpq hq).2.2 with h5 | ⟨h5,_⟩
   ·exact .inl h5
   ·simp only [loneOK,zqL,Bool.or_eq_true,Bool.not_eq_true'] at h5
    rcases h5.2 with h6 | h6
    ·rw [hE] at h6; cases h6
    ·rw [hx] at h6
     cases x with
     | t t=>
      simp only [zqL] at h6
      refine .inr ⟨any_isT h6.1,fun t' ht' r hr1 hr2 hr=>?_⟩
      injection ht' with ht'; subst ht'
      have hm:z.getD r default∈z.drop p:=by
       refine zqR (i:=r - p) ?_
       rw [List.getElem?_drop,show p+(r - p)=r by omega]; exact hat r hr2
      have:=zqQ.1 h6.2 _ hm
      unfold zao at hr; rw [hr] at this; simp at this
     | _=>cases h6
  ·rcases (hpo p q hpq hq).2.2 with h5 | ⟨_,h5⟩
   ·exact .inl h5
   ·simp only [newOK,Bool.or_eq_true,Bool.not_eq_true'] at h5
    rcases h5 with (h6 | h6) | h6
    ·rw [hE] at h6; cases h6
    ·rw [hG] at h6; cases h6
    ·split at h6
     ·rename_i d hd
      simp only [zqL,decide_eq_true_eq] at h6
      exact .inr ⟨d,hd,h6.1,any_isT h6.2⟩
     ·cases h6
 ·cases hz
end
end Go.Mach
end
