import Derived.Test.YtkfiepnkedcmgaaC3
import Derived.Test.YtkfiepnkedcmgaaChecked
import Derived.KernelRfl
import Derived.WalkKit
import Derived.Lib.Bytealg
import Derived.BigFrameIn
import Derived.Lib.Builder
import Derived.Lib.AppendStr
import Derived.Lib.UnsafeStr
import Derived.Lib.Walk
import Derived.BigRegion
import Derived.Laws.IdiomCopy
import Derived.Laws.Externs
import Derived.Laws.RangeAny
import Derived.Lib.ItoaNum
import Derived.Lib.ItoaLen
set_option linter.unusedVariables false
set_option linter.unusedSimpArgs false
set_option linter.unnecessarySimpa false
section
namespace Go.Proofs.Ytkfiepnkedcmgaa
open Go.Mach
abbrev oO (d:Nat)(x:AOp):AOper:=⟨some d,x,none,[]⟩
abbrev oU (x:AOp):AOper:=⟨none,x,none,[]⟩
abbrev oM (d x:Nat):AOper:=⟨some d,.mv (.t x),none,[]⟩
abbrev oF (d i x:Nat):AOper:=⟨some d,.faddr i (.t x),none,[]⟩
abbrev oL (d i x:Nat):AOper:=⟨some d,.load i false (.t x),none,[]⟩
abbrev oR (d i x:Nat):AOper:=⟨some d,.load i true (.t x),none,[]⟩
abbrev oX (d i x:Nat):AOper:=⟨some d,.extract i (.t x),none,[]⟩
abbrev oG (d:Nat)(x:AOp)(a:Nat)(b:Bool):AOper:=⟨some d,x,some (a,b),[]⟩
abbrev nI (n:Int):AX:=.c (.int .i64 n)
abbrev oS:AV:=.str ⟨#[]⟩
abbrev oZ:AV:=.int .i64 0
abbrev oN:AV:=.isl [] true
abbrev qR (o:List AOper)(c:ACode):ACode:=.seq (.region o) c
abbrev pP:Pol:={mt:=false,mtAt:=[],mode:=.pure,clArgs:=true,clRes:=true}
abbrev pG:Pol:={mt:=false,mtAt:=[],mode:=.gc,clArgs:=false,clRes:=false}
def c3:AFunc:=⟨89,[.tmp 2],qR [oO 2 (.mv (.c (.bool false)))] (qR [oO 13 (.call 8 []),oM 3 13] (qR [oO 14 (.call 9 [.c (.str ⟨#[98]⟩)]),oM 4 14] (.seq (qR [oM 15 3,oO 16 (.un .not (.t 15)),oM 17 16,oG 18 (.mv (.t 4)) 17 false,oG 19 (.eqp false (.t 18)) 17 false,oO 20 (.pick (.t 17) (.c (.bool true)) (.t 19))] (.cond (.t 20) (qR [oO 2 (.mv (.c (.bool false)))] .ret) .skip)) (qR [oO 21 (.buildSl 3 1 false [oZ,oZ,oZ] [(0,1,nI (-1)),(1,1,nI (-1)),(2,1,nI (-1))]),oM 5 21] (.seq (qR [oO 6 (.mv (nI 0))] (.block 0 (.loop (.seq (qR [oM 22 6,oM 23 0,oO 24 (.len false (.t 23)),oO 25 (.bin .lss (.t 22) (.t 24)),oM 26 25,oG 27 (.mv (.t 6)) 26 true,oG 28 (.bin .lss (.t 27) (nI 20)) 26 true,oO 29 (.pick (.t 26) (.t 28) (.c (.bool false)))] (.cond (.t 29) .skip (.exit 0))) (.seq (.block 1 (qR [oM 32 0,oM 33 6,oO 34 (.iaddrS 4 (.t 32) (.t 33)),oR 35 4 34,oO 36 (.call 10 [.t 35]),oO 7 (.alloc [oS,oS,oZ,oZ,oN]),oU (.store 5 (.t 7) (.t 36))] (qR [oM 37 0,oM 38 6,oO 39 (.iaddrS 4 (.t 37) (.t 38)),oF 40 0 39,oL 41 1 40,oO 42 (.call 11 [.t 41,nI 3]),oM 8 42] (qR [oF 43 2 7,oL 44 1 43,oO 45 (.bin .mul (nI 10) (.t 44)),oF 46 3 7,oL 47 1 46,oO 48 (.bin .add (.t 45) (.t 47)),oM 9 48] (.seq (qR [oM 49 4,oR 50 5 7,oM 52 9,oM 53 5,oM 54 8,oO 55 (.iaddrS 1 (.t 53) (.t 54)),oL 56 1 55,oO 57 (.bin .gtr (.t 52) (.t 56)),⟨(some 51),.call 12 [.t 49,.t 50],none,[.t 55]⟩,oO 58 (.eqb true (.t 51) (.t 57))] (.cond (.t 58) (qR [oO 2 (.mv (.c (.bool false)))] .ret) .skip)) (qR [oM 59 5,oM 60 8,oM 61 5,oM 62 8,oO 63 (.iaddrS 1 (.t 61) (.t 62)),oL 64 1 63,oM 65 9,oO 66 (.max [.t 64,.t 65]),oO 67 (.iaddrS 1 (.t 59) (.t 60)),oU (.store 1 (.t 67) (.t 66))] (qR [oM 69 4,oF 70 0 7,oL 71 1 70,oO 72 (.call 13 [.t 69,.t 71]),oM 68 72,oX 73 0 68,oX 74 1 68,oX 75 2 68,oM 10 73,oM 11 74,oM 12 75] (qR [oM 76 12,oO 77 (.un .not (.t 76)),oM 78 77,oG 79 (.mv (.t 10)) 78 false,oG 80 (.bin .mul (nI 10) (.t 79)) 78 false,oG 81 (.mv (.t 11)) 78 false,oG 82 (.bin .add (.t 80) (.t 81)) 78 false,oG 83 (.mv (.t 5)) 78 false,oG 84 (.mv (.t 8)) 78 false,oG 85 (.iaddrS 1 (.t 83) (.t 84)) 78 false,oG 86 (.load 1 false (.t 85)) 78 false,oG 87 (.bin .neq (.t 82) (.t 86)) 78 false,oO 88 (.pick (.t 78) (.c (.bool true)) (.t 87))] (.cond (.t 88) (qR [oO 2 (.mv (.c (.bool false)))] .ret) .skip))))))))) (.region [oM 30 6,oO 31 (.bin .add (.t 30) (nI 1)),oM 6 31])))))) (qR [oO 2 (.mv (.c (.bool true)))] .ret)))))),.pure,true,true⟩
theorem k3:compF Try.prog pP Try.f3=some c3:=by kernel_rfl
def c4:AFunc:=⟨77,[.tmp 4],qR [oO 3 (.box (.t 1)),oO 4 (.mv (.c (.bool false)))] (qR [oO 12 (.call 8 []),oM 5 12] (qR [oO 13 (.call 9 [.c (.str ⟨#[98]⟩)]),oM 6 13] (.seq (qR [oM 14 5,oO 15 (.un .not (.t 14)),oM 16 15,oG 17 (.mv (.t 6)) 16 false,oG 18 (.eqp false (.t 17)) 16 false,oO 19 (.pick (.t 16) (.c (.bool true)) (.t 18))] (.cond (.t 19) (qR [oO 4 (.mv (.c (.bool false)))] .ret) .skip)) (.seq (qR [oO 7 (.mv (nI 0))] (.block 0 (.loop (.seq (qR [oM 20 7,oM 21 0,oO 22 (.len false (.t 21)),oO 23 (.bin .lss (.t 20) (.t 22)),oM 24 23,oG 25 (.mv (.t 7)) 24 true,oG 26 (.bin .lss (.t 25) (nI 10)) 24 true,oO 27 (.pick (.t 24) (.t 26) (.c (.bool false)))] (.cond (.t 27) .skip (.exit 0))) (.seq (.block 1 (.region [oM 30 6,oM 31 0,oM 32 7,oO 33 (.iaddrS 4 (.t 31) (.t 32)),oR 34 4 33,oO 35 (.call 10 [.t 34]),oO 36 (.call 12 [.t 30,.t 35])])) (.region [oM 28 7,oO 29 (.bin .add (.t 28) (nI 1)),oM 7 29])))))) (qR [oM 37 6,oO 38 (.call 14 [.t 37,nI 0]),oM 8 38] (qR [oR 39 4 3,oO 40 (.call 10 [.t 39]),oO 9 (.alloc [oS,oS,oZ,oZ,oN]),oU (.store 5 (.t 9) (.t 40))] (qR [oF 41 2 9,oU (.store 1 (.t 41) (nI 99))] (qR [oR 42 5 9,oO 10 (.alloc [oS,oS,oZ,oZ,oN]),oU (.store 5 (.t 10) (.t 42))] (qR [oF 43 1 10,oU (.store 1 (.t 43) (.c (.str ⟨#[122,122]⟩)))] (qR [oF 44 4 10,oU (.store 1 (.t 44) (.c oN))] (qR [oR 45 5 9,oO 11 (.alloc [oS,oS,oZ,oZ,oN]),oU (.store 5 (.t 11) (.t 45))] (qR [oF 46 4 9,oL 47 1 46,oO 48 (.append 3 true 48 false (.c oN) (.t 47)),oO 49 (.build [oS,oN,oZ] [(0,1,.c (.str ⟨#[65]⟩))]),oO 50 (.buildSl 1 3 true [oS,oN,oZ] [(0,3,.t 49)]),oO 51 (.append 3 true 48 false (.t 48) (.t 50)),oF 52 4 11,oU (.store 1 (.t 52) (.t 51))] (.seq (qR [oM 53 6,oR 54 5 10,oO 55 (.call 12 [.t 53,.t 54]),oM 56 55,oG 57 (.mv (.t 6)) 56 false,oG 58 (.load 5 true (.t 11)) 56 false,oG 59 (.call 12 [.t 57,.t 58]) 56 false,oO 60 (.pick (.t 56) (.c (.bool true)) (.t 59)),oM 61 60,oG 62 (.mv (.t 6)) 61 false,oG 63 (.call 14 [.t 62,nI 0]) 61 false,oG 64 (.mv (.t 8)) 61 false,oG 65 (.call 15 [.t 63,.t 64]) 61 false,oG 66 (.un .not (.t 65)) 61 false,oO 67 (.pick (.t 61) (.c (.bool true)) (.t 66))] (.cond (.t 67) (qR [oO 4 (.mv (.c (.bool false)))] .ret) .skip)) (qR [oM 68 6,oR 69 5 9,oO 70 (.call 12 [.t 68,.t 69]),oM 71 70,oG 72 (.mv (.t 6)) 71 true,oG 73 (.load 5 true (.t 9)) 71 true,oG 74 (.call 12 [.t 72,.t 73]) 71 true,oG 75 (.un .not (.t 74)) 71 true,oO 76 (.pick (.t 71) (.t 75) (.c (.bool false))),oM 4 76] .ret)))))))))))))),.pure,true,true⟩
theorem k4:compF Try.prog pP Try.f4=some c4:=by kernel_rfl
def c5:AFunc:=⟨139,[.tmp 8],qR [oO 5 (.box (.t 1)),oO 8 (.mv (.c (.bool false)))] (qR [oO 23 (.call 8 []),oM 9 23] (.seq (qR [oM 24 0,oO 25 (.call 9 [.t 24]),oO 26 (.eqp false (.t 25)),oM 27 0,oO 28 (.call 16 [.t 27]),oO 29 (.eqp false (.t 28)),oO 30 (.eqb true (.t 26) (.t 29))] (.cond (.t 30) (qR [oO 8 (.mv (.c (.bool false)))] .ret) .skip)) (qR [oO 31 (.call 9 [.c (.str ⟨#[98]⟩)]),oM 10 31] (qR [oO 32 (.call 16 [.c (.str ⟨#[98]⟩)]),oM 11 32] (.seq (qR [oM 33 9,oO 34 (.un .not (.t 33)),oM 35 34,oG 36 (.mv (.t 10)) 35 false,oG 37 (.eqp false (.t 36)) 35 false,oO 38 (.pick (.t 35) (.c (.bool true)) (.t 37)),oM 39 38,oG 40 (.mv (.t 10)) 39 false,oG 41 (.load 5 true (.t 5)) 39 false,oG 43 (.mv (.t 11)) 39 false,oG 44 (.load 5 true (.t 5)) 39 false,⟨(some 42),.call 12 [.t 40,.t 41],(some (39,false)),[.t 5]⟩,oG 45 (.call 17 [.t 43,.t 44]) 39 false,oG 46 (.eqb true (.t 42) (.t 45)) 39 false,oO 47 (.pick (.t 39) (.c (.bool true)) (.t 46))] (.cond (.t 47) (qR [oO 8 (.mv (.c (.bool false)))] .ret) .skip)) (.seq (qR [oO 12 (.mv (nI 0))] (.block 0 (.loop (.seq (qR [oM 48 12,oM 49 2,oO 50 (.len false (.t 49)),oO 51 (.bin .lss (.t 48) (.t 50)),oM 52 51,oG 53 (.mv (.t 12)) 52 true,oG 54 (.bin .lss (.t 53) (nI 20)) 52 true,oO 55 (.pick (.t 52) (.t 54) (.c (.bool false)))] (.cond (.t 55) .skip (.exit 0))) (.seq (.block 1 (qR [oM 58 2,oM 59 12,oO 60 (.iaddrS 4 (.t 58) (.t 59)),oR 61 4 60,oO 62 (.call 10 [.t 61]),oO 13 (.alloc [oS,oS,oZ,oZ,oN]),oU (.store 5 (.t 13) (.t 62))] (qR [oO 14 (.mv (nI 0))] (.seq (qR [oM 63 12,oM 64 3,oO 65 (.len false (.t 64)),oO 66 (.bin .lss (.t 63) (.t 65))] (.cond (.t 66) (.region [oM 67 3,oM 68 12,oO 69 (.iaddrS 1 (.t 67) (.t 68)),oL 70 1 69,oO 71 (.call 11 [.t 70,nI 12]),oM 14 71]) .skip)) (.seq (qR [oM 72 10,oR 73 5 13,oM 75 11,oR 76 5 13,⟨(some 74),.call 12 [.t 72,.t 73],none,[.t 13]⟩,oO 77 (.call 17 [.t 75,.t 76]),oO 78 (.eqb true (.t 74) (.t 77)),oM 79 78,oG 80 (.mv (.t 10)) 79 false,oG 81 (.mv (.t 14)) 79 false,oG 83 (.mv (.t 11)) 79 false,oG 84 (.mv (.t 14)) 79 false,oG 82 (.call 14 [.t 80,.t 81]) 79 false,oG 85 (.call 18 [.t 83,.t 84]) 79 false,oG 86 (.call 15 [.t 82,.t 85]) 79 false,oG 87 (.un .not (.t 86)) 79 false,oO 88 (.pick (.t 79) (.c (.bool true)) (.t 87))] (.cond (.t 88) (qR [oO 8 (.mv (.c (.bool false)))] .ret) .skip)) (.seq (qR [oM 89 14,oO 90 (.bin .rem (.t 89) (nI 3)),oO 91 (.bin .eql (.t 90) (nI 2))] (.cond (.t 91) (qR [oM 92 10,oM 93 14,oO 94 (.call 19 [.t 92,.t 93])] (.region [oM 95 11,oM 96 14,oO 97 (.call 20 [.t 95,.t 96])])) .skip)) (qR [oF 98 0 5,oL 99 1 98,oO 100 (.buildSl 4 1 false [oS,oS,oS,oS] [(0,1,.c (.str ⟨#[97]⟩)),(1,1,.c (.str ⟨#[99]⟩)),(2,1,.c (.str ⟨#[100]⟩)),(3,1,.t 99)]),oO 101 (.len false (.t 100)),oO 102 (.mv (nI 0))] (.block 2 (.loop (qR [oO 103 (.bin .lss (.t 102) (.t 101))] (.seq (.cond (.t 103) .skip (.exit 2)) (.seq (.block 3 (qR [oO 104 (.iaddrS 1 (.t 100) (.t 102)),oL 105 1 104,oM 16 105] (qR [oM 107 10,oM 108 16,oO 109 (.call 13 [.t 107,.t 108]),oM 106 109,oX 110 0 106,oX 111 1 106,oX 112 2 106,oM 17 110,oM 18 111,oM 19 112] (qR [oM 114 11,oM 115 16,oO 116 (.call 21 [.t 114,.t 115]),oM 113 116,oX 117 0 113,oX 118 1 113,oX 119 2 113,oM 20 117,oM 21 118,oM 22 119] (qR [oM 120 17,oM 121 20,oO 122 (.bin .neq (.t 120) (.t 121)),oM 123 122,oG 124 (.mv (.t 18)) 123 false,oG 125 (.mv (.t 21)) 123 false,oG 126 (.bin .neq (.t 124) (.t 125)) 123 false,oO 127 (.pick (.t 123) (.c (.bool true)) (.t 126)),oM 128 127,oG 129 (.mv (.t 19)) 128 false,oG 130 (.mv (.t 22)) 128 false,oG 131 (.eqb true (.t 129) (.t 130)) 128 false,oO 132 (.pick (.t 128) (.c (.bool true)) (.t 131))] (.cond (.t 132) (qR [oO 8 (.mv (.c (.bool false)))] .ret) .skip)))))) (.region [oO 133 (.bin .add (.t 102) (nI 1)),oM 102 133]))))))))))))) (.region [oM 56 12,oO 57 (.bin .add (.t 56) (nI 1)),oM 12 57])))))) (qR [oM 134 10,oO 135 (.call 14 [.t 134,nI 0]),oM 136 11,oO 137 (.call 18 [.t 136,nI 0]),oO 138 (.call 15 [.t 135,.t 137]),oM 8 138] .ret))))))),.pure,true,true⟩
theorem k5:compF Try.prog pP Try.f5=some c5:=by kernel_rfl
def c6:AFunc:=⟨145,[.tmp 6],qR [oO 6 (.mv (.c (.bool false)))] (qR [oO 19 (.call 8 []),oM 7 19] (qR [oO 20 (.call 9 [.c (.str ⟨#[98]⟩)]),oM 8 20] (.seq (qR [oM 21 7,oO 22 (.un .not (.t 21)),oM 23 22,oG 24 (.mv (.t 8)) 23 false,oG 25 (.eqp false (.t 24)) 23 false,oO 26 (.pick (.t 23) (.c (.bool true)) (.t 25))] (.cond (.t 26) (qR [oO 6 (.mv (.c (.bool false)))] .ret) .skip)) (qR [oO 9 (.alloc [oS,oS,oZ,oZ,oN,oS,oS,oZ,oZ,oN,oS,oS,oZ,oZ,oN])] (.seq (qR [oO 10 (.mv (nI 0))] (.block 0 (.loop (.seq (qR [oM 27 10,oM 28 0,oO 29 (.len false (.t 28)),oO 30 (.bin .lss (.t 27) (.t 29)),oM 31 30,oG 32 (.mv (.t 10)) 31 true,oG 33 (.bin .lss (.t 32) (nI 20)) 31 true,oO 34 (.pick (.t 31) (.t 33) (.c (.bool false)))] (.cond (.t 34) .skip (.exit 0))) (.seq (.block 1 (qR [oM 37 0,oM 38 10,oO 39 (.iaddrS 4 (.t 37) (.t 38)),oR 40 4 39,oO 41 (.call 10 [.t 40]),oO 11 (.alloc [oS,oS,oZ,oZ,oN]),oU (.store 5 (.t 11) (.t 41))] (qR [oM 42 8,oR 43 5 11,oO 44 (.call 12 [.t 42,.t 43])] (.cond (.t 44) (.region [oM 45 0,oM 46 10,oO 47 (.iaddrS 4 (.t 45) (.t 46)),oF 48 0 47,oL 49 1 48,oR 51 5 11,⟨(some 50),.call 11 [.t 49,.c (.int .i64 3)],none,[.t 11]⟩,oO 52 (.iaddrA 3 5 (.t 9) (.t 50)),oU (.store 5 (.t 52) (.t 51))]) .skip)))) (.region [oM 35 10,oO 36 (.bin .add (.t 35) (nI 1)),oM 10 36])))))) (qR [oM 53 1,oO 54 (.call 11 [.t 53,nI 10]),oM 12 54] (qR [oO 13 (.mv (.c oN))] (qR [oO 14 (.mv (.c oN))] (qR [oM 55 12,oM 56 2,oO 57 (.call 11 [.t 56,nI 4]),oO 58 (.bin .add (.t 55) (.t 57)),oM 15 58] (.seq (qR [oO 16 (.mv (nI 0))] (.block 2 (.loop (.seq (qR [oM 59 16,oO 60 (.bin .lss (.t 59) (nI 3))] (.cond (.t 60) .skip (.exit 2))) (.seq (.block 3 (qR [oO 17 (.mv (nI 0))] (.block 4 (.loop (.seq (qR [oM 63 17,oM 64 16,oO 65 (.iaddrA 3 5 (.t 9) (.t 64)),oF 66 4 65,oL 67 1 66,oO 68 (.len false (.t 67)),oO 69 (.bin .lss (.t 63) (.t 68))] (.cond (.t 69) .skip (.exit 4))) (.seq (.block 5 (.seq (qR [oM 72 16,oO 73 (.iaddrA 3 5 (.t 9) (.t 72)),oF 74 4 73,oL 75 1 74,oM 76 17,oO 77 (.iaddrS 3 (.t 75) (.t 76)),oF 78 2 77,oL 79 1 78,oM 80 12,oO 81 (.bin .geq (.t 79) (.t 80))] (.cond (.t 81) (.region [oM 82 13,oM 83 16,oO 84 (.iaddrA 3 5 (.t 9) (.t 83)),oF 85 4 84,oL 86 1 85,oM 87 17,oO 88 (.iaddrS 3 (.t 86) (.t 87)),oR 89 3 88,oO 90 (.buildSl 1 3 true [oS,oN,oZ] [(0,3,.t 89)]),oO 91 (.append 3 true 48 false (.t 82) (.t 90)),oM 13 91]) .skip)) (qR [oM 92 16,oO 93 (.iaddrA 3 5 (.t 9) (.t 92)),oF 94 4 93,oL 95 1 94,oM 96 17,oO 97 (.iaddrS 3 (.t 95) (.t 96)),oF 98 2 97,oL 99 1 98,oM 100 15,oO 101 (.bin .geq (.t 99) (.t 100))] (.cond (.t 101) (.region [oM 102 14,oM 103 16,oO 104 (.iaddrA 3 5 (.t 9) (.t 103)),oF 105 4 104,oL 106 1 105,oM 107 17,oO 108 (.iaddrS 3 (.t 106) (.t 107)),oR 109 3 108,oO 110 (.buildSl 1 3 true [oS,oN,oZ] [(0,3,.t 109)]),oO 111 (.append 3 true 48 false (.t 102) (.t 110)),oM 14 111]) .skip)))) (.region [oM 70 17,oO 71 (.bin .add (.t 70) (nI 1)),oM 17 71]))))))) (.region [oM 61 16,oO 62 (.bin .add (.t 61) (nI 1)),oM 16 62])))))) (qR [oM 112 8,oM 113 12,oO 114 (.call 14 [.t 112,.t 113]),oM 115 13,oO 116 (.call 22 [.t 115]),oO 117 (.call 15 [.t 114,.t 116]),oM 118 117,oG 119 (.mv (.t 8)) 118 true,oG 120 (.mv (.t 15)) 118 true,oG 121 (.call 14 [.t 119,.t 120]) 118 true,oG 122 (.mv (.t 14)) 118 true,oG 123 (.call 22 [.t 122]) 118 true,oG 124 (.call 15 [.t 121,.t 123]) 118 true,oO 125 (.pick (.t 118) (.t 124) (.c (.bool false))),oM 18 125] (qR [oM 126 8,oM 127 12,oO 128 (.call 19 [.t 126,.t 127])] (qR [oM 129 18,oM 130 129,oG 131 (.mv (.t 8)) 130 true,oG 132 (.call 14 [.t 131,nI 0]) 130 true,oG 133 (.mv (.t 13)) 130 true,oG 134 (.call 22 [.t 133]) 130 true,oG 135 (.call 15 [.t 132,.t 134]) 130 true,oO 136 (.pick (.t 130) (.t 135) (.c (.bool false))),oM 137 136,oG 138 (.mv (.t 8)) 137 true,oG 139 (.mv (.t 15)) 137 true,oG 140 (.call 14 [.t 138,.t 139]) 137 true,oG 141 (.mv (.t 14)) 137 true,oG 142 (.call 22 [.t 141]) 137 true,oG 143 (.call 15 [.t 140,.t 142]) 137 true,oO 144 (.pick (.t 137) (.t 143) (.c (.bool false))),oM 6 144] .ret))))))))))))),.pure,true,true⟩
theorem k6:compF Try.prog pP Try.f6=some c6:=by kernel_rfl
def c7:AFunc:=⟨100,[.tmp 4],qR [oO 4 (.mv (.c (.bool false)))] (qR [oO 18 (.call 8 []),oM 5 18] (qR [oO 19 (.call 9 [.c (.str ⟨#[98]⟩)]),oM 6 19] (qR [oO 20 (.call 9 [.c (.str ⟨#[98]⟩)]),oM 7 20] (.seq (qR [oM 21 5,oO 22 (.un .not (.t 21)),oM 23 22,oG 24 (.mv (.t 6)) 23 false,oG 25 (.eqp false (.t 24)) 23 false,oO 26 (.pick (.t 23) (.c (.bool true)) (.t 25)),oM 27 26,oG 28 (.mv (.t 7)) 27 false,oG 29 (.eqp false (.t 28)) 27 false,oO 30 (.pick (.t 27) (.c (.bool true)) (.t 29))] (.cond (.t 30) (qR [oO 4 (.mv (.c (.bool false)))] .ret) .skip)) (.seq (qR [oO 8 (.mv (nI 0))] (.block 0 (.loop (.seq (qR [oM 31 8,oM 32 0,oO 33 (.len false (.t 32)),oO 34 (.bin .lss (.t 31) (.t 33)),oM 35 34,oG 36 (.mv (.t 8)) 35 true,oG 37 (.bin .lss (.t 36) (nI 20)) 35 true,oO 38 (.pick (.t 35) (.t 37) (.c (.bool false)))] (.cond (.t 38) .skip (.exit 0))) (.seq (.block 1 (qR [oM 41 0,oM 42 8,oO 43 (.iaddrS 4 (.t 41) (.t 42)),oR 44 4 43,oO 45 (.call 10 [.t 44]),oO 9 (.alloc [oS,oS,oZ,oZ,oN]),oU (.store 5 (.t 9) (.t 45))] (.seq (qR [oM 46 6,oR 47 5 9,oM 49 7,oR 50 5 9,⟨(some 48),.call 12 [.t 46,.t 47],none,[.t 9]⟩,oO 51 (.call 12 [.t 49,.t 50]),oO 52 (.eqb true (.t 48) (.t 51))] (.cond (.t 52) (qR [oO 4 (.mv (.c (.bool false)))] .ret) .skip)) (qR [oM 53 6,oM 54 1,oO 55 (.call 11 [.t 54,nI 13]),oO 56 (.call 19 [.t 53,.t 55])] (qR [oO 57 (.buildSl 3 1 false [oS,oS,oS] [(0,1,.c (.str ⟨#[97]⟩)),(1,1,.c (.str ⟨#[99]⟩)),(2,1,.c (.str ⟨#[100]⟩))]),oO 58 (.len false (.t 57)),oO 59 (.mv (nI 0))] (.block 2 (.loop (qR [oO 60 (.bin .lss (.t 59) (.t 58))] (.seq (.cond (.t 60) .skip (.exit 2)) (.seq (.block 3 (qR [oO 61 (.iaddrS 1 (.t 57) (.t 59)),oL 62 1 61,oM 11 62] (qR [oM 64 6,oM 65 11,oO 66 (.call 13 [.t 64,.t 65]),oM 63 66,oX 67 0 63,oX 68 1 63,oX 69 2 63,oM 12 67,oM 13 68,oM 14 69] (qR [oM 71 7,oM 72 11,oO 73 (.call 13 [.t 71,.t 72]),oM 70 73,oX 74 0 70,oX 75 1 70,oX 76 2 70,oM 15 74,oM 16 75,oM 17 76] (qR [oM 77 12,oM 78 15,oO 79 (.bin .neq (.t 77) (.t 78)),oM 80 79,oG 81 (.mv (.t 13)) 80 false,oG 82 (.mv (.t 16)) 80 false,oG 83 (.bin .neq (.t 81) (.t 82)) 80 false,oO 84 (.pick (.t 80) (.c (.bool true)) (.t 83)),oM 85 84,oG 86 (.mv (.t 14)) 85 false,oG 87 (.mv (.t 17)) 85 false,oG 88 (.eqb true (.t 86) (.t 87)) 85 false,oO 89 (.pick (.t 85) (.c (.bool true)) (.t 88))] (.cond (.t 89) (qR [oO 4 (.mv (.c (.bool false)))] .ret) .skip)))))) (.region [oO 90 (.bin .add (.t 59) (nI 1)),oM 59 90]))))))))))) (.region [oM 39 8,oO 40 (.bin .add (.t 39) (nI 1)),oM 8 40])))))) (qR [oM 91 6,oM 92 1,oO 93 (.call 11 [.t 92,nI 13]),oO 94 (.call 14 [.t 91,.t 93]),oM 95 7,oM 96 1,oO 97 (.call 11 [.t 96,nI 13]),oO 98 (.call 14 [.t 95,.t 97]),oO 99 (.call 15 [.t 94,.t 98]),oM 4 99] .ret)))))),.pure,true,true⟩
theorem k7:compF Try.prog pP Try.f7=some c7:=by kernel_rfl
def c8:AFunc:=⟨85,[.tmp 0],qR [oO 0 (.mv (.c (.bool false)))] (qR [oO 13 (.call 9 [.c (.str ⟨#[98]⟩)]),oM 1 13] (.seq (qR [oM 14 1,oO 15 (.eqp false (.t 14)),oM 16 15,oG 17 (.call 9 [.c (.str ⟨#[66]⟩)]) 16 false,oG 18 (.eqp true (.t 17)) 16 false,oO 19 (.pick (.t 16) (.c (.bool true)) (.t 18))] (.cond (.t 19) (qR [oO 0 (.mv (.c (.bool false)))] .ret) .skip)) (qR [oO 20 (.build [oS,oS,oZ,oZ,oN] [(0,1,.c (.str ⟨#[97]⟩)),(1,1,.c (.str ⟨#[98]⟩)),(2,1,nI 1),(3,1,nI 3)]),oO 2 (.alloc [oS,oS,oZ,oZ,oN]),oU (.store 5 (.t 2) (.t 20))] (qR [oR 21 5 2,oO 3 (.alloc [oS,oS,oZ,oZ,oN]),oU (.store 5 (.t 3) (.t 21))] (qR [oF 22 3 3,oU (.store 1 (.t 22) (nI 2))] (qR [oR 23 5 2,oO 4 (.alloc [oS,oS,oZ,oZ,oN]),oU (.store 5 (.t 4) (.t 23))] (qR [oF 24 3 4,oU (.store 1 (.t 24) (nI 4))] (qR [oO 25 (.build [oS,oS,oZ,oZ,oN] [(0,1,.c (.str ⟨#[97]⟩)),(1,1,.c (.str ⟨#[98]⟩)),(2,1,nI 2)]),oO 5 (.alloc [oS,oS,oZ,oZ,oN]),oU (.store 5 (.t 5) (.t 25))] (qR [oM 26 1,oR 27 5 2,oO 28 (.call 12 [.t 26,.t 27]),oM 29 28,oG 30 (.mv (.t 1)) 29 true,oG 31 (.load 5 true (.t 3)) 29 true,oG 32 (.call 12 [.t 30,.t 31]) 29 true,oG 33 (.un .not (.t 32)) 29 true,oO 34 (.pick (.t 29) (.t 33) (.c (.bool false))),oM 35 34,oG 36 (.mv (.t 1)) 35 true,oG 37 (.load 5 true (.t 4)) 35 true,oG 38 (.call 12 [.t 36,.t 37]) 35 true,oO 39 (.pick (.t 35) (.t 38) (.c (.bool false))),oM 40 39,oG 41 (.mv (.t 1)) 40 true,oG 42 (.load 5 true (.t 5)) 40 true,oG 43 (.call 12 [.t 41,.t 42]) 40 true,oO 44 (.pick (.t 40) (.t 43) (.c (.bool false))),oM 45 44,oG 46 (.mv (.t 1)) 45 true,oG 47 (.load 5 true (.t 4)) 45 true,oG 48 (.call 12 [.t 46,.t 47]) 45 true,oG 49 (.un .not (.t 48)) 45 true,oO 50 (.pick (.t 45) (.t 49) (.c (.bool false))),oM 51 50,oG 52 (.mv (.t 1)) 51 true,oG 53 (.build [oS,oS,oZ,oZ,oN] [(0,1,.c (.str ⟨#[97]⟩)),(1,1,.c (.str ⟨#[99]⟩)),(2,1,nI 9)]) 51 true,oG 54 (.call 12 [.t 52,.t 53]) 51 true,oG 55 (.un .not (.t 54)) 51 true,oO 56 (.pick (.t 51) (.t 55) (.c (.bool false))),oM 6 56] (qR [oM 58 1,oO 59 (.call 13 [.t 58,.c (.str ⟨#[97]⟩)]),oM 57 59,oX 60 0 57,oX 61 1 57,oX 62 2 57,oM 7 60,oM 8 61,oM 9 62] (qR [oM 64 1,oO 65 (.call 13 [.t 64,.c (.str ⟨#[99]⟩)]),oM 63 65,oX 66 0 63,oX 67 1 63,oX 68 2 63,oM 10 66,oM 11 67,oM 12 68] (qR [oM 69 6,oM 70 69,oG 71 (.mv (.t 7)) 70 true,oG 72 (.bin .eql (.t 71) (nI 2)) 70 true,oO 73 (.pick (.t 70) (.t 72) (.c (.bool false))),oM 74 73,oG 75 (.mv (.t 8)) 74 true,oG 76 (.bin .eql (.t 75) (nI 0)) 74 true,oO 77 (.pick (.t 74) (.t 76) (.c (.bool false))),oM 78 77,oG 79 (.mv (.t 9)) 78 true,oO 80 (.pick (.t 78) (.t 79) (.c (.bool false))),oM 81 80,oG 82 (.mv (.t 12)) 81 true,oG 83 (.un .not (.t 82)) 81 true,oO 84 (.pick (.t 81) (.t 83) (.c (.bool false))),oM 0 84] .ret)))))))))))),.pure,true,true⟩
theorem k8:compF Try.prog pP Try.f8=some c8:=by kernel_rfl
def c9:AFunc:=⟨10,[.tmp 2],qR [oO 2 (.mv (.c (.nilptr)))] (.seq (qR [oM 3 0,oO 4 (.call 23 [.t 3]),oO 5 (.un .not (.t 4))] (.cond (.t 5) (qR [oO 2 (.mv (.c (.nilptr)))] .ret) .skip)) (qR [oM 6 0,oO 7 (.mkmap),oO 8 (.build [oS,.nilmap] [(0,1,.t 6),(1,1,.t 7)]),oO 9 (.box (.t 8)),oM 2 9] .ret)),.raw,true,false⟩
theorem k9:compF Try.prog {mt:=false,mtAt:=[],mode:=.raw,clArgs:=true,clRes:=false} Try.f9=some c9:=by kernel_rfl
def c10:AFunc:=⟨21,[.cell 2 5 true],qR [oO 1 (.box (.t 0)),oO 2 (.alloc [oS,oS,oZ,oZ,oN])] (qR [oF 4 3 1,oL 5 1 4,oF 6 1 1,oL 7 1 6,oF 9 2 1,oL 10 1 9,oO 3 (.alloc [oS,oS,oZ,oZ,oN]),⟨(some 8),.call 11 [.t 7,.c (.int .i64 3)],none,[.t 4,.t 9,.t 3]⟩,⟨(some 11),.call 11 [.t 10,.c (.int .i64 4)],none,[.t 4,.t 3]⟩,⟨(some 12),.call 24 [.t 5,.c oN,.t 8,.t 11],none,[.t 3]⟩,oU (.store 5 (.t 3) (.t 12))] (qR [oO 13 (.buildSl 3 1 false [oS,oS,oS] [(0,1,.c (.str ⟨#[97]⟩)),(1,1,.c (.str ⟨#[99]⟩)),(2,1,.c (.str ⟨#[100]⟩))]),oF 14 0 1,oL 15 1 14,oO 16 (.call 11 [.t 15,nI 3]),oO 17 (.iaddrS 1 (.t 13) (.t 16)),oL 18 1 17,oF 19 0 3,oU (.store 1 (.t 19) (.t 18))] (qR [oR 20 5 3,oU (.store 5 (.t 2) (.t 20))] .ret))),.pure,true,true⟩
theorem k10:compF Try.prog pP Try.f10=some c10:=by kernel_rfl
def c11:AFunc:=⟨13,[.tmp 4],qR [oO 4 (.mv (nI 0))] (.seq (qR [oM 5 0,oO 6 (.bin .lss (.t 5) (nI 0))] (.cond (.t 6) (.region [oM 7 0,oO 8 (.bin .add (.t 7) (nI 1)),oO 9 (.un .neg (.t 8)),oM 0 9]) .skip)) (qR [oM 10 0,oM 11 1,oO 12 (.bin .rem (.t 10) (.t 11)),oM 4 12] .ret)),.pure,true,true⟩
theorem k11:compF Try.prog pP Try.f11=some c11:=by kernel_rfl
def c12:AFunc:=⟨53,[.tmp 4],qR [oO 3 (.box (.t 1)),oO 4 (.mv (.c (.bool false)))] (.seq (qR [oR 10 5 3,oO 11 (.call 25 [.t 10]),oM 9 11,oX 12 0 9,oX 13 1 9,oM 5 12,oM 6 13] (qR [oM 14 6,oO 15 (.bin .neq (.t 14) (nI 0)),oM 16 15,oG 17 (.faddr 1 (.t 3)) 16 false,oG 18 (.load 1 false (.t 17)) 16 false,oG 19 (.mv (.t 0)) 16 false,oG 20 (.nilck (.t 19)) 16 false,oG 21 (.faddr 0 (.t 20)) 16 false,oG 22 (.load 1 false (.t 21)) 16 false,oG 23 (.bin .neq (.t 18) (.t 22)) 16 false,oO 24 (.pick (.t 16) (.c (.bool true)) (.t 23))] (.cond (.t 24) (qR [oO 4 (.mv (.c (.bool false)))] .ret) .skip))) (.seq (qR [oM 26 0,oO 27 (.nilck (.t 26)),oF 28 1 27,oL 29 1 28,oF 30 0 3,oL 31 1 30,oO 32 (.mlook false [2] (.agg [oS,oS,oZ,oZ,oN]) true (.t 29) (.t 31)),oM 25 32,oX 33 0 25,oX 34 1 25,oO 7 (.alloc [oS,oS,oZ,oZ,oN]),oU (.store 5 (.t 7) (.t 33)),oM 8 34] (qR [oM 35 8,oM 36 35,oG 37 (.load 5 true (.t 3)) 36 true,oG 38 (.load 5 true (.t 7)) 36 true,oG 39 (.call 26 [.t 37,.t 38]) 36 true,oG 40 (.un .not (.t 39)) 36 true,oO 41 (.pick (.t 36) (.t 40) (.c (.bool false)))] (.cond (.t 41) (qR [oO 4 (.mv (.c (.bool false)))] .ret) .skip))) (qR [oF 42 4 3,oL 43 1 42,oO 44 (.call 22 [.t 43]),oF 45 4 3,oU (.store 1 (.t 45) (.t 44))] (qR [oM 46 0,oO 47 (.nilck (.t 46)),oF 48 1 47,oL 49 1 48,oF 50 0 3,oL 51 1 50,oR 52 5 3,oU (.mset false [2] (.t 49) (.t 51) (.t 52))] (qR [oO 4 (.mv (.c (.bool true)))] .ret))))),.gc,false,true⟩
theorem k12:compF Try.prog {mt:=false,mtAt:=[],mode:=.gc,clArgs:=false,clRes:=true} Try.f12=some c12:=by kernel_rfl
def c13:AFunc:=⟨22,[.tmp 4,.tmp 5,.tmp 6],qR [oO 4 (.mv (nI 0)),oO 5 (.mv (nI 0)),oO 6 (.mv (.c (.bool false)))] (qR [oM 9 0,oO 10 (.nilck (.t 9)),oF 11 1 10,oL 12 1 11,oM 13 1,oO 14 (.mlook false [2] (.agg [oS,oS,oZ,oZ,oN]) true (.t 12) (.t 13)),oM 8 14,oX 15 0 8,oX 16 1 8,oO 7 (.alloc [oS,oS,oZ,oZ,oN]),oU (.store 5 (.t 7) (.t 15)),oM 6 16] (qR [oF 17 2 7,oL 18 1 17,oF 19 3 7,oL 20 1 19,oM 21 6,oM 4 18,oM 5 20,oM 6 21] .ret)),.gc,false,true⟩
theorem k13:compF Try.prog {mt:=false,mtAt:=[],mode:=.gc,clArgs:=false,clRes:=true} Try.f13=some c13:=by kernel_rfl
def c14:AFunc:=⟨25,[.tmp 4],qR [oO 4 (.mv (.c oN))] (qR [oO 5 (.mv (.c oN))] (.seq (.seq (.cond (.c (.nilptr)) .skip .skip) (.block 0 (.loop (.seq (.cond (.c (.nilptr)) .skip .skip) (.seq (.cond (.t 14) .skip (.exit 0)) (.block 1 (.seq (.cond (.c (.nilptr)) .skip .skip) (.region [oM 17 5,oF 18 4 7,oL 19 1 18,oM 20 1,oO 21 (.call 27 [.t 19,.t 20]),oO 22 (.append 3 true 48 false (.t 17) (.t 21)),oM 5 22])))))))) (qR [oM 23 5,oO 24 (.call 22 [.t 23]),oM 4 24] .ret))),.pure,true,true⟩
theorem k14:compF Try.prog pP Try.f14=some c14:=by kernel_rfl
def c15:AFunc:=⟨55,[.tmp 4],qR [oO 4 (.mv (.c (.bool false)))] (.seq (qR [oM 6 0,oO 7 (.len false (.t 6)),oM 8 1,oO 9 (.len false (.t 8)),oO 10 (.bin .neq (.t 7) (.t 9))] (.cond (.t 10) (qR [oO 4 (.mv (.c (.bool false)))] .ret) .skip)) (.seq (qR [oO 5 (.mv (nI 0))] (.block 0 (.loop (.seq (qR [oM 11 5,oM 12 0,oO 13 (.len false (.t 12)),oO 14 (.bin .lss (.t 11) (.t 13))] (.cond (.t 14) .skip (.exit 0))) (.seq (.block 1 (qR [oM 17 0,oM 18 5,oO 19 (.iaddrS 3 (.t 17) (.t 18)),oF 20 0 19,oL 21 1 20,oM 22 1,oM 23 5,oO 24 (.iaddrS 3 (.t 22) (.t 23)),oF 25 0 24,oL 26 1 25,oO 27 (.bin .neq (.t 21) (.t 26)),oM 28 27,oG 29 (.mv (.t 0)) 28 false,oG 30 (.mv (.t 5)) 28 false,oG 31 (.iaddrS 3 (.t 29) (.t 30)) 28 false,oG 32 (.faddr 2 (.t 31)) 28 false,oG 33 (.load 1 false (.t 32)) 28 false,oG 34 (.mv (.t 1)) 28 false,oG 35 (.mv (.t 5)) 28 false,oG 36 (.iaddrS 3 (.t 34) (.t 35)) 28 false,oG 37 (.faddr 2 (.t 36)) 28 false,oG 38 (.load 1 false (.t 37)) 28 false,oG 39 (.bin .neq (.t 33) (.t 38)) 28 false,oO 40 (.pick (.t 28) (.c (.bool true)) (.t 39)),oM 41 40,oG 42 (.mv (.t 0)) 41 false,oG 43 (.mv (.t 5)) 41 false,oG 44 (.iaddrS 3 (.t 42) (.t 43)) 41 false,oG 45 (.faddr 1 (.t 44)) 41 false,oG 46 (.load 1 false (.t 45)) 41 false,oG 47 (.mv (.t 1)) 41 false,oG 48 (.mv (.t 5)) 41 false,oG 49 (.iaddrS 3 (.t 47) (.t 48)) 41 false,oG 50 (.faddr 1 (.t 49)) 41 false,oG 51 (.load 1 false (.t 50)) 41 false,oG 52 (.call 28 [.t 46,.t 51]) 41 false,oG 53 (.un .not (.t 52)) 41 false,oO 54 (.pick (.t 41) (.c (.bool true)) (.t 53))] (.cond (.t 54) (qR [oO 4 (.mv (.c (.bool false)))] .ret) .skip))) (.region [oM 15 5,oO 16 (.bin .add (.t 15) (nI 1)),oM 5 16])))))) (qR [oO 4 (.mv (.c (.bool true)))] .ret))),.pure,true,true⟩
theorem k15:compF Try.prog pP Try.f15=some c15:=by kernel_rfl
def c16:AFunc:=⟨11,[.tmp 2],qR [oO 2 (.mv (.c (.nilptr)))] (qR [oM 4 0,oO 5 (.call 29 [.t 4]),oM 3 5] (.seq (qR [oM 6 3,oO 7 (.un .not (.t 6))] (.cond (.t 7) (qR [oO 2 (.mv (.c (.nilptr)))] .ret) .skip)) (qR [oM 8 0,oO 9 (.build [oS,oN] [(0,1,.t 8)]),oO 10 (.box (.t 9)),oM 2 10] .ret))),.pure,true,true⟩
theorem k16:compF Try.prog pP Try.f16=some c16:=by kernel_rfl
def c17:AFunc:=⟨104,[.tmp 4],qR [oO 3 (.box (.t 1)),oO 4 (.mv (.c (.bool false)))] (qR [oR 10 5 3,oO 11 (.call 30 [.t 10]),oM 9 11,oX 12 0 9,oX 13 1 9,oM 5 12,oM 6 13] (.seq (qR [oM 14 6,oO 15 (.bin .neq (.t 14) (nI 0)),oM 16 15,oG 17 (.faddr 1 (.t 3)) 16 false,oG 18 (.load 1 false (.t 17)) 16 false,oG 19 (.mv (.t 0)) 16 false,oG 20 (.nilck (.t 19)) 16 false,oG 21 (.faddr 0 (.t 20)) 16 false,oG 22 (.load 1 false (.t 21)) 16 false,oG 23 (.bin .neq (.t 18) (.t 22)) 16 false,oO 24 (.pick (.t 16) (.c (.bool true)) (.t 23))] (.cond (.t 24) (qR [oO 4 (.mv (.c (.bool false)))] .ret) .skip)) (qR [oR 25 5 3,oO 7 (.alloc [oS,oS,oZ,oZ,oN]),oU (.store 5 (.t 7) (.t 25))] (qR [oF 26 4 3,oL 27 1 26,oO 28 (.call 31 [.t 27]),oF 29 4 7,oU (.store 1 (.t 29) (.t 28))] (.seq (qR [oO 8 (.mv (nI 0))] (.block 0 (.loop (.seq (qR [oM 30 8,oM 31 0,oO 32 (.nilck (.t 31)),oF 33 1 32,oL 34 1 33,oO 35 (.len false (.t 34)),oO 36 (.bin .lss (.t 30) (.t 35))] (.cond (.t 36) .skip (.exit 0))) (.seq (.block 1 (.seq (qR [oM 39 0,oO 40 (.nilck (.t 39)),oF 41 1 40,oL 42 1 41,oM 43 8,oO 44 (.iaddrS 5 (.t 42) (.t 43)),oF 45 0 44,oL 46 1 45,oF 47 0 3,oL 48 1 47,oO 49 (.bin .neq (.t 46) (.t 48))] (.cond (.t 49) (.exit 1) .skip)) (.seq (qR [oM 50 0,oO 51 (.nilck (.t 50)),oF 52 1 51,oL 53 1 52,oM 54 8,oO 55 (.iaddrS 5 (.t 53) (.t 54)),oF 56 2 55,oL 57 1 56,oF 58 2 3,oL 59 1 58,oO 60 (.bin .gtr (.t 57) (.t 59)),oM 61 60,oG 62 (.mv (.t 0)) 61 false,oG 63 (.nilck (.t 62)) 61 false,oG 64 (.faddr 1 (.t 63)) 61 false,oG 65 (.load 1 false (.t 64)) 61 false,oG 66 (.mv (.t 8)) 61 false,oG 67 (.iaddrS 5 (.t 65) (.t 66)) 61 false,oG 68 (.faddr 2 (.t 67)) 61 false,oG 69 (.load 1 false (.t 68)) 61 false,oG 70 (.faddr 2 (.t 3)) 61 false,oG 71 (.load 1 false (.t 70)) 61 false,oG 72 (.bin .eql (.t 69) (.t 71)) 61 false,oG 73 (.mv (.t 72)) 61 false,oG 74 (.mv (.t 0)) 73 true,oG 75 (.nilck (.t 74)) 73 true,oG 76 (.faddr 1 (.t 75)) 73 true,oG 77 (.load 1 false (.t 76)) 73 true,oG 78 (.mv (.t 8)) 73 true,oG 79 (.iaddrS 5 (.t 77) (.t 78)) 73 true,oG 80 (.faddr 3 (.t 79)) 73 true,oG 81 (.load 1 false (.t 80)) 73 true,oG 82 (.faddr 3 (.t 3)) 73 true,oG 83 (.load 1 false (.t 82)) 73 true,oG 84 (.bin .geq (.t 81) (.t 83)) 73 true,oG 85 (.pick (.t 73) (.t 84) (.c (.bool false))) 61 false,oO 86 (.pick (.t 61) (.c (.bool true)) (.t 85))] (.cond (.t 86) (qR [oO 4 (.mv (.c (.bool false)))] .ret) .skip)) (qR [oM 87 0,oO 88 (.nilck (.t 87)),oF 89 1 88,oL 90 1 89,oM 91 8,oR 92 5 7,oO 93 (.iaddrS 5 (.t 90) (.t 91)),oU (.store 5 (.t 93) (.t 92))] (qR [oO 4 (.mv (.c (.bool true)))] .ret))))) (.region [oM 37 8,oO 38 (.bin .add (.t 37) (nI 1)),oM 8 38])))))) (qR [oM 94 0,oM 95 0,oO 96 (.nilck (.t 95)),oF 97 1 96,oL 98 1 97,oR 99 5 7,oO 100 (.buildSl 1 5 true [oS,oS,oZ,oZ,oN] [(0,5,.t 99)]),oO 101 (.append 5 true 72 false (.t 98) (.t 100)),oO 102 (.nilck (.t 94)),oF 103 1 102,oU (.store 1 (.t 103) (.t 101))] (qR [oO 4 (.mv (.c (.bool true)))] .ret))))))),.pure,true,true⟩
theorem k17:compF Try.prog pP Try.f17=some c17:=by kernel_rfl
def c18:AFunc:=⟨30,[.tmp 4],qR [oO 4 (.mv (.c oN))] (qR [oO 5 (.mv (.c oN))] (.seq (qR [oO 6 (.mv (nI 0))] (.block 0 (.loop (.seq (qR [oM 7 6,oM 8 0,oO 9 (.nilck (.t 8)),oF 10 1 9,oL 11 1 10,oO 12 (.len false (.t 11)),oO 13 (.bin .lss (.t 7) (.t 12))] (.cond (.t 13) .skip (.exit 0))) (.seq (.block 1 (.region [oM 16 5,oM 17 0,oO 18 (.nilck (.t 17)),oF 19 1 18,oL 20 1 19,oM 21 6,oO 22 (.iaddrS 5 (.t 20) (.t 21)),oF 23 4 22,oL 24 1 23,oM 25 1,oO 26 (.call 32 [.t 24,.t 25]),oO 27 (.append 3 true 48 false (.t 16) (.t 26)),oM 5 27])) (.region [oM 14 6,oO 15 (.bin .add (.t 14) (nI 1)),oM 6 15])))))) (qR [oM 28 5,oO 29 (.call 31 [.t 28]),oM 4 29] .ret))),.pure,true,true⟩
theorem k18:compF Try.prog pP Try.f18=some c18:=by kernel_rfl
def c19:AFunc:=⟨27,[],.seq (.cond (.c (.nilptr)) .skip .skip) (.block 0 (.loop (.seq (.cond (.c (.nilptr)) .skip .skip) (.seq (.cond (.t 12) .skip (.exit 0)) (.block 1 (.seq (.cond (.c (.nilptr)) .skip .skip) (qR [oF 16 4 5,oL 17 1 16,oM 18 1,oO 19 (.call 27 [.t 17,.t 18]),oF 20 4 5,oU (.store 1 (.t 20) (.t 19))] (.region [oM 21 0,oO 22 (.nilck (.t 21)),oF 23 1 22,oL 24 1 23,oM 25 4,oR 26 5 5,oU (.mset false [2] (.t 24) (.t 25) (.t 26))])))))))),.pure,true,true⟩
theorem k19:compF Try.prog pP Try.f19=some c19:=by kernel_rfl
def c20:AFunc:=⟨31,[],qR [oO 4 (.mv (nI 0))] (.block 0 (.loop (.seq (qR [oM 5 4,oM 6 0,oO 7 (.nilck (.t 6)),oF 8 1 7,oL 9 1 8,oO 10 (.len false (.t 9)),oO 11 (.bin .lss (.t 5) (.t 10))] (.cond (.t 11) .skip (.exit 0))) (.seq (.block 1 (.region [oM 14 0,oO 15 (.nilck (.t 14)),oF 16 1 15,oL 17 1 16,oM 18 4,oM 19 0,oO 20 (.nilck (.t 19)),oF 21 1 20,oL 22 1 21,oM 23 4,oO 24 (.iaddrS 5 (.t 22) (.t 23)),oF 25 4 24,oL 26 1 25,oM 27 1,⟨(some 28),.call 32 [.t 26,.t 27],none,[.t 16]⟩,oO 29 (.iaddrS 5 (.t 17) (.t 18)),oF 30 4 29,oU (.store 1 (.t 30) (.t 28))])) (.region [oM 12 4,oO 13 (.bin .add (.t 12) (nI 1)),oM 4 13]))))),.pure,true,true⟩
theorem k20:compF Try.prog pP Try.f20=some c20:=by kernel_rfl
def c21:AFunc:=⟨43,[.tmp 4,.tmp 5,.tmp 6],qR [oO 4 (.mv (nI 0)),oO 5 (.mv (nI 0)),oO 6 (.mv (.c (.bool false)))] (.seq (qR [oO 7 (.mv (nI 0))] (.block 0 (.loop (.seq (qR [oM 8 7,oM 9 0,oO 10 (.nilck (.t 9)),oF 11 1 10,oL 12 1 11,oO 13 (.len false (.t 12)),oO 14 (.bin .lss (.t 8) (.t 13))] (.cond (.t 14) .skip (.exit 0))) (.seq (.block 1 (qR [oM 17 0,oO 18 (.nilck (.t 17)),oF 19 1 18,oL 20 1 19,oM 21 7,oO 22 (.iaddrS 5 (.t 20) (.t 21)),oF 23 0 22,oL 24 1 23,oM 25 1,oO 26 (.bin .eql (.t 24) (.t 25))] (.cond (.t 26) (qR [oM 27 0,oO 28 (.nilck (.t 27)),oF 29 1 28,oL 30 1 29,oM 31 7,oO 32 (.iaddrS 5 (.t 30) (.t 31)),oF 33 2 32,oL 34 1 33,oM 35 0,oO 36 (.nilck (.t 35)),oF 37 1 36,oL 38 1 37,oM 39 7,oO 40 (.iaddrS 5 (.t 38) (.t 39)),oF 41 3 40,oL 42 1 41,oM 4 34,oM 5 42,oO 6 (.mv (.c (.bool true)))] .ret) .skip))) (.region [oM 15 7,oO 16 (.bin .add (.t 15) (nI 1)),oM 7 16])))))) (qR [oO 4 (.mv (nI 0)),oO 5 (.mv (nI 0)),oO 6 (.mv (.c (.bool false)))] .ret)),.pure,true,true⟩
theorem k21:compF Try.prog pP Try.f21=some c21:=by kernel_rfl
def c22:AFunc:=⟨47,[.tmp 2],qR [oO 2 (.mv (.c oN))] (qR [oM 7 0,oO 8 (.call 33 [.t 7]),oM 3 8] (.seq (qR [oM 9 3,oO 10 (.len false (.t 9)),oO 11 (.mv (nI 0))] (.block 0 (.loop (qR [oO 12 (.bin .lss (.t 11) (.t 10))] (.seq (.cond (.t 12) .skip (.exit 0)) (.seq (.block 1 (qR [oM 13 11,oM 4 13] (qR [oM 14 3,oM 15 4,oM 16 3,oM 17 4,oO 18 (.iaddrS 3 (.t 16) (.t 17)),oF 19 1 18,oL 20 1 19,oO 21 (.call 34 [.t 20]),oO 22 (.iaddrS 3 (.t 14) (.t 15)),oF 23 1 22,oU (.store 1 (.t 23) (.t 21))] (qR [oM 24 3,oM 25 4,oO 26 (.iaddrS 3 (.t 24) (.t 25)),oF 27 1 26,oL 28 1 27,oO 29 (.len false (.t 28)),oO 30 (.mv (nI 0))] (.block 2 (.loop (qR [oO 31 (.bin .lss (.t 30) (.t 29))] (.seq (.cond (.t 31) .skip (.exit 2)) (.seq (.block 3 (qR [oM 32 30,oO 33 (.iaddrS 4 (.t 28) (.t 30)),oR 34 4 33,oO 6 (.alloc [oZ,oZ,oS,oN]),oM 5 32,oU (.store 4 (.t 6) (.t 34))] (.region [oM 35 3,oM 36 4,oO 37 (.iaddrS 3 (.t 35) (.t 36)),oF 38 1 37,oL 39 1 38,oM 40 5,oR 41 4 6,⟨(some 42),.call 35 [.t 41],none,[.t 38]⟩,oO 43 (.iaddrS 4 (.t 39) (.t 40)),oU (.store 4 (.t 43) (.t 42))]))) (.region [oO 44 (.bin .add (.t 30) (nI 1)),oM 30 44])))))))))) (.region [oO 45 (.bin .add (.t 11) (nI 1)),oM 11 45]))))))) (qR [oM 46 3,oM 2 46] .ret))),.pure,true,true⟩
theorem k22:compF Try.prog pP Try.f22=some c22:=by kernel_rfl
def c23:AFunc:=⟨43,[.tmp 2],qR [oO 2 (.mv (.c (.bool false)))] (.seq (qR [oM 6 0,oO 7 (.rng (.t 6))] (.block 0 (.loop (qR [oO 8 (.nxt (.t 7)),oX 9 0 8] (.seq (.cond (.t 9) .skip (.exit 0)) (.block 1 (qR [oX 10 1 8,oX 11 2 8,oM 3 10,oM 4 11] (qR [oM 12 4,oO 13 (.bin .geq (.t 12) (.c (.int .i32 97))),oM 14 13,oG 15 (.mv (.t 4)) 14 true,oG 16 (.bin .leq (.t 15) (.c (.int .i32 122))) 14 true,oO 17 (.pick (.t 14) (.t 16) (.c (.bool false))),oM 5 17] (qR [oM 18 5,oO 19 (.un .not (.t 18)),oM 20 19,oG 21 (.mv (.t 3)) 20 true,oG 22 (.bin .eql (.t 21) (nI 0)) 20 true,oG 23 (.mv (.t 22)) 20 true,oG 24 (.mv (.t 4)) 23 false,oG 25 (.bin .neq (.t 24) (.c (.int .i32 95))) 23 false,oG 26 (.mv (.t 25)) 23 false,oG 27 (.mv (.t 4)) 26 true,oG 28 (.bin .lss (.t 27) (.c (.int .i32 48))) 26 true,oG 29 (.mv (.t 28)) 26 true,oG 30 (.mv (.t 4)) 29 false,oG 31 (.bin .gtr (.t 30) (.c (.int .i32 57))) 29 false,oG 32 (.pick (.t 29) (.c (.bool true)) (.t 31)) 26 true,oG 33 (.pick (.t 26) (.t 32) (.c (.bool false))) 23 false,oG 34 (.pick (.t 23) (.c (.bool true)) (.t 33)) 20 true,oO 35 (.pick (.t 20) (.t 34) (.c (.bool false)))] (.cond (.t 35) (qR [oO 2 (.mv (.c (.bool false)))] .ret) .skip)))))))))) (qR [oM 36 0,oO 37 (.bin .neq (.t 36) (.c oS)),oM 38 37,oG 39 (.mv (.t 0)) 38 true,oG 40 (.len true (.t 39)) 38 true,oG 41 (.bin .leq (.t 40) (nI 16)) 38 true,oO 42 (.pick (.t 38) (.t 41) (.c (.bool false))),oM 2 42] .ret)),.pure,true,true⟩
theorem k23:compF Try.prog pP Try.f23=some c23:=by kernel_rfl
def c24:AFunc:=⟨73,[.cell 8 5 true],qR [oO 8 (.alloc [oS,oS,oZ,oZ,oN])] (qR [oM 14 2,oO 15 (.call 36 [.t 14,nI 1099511627777]),oM 16 3,oO 17 (.call 36 [.t 16,nI 1099511627777]),oO 18 (.build [oS,oS,oZ,oZ,oN] [(0,1,.c (.str ⟨#[97]⟩)),(1,1,.c (.str ⟨#[98]⟩)),(2,1,.t 15),(3,1,.t 17)]),oO 9 (.alloc [oS,oS,oZ,oZ,oN]),oU (.store 5 (.t 9) (.t 18))] (qR [oO 19 (.build [oZ,oZ,oS,oN] [(0,1,nI 3),(2,1,.c (.str ⟨#[98]⟩))]),oO 10 (.alloc [oZ,oZ,oS,oN]),oU (.store 4 (.t 10) (.t 19))] (qR [oM 20 0,oO 21 (.call 37 [.t 20]),oM 11 21] (.seq (qR [oO 12 (.mv (nI 0))] (.block 0 (.loop (.seq (qR [oM 22 12,oM 23 11,oO 24 (.len false (.t 23)),oO 25 (.bin .lss (.t 22) (.t 24))] (.cond (.t 25) .skip (.exit 0))) (.seq (.block 1 (qR [oM 28 11,oM 29 12,oO 30 (.iaddrS 3 (.t 28) (.t 29)),oF 31 0 30,oL 32 1 31,oR 33 4 10,oO 34 (.buildSl 1 4 true [oZ,oZ,oS,oN] [(0,4,.t 33)]),oM 35 11,oM 36 12,oO 37 (.iaddrS 3 (.t 35) (.t 36)),oF 38 1 37,oL 39 1 38,oO 40 (.slSl 4 (.t 39) (some (nI 1)) none),oM 42 11,oM 43 12,oO 44 (.iaddrS 3 (.t 42) (.t 43)),oF 45 2 44,oL 46 1 45,oO 13 (.alloc [oS,oN,oZ]),⟨(some 41),.append 4 true 56 false (.t 34) (.t 40),none,[.t 31,.t 45,.t 13]⟩,oO 47 (.build [oS,oN,oZ] [(0,1,.t 32),(1,1,.t 41),(2,1,.t 46)]),oU (.store 3 (.t 13) (.t 47))] (.seq (qR [oM 48 12,oM 49 1,oO 50 (.len false (.t 49)),oO 51 (.bin .lss (.t 48) (.t 50))] (.cond (.t 51) (.region [oF 52 1 13,oL 53 1 52,oM 54 1,oM 55 12,oO 56 (.iaddrS 4 (.t 54) (.t 55)),oR 57 4 56,⟨(some 58),.call 38 [.t 57],none,[.t 52]⟩,oO 59 (.buildSl 1 4 true [oZ,oZ,oS,oN] [(0,4,.t 58)]),oO 60 (.append 4 true 56 false (.t 53) (.t 59)),oF 61 1 13,oU (.store 1 (.t 61) (.t 60))]) .skip)) (.region [oF 62 4 9,oL 63 1 62,oR 64 3 13,oO 65 (.buildSl 1 3 true [oS,oN,oZ] [(0,3,.t 64)]),oO 66 (.append 3 true 48 false (.t 63) (.t 65)),oF 67 4 9,oU (.store 1 (.t 67) (.t 66))])))) (.region [oM 26 12,oO 27 (.bin .add (.t 26) (nI 1)),oM 12 27])))))) (qR [oF 68 4 9,oL 69 1 68,oO 70 (.call 22 [.t 69]),oF 71 4 9,oU (.store 1 (.t 71) (.t 70))] (qR [oR 72 5 9,oU (.store 5 (.t 8) (.t 72))] .ret)))))),.pure,true,true⟩
theorem k24:compF Try.prog pP Try.f24=some c24:=by kernel_rfl
def c25:AFunc:=⟨63,[.tmp 2,.tmp 3],qR [oO 1 (.box (.t 0)),oO 2 (.mv (.c oS)),oO 3 (.mv (nI 0))] (.seq (qR [oR 9 5 1,oO 10 (.call 39 [.t 9]),oO 11 (.un .not (.t 10))] (.cond (.t 11) (qR [oO 2 (.mv (.c oS)),oO 3 (.mv (nI 1))] .ret) .skip)) (qR [oO 4 (.alloc [oN])] (qR [oF 12 0 1,oL 13 1 12,oO 14 (.call 40 [.t 4,.t 13])] (qR [oF 15 1 1,oL 16 1 15,oO 17 (.call 40 [.t 4,.t 16])] (qR [oF 18 2 1,oL 19 1 18,oO 20 (.call 41 [.t 4,nI 8,.t 19])] (qR [oF 21 3 1,oL 22 1 21,oO 23 (.call 41 [.t 4,nI 8,.t 22])] (qR [oF 24 4 1,oL 25 1 24,oO 26 (.len false (.t 25)),oO 27 (.call 41 [.t 4,nI 2,.t 26])] (.seq (qR [oF 28 4 1,oL 29 1 28,oO 30 (.len false (.t 29)),oO 31 (.mv (nI 0))] (.block 0 (.loop (qR [oO 32 (.bin .lss (.t 31) (.t 30))] (.seq (.cond (.t 32) .skip (.exit 0)) (.seq (.block 1 (qR [oO 33 (.iaddrS 3 (.t 29) (.t 31)),oR 34 3 33,oO 6 (.alloc [oS,oN,oZ]),oU (.store 3 (.t 6) (.t 34))] (qR [oF 35 0 6,oL 36 1 35,oO 37 (.call 40 [.t 4,.t 36])] (qR [oF 38 1 6,oL 39 1 38,oO 40 (.len false (.t 39)),oO 41 (.call 41 [.t 4,nI 1,.t 40])] (.seq (qR [oF 42 1 6,oL 43 1 42,oO 44 (.len false (.t 43)),oO 45 (.mv (nI 0))] (.block 2 (.loop (qR [oO 46 (.bin .lss (.t 45) (.t 44))] (.seq (.cond (.t 46) .skip (.exit 2)) (.seq (.block 3 (qR [oO 47 (.iaddrS 4 (.t 43) (.t 45)),oR 48 4 47,oO 8 (.alloc [oZ,oZ,oS,oN]),oU (.store 4 (.t 8) (.t 48))] (.region [oR 49 4 8,oO 50 (.call 42 [.t 4,.t 49])]))) (.region [oO 51 (.bin .add (.t 45) (nI 1)),oM 45 51]))))))) (.region [oF 52 2 6,oL 53 1 52,oO 54 (.call 41 [.t 4,nI 8,.t 53])])))))) (.region [oO 55 (.bin .add (.t 31) (nI 1)),oM 31 55]))))))) (qR [oL 56 1 4,oO 57 (.b2s (.t 56)),oO 58 (.call 43 [.t 57]),oO 59 (.conv .i64 (.t 58)),oO 60 (.call 41 [.t 4,nI 4,.t 59])] (qR [oL 61 1 4,oO 62 (.b2s (.t 61)),oM 2 62,oO 3 (.mv (nI 0))] .ret)))))))))),.pure,true,true⟩
theorem k25:compF Try.prog pP Try.f25=some c25:=by kernel_rfl
def c26:AFunc:=⟨18,[.tmp 4],qR [oO 2 (.box (.t 0)),oO 3 (.box (.t 1)),oO 4 (.mv (.c (.bool false)))] (qR [oF 5 2 2,oL 6 1 5,oF 7 2 3,oL 8 1 7,oF 10 3 2,oL 11 1 10,oF 12 3 3,oL 13 1 12,⟨(some 9),.call 45 [.t 6,.t 8],none,[.t 10,.t 12]⟩,oO 14 (.call 45 [.t 11,.t 13]),oO 15 (.buildSl 2 1 false [oZ,oZ] [(0,1,.t 9),(1,1,.t 14)]),oO 16 (.call 44 [.t 15]),oO 17 (.bin .gtr (.t 16) (nI 0)),oM 4 17] .ret),.pure,true,true⟩
theorem k26:compF Try.prog pP Try.f26=some c26:=by kernel_rfl
def c27:AFunc:=⟨22,[.tmp 4],qR [oO 4 (.mv (.c oN))] (.seq (qR [oM 7 0,oO 8 (.len false (.t 7)),oO 9 (.mv (nI 0))] (.block 0 (.loop (qR [oO 10 (.bin .lss (.t 9) (.t 8))] (.seq (.cond (.t 10) .skip (.exit 0)) (.seq (.block 1 (qR [oO 11 (.iaddrS 3 (.t 7) (.t 9)),oR 12 3 11,oO 6 (.alloc [oS,oN,oZ]),oU (.store 3 (.t 6) (.t 12))] (qR [oF 13 2 6,oL 14 1 13,oM 15 1,oO 16 (.bin .geq (.t 14) (.t 15))] (.cond (.t 16) (.region [oM 17 4,oR 18 3 6,oO 19 (.buildSl 1 3 true [oS,oN,oZ] [(0,3,.t 18)]),oO 20 (.append 3 true 48 false (.t 17) (.t 19)),oM 4 20]) .skip)))) (.region [oO 21 (.bin .add (.t 9) (nI 1)),oM 9 21]))))))) .ret),.pure,true,true⟩
theorem k27:compF Try.prog pP Try.f27=some c27:=by kernel_rfl
def c28:AFunc:=⟨29,[.tmp 4],qR [oO 4 (.mv (.c (.bool false)))] (.seq (qR [oM 7 0,oO 8 (.len false (.t 7)),oM 9 1,oO 10 (.len false (.t 9)),oO 11 (.bin .neq (.t 8) (.t 10))] (.cond (.t 11) (qR [oO 4 (.mv (.c (.bool false)))] .ret) .skip)) (.seq (qR [oO 5 (.mv (nI 0))] (.block 0 (.loop (.seq (qR [oM 12 5,oM 13 0,oO 14 (.len false (.t 13)),oO 15 (.bin .lss (.t 12) (.t 14))] (.cond (.t 15) .skip (.exit 0))) (.seq (.block 1 (qR [oM 18 0,oM 19 5,oO 20 (.iaddrS 4 (.t 18) (.t 19)),oR 21 4 20,oM 22 1,oM 23 5,oO 24 (.iaddrS 4 (.t 22) (.t 23)),oR 25 4 24,oO 26 (.call 46 [.t 21,.t 25]),oM 6 26] (qR [oM 27 6,oO 28 (.un .not (.t 27))] (.cond (.t 28) (qR [oO 4 (.mv (.c (.bool false)))] .ret) .skip)))) (.region [oM 16 5,oO 17 (.bin .add (.t 16) (nI 1)),oM 5 17])))))) (qR [oO 4 (.mv (.c (.bool true)))] .ret))),.pure,true,true⟩
theorem k28:compF Try.prog pP Try.f28=some c28:=by kernel_rfl
def c29:AFunc:=⟨51,[.tmp 2],qR [oO 2 (.mv (.c (.bool false)))] (.seq (qR [oM 5 0,oO 6 (.len true (.t 5)),oO 7 (.bin .lss (.t 6) (nI 1)),oM 8 7,oG 9 (.mv (.t 0)) 8 false,oG 10 (.len true (.t 9)) 8 false,oG 11 (.bin .gtr (.t 10) (nI 16)) 8 false,oO 12 (.pick (.t 8) (.c (.bool true)) (.t 11)),oM 13 12,oG 14 (.mv (.t 0)) 13 false,oG 15 (.idxStr (.t 14) (nI 0)) 13 false,oG 16 (.bin .lss (.t 15) (.c (.int .u8 97))) 13 false,oO 17 (.pick (.t 13) (.c (.bool true)) (.t 16)),oM 18 17,oG 19 (.mv (.t 0)) 18 false,oG 20 (.idxStr (.t 19) (nI 0)) 18 false,oG 21 (.bin .gtr (.t 20) (.c (.int .u8 122))) 18 false,oO 22 (.pick (.t 18) (.c (.bool true)) (.t 21))] (.cond (.t 22) (qR [oO 2 (.mv (.c (.bool false)))] .ret) .skip)) (.seq (qR [oO 3 (.mv (nI 1))] (.block 0 (.loop (.seq (qR [oM 23 3,oM 24 0,oO 25 (.len true (.t 24)),oO 26 (.bin .lss (.t 23) (.t 25))] (.cond (.t 26) .skip (.exit 0))) (.seq (.block 1 (qR [oM 29 0,oM 30 3,oO 31 (.idxStr (.t 29) (.t 30)),oM 4 31] (qR [oM 32 4,oO 33 (.bin .geq (.t 32) (.c (.int .u8 97))),oM 34 33,oG 35 (.mv (.t 4)) 34 true,oG 36 (.bin .leq (.t 35) (.c (.int .u8 122))) 34 true,oO 37 (.pick (.t 34) (.t 36) (.c (.bool false))),oM 38 37,oG 39 (.mv (.t 4)) 38 false,oG 40 (.bin .geq (.t 39) (.c (.int .u8 48))) 38 false,oG 41 (.mv (.t 40)) 38 false,oG 42 (.mv (.t 4)) 41 true,oG 43 (.bin .leq (.t 42) (.c (.int .u8 57))) 41 true,oG 44 (.pick (.t 41) (.t 43) (.c (.bool false))) 38 false,oO 45 (.pick (.t 38) (.c (.bool true)) (.t 44)),oM 46 45,oG 47 (.mv (.t 4)) 46 false,oG 48 (.bin .eql (.t 47) (.c (.int .u8 95))) 46 false,oO 49 (.pick (.t 46) (.c (.bool true)) (.t 48)),oO 50 (.un .not (.t 49))] (.cond (.t 50) (qR [oO 2 (.mv (.c (.bool false)))] .ret) .skip)))) (.region [oM 27 3,oO 28 (.bin .add (.t 27) (nI 1)),oM 3 28])))))) (qR [oO 2 (.mv (.c (.bool true)))] .ret))),.pure,true,true⟩
theorem k29:compF Try.prog pP Try.f29=some c29:=by kernel_rfl
def c30:AFunc:=⟨81,[.tmp 2,.tmp 3],qR [oO 1 (.box (.t 0)),oO 2 (.mv (.c oS)),oO 3 (.mv (nI 0))] (qR [oR 9 5 1,oO 10 (.call 47 [.t 9]),oM 4 10] (.seq (qR [oM 11 4,oO 12 (.un .not (.t 11))] (.cond (.t 12) (qR [oO 2 (.mv (.c oS)),oO 3 (.mv (nI 1))] .ret) .skip)) (qR [oF 13 0 1,oL 14 1 13,oF 16 1 1,oL 17 1 16,oF 20 2 1,oL 21 1 20,oF 24 3 1,oL 25 1 24,oF 28 4 1,oL 29 1 28,oO 30 (.len false (.t 29)),⟨(some 15),.call 48 [.t 14],none,[.t 16,.t 20,.t 24,.t 28]⟩,⟨(some 18),.call 48 [.t 17],none,[.t 20,.t 24,.t 28]⟩,oO 19 (.bin .add (.t 15) (.t 18)),⟨(some 22),.call 49 [.c (.int .i64 8),.t 21],none,[.t 24,.t 28]⟩,oO 23 (.bin .add (.t 19) (.t 22)),⟨(some 26),.call 49 [.c (.int .i64 8),.t 25],none,[.t 28]⟩,oO 27 (.bin .add (.t 23) (.t 26)),oO 31 (.call 49 [nI 2,.t 30]),oO 32 (.bin .add (.t 27) (.t 31)),oM 5 32] (.seq (qR [oO 6 (.mv (nI 0))] (.block 0 (.loop (.seq (qR [oM 33 6,oF 34 4 1,oL 35 1 34,oO 36 (.len false (.t 35)),oO 37 (.bin .lss (.t 33) (.t 36))] (.cond (.t 37) .skip (.exit 0))) (.seq (.block 1 (qR [oF 40 4 1,oL 41 1 40,oM 42 6,oO 43 (.iaddrS 3 (.t 41) (.t 42)),oR 44 3 43,oO 7 (.alloc [oS,oN,oZ]),oU (.store 3 (.t 7) (.t 44))] (qR [oM 45 5,oF 46 0 7,oL 47 1 46,oF 50 1 7,oL 51 1 50,oO 52 (.len false (.t 51)),⟨(some 48),.call 48 [.t 47],none,[.t 50]⟩,oO 49 (.bin .add (.t 45) (.t 48)),oO 53 (.call 49 [nI 1,.t 52]),oO 54 (.bin .add (.t 49) (.t 53)),oM 5 54] (.seq (qR [oO 8 (.mv (nI 0))] (.block 2 (.loop (.seq (qR [oM 55 8,oF 56 1 7,oL 57 1 56,oO 58 (.len false (.t 57)),oO 59 (.bin .lss (.t 55) (.t 58))] (.cond (.t 59) .skip (.exit 2))) (.seq (.block 3 (.region [oM 62 5,oF 63 1 7,oL 64 1 63,oM 65 8,oO 66 (.iaddrS 4 (.t 64) (.t 65)),oR 67 4 66,oO 68 (.call 50 [.t 67]),oO 69 (.bin .add (.t 62) (.t 68)),oM 5 69])) (.region [oM 60 8,oO 61 (.bin .add (.t 60) (nI 1)),oM 8 61])))))) (.region [oM 70 5,oF 71 2 7,oL 72 1 71,oO 73 (.call 49 [nI 8,.t 72]),oO 74 (.bin .add (.t 70) (.t 73)),oM 5 74]))))) (.region [oM 38 6,oO 39 (.bin .add (.t 38) (nI 1)),oM 6 39])))))) (qR [oM 75 5,oM 76 5,oO 77 (.call 51 [.t 76]),oO 78 (.conv .i64 (.t 77)),oO 79 (.call 49 [nI 4,.t 78]),oO 80 (.bin .add (.t 75) (.t 79)),oM 2 80,oO 3 (.mv (nI 0))] .ret))))),.pure,true,true⟩
theorem k30:compF Try.prog pP Try.f30=some c30:=by kernel_rfl
def c31:AFunc:=⟨84,[.tmp 2],qR [oO 2 (.mv (.c oN))] (qR [oO 3 (.mv (.c oN))] (.seq (qR [oO 4 (.mv (nI 0))] (.block 0 (.loop (.seq (qR [oM 9 4,oM 10 0,oO 11 (.len false (.t 10)),oO 12 (.bin .lss (.t 9) (.t 11))] (.cond (.t 12) .skip (.exit 0))) (.seq (.block 1 (qR [oO 5 (.mv (nI 0))] (qR [oM 15 3,oO 16 (.len false (.t 15)),oM 6 16] (.seq (.block 2 (.loop (.seq (qR [oM 17 5,oM 18 6,oO 19 (.bin .lss (.t 17) (.t 18))] (.cond (.t 19) .skip (.exit 2))) (.block 3 (qR [oM 20 5,oM 21 6,oO 22 (.bin .add (.t 20) (.t 21)),oO 23 (.bin .quo (.t 22) (nI 2)),oM 7 23] (qR [oM 24 3,oM 25 7,oO 26 (.iaddrS 3 (.t 24) (.t 25)),oR 27 3 26,oM 28 0,oM 29 4,oO 30 (.iaddrS 3 (.t 28) (.t 29)),oR 31 3 30,oO 32 (.call 52 [.t 27,.t 31]),oO 33 (.bin .lss (.t 32) (nI 0))] (.cond (.t 33) (.region [oM 34 7,oO 35 (.bin .add (.t 34) (nI 1)),oM 5 35]) (.region [oM 36 7,oM 6 36])))))))) (.seq (qR [oM 37 5,oM 38 3,oO 39 (.len false (.t 38)),oO 40 (.bin .lss (.t 37) (.t 39)),oM 41 40,oG 42 (.mv (.t 3)) 41 true,oG 43 (.mv (.t 5)) 41 true,oG 44 (.iaddrS 3 (.t 42) (.t 43)) 41 true,oG 45 (.load 3 true (.t 44)) 41 true,oG 46 (.mv (.t 0)) 41 true,oG 47 (.mv (.t 4)) 41 true,oG 48 (.iaddrS 3 (.t 46) (.t 47)) 41 true,oG 49 (.load 3 true (.t 48)) 41 true,oG 50 (.call 52 [.t 45,.t 49]) 41 true,oG 51 (.bin .eql (.t 50) (nI 0)) 41 true,oO 52 (.pick (.t 41) (.t 51) (.c (.bool false)))] (.cond (.t 52) (qR [oM 53 3,oM 54 5,oM 55 3,oM 56 5,oO 57 (.iaddrS 3 (.t 55) (.t 56)),oF 58 2 57,oL 59 1 58,oM 60 0,oM 61 4,oO 62 (.iaddrS 3 (.t 60) (.t 61)),oF 63 2 62,oL 64 1 63,oO 65 (.max [.t 59,.t 64]),oO 66 (.iaddrS 3 (.t 53) (.t 54)),oF 67 2 66,oU (.store 1 (.t 67) (.t 65))] (.exit 1)) .skip)) (qR [oM 68 3,oM 69 5,oO 70 (.slSl 3 (.t 68) (some (.t 69)) none),oO 71 (.append 3 true 48 false (.c oN) (.t 70)),oM 8 71] (.region [oM 72 3,oM 73 5,oO 74 (.slSl 3 (.t 72) none (some (.t 73))),oM 75 0,oM 76 4,oO 77 (.iaddrS 3 (.t 75) (.t 76)),oR 78 3 77,oO 79 (.buildSl 1 3 true [oS,oN,oZ] [(0,3,.t 78)]),oM 81 8,oO 80 (.append 3 true 48 false (.t 74) (.t 79)),oO 82 (.append 3 true 48 false (.t 80) (.t 81)),oM 3 82]))))))) (.region [oM 13 4,oO 14 (.bin .add (.t 13) (nI 1)),oM 4 14])))))) (qR [oM 83 3,oM 2 83] .ret))),.pure,true,true⟩
theorem k31:compF Try.prog pP Try.f31=some c31:=by kernel_rfl
def c32:AFunc:=⟨28,[.tmp 4],qR [oO 4 (.mv (.c oN))] (qR [oO 5 (.mv (.c oN))] (.seq (qR [oO 6 (.mv (nI 0))] (.block 0 (.loop (.seq (qR [oM 7 6,oM 8 0,oO 9 (.len false (.t 8)),oO 10 (.bin .lss (.t 7) (.t 9))] (.cond (.t 10) .skip (.exit 0))) (.seq (.block 1 (qR [oM 13 0,oM 14 6,oO 15 (.iaddrS 3 (.t 13) (.t 14)),oF 16 2 15,oL 17 1 16,oM 18 1,oO 19 (.bin .geq (.t 17) (.t 18))] (.cond (.t 19) (.region [oM 20 5,oM 21 0,oM 22 6,oO 23 (.iaddrS 3 (.t 21) (.t 22)),oR 24 3 23,oO 25 (.buildSl 1 3 true [oS,oN,oZ] [(0,3,.t 24)]),oO 26 (.append 3 true 48 false (.t 20) (.t 25)),oM 5 26]) .skip))) (.region [oM 11 6,oO 12 (.bin .add (.t 11) (nI 1)),oM 6 12])))))) (qR [oM 27 5,oM 4 27] .ret))),.pure,true,true⟩
theorem k32:compF Try.prog pP Try.f32=some c32:=by kernel_rfl
def c33:AFunc:=⟨9,[.tmp 2],qR [oO 2 (.mv (.c oN))] (qR [oM 3 0,oO 4 (.call 53 [.t 3]),oM 0 4] (qR [oM 5 0,oO 6 (.call 54 [.t 5,.f 55])] (qR [oM 7 0,oO 8 (.call 57 [.t 7,.f 58]),oM 2 8] .ret))),.raw,true,false⟩
theorem k33:compF Try.prog {mt:=false,mtAt:=[],mode:=.raw,clArgs:=true,clRes:=false} Try.f33=some c33:=by kernel_rfl
def c35:AFunc:=⟨29,[.cell 2 4 true],qR [oO 1 (.box (.t 0)),oO 2 (.alloc [oZ,oZ,oS,oN])] (.seq (qR [oF 5 3 1,oL 6 1 5,oO 7 (.len false (.t 6)),oO 8 (.bin .gtr (.t 7) (nI 0))] (.cond (.t 8) (qR [oF 9 3 1,oL 10 1 9,oO 11 (.call 34 [.t 10]),oF 12 3 1,oU (.store 1 (.t 12) (.t 11))] (qR [oF 13 3 1,oL 14 1 13,oO 15 (.len false (.t 14)),oO 16 (.mv (nI 0))] (.block 0 (.loop (qR [oO 17 (.bin .lss (.t 16) (.t 15))] (.seq (.cond (.t 17) .skip (.exit 0)) (.seq (.block 1 (qR [oM 18 16,oO 19 (.iaddrS 4 (.t 14) (.t 16)),oR 20 4 19,oO 4 (.alloc [oZ,oZ,oS,oN]),oM 3 18,oU (.store 4 (.t 4) (.t 20))] (.region [oF 21 3 1,oL 22 1 21,oM 23 3,oR 24 4 4,⟨(some 25),.call 35 [.t 24],none,[.t 21]⟩,oO 26 (.iaddrS 4 (.t 22) (.t 23)),oU (.store 4 (.t 26) (.t 25))]))) (.region [oO 27 (.bin .add (.t 16) (nI 1)),oM 16 27])))))))) .skip)) (qR [oR 28 4 1,oU (.store 4 (.t 2) (.t 28))] .ret)),.pure,true,true⟩
theorem k35:compF Try.prog pP Try.f35=some c35:=by kernel_rfl
def c36:AFunc:=⟨13,[.tmp 4],qR [oO 4 (.mv (nI 0))] (.seq (qR [oM 5 0,oO 6 (.bin .lss (.t 5) (nI 0))] (.cond (.t 6) (.region [oM 7 0,oO 8 (.bin .add (.t 7) (nI 1)),oO 9 (.un .neg (.t 8)),oM 0 9]) .skip)) (qR [oM 10 0,oM 11 1,oO 12 (.bin .rem (.t 10) (.t 11)),oM 4 12] .ret)),.pure,true,true⟩
theorem k36:compF Try.prog pP Try.f36=some c36:=by kernel_rfl
def c37:AFunc:=⟨37,[.tmp 2],qR [oO 2 (.mv (.c oN))] (qR [oO 3 (.mv (.c oN))] (.seq (qR [oO 4 (.mv (nI 0))] (.block 0 (.loop (.seq (qR [oM 6 4,oM 7 0,oO 8 (.len false (.t 7)),oO 9 (.bin .lss (.t 6) (.t 8)),oM 10 9,oG 11 (.mv (.t 4)) 10 true,oG 12 (.bin .lss (.t 11) (nI 40)) 10 true,oO 13 (.pick (.t 10) (.t 12) (.c (.bool false)))] (.cond (.t 13) .skip (.exit 0))) (.seq (.block 1 (qR [oM 16 0,oM 17 4,oO 18 (.iaddrS 6 (.t 16) (.t 17)),oR 19 6 18,oO 20 (.call 59 [.t 19]),oO 5 (.alloc [oS,oN]),oU (.store 2 (.t 5) (.t 20))] (.region [oM 21 3,oF 22 0 5,oL 23 1 22,oF 24 1 5,oL 25 1 24,oM 26 0,oM 27 4,oO 28 (.iaddrS 6 (.t 26) (.t 27)),oF 29 2 28,oO 30 (.iaddrA 4 1 (.t 29) (nI 3)),oL 31 1 30,⟨(some 32),.call 60 [.t 31,.c (.int .i64 9)],none,[.t 22,.t 24]⟩,oO 33 (.build [oS,oN,oZ] [(0,1,.t 23),(1,1,.t 25),(2,1,.t 32)]),oO 34 (.buildSl 1 3 true [oS,oN,oZ] [(0,3,.t 33)]),oO 35 (.append 3 true 48 false (.t 21) (.t 34)),oM 3 35]))) (.region [oM 14 4,oO 15 (.bin .add (.t 14) (nI 1)),oM 4 15])))))) (qR [oM 36 3,oM 2 36] .ret))),.pure,true,true⟩
theorem k37:compF Try.prog pP Try.f37=some c37:=by kernel_rfl
def c38:AFunc:=⟨5,[.cell 2 4 true],qR [oO 1 (.box (.t 0)),oO 2 (.alloc [oZ,oZ,oS,oN])] (qR [oR 3 4 1,oO 4 (.call 61 [.t 3,nI 4]),oU (.store 4 (.t 2) (.t 4))] .ret),.pure,true,true⟩
theorem k38:compF Try.prog pP Try.f38=some c38:=by kernel_rfl
def c39:AFunc:=⟨69,[.tmp 2],qR [oO 1 (.box (.t 0)),oO 2 (.mv (.c (.bool false)))] (.seq (qR [oF 5 0 1,oL 6 1 5,oO 7 (.call 23 [.t 6]),oO 8 (.un .not (.t 7)),oM 9 8,oG 10 (.faddr 1 (.t 1)) 9 false,oG 11 (.load 1 false (.t 10)) 9 false,oG 12 (.call 23 [.t 11]) 9 false,oG 13 (.un .not (.t 12)) 9 false,oO 14 (.pick (.t 9) (.c (.bool true)) (.t 13)),oM 15 14,oG 16 (.faddr 0 (.t 1)) 15 false,oG 17 (.load 1 false (.t 16)) 15 false,oG 18 (.faddr 1 (.t 1)) 15 false,oG 19 (.load 1 false (.t 18)) 15 false,oG 20 (.bin .eql (.t 17) (.t 19)) 15 false,oO 21 (.pick (.t 15) (.c (.bool true)) (.t 20)),oM 22 21,oG 23 (.faddr 2 (.t 1)) 22 false,oG 24 (.load 1 false (.t 23)) 22 false,oG 25 (.call 62 [.t 24]) 22 false,oG 26 (.un .not (.t 25)) 22 false,oO 27 (.pick (.t 22) (.c (.bool true)) (.t 26)),oM 28 27,oG 29 (.faddr 3 (.t 1)) 28 false,oG 30 (.load 1 false (.t 29)) 28 false,oG 31 (.call 62 [.t 30]) 28 false,oG 32 (.un .not (.t 31)) 28 false,oO 33 (.pick (.t 28) (.c (.bool true)) (.t 32)),oM 34 33,oG 35 (.faddr 4 (.t 1)) 34 false,oG 36 (.load 1 false (.t 35)) 34 false,oG 37 (.len false (.t 36)) 34 false,oG 38 (.bin .gtr (.t 37) (nI 400)) 34 false,oO 39 (.pick (.t 34) (.c (.bool true)) (.t 38))] (.cond (.t 39) (qR [oO 2 (.mv (.c (.bool false)))] .ret) .skip)) (.seq (qR [oF 40 4 1,oL 41 1 40,oO 42 (.len false (.t 41)),oO 43 (.mv (nI 0))] (.block 0 (.loop (qR [oO 44 (.bin .lss (.t 43) (.t 42))] (.seq (.cond (.t 44) .skip (.exit 0)) (.seq (.block 1 (qR [oM 45 43,oO 46 (.iaddrS 3 (.t 41) (.t 43)),oR 47 3 46,oO 4 (.alloc [oS,oN,oZ]),oM 3 45,oU (.store 3 (.t 4) (.t 47))] (qR [oR 48 3 4,oF 49 1 1,oL 50 1 49,oO 51 (.call 63 [.t 48,.t 50]),oO 52 (.un .not (.t 51)),oM 53 52,oG 54 (.mv (.t 3)) 53 false,oG 55 (.bin .gtr (.t 54) (nI 0)) 53 false,oG 56 (.mv (.t 55)) 53 false,oG 57 (.faddr 4 (.t 1)) 56 true,oG 58 (.load 1 false (.t 57)) 56 true,oG 59 (.mv (.t 3)) 56 true,oG 60 (.bin .sub (.t 59) (nI 1)) 56 true,oG 61 (.iaddrS 3 (.t 58) (.t 60)) 56 true,oG 62 (.load 3 true (.t 61)) 56 true,oG 63 (.load 3 true (.t 4)) 56 true,oG 64 (.call 56 [.t 62,.t 63]) 56 true,oG 65 (.bin .geq (.t 64) (nI 0)) 56 true,oG 66 (.pick (.t 56) (.t 65) (.c (.bool false))) 53 false,oO 67 (.pick (.t 53) (.c (.bool true)) (.t 66))] (.cond (.t 67) (qR [oO 2 (.mv (.c (.bool false)))] .ret) .skip)))) (.region [oO 68 (.bin .add (.t 43) (nI 1)),oM 43 68]))))))) (qR [oO 2 (.mv (.c (.bool true)))] .ret))),.pure,true,true⟩
theorem k39:compF Try.prog pP Try.f39=some c39:=by kernel_rfl
def c40:AFunc:=⟨15,[],qR [oM 4 0,oM 5 1,oO 6 (.len true (.t 5)),oO 7 (.call 41 [.t 4,nI 1,.t 6])] (.region [oM 8 0,oM 9 0,oO 10 (.nilck (.t 9)),oL 11 1 10,oM 12 1,oO 13 (.append 1 false 1 false (.t 11) (.t 12)),oO 14 (.nilck (.t 8)),oU (.store 1 (.t 14) (.t 13))]),.raw,false,false⟩
theorem k40:compF Try.prog {mt:=false,mtAt:=[],mode:=.raw,clArgs:=false,clRes:=false} Try.f40=some c40:=by kernel_rfl
def c41:AFunc:=⟨29,[],qR [oO 6 (.alloc [.int .u8 0,.int .u8 0,.int .u8 0,.int .u8 0,.int .u8 0,.int .u8 0,.int .u8 0,.int .u8 0])] (.seq (qR [oO 8 (.mv (nI 0))] (.block 0 (.loop (qR [oO 9 (.bin .lss (.t 8) (nI 8))] (.seq (.cond (.t 9) .skip (.exit 0)) (.seq (.block 1 (qR [oM 10 8,oM 7 10] (.region [oM 11 7,oO 12 (.bin .sub (nI 7) (.t 11)),oM 13 2,oM 14 7,oO 15 (.bin .mul (nI 8) (.t 14)),oO 16 (.bin .shr (.t 13) (.t 15)),oO 17 (.conv .u8 (.t 16)),oO 18 (.iaddrA 8 1 (.t 6) (.t 12)),oU (.store 1 (.t 18) (.t 17))]))) (.region [oO 19 (.bin .add (.t 8) (nI 1)),oM 8 19]))))))) (.region [oM 20 0,oM 21 0,oO 22 (.nilck (.t 21)),oL 23 1 22,oM 24 1,oO 25 (.bin .sub (nI 8) (.t 24)),oO 26 (.arrSl 8 1 false (.t 6) (some (.t 25)) none),oO 27 (.append 1 false 1 false (.t 23) (.t 26)),oO 28 (.nilck (.t 20)),oU (.store 1 (.t 28) (.t 27))])),.raw,false,false⟩
theorem k41:compF Try.prog {mt:=false,mtAt:=[],mode:=.raw,clArgs:=false,clRes:=false} Try.f41=some c41:=by kernel_rfl
def c42:AFunc:=⟨40,[],qR [oO 3 (.box (.t 1))] (qR [oM 6 0,oF 7 0 3,oL 8 1 7,oO 9 (.call 41 [.t 6,nI 1,.t 8])] (qR [oF 10 0 3,oL 11 1 10] (.block 0 (qR [oO 17 (.bin .eql (.t 11) (nI 1)),oM 16 17] (.cond (.t 16) (.region [oM 18 0,oF 19 1 3,oL 20 1 19,oO 21 (.call 41 [.t 18,nI 8,.t 20])]) (qR [oO 23 (.bin .eql (.t 11) (nI 4)),oM 22 23] (.cond (.t 22) (qR [oM 24 0,oF 25 3 3,oL 26 1 25,oO 27 (.len false (.t 26)),oO 28 (.call 41 [.t 24,nI 1,.t 27])] (qR [oF 29 3 3,oL 30 1 29,oO 31 (.len false (.t 30)),oO 32 (.mv (nI 0))] (.block 1 (.loop (qR [oO 33 (.bin .lss (.t 32) (.t 31))] (.seq (.cond (.t 33) .skip (.exit 1)) (.seq (.block 2 (qR [oO 34 (.iaddrS 4 (.t 30) (.t 32)),oR 35 4 34,oO 5 (.alloc [oZ,oZ,oS,oN]),oU (.store 4 (.t 5) (.t 35))] (.region [oM 36 0,oR 37 4 5,oO 38 (.call 42 [.t 36,.t 37])]))) (.region [oO 39 (.bin .add (.t 32) (nI 1)),oM 32 39])))))))) (.region [oM 12 0,oF 13 2 3,oL 14 1 13,oO 15 (.call 40 [.t 12,.t 14])])))))))),.raw,false,false⟩
theorem k42:compF Try.prog {mt:=false,mtAt:=[],mode:=.raw,clArgs:=false,clRes:=false} Try.f42=some c42:=by kernel_rfl
def c43:AFunc:=⟨20,[.tmp 2],qR [oO 2 (.mv (.c (.int .u32 0)))] (qR [oO 3 (.mv (.c (.int .u32 2166136261)))] (.seq (qR [oM 6 0,oO 7 (.s2b (.t 6)),oO 8 (.len false (.t 7)),oO 9 (.mv (nI 0))] (.block 0 (.loop (qR [oO 10 (.bin .lss (.t 9) (.t 8))] (.seq (.cond (.t 10) .skip (.exit 0)) (.seq (.block 1 (qR [oO 11 (.iaddrS 1 (.t 7) (.t 9)),oL 12 1 11,oM 5 12] (.region [oM 13 3,oM 14 5,oO 15 (.conv .u32 (.t 14)),oO 16 (.bin .xor (.t 13) (.t 15)),oO 17 (.bin .mul (.t 16) (.c (.int .u32 16777619))),oM 3 17]))) (.region [oO 18 (.bin .add (.t 9) (nI 1)),oM 9 18]))))))) (qR [oM 19 3,oM 2 19] .ret))),.pure,true,true⟩
theorem k43:compF Try.prog pP Try.f43=some c43:=by kernel_rfl
def c44:AFunc:=⟨18,[.tmp 2],qR [oO 2 (.mv (nI 0))] (qR [oO 3 (.mv (nI 0))] (.seq (qR [oM 6 0,oO 7 (.len false (.t 6)),oO 8 (.mv (nI 0))] (.block 0 (.loop (qR [oO 9 (.bin .lss (.t 8) (.t 7))] (.seq (.cond (.t 9) .skip (.exit 0)) (.seq (.block 1 (qR [oO 10 (.iaddrS 1 (.t 6) (.t 8)),oL 11 1 10,oM 5 11] (qR [oM 12 5,oM 13 3,oO 14 (.bin .neq (.t 12) (.t 13))] (.cond (.t 14) (qR [oM 15 5,oM 2 15] .ret) .skip)))) (.region [oO 16 (.bin .add (.t 8) (nI 1)),oM 8 16]))))))) (qR [oM 17 3,oM 2 17] .ret))),.pure,true,true⟩
theorem k44:compF Try.prog pP Try.f44=some c44:=by kernel_rfl
def c45:AFunc:=⟨20,[.tmp 4],qR [oO 4 (.mv (nI 0))] (qR [oM 7 0,oO 8 (.call 64 [.t 7]),oM 5 8] (qR [oM 9 1,oO 10 (.call 64 [.t 9]),oM 6 10] (.seq (qR [oM 11 5] (.cond (.t 11) (.seq (qR [oM 12 6] (.cond (.t 12) (qR [oO 4 (.mv (nI 0))] .ret) .skip)) (qR [oO 4 (.mv (nI (-1)))] .ret)) .skip)) (.seq (qR [oM 13 6] (.cond (.t 13) (qR [oO 4 (.mv (nI 1))] .ret) .skip)) (.seq (qR [oM 14 0,oM 15 1,oO 16 (.bin .lss (.t 14) (.t 15))] (.cond (.t 16) (qR [oO 4 (.mv (nI (-1)))] .ret) .skip)) (.seq (qR [oM 17 0,oM 18 1,oO 19 (.bin .gtr (.t 17) (.t 18))] (.cond (.t 19) (qR [oO 4 (.mv (nI 1))] .ret) .skip)) (qR [oO 4 (.mv (nI 0))] .ret))))))),.pure,true,true⟩
theorem k45:compF Try.prog pP Try.f45=some c45:=by kernel_rfl
def c46:AFunc:=⟨31,[.tmp 4],qR [oO 2 (.box (.t 0)),oO 3 (.box (.t 1)),oO 4 (.mv (.c (.bool false)))] (qR [oF 5 0 2,oL 6 1 5,oF 7 0 3,oL 8 1 7,oO 9 (.bin .eql (.t 6) (.t 8)),oM 10 9,oG 11 (.faddr 1 (.t 2)) 10 true,oG 12 (.load 1 false (.t 11)) 10 true,oG 13 (.faddr 1 (.t 3)) 10 true,oG 14 (.load 1 false (.t 13)) 10 true,oG 15 (.bin .eql (.t 12) (.t 14)) 10 true,oO 16 (.pick (.t 10) (.t 15) (.c (.bool false))),oM 17 16,oG 18 (.faddr 2 (.t 2)) 17 true,oG 19 (.load 1 false (.t 18)) 17 true,oG 20 (.faddr 2 (.t 3)) 17 true,oG 21 (.load 1 false (.t 20)) 17 true,oG 22 (.bin .eql (.t 19) (.t 21)) 17 true,oO 23 (.pick (.t 17) (.t 22) (.c (.bool false))),oM 24 23,oG 25 (.faddr 3 (.t 2)) 24 true,oG 26 (.load 1 false (.t 25)) 24 true,oG 27 (.faddr 3 (.t 3)) 24 true,oG 28 (.load 1 false (.t 27)) 24 true,oG 29 (.call 28 [.t 26,.t 28]) 24 true,oO 30 (.pick (.t 24) (.t 29) (.c (.bool false))),oM 4 30] .ret),.pure,true,true⟩
theorem k46:compF Try.prog pP Try.f46=some c46:=by kernel_rfl
def c47:AFunc:=⟨142,[.tmp 2],qR [oO 1 (.box (.t 0)),oO 2 (.mv (.c (.bool false)))] (qR [oF 10 0 1,oL 11 1 10,oO 12 (.call 29 [.t 11]),oM 3 12] (qR [oF 13 1 1,oL 14 1 13,oO 15 (.call 29 [.t 14]),oM 4 15] (.seq (qR [oM 16 3,oO 17 (.un .not (.t 16)),oM 18 17,oG 19 (.mv (.t 4)) 18 false,oG 20 (.un .not (.t 19)) 18 false,oO 21 (.pick (.t 18) (.c (.bool true)) (.t 20)),oM 22 21,oG 23 (.faddr 0 (.t 1)) 22 false,oG 24 (.load 1 false (.t 23)) 22 false,oG 25 (.faddr 1 (.t 1)) 22 false,oG 26 (.load 1 false (.t 25)) 22 false,oG 27 (.bin .eql (.t 24) (.t 26)) 22 false,oO 28 (.pick (.t 22) (.c (.bool true)) (.t 27)),oM 29 28,oG 30 (.faddr 2 (.t 1)) 29 false,oG 31 (.load 1 false (.t 30)) 29 false,oG 32 (.bin .lss (.t 31) (nI 0)) 29 false,oO 33 (.pick (.t 29) (.c (.bool true)) (.t 32)),oM 34 33,oG 35 (.faddr 2 (.t 1)) 34 false,oG 36 (.load 1 false (.t 35)) 34 false,oG 37 (.bin .gtr (.t 36) (nI 1099511627776)) 34 false,oO 38 (.pick (.t 34) (.c (.bool true)) (.t 37)),oM 39 38,oG 40 (.faddr 3 (.t 1)) 39 false,oG 41 (.load 1 false (.t 40)) 39 false,oG 42 (.bin .lss (.t 41) (nI 0)) 39 false,oO 43 (.pick (.t 39) (.c (.bool true)) (.t 42)),oM 44 43,oG 45 (.faddr 3 (.t 1)) 44 false,oG 46 (.load 1 false (.t 45)) 44 false,oG 47 (.bin .gtr (.t 46) (nI 1099511627776)) 44 false,oO 48 (.pick (.t 44) (.c (.bool true)) (.t 47)),oM 49 48,oG 50 (.faddr 4 (.t 1)) 49 false,oG 51 (.load 1 false (.t 50)) 49 false,oG 52 (.len false (.t 51)) 49 false,oG 53 (.bin .gtr (.t 52) (nI 400)) 49 false,oO 54 (.pick (.t 49) (.c (.bool true)) (.t 53))] (.cond (.t 54) (qR [oO 2 (.mv (.c (.bool false)))] .ret) .skip)) (.seq (qR [oO 5 (.mv (nI 0))] (.block 0 (.loop (.seq (qR [oM 55 5,oF 56 4 1,oL 57 1 56,oO 58 (.len false (.t 57)),oO 59 (.bin .lss (.t 55) (.t 58))] (.cond (.t 59) .skip (.exit 0))) (.seq (.block 1 (qR [oF 62 4 1,oL 63 1 62,oM 64 5,oO 65 (.iaddrS 3 (.t 63) (.t 64)),oR 66 3 65,oO 6 (.alloc [oS,oN,oZ]),oU (.store 3 (.t 6) (.t 66))] (qR [oF 67 0 6,oL 68 1 67,oO 69 (.call 29 [.t 68]),oM 7 69] (.seq (qR [oM 70 7,oO 71 (.un .not (.t 70)),oM 72 71,oG 73 (.faddr 1 (.t 6)) 72 false,oG 74 (.load 1 false (.t 73)) 72 false,oG 75 (.len false (.t 74)) 72 false,oG 76 (.bin .lss (.t 75) (nI 1)) 72 false,oO 77 (.pick (.t 72) (.c (.bool true)) (.t 76)),oM 78 77,oG 79 (.faddr 1 (.t 6)) 78 false,oG 80 (.load 1 false (.t 79)) 78 false,oG 81 (.len false (.t 80)) 78 false,oG 82 (.bin .gtr (.t 81) (nI 8)) 78 false,oO 83 (.pick (.t 78) (.c (.bool true)) (.t 82)),oM 84 83,oG 85 (.faddr 2 (.t 6)) 84 false,oG 86 (.load 1 false (.t 85)) 84 false,oG 87 (.bin .lss (.t 86) (nI 0)) 84 false,oO 88 (.pick (.t 84) (.c (.bool true)) (.t 87)),oM 89 88,oG 90 (.faddr 2 (.t 6)) 89 false,oG 91 (.load 1 false (.t 90)) 89 false,oG 92 (.bin .gtr (.t 91) (nI 1099511627776)) 89 false,oO 93 (.pick (.t 89) (.c (.bool true)) (.t 92)),oM 94 93,oG 95 (.faddr 1 (.t 6)) 94 false,oG 96 (.load 1 false (.t 95)) 94 false,oG 97 (.iaddrS 4 (.t 96) (nI 0)) 94 false,oG 98 (.faddr 0 (.t 97)) 94 false,oG 99 (.load 1 false (.t 98)) 94 false,oG 100 (.bin .neq (.t 99) (nI 3)) 94 false,oO 101 (.pick (.t 94) (.c (.bool true)) (.t 100)),oM 102 101,oG 103 (.faddr 1 (.t 6)) 102 false,oG 104 (.load 1 false (.t 103)) 102 false,oG 105 (.iaddrS 4 (.t 104) (nI 0)) 102 false,oG 106 (.faddr 2 (.t 105)) 102 false,oG 107 (.load 1 false (.t 106)) 102 false,oG 108 (.faddr 1 (.t 1)) 102 false,oG 109 (.load 1 false (.t 108)) 102 false,oG 110 (.bin .neq (.t 107) (.t 109)) 102 false,oO 111 (.pick (.t 102) (.c (.bool true)) (.t 110)),oM 112 111,oG 113 (.mv (.t 5)) 112 false,oG 114 (.bin .gtr (.t 113) (nI 0)) 112 false,oG 115 (.mv (.t 114)) 112 false,oG 116 (.faddr 4 (.t 1)) 115 true,oG 117 (.load 1 false (.t 116)) 115 true,oG 118 (.mv (.t 5)) 115 true,oG 119 (.bin .sub (.t 118) (nI 1)) 115 true,oG 120 (.iaddrS 3 (.t 117) (.t 119)) 115 true,oG 121 (.load 3 true (.t 120)) 115 true,oG 122 (.load 3 true (.t 6)) 115 true,oG 123 (.call 52 [.t 121,.t 122]) 115 true,oG 124 (.bin .geq (.t 123) (nI 0)) 115 true,oG 125 (.pick (.t 115) (.t 124) (.c (.bool false))) 112 false,oO 126 (.pick (.t 112) (.c (.bool true)) (.t 125))] (.cond (.t 126) (qR [oO 2 (.mv (.c (.bool false)))] .ret) .skip)) (qR [oO 8 (.mv (nI 0))] (.block 2 (.loop (.seq (qR [oM 127 8,oF 128 1 6,oL 129 1 128,oO 130 (.len false (.t 129)),oO 131 (.bin .lss (.t 127) (.t 130))] (.cond (.t 131) .skip (.exit 2))) (.seq (.block 3 (qR [oF 134 1 6,oL 135 1 134,oM 136 8,oO 137 (.iaddrS 4 (.t 135) (.t 136)),oR 138 4 137,oO 139 (.call 65 [.t 138]),oM 9 139] (qR [oM 140 9,oO 141 (.un .not (.t 140))] (.cond (.t 141) (qR [oO 2 (.mv (.c (.bool false)))] .ret) .skip)))) (.region [oM 132 8,oO 133 (.bin .add (.t 132) (nI 1)),oM 8 133])))))))))) (.region [oM 60 5,oO 61 (.bin .add (.t 60) (nI 1)),oM 5 61])))))) (qR [oO 2 (.mv (.c (.bool true)))] .ret))))),.pure,true,true⟩
theorem k47:compF Try.prog pP Try.f47=some c47:=by kernel_rfl
def c48:AFunc:=⟨8,[.tmp 2],qR [oO 2 (.mv (.c oS))] (qR [oM 3 0,oO 4 (.len true (.t 3)),oO 5 (.call 49 [nI 1,.t 4]),oM 6 0,oO 7 (.bin .add (.t 5) (.t 6)),oM 2 7] .ret),.pure,true,true⟩
theorem k48:compF Try.prog pP Try.f48=some c48:=by kernel_rfl
def c49:AFunc:=⟨21,[.tmp 4],qR [oO 4 (.mv (.c oS))] (qR [oO 5 (.mv (.c oS))] (.seq (qR [oO 6 (.mv (nI 0))] (.block 0 (.loop (.seq (qR [oM 7 6,oM 8 0,oO 9 (.bin .lss (.t 7) (.t 8))] (.cond (.t 9) .skip (.exit 0))) (.seq (.block 1 (qR [oM 12 1,oO 13 (.conv .u8 (.t 12)),oO 14 (.buildSl 1 1 false [.int .u8 0] [(0,1,.t 13)]),oO 15 (.b2s (.t 14)),oM 16 5,oO 17 (.bin .add (.t 15) (.t 16)),oM 5 17] (.region [oM 18 1,oO 19 (.bin .shr (.t 18) (.c (.int .u64 8))),oM 1 19]))) (.region [oM 10 6,oO 11 (.bin .add (.t 10) (nI 1)),oM 6 11])))))) (qR [oM 20 5,oM 4 20] .ret))),.pure,true,true⟩
theorem k49:compF Try.prog pP Try.f49=some c49:=by kernel_rfl
def c50:AFunc:=⟨47,[.tmp 2],qR [oO 1 (.box (.t 0)),oO 2 (.mv (.c oS))] (qR [oF 5 0 1,oL 6 1 5,oO 7 (.call 49 [nI 1,.t 6]),oM 3 7] (.seq (qR [oF 8 0 1,oL 9 1 8] (.block 0 (qR [oO 11 (.bin .eql (.t 9) (nI 1)),oM 10 11] (.cond (.t 10) (qR [oM 12 3,oF 13 1 1,oL 14 1 13,oO 15 (.call 49 [nI 8,.t 14]),oO 16 (.bin .add (.t 12) (.t 15)),oM 2 16] .ret) (.seq (qR [oO 18 (.bin .eql (.t 9) (nI 2)),oM 17 18] (.cond (.t 17) .skip (.region [oO 19 (.bin .eql (.t 9) (nI 3)),oM 17 19]))) (.cond (.t 17) (qR [oM 20 3,oF 21 2 1,oL 22 1 21,oO 23 (.call 48 [.t 22]),oO 24 (.bin .add (.t 20) (.t 23)),oM 2 24] .ret) .skip)))))) (qR [oM 25 3,oF 26 3 1,oL 27 1 26,oO 28 (.len false (.t 27)),oO 29 (.call 49 [nI 1,.t 28]),oO 30 (.bin .add (.t 25) (.t 29)),oM 3 30] (.seq (qR [oO 4 (.mv (nI 0))] (.block 1 (.loop (.seq (qR [oM 31 4,oF 32 3 1,oL 33 1 32,oO 34 (.len false (.t 33)),oO 35 (.bin .lss (.t 31) (.t 34))] (.cond (.t 35) .skip (.exit 1))) (.seq (.block 2 (.region [oM 38 3,oF 39 3 1,oL 40 1 39,oM 41 4,oO 42 (.iaddrS 4 (.t 40) (.t 41)),oR 43 4 42,oO 44 (.call 50 [.t 43]),oO 45 (.bin .add (.t 38) (.t 44)),oM 3 45])) (.region [oM 36 4,oO 37 (.bin .add (.t 36) (nI 1)),oM 4 37])))))) (qR [oM 46 3,oM 2 46] .ret))))),.pure,true,true⟩
theorem k50:compF Try.prog pP Try.f50=some c50:=by kernel_rfl
def c51:AFunc:=⟨19,[.tmp 2],qR [oO 2 (.mv (.c (.int .u32 0)))] (qR [oO 3 (.mv (.c (.int .u32 2166136261)))] (.seq (qR [oO 4 (.mv (nI 0))] (.block 0 (.loop (.seq (qR [oM 5 4,oM 6 0,oO 7 (.len true (.t 6)),oO 8 (.bin .lss (.t 5) (.t 7))] (.cond (.t 8) .skip (.exit 0))) (.seq (.block 1 (.region [oM 11 3,oM 12 0,oM 13 4,oO 14 (.idxStr (.t 12) (.t 13)),oO 15 (.conv .u32 (.t 14)),oO 16 (.bin .xor (.t 11) (.t 15)),oO 17 (.bin .mul (.t 16) (.c (.int .u32 16777619))),oM 3 17])) (.region [oM 9 4,oO 10 (.bin .add (.t 9) (nI 1)),oM 4 10])))))) (qR [oM 18 3,oM 2 18] .ret))),.pure,true,true⟩
theorem k51:compF Try.prog pP Try.f51=some c51:=by kernel_rfl
def c52:AFunc:=⟨22,[.tmp 4],qR [oO 2 (.box (.t 0)),oO 3 (.box (.t 1)),oO 4 (.mv (nI 0))] (.seq (qR [oF 5 0 2,oL 6 1 5,oF 7 0 3,oL 8 1 7,oO 9 (.bin .neq (.t 6) (.t 8))] (.cond (.t 9) (.seq (qR [oF 10 0 2,oL 11 1 10,oF 12 0 3,oL 13 1 12,oO 14 (.bin .lss (.t 11) (.t 13))] (.cond (.t 14) (qR [oO 4 (.mv (nI (-1)))] .ret) .skip)) (qR [oO 4 (.mv (nI 1))] .ret)) .skip)) (qR [oF 15 1 2,oL 16 1 15,oO 17 (.build [oZ,oZ,oS,oN] [(0,1,nI 4),(3,1,.t 16)]),oF 18 1 3,oL 19 1 18,oO 20 (.build [oZ,oZ,oS,oN] [(0,1,nI 4),(3,1,.t 19)]),oO 21 (.call 66 [.t 17,.t 20]),oM 4 21] .ret)),.pure,true,true⟩
theorem k52:compF Try.prog pP Try.f52=some c52:=by kernel_rfl
def c54:AFunc:=⟨9,[],.region [oM 4 0,oM 5 0,oO 6 (.len false (.t 5)),oM 7 1,oO 8 (.call 67 [.t 4,.t 6,.t 7])],.gc,false,false⟩
theorem k54:compF Try.prog pG Try.f54=some c54:=by kernel_rfl
def c55:AFunc:=⟨17,[.tmp 4],qR [oO 2 (.box (.t 0)),oO 3 (.box (.t 1)),oO 4 (.mv (nI 0))] (.seq (qR [oR 6 3 2,oR 7 3 3,oO 8 (.call 56 [.t 6,.t 7]),oM 5 8] (qR [oM 9 5,oO 10 (.bin .neq (.t 9) (nI 0))] (.cond (.t 10) (qR [oM 11 5,oM 4 11] .ret) .skip))) (qR [oF 12 2 3,oL 13 1 12,oF 14 2 2,oL 15 1 14,oO 16 (.call 45 [.t 13,.t 15]),oM 4 16] .ret)),.pure,true,true⟩
theorem k55:compF Try.prog pP Try.f55=some c55:=by kernel_rfl
def c56:AFunc:=⟨19,[.tmp 4],qR [oO 2 (.box (.t 0)),oO 3 (.box (.t 1)),oO 4 (.mv (nI 0))] (.seq (qR [oF 6 0 2,oL 7 1 6,oF 8 0 3,oL 9 1 8,oO 10 (.call 68 [.t 7,.t 9]),oM 5 10] (qR [oM 11 5,oO 12 (.bin .neq (.t 11) (nI 0))] (.cond (.t 12) (qR [oM 13 5,oM 4 13] .ret) .skip))) (qR [oF 14 1 2,oL 15 1 14,oF 16 1 3,oL 17 1 16,oO 18 (.call 69 [.t 15,.t 17,.f 70]),oM 4 18] .ret)),.pure,true,true⟩
theorem k56:compF Try.prog pP Try.f56=some c56:=by kernel_rfl
def c57:AFunc:=⟨66,[.tmp 4],qR [oO 4 (.mv (.c oN))] (.seq (qR [oM 8 0,oO 9 (.len false (.t 8)),oO 10 (.bin .lss (.t 9) (nI 2))] (.cond (.t 10) (qR [oM 11 0,oM 4 11] .ret) .skip)) (.seq (qR [oO 5 (.mv (nI 1))] (.block 0 (.loop (.seq (qR [oM 12 5,oM 13 0,oO 14 (.len false (.t 13)),oO 15 (.bin .lss (.t 12) (.t 14))] (.cond (.t 15) .skip (.exit 0))) (.seq (.block 1 (qR [oM 18 1,oM 19 0,oM 20 5,oO 21 (.iaddrS 3 (.t 19) (.t 20)),oR 22 3 21,oM 23 0,oM 24 5,oO 25 (.bin .sub (.t 24) (nI 1)),oO 26 (.iaddrS 3 (.t 23) (.t 25)),oR 27 3 26,oO 28 (.callv (.t 18) [.t 22,.t 27])] (.cond (.t 28) (qR [oM 29 0,oM 30 5,oO 31 (.slSl 3 (.t 29) (some (.t 30)) none),oM 6 31] (.seq (qR [oO 7 (.mv (nI 1))] (.block 2 (.loop (.seq (qR [oM 32 7,oM 33 6,oO 34 (.len false (.t 33)),oO 35 (.bin .lss (.t 32) (.t 34))] (.cond (.t 35) .skip (.exit 2))) (.seq (.block 3 (qR [oM 38 1,oM 39 6,oM 40 7,oO 41 (.iaddrS 3 (.t 39) (.t 40)),oR 42 3 41,oM 43 6,oM 44 7,oO 45 (.bin .sub (.t 44) (nI 1)),oO 46 (.iaddrS 3 (.t 43) (.t 45)),oR 47 3 46,oO 48 (.callv (.t 38) [.t 42,.t 47]),oO 49 (.un .not (.t 48))] (.cond (.t 49) (qR [oM 50 0,oM 51 5,oM 52 6,oM 53 7,oO 54 (.iaddrS 3 (.t 52) (.t 53)),oR 55 3 54,oO 56 (.iaddrS 3 (.t 50) (.t 51)),oU (.store 3 (.t 56) (.t 55))] (.region [oM 57 5,oO 58 (.bin .add (.t 57) (nI 1)),oM 5 58])) .skip))) (.region [oM 36 7,oO 37 (.bin .add (.t 36) (nI 1)),oM 7 37])))))) (qR [oM 59 0,oM 60 5,oO 61 (.slSl 3 (.t 59) (some (.t 60)) none),oU (.clear 3 [oS,oN,oZ] (.t 61))] (qR [oM 62 0,oM 63 5,oO 64 (.slSl 3 (.t 62) none (some (.t 63))),oM 4 64] .ret)))) .skip))) (.region [oM 16 5,oO 17 (.bin .add (.t 16) (nI 1)),oM 5 17])))))) (qR [oM 65 0,oM 4 65] .ret))),.gc,false,false⟩
theorem k57:compF Try.prog pG Try.f57=some c57:=by kernel_rfl
def c58:AFunc:=⟨9,[.tmp 4],qR [oO 2 (.box (.t 0)),oO 3 (.box (.t 1)),oO 4 (.mv (.c (.bool false)))] (qR [oR 5 3 2,oR 6 3 3,oO 7 (.call 56 [.t 5,.t 6]),oO 8 (.bin .eql (.t 7) (nI 0)),oM 4 8] .ret),.pure,true,true⟩
theorem k58:compF Try.prog pP Try.f58=some c58:=by kernel_rfl
def c59:AFunc:=⟨68,[.cell 2 2 true],qR [oO 1 (.box (.t 0)),oO 2 (.alloc [oS,oN])] (qR [oF 7 1 1,oL 8 1 7,oO 3 (.alloc [oS,oZ]),⟨(some 6),.call 71 [],none,[.t 7,.t 3]⟩,⟨(some 9),.call 72 [.t 8,.c (.int .i64 6)],none,[.t 3]⟩,oO 10 (.iaddrS 2 (.t 6) (.t 9)),oR 11 2 10,oU (.store 2 (.t 3) (.t 11))] (qR [oF 12 0 3,oL 13 1 12,oO 14 (.build [oS,oN] [(0,1,.t 13)]),oO 4 (.alloc [oS,oN]),oU (.store 2 (.t 4) (.t 14))] (.seq (qR [oO 5 (.mv (nI 0))] (.block 0 (.loop (.seq (qR [oM 15 5,oF 16 1 3,oL 17 1 16,oO 18 (.bin .lss (.t 15) (.t 17))] (.cond (.t 18) .skip (.exit 0))) (.seq (.block 1 (qR [oM 21 5,oO 22 (.bin .eql (.t 21) (nI 0)),oM 23 22,oG 24 (.mv (.t 5)) 23 false,oG 25 (.bin .eql (.t 24) (nI 1)) 23 false,oG 26 (.mv (.t 25)) 23 false,oG 27 (.faddr 0 (.t 3)) 26 true,oG 28 (.load 1 false (.t 27)) 26 true,oG 29 (.bin .eql (.t 28) (.c (.str ⟨#[108,105,110,107]⟩))) 26 true,oG 30 (.mv (.t 29)) 26 true,oG 31 (.mv (.t 5)) 30 false,oG 32 (.faddr 2 (.t 1)) 30 false,oG 33 (.iaddrA 4 1 (.t 32) (.t 31)) 30 false,oG 34 (.load 1 false (.t 33)) 30 false,oG 35 (.call 72 [.t 34,nI 2]) 30 false,oG 36 (.bin .eql (.t 35) (nI 0)) 30 false,oG 37 (.pick (.t 30) (.c (.bool true)) (.t 36)) 26 true,oG 38 (.pick (.t 26) (.t 37) (.c (.bool false))) 23 false,oO 39 (.pick (.t 23) (.c (.bool true)) (.t 38))] (.cond (.t 39) (.region [oF 40 1 4,oL 41 1 40,oO 42 (.buildSl 4 1 false [oS,oS,oS,oS] [(0,1,.c (.str ⟨#[97]⟩)),(1,1,.c (.str ⟨#[98]⟩)),(2,1,.c (.str ⟨#[99]⟩)),(3,1,.c (.str ⟨#[100]⟩))]),oM 43 5,oF 44 2 1,oO 45 (.iaddrA 4 1 (.t 44) (.t 43)),oL 46 1 45,oO 47 (.bin .quo (.t 46) (nI 2)),⟨(some 48),.call 72 [.t 47,.c (.int .i64 4)],none,[.t 40,.t 42]⟩,oO 49 (.iaddrS 1 (.t 42) (.t 48)),oL 50 1 49,oO 51 (.build [oZ,oZ,oS,oN] [(0,1,nI 3),(2,1,.t 50)]),oO 52 (.buildSl 1 4 true [oZ,oZ,oS,oN] [(0,4,.t 51)]),oO 53 (.append 4 true 56 false (.t 41) (.t 52)),oF 54 1 4,oU (.store 1 (.t 54) (.t 53))]) (.region [oF 55 1 4,oL 56 1 55,oM 57 5,oF 58 2 1,oO 59 (.iaddrA 4 1 (.t 58) (.t 57)),oL 60 1 59,oO 61 (.bin .quo (.t 60) (nI 2)),⟨(some 62),.call 72 [.t 61,.c (.int .i64 5)],none,[.t 55]⟩,oO 63 (.build [oZ,oZ,oS,oN] [(0,1,nI 1),(1,1,.t 62)]),oO 64 (.buildSl 1 4 true [oZ,oZ,oS,oN] [(0,4,.t 63)]),oO 65 (.append 4 true 56 false (.t 56) (.t 64)),oF 66 1 4,oU (.store 1 (.t 66) (.t 65))])))) (.region [oM 19 5,oO 20 (.bin .add (.t 19) (nI 1)),oM 5 20])))))) (qR [oR 67 2 4,oU (.store 2 (.t 2) (.t 67))] .ret)))),.pure,true,true⟩
theorem k59:compF Try.prog pP Try.f59=some c59:=by kernel_rfl
def c60:AFunc:=⟨13,[.tmp 4],qR [oO 4 (.mv (nI 0))] (.seq (qR [oM 5 0,oO 6 (.bin .lss (.t 5) (nI 0))] (.cond (.t 6) (.region [oM 7 0,oO 8 (.bin .add (.t 7) (nI 1)),oO 9 (.un .neg (.t 8)),oM 0 9]) .skip)) (qR [oM 10 0,oM 11 1,oO 12 (.bin .rem (.t 10) (.t 11)),oM 4 12] .ret)),.pure,true,true⟩
theorem k60:compF Try.prog pP Try.f60=some c60:=by kernel_rfl
def c61:AFunc:=⟨107,[.cell 4 4 true],qR [oO 2 (.box (.t 0)),oO 4 (.alloc [oZ,oZ,oS,oN])] (.seq (qR [oF 11 0 2,oL 12 1 11,oO 13 (.call 73 [.t 12,nI 4])] (.block 0 (qR [oO 15 (.bin .eql (.t 13) (nI 0)),oM 14 15] (.cond (.t 14) (qR [oF 16 1 2,oL 17 1 16,oO 18 (.call 73 [.t 17,nI 4294967295]),oO 19 (.bin .sub (.t 18) (nI 2147483647)),oM 5 19] (qR [oM 20 5,oO 21 (.build [oZ,oZ,oS,oN] [(0,1,nI 1),(1,1,.t 20)]),oU (.store 4 (.t 4) (.t 21))] .ret)) (qR [oO 23 (.bin .eql (.t 13) (nI 1)),oM 22 23] (.cond (.t 22) (qR [oF 24 2 2,oL 25 1 24,oF 26 2 2,oL 27 1 26,oO 28 (.len true (.t 27)),oO 29 (.min2 (.t 28) (nI 32)),oO 30 (.strSl (.t 25) none (some (.t 29))),oO 31 (.s2b (.t 30)),oM 6 31] (.seq (qR [oO 7 (.mv (nI 0))] (.block 1 (.loop (.seq (qR [oM 32 7,oM 33 6,oO 34 (.len false (.t 33)),oO 35 (.bin .lss (.t 32) (.t 34))] (.cond (.t 35) .skip (.exit 1))) (.seq (.block 2 (qR [oM 38 6,oM 39 7,oM 40 6,oM 41 7,oO 42 (.iaddrS 1 (.t 40) (.t 41)),oL 43 1 42,oO 44 (.bin .rem (.t 43) (.c (.int .u8 95))),oO 45 (.bin .add (.c (.int .u8 32)) (.t 44)),oO 46 (.iaddrS 1 (.t 38) (.t 39)),oU (.store 1 (.t 46) (.t 45))] (qR [oM 47 6,oM 48 7,oO 49 (.iaddrS 1 (.t 47) (.t 48)),oL 50 1 49,oO 51 (.bin .eql (.t 50) (.c (.int .u8 34))),oM 52 51,oG 53 (.mv (.t 6)) 52 false,oG 54 (.mv (.t 7)) 52 false,oG 55 (.iaddrS 1 (.t 53) (.t 54)) 52 false,oG 56 (.load 1 false (.t 55)) 52 false,oG 57 (.bin .eql (.t 56) (.c (.int .u8 92))) 52 false,oO 58 (.pick (.t 52) (.c (.bool true)) (.t 57))] (.cond (.t 58) (.region [oM 59 6,oM 60 7,oO 61 (.iaddrS 1 (.t 59) (.t 60)),oU (.store 1 (.t 61) (.c (.int .u8 32)))]) .skip)))) (.region [oM 36 7,oO 37 (.bin .add (.t 36) (nI 1)),oM 7 37])))))) (qR [oM 62 6,oO 63 (.b2s (.t 62)),oO 64 (.build [oZ,oZ,oS,oN] [(0,1,nI 2),(2,1,.t 63)]),oU (.store 4 (.t 4) (.t 64))] .ret))) (qR [oO 66 (.bin .eql (.t 13) (nI 2)),oM 65 66] (.cond (.t 65) (qR [oF 67 2 2,oL 68 1 67,oO 69 (.call 74 [.t 68]),oO 70 (.build [oZ,oZ,oS,oN] [(0,1,nI 3),(2,1,.t 69)]),oU (.store 4 (.t 4) (.t 70))] .ret) .skip)))))))) (qR [oO 71 (.build [oZ,oZ,oS,oN] [(0,1,nI 4)]),oO 8 (.alloc [oZ,oZ,oS,oN]),oU (.store 4 (.t 8) (.t 71))] (.seq (qR [oO 9 (.mv (nI 0))] (.block 3 (.loop (.seq (qR [oM 72 9,oF 73 3 2,oL 74 1 73,oO 75 (.len false (.t 74)),oO 76 (.bin .lss (.t 72) (.t 75)),oM 77 76,oG 78 (.mv (.t 9)) 77 true,oG 79 (.bin .lss (.t 78) (nI 16)) 77 true,oO 80 (.pick (.t 77) (.t 79) (.c (.bool false)))] (.cond (.t 80) .skip (.exit 3))) (.seq (.block 4 (qR [oF 83 3 2,oL 84 1 83,oM 85 9,oO 86 (.iaddrS 4 (.t 84) (.t 85)),oR 87 4 86,oO 10 (.alloc [oZ,oZ,oS,oN]),oU (.store 4 (.t 10) (.t 87))] (.seq (qR [oM 88 1,oO 89 (.bin .leq (.t 88) (nI 1)),oM 90 89,oG 91 (.faddr 0 (.t 10)) 90 true,oG 92 (.load 1 false (.t 91)) 90 true,oG 93 (.call 73 [.t 92,nI 4]) 90 true,oG 94 (.bin .eql (.t 93) (nI 3)) 90 true,oO 95 (.pick (.t 90) (.t 94) (.c (.bool false)))] (.cond (.t 95) (.region [oF 96 0 10,oU (.store 1 (.t 96) (nI 0))]) .skip)) (.region [oF 97 3 8,oL 98 1 97,oR 99 4 10,oM 100 1,oO 101 (.bin .sub (.t 100) (nI 1)),⟨(some 102),.call 61 [.t 99,.t 101],none,[.t 97]⟩,oO 103 (.buildSl 1 4 true [oZ,oZ,oS,oN] [(0,4,.t 102)]),oO 104 (.append 4 true 56 false (.t 98) (.t 103)),oF 105 3 8,oU (.store 1 (.t 105) (.t 104))])))) (.region [oM 81 9,oO 82 (.bin .add (.t 81) (nI 1)),oM 9 82])))))) (qR [oR 106 4 8,oU (.store 4 (.t 4) (.t 106))] .ret)))),.pure,true,true⟩
theorem k61:compF Try.prog pP Try.f61=some c61:=by kernel_rfl
def c62:AFunc:=⟨9,[.tmp 2],qR [oO 2 (.mv (.c (.bool false)))] (qR [oM 3 0,oO 4 (.bin .geq (.t 3) (nI 0)),oM 5 4,oG 6 (.mv (.t 0)) 5 true,oG 7 (.bin .leq (.t 6) (nI 1099511627776)) 5 true,oO 8 (.pick (.t 5) (.t 7) (.c (.bool false))),oM 2 8] .ret),.pure,true,true⟩
theorem k62:compF Try.prog pP Try.f62=some c62:=by kernel_rfl
def c63:AFunc:=⟨55,[.tmp 4],qR [oO 2 (.box (.t 0)),oO 4 (.mv (.c (.bool false)))] (.seq (qR [oF 7 0 2,oL 8 1 7,oO 9 (.call 23 [.t 8]),oO 10 (.un .not (.t 9)),oM 11 10,oG 12 (.faddr 1 (.t 2)) 11 false,oG 13 (.load 1 false (.t 12)) 11 false,oG 14 (.len false (.t 13)) 11 false,oG 15 (.bin .lss (.t 14) (nI 1)) 11 false,oO 16 (.pick (.t 11) (.c (.bool true)) (.t 15)),oM 17 16,oG 18 (.faddr 1 (.t 2)) 17 false,oG 19 (.load 1 false (.t 18)) 17 false,oG 20 (.len false (.t 19)) 17 false,oG 21 (.bin .gtr (.t 20) (nI 8)) 17 false,oO 22 (.pick (.t 17) (.c (.bool true)) (.t 21)),oM 23 22,oG 24 (.faddr 2 (.t 2)) 23 false,oG 25 (.load 1 false (.t 24)) 23 false,oG 26 (.call 62 [.t 25]) 23 false,oG 27 (.un .not (.t 26)) 23 false,oO 28 (.pick (.t 23) (.c (.bool true)) (.t 27))] (.cond (.t 28) (qR [oO 4 (.mv (.c (.bool false)))] .ret) .skip)) (.seq (qR [oF 29 1 2,oL 30 1 29,oO 31 (.len false (.t 30)),oO 32 (.mv (nI 0))] (.block 0 (.loop (qR [oO 33 (.bin .lss (.t 32) (.t 31))] (.seq (.cond (.t 33) .skip (.exit 0)) (.seq (.block 1 (qR [oO 34 (.iaddrS 4 (.t 30) (.t 32)),oR 35 4 34,oO 6 (.alloc [oZ,oZ,oS,oN]),oU (.store 4 (.t 6) (.t 35))] (qR [oR 36 4 6,oO 37 (.call 75 [.t 36]),oO 38 (.un .not (.t 37))] (.cond (.t 38) (qR [oO 4 (.mv (.c (.bool false)))] .ret) .skip)))) (.region [oO 39 (.bin .add (.t 32) (nI 1)),oM 32 39]))))))) (qR [oF 40 1 2,oL 41 1 40,oO 42 (.iaddrS 4 (.t 41) (nI 0)),oF 43 0 42,oL 44 1 43,oO 45 (.bin .eql (.t 44) (nI 3)),oM 46 45,oG 47 (.faddr 1 (.t 2)) 46 true,oG 48 (.load 1 false (.t 47)) 46 true,oG 49 (.iaddrS 4 (.t 48) (nI 0)) 46 true,oG 50 (.faddr 2 (.t 49)) 46 true,oG 51 (.load 1 false (.t 50)) 46 true,oG 52 (.mv (.t 1)) 46 true,oG 53 (.bin .eql (.t 51) (.t 52)) 46 true,oO 54 (.pick (.t 46) (.t 53) (.c (.bool false))),oM 4 54] .ret))),.pure,true,true⟩
theorem k63:compF Try.prog pP Try.f63=some c63:=by kernel_rfl
def c64:AFunc:=⟨6,[.tmp 2],qR [oO 2 (.mv (.c (.bool false)))] (qR [oM 3 0,oM 4 0,oO 5 (.bin .neq (.t 3) (.t 4)),oM 2 5] .ret),.pure,true,true⟩
theorem k64:compF Try.prog pP Try.f64=some c64:=by kernel_rfl
def c65:AFunc:=⟨5,[.tmp 2],qR [oO 1 (.box (.t 0)),oO 2 (.mv (.c (.bool false)))] (qR [oR 3 4 1,oO 4 (.call 76 [.t 3,nI 4]),oM 2 4] .ret),.pure,true,true⟩
theorem k65:compF Try.prog pP Try.f65=some c65:=by kernel_rfl
def c66:AFunc:=⟨92,[.tmp 4],qR [oO 2 (.box (.t 0)),oO 3 (.box (.t 1)),oO 4 (.mv (nI 0))] (.seq (qR [oF 7 0 2,oL 8 1 7,oF 9 0 3,oL 10 1 9,oO 11 (.bin .neq (.t 8) (.t 10))] (.cond (.t 11) (qR [oF 12 0 2,oL 13 1 12,oF 14 0 3,oL 15 1 14,oO 16 (.bin .lss (.t 13) (.t 15)),oO 17 (.call 77 [.t 16,.c (.bool true)]),oM 4 17] .ret) .skip)) (.seq (qR [oF 18 0 2,oL 19 1 18] (.block 0 (qR [oO 21 (.bin .eql (.t 19) (nI 1)),oM 20 21] (.cond (.t 20) (qR [oF 22 1 2,oL 23 1 22,oF 24 1 3,oL 25 1 24,oO 26 (.bin .lss (.t 23) (.t 25)),oF 27 1 2,oL 28 1 27,oF 29 1 3,oL 30 1 29,oO 31 (.bin .gtr (.t 28) (.t 30)),oO 32 (.call 77 [.t 26,.t 31]),oM 4 32] .ret) (.seq (qR [oO 34 (.bin .eql (.t 19) (nI 2)),oM 33 34] (.cond (.t 33) .skip (.region [oO 35 (.bin .eql (.t 19) (nI 3)),oM 33 35]))) (.cond (.t 33) (qR [oF 36 2 2,oL 37 1 36,oF 38 2 3,oL 39 1 38,oO 40 (.bin .lss (.t 37) (.t 39)),oF 41 2 2,oL 42 1 41,oF 43 2 3,oL 44 1 43,oO 45 (.bin .gtr (.t 42) (.t 44)),oO 46 (.call 77 [.t 40,.t 45]),oM 4 46] .ret) (qR [oO 48 (.bin .eql (.t 19) (nI 4)),oM 47 48] (.cond (.t 47) (.seq (qR [oO 5 (.mv (nI 0))] (.block 1 (.loop (.seq (qR [oM 49 5,oF 50 3 2,oL 51 1 50,oO 52 (.len false (.t 51)),oO 53 (.bin .lss (.t 49) (.t 52)),oM 54 53,oG 55 (.mv (.t 5)) 54 true,oG 56 (.faddr 3 (.t 3)) 54 true,oG 57 (.load 1 false (.t 56)) 54 true,oG 58 (.len false (.t 57)) 54 true,oG 59 (.bin .lss (.t 55) (.t 58)) 54 true,oO 60 (.pick (.t 54) (.t 59) (.c (.bool false)))] (.cond (.t 60) .skip (.exit 1))) (.seq (.block 2 (qR [oF 63 3 2,oL 64 1 63,oM 65 5,oO 66 (.iaddrS 4 (.t 64) (.t 65)),oR 67 4 66,oF 68 3 3,oL 69 1 68,oM 70 5,oO 71 (.iaddrS 4 (.t 69) (.t 70)),oR 72 4 71,oO 73 (.call 66 [.t 67,.t 72]),oM 6 73] (qR [oM 74 6,oO 75 (.bin .neq (.t 74) (nI 0))] (.cond (.t 75) (qR [oM 76 6,oM 4 76] .ret) .skip)))) (.region [oM 61 5,oO 62 (.bin .add (.t 61) (nI 1)),oM 5 62])))))) (qR [oF 77 3 2,oL 78 1 77,oO 79 (.len false (.t 78)),oF 80 3 3,oL 81 1 80,oO 82 (.len false (.t 81)),oO 83 (.bin .lss (.t 79) (.t 82)),oF 84 3 2,oL 85 1 84,oO 86 (.len false (.t 85)),oF 87 3 3,oL 88 1 87,oO 89 (.len false (.t 88)),oO 90 (.bin .gtr (.t 86) (.t 89)),oO 91 (.call 77 [.t 83,.t 90]),oM 4 91] .ret)) .skip)))))))) (qR [oO 4 (.mv (nI 0))] .ret))),.pure,true,true⟩
theorem k66:compF Try.prog pP Try.f66=some c66:=by kernel_rfl
def c67:AFunc:=⟨63,[],qR [oO 6 (.mv (nI 20))] (qR [oM 10 6,oO 7 (.mv (nI 0)),oM 8 10] (.seq (.block 0 (.loop (.seq (qR [oM 11 8,oM 12 1,oO 13 (.bin .leq (.t 11) (.t 12))] (.cond (.t 13) .skip (.exit 0))) (.block 1 (qR [oM 14 0,oM 15 7,oM 16 8,oM 17 2,oO 18 (.call 78 [.t 14,.t 15,.t 16,.t 17])] (qR [oM 19 8,oM 7 19] (.region [oM 20 8,oM 21 6,oO 22 (.bin .add (.t 20) (.t 21)),oM 8 22]))))))) (qR [oM 23 0,oM 24 7,oM 25 1,oM 26 2,oO 27 (.call 78 [.t 23,.t 24,.t 25,.t 26])] (.block 2 (.loop (.seq (qR [oM 28 6,oM 29 1,oO 30 (.bin .lss (.t 28) (.t 29))] (.cond (.t 30) .skip (.exit 2))) (.block 3 (qR [oM 31 6,oO 32 (.bin .mul (nI 2) (.t 31)),oO 7 (.mv (nI 0)),oM 8 32] (.seq (.block 4 (.loop (.seq (qR [oM 33 8,oM 34 1,oO 35 (.bin .leq (.t 33) (.t 34))] (.cond (.t 35) .skip (.exit 4))) (.block 5 (qR [oM 36 0,oM 37 7,oM 38 7,oM 39 6,oO 40 (.bin .add (.t 38) (.t 39)),oM 41 8,oM 42 2,oO 43 (.call 79 [.t 36,.t 37,.t 40,.t 41,.t 42])] (qR [oM 44 8,oM 7 44] (.region [oM 45 8,oM 46 6,oO 47 (.bin .mul (nI 2) (.t 46)),oO 48 (.bin .add (.t 45) (.t 47)),oM 8 48]))))))) (.seq (qR [oM 49 7,oM 50 6,oO 51 (.bin .add (.t 49) (.t 50)),oM 9 51] (qR [oM 52 9,oM 53 1,oO 54 (.bin .lss (.t 52) (.t 53))] (.cond (.t 54) (.region [oM 55 0,oM 56 7,oM 57 9,oM 58 1,oM 59 2,oO 60 (.call 79 [.t 55,.t 56,.t 57,.t 58,.t 59])]) .skip))) (.region [oM 61 6,oO 62 (.bin .mul (.t 61) (nI 2)),oM 6 62]))))))))))),.gc,false,false⟩
theorem k67:compF Try.prog pG Try.f67=some c67:=by kernel_rfl
def c68:AFunc:=⟨8,[.tmp 4],qR [oO 4 (.mv (nI 0))] (qR [oM 5 0,oM 6 1,oO 7 (.call 80 [.t 5,.t 6]),oM 4 7] .ret),.pure,true,true⟩
theorem k68:compF Try.prog pP Try.f68=some c68:=by kernel_rfl
def c69:AFunc:=⟨39,[.tmp 6],qR [oO 6 (.mv (nI 0))] (.seq (qR [oM 11 0,oO 12 (.len false (.t 11)),oO 13 (.mv (nI 0))] (.block 0 (.loop (qR [oO 14 (.bin .lss (.t 13) (.t 12))] (.seq (.cond (.t 14) .skip (.exit 0)) (.seq (.block 1 (qR [oM 15 13,oO 16 (.iaddrS 4 (.t 11) (.t 13)),oR 17 4 16,oO 8 (.alloc [oZ,oZ,oS,oN]),oM 7 15,oU (.store 4 (.t 8) (.t 17))] (.seq (qR [oM 18 7,oM 19 1,oO 20 (.len false (.t 19)),oO 21 (.bin .geq (.t 18) (.t 20))] (.cond (.t 21) (qR [oO 6 (.mv (nI 1))] .ret) .skip)) (qR [oM 22 1,oM 23 7,oO 24 (.iaddrS 4 (.t 22) (.t 23)),oR 25 4 24,oO 9 (.alloc [oZ,oZ,oS,oN]),oU (.store 4 (.t 9) (.t 25))] (qR [oM 26 2,oR 27 4 8,oR 28 4 9,oO 29 (.callv (.t 26) [.t 27,.t 28]),oM 10 29] (qR [oM 30 10,oO 31 (.bin .neq (.t 30) (nI 0))] (.cond (.t 31) (qR [oM 32 10,oM 6 32] .ret) .skip))))))) (.region [oO 33 (.bin .add (.t 13) (nI 1)),oM 13 33]))))))) (.seq (qR [oM 34 0,oO 35 (.len false (.t 34)),oM 36 1,oO 37 (.len false (.t 36)),oO 38 (.bin .lss (.t 35) (.t 37))] (.cond (.t 38) (qR [oO 6 (.mv (nI (-1)))] .ret) .skip)) (qR [oO 6 (.mv (nI 0))] .ret))),.pure,true,true⟩
theorem k69:compF Try.prog pP Try.f69=some c69:=by kernel_rfl
def c70:AFunc:=⟨38,[.tmp 4],qR [oO 2 (.box (.t 0)),oO 3 (.box (.t 1)),oO 4 (.mv (nI 0))] (.seq (qR [oF 6 0 2,oL 7 1 6,oF 8 0 3,oL 9 1 8,oO 10 (.call 45 [.t 7,.t 9]),oM 5 10] (qR [oM 11 5,oO 12 (.bin .neq (.t 11) (nI 0))] (.cond (.t 12) (qR [oM 13 5,oM 4 13] .ret) .skip))) (.seq (qR [oF 14 0 2,oL 15 1 14] (.block 0 (qR [oO 17 (.bin .eql (.t 15) (nI 1)),oM 16 17] (.cond (.t 16) (qR [oF 18 1 2,oL 19 1 18,oF 20 1 3,oL 21 1 20,oO 22 (.call 45 [.t 19,.t 21]),oM 4 22] .ret) (.seq (qR [oO 24 (.bin .eql (.t 15) (nI 2)),oM 23 24] (.cond (.t 23) .skip (.region [oO 25 (.bin .eql (.t 15) (nI 3)),oM 23 25]))) (.cond (.t 23) (qR [oF 26 2 2,oL 27 1 26,oF 28 2 3,oL 29 1 28,oO 30 (.call 68 [.t 27,.t 29]),oM 4 30] .ret) (qR [oO 32 (.bin .eql (.t 15) (nI 4)),oM 31 32] (.cond (.t 31) (qR [oF 33 3 2,oL 34 1 33,oF 35 3 3,oL 36 1 35,oO 37 (.call 69 [.t 34,.t 36,.f 70]),oM 4 37] .ret) .skip)))))))) (qR [oO 4 (.mv (nI 0))] .ret))),.pure,true,true⟩
theorem k70:compF Try.prog pP Try.f70=some c70:=by kernel_rfl
def c71:AFunc:=⟨8,[.tmp 0],qR [oO 0 (.mv (.c oN))] (qR [oO 1 (.build [oS,oZ] [(0,1,.c (.str ⟨#[108,105,110,107]⟩)),(1,1,nI 3)]),oO 2 (.build [oS,oZ] [(0,1,.c (.str ⟨#[112]⟩)),(1,1,nI 2)]),oO 3 (.build [oS,oZ] [(0,1,.c (.str ⟨#[113]⟩)),(1,1,nI 2)]),oO 4 (.build [oS,oZ] [(0,1,.c (.str ⟨#[114]⟩)),(1,1,nI 1)]),oO 5 (.build [oS,oZ] [(0,1,.c (.str ⟨#[115]⟩)),(1,1,nI 3)]),oO 6 (.build [oS,oZ] [(0,1,.c (.str ⟨#[116]⟩)),(1,1,nI 2)]),oO 7 (.buildSl 6 2 true [oS,oZ,oS,oZ,oS,oZ,oS,oZ,oS,oZ,oS,oZ] [(0,2,.t 1),(2,2,.t 2),(4,2,.t 3),(6,2,.t 4),(8,2,.t 5),(10,2,.t 6)]),oM 0 7] .ret),.pure,true,true⟩
theorem k71:compF Try.prog pP Try.f71=some c71:=by kernel_rfl
def c72:AFunc:=⟨13,[.tmp 4],qR [oO 4 (.mv (nI 0))] (.seq (qR [oM 5 0,oO 6 (.bin .lss (.t 5) (nI 0))] (.cond (.t 6) (.region [oM 7 0,oO 8 (.bin .add (.t 7) (nI 1)),oO 9 (.un .neg (.t 8)),oM 0 9]) .skip)) (qR [oM 10 0,oM 11 1,oO 12 (.bin .rem (.t 10) (.t 11)),oM 4 12] .ret)),.pure,true,true⟩
theorem k72:compF Try.prog pP Try.f72=some c72:=by kernel_rfl
def c73:AFunc:=⟨13,[.tmp 4],qR [oO 4 (.mv (nI 0))] (.seq (qR [oM 5 0,oO 6 (.bin .lss (.t 5) (nI 0))] (.cond (.t 6) (.region [oM 7 0,oO 8 (.bin .add (.t 7) (nI 1)),oO 9 (.un .neg (.t 8)),oM 0 9]) .skip)) (qR [oM 10 0,oM 11 1,oO 12 (.bin .rem (.t 10) (.t 11)),oM 4 12] .ret)),.pure,true,true⟩
theorem k73:compF Try.prog pP Try.f73=some c73:=by kernel_rfl
def c74:AFunc:=⟨44,[.tmp 2],qR [oO 2 (.mv (.c oS))] (qR [oM 6 0,oM 7 0,oO 8 (.len true (.t 7)),oO 9 (.min2 (.t 8) (nI 15)),oO 10 (.strSl (.t 6) none (some (.t 9))),oO 11 (.bin .add (.c (.str ⟨#[110]⟩)) (.t 10)),oO 12 (.s2b (.t 11)),oM 3 12] (.seq (qR [oO 4 (.mv (nI 1))] (.block 0 (.loop (.seq (qR [oM 13 4,oM 14 3,oO 15 (.len false (.t 14)),oO 16 (.bin .lss (.t 13) (.t 15))] (.cond (.t 16) .skip (.exit 0))) (.seq (.block 1 (qR [oM 19 3,oM 20 4,oO 21 (.iaddrS 1 (.t 19) (.t 20)),oL 22 1 21,oO 23 (.bin .rem (.t 22) (.c (.int .u8 37))),oM 5 23] (qR [oM 24 5,oO 25 (.bin .lss (.t 24) (.c (.int .u8 26)))] (.cond (.t 25) (.region [oM 26 3,oM 27 4,oM 28 5,oO 29 (.bin .add (.c (.int .u8 97)) (.t 28)),oO 30 (.iaddrS 1 (.t 26) (.t 27)),oU (.store 1 (.t 30) (.t 29))]) (qR [oM 31 5,oO 32 (.bin .lss (.t 31) (.c (.int .u8 36)))] (.cond (.t 32) (.region [oM 33 3,oM 34 4,oM 35 5,oO 36 (.bin .add (.c (.int .u8 48)) (.t 35)),oO 37 (.bin .sub (.t 36) (.c (.int .u8 26))),oO 38 (.iaddrS 1 (.t 33) (.t 34)),oU (.store 1 (.t 38) (.t 37))]) (.region [oM 39 3,oM 40 4,oO 41 (.iaddrS 1 (.t 39) (.t 40)),oU (.store 1 (.t 41) (.c (.int .u8 95)))]))))))) (.region [oM 17 4,oO 18 (.bin .add (.t 17) (nI 1)),oM 4 18])))))) (qR [oM 42 3,oO 43 (.b2s (.t 42)),oM 2 43] .ret))),.pure,true,true⟩
theorem k74:compF Try.prog pP Try.f74=some c74:=by kernel_rfl
def c75:AFunc:=⟨5,[.tmp 2],qR [oO 1 (.box (.t 0)),oO 2 (.mv (.c (.bool false)))] (qR [oR 3 4 1,oO 4 (.call 81 [.t 3,nI 4]),oM 2 4] .ret),.pure,true,true⟩
theorem k75:compF Try.prog pP Try.f75=some c75:=by kernel_rfl
def c76:AFunc:=⟨125,[.tmp 4],qR [oO 2 (.box (.t 0)),oO 4 (.mv (.c (.bool false)))] (.seq (qR [oF 9 0 2,oL 10 1 9,oO 11 (.bin .eql (.t 10) (nI 1))] (.cond (.t 11) (qR [oF 12 2 2,oL 13 1 12,oO 14 (.bin .eql (.t 13) (.c oS)),oM 15 14,oG 16 (.faddr 3 (.t 2)) 15 true,oG 17 (.load 1 false (.t 16)) 15 true,oG 18 (.len false (.t 17)) 15 true,oG 19 (.bin .eql (.t 18) (nI 0)) 15 true,oO 20 (.pick (.t 15) (.t 19) (.c (.bool false))),oM 21 20,oG 22 (.faddr 1 (.t 2)) 21 true,oG 23 (.load 1 false (.t 22)) 21 true,oG 24 (.bin .leq (.t 23) (nI 2147483647)) 21 true,oO 25 (.pick (.t 21) (.t 24) (.c (.bool false))),oM 26 25,oG 27 (.faddr 1 (.t 2)) 26 true,oG 28 (.load 1 false (.t 27)) 26 true,oG 29 (.bin .geq (.t 28) (nI (-2147483647))) 26 true,oO 30 (.pick (.t 26) (.t 29) (.c (.bool false))),oM 4 30] .ret) .skip)) (.seq (qR [oF 31 1 2,oL 32 1 31,oO 33 (.bin .neq (.t 32) (nI 0))] (.cond (.t 33) (qR [oO 4 (.mv (.c (.bool false)))] .ret) .skip)) (.seq (qR [oF 34 0 2,oL 35 1 34] (.block 0 (qR [oO 37 (.bin .eql (.t 35) (nI 2)),oM 36 37] (.cond (.t 36) (.seq (qR [oO 5 (.mv (nI 0))] (.block 1 (.loop (.seq (qR [oM 38 5,oF 39 2 2,oL 40 1 39,oO 41 (.len true (.t 40)),oO 42 (.bin .lss (.t 38) (.t 41))] (.cond (.t 42) .skip (.exit 1))) (.seq (.block 2 (qR [oF 45 2 2,oL 46 1 45,oM 47 5,oO 48 (.idxStr (.t 46) (.t 47)),oO 49 (.bin .lss (.t 48) (.c (.int .u8 32))),oM 50 49,oG 51 (.faddr 2 (.t 2)) 50 false,oG 52 (.load 1 false (.t 51)) 50 false,oG 53 (.mv (.t 5)) 50 false,oG 54 (.idxStr (.t 52) (.t 53)) 50 false,oG 55 (.bin .gtr (.t 54) (.c (.int .u8 126))) 50 false,oO 56 (.pick (.t 50) (.c (.bool true)) (.t 55)),oM 57 56,oG 58 (.faddr 2 (.t 2)) 57 false,oG 59 (.load 1 false (.t 58)) 57 false,oG 60 (.mv (.t 5)) 57 false,oG 61 (.idxStr (.t 59) (.t 60)) 57 false,oG 62 (.bin .eql (.t 61) (.c (.int .u8 34))) 57 false,oO 63 (.pick (.t 57) (.c (.bool true)) (.t 62)),oM 64 63,oG 65 (.faddr 2 (.t 2)) 64 false,oG 66 (.load 1 false (.t 65)) 64 false,oG 67 (.mv (.t 5)) 64 false,oG 68 (.idxStr (.t 66) (.t 67)) 64 false,oG 69 (.bin .eql (.t 68) (.c (.int .u8 92))) 64 false,oO 70 (.pick (.t 64) (.c (.bool true)) (.t 69))] (.cond (.t 70) (qR [oO 4 (.mv (.c (.bool false)))] .ret) .skip))) (.region [oM 43 5,oO 44 (.bin .add (.t 43) (nI 1)),oM 5 44])))))) (qR [oF 71 2 2,oL 72 1 71,oO 73 (.len true (.t 72)),oO 74 (.bin .leq (.t 73) (nI 32)),oM 75 74,oG 76 (.faddr 3 (.t 2)) 75 true,oG 77 (.load 1 false (.t 76)) 75 true,oG 78 (.len false (.t 77)) 75 true,oG 79 (.bin .eql (.t 78) (nI 0)) 75 true,oO 80 (.pick (.t 75) (.t 79) (.c (.bool false))),oM 4 80] .ret)) (qR [oO 82 (.bin .eql (.t 35) (nI 3)),oM 81 82] (.cond (.t 81) (qR [oF 83 2 2,oL 84 1 83,oO 85 (.call 29 [.t 84]),oM 6 85] (qR [oM 86 6,oM 87 86,oG 88 (.faddr 3 (.t 2)) 87 true,oG 89 (.load 1 false (.t 88)) 87 true,oG 90 (.len false (.t 89)) 87 true,oG 91 (.bin .eql (.t 90) (nI 0)) 87 true,oO 92 (.pick (.t 87) (.t 91) (.c (.bool false))),oM 4 92] .ret)) (qR [oO 94 (.bin .eql (.t 35) (nI 4)),oM 93 94] (.cond (.t 93) (.seq (qR [oF 95 2 2,oL 96 1 95,oO 97 (.bin .neq (.t 96) (.c oS)),oM 98 97,oG 99 (.faddr 3 (.t 2)) 98 false,oG 100 (.load 1 false (.t 99)) 98 false,oG 101 (.len false (.t 100)) 98 false,oG 102 (.bin .gtr (.t 101) (nI 16)) 98 false,oO 103 (.pick (.t 98) (.c (.bool true)) (.t 102)),oM 104 103,oG 105 (.mv (.t 1)) 104 false,oG 106 (.bin .lss (.t 105) (nI 1)) 104 false,oO 107 (.pick (.t 104) (.c (.bool true)) (.t 106))] (.cond (.t 107) (qR [oO 4 (.mv (.c (.bool false)))] .ret) .skip)) (.seq (qR [oO 7 (.mv (nI 0))] (.block 3 (.loop (.seq (qR [oM 108 7,oF 109 3 2,oL 110 1 109,oO 111 (.len false (.t 110)),oO 112 (.bin .lss (.t 108) (.t 111))] (.cond (.t 112) .skip (.exit 3))) (.seq (.block 4 (qR [oF 115 3 2,oL 116 1 115,oM 117 7,oO 118 (.iaddrS 4 (.t 116) (.t 117)),oR 119 4 118,oM 120 1,oO 121 (.bin .sub (.t 120) (nI 1)),oO 122 (.call 76 [.t 119,.t 121]),oM 8 122] (qR [oM 123 8,oO 124 (.un .not (.t 123))] (.cond (.t 124) (qR [oO 4 (.mv (.c (.bool false)))] .ret) .skip)))) (.region [oM 113 7,oO 114 (.bin .add (.t 113) (nI 1)),oM 7 114])))))) (qR [oO 4 (.mv (.c (.bool true)))] .ret))) .skip)))))))) (qR [oO 4 (.mv (.c (.bool false)))] .ret)))),.pure,true,true⟩
theorem k76:compF Try.prog pP Try.f76=some c76:=by kernel_rfl
def c77:AFunc:=⟨7,[.tmp 4],qR [oO 4 (.mv (nI 0))] (.seq (qR [oM 5 0] (.cond (.t 5) (qR [oO 4 (.mv (nI (-1)))] .ret) .skip)) (.seq (qR [oM 6 1] (.cond (.t 6) (qR [oO 4 (.mv (nI 1))] .ret) .skip)) (qR [oO 4 (.mv (nI 0))] .ret))),.pure,true,true⟩
theorem k77:compF Try.prog pP Try.f77=some c77:=by kernel_rfl
def c78:AFunc:=⟨53,[],qR [oM 10 1,oO 11 (.bin .add (.t 10) (nI 1)),oM 8 11] (.block 0 (.loop (.seq (qR [oM 12 8,oM 13 2,oO 14 (.bin .lss (.t 12) (.t 13))] (.cond (.t 14) .skip (.exit 0))) (.seq (.block 1 (qR [oM 17 8,oM 9 17] (.block 2 (.loop (.seq (qR [oM 18 9,oM 19 1,oO 20 (.bin .gtr (.t 18) (.t 19)),oM 21 20,oG 22 (.mv (.t 3)) 21 true,oG 23 (.mv (.t 0)) 21 true,oG 24 (.mv (.t 9)) 21 true,oG 25 (.iaddrS 3 (.t 23) (.t 24)) 21 true,oG 26 (.load 3 true (.t 25)) 21 true,oG 27 (.mv (.t 0)) 21 true,oG 28 (.mv (.t 9)) 21 true,oG 29 (.bin .sub (.t 28) (nI 1)) 21 true,oG 30 (.iaddrS 3 (.t 27) (.t 29)) 21 true,oG 31 (.load 3 true (.t 30)) 21 true,oG 32 (.callv (.t 22) [.t 26,.t 31]) 21 true,oG 33 (.bin .lss (.t 32) (nI 0)) 21 true,oO 34 (.pick (.t 21) (.t 33) (.c (.bool false)))] (.cond (.t 34) .skip (.exit 2))) (.seq (.block 3 (.region [oM 37 0,oM 38 9,oM 39 0,oM 40 9,oO 41 (.bin .sub (.t 40) (nI 1)),oM 42 0,oM 43 9,oO 44 (.bin .sub (.t 43) (nI 1)),oO 45 (.iaddrS 3 (.t 42) (.t 44)),oR 46 3 45,oM 47 0,oM 48 9,oO 49 (.iaddrS 3 (.t 47) (.t 48)),oR 50 3 49,oO 51 (.iaddrS 3 (.t 37) (.t 38)),oU (.store 3 (.t 51) (.t 46)),oO 52 (.iaddrS 3 (.t 39) (.t 41)),oU (.store 3 (.t 52) (.t 50))])) (.region [oM 35 9,oO 36 (.bin .sub (.t 35) (nI 1)),oM 9 36]))))))) (.region [oM 15 8,oO 16 (.bin .add (.t 15) (nI 1)),oM 8 16]))))),.gc,false,false⟩
theorem k78:compF Try.prog pG Try.f78=some c78:=by kernel_rfl
def c79:AFunc:=⟨220,[],.seq (qR [oM 25 2,oM 26 1,oO 27 (.bin .sub (.t 25) (.t 26)),oO 28 (.bin .eql (.t 27) (nI 1))] (.cond (.t 28) (qR [oM 29 2,oM 10 29] (qR [oM 30 3,oM 11 30] (.seq (.block 0 (.loop (.seq (qR [oM 31 10,oM 32 11,oO 33 (.bin .lss (.t 31) (.t 32))] (.cond (.t 33) .skip (.exit 0))) (.block 1 (qR [oM 34 10,oM 35 11,oO 36 (.bin .add (.t 34) (.t 35)),oO 37 (.conv .u64 (.t 36)),oO 38 (.bin .shr (.t 37) (.c (.int .u64 1))),oO 39 (.conv .i64 (.t 38)),oM 12 39] (qR [oM 40 4,oM 41 0,oM 42 12,oO 43 (.iaddrS 3 (.t 41) (.t 42)),oR 44 3 43,oM 45 0,oM 46 1,oO 47 (.iaddrS 3 (.t 45) (.t 46)),oR 48 3 47,oO 49 (.callv (.t 40) [.t 44,.t 48]),oO 50 (.bin .lss (.t 49) (nI 0))] (.cond (.t 50) (.region [oM 51 12,oO 52 (.bin .add (.t 51) (nI 1)),oM 10 52]) (.region [oM 53 12,oM 11 53])))))))) (.seq (qR [oM 54 1,oM 13 54] (.block 2 (.loop (.seq (qR [oM 55 13,oM 56 10,oO 57 (.bin .sub (.t 56) (nI 1)),oO 58 (.bin .lss (.t 55) (.t 57))] (.cond (.t 58) .skip (.exit 2))) (.seq (.block 3 (.region [oM 61 0,oM 62 13,oM 63 0,oM 64 13,oO 65 (.bin .add (.t 64) (nI 1)),oM 66 0,oM 67 13,oO 68 (.bin .add (.t 67) (nI 1)),oO 69 (.iaddrS 3 (.t 66) (.t 68)),oR 70 3 69,oM 71 0,oM 72 13,oO 73 (.iaddrS 3 (.t 71) (.t 72)),oR 74 3 73,oO 75 (.iaddrS 3 (.t 61) (.t 62)),oU (.store 3 (.t 75) (.t 70)),oO 76 (.iaddrS 3 (.t 63) (.t 65)),oU (.store 3 (.t 76) (.t 74))])) (.region [oM 59 13,oO 60 (.bin .add (.t 59) (nI 1)),oM 13 60])))))) .ret)))) .skip)) (.seq (qR [oM 77 3,oM 78 2,oO 79 (.bin .sub (.t 77) (.t 78)),oO 80 (.bin .eql (.t 79) (nI 1))] (.cond (.t 80) (qR [oM 81 1,oM 14 81] (qR [oM 82 2,oM 15 82] (.seq (.block 4 (.loop (.seq (qR [oM 83 14,oM 84 15,oO 85 (.bin .lss (.t 83) (.t 84))] (.cond (.t 85) .skip (.exit 4))) (.block 5 (qR [oM 86 14,oM 87 15,oO 88 (.bin .add (.t 86) (.t 87)),oO 89 (.conv .u64 (.t 88)),oO 90 (.bin .shr (.t 89) (.c (.int .u64 1))),oO 91 (.conv .i64 (.t 90)),oM 16 91] (qR [oM 92 4,oM 93 0,oM 94 2,oO 95 (.iaddrS 3 (.t 93) (.t 94)),oR 96 3 95,oM 97 0,oM 98 16,oO 99 (.iaddrS 3 (.t 97) (.t 98)),oR 100 3 99,oO 101 (.callv (.t 92) [.t 96,.t 100]),oO 102 (.bin .lss (.t 101) (nI 0)),oO 103 (.un .not (.t 102))] (.cond (.t 103) (.region [oM 104 16,oO 105 (.bin .add (.t 104) (nI 1)),oM 14 105]) (.region [oM 106 16,oM 15 106])))))))) (.seq (qR [oM 107 2,oM 17 107] (.block 6 (.loop (.seq (qR [oM 108 17,oM 109 14,oO 110 (.bin .gtr (.t 108) (.t 109))] (.cond (.t 110) .skip (.exit 6))) (.seq (.block 7 (.region [oM 113 0,oM 114 17,oM 115 0,oM 116 17,oO 117 (.bin .sub (.t 116) (nI 1)),oM 118 0,oM 119 17,oO 120 (.bin .sub (.t 119) (nI 1)),oO 121 (.iaddrS 3 (.t 118) (.t 120)),oR 122 3 121,oM 123 0,oM 124 17,oO 125 (.iaddrS 3 (.t 123) (.t 124)),oR 126 3 125,oO 127 (.iaddrS 3 (.t 113) (.t 114)),oU (.store 3 (.t 127) (.t 122)),oO 128 (.iaddrS 3 (.t 115) (.t 117)),oU (.store 3 (.t 128) (.t 126))])) (.region [oM 111 17,oO 112 (.bin .sub (.t 111) (nI 1)),oM 17 112])))))) .ret)))) .skip)) (qR [oM 129 1,oM 130 3,oO 131 (.bin .add (.t 129) (.t 130)),oO 132 (.conv .u64 (.t 131)),oO 133 (.bin .shr (.t 132) (.c (.int .u64 1))),oO 134 (.conv .i64 (.t 133)),oM 18 134] (qR [oM 135 18,oM 136 2,oO 137 (.bin .add (.t 135) (.t 136)),oM 19 137] (qR [oO 20 (.mv (nI 0)),oO 21 (.mv (nI 0))] (.seq (qR [oM 138 2,oM 139 18,oO 140 (.bin .gtr (.t 138) (.t 139))] (.cond (.t 140) (qR [oM 141 19,oM 142 3,oO 143 (.bin .sub (.t 141) (.t 142)),oM 20 143] (.region [oM 144 18,oM 21 144])) (qR [oM 145 1,oM 20 145] (.region [oM 146 2,oM 21 146])))) (qR [oM 147 19,oO 148 (.bin .sub (.t 147) (nI 1)),oM 22 148] (.seq (.block 8 (.loop (.seq (qR [oM 149 20,oM 150 21,oO 151 (.bin .lss (.t 149) (.t 150))] (.cond (.t 151) .skip (.exit 8))) (.block 9 (qR [oM 152 20,oM 153 21,oO 154 (.bin .add (.t 152) (.t 153)),oO 155 (.conv .u64 (.t 154)),oO 156 (.bin .shr (.t 155) (.c (.int .u64 1))),oO 157 (.conv .i64 (.t 156)),oM 23 157] (qR [oM 158 4,oM 159 0,oM 160 22,oM 161 23,oO 162 (.bin .sub (.t 160) (.t 161)),oO 163 (.iaddrS 3 (.t 159) (.t 162)),oR 164 3 163,oM 165 0,oM 166 23,oO 167 (.iaddrS 3 (.t 165) (.t 166)),oR 168 3 167,oO 169 (.callv (.t 158) [.t 164,.t 168]),oO 170 (.bin .lss (.t 169) (nI 0)),oO 171 (.un .not (.t 170))] (.cond (.t 171) (.region [oM 172 23,oO 173 (.bin .add (.t 172) (nI 1)),oM 20 173]) (.region [oM 174 23,oM 21 174])))))))) (qR [oM 175 19,oM 176 20,oO 177 (.bin .sub (.t 175) (.t 176)),oM 24 177] (.seq (qR [oM 178 20,oM 179 2,oO 180 (.bin .lss (.t 178) (.t 179)),oM 181 180,oG 182 (.mv (.t 2)) 181 true,oG 183 (.mv (.t 24)) 181 true,oG 184 (.bin .lss (.t 182) (.t 183)) 181 true,oO 185 (.pick (.t 181) (.t 184) (.c (.bool false)))] (.cond (.t 185) (.region [oM 186 0,oM 187 20,oM 188 2,oM 189 24,oM 190 4,oO 191 (.call 82 [.t 186,.t 187,.t 188,.t 189,.t 190])]) .skip)) (.seq (qR [oM 192 1,oM 193 20,oO 194 (.bin .lss (.t 192) (.t 193)),oM 195 194,oG 196 (.mv (.t 20)) 195 true,oG 197 (.mv (.t 18)) 195 true,oG 198 (.bin .lss (.t 196) (.t 197)) 195 true,oO 199 (.pick (.t 195) (.t 198) (.c (.bool false)))] (.cond (.t 199) (.region [oM 200 0,oM 201 1,oM 202 20,oM 203 18,oM 204 4,oO 205 (.call 79 [.t 200,.t 201,.t 202,.t 203,.t 204])]) .skip)) (qR [oM 206 18,oM 207 24,oO 208 (.bin .lss (.t 206) (.t 207)),oM 209 208,oG 210 (.mv (.t 24)) 209 true,oG 211 (.mv (.t 3)) 209 true,oG 212 (.bin .lss (.t 210) (.t 211)) 209 true,oO 213 (.pick (.t 209) (.t 212) (.c (.bool false)))] (.cond (.t 213) (.region [oM 214 0,oM 215 18,oM 216 24,oM 217 3,oM 218 4,oO 219 (.call 79 [.t 214,.t 215,.t 216,.t 217,.t 218])]) .skip)))))))))))),.gc,false,false⟩
theorem k79:compF Try.prog pG Try.f79=some c79:=by kernel_rfl
def c81:AFunc:=⟨67,[.tmp 4],qR [oO 2 (.box (.t 0)),oO 3 (.box (.t 1)),oO 4 (.mv (.c (.bool false)))] (qR [oR 6 4 2,oO 5 (.alloc [oZ,oZ,oS,oN]),oU (.store 4 (.t 5) (.t 6))] (qR [oF 7 0 5,oU (.store 1 (.t 7) (nI 0))] (.seq (qR [oF 8 0 2,oL 9 1 8] (.block 0 (qR [oO 11 (.bin .eql (.t 9) (nI 1)),oM 10 11] (.cond (.t 10) (qR [oF 12 1 5,oU (.store 1 (.t 12) (nI 0))] (qR [oR 13 4 5,oO 14 (.call 84 [.t 13]),oM 15 14,oG 16 (.faddr 1 (.t 2)) 15 true,oG 17 (.load 1 false (.t 16)) 15 true,oG 18 (.bin .leq (.t 17) (nI 2147483647)) 15 true,oO 19 (.pick (.t 15) (.t 18) (.c (.bool false))),oM 20 19,oG 21 (.faddr 1 (.t 2)) 20 true,oG 22 (.load 1 false (.t 21)) 20 true,oG 23 (.bin .geq (.t 22) (nI (-2147483647))) 20 true,oO 24 (.pick (.t 20) (.t 23) (.c (.bool false))),oM 4 24] .ret)) (qR [oO 26 (.bin .eql (.t 9) (nI 2)),oM 25 26] (.cond (.t 25) (qR [oF 27 2 5,oU (.store 1 (.t 27) (.c oS))] (qR [oR 28 4 5,oO 29 (.call 84 [.t 28]),oM 30 29,oG 31 (.faddr 2 (.t 2)) 30 true,oG 32 (.load 1 false (.t 31)) 30 true,oG 33 (.call 85 [.t 32]) 30 true,oO 34 (.pick (.t 30) (.t 33) (.c (.bool false))),oM 4 34] .ret)) (qR [oO 36 (.bin .eql (.t 9) (nI 3)),oM 35 36] (.cond (.t 35) (qR [oF 37 2 5,oU (.store 1 (.t 37) (.c oS))] (qR [oR 38 4 5,oO 39 (.call 84 [.t 38]),oM 40 39,oG 41 (.faddr 2 (.t 2)) 40 true,oG 42 (.load 1 false (.t 41)) 40 true,oG 43 (.call 23 [.t 42]) 40 true,oO 44 (.pick (.t 40) (.t 43) (.c (.bool false))),oM 4 44] .ret)) (qR [oO 46 (.bin .eql (.t 9) (nI 4)),oM 45 46] (.cond (.t 45) (qR [oF 47 3 5,oU (.store 1 (.t 47) (.c oN))] (qR [oR 48 4 5,oO 49 (.call 84 [.t 48]),oM 50 49,oG 51 (.load 1 false (.t 3)) 50 true,oG 52 (.bin .gtr (.t 51) (nI 0)) 50 true,oO 53 (.pick (.t 50) (.t 52) (.c (.bool false))),oM 54 53,oG 55 (.faddr 3 (.t 2)) 54 true,oG 56 (.load 1 false (.t 55)) 54 true,oG 57 (.len false (.t 56)) 54 true,oG 58 (.bin .leq (.t 57) (nI 16)) 54 true,oO 59 (.pick (.t 54) (.t 58) (.c (.bool false))),oM 60 59,oG 61 (.faddr 3 (.t 2)) 60 true,oG 62 (.load 1 false (.t 61)) 60 true,oG 63 (.mkfn 87 [.t 3]) 60 true,oG 64 (.call 86 [.t 62,.t 63]) 60 true,oG 65 (.un .not (.t 64)) 60 true,oO 66 (.pick (.t 60) (.t 65) (.c (.bool false))),oM 4 66] .ret)) .skip)))))))))) (qR [oO 4 (.mv (.c (.bool false)))] .ret)))),.pure,true,true⟩
theorem k81:compF Try.prog pP Try.f81=some c81:=by kernel_rfl
def c82:AFunc:=⟨58,[],qR [oM 12 2,oM 13 1,oO 14 (.bin .sub (.t 12) (.t 13)),oM 10 14] (qR [oM 15 3,oM 16 2,oO 17 (.bin .sub (.t 15) (.t 16)),oM 11 17] (.seq (.block 0 (.loop (.seq (qR [oM 18 10,oM 19 11,oO 20 (.bin .neq (.t 18) (.t 19))] (.cond (.t 20) .skip (.exit 0))) (.block 1 (qR [oM 21 10,oM 22 11,oO 23 (.bin .gtr (.t 21) (.t 22))] (.cond (.t 23) (qR [oM 24 0,oM 25 2,oM 26 10,oO 27 (.bin .sub (.t 25) (.t 26)),oM 28 2,oM 29 11,oM 30 4,oO 31 (.call 88 [.t 24,.t 27,.t 28,.t 29,.t 30])] (.region [oM 32 10,oM 33 11,oO 34 (.bin .sub (.t 32) (.t 33)),oM 10 34])) (qR [oM 35 0,oM 36 2,oM 37 10,oO 38 (.bin .sub (.t 36) (.t 37)),oM 39 2,oM 40 11,oO 41 (.bin .add (.t 39) (.t 40)),oM 42 10,oO 43 (.bin .sub (.t 41) (.t 42)),oM 44 10,oM 45 4,oO 46 (.call 88 [.t 35,.t 38,.t 43,.t 44,.t 45])] (.region [oM 47 11,oM 48 10,oO 49 (.bin .sub (.t 47) (.t 48)),oM 11 49])))))))) (.region [oM 50 0,oM 51 2,oM 52 10,oO 53 (.bin .sub (.t 51) (.t 52)),oM 54 2,oM 55 10,oM 56 4,oO 57 (.call 88 [.t 50,.t 53,.t 54,.t 55,.t 56])]))),.gc,false,false⟩
theorem k82:compF Try.prog pG Try.f82=some c82:=by kernel_rfl
def c84:AFunc:=⟨22,[.tmp 2],qR [oO 1 (.box (.t 0)),oO 2 (.mv (.c (.bool false)))] (qR [oF 3 0 1,oL 4 1 3,oO 5 (.bin .eql (.t 4) (nI 0)),oM 6 5,oG 7 (.faddr 1 (.t 1)) 6 true,oG 8 (.load 1 false (.t 7)) 6 true,oG 9 (.bin .eql (.t 8) (nI 0)) 6 true,oO 10 (.pick (.t 6) (.t 9) (.c (.bool false))),oM 11 10,oG 12 (.faddr 2 (.t 1)) 11 true,oG 13 (.load 1 false (.t 12)) 11 true,oG 14 (.bin .eql (.t 13) (.c oS)) 11 true,oO 15 (.pick (.t 11) (.t 14) (.c (.bool false))),oM 16 15,oG 17 (.faddr 3 (.t 1)) 16 true,oG 18 (.load 1 false (.t 17)) 16 true,oG 19 (.len false (.t 18)) 16 true,oG 20 (.bin .eql (.t 19) (nI 0)) 16 true,oO 21 (.pick (.t 16) (.t 20) (.c (.bool false))),oM 2 21] .ret),.pure,true,true⟩
theorem k84:compF Try.prog pP Try.f84=some c84:=by kernel_rfl
def c85:AFunc:=⟨27,[.tmp 2],qR [oO 2 (.mv (.c (.bool false)))] (.seq (qR [oM 5 0,oO 6 (.rng (.t 5))] (.block 0 (.loop (qR [oO 7 (.nxt (.t 6)),oX 8 0 7] (.seq (.cond (.t 8) .skip (.exit 0)) (.block 1 (qR [oX 9 2 7,oM 4 9] (qR [oM 10 4,oO 11 (.bin .lss (.t 10) (.c (.int .i32 32))),oM 12 11,oG 13 (.mv (.t 4)) 12 false,oG 14 (.bin .gtr (.t 13) (.c (.int .i32 126))) 12 false,oO 15 (.pick (.t 12) (.c (.bool true)) (.t 14)),oM 16 15,oG 17 (.mv (.t 4)) 16 false,oG 18 (.bin .eql (.t 17) (.c (.int .i32 34))) 16 false,oO 19 (.pick (.t 16) (.c (.bool true)) (.t 18)),oM 20 19,oG 21 (.mv (.t 4)) 20 false,oG 22 (.bin .eql (.t 21) (.c (.int .i32 92))) 20 false,oO 23 (.pick (.t 20) (.c (.bool true)) (.t 22))] (.cond (.t 23) (qR [oO 2 (.mv (.c (.bool false)))] .ret) .skip))))))))) (qR [oM 24 0,oO 25 (.len true (.t 24)),oO 26 (.bin .leq (.t 25) (nI 32)),oM 2 26] .ret)),.pure,true,true⟩
theorem k85:compF Try.prog pP Try.f85=some c85:=by kernel_rfl
def c86:AFunc:=⟨9,[.tmp 4],qR [oO 4 (.mv (.c (.bool false)))] (qR [oM 5 0,oM 6 1,oO 7 (.call 89 [.t 5,.t 6]),oO 8 (.bin .geq (.t 7) (nI 0)),oM 4 8] .ret),.pure,true,true⟩
theorem k86:compF Try.prog pP Try.f86=some c86:=by kernel_rfl
def c87:AFunc:=⟨9,[.tmp 3],qR [oO 2 (.box (.t 0)),oO 3 (.mv (.c (.bool false)))] (qR [oR 4 4 2,oL 5 1 1,oO 6 (.bin .sub (.t 5) (nI 1)),oO 7 (.call 81 [.t 4,.t 6]),oO 8 (.un .not (.t 7)),oM 3 8] .ret),.pure,true,true⟩
theorem k87:compF Try.prog pP Try.f87=some c87:=by kernel_rfl
def c88:AFunc:=⟨38,[],qR [oO 10 (.mv (nI 0))] (.block 0 (.loop (.seq (qR [oM 11 10,oM 12 3,oO 13 (.bin .lss (.t 11) (.t 12))] (.cond (.t 13) .skip (.exit 0))) (.seq (.block 1 (.region [oM 16 0,oM 17 1,oM 18 10,oO 19 (.bin .add (.t 17) (.t 18)),oM 20 0,oM 21 2,oM 22 10,oO 23 (.bin .add (.t 21) (.t 22)),oM 24 0,oM 25 2,oM 26 10,oO 27 (.bin .add (.t 25) (.t 26)),oO 28 (.iaddrS 3 (.t 24) (.t 27)),oR 29 3 28,oM 30 0,oM 31 1,oM 32 10,oO 33 (.bin .add (.t 31) (.t 32)),oO 34 (.iaddrS 3 (.t 30) (.t 33)),oR 35 3 34,oO 36 (.iaddrS 3 (.t 16) (.t 19)),oU (.store 3 (.t 36) (.t 29)),oO 37 (.iaddrS 3 (.t 20) (.t 23)),oU (.store 3 (.t 37) (.t 35))])) (.region [oM 14 10,oO 15 (.bin .add (.t 14) (nI 1)),oM 10 15]))))),.gc,false,false⟩
theorem k88:compF Try.prog pG Try.f88=some c88:=by kernel_rfl
def c89:AFunc:=⟨19,[.tmp 4],qR [oO 4 (.mv (nI 0))] (.seq (qR [oM 6 0,oO 7 (.len false (.t 6)),oO 8 (.mv (nI 0))] (.block 0 (.loop (qR [oO 9 (.bin .lss (.t 8) (.t 7))] (.seq (.cond (.t 9) .skip (.exit 0)) (.seq (.block 1 (qR [oM 10 8,oM 5 10] (qR [oM 11 1,oM 12 0,oM 13 5,oO 14 (.iaddrS 4 (.t 12) (.t 13)),oR 15 4 14,oO 16 (.callv (.t 11) [.t 15])] (.cond (.t 16) (qR [oM 17 5,oM 4 17] .ret) .skip)))) (.region [oO 18 (.bin .add (.t 8) (nI 1)),oM 8 18]))))))) (qR [oO 4 (.mv (nI (-1)))] .ret)),.pure,true,true⟩
theorem k89:compF Try.prog pP Try.f89=some c89:=by kernel_rfl
def x34:AFunc:=⟨8,[.tmp 2],
 .seq (.region [
  ⟨(some 2),.mv (.c (.isl [] true)),none,[]⟩]) (
 .seq (.seq (.region [
  ⟨(some 3),.mv (.t 0),none,[]⟩,
  ⟨(some 4),.eqnil false (.t 3),none,[]⟩]) (
 .cond (.t 4) (
  .seq (.region [
   ⟨(some 2),.mv (.c (.isl [] true)),none,[]⟩]) (
  .ret)) (
  .skip))) (
 .seq (.region [
  ⟨(some 5),.buildSl 0 4 true [] [],none,[]⟩,
  ⟨(some 6),.mv (.t 0),none,[]⟩,
  ⟨(some 7),.append 4 true 56 true (.t 5) (.t 6),none,[]⟩,
  ⟨(some 2),.mv (.t 7),none,[]⟩]) (
 .ret))),
 .raw,false,false⟩
theorem kx34:compF Try.prog {mt:=true,mtAt:=[],mode:=.raw,clArgs:=false,clRes:=false} Try.f34=some x34:=by kernel_rfl
def x53:AFunc:=⟨8,[.tmp 2],
 .seq (.region [
  ⟨(some 2),.mv (.c (.isl [] true)),none,[]⟩]) (
 .seq (.seq (.region [
  ⟨(some 3),.mv (.t 0),none,[]⟩,
  ⟨(some 4),.eqnil false (.t 3),none,[]⟩]) (
 .cond (.t 4) (
  .seq (.region [
   ⟨(some 2),.mv (.c (.isl [] true)),none,[]⟩]) (
  .ret)) (
  .skip))) (
 .seq (.region [
  ⟨(some 5),.buildSl 0 3 true [] [],none,[]⟩,
  ⟨(some 6),.mv (.t 0),none,[]⟩,
  ⟨(some 7),.append 3 true 48 true (.t 5) (.t 6),none,[]⟩,
  ⟨(some 2),.mv (.t 7),none,[]⟩]) (
 .ret))),
 .raw,false,false⟩
theorem kx53:compF Try.prog {mt:=true,mtAt:=[],mode:=.raw,clArgs:=false,clRes:=false} Try.f53=some x53:=by kernel_rfl
noncomputable def fns:List (Nat × AFunc):=[(3,c3),(4,c4),(5,c5),(6,c6),(7,c7),(8,c8),(9,c9),(10,c10),(11,c11),(12,c12),(13,c13),(14,c14),(15,c15),(16,c16),(17,c17),(18,c18),(19,c19),(20,c20),(21,c21),(22,c22),(23,c23),(24,c24),(25,c25),(26,c26),(27,c27),(28,c28),(29,c29),(30,c30),(31,c31),(32,c32),(33,c33),(35,c35),(36,c36),(37,c37),(38,c38),(39,c39),(40,c40),(41,c41),(42,c42),(43,c43),(44,c44),(45,c45),(46,c46),(47,c47),(48,c48),(49,c49),(50,c50),(51,c51),(52,c52),(54,c54),(55,c55),(56,c56),(57,c57),(58,c58),(59,c59),(60,c60),(61,c61),(62,c62),(63,c63),(64,c64),(65,c65),(66,c66),(67,c67),(68,c68),(69,c69),(70,c70),(71,c71),(72,c72),(73,c73),(74,c74),(75,c75),(76,c76),(77,c77),(78,c78),(79,c79),(81,c81),(82,c82),(84,c84),(85,c85),(86,c86),(87,c87),(88,c88),(89,c89)]
set_option maxRecDepth 100000 in
theorem fns_ok:∀ p∈fns,∃ fn pol,Try.prog.funcs[p.1]?=some fn∧compF Try.prog pol fn=some p.2:=by
 simp only [fns,List.forall_mem_cons]
 exact ⟨⟨_,_,Try.func3,k3⟩,⟨_,_,Try.func4,k4⟩,⟨_,_,Try.func5,k5⟩,⟨_,_,Try.func6,k6⟩,⟨_,_,Try.func7,k7⟩,⟨_,_,Try.func8,k8⟩,⟨_,_,Try.func9,k9⟩,⟨_,_,Try.func10,k10⟩,⟨_,_,Try.func11,k11⟩,⟨_,_,Try.func12,k12⟩,⟨_,_,Try.func13,k13⟩,⟨_,_,Try.func14,k14⟩,⟨_,_,Try.func15,k15⟩,⟨_,_,Try.func16,k16⟩,⟨_,_,Try.func17,k17⟩,⟨_,_,Try.func18,k18⟩,⟨_,_,Try.func19,k19⟩,⟨_,_,Try.func20,k20⟩,⟨_,_,Try.func21,k21⟩,⟨_,_,Try.func22,k22⟩,⟨_,_,Try.func23,k23⟩,⟨_,_,Try.func24,k24⟩,⟨_,_,Try.func25,k25⟩,⟨_,_,Try.func26,k26⟩,⟨_,_,Try.func27,k27⟩,⟨_,_,Try.func28,k28⟩,⟨_,_,Try.func29,k29⟩,⟨_,_,Try.func30,k30⟩,⟨_,_,Try.func31,k31⟩,⟨_,_,Try.func32,k32⟩,⟨_,_,Try.func33,k33⟩,⟨_,_,Try.func35,k35⟩,⟨_,_,Try.func36,k36⟩,⟨_,_,Try.func37,k37⟩,⟨_,_,Try.func38,k38⟩,⟨_,_,Try.func39,k39⟩,⟨_,_,Try.func40,k40⟩,⟨_,_,Try.func41,k41⟩,⟨_,_,Try.func42,k42⟩,⟨_,_,Try.func43,k43⟩,⟨_,_,Try.func44,k44⟩,⟨_,_,Try.func45,k45⟩,⟨_,_,Try.func46,k46⟩,⟨_,_,Try.func47,k47⟩,⟨_,_,Try.func48,k48⟩,⟨_,_,Try.func49,k49⟩,⟨_,_,Try.func50,k50⟩,⟨_,_,Try.func51,k51⟩,⟨_,_,Try.func52,k52⟩,⟨_,_,Try.func54,k54⟩,⟨_,_,Try.func55,k55⟩,⟨_,_,Try.func56,k56⟩,⟨_,_,Try.func57,k57⟩,⟨_,_,Try.func58,k58⟩,⟨_,_,Try.func59,k59⟩,⟨_,_,Try.func60,k60⟩,⟨_,_,Try.func61,k61⟩,⟨_,_,Try.func62,k62⟩,⟨_,_,Try.func63,k63⟩,⟨_,_,Try.func64,k64⟩,⟨_,_,Try.func65,k65⟩,⟨_,_,Try.func66,k66⟩,⟨_,_,Try.func67,k67⟩,⟨_,_,Try.func68,k68⟩,⟨_,_,Try.func69,k69⟩,⟨_,_,Try.func70,k70⟩,⟨_,_,Try.func71,k71⟩,⟨_,_,Try.func72,k72⟩,⟨_,_,Try.func73,k73⟩,⟨_,_,Try.func74,k74⟩,⟨_,_,Try.func75,k75⟩,⟨_,_,Try.func76,k76⟩,⟨_,_,Try.func77,k77⟩,⟨_,_,Try.func78,k78⟩,⟨_,_,Try.func79,k79⟩,⟨_,_,Try.func81,k81⟩,⟨_,_,Try.func82,k82⟩,⟨_,_,Try.func84,k84⟩,⟨_,_,Try.func85,k85⟩,⟨_,_,Try.func86,k86⟩,⟨_,_,Try.func87,k87⟩,⟨_,_,Try.func88,k88⟩,⟨_,_,Try.func89,k89⟩,fun _ h=>by cases h⟩
noncomputable def rds (rc:RCode):Option (Nat × ACode × ACode):=none
theorem rds_ok:∀ rc nt a b,rds rc=some (nt,a,b)→∃ mt,compC Try.prog mt nt rc.assign=some a∧compC Try.prog mt nt rc.body=some b∧noRf a=true∧noRf b=true:=by
 intro rc nt a b h
 unfold rds at h
 cases h
open Go.RowKit Go.Mach
set_option maxHeartbeats 1000000 in
set_option maxRecDepth 100000 in
theorem cmp_calls (a b:ByteArray) (w:World) :
  Calls Try.prog 80 #[.string a,.string b] w fun e w'=>e=.returned (.int .i64 (Lib.compareBytes a.data.toList b.data.toList))∧w'=w:=by
 go_enter Try.func80,Try.ntmps80
 go_wp2
 rw [run_callFunc_extern Try.func83 (by kernel_rfl) (by kernel_rfl) (by kernel_rfl) (e:=Extern.BytealgCompare.compare) (by kernel_rfl),Lib.run_compareString]
 simp only [Result.andThen]
 rw [Oper.upon_value]
 go_wp2
 go_ret
 exact ⟨rfl,rfl⟩
def cmpP (args:List AV) (_:Nat) (σ:Heap):Option (AV × Heap):=match args with
 | [.str a,.str b]=>some (.int .i64 (Lib.compareBytes a.data.toList b.data.toList),σ)
 | _=>none
theorem args1 {g:Gh} {x:AV} {cargs:Array Value} (hA:Args g [x] cargs):∃ c,cargs=#[c]∧VR g x c:=by
 have h0:=hA.len
 match hcl:cargs.toList,(show cargs.toList.length=1 by simpa using h0.symm) with
 | [c],_=>exact ⟨c,by rw [←Array.toArray_toList (xs:=cargs),hcl],hA.val 0 _ c rfl (by rw [←Array.getElem?_toList,hcl]; rfl)⟩
theorem args2 {g:Gh} {x y:AV} {cargs:Array Value} (hA:Args g [x,y] cargs):∃ c d,cargs=#[c,d]∧VR g x c∧VR g y d:=by
 have h0:=hA.len
 match hcl:cargs.toList,(show cargs.toList.length=2 by simpa using h0.symm) with
 | [c,d],_=>
  exact ⟨c,d,by rw [←Array.toArray_toList (xs:=cargs),hcl],hA.val 0 _ c rfl (by rw [←Array.getElem?_toList,hcl]; rfl),hA.val 1 _ d rfl (by rw [←Array.getElem?_toList,hcl]; rfl)⟩
theorem cmp_ok:PrimOK Try.prog 80 cmpP:=by
 intro args bs σ v σ' h hbs
 unfold cmpP at h
 split at h
 ·rename_i a b
  injection h with h; injection h with e1 e2; subst e1 e2
  refine ⟨⟨_,Try.func80,by kernel_rfl,by kernel_rfl⟩,fun g ow w cargs hH hA=>?_⟩
  obtain ⟨c,d,rfl,hx,hy⟩:=args2 hA
  rw [hx.strv,hy.strv]
  refine (cmp_calls a b w).mono ?_
  rintro e w' ⟨rfl,rfl⟩
  exact ⟨_,g,ow,rfl,.int _ _,hH,.refl ..⟩
 ·cases h
theorem eq_nil {P:Program} {t e:TypeId} (ht:P.underlying t=some (.slice e)) (a:Option Addr) (c:Nat) (w:World):Sem.run P (binOp .eql t (.slice a 0 c) (.slice none 0 0)) w=.ok (.bool a.isNone) w:=by
 have heq:(Op.equal t (.slice a 0 c) (.slice none 0 0)).run P w=.ok a.isNone w:=by
  have hd:∀ d,(Op.equalIn (d+1) t (.slice a 0 c) (.slice none 0 0)).run P w=.ok a.isNone w:=fun d=>by cases a <;> simp [Op.equalIn,run_und ht]
  exact hd 9999
 simp [binOp,heq]
set_option maxRecDepth 100000 in
set_option maxHeartbeats 1000000 in
theorem cloneV_nil (a:Option Addr) (c:Nat) (w:World) :
  Calls Try.prog 34 #[.slice a 0 c] w fun e w'=>∃ a',e=.returned (.slice a' 0 0)∧Same w w'∧w.heap.size≤w'.heap.size∧∀ b,b<w.heap.size→w'.heap[b]?=w.heap[b]?:=by
 go_enter Try.func34,Try.ntmps34
 have hu:Try.prog.underlying 40=some (.slice 71):=by kernel_rfl
 cases a with
 | none=>
  have hb:∀ w,Sem.run Try.prog (binOp .eql 40 (.slice none 0 c) (.slice none 0 0)) w=.ok (.bool true) w:=fun w=>eq_nil hu none c w
  go_wp2
  go_ret
  exact ⟨_,rfl,⟨rfl,rfl,rfl⟩,Nat.le_refl _,fun _ _=>rfl⟩
 | some a=>
  have hb:∀ w,Sem.run Try.prog (binOp .eql 40 (.slice (some a) 0 c) (.slice none 0 0)) w=.ok (.bool false) w:=fun w=>eq_nil hu (some a) c w
  go_wp2
  go_ret
  have hal:∀ o,(w.alloc o).heap=w.heap.push o:=fun _=>rfl
  exact ⟨_,rfl,⟨rfl,rfl,rfl⟩,by rw [hal,Array.size_push]; exact Nat.le_succ _,fun b hb=>by rw [hal,Array.getElem?_push,if_neg (Nat.ne_of_lt hb)]⟩
set_option maxRecDepth 100000 in
set_option maxHeartbeats 1000000 in
theorem cloneW_nil (a:Option Addr) (c:Nat) (w:World) :
  Calls Try.prog 53 #[.slice a 0 c] w fun e w'=>∃ a',e=.returned (.slice a' 0 0)∧Same w w'∧w.heap.size≤w'.heap.size∧∀ b,b<w.heap.size→w'.heap[b]?=w.heap[b]?:=by
 go_enter Try.func53,Try.ntmps53
 have hu:Try.prog.underlying 27=some (.slice 42):=by kernel_rfl
 cases a with
 | none=>
  have hb:∀ w,Sem.run Try.prog (binOp .eql 27 (.slice none 0 c) (.slice none 0 0)) w=.ok (.bool true) w:=fun w=>eq_nil hu none c w
  go_wp2
  go_ret
  exact ⟨_,rfl,⟨rfl,rfl,rfl⟩,Nat.le_refl _,fun _ _=>rfl⟩
 | some a=>
  have hb:∀ w,Sem.run Try.prog (binOp .eql 27 (.slice (some a) 0 c) (.slice none 0 0)) w=.ok (.bool false) w:=fun w=>eq_nil hu (some a) c w
  go_wp2
  go_ret
  have hal:∀ o,(w.alloc o).heap=w.heap.push o:=fun _=>rfl
  exact ⟨_,rfl,⟨rfl,rfl,rfl⟩,by rw [hal,Array.size_push]; exact Nat.le_succ _,fun b hb=>by rw [hal,Array.getElem?_push,if_neg (Nat.ne_of_lt hb)]⟩
open Go.RowKit Go.Mach
def TV:Tab:=⟨fun f=>if f=34 then some x34 else none,fun _=>none,fun _=>none⟩
theorem TV_ok:TabOK Try.prog TV where
 mixed:=by kernel_rfl
 fn f af h:=by
  simp only [TV] at h
  split at h
  ·rename_i e; injection h with h; subst h e; exact ⟨_,_,Try.func34,kx34⟩
  ·cases h
 pr f p h:=by cases h
 yn:=⟨rfl,by decide⟩
theorem cloneV_run (es:List AV) (c:Bool) (bs:Nat) (σ:Heap) (hne:es≠[]) (hf:(flat es).length=es.length * 4) (hl:es.length≤10000000000) :
  evalFn TV 3 34 [.isl es c] bs σ=some (.sl (σ.length+1) 0 es.length 4 true,σ++[.cells [] 0 false,.cells (flat es) 0 true]):=by
 have hnn:notNil (.isl es c)=true:=by cases es with
  | nil=>exact absurd rfl hne
  | cons x l=>rfl
 have he0:elemsA (σ++[.cells [] 0 false]) 4 true (.sl σ.length 0 0 4 true)=some []:=by
  simp [elemsA,window,chunk]
 have he1:elemsN (σ++[.cells [] 0 false]) 4 true (.isl es c)=some es:=rfl
 have hap:appendA (σ++[.cells [] 0 false]) 4 true 56 true (.sl σ.length 0 0 4 true) (.isl es c)=some (.sl (σ.length+1) 0 es.length 4 true,σ++[.cells [] 0 false,.cells (flat es) 0 true]):=by
  have h1:¬ ((4:Nat)=0∨(0+es.length) * 56 > 70368744177664∨0+es.length > 70368744177664):=by omega
  simp only [appendA,he0,he1,Option.bind_some,isSl,if_neg hne,List.length_nil,if_neg h1]
  simp [hf]
  simp [flat]
 simp [evalFn,TV,x34,exec,runOps,startA,stepAll,stepOp,ev,hnn,onNormal,finA,resA,res1,closeRes,closeArgs,dropA,baseA,guardA,chkO,setDst,fillA,hap]
def cloneVP (args:List AV) (bs:Nat) (σ:Heap):Option (AV × Heap):=match args with
 | [.isl es c]=>if es=[] then some (.isl [] true,σ) else if (flat es).length=es.length * 4∧es.length≤10000000000 then some (.sl (σ.length+1) 0 es.length 4 true,σ++[.cells [] 0 false,.cells (flat es) 0 true]) else none
 | _=>none
theorem cloneV_ok:PrimOK Try.prog 34 cloneVP:=by
 intro args bs σ v σ' h hbs
 unfold cloneVP at h
 split at h
 ·rename_i es c
  split at h
  ·rename_i he; subst he
   injection h with h; injection h with e1 e2; subst e1 e2
   refine ⟨⟨_,Try.func34,by kernel_rfl,by kernel_rfl⟩,fun g ow w cargs hH hA=>?_⟩
   obtain ⟨cc,rfl,hx⟩:=args1 hA
   obtain ⟨ad,cap,rfl⟩:∃ ad cap,cc=.slice ad 0 cap:=by
    cases hx with
    | @isl _ _ ad c0 _ _ _ vs hc hs ha hcap hn hM hV=>exact ⟨_,_,rfl⟩
   refine (cloneV_nil ad cap w).mono ?_
   rintro e w' ⟨a',rfl,hs,hsz,hheap⟩
   obtain ⟨h1,h2⟩:=hH.more (bs:=bs) hsz hheap hs.os hs.tape hs.output
   exact ⟨_,g,ow,rfl,isl_VR (es:=[]) (b:=0) (p:=0) (s:=1) (a:=a') (c:=0) (by simp) (by omega) (.inl rfl) (fun _=>rfl) (Nat.zero_le _) (by simp [flat]),h1,h2⟩
  ·rename_i hne
   split at h
   ·rename_i hc
    injection h with h; injection h with e1 e2; subst e1 e2
    exact (eval_sound TV_ok 3).fn _ _ _ _ _ _ (by decide) (cloneV_run es c bs σ hne hc.1 hc.2) hbs
   ·cases h
 ·cases h
def TW:Tab:=⟨fun f=>if f=53 then some x53 else none,fun _=>none,fun _=>none⟩
theorem TW_ok:TabOK Try.prog TW where
 mixed:=by kernel_rfl
 fn f af h:=by
  simp only [TW] at h
  split at h
  ·rename_i e; injection h with h; subst h e; exact ⟨_,_,Try.func53,kx53⟩
  ·cases h
 pr f p h:=by cases h
 yn:=⟨rfl,by decide⟩
theorem cloneW_run (es:List AV) (c:Bool) (bs:Nat) (σ:Heap) (hne:es≠[]) (hf:(flat es).length=es.length * 3) (hl:es.length≤10000000000) :
  evalFn TW 3 53 [.isl es c] bs σ=some (.sl (σ.length+1) 0 es.length 3 true,σ++[.cells [] 0 false,.cells (flat es) 0 true]):=by
 have hnn:notNil (.isl es c)=true:=by cases es with
  | nil=>exact absurd rfl hne
  | cons x l=>rfl
 have he0:elemsA (σ++[.cells [] 0 false]) 3 true (.sl σ.length 0 0 3 true)=some []:=by
  simp [elemsA,window,chunk]
 have he1:elemsN (σ++[.cells [] 0 false]) 3 true (.isl es c)=some es:=rfl
 have hap:appendA (σ++[.cells [] 0 false]) 3 true 48 true (.sl σ.length 0 0 3 true) (.isl es c)=some (.sl (σ.length+1) 0 es.length 3 true,σ++[.cells [] 0 false,.cells (flat es) 0 true]):=by
  have h1:¬ ((3:Nat)=0∨(0+es.length) * 48 > 70368744177664∨0+es.length > 70368744177664):=by omega
  simp only [appendA,he0,he1,Option.bind_some,isSl,if_neg hne,List.length_nil,if_neg h1]
  simp [hf]
  simp [flat]
 simp [evalFn,TW,x53,exec,runOps,startA,stepAll,stepOp,ev,hnn,onNormal,finA,resA,res1,closeRes,closeArgs,dropA,baseA,guardA,chkO,setDst,fillA,hap]
def cloneWP (args:List AV) (bs:Nat) (σ:Heap):Option (AV × Heap):=match args with
 | [.isl es c]=>if es=[] then some (.isl [] true,σ) else if (flat es).length=es.length * 3∧es.length≤10000000000 then some (.sl (σ.length+1) 0 es.length 3 true,σ++[.cells [] 0 false,.cells (flat es) 0 true]) else none
 | _=>none
theorem cloneW_ok:PrimOK Try.prog 53 cloneWP:=by
 intro args bs σ v σ' h hbs
 unfold cloneWP at h
 split at h
 ·rename_i es c
  split at h
  ·rename_i he; subst he
   injection h with h; injection h with e1 e2; subst e1 e2
   refine ⟨⟨_,Try.func53,by kernel_rfl,by kernel_rfl⟩,fun g ow w cargs hH hA=>?_⟩
   obtain ⟨cc,rfl,hx⟩:=args1 hA
   obtain ⟨ad,cap,rfl⟩:∃ ad cap,cc=.slice ad 0 cap:=by
    cases hx with
    | @isl _ _ ad c0 _ _ _ vs hc hs ha hcap hn hM hV=>exact ⟨_,_,rfl⟩
   refine (cloneW_nil ad cap w).mono ?_
   rintro e w' ⟨a',rfl,hs,hsz,hheap⟩
   obtain ⟨h1,h2⟩:=hH.more (bs:=bs) hsz hheap hs.os hs.tape hs.output
   exact ⟨_,g,ow,rfl,isl_VR (es:=[]) (b:=0) (p:=0) (s:=1) (a:=a') (c:=0) (by simp) (by omega) (.inl rfl) (fun _=>rfl) (Nat.zero_le _) (by simp [flat]),h1,h2⟩
  ·rename_i hne
   split at h
   ·rename_i hc
    injection h with h; injection h with e1 e2; subst e1 e2
    exact (eval_sound TW_ok 3).fn _ _ _ _ _ _ (by decide) (cloneW_run es c bs σ hne hc.1 hc.2) hbs
   ·cases h
 ·cases h
open Go.RowKit Go.Mach
open Go.RowKit Go.Mach
open Go.Mach
def prims:List (Nat × (List AV→Nat→Heap→Option (AV × Heap))):=[
 (80,cmpP),
 (34,cloneVP),
 (53,cloneWP),
 (1000000,fun _ _ _=>none)]
noncomputable def T:Tab:=⟨fun f=>(fns.find? (·.1 == f)).map (·.2),fun f=>(prims.find? (·.1 == f)).map (·.2),rds⟩
theorem prims_ok:∀ p∈prims,PrimOK Try.prog p.1 p.2:=by
 simp only [prims,List.forall_mem_cons]
 exact ⟨
  cmp_ok,
  cloneV_ok,
  cloneW_ok,
  (fun _ _ _ _ _ h=>by cases h),fun _ h=>by cases h⟩
theorem T_ok:TabOK Try.prog T where
 mixed:=by kernel_rfl
 fn f af h:=by
  obtain ⟨p,hp,rfl⟩:=zqG.1 h
  have h1:=List.find?_some hp
  have h2:=fns_ok p (List.mem_of_find?_eq_some hp)
  have:p.1=f:=by simpa using h1
  rw [←this]; exact h2
 pr f p h:=by
  obtain ⟨q,hq,rfl⟩:=zqG.1 h
  have h1:=List.find?_some hq
  have h2:=prims_ok q (List.mem_of_find?_eq_some hq)
  have:q.1=f:=by simpa using h1
  rw [←this]; exact h2
 yn:=⟨by kernel_rfl,by kernel_rfl⟩
 rd:=rds_ok
theorem callN_T (f:Nat) (args:List AV) (bs:Nat) (σ:Heap) (h:headYld args=false):callN (callT T) f args bs σ=callT T f args bs σ:=by
 unfold callN
 split
 ·rename_i e; subst e
  rw [callT_yld T bs σ T_ok.yn.1 T_ok.yn.2]
  unfold roundA
  split
  ·cases h
  ·rfl
 ·rfl
attribute [simp] callN_T
end Go.Proofs.Ytkfiepnkedcmgaa
end
section
namespace Go.Mach
inductive GV where
 | mk (kind num:Int) (text:ByteArray) (items:List GV)
 deriving Inhabited
namespace GV
abbrev kind:GV→Int | .mk k _ _ _=>k
abbrev num:GV→Int | .mk _ n _ _=>n
abbrev text:GV→ByteArray | .mk _ _ t _=>t
abbrev items:GV→List GV | .mk _ _ _ l=>l
mutual
def enc:GV→AV
 | .mk k n t l=>.agg [.int .i64 k,.int .i64 n,.str t,.isl (encs l) false]
def encs:List GV→List AV
 | []=>[]
 | v :: l=>enc v :: encs l
end
theorem encs_map:∀ l:List GV,encs l=l.map enc
 | []=>rfl
 | v :: l=>by simp only [encs,List.map_cons,encs_map l]
@[simp] theorem encs_length (l:List GV):(encs l).length=l.length:=by simp [encs_map]
@[simp] theorem encs_get (l:List GV) (i:Nat):(encs l)[i]?=l[i]?.map enc:=by simp [encs_map]
@[simp] theorem encs_getE (l:List GV) (i:Nat) (h:i<(encs l).length):(encs l)[i]=(l[i]'(by simpa using h)).enc:=by simp [encs_map]
theorem enc_eq (v:GV):v.enc=.agg [.int .i64 v.kind,.int .i64 v.num,.str v.text,.isl (encs v.items) false]:=by cases v; simp only [enc,kind,num,text,items]
@[simp] theorem enc_fold (v:GV):AV.agg [.int .i64 v.kind,.int .i64 v.num,.str v.text,.isl (encs v.items) false]=v.enc:=(enc_eq v).symm
@[simp] theorem enc_cells (v:GV):v.enc.cells=[.int .i64 v.kind,.int .i64 v.num,.str v.text,.isl (encs v.items) false]:=by rw [enc_eq]; rfl
@[simp] theorem enc_solid (v:GV):v.enc.solid=true:=by rw [enc_eq]; rfl
@[simp] theorem enc_head (v:GV) (xs:List AV):headYld (v.enc :: xs)=false:=by rw [enc_eq]; rfl
@[simp] theorem enc_clean (v:GV):v.enc.clean=true:=by rw [enc_eq]; rfl
@[simp] theorem enc_closeR (σ:Heap) (v:GV):closeR σ v.enc=some (v.enc,σ):=by rw [enc_eq]; rfl
@[simp] theorem enc_datR (v:GV):v.enc.datR=true:=by rw [enc_eq]; rfl
@[simp] theorem enc_dat1 (v:GV):v.enc.clo1=false:=by rw [enc_eq]; rfl
@[simp] theorem enc_dat (v:GV):v.enc.dat=true:=by rw [enc_eq]; rfl
@[simp] theorem enc_clo (v:GV):v.enc.clo=true:=by rw [enc_eq]; rfl
def i64ok (n:Int):Prop:=-9223372036854775808≤n∧n≤9223372036854775807
mutual
def ok:GV→Prop
 | .mk k n _ l=>i64ok k∧i64ok n∧oks l
def oks:List GV→Prop
 | []=>True
 | v :: l=>ok v∧oks l
end
theorem oks_iff:∀ l:List GV,oks l↔∀ v∈l,ok v
 | []=>by simp [oks]
 | v :: l=>by simp [oks,oks_iff l]
mutual
def size:GV→Nat
 | .mk _ _ t l=>t.size+sizes l+5
def sizes:List GV→Nat
 | []=>0
 | v :: l=>size v+sizes l
end
end GV
structure IsV (P:Program) (tV tL tI tS:TypeId):Prop where
 fs:∃ fs:Array Field,P.underlying tV=some (.struct fs)∧fs.toList.map (·.type)=[tI,tI,tS,tL]
 int:P.underlying tI=some (.int .i64)
 str:P.underlying tS=some .string
 list:P.underlying tL=some (.slice tV)
theorem field_ty {P:Program} {fs:Array Field} {ts:List TypeId} (h:fs.toList.map (·.type)=ts) {vs:List AV} (hv:∀ (i:Nat) f x,fs.toList[i]?=some f→vs[i]?=some x→TyA P f.type x) {i:Nat} {t:TypeId} {x:AV} (ht:ts[i]?=some t) (hx:vs[i]?=some x):TyA P t x:=by
 rw [←h,List.getElem?_map] at ht
 obtain ⟨f,hf,rfl⟩:=zqG.1 ht
 exact hv i f x hf hx
end Go.Mach
end
section
namespace Go.Mach
end Go.Mach
namespace Go.Proofs.Ytkfiepnkedcmgaa
open Go.Mach
def cmpI (a b:Int):Int:=if a<b then -1 else if b<a then 1 else 0
mutual
def cmpV:GV→GV→Int
 | .mk k n t l,b=>if cmpI k b.kind≠0 then cmpI k b.kind else if k=1 then cmpI n b.num else if k=2∨k=3 then Lib.compareBytes t.data.toList b.text.data.toList else if k=4 then cmpVs l b.items else 0
def cmpVs:List GV→List GV→Int
 | [],[]=>0
 | [],_ :: _=>-1
 | _ :: _,[]=>1
 | x :: xs,y :: ys=>if cmpV x y≠0 then cmpV x y else cmpVs xs ys
end
theorem cmp68 (a b:Int):pureT T c45 [.int .i64 a,.int .i64 b]=some (.int .i64 (cmpI a b)):=by
 have h76:∀ (n:Int) bs σ,callT T 64 [.int .i64 n] bs σ=some (.bool false,σ):=fun n bs σ=>call_clean rfl rfl rfl rfl (by
  apply pure_enter (by simp [c64])
  simp [c64])
 apply pure_enter (by simp [c45])
 by_cases h1:a<b
 ·simp [c45,h76,h1,cmpI]
 ·by_cases h2:b<a
  ·simp [c45,h76,h1,h2,cmpI]
  ·simp [c45,h76,h1,h2,cmpI]
theorem call68 (a b:Int) (bs:Nat) (σ:Heap):callT T 45 [.int .i64 a,.int .i64 b] bs σ=some (.int .i64 (cmpI a b),σ):=call_clean rfl rfl rfl rfl (cmp68 a b)
theorem call73 (a b:ByteArray) (bs:Nat) (σ:Heap):callT T 80 [.str a,.str b] bs σ=some (.int .i64 (Lib.compareBytes a.data.toList b.data.toList),σ):=callT_pr (p:=cmpP) _ _ _ rfl _
theorem call56 (a b:ByteArray) (bs:Nat) (σ:Heap):callT T 68 [.str a,.str b] bs σ=some (.int .i64 (Lib.compareBytes a.data.toList b.data.toList),σ):=call_clean rfl rfl rfl rfl (by
 apply pure_enter (by simp [c68])
 simp [c68,call73])
theorem cmpVs_nil (l:List GV):cmpVs [] l=if l=[] then 0 else -1:=by cases l <;> simp [cmpVs]
theorem cmpFunc (l l2:List GV) (hn:l.length≤100000000000) (h:∀ x∈l,∀ y∈l2,∀ bs σ,callT T 70 [x.enc,y.enc] bs σ=some (.int .i64 (cmpV x y),σ)) :
  pureT T c69 [.isl (GV.encs l) false,.isl (GV.encs l2) false,.func 70 []]=some (.int .i64 (cmpVs l l2)):=by
 apply pure_enter (by simp [c69])
 simp [c69]
 refine W_upto T 0 39 l.length (fun i f σ=>f 11=.isl (GV.encs l) false∧f 12=.int .i64 (l.length:Int)∧f 13=.int .i64 (i:Int)∧f 0=.isl (GV.encs l) false∧f 1=.isl (GV.encs l2) false∧f 2=.func 70 []∧i≤l2.length∧cmpVs l l2=cmpVs (l.drop i) (l2.drop i)) ?_ _ _ ?_
 ·rintro i f σ Q' hi ⟨h11,h12,h13,h0,h1,h2,hi2,hcmp⟩ hnx hx
  by_cases hlt:i<l.length
  ·by_cases hlt2:i<l2.length
   ·have e1:l[i]?=some l[i]:=zqF hlt
    have e2:l2[i]?=some l2[i]:=zqF hlt2
    have hc:=h l[i] (zqT hlt) l2[i] (zqT hlt2)
    have hd:l.drop i=l[i] :: l.drop (i+1):=(zqM hlt)
    have hd2:l2.drop i=l2[i] :: l2.drop (i+1):=(zqM hlt2)
    by_cases hz:cmpV l[i] l2[i]=0
    ·simp [h11,h12,h13,h0,h1,h2,hlt,hlt2,Nat.not_le.2 hlt2,hc,hz]
     refine hnx _ _ hlt ⟨by simp [h11],by simp [h12],?_,by simp [h0],by simp [h1],by simp [h2],hlt2,?_⟩
     ·simp; rw [wr64 (by omega) (by omega)]
     ·rw [hcmp,hd,hd2,cmpVs]; simp [hz]
    ·simp [h11,h12,h13,h0,h1,h2,hlt,hlt2,Nat.not_le.2 hlt2,hc,hz]
     refine hx _ _ _ (by simp) (contQ_ret T 0 39 ?_)
     rw [hcmp,hd,hd2,cmpVs]; simp [hz]
   ·have e1:l[i]?=some l[i]:=zqF hlt
    have hd:l.drop i=l[i] :: l.drop (i+1):=(zqM hlt)
    have hd2:l2.drop i=[]:=List.drop_eq_nil_of_le (by omega)
    simp [h11,h12,h13,h0,h1,h2,hlt,Nat.not_lt.1 hlt2]
    refine hx _ _ _ (by simp) (contQ_ret T 0 39 ?_)
    rw [hcmp,hd,hd2,cmpVs]; simp
  ·have he:i=l.length:=by omega
   subst he
   simp [h12,h13]
   refine hx _ _ _ (by simp) (contQ_exit T 0 39 ?_)
   have hd:l.drop l.length=[]:=List.drop_length
   rw [hcmp,hd,cmpVs_nil]
   by_cases hlt2:l.length<l2.length
   ·have hne:l2.drop l.length≠[]:=by simp; omega
    simp [h0,h1,hlt2,hne]
   ·have hne:l2.drop l.length=[]:=by simp; omega
    simp [h0,h1,hlt2,hne]
 ·simp
theorem sizes_mem {l:List GV} {x:GV} (h:x∈l):x.size+5≤GV.sizes l+5∧l.length≤GV.sizes l:=by
 induction l with
 | nil=>cases h
 | cons y l ih=>
  have hy:5≤y.size:=by cases y; simp [GV.size]
  rcases List.mem_cons.1 h with rfl | h
  ·refine ⟨by simp [GV.sizes],?_⟩
   have:∀ l:List GV,l.length≤GV.sizes l:=fun l=>by
    induction l with
    | nil=>simp [GV.sizes]
    | cons z l ih=>have:5≤z.size:=(by cases z; simp [GV.size]); simp [GV.sizes]; omega
   have:=this l
   simp [GV.sizes]; omega
  ·obtain ⟨h1,h2⟩:=ih h
   simp [GV.sizes]; omega
theorem len_sizes (l:List GV):l.length≤GV.sizes l:=by
 cases l with
 | nil=>simp
 | cons x l=>exact (sizes_mem (List.mem_cons_self (a:=x) (l:=l))).2
theorem cmp58:∀ (n:Nat) (a b:GV),a.size≤n→n≤100000000000→pureT T c70 [a.enc,b.enc]=some (.int .i64 (cmpV a b)):=by
 intro n
 induction n with
 | zero=>intro a b h; cases a; simp [GV.size] at h
 | succ n ih=>
  intro a b hs hn
  obtain ⟨k,num,t,l⟩:=a
  obtain ⟨k2,num2,t2,l2⟩:=b
  have hl:GV.sizes l≤n:=by simp [GV.size] at hs; omega
  have hcall:∀ x∈l,∀ y∈l2,∀ bs σ,callT T 70 [x.enc,y.enc] bs σ=some (.int .i64 (cmpV x y),σ):=fun x hx y _ bs σ=>
   call_clean rfl rfl rfl (by simp) (ih x y (by have:=(sizes_mem hx).1; omega) (by omega))
  have hf:∀ bs σ,callT T 69 [.isl (GV.encs l) false,.isl (GV.encs l2) false,.func 70 []] bs σ=some (.int .i64 (cmpVs l l2),σ):=fun bs σ=>
   call_clean rfl rfl rfl rfl (cmpFunc l l2 (by have:=len_sizes l; omega) hcall)
  apply pure_enter (by simp [c70])
  by_cases h0:cmpI k k2=0
  ·by_cases h1:k=1
   ·subst h1; simp [c70,GV.enc_eq,GV.kind,GV.num,GV.text,GV.items,call68,h0,cmpV]
   ·by_cases h2:k=2
    ·subst h2; simp [c70,GV.enc_eq,GV.kind,GV.num,GV.text,GV.items,call68,call56,h0,cmpV]
    ·by_cases h3:k=3
     ·subst h3; simp [c70,GV.enc_eq,GV.kind,GV.num,GV.text,GV.items,call68,call56,h0,cmpV]
     ·by_cases h4:k=4
      ·subst h4; simp [c70,GV.enc_eq,GV.kind,GV.num,GV.text,GV.items,call68,hf,h0,cmpV]
      ·simp [c70,GV.enc_eq,GV.kind,GV.num,GV.text,GV.items,call68,h0,h1,h2,h3,h4,cmpV]
  ·simp [c70,GV.enc_eq,GV.kind,GV.num,GV.text,GV.items,call68,h0,cmpV]
open Go.Mach
theorem refLt2_bool (n:Nat) (b:Bool):refLt2 n (.bool b)=true:=rfl
theorem refLt2_int (n:Nat) (k:IntKind) (m:Int):refLt2 n (.int k m)=true:=rfl
open Go.Mach
def plainB (c:Nat):Bool:=decide (32≤c) && decide (c≤126) && !decide (c=34) && !decide (c=92)
def textOK (t:ByteArray):Bool:=t.data.toList.all (fun c=>plainB c.toNat) && decide (t.size≤32)
def letterB (c:Nat):Bool:=decide (97≤c) && decide (c≤122)
def innerB (c:Nat):Bool:=letterB c || decide (c=95) || (decide (48≤c) && decide (c≤57))
def nameL:List UInt8→Bool
 | []=>false
 | c :: l=>letterB c.toNat && l.all (fun c=>innerB c.toNat)
def nameOK (t:ByteArray):Bool:=nameL t.data.toList && decide (t.size≤16)
def rightB (v:GV) (lst:Bool):Bool:=
 if v.kind=1 then decide (v.text=⟨#[]⟩∧v.items=[]∧v.num≤2147483647∧-2147483647≤v.num)
 else if v.kind=2 then decide (v.num=0∧v.items=[]∧textOK v.text=true)
 else if v.kind=3 then decide (v.num=0∧v.items=[]∧nameOK v.text=true)
 else if v.kind=4 then decide (v.num=0∧v.text=⟨#[]⟩∧lst=true)
 else false
def rightV:Nat→GV→Bool
 | 0,v=>rightB v false
 | d+1,v=>rightB v (decide (v.items.length≤16∧v.items.all (rightV d)=true))
def bt (s:ByteArray) (i:Nat):Nat:=((s.data.toList[i]?).getD 0).toNat
theorem bt_eq {s:ByteArray} {i:Nat} (h:i<s.size):bt s i=(s.data.toList[i]'(by simpa using h)).toNat:=by
 simp only [bt]; rw [zqF (by simpa using h)]; rfl
theorem all_bt (s:ByteArray) (p:Nat→Bool):s.data.toList.all (fun c=>p c.toNat)=true↔∀ i,i<s.size→p (bt s i)=true:=by
 rw [zqQ]
 constructor
 ·intro h i hi
  rw [bt_eq hi]; exact h _ (zqT _)
 ·intro h c hc
  obtain ⟨i,hi,rfl⟩:=zqS hc
  have hi':i<s.size:=by simpa using hi
  have:=h i hi'
  rwa [bt_eq hi'] at this
theorem ba_empty (t:ByteArray):t=ByteArray.empty↔t.size=0:=⟨fun h=>by rw [h]; rfl,fun h=>ByteArray.ext (Array.eq_empty_of_size_eq_zero h)⟩
theorem ba_nil (t:ByteArray):t=⟨#[]⟩↔t.size=0:=⟨fun h=>by rw [h]; rfl,fun h=>ByteArray.ext (Array.eq_empty_of_size_eq_zero h)⟩
theorem ba_get {s:ByteArray} {i:Nat} (h:i<s.size):s[i]'h=s.data.toList[i]'(by simpa using h):=by
 cases s; rfl
theorem dec_lo {s:ByteArray} {i:Nat} (h:i<s.size) (ha:bt s i<128):Utf8.decode s i=(bt s i,1):=by
 rw [bt_eq h] at ha ⊢
 have:=decode_ascii s i h (by rw [ba_get h]; exact ha)
 rw [this,ba_get h]
theorem dec_hi {s:ByteArray} {i:Nat} (h:i<s.size) (ha:128≤bt s i):128≤(Utf8.decode s i).1:=by
 rw [bt_eq h] at ha
 exact (decode_high s i h (by rw [ba_get h]; exact ha)).1
theorem textOK_iff (t:ByteArray):textOK t=true↔(∀ i,i<t.size→plainB (bt t i)=true)∧t.size≤32:=by
 rw [textOK,zqL,all_bt t plainB,decide_eq_true_eq]
theorem textOK_no {t:ByteArray} {i:Nat} (h:i<t.size) (hp:plainB (bt t i)=false):textOK t=false:=by
 rw [Bool.eq_false_iff,Ne,textOK_iff]; intro hh; rw [hh.1 i h] at hp; cases hp
theorem plain_ok (t:ByteArray) (ht:t.size≤100000000000):pureT T c85 [.str t]=some (.bool (textOK t)):=by
 apply pure_enter (by simp [c85])
 simp [c85]
 refine W_for T 0 27 t.size (fun i f σ=>f 0=.str t∧f 6=.ptr 0 0∧σ=[.iter t i]∧∀ j,j<i→plainB (bt t j)=true) ?_ _ _ ?_
 ·rintro i f σ hi ⟨h0,h6,rfl,hall⟩
  by_cases hlt:i<t.size
  ·by_cases hlo:bt t i<128
   ·simp [h0,h6,hlt,dec_lo hlt hlo]
    have hno:=@textOK_no t i hlt
    refine ⟨fun h=>hno (by simp [plainB]; omega),fun h=>⟨fun h=>hno (by simp [plainB]; omega),fun h=>⟨fun h=>hno (by simp [plainB]; omega),fun h=>⟨fun h=>hno (by simp [plainB]; omega),fun h j hj=>?_⟩⟩⟩⟩
    by_cases e:j=i
    ·subst e; simp [plainB]; omega
    ·exact hall j (by omega)
   ·have:=dec_hi hlt (by omega)
    simp [h0,h6,hlt]
    have hno:=@textOK_no t i hlt
    refine ⟨fun h=>by omega,fun h=>⟨fun h=>hno (by simp [plainB]; omega),fun h=>by omega⟩⟩
  ·have he:i=t.size:=by omega
   subst he
   simp [h0,h6]
   refine ⟨fun h=>?_,fun h=>?_⟩
   ·exact (textOK_iff t).2 ⟨fun i hi=>hall i hi,by omega⟩
   ·refine Bool.eq_false_iff.2 fun hh=>?_
    have:=((textOK_iff t).1 hh).2
    omega
 ·simp
def nameG (s:ByteArray) (i:Nat):Bool:=if i=0 then letterB (bt s i) else innerB (bt s i)
theorem nameG_iff (s:ByteArray) (i:Nat):nameG s i=true↔(97≤bt s i∧bt s i≤122)∨(i≠0∧(bt s i=95∨(48≤bt s i∧bt s i≤57))):=by
 unfold nameG
 split
 ·simp [letterB]; omega
 ·simp [letterB,innerB]; omega
theorem nameOK_iff (t:ByteArray):nameOK t=true↔(∀ i,i<t.size→nameG t i=true)∧t.size≠0∧t.size≤16:=by
 have hs:t.data.toList.length=t.size:=by simp
 simp only [nameOK,zqL,decide_eq_true_eq]
 match hl:t.data.toList with
 | []=>
  rw [hl] at hs; simp at hs
  simp only [nameL,Bool.false_eq_true,false_and,false_iff]; omega
 | c :: l=>
  rw [hl] at hs; simp at hs
  have hb:∀ i,bt t i=(((c :: l)[i]?).getD 0).toNat:=fun i=>by simp only [bt,hl]
  simp only [nameL,zqL,zqQ]
  constructor
  ·rintro ⟨⟨h1,h2⟩,h3⟩
   refine ⟨fun i hi=>?_,by omega,h3⟩
   unfold nameG
   cases i with
   | zero=>simp [hb,h1]
   | succ i=>
    have hi':i<l.length:=by omega
    simp [hb,zqF hi',h2 l[i] (zqT hi')]
  ·rintro ⟨h1,h2,h3⟩
   refine ⟨⟨?_,fun x hx=>?_⟩,h3⟩
   ·have:=h1 0 (by omega)
    simpa [nameG,hb] using this
   ·obtain ⟨i,hi,rfl⟩:=zqS hx
    have:=h1 (i+1) (by omega)
    simpa [nameG,hb,zqF hi] using this
theorem nameOK_no {t:ByteArray} {i:Nat} (h:i<t.size) (hp:¬ ((97≤bt t i∧bt t i≤122)∨(i≠0∧(bt t i=95∨(48≤bt t i∧bt t i≤57))))):nameOK t=false:=by
 rw [←nameG_iff] at hp
 rw [Bool.eq_false_iff,Ne,nameOK_iff]; intro hh; exact hp (hh.1 i h)
theorem name_ok (t:ByteArray) (ht:t.size≤100000000000):pureT T c23 [.str t]=some (.bool (nameOK t)):=by
 apply pure_enter (by simp [c23])
 simp [c23]
 refine W_for T 0 43 t.size (fun i f σ=>f 0=.str t∧f 7=.ptr 0 0∧σ=[.iter t i]∧∀ j,j<i→nameG t j=true) ?_ _ _ ?_
 ·rintro i f σ hi ⟨h0,h6,rfl,hall⟩
  by_cases hlt:i<t.size
  ·have hno:=@nameOK_no t i hlt
   have hyes:_→∀ j,j<i+1→nameG t j=true:=fun h j hj=>by
    by_cases e:j=i
    ·subst e; exact (nameG_iff t j).2 h
    ·exact hall j (by omega)
   by_cases hlo:bt t i<128
   ·simp [h0,h6,hlt,dec_lo hlt hlo]
    repeat' (first | apply And.intro | intro _)
    all_goals first | exact hno (by omega) | exact hyes (by omega) _ (by assumption)
   ·have:=dec_hi hlt (by omega)
    simp [h0,h6,hlt]
    repeat' (first | apply And.intro | intro _)
    all_goals first | exact hno (by omega) | omega
  ·have he:i=t.size:=by omega
   subst he
   have hb:(nameOK t=true)↔t.size≠0∧t.size≤16:=by rw [nameOK_iff]; exact ⟨fun h=>h.2,fun h=>⟨fun i hi=>hall i hi,h⟩⟩
   simp [h0,h6,ba_empty,ba_nil,-ByteArray.size_eq_zero_iff]
   refine ⟨fun h=>⟨fun h2=>hb.2 ⟨h,by omega⟩,fun h2=>?_⟩,fun h=>?_⟩
   all_goals (refine Bool.eq_false_iff.2 fun hh=>?_; have:=hb.1 hh; omega)
 ·simp
theorem empty_ok (k n:Int) (t:ByteArray) (es:List AV):pureT T c84 [.agg [.int .i64 k,.int .i64 n,.str t,.isl es false]]=some (.bool (decide (k=0) && decide (n=0) && decide (t=⟨#[]⟩) && decide (es=[]))):=by
 apply pure_enter (by simp [c84])
 simp [c84]
 repeat' (first | apply And.intro | intro _)
 all_goals simp_all
theorem call_empty (k n:Int) (t:ByteArray) (es:List AV) (c:Bool) (bs:Nat) (σ:Heap):callT T 84 [.agg [.int .i64 k,.int .i64 n,.str t,.isl es c]] bs σ=some (.bool (sym (decide (k=0) && decide (n=0) && decide (t=⟨#[]⟩) && decide (es=[]))),σ):=
 call_scal rfl rfl rfl (empty_ok k n t es) rfl rfl rfl
def idxI (p:GV→Bool) (l:List GV):Int:=match l.findIdx? p with
 | some i=>(i:Int)
 | none=>-1
theorem findIdx_drop (p:GV→Bool) (l:List GV) (i:Nat) (hi:i<l.length) (h:∀ j,(hj:j<l.length)→j<i→p l[j]=false) (hp:p l[i]=true):l.findIdx? p=some i:=by
 rw [List.findIdx?_eq_some_iff_getElem]
 exact ⟨hi,hp,fun j hj=>by rw [h j (by omega) hj]; simp⟩
theorem index_ok (p:GV→Bool) (l:List GV) (g:Nat) (caps:List AV) (hl:l.length≤100000000000) (hc:∀ x∈l,∀ bs σ,callT T g (x.enc :: caps) bs σ=some (.bool (p x),σ)) :
  pureT T c89 [.isl (GV.encs l) false,.func g caps]=some (.int .i64 (idxI p l)):=by
 apply pure_enter (by simp [c89])
 simp [c89]
 refine W_for T 0 19 l.length (fun i f σ=>f 0=.isl (GV.encs l) false∧f 1=.func g caps∧f 7=.int .i64 (l.length:Int)∧f 8=.int .i64 (i:Int)∧∀ j,(hj:j<l.length)→j<i→p l[j]=false) ?_ _ _ ?_
 ·rintro i f σ hi ⟨h0,h1,h7,h8,hall⟩
  by_cases hlt:i<l.length
  ·have e1:l[i]?=some l[i]:=zqF hlt
   have hcl:=hc l[i] (zqT hlt)
   cases hp:p l[i]
   ·simp [h0,h1,h7,h8,hlt,hcl,hp]
    refine ⟨wr64 (by omega) (by omega),fun j hj hji=>?_⟩
    by_cases e:j=i
    ·subst e; exact hp
    ·exact hall j hj (by omega)
   ·simp [h0,h1,h7,h8,hlt,hcl,hp]
    simp [idxI,findIdx_drop p l i hlt hall hp]
  ·have he:i=l.length:=by omega
   subst he
   have hn:l.findIdx? p=none:=by
    rw [List.findIdx?_eq_none_iff]
    intro x hx
    obtain ⟨j,hj,rfl⟩:=zqS hx
    exact hall j hj hj
   simp [h0,h1,h7,h8,idxI,hn]
 ·simp
theorem contains_ok (p:GV→Bool) (l:List GV) (g:Nat) (caps:List AV) (hcl:caps.all AV.cleanC=true) (hl:l.length≤100000000000) (hc:∀ x∈l,∀ bs σ,callT T g (x.enc :: caps) bs σ=some (.bool (p x),σ)) :
  pureT T c86 [.isl (GV.encs l) false,.func g caps]=some (.bool (l.any p)):=by
 have h1:∀ bs σ,callT T 89 [.isl (GV.encs l) false,.func g caps] bs σ=some (.int .i64 (idxI p l),σ):=fun bs σ=>call_clean rfl rfl rfl (by simp [hcl]) (index_ok p l g caps hl hc)
 apply pure_enter (by simp [c86])
 have h2:(0≤idxI p l)↔l.any p=true:=by
  unfold idxI
  cases h:l.findIdx? p with
  | none=>rw [List.findIdx?_eq_none_iff] at h; simp only [List.any_eq_true]; exact ⟨fun h=>by omega,fun ⟨x,hx,hp⟩=>by rw [h x hx] at hp; cases hp⟩
  | some i=>
   rw [List.findIdx?_eq_some_iff_getElem] at h
   obtain ⟨hi,hp,_⟩:=h
   exact ⟨fun _=>List.any_eq_true.2 ⟨_,zqT hi,hp⟩,fun _=>by simp⟩
 simp [c86,h1]
 refine ⟨fun h=>by simpa using h2.1 h,fun h=>?_⟩
 have:¬ l.any p=true:=fun hh=>by have:=h2.2 hh; omega
 simpa using this
theorem plain_call (t:ByteArray) (ht:t.size≤100000000000) (bs:Nat) (σ:Heap):callT T 85 [.str t] bs σ=some (.bool (sym (textOK t)),σ):=call_clean rfl rfl rfl rfl (plain_ok t ht)
theorem name_call (t:ByteArray) (ht:t.size≤100000000000) (bs:Nat) (σ:Heap):callT T 23 [.str t] bs σ=some (.bool (sym (nameOK t)),σ):=call_clean rfl rfl rfl rfl (name_ok t ht)
theorem encs_nil (l:List GV):GV.encs l=[]↔l=[]:=by cases l <;> simp [GV.encs]
theorem right_base (d:Nat) (lst:Bool) (k n:Int) (t:ByteArray) (l:List GV) (ht:t.size≤100000000000) (hk:k≠4) :
  pureT T c81 [(GV.mk k n t l).enc,.int .i64 d]=some (.bool (rightB (GV.mk k n t l) lst)):=by
 have hp:=plain_call t ht
 have hn:=name_call t ht
 apply pure_enter (by simp [c81])
 by_cases h1:k=1
 ·subst h1; simp [c81,GV.enc_eq,GV.kind,GV.num,GV.text,GV.items,call_empty,rightB,setRun,encs_nil]
  repeat' (first | apply And.intro | intro _)
  all_goals grind
 by_cases h2:k=2
 ·subst h2; simp [c81,GV.enc_eq,GV.kind,GV.num,GV.text,GV.items,call_empty,rightB,setRun,hp,encs_nil]
  repeat' (first | apply And.intro | intro _)
  all_goals grind
 by_cases h3:k=3
 ·subst h3; simp [c81,GV.enc_eq,GV.kind,GV.num,GV.text,GV.items,call_empty,rightB,setRun,hn,encs_nil]
  repeat' (first | apply And.intro | intro _)
  all_goals grind
 simp [c81,GV.enc_eq,GV.kind,GV.num,GV.text,GV.items,call_empty,rightB,setRun,h1,h2,h3,hk]
theorem right_ok:∀ (d:Nat) (v:GV),d≤100→v.size≤100000000000→pureT T c81 [v.enc,.int .i64 d]=some (.bool (rightV d v)):=by
 intro d
 induction d with
 | zero=>
  intro v hd hs
  obtain ⟨k,n,t,l⟩:=v
  simp only [GV.size] at hs
  by_cases h4:k=4
  ·subst h4
   apply pure_enter (by simp [c81])
   simp [c81,GV.enc_eq,GV.kind,GV.num,GV.text,GV.items,call_empty,rightV,rightB,setRun]
  exact right_base 0 _ k n t l (by omega) h4
 | succ d ih=>
  intro v hd hs
  obtain ⟨k,n,t,l⟩:=v
  simp only [GV.size] at hs
  by_cases h4:k=4
  ·subst h4
   have hw:IntKind.i64.wrap (d:Int)=(d:Int):=wr64 (by omega) (by omega)
   have hcl:∀ x∈l,∀ bs σ,callT T 87 [x.enc,.iptr [.int .i64 ((d:Int)+1)] 0] bs σ=some (.bool (!rightV d x),σ):=fun x hx bs σ=>by
    have hr:∀ bs σ,callT T 81 [x.enc,.int .i64 d] bs σ=some (.bool (rightV d x),σ):=fun bs σ=>call_clean rfl rfl rfl (by simp) (ih x (by omega) (by have:=(sizes_mem hx).1; omega))
    refine call_clean rfl rfl rfl (by simp) (?_:pureT T c87 [x.enc,.iptr [.int .i64 ((d:Int)+1)] 0]=_)
    apply pure_enter (by simp [c87])
    simp [c87,hr,hw]
   have hlen:=len_sizes l
   have hcont:∀ bs A C,callT T 86 [.isl (GV.encs l) false,.func 87 [.ptr 1 0]] bs [A,.cells [.int .i64 ((d:Int)+1)] 0 false,C]=some (.bool (sym (l.any fun x=>!rightV d x)),[A,.cells [.int .i64 ((d:Int)+1)] 0 false,C]):=fun bs A C=>
    call_scal rfl rfl rfl (contains_ok _ l 87 [.iptr [.int .i64 ((d:Int)+1)] 0] (by simp) (by omega) hcl) rfl (by simp) (by simp [frz]; rfl)
   apply pure_enter (by simp [c81])
   simp [c81,GV.enc_eq,GV.kind,GV.num,GV.text,GV.items,call_empty,rightV,rightB,setRun,hcont,encs_nil]
   repeat' (first | apply And.intro | intro _)
   all_goals grind
  exact right_base _ _ k n t l (by omega) h4
open Go.Mach
abbrev rightT (v:GV):Bool:=rightV 4 v
theorem valRight_ok (v:GV) (hs:v.size≤100000000000):pureT T c75 [v.enc]=some (.bool (rightT v)):=by
 have hr:∀ bs σ,callT T 81 [v.enc,.int .i64 4] bs σ=some (.bool (sym (rightT v)),σ):=fun bs σ=>call_clean rfl rfl rfl (by simp) (right_ok 4 v (by omega) hs)
 apply pure_enter (by simp [c75])
 simp [c75,hr]
theorem valRight (v:GV) (hs:v.size≤100000000000) (bs:Nat) (σ:Heap):callT T 75 [v.enc] bs σ=some (.bool (sym (rightT v)),σ):=call_clean rfl rfl rfl (by simp) (valRight_ok v hs)
theorem valCmp (a b:GV) (hs:a.size≤100000000000) (bs:Nat) (σ:Heap):callT T 70 [a.enc,b.enc] bs σ=some (.int .i64 (cmpV a b),σ):=call_clean rfl rfl rfl (by simp) (cmp58 a.size a b (Nat.le_refl _) hs)
end Go.Proofs.Ytkfiepnkedcmgaa
end
section
namespace Go.Mach
def bv (l:List UInt8):List AV:=l.map fun b=>.int .u8 (b.toNat:Int)
theorem u8s_bv (s:ByteArray):u8s s=bv s.data.toList:=rfl
@[simp] theorem bv_length (l:List UInt8):(bv l).length=l.length:=by simp [bv]
theorem bv_set (l:List UInt8) (i:Nat) (b:UInt8):(bv l).set i (.int .u8 (b.toNat:Int))=bv (l.set i b):=by simp [bv,List.map_set]
theorem bv_win {l:List UInt8} {i:Nat} (h:i<l.length):window (bv l) i 1=some [.int .u8 (l[i].toNat:Int)]:=by
 unfold window
 rw [if_pos (by simp; omega)]
 congr 1
 apply List.ext_getElem?
 intro j
 rw [List.getElem?_take,List.getElem?_drop]
 cases j with
 | zero=>simp [bv,h]
 | succ j=>simp
theorem bv_all (l:List UInt8):window (bv l) 0 l.length=some (bv l):=by
 unfold window
 rw [if_pos (by simp)]
 rw [List.drop_zero,List.take_of_length_le (by simp)]
theorem chunk_one:∀ l:List AV,chunk 1 false l.length l=some l
 | []=>rfl
 | x :: l=>by simp [chunk_one l]
theorem bytesA_bv (l:List UInt8):bytesA (bv l)=some ⟨l.toArray⟩:=by
 have:(bv l).mapM ofU8=some l:=by
  induction l with
  | nil=>rfl
  | cons b l ih=>
   show (AV.int .u8 (b.toNat:Int) :: bv l).mapM ofU8=some (b :: l)
   rw [List.mapM_cons,ih]
   simp [ofU8]
 unfold bytesA; rw [this]; rfl
theorem elems_bv {σ:Heap} {id:Nat} {l:List UInt8} {fz:Nat} {ext:Bool} {n:Nat} (h:σ[id]?=some (.cells (bv l) fz ext)) (hn:n=l.length):elemsA σ 1 false (.sl id 0 n 1 false)=some (bv l):=by
 subst hn
 simp only [elemsA,h,Nat.mul_one,bv_all,Option.bind_some]
 have:=chunk_one (bv l)
 rwa [bv_length] at this
theorem b2s_bv {σ:Heap} {id:Nat} {l:List UInt8} {fz:Nat} {ext:Bool} {n:Nat} (h:σ[id]?=some (.cells (bv l) fz ext)) (hn:n=l.length):b2sV σ (.sl id 0 n 1 false)=some (.str ⟨l.toArray⟩):=by
 simp [b2sV,isSl,elems_bv h hn,bytesA_bv]
theorem setRun_one (cs:List AV) (i:Nat) (v:AV):setRun cs i [v]=cs.set i v:=rfl
def mp {α:Type} (g:α→α) (l:List α) (i:Nat):List α:=(l.take i).map g++l.drop i
section
variable {α:Type} {g:α→α} {l:List α} {i:Nat}
@[simp] theorem mp_len:(mp g l i).length=l.length:=by simp [mp]; omega
theorem mp_zero:mp g l 0=l:=by simp [mp]
theorem mp_all:mp g l l.length=l.map g:=by simp [mp]
theorem mp_get (h:i<l.length):(mp g l i)[i]'(by simpa using h)=l[i]:=by
 simp only [mp]
 rw [List.getElem_append_right (by simp; omega)]
 simp [Nat.min_eq_left (Nat.le_of_lt h)]
theorem mp_set (h:i<l.length):(mp g l i).set i (g l[i])=mp g l (i+1):=by
 simp only [mp]
 rw [List.set_append_right _ _ (by simp; omega)]
 have:i - ((l.take i).map g).length=0:=by simp; omega
 rw [this,zqM h,List.set_cons_zero,List.take_add_one,zqF h,List.map_append]
 simp
end
end Go.Mach
namespace Go.Proofs.Ytkfiepnkedcmgaa
open Go.Mach
def pickN (c:Int) (n:Nat):Nat:=((if c<0 then -(c+1) else c).toNat) % n
theorem pickN_lt {c:Int} {n:Nat} (h:0<n):pickN c n<n:=Nat.mod_lt _ h
theorem pick_eq (c:Int) (n:Nat) (h:0<n) (h1:-9223372036854775808≤c) (h2:c≤9223372036854775807) :
  ((if c<0 then IntKind.i64.wrap (0 - IntKind.i64.wrap (c+1)) else c).tmod n)=(pickN c n:Int):=by
 by_cases hc:c<0
 ·rw [if_pos hc,wr64 (n:=c+1) (by omega) (by omega),wr64 (by omega) (by omega)]
  simp only [pickN,if_pos hc]
  have:(0 - (c+1):Int)=(((-(c+1)).toNat:Nat):Int):=by omega
  rw [this]; rfl
 ·rw [if_neg hc]
  simp only [pickN,if_neg hc]
  have:c=((c.toNat:Nat):Int):=by omega
  rw [this,Int.toNat_natCast]; rfl
theorem pick1_ok (c n:Int) (h:n≠0):pureT T c73 [.int .i64 c,.int .i64 n]=some (.int .i64 ((if c<0 then IntKind.i64.wrap (0 - IntKind.i64.wrap (c+1)) else c).tmod n)):=by
 apply pure_enter (by simp [c73])
 by_cases hc:c<0
 ·simp [c73,hc,h]
 ·simp [c73,hc,h]
theorem pick1 (c:Int) (n:Nat) (h:0<n) (h1:GV.i64ok c) (bs:Nat) (σ:Heap) :
  callT T 73 [.int .i64 c,.int .i64 (n:Int)] bs σ=some (.int .i64 (pickN c n:Int),σ):=by
 refine call_clean rfl rfl rfl rfl ?_
 rw [pick1_ok c n (by omega),pick_eq c n h h1.1 h1.2]
theorem pick4 (c:Int) (h1:GV.i64ok c) (bs:Nat) (σ:Heap):callT T 73 [.int .i64 c,.int .i64 4] bs σ=some (.int .i64 (pickN c 4:Int),σ):=pick1 c 4 (by omega) h1 bs σ
theorem pickM (c:Int) (h1:GV.i64ok c) (bs:Nat) (σ:Heap):callT T 73 [.int .i64 c,.int .i64 4294967295] bs σ=some (.int .i64 (pickN c 4294967295:Int),σ):=pick1 c 4294967295 (by omega) h1 bs σ
def nameC (b:UInt8):UInt8:=if b.toNat % 37<26 then UInt8.ofNat (97+b.toNat % 37) else if b.toNat % 37<36 then UInt8.ofNat (22+b.toNat % 37) else 95
def nameFit (s:ByteArray):ByteArray:=⟨(110 :: (s.data.toList.take 15).map nameC).toArray⟩
theorem tm (n m:Nat):((n:Int)).tmod (m:Int)=((n % m:Nat):Int):=rfl
theorem u8of {n:Nat} (h:n<256):((UInt8.ofNat n).toNat:Int)=(n:Int):=by rw [UInt8.toNat_ofNat',Nat.mod_eq_of_lt h]
theorem lawName_ok (s:ByteArray) (hs:s.size≤100000000000):pureT T c74 [.str s]=some (.str (nameFit s)):=by
 apply pure_enter (by simp [c74])
 obtain ⟨m,hm,hmin⟩:∃ m:Nat,m=min s.size 15∧(if (15:Int)<(s.size:Int) then (15:Int) else (s.size:Int))=(m:Int):=⟨_,rfl,by split <;> omega⟩
 generalize hl:s.data.toList.take m=l
 have hll:l.length=m:=by rw [←hl]; simp; omega
 have hcat:u8s (⟨#[110]⟩++s.extract 0 m)=bv (110 :: l):=by
  rw [u8s_bv]; congr 1; rw [←hl]; simp [ByteArray.data_append,ByteArray.data_extract]
 have hsz:(⟨#[110]⟩++s.extract 0 m:ByteArray).size=m+1:=by
  have:=congrArg List.length hcat
  rw [u8s_len] at this; rw [this]; simp [hll]
 have hle:m≤s.size:=by omega
 have hadd:(1:Int)+(m:Int)≤9223372036854775807:=by omega
 have hone:(⟨#[110]⟩:ByteArray).size=1:=rfl
 have hfit:nameFit s=⟨(110 :: l.map nameC).toArray⟩:=by
  simp only [nameFit]
  rw [←hl,hm]
  congr 3
  rcases Nat.lt_or_ge s.size 15 with h | h
  ·rw [List.take_of_length_le (by simp; omega),List.take_of_length_le (by simp; omega)]
  ·rw [Nat.min_eq_right h]
 simp [c74,hmin,hcat,hle,hadd,hsz,hone]
 subst hll
 refine W_for T 0 44 l.length (fun i f σ=>f 3=.sl 0 0 (l.length+1) 1 false∧f 4=.int .i64 ((i:Int)+1)∧σ=[.cells (bv (110 :: mp nameC l i)) 0 true]) ?_ _ _ ?_
 ·rintro i f σ hi ⟨h3,h4,rfl⟩
  by_cases hlt:i<l.length
  ·have hw:IntKind.i64.wrap ((i:Int)+1+1)=(i:Int)+1+1:=wr64 (by omega) (by omega)
   have hc2:(0:Int)≤(i:Int)+1:=by omega
   have hc3:((i:Int)+1).toNat=i+1:=by omega
   have hc4:i+1≤l.length:=hlt
   have hwin:=bv_win (l:=110 :: mp nameC l i) (i:=i+1) (by simp; omega)
   simp [mp_get hlt] at hwin
   have htm:((l[i].toNat:Int)).tmod 37=((l[i].toNat % 37:Nat):Int):=rfl
   have hfin:∀ v:Int,v=((nameC l[i]).toNat:Int)→(bv (110 :: mp nameC l i)).set (i+1) (.int .u8 v)=bv (110 :: mp nameC l (i+1)):=by
    rintro _ rfl; rw [bv_set,List.set_cons_succ,mp_set hlt]
   generalize hk:l[i].toNat % 37=k at *
   have hk37:k<37:=by omega
   have hn:nameC l[i]=(if k<26 then UInt8.ofNat (97+k) else if k<36 then UInt8.ofNat (22+k) else 95):=by simp only [nameC,hk]
   simp [h3,h4,hc2,hc3,hc4,hw,hlt,hwin,htm,setRun_one]
   refine ⟨fun h=>hfin _ ?_,fun h=>⟨fun h2=>hfin _ ?_,fun h2=>hfin _ ?_⟩⟩
   ·rw [hn,if_pos (by omega),u8of (by omega),wru8 (by omega) (by omega)]; omega
   ·rw [hn,if_neg (by omega),if_pos (by omega),u8of (by omega),wru8 (n:=48+(k:Int)) (by omega) (by omega),wru8 (by omega) (by omega)]; omega
   ·rw [hn,if_neg (by omega),if_neg (by omega)]; rfl
  ·have he:i=l.length:=by omega
   subst he
   have hel:=b2s_bv (σ:=[.cells (bv (110 :: mp nameC l l.length)) 0 true]) (id:=0) (l:=110 :: mp nameC l l.length) rfl (n:=l.length+1) (by simp)
   rw [mp_all] at hel
   simp [h3,h4,mp_all,hel,hfit]
 ·simp [mp_zero]
theorem lawName (s:ByteArray) (hs:s.size≤100000000000) (bs:Nat) (σ:Heap):callT T 74 [.str s] bs σ=some (.str (nameFit s),σ):=call_clean rfl rfl rfl (by simp) (lawName_ok s hs)
def textC (b:UInt8):UInt8:=if 32+b.toNat % 95=34∨32+b.toNat % 95=92 then 32 else UInt8.ofNat (32+b.toNat % 95)
def textFit (s:ByteArray):ByteArray:=⟨((s.data.toList.take 32).map textC).toArray⟩
def fitV:Nat→GV→GV
 | d,v=>
  if pickN v.kind 4=0 then .mk 1 ((pickN v.num 4294967295:Int) - 2147483647) ⟨#[]⟩ []
  else if pickN v.kind 4=1 then .mk 2 0 (textFit v.text) []
  else if pickN v.kind 4=2 then .mk 3 0 (nameFit v.text) []
  else match d with
   | 0=>.mk 4 0 ⟨#[]⟩ []
   | d+1=>.mk 4 0 ⟨#[]⟩ ((v.items.take 16).map fun x=>fitV d (if d=0∧pickN x.kind 4=3 then .mk 0 x.num x.text x.items else x))
theorem fit_text (d:Int) (v:GV) (hv:v.ok) (hs:v.text.size≤100000000000) (hk:pickN v.kind 4=1):pureT T c61 [v.enc,.int .i64 d]=some (GV.mk 2 0 (textFit v.text) []).enc:=by
 apply pure_enter (by simp [c61])
 obtain ⟨k,n,s,items⟩:=v
 simp only [GV.ok] at hv
 replace hk:pickN k 4=1:=hk
 replace hs:s.size≤100000000000:=hs
 have hp:=pick4 k hv.1
 rw [hk] at hp
 obtain ⟨m,hm,hmin⟩:∃ m:Nat,m=min s.size 32∧(if (32:Int)<(s.size:Int) then (32:Int) else (s.size:Int))=(m:Int):=⟨_,rfl,by split <;> omega⟩
 generalize hl:s.data.toList.take m=l
 have hll:l.length=m:=by rw [←hl]; simp; omega
 have hcat:u8s (s.extract 0 m)=bv l:=by
  rw [u8s_bv]; congr 1; rw [←hl]; simp [ByteArray.data_append,ByteArray.data_extract]
 have hle:m≤s.size:=by omega
 have hsz:(s.extract 0 m:ByteArray).size=m:=by rw [ByteArray.size_extract]; omega
 have hfit:textFit s=⟨(l.map textC).toArray⟩:=by
  simp only [textFit]
  rw [←hl,hm]
  congr 3
  rcases Nat.lt_or_ge s.size 32 with h | h
  ·rw [List.take_of_length_le (by simp; omega),List.take_of_length_le (by simp; omega)]
  ·rw [Nat.min_eq_right h]
 simp [c61,GV.enc_eq,GV.kind,GV.num,GV.text,GV.items,hp,hmin,hle,hcat,hsz]
 subst hll
 refine W_for T 0 107 l.length (fun i f σ=>f 4=.ptr 1 0∧f 6=.sl 2 0 l.length 1 false∧f 7=.int .i64 (i:Int)∧∃ A,σ=[A,.cells [.int .i64 0,.int .i64 0,.str ⟨#[]⟩,.isl [] true] 0 false,.cells (bv (mp textC l i)) 0 true]) ?_ _ _ ?_
 ·rintro i f σ hi ⟨h4,h6,h7,A,rfl⟩
  by_cases hlt:i<l.length
  ·have hw:IntKind.i64.wrap ((i:Int)+1)=(i:Int)+1:=wr64 (by omega) (by omega)
   have hc4:i+1≤l.length:=hlt
   have hwin:=bv_win (l:=mp textC l i) (i:=i) (by simp; omega)
   simp [mp_get hlt] at hwin
   have htm:((l[i].toNat:Int)).tmod 95=((l[i].toNat % 95:Nat):Int):=rfl
   generalize hk:l[i].toNat % 95=k at *
   have hk37:k<95:=by omega
   obtain ⟨b,hb,hbn⟩:∃ b:UInt8,b=UInt8.ofNat (32+k)∧b.toNat=32+k:=⟨_,rfl,by rw [UInt8.toNat_ofNat',Nat.mod_eq_of_lt (by omega)]⟩
   have hn:textC l[i]=(if b.toNat=34∨b.toNat=92 then 32 else b):=by simp only [textC,hk,hbn]; rw [hb]
   have hv:IntKind.u8.wrap (32+(k:Int))=(b.toNat:Int):=by rw [wru8 (by omega) (by omega)]; omega
   have hst:(bv (mp textC l i)).set i (.int .u8 (b.toNat:Int))=bv ((mp textC l i).set i b):=bv_set ..
   have hwin2:=bv_win (l:=(mp textC l i).set i b) (i:=i) (by simp; omega)
   rw [List.getElem_set_self] at hwin2
   have hst2:(bv ((mp textC l i).set i b)).set i (.int .u8 32)=bv ((mp textC l i).set i 32):=by
    have:=bv_set ((mp textC l i).set i b) i 32
    rw [List.set_set] at this; exact this
   have e1:b.toNat=34∨b.toNat=92→(mp textC l i).set i 32=mp textC l (i+1):=fun h=>by rw [←mp_set hlt,hn,if_pos h]
   have e2:¬ (b.toNat=34∨b.toNat=92)→(mp textC l i).set i b=mp textC l (i+1):=fun h=>by rw [←mp_set hlt,hn,if_neg h]
   simp [h4,h6,h7,hc4,hw,hlt,hwin,htm,hv,setRun_one,hst,hwin2,hst2]
   refine ⟨fun h=>by rw [e1 (by omega)],fun h=>⟨fun h=>by rw [e1 (by omega)],fun h=>by rw [e2 (by omega)]⟩⟩
  ·have he:i=l.length:=by omega
   subst he
   have hel:=b2s_bv (σ:=[A,.cells [.int .i64 0,.int .i64 0,.str ⟨#[]⟩,.isl [] true] 0 false,.cells (bv (mp textC l l.length)) 0 true]) (id:=2) (l:=mp textC l l.length) rfl (n:=l.length) (by simp)
   rw [mp_all] at hel
   simp [h4,h6,h7,mp_all,hel,hfit,setRun,GV.encs]
 ·simp [mp_zero]
end Go.Proofs.Ytkfiepnkedcmgaa
end
section
namespace Go.Proofs.Ytkfiepnkedcmgaa
open Go.Mach
theorem enc_mk (k n:Int) (t:ByteArray) (l:List GV):AV.agg [.int .i64 k,.int .i64 n,.str t,.isl (GV.encs l) false]=(GV.mk k n t l).enc:=by simp only [GV.enc]
@[simp] theorem gv_eta (v:GV):GV.mk v.kind v.num v.text v.items=v:=by cases v; rfl
@[simp] theorem encs_nil':GV.encs []=[]:=rfl
@[simp] theorem encs_one (v:GV):GV.encs [v]=[v.enc]:=rfl
@[simp] theorem encs_snoc (l:List GV) (v:GV):GV.encs l++[v.enc]=GV.encs (l++[v]):=by simp [GV.encs_map]
@[simp] theorem encs_okEl (l:List GV):(GV.encs l).all (okEl 4 true)=true:=by
 rw [zqQ]
 intro x hx
 rw [GV.encs_map] at hx
 obtain ⟨v,_,rfl⟩:=List.mem_map.1 hx
 rw [GV.enc_eq]; rfl
def LstAt (rest:Heap) (off:Nat) (es:List AV) (sz:Nat) (lst:AV):Prop:=
 (es=[]∧lst=.isl [] true)∨(∃ k,lst=.own (k+off) es∧k<rest.length∧rest[k]?=some (.tok es.length sz))
theorem fit_list (d:Nat) (hd:d≤100) (k n:Int) (t:ByteArray) (items:List GV) (hv:(GV.mk k n t items).ok) (hl:items.length≤100000000000) (hk:pickN k 4=3) (g:GV→GV)
  (hg:∀ x∈items,∀ bs σ,callT T 61 [(if d≤1∧pickN x.kind 4=3 then GV.mk 0 x.num x.text x.items else x).enc,.int .i64 ((d:Int) - 1)] bs σ=some ((g x).enc,σ)) :
  pureT T c61 [(GV.mk k n t items).enc,.int .i64 d]=some (GV.mk 4 0 ⟨#[]⟩ ((items.take 16).map g)).enc:=by
 apply pure_enter (by simp [c61])
 simp only [GV.ok] at hv
 have hp:=pick4 k hv.1
 rw [hk] at hp
 simp [c61,hp,setRun]
 refine W_for T 0 107 (min items.length 16) (fun i f σ=>f 1=.int .i64 (d:Int)∧f 2=.ptr 0 0∧f 4=.ptr 1 0∧f 8=.ptr 2 0∧f 9=.int .i64 (i:Int)∧∃ lst rest,
  σ=[.cells [.int .i64 k,.int .i64 n,.str t,.isl (GV.encs items) false] 0 false,.cells [.int .i64 0,.int .i64 0,.str ⟨#[]⟩,.isl [] true] 0 false,.cells [.int .i64 4,.int .i64 0,.str ⟨#[]⟩,lst] 0 false]++rest ∧
  LstAt rest 3 (GV.encs ((items.take i).map g)) 4 lst) ?_ _ _ ?_
 ·rintro i f σ hi ⟨h1,h2,h4,h8,h9,lst,rest,rfl,hlst⟩
  by_cases hlt:i<min items.length 16
  ·have hw:IntKind.i64.wrap ((i:Int)+1)=(i:Int)+1:=wr64 (by omega) (by omega)
   have hwd:IntKind.i64.wrap ((d:Int) - 1)=(d:Int) - 1:=wr64 (by omega) (by omega)
   have hc1:i<items.length:=by omega
   have hc2:(i:Int)<16:=by omega
   have hok:GV.ok items[i]:=(GV.oks_iff items).1 hv.2.2 _ (zqT hc1)
   have hpk:=pick4 items[i].kind (by revert hok; cases items[i]; simp only [GV.ok]; exact fun h=>h.1)
   have hcl:=hg items[i] (zqT hc1)
   have htk:(items.take (i+1)).map g=(items.take i).map g++[g items[i]]:=by rw [List.take_add_one,zqF hc1,List.map_append]; rfl
   have hlen:((items.take i).map g).length=i:=by simp; omega
   generalize (items.take i).map g=done at *
   rw [htk]
   have hdl:done.length≤10000000000:=by omega
   have hown:∀ kk X,kk<rest.length→LstAt (rest.set kk (.tok (done.length+1) 4)++X) 3 (GV.encs (done++[g items[i]])) 4 (.own (kk+3) (GV.encs (done++[g items[i]]))):=fun kk X hk=>.inr ⟨kk,rfl,by simp; omega,by rw [zqA (by simpa using hk)]; simp [hk]⟩
   by_cases hc3:d≤1
   ·have hc4:(d:Int)≤1:=by omega
    by_cases hc6:pickN items[i].kind 4=3
    ·simp only [hc3,hc6,and_self,if_true] at hcl
     rcases hlst with ⟨he,rfl⟩ | ⟨kk,rfl,hkl,hkk⟩
     ·have hd0:done=[]:=(encs_nil _).1 he
      simp [h1,h2,h4,h8,h9,hc1,hc2,hw,hwd,hpk,setRun,enc_mk,hc4,hcl,gv_eta,hc6]
      refine ⟨by omega,_,_,⟨rfl,rfl⟩,.inr ⟨rest.length+2,?_,by simp,by simp [hd0]⟩⟩
      simp [hd0]
     ·simp [h1,h2,h4,h8,h9,hc1,hc2,hw,hwd,hpk,setRun,enc_mk,hc4,hcl,gv_eta,hc6,zqA hkl,hkk,List.set_append_left _ _ hkl,hdl]
      exact ⟨by omega,_,_,⟨rfl,rfl⟩,hown kk _ hkl⟩
    ·have hc5:¬ (d≤1∧pickN items[i].kind 4=3):=by omega
     have hc7:¬ ((pickN items[i].kind 4:Int)=3):=by omega
     simp only [if_neg hc5] at hcl
     rcases hlst with ⟨he,rfl⟩ | ⟨kk,rfl,hkl,hkk⟩
     ·have hd0:done=[]:=(encs_nil _).1 he
      simp [h1,h2,h4,h8,h9,hc1,hc2,hw,hwd,hpk,setRun,enc_mk,hc4,hcl,gv_eta,hc7]
      refine ⟨by omega,_,_,⟨rfl,rfl⟩,.inr ⟨rest.length+2,?_,by simp,by simp [hd0]⟩⟩
      simp [hd0]
     ·simp [h1,h2,h4,h8,h9,hc1,hc2,hw,hwd,hpk,setRun,enc_mk,hc4,hcl,gv_eta,hc7,zqA hkl,hkk,List.set_append_left _ _ hkl,hdl]
      exact ⟨by omega,_,_,⟨rfl,rfl⟩,hown kk _ hkl⟩
   ·have hc4:¬ (d:Int)≤1:=by omega
    have hc5:¬ (d≤1∧pickN items[i].kind 4=3):=by omega
    simp only [if_neg hc5] at hcl
    rcases hlst with ⟨he,rfl⟩ | ⟨kk,rfl,hkl,hkk⟩
    ·have hd0:done=[]:=(encs_nil _).1 he
     simp [h1,h2,h4,h8,h9,hc1,hc2,hw,hwd,hpk,setRun,enc_mk,hc4,hcl,gv_eta]
     refine ⟨by omega,_,_,⟨rfl,rfl⟩,.inr ⟨rest.length+2,?_,by simp,by simp [hd0]⟩⟩
     simp [hd0]
    ·simp [h1,h2,h4,h8,h9,hc1,hc2,hw,hwd,hpk,setRun,enc_mk,hc4,hcl,gv_eta,zqA hkl,hkk,List.set_append_left _ _ hkl,hdl]
     exact ⟨by omega,_,_,⟨rfl,rfl⟩,hown kk _ hkl⟩
  ·have he:i=min items.length 16:=by omega
   have htake:items.take i=items.take 16:=by
    rw [he]
    rcases Nat.lt_or_ge items.length 16 with h | h
    ·rw [List.take_of_length_le (by omega),List.take_of_length_le (by omega)]
    ·rw [Nat.min_eq_right h]
   rw [htake] at hlst
   have hb:¬ i<items.length∨(i<items.length∧¬ (i:Int)<16):=by omega
   rcases hb with hb | ⟨hb,hb2⟩
   ·rcases hlst with ⟨he2,rfl⟩ | ⟨kk,rfl,hkl,hkk⟩
    ·simp [h1,h2,h4,h8,h9,setRun,hb,GV.enc,←List.map_take,he2]
    ·simp [h1,h2,h4,h8,h9,setRun,hb,GV.enc,←List.map_take]
   ·rcases hlst with ⟨he2,rfl⟩ | ⟨kk,rfl,hkl,hkk⟩
    ·simp [h1,h2,h4,h8,h9,setRun,hb,hb2,GV.enc,←List.map_take,he2]
    ·simp [h1,h2,h4,h8,h9,setRun,hb,hb2,GV.enc,←List.map_take]
 ·exact ⟨by simp,by simp,by simp,by simp,by simp,_,[],by simp,.inl ⟨by simp,rfl⟩⟩
theorem text_le (v:GV):v.text.size≤v.size:=by obtain ⟨k,n,t,l⟩:=v; show t.size≤_; simp only [GV.size]; omega
theorem fit_other (d:Int) (v:GV) (hv:v.ok) (hs:v.size≤100000000000) (hk:pickN v.kind 4≠3) (dd:Nat):pureT T c61 [v.enc,.int .i64 d]=some (fitV dd v).enc:=by
 have hlt:=pickN_lt (c:=v.kind) (n:=4) (by omega)
 have hts:v.text.size≤100000000000:=Nat.le_trans (text_le v) hs
 have hkk:GV.i64ok v.kind∧GV.i64ok v.num:=by revert hv; cases v; simp only [GV.ok]; exact fun h=>⟨h.1,h.2.1⟩
 have hp:=pick4 v.kind hkk.1
 have hpm:=pickM v.num hkk.2
 have hn:=lawName v.text hts
 have hm:=pickN_lt (c:=v.num) (n:=4294967295) (by omega)
 have hw:IntKind.i64.wrap ((pickN v.num 4294967295:Int) - 2147483647)=(pickN v.num 4294967295:Int) - 2147483647:=wr64 (by omega) (by omega)
 have hcase:pickN v.kind 4=0∨pickN v.kind 4=1∨pickN v.kind 4=2:=by omega
 rcases hcase with h | h | h
 ·rw [h] at hp
  apply pure_enter (by simp [c61])
  cases dd <;> simp [c61,hp,hpm,hw,setRun,fitV,h,GV.enc]
 ·have:=fit_text d v hv hts h
  rw [this]
  cases dd <;> simp [fitV,h]
 ·rw [h] at hp
  apply pure_enter (by simp [c61])
  cases dd <;> simp [c61,hp,hn,setRun,fitV,h,GV.enc]
theorem fit_ok:∀ (d:Nat) (v:GV),d≤100→v.ok→v.size≤100000000000→(d=0→pickN v.kind 4≠3)→pureT T c61 [v.enc,.int .i64 d]=some (fitV d v).enc:=by
 intro d
 induction d with
 | zero=>intro v hd hv hs h0; exact fit_other _ v hv hs (h0 rfl) 0
 | succ d ih=>
  intro v hd hv hs _
  by_cases hk:pickN v.kind 4=3
  ·obtain ⟨k,n,t,items⟩:=v
   have hk':pickN k 4=3:=hk
   have hv':=hv
   simp only [GV.ok] at hv'
   have hs':=hs
   simp only [GV.size] at hs'
   have hl:=len_sizes items
   rw [fit_list (d+1) hd k n t items hv (by omega) hk' (fun x=>fitV d (if d=0∧pickN x.kind 4=3 then .mk 0 x.num x.text x.items else x)) (fun x hx bs σ=>?_)]
   ·simp only [fitV]
    rw [if_neg (by show ¬ pickN k 4=0; omega),if_neg (by show ¬ pickN k 4=1; omega),if_neg (by show ¬ pickN k 4=2; omega)]
   ·have hxo:x.ok:=(GV.oks_iff items).1 hv'.2.2 x hx
    have hxs:=(sizes_mem hx).1
    have e:(((d+1:Nat):Int) - 1)=(d:Int):=by omega
    rw [e]
    have hcond:(d+1≤1∧pickN x.kind 4=3)↔(d=0∧pickN x.kind 4=3):=by omega
    simp only [hcond]
    refine call_clean rfl rfl rfl (by simp) (ih _ (by omega) ?_ ?_ ?_)
    ·split
     ·revert hxo; cases x; simp only [GV.ok]; exact fun h=>⟨by simp [GV.i64ok],h.2.1,h.2.2⟩
     ·exact hxo
    ·split
     ·have:(GV.mk 0 x.num x.text x.items).size=x.size:=by cases x; simp only [GV.size]
      omega
     ·omega
    ·intro h0
     split
     ·show pickN 0 4≠3; decide
     ·rename_i hc; intro h3; exact hc ⟨h0,h3⟩
  ·exact fit_other _ v hv hs hk (d+1)
def fit (v:GV):GV:=fitV 4 v
theorem Fit_ok (v:GV) (hv:v.ok) (hs:v.size≤100000000000):pureT T c38 [v.enc]=some (fit v).enc:=by
 have hr:∀ bs σ,callT T 61 [v.enc,.int .i64 4] bs σ=some ((fit v).enc,σ):=fun bs σ=>call_clean rfl rfl rfl (by simp) (fit_ok 4 v (by omega) hv hs (by omega))
 apply pure_enter (by simp [c38])
 simp [c38,hr,setRun,enc_mk]
theorem callFit (v:GV) (hv:v.ok) (hs:v.size≤100000000000) (bs:Nat) (σ:Heap):callT T 38 [v.enc] bs σ=some ((fit v).enc,σ):=call_clean rfl rfl rfl (by simp) (Fit_ok v hv hs)
mutual
def sameV:GV→GV→Bool
 | .mk k n t l,b=>decide (k=b.kind) && decide (n=b.num) && decide (t=b.text) && sameVs l b.items
def sameVs:List GV→List GV→Bool
 | [],[]=>true
 | x :: xs,y :: ys=>sameV x y && sameVs xs ys
 | _,_=>false
end
mutual
theorem sameV_iff:∀ a b:GV,sameV a b=true↔a=b
 | .mk k n t l,.mk k2 n2 t2 l2=>by
  have:=sameVs_iff l l2
  simp [sameV,this,and_assoc]
theorem sameVs_iff:∀ a b:List GV,sameVs a b=true↔a=b
 | [],[]=>by simp [sameVs]
 | [],_ :: _=>by simp [sameVs]
 | _ :: _,[]=>by simp [sameVs]
 | x :: xs,y :: ys=>by
  have h1:=sameV_iff x y
  have h2:=sameVs_iff xs ys
  simp [sameVs,h1,h2]
end
instance:DecidableEq GV:=fun a b=>decidable_of_iff _ (sameV_iff a b)
open Go.Mach
theorem ba_list (t:ByteArray) (l:List UInt8) (h:t=⟨l.toArray⟩):t.data.toList=l∧t.size=l.length:=by
 subst h; exact ⟨rfl,by show l.toArray.size=_; rw [List.size_toArray]⟩
theorem nameC_inner (b:UInt8):innerB (nameC b).toNat=true:=by
 have hb:=b.toNat_lt
 generalize hk:b.toNat % 37=k
 have hk37:k<37:=by omega
 simp only [nameC,hk]
 split
 ·rw [UInt8.toNat_ofNat',Nat.mod_eq_of_lt (by omega)]; simp [innerB,letterB]; omega
 ·split
  ·rw [UInt8.toNat_ofNat',Nat.mod_eq_of_lt (by omega)]; simp [innerB,letterB]; omega
  ·decide
theorem nameFit_list (s:ByteArray):(nameFit s).data.toList=110 :: (s.data.toList.take 15).map nameC∧(nameFit s).size=(110 :: (s.data.toList.take 15).map nameC:List UInt8).length:=ba_list _ _ rfl
theorem nameFit_ok (s:ByteArray):nameOK (nameFit s)=true:=by
 obtain ⟨h1,h2⟩:=nameFit_list s
 simp only [nameOK,h1,h2,nameL,zqL,decide_eq_true_eq,zqQ,zqU,List.length_map,List.length_take]
 refine ⟨⟨by decide,fun c hc=>?_⟩,by omega⟩
 obtain ⟨b,_,rfl⟩:=List.mem_map.1 hc
 exact nameC_inner b
theorem nameFit_size (s:ByteArray):1≤(nameFit s).size∧(nameFit s).size≤16:=by
 rw [(nameFit_list s).2]
 simp only [zqU,List.length_map,List.length_take]
 omega
theorem textC_plain (b:UInt8):plainB (textC b).toNat=true:=by
 generalize hk:b.toNat % 95=k
 have hk37:k<95:=by omega
 simp only [textC,hk]
 split
 ·decide
 ·rw [UInt8.toNat_ofNat',Nat.mod_eq_of_lt (by omega)]; simp [plainB]; omega
theorem textFit_ok (s:ByteArray):textOK (textFit s)=true:=by
 obtain ⟨h1,h2⟩:=ba_list (textFit s) _ rfl
 simp only [textOK,h1,h2,zqL,decide_eq_true_eq,zqQ,List.length_map,List.length_take]
 refine ⟨fun c hc=>?_,by omega⟩
 obtain ⟨b,_,rfl⟩:=List.mem_map.1 hc
 exact textC_plain b
theorem rb1 (m:Nat) (h:m<4294967295) (lst:Bool):rightB (.mk 1 ((m:Int) - 2147483647) ⟨#[]⟩ []) lst=true:=by
 simp [rightB,GV.kind,GV.num,GV.text,GV.items]; omega
theorem rb2 (t:ByteArray) (h:textOK t=true) (lst:Bool):rightB (.mk 2 0 t []) lst=true:=by
 simp [rightB,GV.kind,GV.num,GV.text,GV.items,h]
theorem rb3 (t:ByteArray) (h:nameOK t=true) (lst:Bool):rightB (.mk 3 0 t []) lst=true:=by
 simp [rightB,GV.kind,GV.num,GV.text,GV.items,h]
theorem rb4 (l:List GV) (lst:Bool) (h:lst=true):rightB (.mk 4 0 ⟨#[]⟩ l) lst=true:=by
 simp [rightB,GV.kind,GV.num,GV.text,GV.items,h]
theorem rb_right (d:Nat) (v:GV) (h:∀ lst,rightB v lst=true):rightV d v=true:=by cases d <;> exact h _
theorem fitV_right:∀ (d:Nat) (v:GV),(d=0→pickN v.kind 4≠3)→rightV d (fitV d v)=true:=by
 intro d
 induction d with
 | zero=>
  intro v h0
  have hlt:=pickN_lt (c:=v.kind) (n:=4) (by omega)
  have hm:=pickN_lt (c:=v.num) (n:=4294967295) (by omega)
  have h3:=h0 rfl
  unfold fitV
  by_cases h0:pickN v.kind 4=0
  ·rw [if_pos h0]; exact rb_right _ _ (rb1 _ hm)
  ·rw [if_neg h0]
   by_cases h1:pickN v.kind 4=1
   ·rw [if_pos h1]; exact rb_right _ _ (rb2 _ (textFit_ok _))
   ·have h2:pickN v.kind 4=2:=by omega
    rw [if_neg h1,if_pos h2]; exact rb_right _ _ (rb3 _ (nameFit_ok _))
 | succ d ih=>
  intro v _
  have hm:=pickN_lt (c:=v.num) (n:=4294967295) (by omega)
  unfold fitV
  by_cases h0:pickN v.kind 4=0
  ·rw [if_pos h0]; exact rb_right _ _ (rb1 _ hm)
  ·rw [if_neg h0]
   by_cases h1:pickN v.kind 4=1
   ·rw [if_pos h1]; exact rb_right _ _ (rb2 _ (textFit_ok _))
   ·rw [if_neg h1]
    by_cases h2:pickN v.kind 4=2
    ·rw [if_pos h2]; exact rb_right _ _ (rb3 _ (nameFit_ok _))
    ·rw [if_neg h2]
     refine rb4 _ _ (decide_eq_true ⟨by simp; omega,?_⟩)
     show ((v.items.take 16).map _).all (rightV d)=true
     rw [zqQ]
     intro x hx
     obtain ⟨y,_,rfl⟩:=List.mem_map.1 hx
     refine ih _ fun h0=>?_
     split
     ·show pickN 0 4≠3; decide
     ·rename_i hc; intro h3; exact hc ⟨h0,h3⟩
theorem fit_right (v:GV):rightT (fit v)=true:=fitV_right 4 v (by omega)
open Go.Mach
theorem cmpI_self (a:Int):cmpI a a=0:=by simp [cmpI]
theorem cmpI_neg (a b:Int):cmpI b a=-cmpI a b:=by unfold cmpI; grind
theorem cmpI_range (a b:Int):-1≤cmpI a b∧cmpI a b≤1:=by unfold cmpI; grind
theorem cmpI_tr (a b c:Int):(cmpI a b≤0→cmpI b c≤0→cmpI a c≤0)∧(cmpI a b<0→cmpI b c≤0→cmpI a c<0)∧(cmpI a b≤0→cmpI b c<0→cmpI a c<0):=by unfold cmpI; grind
theorem cmpB_range:∀ a b:List UInt8,-1≤Lib.compareBytes a b∧Lib.compareBytes a b≤1
 | [],[]=>by simp [Lib.compareBytes]
 | [],_ :: _=>by simp [Lib.compareBytes]
 | _ :: _,[]=>by simp [Lib.compareBytes]
 | a :: l,b :: m=>by
  have ih:=cmpB_range l m
  simp only [Lib.compareBytes]
  split
  ·omega
  ·split <;> omega
theorem cmpB_neg:∀ a b:List UInt8,Lib.compareBytes b a=-Lib.compareBytes a b
 | [],[]=>by simp [Lib.compareBytes]
 | [],_ :: _=>by simp [Lib.compareBytes]
 | _ :: _,[]=>by simp [Lib.compareBytes]
 | a :: l,b :: m=>by
  have ih:=cmpB_neg l m
  simp only [Lib.compareBytes]
  by_cases h1:a<b
  ·have h2:¬ b<a:=UInt8.lt_asymm h1
   simp [h1,h2]
  ·by_cases h2:b<a
   ·simp [h1,h2]
   ·simp [h1,h2,ih]
theorem cmpB_tr:∀ a b c:List UInt8,(Lib.compareBytes a b≤0→Lib.compareBytes b c≤0→Lib.compareBytes a c≤0)∧(Lib.compareBytes a b<0→Lib.compareBytes b c≤0→Lib.compareBytes a c<0)∧(Lib.compareBytes a b≤0→Lib.compareBytes b c<0→Lib.compareBytes a c<0)
 | [],[],[]=>by simp [Lib.compareBytes]
 | [],[],_ :: _=>by simp [Lib.compareBytes]
 | [],_ :: _,[]=>by simp [Lib.compareBytes]
 | [],_ :: _,_ :: _=>by simp [Lib.compareBytes]
 | _ :: _,[],[]=>by simp [Lib.compareBytes]
 | _ :: _,[],_ :: _=>by simp [Lib.compareBytes]
 | _ :: _,_ :: _,[]=>by simp [Lib.compareBytes]
 | a :: l,b :: m,c :: k=>by
  have ih:=cmpB_tr l m k
  have e1:=@UInt8.lt_iff_toNat_lt a b
  have e2:=@UInt8.lt_iff_toNat_lt b a
  have e3:=@UInt8.lt_iff_toNat_lt b c
  have e4:=@UInt8.lt_iff_toNat_lt c b
  have e5:=@UInt8.lt_iff_toNat_lt a c
  have e6:=@UInt8.lt_iff_toNat_lt c a
  simp only [Lib.compareBytes,e1,e2,e3,e4,e5,e6]
  generalize Lib.compareBytes l m=x at *
  generalize Lib.compareBytes m k=y at *
  generalize Lib.compareBytes l k=z at *
  grind
mutual
theorem cmpV_range:∀ a b:GV,-1≤cmpV a b∧cmpV a b≤1
 | .mk k n t l,b=>by
  have h1:=cmpI_range k b.kind
  have h2:=cmpI_range n b.num
  have h3:=cmpB_range t.data.toList b.text.data.toList
  have h4:=cmpVs_range l b.items
  simp only [cmpV]
  split
  ·exact h1
  ·split
   ·exact h2
   ·split
    ·exact h3
    ·split
     ·exact h4
     ·omega
theorem cmpVs_range:∀ a b:List GV,-1≤cmpVs a b∧cmpVs a b≤1
 | [],[]=>by simp [cmpVs]
 | [],_ :: _=>by simp [cmpVs]
 | _ :: _,[]=>by simp [cmpVs]
 | x :: a,y :: b=>by
  have h1:=cmpV_range x y
  have h2:=cmpVs_range a b
  simp only [cmpVs]
  split
  ·exact h1
  ·exact h2
end
mutual
theorem cmpV_neg:∀ a b:GV,cmpV b a=-cmpV a b
 | .mk k n t l,.mk k2 n2 t2 l2=>by
  have h1:=cmpI_neg k k2
  have h2:=cmpI_neg n n2
  have h3:=cmpB_neg t.data.toList t2.data.toList
  have h4:=cmpVs_neg l l2
  simp only [cmpV,GV.kind,GV.num,GV.text,GV.items]
  by_cases hk:k=k2
  ·subst hk
   simp only [cmpI_self]
   split
   ·omega
   ·split
    ·exact h2
    ·split
     ·exact h3
     ·split
      ·exact h4
      ·rfl
  ·have hz:cmpI k k2≠0:=by unfold cmpI; grind
   have hz2:cmpI k2 k≠0:=by unfold cmpI; grind
   simp only [hz,hz2,ne_eq,not_false_eq_true,if_true]; exact h1
theorem cmpVs_neg:∀ a b:List GV,cmpVs b a=-cmpVs a b
 | [],[]=>by simp [cmpVs]
 | [],_ :: _=>by simp [cmpVs]
 | _ :: _,[]=>by simp [cmpVs]
 | x :: a,y :: b=>by
  have h1:=cmpV_neg x y
  have h2:=cmpVs_neg a b
  simp only [cmpVs]
  by_cases h:cmpV x y=0
  ·have:cmpV y x=0:=by omega
   simp [h,this,h2]
  ·have:cmpV y x≠0:=by omega
   simp [h,this,h1]
end
mutual
theorem cmpV_tr:∀ a b c:GV,(cmpV a b≤0→cmpV b c≤0→cmpV a c≤0)∧(cmpV a b<0→cmpV b c≤0→cmpV a c<0)∧(cmpV a b≤0→cmpV b c<0→cmpV a c<0)
 | .mk k n t l,.mk k2 n2 t2 l2,.mk k3 n3 t3 l3=>by
  have h1:=cmpI_tr k k2 k3
  have h2:=cmpI_tr n n2 n3
  have h3:=cmpB_tr t.data.toList t2.data.toList t3.data.toList
  have h4:=cmpVs_tr l l2 l3
  simp only [cmpV,GV.kind,GV.num,GV.text,GV.items]
  by_cases hk:k=k2
  ·subst hk
   by_cases hk2:k=k3
   ·subst hk2
    simp only [cmpI_self,ne_eq,not_true_eq_false,if_false]
    split
    ·exact h2
    ·split
     ·exact h3
     ·split
      ·exact h4
      ·simp
   ·have hz:cmpI k k3≠0:=by unfold cmpI; grind
    simp only [cmpI_self,ne_eq,not_true_eq_false,if_false,hz,not_false_eq_true,if_true]
    grind
  ·have hz:cmpI k k2≠0:=by unfold cmpI; grind
   by_cases hk2:k2=k3
   ·subst hk2
    simp only [cmpI_self,ne_eq,not_true_eq_false,if_false,hz,not_false_eq_true,if_true]
    grind
   ·have hz2:cmpI k2 k3≠0:=by unfold cmpI; grind
    simp only [ne_eq,hz,hz2,not_false_eq_true,if_true]
    by_cases hz3:cmpI k k3=0
    ·have e:k=k3:=by revert hz3; unfold cmpI; grind
     subst e
     have:=cmpI_neg k k2
     simp only [cmpI_self,not_true_eq_false,if_false]
     grind
    ·simp only [hz3,not_false_eq_true,if_true]; exact h1
theorem cmpVs_tr:∀ a b c:List GV,(cmpVs a b≤0→cmpVs b c≤0→cmpVs a c≤0)∧(cmpVs a b<0→cmpVs b c≤0→cmpVs a c<0)∧(cmpVs a b≤0→cmpVs b c<0→cmpVs a c<0)
 | [],[],[]=>by simp [cmpVs]
 | [],[],_ :: _=>by simp [cmpVs]
 | [],_ :: _,[]=>by simp [cmpVs]
 | [],_ :: _,_ :: _=>by simp [cmpVs]
 | _ :: _,[],[]=>by simp [cmpVs]
 | _ :: _,[],_ :: _=>by simp [cmpVs]
 | _ :: _,_ :: _,[]=>by simp [cmpVs]
 | x :: a,y :: b,z :: c=>by
  have h1:=cmpV_tr x y z
  have h1':=cmpV_tr z y x
  have n1:=cmpV_neg x y
  have n2:=cmpV_neg y z
  have n3:=cmpV_neg x z
  have h2:=cmpVs_tr a b c
  simp only [cmpVs]
  rw [n1,n2,n3] at h1'
  generalize cmpV x y=p at *
  generalize cmpV y z=q at *
  generalize cmpV x z=r at *
  generalize cmpVs a b=p' at *
  generalize cmpVs b c=q' at *
  generalize cmpVs a c=r' at *
  grind
end
open Go.Mach
open Go.Mach
mutual
def pr:GV→List UInt8
 | .mk k n t l=>if k=1 then Lib.itoa n else if k=2 then 34 :: (t.data.toList++[34]) else if k=3 then t.data.toList else if k=4 then 91 :: (prs l++[93]) else []
def prs:List GV→List UInt8
 | []=>[]
 | x :: l=>pr x++prc l
def prc:List GV→List UInt8
 | []=>[]
 | x :: l=>44 :: (pr x++prc l)
end
open Go.Mach
def S (l:List UInt8):ByteArray:=⟨l.toArray⟩
end Go.Proofs.Ytkfiepnkedcmgaa
end
section
namespace Go.Mach
inductive GT where
 | mk (kind:Int) (name:ByteArray) (value:GV) (args:List GT)
 deriving Inhabited
namespace GT
abbrev kind:GT→Int | .mk k _ _ _=>k
abbrev name:GT→ByteArray | .mk _ n _ _=>n
abbrev value:GT→GV | .mk _ _ v _=>v
abbrev args:GT→List GT | .mk _ _ _ l=>l
mutual
def enc:GT→AV
 | .mk k n v l=>.agg [.int .i64 k,.str n,.int .i64 v.kind,.int .i64 v.num,.str v.text,.isl (GV.encs v.items) false,.isl (encs l) false]
def encs:List GT→List AV
 | []=>[]
 | v :: l=>enc v :: encs l
end
theorem encs_map:∀ l:List GT,encs l=l.map enc
 | []=>rfl
 | v :: l=>by simp only [encs,List.map_cons,encs_map l]
@[simp] theorem encs_length (l:List GT):(encs l).length=l.length:=by simp [encs_map]
@[simp] theorem encs_get (l:List GT) (i:Nat):(encs l)[i]?=l[i]?.map enc:=by simp [encs_map]
@[simp] theorem encs_getE (l:List GT) (i:Nat) (h:i<(encs l).length):(encs l)[i]=(l[i]'(by simpa using h)).enc:=by simp [encs_map]
theorem encs_nil (l:List GT):encs l=[]↔l=[]:=by cases l <;> simp [encs]
@[simp] theorem encs_nil':encs []=[]:=rfl
@[simp] theorem encs_one (v:GT):encs [v]=[v.enc]:=rfl
@[simp] theorem encs_snoc (l:List GT) (v:GT):encs l++[v.enc]=encs (l++[v]):=by simp [encs_map]
@[simp] theorem eta (v:GT):GT.mk v.kind v.name v.value v.args=v:=by cases v; rfl
theorem enc_eq (v:GT):v.enc=.agg [.int .i64 v.kind,.str v.name,.int .i64 v.value.kind,.int .i64 v.value.num,.str v.value.text,.isl (GV.encs v.value.items) false,.isl (encs v.args) false]:=by cases v; simp only [enc]
theorem enc_mk (k:Int) (n:ByteArray) (vk vn:Int) (vt:ByteArray) (vl:List GV) (l:List GT) :
  AV.agg [.int .i64 k,.str n,.int .i64 vk,.int .i64 vn,.str vt,.isl (GV.encs vl) false,.isl (encs l) false]=(GT.mk k n (.mk vk vn vt vl) l).enc:=by simp only [enc]
@[simp] theorem enc_cells (v:GT):v.enc.cells=[.int .i64 v.kind,.str v.name,.int .i64 v.value.kind,.int .i64 v.value.num,.str v.value.text,.isl (GV.encs v.value.items) false,.isl (encs v.args) false]:=by rw [enc_eq]; rfl
@[simp] theorem enc_solid (v:GT):v.enc.solid=true:=by rw [enc_eq]; rfl
@[simp] theorem enc_head (v:GT) (xs:List AV):headYld (v.enc :: xs)=false:=by rw [enc_eq]; rfl
@[simp] theorem enc_clean (v:GT):v.enc.clean=true:=by rw [enc_eq]; rfl
@[simp] theorem enc_closeR (σ:Heap) (v:GT):closeR σ v.enc=some (v.enc,σ):=by rw [enc_eq]; rfl
@[simp] theorem enc_datR (v:GT):v.enc.datR=true:=by rw [enc_eq]; rfl
@[simp] theorem enc_dat (v:GT):v.enc.dat=true:=by rw [enc_eq]; rfl
@[simp] theorem enc_clo (v:GT):v.enc.clo=true:=by rw [enc_eq]; rfl
@[simp] theorem encs_okEl (l:List GT):(encs l).all (okEl 7 true)=true:=by
 rw [zqQ]
 intro x hx
 rw [encs_map] at hx
 obtain ⟨v,_,rfl⟩:=List.mem_map.1 hx
 rw [enc_eq]; rfl
mutual
def ok:GT→Prop
 | .mk k _ v l=>GV.i64ok k∧v.ok∧oks l
def oks:List GT→Prop
 | []=>True
 | v :: l=>ok v∧oks l
end
theorem oks_iff:∀ l:List GT,oks l↔∀ v∈l,ok v
 | []=>by simp [oks]
 | v :: l=>by simp [oks,oks_iff l]
mutual
def size:GT→Nat
 | .mk k n v l=>n.size+v.size+sizes l+3
def sizes:List GT→Nat
 | []=>0
 | v :: l=>size v+sizes l
end
theorem sizes_mem {l:List GT} {x:GT} (h:x∈l):x.size+5≤GT.sizes l+5∧l.length≤GT.sizes l:=by
 induction l with
 | nil=>cases h
 | cons y l ih=>
  have hy:5≤y.size:=by obtain ⟨k,n,v,l⟩:=y; cases v; simp [GT.size,GV.size]; omega
  rcases List.mem_cons.1 h with rfl | h
  ·refine ⟨by simp [GT.sizes],?_⟩
   have:∀ l:List GT,l.length≤GT.sizes l:=fun l=>by
    induction l with
    | nil=>simp [GT.sizes]
    | cons z l ih=>have:5≤z.size:=(by obtain ⟨k,n,v,l⟩:=z; cases v; simp [GT.size,GV.size]; omega); simp [GT.sizes]; omega
   have:=this l
   simp [GT.sizes]; omega
  ·obtain ⟨h1,h2⟩:=ih h
   simp [GT.sizes]; omega
theorem len_sizes (l:List GT):l.length≤GT.sizes l:=by
 cases l with
 | nil=>simp
 | cons x l=>exact (sizes_mem (List.mem_cons_self (a:=x) (l:=l))).2
end GT
structure GB where
 name:ByteArray
 value:GV
 deriving Inhabited
namespace GB
def enc (b:GB):AV:=.agg [.str b.name,.int .i64 b.value.kind,.int .i64 b.value.num,.str b.value.text,.isl (GV.encs b.value.items) false]
def encs (l:List GB):List AV:=l.map enc
@[simp] theorem encs_length (l:List GB):(encs l).length=l.length:=by simp [encs]
@[simp] theorem encs_get (l:List GB) (i:Nat):(encs l)[i]?=l[i]?.map enc:=by simp [encs]
@[simp] theorem encs_getE (l:List GB) (i:Nat) (h:i<(encs l).length):(encs l)[i]=(l[i]'(by simpa using h)).enc:=by simp [encs]
theorem encs_nil (l:List GB):encs l=[]↔l=[]:=by cases l <;> simp [encs]
@[simp] theorem encs_nil':encs []=[]:=rfl
@[simp] theorem encs_one (v:GB):encs [v]=[v.enc]:=rfl
@[simp] theorem encs_snoc (l:List GB) (v:GB):encs l++[v.enc]=encs (l++[v]):=by simp [encs]
theorem enc_mk (n:ByteArray) (vk vn:Int) (vt:ByteArray) (vl:List GV) :
  AV.agg [.str n,.int .i64 vk,.int .i64 vn,.str vt,.isl (GV.encs vl) false]=(GB.mk n (.mk vk vn vt vl)).enc:=rfl
@[simp] theorem enc_cells (b:GB):b.enc.cells=[.str b.name,.int .i64 b.value.kind,.int .i64 b.value.num,.str b.value.text,.isl (GV.encs b.value.items) false]:=rfl
@[simp] theorem enc_solid (v:GB):v.enc.solid=true:=rfl
@[simp] theorem enc_head (v:GB) (xs:List AV):headYld (v.enc :: xs)=false:=by cases v; rfl
@[simp] theorem enc_clean (v:GB):v.enc.clean=true:=rfl
@[simp] theorem enc_closeR (σ:Heap) (v:GB):closeR σ v.enc=some (v.enc,σ):=rfl
@[simp] theorem enc_datR (v:GB):v.enc.datR=true:=rfl
@[simp] theorem enc_dat (v:GB):v.enc.dat=true:=rfl
@[simp] theorem enc_clo (v:GB):v.enc.clo=true:=rfl
@[simp] theorem encs_okEl (l:List GB):(encs l).all (okEl 5 true)=true:=by
 rw [zqQ]
 intro x hx
 obtain ⟨v,_,rfl⟩:=List.mem_map.1 hx
 rfl
def size (b:GB):Nat:=b.name.size+b.value.size+1
def ok (b:GB):Prop:=b.value.ok
end GB
end Go.Mach
end
section
namespace Go.Proofs.Ytkfiepnkedcmgaa
open Go.Mach
end Go.Proofs.Ytkfiepnkedcmgaa
end
section
namespace Go.Mach
theorem setRun_take:∀ (vs cs:List AV) (o:Nat),o+vs.length≤cs.length→setRun cs o vs=cs.take o++vs++cs.drop (o+vs.length)
 | [],cs,o,h=>by simp [setRun]
 | v :: vs,cs,o,h=>by
  simp only [zqU] at h
  rw [setRun,setRun_take vs _ _ (by simp; omega)]
  rw [List.take_set,List.take_add_one,List.drop_set]
  have h1:o<cs.length:=by omega
  rw [if_pos (by omega)]
  simp only [zqF h1,Option.toList_some,zqU]
  rw [List.set_append_right _ _ (by simp; omega)]
  simp only [List.length_take,Nat.min_eq_left (Nat.le_of_lt h1),Nat.sub_self,List.set_cons_zero]
  rw [show o+1+vs.length=o+(vs.length+1) by omega]
  simp
theorem flat_cons (x:AV) (es:List AV):flat (x :: es)=x.cells++flat es:=by simp [flat]
theorem flat_len {s:Nat}:∀ {es:List AV},(∀ e∈es,e.cells.length=s)→(flat es).length=es.length * s
 | [],_=>by simp [flat]
 | x :: es,h=>by
  rw [flat_cons,zqJ,flat_len fun e he=>h e (by simp [he]),h x (by simp),zqU,Nat.add_mul]; omega
theorem flat_win {s:Nat}:∀ {es:List AV} {i:Nat} (hi:i<es.length),(∀ e∈es,e.cells.length=s)→window (flat es) (i * s) s=some es[i].cells
 | x :: es,0,hi,h=>by
  have hx:=h x (by simp)
  unfold window
  rw [flat_cons,if_pos (by simp; omega)]
  simp only [Nat.zero_mul,List.drop_zero,List.getElem_cons_zero]
  rw [List.take_append_of_le_length (by omega),List.take_of_length_le (by omega)]
 | x :: es,i+1,hi,h=>by
  have hx:=h x (by simp)
  have hi':i<es.length:=by simpa using hi
  have ih:=flat_win hi' (fun e he=>h e (by simp [he]))
  have hl:(flat es).length=es.length * s:=flat_len (fun e he=>h e (List.mem_cons_of_mem _ he))
  unfold window at ih ⊢
  split at ih
  ·rename_i hc
   rw [flat_cons,if_pos (by simp; rw [Nat.add_mul]; omega)]
   injection ih with ih
   rw [List.getElem_cons_succ,←ih]
   have e:(i+1) * s=x.cells.length+i * s:=by rw [Nat.add_mul]; omega
   rw [e,List.drop_append,List.drop_of_length_le (by omega),List.nil_append,Nat.add_sub_cancel_left]
  ·cases ih
theorem flat_set {s:Nat} {v:AV} (hv:v.cells.length=s):∀ {es:List AV} {i:Nat} (hi:i<es.length),(∀ e∈es,e.cells.length=s)→setRun (flat es) (i * s) v.cells=flat (es.set i v)
 | x :: es,0,hi,h=>by
  have hx:=h x (by simp)
  rw [setRun_take _ _ _ (by rw [flat_cons]; simp; omega),flat_cons,List.set_cons_zero,flat_cons]
  simp only [Nat.zero_mul,List.take_zero,List.nil_append,Nat.zero_add]
  rw [List.drop_append,List.drop_of_length_le (by omega),hv,hx]; simp
 | x :: es,i+1,hi,h=>by
  have hx:=h x (by simp)
  have hi':i<es.length:=by simpa using hi
  have ih:=flat_set hv hi' (fun e he=>h e (by simp [he]))
  have hl:(flat es).length=es.length * s:=flat_len (fun e he=>h e (List.mem_cons_of_mem _ he))
  have hle:i * s+s≤es.length * s:=by rw [←Nat.succ_mul]; exact Nat.mul_le_mul_right _ hi'
  have hl':(flat es).length=es.length * s:=flat_len fun e he=>h e (by simp [he])
  rw [setRun_take _ _ _ (by omega)] at ih
  rw [setRun_take _ _ _ (by rw [flat_cons,zqJ,hl,Nat.add_mul]; omega),flat_cons,List.set_cons_succ,flat_cons,←ih]
  have e:(i+1) * s=x.cells.length+i * s:=by rw [Nat.add_mul]; omega
  rw [e,List.take_append,List.drop_append]
  simp only [zqP]
  rw [List.take_of_length_le (by omega),List.drop_of_length_le (by omega)]
  simp only [List.nil_append]
  congr 2
  ·rw [Nat.add_sub_cancel_left]
  ·congr 2
   omega
theorem flat_chunk {s:Nat}:∀ {es:List AV},(∀ e∈es,∃ cs,e=.agg cs∧cs.length=s)→chunk s true es.length (flat es)=some es
 | [],_=>rfl
 | x :: es,h=>by
  obtain ⟨cs,rfl,hl⟩:=h x (by simp)
  have ih:=flat_chunk (es:=es) (fun e he=>h e (List.mem_cons_of_mem _ he))
  simp only [zqU,chunk]
  rw [flat_cons]
  show ((mk true ((cs++flat es).take s)).bind _)=_
  rw [List.take_append_of_le_length (by omega),List.take_of_length_le (by omega)]
  show ((chunk s true es.length ((cs++flat es).drop s)).map _)=_
  rw [List.drop_append,List.drop_of_length_le (by omega),hl,Nat.sub_self,List.drop_zero,List.nil_append,ih]; rfl
theorem encsV_len (l:List GV):∀ e∈GV.encs l,e.cells.length=4:=fun e he=>by
 rw [GV.encs_map] at he; obtain ⟨v,_,rfl⟩:=List.mem_map.1 he; simp
def clo1n:AV→Bool
 | .isl _ true=>false
 | x=>x.clo1
theorem clo1n_all {l:List AV} (h:l.all clo1n=true):l.all AV.clo1=true∧l.map AV.nrm=l:=by
 induction l with
 | nil=>exact ⟨rfl,rfl⟩
 | cons x l ih=>
  simp only [List.all_cons,zqL] at h
  obtain ⟨h1,h2⟩:=ih h.2
  have hx:x.clo1=true∧x.nrm=x:=by
   have:=h.1
   cases x <;> first | exact ⟨rfl,rfl⟩ | (cases this; done) | skip
   rename_i es c
   cases c
   ·exact ⟨rfl,rfl⟩
   ·cases this
  exact ⟨by simp [h1,hx.1],by simp only [List.map_cons,hx.2,h2]⟩
theorem encsV_clo (l:List GV):(flat (GV.encs l)).all clo1n=true:=by
 rw [zqQ]; intro x hx
 obtain ⟨e,he,hxe⟩:=List.mem_flatMap.1 hx
 rw [GV.encs_map] at he; obtain ⟨v,_,rfl⟩:=List.mem_map.1 he
 rw [GV.enc_cells] at hxe
 simp at hxe; rcases hxe with rfl | rfl | rfl | rfl <;> rfl
theorem close1_flat {σ:Heap} {id s fz:Nat} {ext:Bool} {es:List AV} (h:σ[id]?=some (.cells (flat es) fz ext)) (hne:es≠[]) (ha:∀ e∈es,∃ cs,e=.agg cs∧cs.length=s) (hc:(flat es).all clo1n=true) :
  close1 σ (.sl id 0 es.length s true)=some (.isl es false,frz σ id (es.length * s)):=by
 have hl:∀ e∈es,e.cells.length=s:=fun e he=>by obtain ⟨cs,rfl,hl⟩:=ha e he; exact hl
 have h0:es.length≠0:=fun e=>hne (List.eq_nil_of_length_eq_zero e)
 apply close1_of0
 simp only [close0,if_neg h0,h]
 rw [window_full (flat_len hl),Option.bind_some,if_pos (clo1n_all hc).1,(clo1n_all hc).2,flat_chunk ha]
 simp
end Go.Mach
end
section
namespace Go.Mach
structure IsT (P:Program) (tT tTL tV tL tI tS:TypeId):Prop where
 fs:∃ fs:Array Field,P.underlying tT=some (.struct fs)∧fs.toList.map (·.type)=[tI,tS,tV,tTL]
 list:P.underlying tTL=some (.slice tT)
 val:IsV P tV tL tI tS
structure IsB (P:Program) (tB tBL tV tL tI tS:TypeId):Prop where
 fs:∃ fs:Array Field,P.underlying tB=some (.struct fs)∧fs.toList.map (·.type)=[tS,tV]
 list:P.underlying tBL=some (.slice tB)
 val:IsV P tV tL tI tS
def fieldTys (P:Program) (t:TypeId):Option (List TypeId):=match P.underlying t with
 | some (.struct fs)=>some (fs.toList.map (·.type))
 | _=>none
theorem fieldTys_some {P:Program} {t:TypeId} {l:List TypeId} (h:fieldTys P t=some l):∃ fs:Array Field,P.underlying t=some (.struct fs)∧fs.toList.map (·.type)=l:=by
 unfold fieldTys at h
 split at h
 ·rename_i fs hu; injection h with h; exact ⟨fs,hu,h⟩
 ·cases h
end Go.Mach
namespace Go.Proofs.Ytkfiepnkedcmgaa
open Go.Mach
end Go.Proofs.Ytkfiepnkedcmgaa
end
