import Derived.Test.YtjfgjnlocadpbaaGreatDoorC4
import Derived.Test.YtjfgjnlocadpbaaGreatDoorChecked
import Derived.Test.YtjfgjnlocadpbaaGreatDoorC3
import Derived.KernelRfl
import Derived.WalkKit
import Derived.Lib.Bytealg
import Derived.BigFrameIn
import Derived.Lib.Builder
import Derived.Lib.AppendStr
import Derived.Lib.UnsafeStr
import Derived.Lib.Walk
import Derived.BigRegion
import Derived.Laws.IdiomCopy
import Derived.Laws.Externs
import Derived.Shelf.Small.Strs
import Derived.Shelf.Strconv.Itoa0
import Derived.Shelf.Strconv.Itoa1
import Derived.Shelf.LaysM
import Derived.Shelf.Strconv.Itoa2
import Derived.Shelf.Strconv.Itoa3
import Derived.Test.YtjfgjnlocadpbaaGreatDoorProg
import Derived.Lib.LaidTab
import Derived.Test.YtjfgjnlocadpbaaGreatDoorRows
import Derived.Test.YtjfgjnlocadpbaaGreatDoorTie
import Derived.ProofKit
import Derived.OpenShut
import Derived.Deep.DeepHandedRow
import Derived.Lib.ItoaNum
import Derived.Stop.LaidErr
import Derived.Laws.RangeAny
set_option linter.unusedVariables false
set_option linter.unusedSimpArgs false
set_option linter.unnecessarySimpa false
section
namespace Go.Proofs.YtjfgjnlocadpbaaGreatDoor
open Go.Mach
def c58:AFunc:=⟨27,[.tmp 4],.seq (.region [oO 2 (.box (.t 0)),oO 4 (.mv (nI 0))]) (.seq (.seq (.region [oO 5 (.mv (nI 0))]) (.block 0 (.loop (.seq (.seq (.region [oM 6 5,oF 7 0 2,oL 8 1 7,oO 9 (.len false (.t 8)),oO 10 (.bin .lss (.t 6) (.t 9))]) (.cond (.t 10) (.skip) (.exit 0))) (.seq (.block 1 (.seq (.region [oF 13 0 2,oL 14 1 13,oM 15 5,oO 16 (.iaddrS 2 (.t 14) (.t 15)),oF 17 0 16,oL 18 1 17,oM 19 1,oO 20 (.bin .eql (.t 18) (.t 19))]) (.cond (.t 20) (.seq (.region [oF 21 0 2,oL 22 1 21,oM 23 5,oO 24 (.iaddrS 2 (.t 22) (.t 23)),oF 25 1 24,oL 26 1 25,oM 4 26]) (.ret)) (.skip)))) (.region [oM 11 5,oO 12 (.bin .add (.t 11) (nI 1)),oM 5 12])))))) (.seq (.region [oO 4 (.mv (nI 0))]) (.ret))),.pure,true,true⟩
theorem k58:compF Tryz.prog {mt:=false,mtAt:=[],mode:=.pure,clArgs:=true,clRes:=true} Tryz.f58=some c58:=by kernel_rfl
def c59:AFunc:=⟨108,[.tmp 4],.seq (.region [oO 2 (.box (.t 0)),oO 3 (.box (.t 1)),oO 4 (.mv (nI 0))]) (.seq (.seq (.region [oR 14 3 2,oF 15 1 3,oL 16 1 15,oF 18 2 3,oL 19 1 18,oO 20 (.len false (.t 19)),⟨(some 17),.call 58 [.t 14,.t 16],none,[.t 18]⟩,oO 21 (.bin .neq (.t 17) (.t 20))]) (.cond (.t 21) (.seq (.region [oO 4 (.mv (nI 60))]) (.ret)) (.skip))) (.seq (.seq (.region [oO 5 (.mv (nI 0))]) (.block 0 (.loop (.seq (.seq (.region [oM 22 5,oF 23 5 3,oL 24 1 23,oO 25 (.len false (.t 24)),oO 26 (.bin .lss (.t 22) (.t 25))]) (.cond (.t 26) (.skip) (.exit 0))) (.seq (.block 1 (.seq (.region [oF 29 5 3,oL 30 1 29,oM 31 5,oO 32 (.iaddrS 3 (.t 30) (.t 31)),oR 33 3 32,oO 6 (.alloc [.int .i64 0,.str ⟨#[]⟩,.isl [] true]),oU (.store 3 (.t 6) (.t 33))]) (.seq (.region [oF 34 0 6,oL 35 1 34,oO 36 (.bin .leq (.t 35) (nI 2)),oM 37 36,oG 38 (.load 3 true (.t 2)) 37 true,oG 39 (.faddr 1 (.t 6)) 37 true,oG 40 (.load 1 false (.t 39)) 37 true,oG 42 (.faddr 2 (.t 6)) 37 true,oG 43 (.load 1 false (.t 42)) 37 true,oG 44 (.len false (.t 43)) 37 true,⟨(some 41),.call 58 [.t 38,.t 40],(some (37,true)),[.t 42]⟩,oG 45 (.bin .neq (.t 41) (.t 44)) 37 true,oO 46 (.pick (.t 37) (.t 45) (.c (.bool false)))]) (.cond (.t 46) (.seq (.region [oO 4 (.mv (nI 60))]) (.ret)) (.skip))))) (.region [oM 27 5,oO 28 (.bin .add (.t 27) (nI 1)),oM 5 28])))))) (.seq (.region [oO 7 (.mv (.c (.isl [] true)))]) (.seq (.seq (.region [oO 8 (.mv (nI 0))]) (.block 2 (.loop (.seq (.seq (.region [oM 47 8,oF 48 5 3,oL 49 1 48,oO 50 (.len false (.t 49)),oO 51 (.bin .lss (.t 47) (.t 50))]) (.cond (.t 51) (.skip) (.exit 2))) (.seq (.block 3 (.seq (.region [oF 54 5 3,oL 55 1 54,oM 56 8,oO 57 (.iaddrS 3 (.t 55) (.t 56)),oR 58 3 57,oO 9 (.alloc [.int .i64 0,.str ⟨#[]⟩,.isl [] true]),oU (.store 3 (.t 9) (.t 58))]) (.seq (.seq (.region [oF 59 0 9,oL 60 1 59,oO 61 (.bin .eql (.t 60) (nI 1))]) (.cond (.t 61) (.seq (.region [oO 10 (.mv (nI 0))]) (.block 4 (.loop (.seq (.seq (.region [oM 62 10,oF 63 2 9,oL 64 1 63,oO 65 (.len false (.t 64)),oO 66 (.bin .lss (.t 62) (.t 65))]) (.cond (.t 66) (.skip) (.exit 4))) (.seq (.block 5 (.seq (.region [oF 69 2 9,oL 70 1 69,oM 71 10,oO 72 (.iaddrS 7 (.t 70) (.t 71)),oF 73 0 72,oL 74 1 73,oO 75 (.bin .eql (.t 74) (nI 1))]) (.cond (.t 75) (.region [oM 76 7,oF 77 2 9,oL 78 1 77,oM 79 10,oO 80 (.iaddrS 7 (.t 78) (.t 79)),oF 81 1 80,oL 82 1 81,oO 83 (.buildSl 1 1 false [.str ⟨#[]⟩] [(0,1,.t 82)]),oO 84 (.append 1 false 16 false (.t 76) (.t 83)),oM 7 84]) (.skip)))) (.region [oM 67 10,oO 68 (.bin .add (.t 67) (nI 1)),oM 10 68])))))) (.skip))) (.seq (.region [oF 85 2 9,oL 86 1 85,oM 87 7,oO 88 (.call 89 [.t 86,.t 87]),oM 11 88]) (.seq (.seq (.region [oM 89 11]) (.cond (.t 89) (.seq (.region [oO 4 (.mv (nI 61))]) (.ret)) (.skip))) (.seq (.region [oF 90 0 9,oL 91 1 90,oO 92 (.bin .eql (.t 91) (nI 4))]) (.cond (.t 92) (.seq (.region [oM 93 7,oF 94 1 9,oL 95 1 94,oO 96 (.call 90 [.t 93,.t 95]),oM 12 96]) (.seq (.seq (.region [oM 97 12]) (.cond (.t 97) (.seq (.region [oO 4 (.mv (nI 62))]) (.ret)) (.skip))) (.region [oM 98 7,oF 99 1 9,oL 100 1 99,oO 101 (.buildSl 1 1 false [.str ⟨#[]⟩] [(0,1,.t 100)]),oO 102 (.append 1 false 16 false (.t 98) (.t 101)),oM 7 102]))) (.skip)))))))) (.region [oM 52 8,oO 53 (.bin .add (.t 52) (nI 1)),oM 8 53])))))) (.seq (.region [oF 103 2 3,oL 104 1 103,oM 105 7,oO 106 (.call 89 [.t 104,.t 105]),oM 13 106]) (.seq (.seq (.region [oM 107 13]) (.cond (.t 107) (.seq (.region [oO 4 (.mv (nI 61))]) (.ret)) (.skip))) (.seq (.region [oO 4 (.mv (nI 0))]) (.ret)))))))),.pure,true,true⟩
theorem k59:compF Tryz.prog {mt:=false,mtAt:=[],mode:=.pure,clArgs:=true,clRes:=true} Tryz.f59=some c59:=by kernel_rfl
def c60:AFunc:=⟨89,[.tmp 2],.seq (.region [oO 1 (.box (.t 0)),oO 2 (.mv (.c (.bool false)))]) (.seq (.region [oF 9 0 1,oL 10 1 9,oO 11 (.call 87 [.t 10]),oM 3 11]) (.seq (.region [oF 12 1 1,oL 13 1 12,oO 14 (.call 87 [.t 13]),oM 4 14]) (.seq (.region [oF 15 2 1,oL 16 1 15,oO 17 (.call 91 [.t 16]),oM 5 17]) (.seq (.seq (.region [oM 18 3,oO 19 (.un .not (.t 18)),oM 20 19,oG 21 (.mv (.t 4)) 20 false,oG 22 (.un .not (.t 21)) 20 false,oO 23 (.pick (.t 20) (.c (.bool true)) (.t 22)),oM 24 23,oG 25 (.mv (.t 5)) 24 false,oG 26 (.un .not (.t 25)) 24 false,oO 27 (.pick (.t 24) (.c (.bool true)) (.t 26)),oM 28 27,oG 29 (.faddr 5 (.t 1)) 28 false,oG 30 (.load 1 false (.t 29)) 28 false,oG 31 (.len false (.t 30)) 28 false,oG 32 (.bin .lss (.t 31) (nI 1)) 28 false,oO 33 (.pick (.t 28) (.c (.bool true)) (.t 32)),oM 34 33,oG 35 (.faddr 5 (.t 1)) 34 false,oG 36 (.load 1 false (.t 35)) 34 false,oG 37 (.len false (.t 36)) 34 false,oG 38 (.bin .gtr (.t 37) (nI 8)) 34 false,oO 39 (.pick (.t 34) (.c (.bool true)) (.t 38))]) (.cond (.t 39) (.seq (.region [oO 2 (.mv (.c (.bool false)))]) (.ret)) (.skip))) (.seq (.seq (.region [oO 6 (.mv (nI 0))]) (.block 0 (.loop (.seq (.seq (.region [oM 40 6,oF 41 5 1,oL 42 1 41,oO 43 (.len false (.t 42)),oO 44 (.bin .lss (.t 40) (.t 43))]) (.cond (.t 44) (.skip) (.exit 0))) (.seq (.block 1 (.seq (.region [oF 47 5 1,oL 48 1 47,oM 49 6,oO 50 (.iaddrS 3 (.t 48) (.t 49)),oR 51 3 50,oO 52 (.call 92 [.t 51]),oM 7 52]) (.seq (.region [oM 53 7,oO 54 (.un .not (.t 53))]) (.cond (.t 54) (.seq (.region [oO 2 (.mv (.c (.bool false)))]) (.ret)) (.skip))))) (.region [oM 45 6,oO 46 (.bin .add (.t 45) (nI 1)),oM 6 46])))))) (.seq (.seq (.region [oF 55 3 1,oL 56 1 55,oO 57 (.bin .eql (.t 56) (.c (.str ⟨#[]⟩)))]) (.cond (.t 57) (.seq (.region [oF 58 4 1,oL 59 1 58,oO 60 (.bin .eql (.t 59) (nI 0)),oM 2 60]) (.ret)) (.skip))) (.seq (.region [oO 61 (.buildSl 3 1 false [.str ⟨#[]⟩,.str ⟨#[]⟩,.str ⟨#[]⟩] [(0,1,.c (.str ⟨#[109,105,110]⟩)),(1,1,.c (.str ⟨#[109,97,120]⟩)),(2,1,.c (.str ⟨#[99,111,117,110,116]⟩))]),oF 62 3 1,oL 63 1 62,oO 64 (.call 93 [.t 61,.t 63]),oM 8 64]) (.seq (.region [oM 65 8,oM 66 65,oG 67 (.faddr 4 (.t 1)) 66 true,oG 68 (.load 1 false (.t 67)) 66 true,oG 69 (.bin .geq (.t 68) (nI 1)) 66 true,oO 70 (.pick (.t 66) (.t 69) (.c (.bool false))),oM 71 70,oG 72 (.faddr 4 (.t 1)) 71 true,oG 73 (.load 1 false (.t 72)) 71 true,oG 74 (.faddr 2 (.t 1)) 71 true,oG 75 (.load 1 false (.t 74)) 71 true,oG 76 (.len false (.t 75)) 71 true,oG 77 (.bin .lss (.t 73) (.t 76)) 71 true,oO 78 (.pick (.t 71) (.t 77) (.c (.bool false))),oM 79 78,oG 80 (.faddr 2 (.t 1)) 79 true,oG 81 (.load 1 false (.t 80)) 79 true,oG 82 (.faddr 4 (.t 1)) 79 true,oG 83 (.load 1 false (.t 82)) 79 true,oG 84 (.iaddrS 7 (.t 81) (.t 83)) 79 true,oG 85 (.faddr 0 (.t 84)) 79 true,oG 86 (.load 1 false (.t 85)) 79 true,oG 87 (.bin .eql (.t 86) (nI 1)) 79 true,oO 88 (.pick (.t 79) (.t 87) (.c (.bool false))),oM 2 88]) (.ret))))))))),.pure,true,true⟩
theorem k60:compF Tryz.prog {mt:=false,mtAt:=[],mode:=.pure,clArgs:=true,clRes:=true} Tryz.f60=some c60:=by kernel_rfl
def c61:AFunc:=⟨20,[.tmp 2],.seq (.region [oO 2 (.mv (.c (.isl [] true)))]) (.seq (.region [oO 3 (.mv (.c (.isl [] true)))]) (.seq (.seq (.region [oO 4 (.mv (nI 0))]) (.block 0 (.loop (.seq (.seq (.region [oM 5 4,oM 6 0,oO 7 (.len false (.t 6)),oO 8 (.bin .lss (.t 5) (.t 7))]) (.cond (.t 8) (.skip) (.exit 0))) (.seq (.block 1 (.region [oM 11 3,oM 12 0,oM 13 4,oO 14 (.iaddrS 7 (.t 12) (.t 13)),oR 15 7 14,oO 16 (.call 94 [.t 15]),oO 17 (.buildSl 1 1 false [.str ⟨#[]⟩] [(0,1,.t 16)]),oO 18 (.append 1 false 16 true (.t 11) (.t 17)),oM 3 18])) (.region [oM 9 4,oO 10 (.bin .add (.t 9) (nI 1)),oM 4 10])))))) (.seq (.region [oM 19 3,oM 2 19]) (.ret)))),.raw,true,false⟩
theorem k61:compF Tryz.prog {mt:=true,mtAt:=[],mode:=.raw,clArgs:=true,clRes:=false} Tryz.f61=some c61:=by kernel_rfl
def c62:AFunc:=⟨48,[.tmp 2],.seq (.region [oO 1 (.box (.t 0)),oO 2 (.mv (.c (.str ⟨#[]⟩)))]) (.seq (.region [oR 5 3 1,oO 6 (.call 92 [.t 5]),oM 3 6]) (.seq (.seq (.region [oM 7 3,oO 8 (.un .not (.t 7))]) (.cond (.t 8) (.seq (.region [oO 2 (.mv (.c (.str ⟨#[]⟩)))]) (.ret)) (.skip))) (.seq (.region [oF 9 2 1,oL 10 1 9,oO 11 (.call 61 [.t 10]),oM 4 11]) (.seq (.seq (.region [oF 12 0 1,oL 13 1 12]) (.block 0 (.seq (.region [oO 15 (.bin .eql (.t 13) (nI 1)),oM 14 15]) (.cond (.t 14) (.seq (.region [oF 16 1 1,oL 17 1 16,oO 18 (.bin .add (.t 17) (.c (.str ⟨#[40,64]⟩))),oM 19 4,⟨(some 20),.call 63 [.t 19,.c (.str ⟨#[44]⟩)],none,[.t 16]⟩,oO 21 (.bin .add (.t 18) (.t 20)),oO 22 (.bin .add (.t 21) (.c (.str ⟨#[41]⟩))),oM 2 22]) (.ret)) (.seq (.region [oO 24 (.bin .eql (.t 13) (nI 2)),oM 23 24]) (.cond (.t 23) (.seq (.region [oF 25 1 1,oL 26 1 25,oO 27 (.bin .add (.c (.str ⟨#[33]⟩)) (.t 26)),oO 28 (.bin .add (.t 27) (.c (.str ⟨#[40,64]⟩))),oM 29 4,⟨(some 30),.call 63 [.t 29,.c (.str ⟨#[44]⟩)],none,[.t 25]⟩,oO 31 (.bin .add (.t 28) (.t 30)),oO 32 (.bin .add (.t 31) (.c (.str ⟨#[41]⟩))),oM 2 32]) (.ret)) (.seq (.region [oO 34 (.bin .eql (.t 13) (nI 3)),oM 33 34]) (.cond (.t 33) (.seq (.region [oM 35 4,oF 36 1 1,oL 37 1 36,oO 38 (.bin .add (.c (.str ⟨#[32]⟩)) (.t 37)),oO 39 (.bin .add (.t 38) (.c (.str ⟨#[32]⟩))),oO 40 (.call 63 [.t 35,.t 39]),oM 2 40]) (.ret)) (.skip))))))))) (.seq (.region [oF 41 1 1,oL 42 1 41,oO 43 (.bin .add (.t 42) (.c (.str ⟨#[32,58,61,32]⟩))),oM 44 4,oO 45 (.iaddrS 1 (.t 44) (nI 0)),oL 46 1 45,oO 47 (.bin .add (.t 43) (.t 46)),oM 2 47]) (.ret)))))),.pure,true,true⟩
theorem k62:compF Tryz.prog {mt:=false,mtAt:=[],mode:=.pure,clArgs:=true,clRes:=true} Tryz.f62=some c62:=by kernel_rfl
def c63:AFunc:=⟨25,[.tmp 4],.seq (.region [oO 4 (.mv (.c (.str ⟨#[]⟩)))]) (.seq (.region [oO 5 (.mv (.c (.str ⟨#[]⟩)))]) (.seq (.seq (.region [oO 6 (.mv (nI 0))]) (.block 0 (.loop (.seq (.seq (.region [oM 7 6,oM 8 0,oO 9 (.len false (.t 8)),oO 10 (.bin .lss (.t 7) (.t 9))]) (.cond (.t 10) (.skip) (.exit 0))) (.seq (.block 1 (.seq (.seq (.region [oM 13 6,oO 14 (.bin .gtr (.t 13) (nI 0))]) (.cond (.t 14) (.region [oM 15 5,oM 16 1,oO 17 (.bin .add (.t 15) (.t 16)),oM 5 17]) (.skip))) (.region [oM 18 5,oM 19 0,oM 20 6,oO 21 (.iaddrS 1 (.t 19) (.t 20)),oL 22 1 21,oO 23 (.bin .add (.t 18) (.t 22)),oM 5 23]))) (.region [oM 11 6,oO 12 (.bin .add (.t 11) (nI 1)),oM 6 12])))))) (.seq (.region [oM 24 5,oM 4 24]) (.ret)))),.pure,true,true⟩
theorem k63:compF Tryz.prog {mt:=false,mtAt:=[],mode:=.pure,clArgs:=true,clRes:=true} Tryz.f63=some c63:=by kernel_rfl
def c64:AFunc:=⟨9,[.tmp 4],.seq (.region [oO 3 (.box (.t 1)),oO 4 (.mv (.c (.bool false)))]) (.seq (.region [oM 5 0,oO 6 (.mkfn 96 [.t 3]),oO 7 (.call 95 [.t 5,.t 6]),oO 8 (.un .not (.t 7)),oM 4 8]) (.ret)),.gc,false,false⟩
theorem k64:compF Tryz.prog {mt:=false,mtAt:=[],mode:=.gc,clArgs:=false,clRes:=false} Tryz.f64=some c64:=by kernel_rfl
def c65:AFunc:=⟨31,[.tmp 2],.seq (.region [oO 1 (.box (.t 0)),oO 2 (.mv (.c (.bool false)))]) (.seq (.region [oF 4 1 1,oL 5 1 4,oO 6 (.len false (.t 5)),oM 3 6]) (.seq (.region [oF 7 0 1,oL 8 1 7,oO 9 (.call 69 [.t 8]),oM 10 9,oG 11 (.mv (.t 3)) 10 true,oG 12 (.bin .geq (.t 11) (nI 1)) 10 true,oO 13 (.pick (.t 10) (.t 12) (.c (.bool false))),oM 14 13,oG 15 (.mv (.t 3)) 14 true,oG 16 (.bin .leq (.t 15) (nI 8)) 14 true,oO 17 (.pick (.t 14) (.t 16) (.c (.bool false))),oM 18 17,oG 19 (.faddr 1 (.t 1)) 18 true,oG 20 (.load 1 false (.t 19)) 18 true,oG 21 (.iaddrS 4 (.t 20) (nI 0)) 18 true,oG 22 (.faddr 0 (.t 21)) 18 true,oG 23 (.load 1 false (.t 22)) 18 true,oG 24 (.bin .eql (.t 23) (nI 3)) 18 true,oO 25 (.pick (.t 18) (.t 24) (.c (.bool false))),oM 26 25,oG 27 (.faddr 1 (.t 1)) 26 true,oG 28 (.load 1 false (.t 27)) 26 true,oG 29 (.call 97 [.t 28,.f 98]) 26 true,oO 30 (.pick (.t 26) (.t 29) (.c (.bool false))),oM 2 30]) (.ret))),.pure,true,true⟩
theorem k65:compF Tryz.prog {mt:=false,mtAt:=[],mode:=.pure,clArgs:=true,clRes:=true} Tryz.f65=some c65:=by kernel_rfl
def c66:AFunc:=⟨9,[.tmp 4],.seq (.region [oO 3 (.box (.t 1)),oO 4 (.mv (.c (.bool false)))]) (.seq (.region [oM 5 0,oO 6 (.mkfn 100 [.t 3]),oO 7 (.call 99 [.t 5,.t 6]),oO 8 (.un .not (.t 7)),oM 4 8]) (.ret)),.gc,false,false⟩
theorem k66:compF Tryz.prog {mt:=false,mtAt:=[],mode:=.gc,clArgs:=false,clRes:=false} Tryz.f66=some c66:=by kernel_rfl
def c67:AFunc:=⟨9,[.tmp 4],.seq (.region [oO 3 (.box (.t 1)),oO 4 (.mv (.c (.bool false)))]) (.seq (.region [oM 5 0,oO 6 (.mkfn 102 [.t 3]),oO 7 (.call 101 [.t 5,.t 6]),oO 8 (.un .not (.t 7)),oM 4 8]) (.ret)),.gc,false,false⟩
theorem k67:compF Tryz.prog {mt:=false,mtAt:=[],mode:=.gc,clArgs:=false,clRes:=false} Tryz.f67=some c67:=by kernel_rfl
def c68:AFunc:=⟨16,[.tmp 2],.seq (.region [oO 1 (.box (.t 0)),oO 2 (.mv (.c (.bool false)))]) (.seq (.region [oF 3 0 1,oL 4 1 3,oO 5 (.call 69 [.t 4]),oM 6 5,oG 7 (.faddr 1 (.t 1)) 6 true,oG 8 (.load 1 false (.t 7)) 6 true,oG 9 (.bin .geq (.t 8) (nI 1)) 6 true,oO 10 (.pick (.t 6) (.t 9) (.c (.bool false))),oM 11 10,oG 12 (.faddr 1 (.t 1)) 11 true,oG 13 (.load 1 false (.t 12)) 11 true,oG 14 (.bin .leq (.t 13) (nI 8)) 11 true,oO 15 (.pick (.t 11) (.t 14) (.c (.bool false))),oM 2 15]) (.ret)),.pure,true,true⟩
theorem k68:compF Tryz.prog {mt:=false,mtAt:=[],mode:=.pure,clArgs:=true,clRes:=true} Tryz.f68=some c68:=by kernel_rfl
def c69:AFunc:=⟨14,[.tmp 2],.seq (.region [oO 2 (.mv (.c (.bool false)))]) (.seq (.region [oM 3 0,oO 4 (.call 103 [.t 3]),oM 5 4,oG 6 (.mv (.t 0)) 5 true,oG 7 (.call 104 [.t 6]) 5 true,oG 8 (.bin .lss (.t 7) (nI 0)) 5 true,oO 9 (.pick (.t 5) (.t 8) (.c (.bool false))),oM 10 9,oG 11 (.mv (.t 0)) 10 true,oG 12 (.bin .neq (.t 11) (.c (.str ⟨#[109,97,116,101,114,105,97,108,105,122,101]⟩))) 10 true,oO 13 (.pick (.t 10) (.t 12) (.c (.bool false))),oM 2 13]) (.ret)),.pure,true,true⟩
theorem k69:compF Tryz.prog {mt:=false,mtAt:=[],mode:=.pure,clArgs:=true,clRes:=true} Tryz.f69=some c69:=by kernel_rfl
def c70:AFunc:=⟨19,[.tmp 4],.seq (.region [oO 4 (.mv (nI 0))]) (.seq (.seq (.region [oM 6 0,oO 7 (.len false (.t 6)),oO 8 (.mv (nI 0))]) (.block 0 (.loop (.seq (.region [oO 9 (.bin .lss (.t 8) (.t 7))]) (.seq (.cond (.t 9) (.skip) (.exit 0)) (.seq (.block 1 (.seq (.region [oM 10 8,oM 5 10]) (.seq (.region [oM 11 1,oM 12 0,oM 13 5,oO 14 (.iaddrS 2 (.t 12) (.t 13)),oR 15 2 14,oO 16 (.callv (.t 11) [.t 15])]) (.cond (.t 16) (.seq (.region [oM 17 5,oM 4 17]) (.ret)) (.skip))))) (.region [oO 18 (.bin .add (.t 8) (nI 1)),oM 8 18]))))))) (.seq (.region [oO 4 (.mv (nI (-1)))]) (.ret))),.gc,false,false⟩
theorem k70:compF Tryz.prog {mt:=false,mtAt:=[],mode:=.gc,clArgs:=false,clRes:=false} Tryz.f70=some c70:=by kernel_rfl
def c71:AFunc:=⟨8,[.tmp 3],.seq (.region [oO 2 (.box (.t 0)),oO 3 (.mv (.c (.bool false)))]) (.seq (.region [oF 4 0 2,oL 5 1 4,oL 6 1 1,oO 7 (.bin .eql (.t 5) (.t 6)),oM 3 7]) (.ret)),.gc,false,false⟩
theorem k71:compF Tryz.prog {mt:=false,mtAt:=[],mode:=.gc,clArgs:=false,clRes:=false} Tryz.f71=some c71:=by kernel_rfl
def c72:AFunc:=⟨20,[.tmp 4],.seq (.region [oO 2 (.box (.t 0)),oO 3 (.box (.t 1)),oO 4 (.mv (.c (.bool false)))]) (.seq (.region [oR 5 3 2,oF 6 1 3,oL 7 1 6,oF 9 2 3,oL 10 1 9,oO 11 (.len false (.t 10)),⟨(some 8),.call 43 [.t 5,.t 7],none,[.t 9]⟩,oO 12 (.bin .eql (.t 8) (.t 11)),oM 13 12,oG 14 (.faddr 5 (.t 3)) 13 true,oG 15 (.load 1 false (.t 14)) 13 true,oG 16 (.mkfn 106 [.t 2]) 13 true,oG 17 (.call 105 [.t 15,.t 16]) 13 true,oG 18 (.un .not (.t 17)) 13 true,oO 19 (.pick (.t 13) (.t 18) (.c (.bool false))),oM 4 19]) (.ret)),.pure,true,true⟩
theorem k72:compF Tryz.prog {mt:=false,mtAt:=[],mode:=.pure,clArgs:=true,clRes:=true} Tryz.f72=some c72:=by kernel_rfl
def c73:AFunc:=⟨42,[.tmp 4],.seq (.region [oO 3 (.box (.t 1)),oO 4 (.mv (nI 0))]) (.seq (.seq (.region [oF 7 0 3,oL 8 1 7,oO 9 (.bin .eql (.t 8) (nI 1))]) (.cond (.t 9) (.seq (.region [oF 10 2 3,oL 11 1 10,oO 12 (.len false (.t 11)),oO 13 (.mv (nI 0))]) (.block 0 (.loop (.seq (.region [oO 14 (.bin .lss (.t 13) (.t 12))]) (.seq (.cond (.t 14) (.skip) (.exit 0)) (.seq (.block 1 (.seq (.region [oO 15 (.iaddrS 7 (.t 11) (.t 13)),oR 16 7 15,oO 6 (.alloc [.int .i64 0,.str ⟨#[]⟩,.int .i64 0,.int .i64 0,.str ⟨#[]⟩,.isl [] true,.isl [] true]),oU (.store 7 (.t 6) (.t 16))]) (.seq (.region [oF 17 0 6,oL 18 1 17,oO 19 (.bin .eql (.t 18) (nI 1))]) (.cond (.t 19) (.region [oM 20 0,oF 21 1 6,oL 22 1 21,oU (.mset false [2] (.t 20) (.t 22) (.c (.bool true)))]) (.skip))))) (.region [oO 23 (.bin .add (.t 13) (nI 1)),oM 13 23]))))))) (.skip))) (.seq (.block 2 (.seq (.region [oM 25 0,oF 26 2 3,oL 27 1 26,oO 28 (.call 74 [.t 25,.t 27]),oO 29 (.un .not (.t 28)),oM 24 29]) (.cond (.t 24) (.seq (.region [oO 4 (.mv (nI 61))]) (.ret)) (.seq (.region [oF 31 0 3,oL 32 1 31,oO 33 (.bin .neq (.t 32) (nI 4)),oM 30 33]) (.cond (.t 30) (.seq (.region [oO 4 (.mv (nI 0))]) (.ret)) (.seq (.region [oM 35 0,oF 36 1 3,oL 37 1 36,oO 38 (.mlook false [2] (.bool false) false (.t 35) (.t 37)),oM 34 38]) (.cond (.t 34) (.seq (.region [oO 4 (.mv (nI 62))]) (.ret)) (.skip)))))))) (.seq (.region [oM 39 0,oF 40 1 3,oL 41 1 40,oU (.mset false [2] (.t 39) (.t 41) (.c (.bool true)))]) (.seq (.region [oO 4 (.mv (nI 0))]) (.ret))))),.gc,true,true⟩
theorem k73:compF Tryz.prog {mt:=false,mtAt:=[],mode:=.gc,clArgs:=true,clRes:=true} Tryz.f73=some c73:=by kernel_rfl
noncomputable def c74:AFunc:=⟨13,[.cell 4 1 false],
 .seq (.region [
  ⟨(some 2),.box (.t 0),none,[]⟩,
  ⟨(some 4),.alloc [.bool false],none,[]⟩]) (
 .seq (.seq (.region [
  ⟨(some 6),.mv (.t 1),none,[]⟩,
  ⟨(some 7),.call 107 [.t 6],none,[]⟩]) (
 .block 0 (
  .rfn (.t 7) (rcOf Tryz.f74)))) (
 .seq (.region [
  ⟨none,.store 1 (.t 4) (.c (.bool true)),none,[]⟩]) (
 .ret))),
 .gc,true,true⟩
theorem k74:compF Tryz.prog {mt:=false,mtAt:=[],mode:=.gc,clArgs:=true,clRes:=true} Tryz.f74=some c74:=by kernel_rfl
def c76:AFunc:=⟨36,[.tmp 2],.seq (.region [oO 2 (.mv (.c (.bool false)))]) (.seq (.seq (.region [oM 3 0,oO 4 (.len false (.t 3)),oO 5 (.bin .lss (.t 4) (nI 1)),oM 6 5,oG 7 (.mv (.t 0)) 6 false,oG 8 (.len false (.t 7)) 6 false,oG 9 (.bin .gtr (.t 8) (nI 8)) 6 false,oO 10 (.pick (.t 6) (.c (.bool true)) (.t 9)),oM 11 10,oG 12 (.mv (.t 0)) 11 false,oG 13 (.call 108 [.t 12,.f 109]) 11 false,oG 14 (.un .not (.t 13)) 11 false,oO 15 (.pick (.t 11) (.c (.bool true)) (.t 14))]) (.cond (.t 15) (.seq (.region [oO 2 (.mv (.c (.bool false)))]) (.ret)) (.skip))) (.seq (.region [oM 16 0,oO 17 (.iaddrS 7 (.t 16) (nI 0)),oF 18 0 17,oL 19 1 18,oO 20 (.bin .eql (.t 19) (nI 1)),oM 21 20,oG 22 (.mv (.t 0)) 21 false,oG 23 (.iaddrS 7 (.t 22) (nI 0)) 21 false,oG 24 (.faddr 0 (.t 23)) 21 false,oG 25 (.load 1 false (.t 24)) 21 false,oG 26 (.bin .eql (.t 25) (nI 2)) 21 false,oG 27 (.mv (.t 26)) 21 false,oG 28 (.mv (.t 0)) 27 true,oG 29 (.iaddrS 7 (.t 28) (nI 0)) 27 true,oG 30 (.faddr 2 (.t 29)) 27 true,oG 31 (.faddr 0 (.t 30)) 27 true,oG 32 (.load 1 false (.t 31)) 27 true,oG 33 (.bin .eql (.t 32) (nI 3)) 27 true,oG 34 (.pick (.t 27) (.t 33) (.c (.bool false))) 21 false,oO 35 (.pick (.t 21) (.c (.bool true)) (.t 34)),oM 2 35]) (.ret))),.pure,true,true⟩
theorem k76:compF Tryz.prog {mt:=false,mtAt:=[],mode:=.pure,clArgs:=true,clRes:=true} Tryz.f76=some c76:=by kernel_rfl
def c77:AFunc:=⟨9,[.tmp 4],.seq (.region [oO 3 (.box (.t 1)),oO 4 (.mv (.c (.bool false)))]) (.seq (.region [oM 5 0,oO 6 (.mkfn 110 [.t 3]),oO 7 (.call 105 [.t 5,.t 6]),oO 8 (.un .not (.t 7)),oM 4 8]) (.ret)),.gc,false,false⟩
theorem k77:compF Tryz.prog {mt:=false,mtAt:=[],mode:=.gc,clArgs:=false,clRes:=false} Tryz.f77=some c77:=by kernel_rfl
def c78:AFunc:=⟨49,[.tmp 2],.seq (.region [oO 1 (.box (.t 0)),oO 2 (.mv (.c (.bool false)))]) (.seq (.seq (.region [oF 3 0 1,oL 4 1 3]) (.block 0 (.seq (.seq (.region [oO 6 (.bin .eql (.t 4) (nI 1)),oM 5 6]) (.cond (.t 5) (.skip) (.region [oO 7 (.bin .eql (.t 4) (nI 2)),oM 5 7]))) (.cond (.t 5) (.seq (.region [oF 8 1 1,oL 9 1 8,oO 10 (.call 69 [.t 9]),oM 11 10,oG 12 (.faddr 2 (.t 1)) 11 true,oG 13 (.load 1 false (.t 12)) 11 true,oG 14 (.call 76 [.t 13]) 11 true,oO 15 (.pick (.t 11) (.t 14) (.c (.bool false))),oM 2 15]) (.ret)) (.seq (.region [oO 17 (.bin .eql (.t 4) (nI 3)),oM 16 17]) (.cond (.t 16) (.seq (.region [oO 18 (.buildSl 6 1 false [.str ⟨#[]⟩,.str ⟨#[]⟩,.str ⟨#[]⟩,.str ⟨#[]⟩,.str ⟨#[]⟩,.str ⟨#[]⟩] [(0,1,.c (.str ⟨#[61,61]⟩)),(1,1,.c (.str ⟨#[33,61]⟩)),(2,1,.c (.str ⟨#[60]⟩)),(3,1,.c (.str ⟨#[60,61]⟩)),(4,1,.c (.str ⟨#[62]⟩)),(5,1,.c (.str ⟨#[62,61]⟩))]),oF 19 1 1,oL 20 1 19,oO 21 (.call 48 [.t 18,.t 20]),oM 22 21,oG 23 (.faddr 2 (.t 1)) 22 true,oG 24 (.load 1 false (.t 23)) 22 true,oG 25 (.len false (.t 24)) 22 true,oG 26 (.bin .eql (.t 25) (nI 2)) 22 true,oO 27 (.pick (.t 22) (.t 26) (.c (.bool false))),oM 28 27,oG 29 (.faddr 2 (.t 1)) 28 true,oG 30 (.load 1 false (.t 29)) 28 true,oG 31 (.call 108 [.t 30,.f 109]) 28 true,oO 32 (.pick (.t 28) (.t 31) (.c (.bool false))),oM 2 32]) (.ret)) (.seq (.region [oO 34 (.bin .eql (.t 4) (nI 4)),oM 33 34]) (.cond (.t 33) (.seq (.region [oF 35 1 1,oL 36 1 35,oO 37 (.call 111 [.t 36]),oM 38 37,oG 39 (.faddr 2 (.t 1)) 38 true,oG 40 (.load 1 false (.t 39)) 38 true,oG 41 (.len false (.t 40)) 38 true,oG 42 (.bin .eql (.t 41) (nI 1)) 38 true,oO 43 (.pick (.t 38) (.t 42) (.c (.bool false))),oM 44 43,oG 45 (.faddr 2 (.t 1)) 44 true,oG 46 (.load 1 false (.t 45)) 44 true,oG 47 (.call 108 [.t 46,.f 109]) 44 true,oO 48 (.pick (.t 44) (.t 47) (.c (.bool false))),oM 2 48]) (.ret)) (.skip))))))))) (.seq (.region [oO 2 (.mv (.c (.bool false)))]) (.ret))),.pure,true,true⟩
theorem k78:compF Tryz.prog {mt:=false,mtAt:=[],mode:=.pure,clArgs:=true,clRes:=true} Tryz.f78=some c78:=by kernel_rfl
def c80:AFunc:=⟨24,[],.seq (.region [oO 5 (.box (.t 0)),oO 8 (.box (.t 3)),oO 9 (.box (.t 4))]) (.seq (.region [oL 10 1 5,oO 11 (.nilck (.t 10)),oF 12 0 11,oM 13 1,oO 14 (.bin .add (.t 13) (.c (.str ⟨#[40,64]⟩))),oO 15 (.call 79 [.t 12,.t 14])]) (.seq (.region [oL 16 1 5,oM 17 2,oO 18 (.mkfn 114 [.t 8,.t 9,.t 5]),oO 19 (.call 113 [.t 16,.t 17,.c (.str ⟨#[44]⟩),.t 18])]) (.region [oL 20 1 5,oO 21 (.nilck (.t 20)),oF 22 0 21,oO 23 (.call 84 [.t 22,.c (.int .u8 41)])]))),.gc,false,false⟩
theorem k80:compF Tryz.prog {mt:=false,mtAt:=[],mode:=.gc,clArgs:=false,clRes:=false} Tryz.f80=some c80:=by kernel_rfl
def c81:AFunc:=⟨29,[],.seq (.region [oM 10 1,oO 11 (.len false (.t 10)),oO 12 (.mv (nI 0))]) (.block 0 (.loop (.seq (.region [oO 13 (.bin .lss (.t 12) (.t 11))]) (.seq (.cond (.t 13) (.skip) (.exit 0)) (.seq (.block 1 (.seq (.region [oM 14 12,oO 15 (.iaddrS 3 (.t 10) (.t 12)),oR 16 3 15,oO 9 (.alloc [.int .i64 0,.str ⟨#[]⟩,.isl [] true]),oM 8 14,oU (.store 3 (.t 9) (.t 16))]) (.seq (.seq (.region [oM 17 8,oO 18 (.bin .gtr (.t 17) (nI 0))]) (.cond (.t 18) (.region [oM 19 0,oO 20 (.nilck (.t 19)),oF 21 0 20,oM 22 2,oO 23 (.call 79 [.t 21,.t 22])]) (.skip))) (.region [oM 24 3,oM 25 8,oR 26 3 9,oO 27 (.callv (.t 24) [.t 25,.t 26])])))) (.region [oO 28 (.bin .add (.t 12) (nI 1)),oM 12 28])))))),.gc,false,false⟩
theorem k81:compF Tryz.prog {mt:=false,mtAt:=[],mode:=.gc,clArgs:=false,clRes:=false} Tryz.f81=some c81:=by kernel_rfl
def c82:AFunc:=⟨8,[],.seq (.region [oO 4 (.box (.t 1))]) (.region [oL 5 1 2,oR 6 3 4,oO 7 (.call 83 [.t 5,.t 6])]),.gc,false,false⟩
theorem k82:compF Tryz.prog {mt:=false,mtAt:=[],mode:=.gc,clArgs:=false,clRes:=false} Tryz.f82=some c82:=by kernel_rfl
def c83:AFunc:=⟨44,[],.seq (.region [oO 2 (.box (.t 0)),oO 3 (.box (.t 1))]) (.seq (.seq (.region [oF 4 0 3,oL 5 1 4]) (.block 0 (.seq (.region [oO 7 (.bin .eql (.t 5) (nI 3)),oM 6 7]) (.cond (.t 6) (.seq (.region [oL 8 1 2,oF 9 2 3,oL 10 1 9,oF 11 1 3,oL 12 1 11,oO 13 (.bin .add (.c (.str ⟨#[32]⟩)) (.t 12)),oO 14 (.bin .add (.t 13) (.c (.str ⟨#[32]⟩))),oO 15 (.mkfn 116 [.t 2]),oO 16 (.call 113 [.t 8,.t 10,.t 14,.t 15])]) (.ret)) (.seq (.region [oO 18 (.bin .eql (.t 5) (nI 4)),oM 17 18]) (.cond (.t 17) (.seq (.region [oL 19 1 2,oO 20 (.nilck (.t 19)),oF 21 0 20,oF 22 1 3,oL 23 1 22,oO 24 (.bin .add (.t 23) (.c (.str ⟨#[32,58,61,32]⟩))),oO 25 (.call 79 [.t 21,.t 24])]) (.seq (.region [oL 26 1 2,oF 27 2 3,oL 28 1 27,oO 29 (.iaddrS 7 (.t 28) (nI 0)),oR 30 7 29,oO 31 (.call 115 [.t 26,.t 30])]) (.ret))) (.seq (.region [oO 33 (.bin .eql (.t 5) (nI 2)),oM 32 33]) (.cond (.t 32) (.region [oL 34 1 2,oO 35 (.nilck (.t 34)),oF 36 0 35,oO 37 (.call 84 [.t 36,.c (.int .u8 33)])]) (.skip))))))))) (.region [oL 38 1 2,oF 39 1 3,oL 40 1 39,oF 41 2 3,oL 42 1 41,oO 43 (.call 80 [.t 38,.t 40,.t 42,.c (.str ⟨#[]⟩),nI 0])])),.gc,false,false⟩
theorem k83:compF Tryz.prog {mt:=false,mtAt:=[],mode:=.gc,clArgs:=false,clRes:=false} Tryz.f83=some c83:=by kernel_rfl
def c85:AFunc:=⟨19,[.tmp 4],.seq (.region [oO 4 (.mv (nI 0))]) (.seq (.seq (.region [oM 6 0,oO 7 (.len false (.t 6)),oO 8 (.mv (nI 0))]) (.block 0 (.loop (.seq (.region [oO 9 (.bin .lss (.t 8) (.t 7))]) (.seq (.cond (.t 9) (.skip) (.exit 0)) (.seq (.block 1 (.seq (.region [oM 10 8,oM 5 10]) (.seq (.region [oM 11 1,oM 12 0,oM 13 5,oO 14 (.iaddrS 1 (.t 12) (.t 13)),oL 15 1 14,oO 16 (.bin .eql (.t 11) (.t 15))]) (.cond (.t 16) (.seq (.region [oM 17 5,oM 4 17]) (.ret)) (.skip))))) (.region [oO 18 (.bin .add (.t 8) (nI 1)),oM 8 18]))))))) (.seq (.region [oO 4 (.mv (nI (-1)))]) (.ret))),.pure,true,true⟩
theorem k85:compF Tryz.prog {mt:=false,mtAt:=[],mode:=.pure,clArgs:=true,clRes:=true} Tryz.f85=some c85:=by kernel_rfl
def c86:AFunc:=⟨13,[.tmp 4],.seq (.region [oO 4 (.mv (nI 0))]) (.seq (.seq (.region [oM 5 0,oO 6 (.bin .lss (.t 5) (nI 0))]) (.cond (.t 6) (.region [oM 7 0,oO 8 (.bin .add (.t 7) (nI 1)),oO 9 (.un .neg (.t 8)),oM 0 9]) (.skip))) (.seq (.region [oM 10 0,oM 11 1,oO 12 (.bin .rem (.t 10) (.t 11)),oM 4 12]) (.ret))),.pure,true,true⟩
theorem k86:compF Tryz.prog {mt:=false,mtAt:=[],mode:=.pure,clArgs:=true,clRes:=true} Tryz.f86=some c86:=by kernel_rfl
def c87:AFunc:=⟨16,[.tmp 2],.seq (.region [oO 2 (.mv (.c (.bool false)))]) (.seq (.region [oM 4 0,oO 5 (.call 117 [.t 4]),oM 3 5]) (.seq (.region [oM 6 3,oM 7 6,oG 8 (.mv (.t 0)) 7 true,oG 9 (.call 53 [.t 8]) 7 true,oG 10 (.bin .lss (.t 9) (nI 0)) 7 true,oO 11 (.pick (.t 7) (.t 10) (.c (.bool false))),oM 12 11,oG 13 (.mv (.t 0)) 12 true,oG 14 (.bin .neq (.t 13) (.c (.str ⟨#[109,97,116,101,114,105,97,108,105,122,101]⟩))) 12 true,oO 15 (.pick (.t 12) (.t 14) (.c (.bool false))),oM 2 15]) (.ret))),.pure,true,true⟩
theorem k87:compF Tryz.prog {mt:=false,mtAt:=[],mode:=.pure,clArgs:=true,clRes:=true} Tryz.f87=some c87:=by kernel_rfl
def c88:AFunc:=⟨46,[.tmp 2],.seq (.region [oO 1 (.box (.t 0)),oO 2 (.mv (.c (.bool false)))]) (.seq (.region [oF 6 0 1,oL 7 1 6,oO 8 (.call 87 [.t 7]),oM 3 8]) (.seq (.seq (.region [oM 9 3,oO 10 (.un .not (.t 9)),oM 11 10,oG 12 (.faddr 1 (.t 1)) 11 false,oG 13 (.load 1 false (.t 12)) 11 false,oG 14 (.len false (.t 13)) 11 false,oG 15 (.bin .lss (.t 14) (nI 1)) 11 false,oO 16 (.pick (.t 11) (.c (.bool true)) (.t 15)),oM 17 16,oG 18 (.faddr 1 (.t 1)) 17 false,oG 19 (.load 1 false (.t 18)) 17 false,oG 20 (.len false (.t 19)) 17 false,oG 21 (.bin .gtr (.t 20) (nI 8)) 17 false,oO 22 (.pick (.t 17) (.c (.bool true)) (.t 21)),oM 23 22,oG 24 (.faddr 1 (.t 1)) 23 false,oG 25 (.load 1 false (.t 24)) 23 false,oG 26 (.iaddrS 4 (.t 25) (nI 0)) 23 false,oG 27 (.faddr 0 (.t 26)) 23 false,oG 28 (.load 1 false (.t 27)) 23 false,oG 29 (.bin .neq (.t 28) (nI 3)) 23 false,oO 30 (.pick (.t 23) (.c (.bool true)) (.t 29))]) (.cond (.t 30) (.seq (.region [oO 2 (.mv (.c (.bool false)))]) (.ret)) (.skip))) (.seq (.seq (.region [oO 4 (.mv (nI 0))]) (.block 0 (.loop (.seq (.seq (.region [oM 31 4,oF 32 1 1,oL 33 1 32,oO 34 (.len false (.t 33)),oO 35 (.bin .lss (.t 31) (.t 34))]) (.cond (.t 35) (.skip) (.exit 0))) (.seq (.block 1 (.seq (.region [oF 38 1 1,oL 39 1 38,oM 40 4,oO 41 (.iaddrS 4 (.t 39) (.t 40)),oR 42 4 41,oO 43 (.call 118 [.t 42]),oM 5 43]) (.seq (.region [oM 44 5,oO 45 (.un .not (.t 44))]) (.cond (.t 45) (.seq (.region [oO 2 (.mv (.c (.bool false)))]) (.ret)) (.skip))))) (.region [oM 36 4,oO 37 (.bin .add (.t 36) (nI 1)),oM 4 37])))))) (.seq (.region [oO 2 (.mv (.c (.bool true)))]) (.ret))))),.pure,true,true⟩
theorem k88:compF Tryz.prog {mt:=false,mtAt:=[],mode:=.pure,clArgs:=true,clRes:=true} Tryz.f88=some c88:=by kernel_rfl
def c89:AFunc:=⟨34,[.tmp 4],.seq (.region [oO 4 (.mv (.c (.bool false)))]) (.seq (.seq (.region [oO 5 (.mv (nI 0))]) (.block 0 (.loop (.seq (.seq (.region [oM 9 5,oM 10 0,oO 11 (.len false (.t 10)),oO 12 (.bin .lss (.t 9) (.t 11))]) (.cond (.t 12) (.skip) (.exit 0))) (.seq (.block 1 (.seq (.region [oM 15 0,oM 16 5,oO 17 (.iaddrS 7 (.t 15) (.t 16)),oR 18 7 17,oO 19 (.call 119 [.t 18]),oM 6 19]) (.seq (.region [oO 7 (.mv (nI 0))]) (.block 2 (.loop (.seq (.seq (.region [oM 20 7,oM 21 6,oO 22 (.len false (.t 21)),oO 23 (.bin .lss (.t 20) (.t 22))]) (.cond (.t 23) (.skip) (.exit 2))) (.seq (.block 3 (.seq (.region [oM 26 1,oM 27 6,oM 28 7,oO 29 (.iaddrS 1 (.t 27) (.t 28)),oL 30 1 29,oO 31 (.call 90 [.t 26,.t 30]),oM 8 31]) (.seq (.region [oM 32 8,oO 33 (.un .not (.t 32))]) (.cond (.t 33) (.seq (.region [oO 4 (.mv (.c (.bool true)))]) (.ret)) (.skip))))) (.region [oM 24 7,oO 25 (.bin .add (.t 24) (nI 1)),oM 7 25])))))))) (.region [oM 13 5,oO 14 (.bin .add (.t 13) (nI 1)),oM 5 14])))))) (.seq (.region [oO 4 (.mv (.c (.bool false)))]) (.ret))),.pure,true,true⟩
theorem k89:compF Tryz.prog {mt:=false,mtAt:=[],mode:=.pure,clArgs:=true,clRes:=true} Tryz.f89=some c89:=by kernel_rfl
def c90:AFunc:=⟨18,[.tmp 4],.seq (.region [oO 4 (.mv (.c (.bool false)))]) (.seq (.seq (.region [oO 5 (.mv (nI 0))]) (.block 0 (.loop (.seq (.seq (.region [oM 6 5,oM 7 0,oO 8 (.len false (.t 7)),oO 9 (.bin .lss (.t 6) (.t 8))]) (.cond (.t 9) (.skip) (.exit 0))) (.seq (.block 1 (.seq (.region [oM 12 0,oM 13 5,oO 14 (.iaddrS 1 (.t 12) (.t 13)),oL 15 1 14,oM 16 1,oO 17 (.bin .eql (.t 15) (.t 16))]) (.cond (.t 17) (.seq (.region [oO 4 (.mv (.c (.bool true)))]) (.ret)) (.skip)))) (.region [oM 10 5,oO 11 (.bin .add (.t 10) (nI 1)),oM 5 11])))))) (.seq (.region [oO 4 (.mv (.c (.bool false)))]) (.ret))),.pure,true,true⟩
theorem k90:compF Tryz.prog {mt:=false,mtAt:=[],mode:=.pure,clArgs:=true,clRes:=true} Tryz.f90=some c90:=by kernel_rfl
def c91:AFunc:=⟨39,[.tmp 2],.seq (.region [oO 2 (.mv (.c (.bool false)))]) (.seq (.region [oM 4 0,oO 5 (.call 120 [.t 4]),oM 3 5]) (.seq (.region [oM 6 3,oM 7 6,oG 8 (.mv (.t 0)) 7 true,oG 9 (.len false (.t 8)) 7 true,oG 10 (.bin .geq (.t 9) (nI 1)) 7 true,oO 11 (.pick (.t 7) (.t 10) (.c (.bool false))),oM 12 11,oG 13 (.mv (.t 0)) 12 true,oG 14 (.len false (.t 13)) 12 true,oG 15 (.bin .leq (.t 14) (nI 8)) 12 true,oO 16 (.pick (.t 12) (.t 15) (.c (.bool false))),oM 17 16,oG 18 (.mv (.t 0)) 17 true,oG 19 (.iaddrS 7 (.t 18) (nI 0)) 17 true,oG 20 (.faddr 0 (.t 19)) 17 true,oG 21 (.load 1 false (.t 20)) 17 true,oG 22 (.bin .eql (.t 21) (nI 1)) 17 true,oG 23 (.mv (.t 22)) 17 true,oG 24 (.mv (.t 0)) 23 false,oG 25 (.iaddrS 7 (.t 24) (nI 0)) 23 false,oG 26 (.faddr 0 (.t 25)) 23 false,oG 27 (.load 1 false (.t 26)) 23 false,oG 28 (.bin .eql (.t 27) (nI 2)) 23 false,oG 29 (.mv (.t 28)) 23 false,oG 30 (.mv (.t 0)) 29 true,oG 31 (.iaddrS 7 (.t 30) (nI 0)) 29 true,oG 32 (.faddr 2 (.t 31)) 29 true,oG 33 (.faddr 0 (.t 32)) 29 true,oG 34 (.load 1 false (.t 33)) 29 true,oG 35 (.bin .eql (.t 34) (nI 3)) 29 true,oG 36 (.pick (.t 29) (.t 35) (.c (.bool false))) 23 false,oG 37 (.pick (.t 23) (.c (.bool true)) (.t 36)) 17 true,oO 38 (.pick (.t 17) (.t 37) (.c (.bool false))),oM 2 38]) (.ret))),.pure,true,true⟩
theorem k91:compF Tryz.prog {mt:=false,mtAt:=[],mode:=.pure,clArgs:=true,clRes:=true} Tryz.f91=some c91:=by kernel_rfl
def c92:AFunc:=⟨61,[.tmp 2],.seq (.region [oO 1 (.box (.t 0)),oO 2 (.mv (.c (.bool false)))]) (.seq (.seq (.region [oF 9 0 1,oL 10 1 9]) (.block 0 (.seq (.seq (.region [oO 12 (.bin .eql (.t 10) (nI 1)),oM 11 12]) (.cond (.t 11) (.skip) (.region [oO 13 (.bin .eql (.t 10) (nI 2)),oM 11 13]))) (.cond (.t 11) (.seq (.region [oF 14 1 1,oL 15 1 14,oO 16 (.call 87 [.t 15]),oM 3 16]) (.seq (.region [oF 17 2 1,oL 18 1 17,oO 19 (.call 91 [.t 18]),oM 4 19]) (.seq (.region [oM 20 3,oM 21 20,oG 22 (.mv (.t 4)) 21 true,oO 23 (.pick (.t 21) (.t 22) (.c (.bool false))),oM 2 23]) (.ret)))) (.seq (.region [oO 25 (.bin .eql (.t 10) (nI 3)),oM 24 25]) (.cond (.t 24) (.seq (.region [oO 26 (.buildSl 6 1 false [.str ⟨#[]⟩,.str ⟨#[]⟩,.str ⟨#[]⟩,.str ⟨#[]⟩,.str ⟨#[]⟩,.str ⟨#[]⟩] [(0,1,.c (.str ⟨#[61,61]⟩)),(1,1,.c (.str ⟨#[33,61]⟩)),(2,1,.c (.str ⟨#[60]⟩)),(3,1,.c (.str ⟨#[60,61]⟩)),(4,1,.c (.str ⟨#[62]⟩)),(5,1,.c (.str ⟨#[62,61]⟩))]),oF 27 1 1,oL 28 1 27,oO 29 (.call 93 [.t 26,.t 28]),oM 5 29]) (.seq (.region [oF 30 2 1,oL 31 1 30,oO 32 (.call 120 [.t 31]),oM 6 32]) (.seq (.region [oM 33 5,oM 34 33,oG 35 (.mv (.t 6)) 34 true,oO 36 (.pick (.t 34) (.t 35) (.c (.bool false))),oM 37 36,oG 38 (.faddr 2 (.t 1)) 37 true,oG 39 (.load 1 false (.t 38)) 37 true,oG 40 (.len false (.t 39)) 37 true,oG 41 (.bin .eql (.t 40) (nI 2)) 37 true,oO 42 (.pick (.t 37) (.t 41) (.c (.bool false))),oM 2 42]) (.ret)))) (.seq (.region [oO 44 (.bin .eql (.t 10) (nI 4)),oM 43 44]) (.cond (.t 43) (.seq (.region [oF 45 1 1,oL 46 1 45,oO 47 (.call 121 [.t 46]),oM 7 47]) (.seq (.region [oF 48 2 1,oL 49 1 48,oO 50 (.call 120 [.t 49]),oM 8 50]) (.seq (.region [oM 51 7,oM 52 51,oG 53 (.mv (.t 8)) 52 true,oO 54 (.pick (.t 52) (.t 53) (.c (.bool false))),oM 55 54,oG 56 (.faddr 2 (.t 1)) 55 true,oG 57 (.load 1 false (.t 56)) 55 true,oG 58 (.len false (.t 57)) 55 true,oG 59 (.bin .eql (.t 58) (nI 1)) 55 true,oO 60 (.pick (.t 55) (.t 59) (.c (.bool false))),oM 2 60]) (.ret)))) (.skip))))))))) (.seq (.region [oO 2 (.mv (.c (.bool false)))]) (.ret))),.pure,true,true⟩
theorem k92:compF Tryz.prog {mt:=false,mtAt:=[],mode:=.pure,clArgs:=true,clRes:=true} Tryz.f92=some c92:=by kernel_rfl
def c93:AFunc:=⟨18,[.tmp 4],.seq (.region [oO 4 (.mv (.c (.bool false)))]) (.seq (.seq (.region [oO 5 (.mv (nI 0))]) (.block 0 (.loop (.seq (.seq (.region [oM 6 5,oM 7 0,oO 8 (.len false (.t 7)),oO 9 (.bin .lss (.t 6) (.t 8))]) (.cond (.t 9) (.skip) (.exit 0))) (.seq (.block 1 (.seq (.region [oM 12 0,oM 13 5,oO 14 (.iaddrS 1 (.t 12) (.t 13)),oL 15 1 14,oM 16 1,oO 17 (.bin .eql (.t 15) (.t 16))]) (.cond (.t 17) (.seq (.region [oO 4 (.mv (.c (.bool true)))]) (.ret)) (.skip)))) (.region [oM 10 5,oO 11 (.bin .add (.t 10) (nI 1)),oM 5 11])))))) (.seq (.region [oO 4 (.mv (.c (.bool false)))]) (.ret))),.pure,true,true⟩
theorem k93:compF Tryz.prog {mt:=false,mtAt:=[],mode:=.pure,clArgs:=true,clRes:=true} Tryz.f93=some c93:=by kernel_rfl
def c94:AFunc:=⟨33,[.tmp 2],.seq (.region [oO 1 (.box (.t 0)),oO 2 (.mv (.c (.str ⟨#[]⟩)))]) (.seq (.seq (.region [oF 3 0 1,oL 4 1 3]) (.block 0 (.seq (.region [oO 6 (.bin .eql (.t 4) (nI 1)),oM 5 6]) (.cond (.t 5) (.seq (.region [oF 7 1 1,oL 8 1 7,oM 2 8]) (.ret)) (.seq (.region [oO 10 (.bin .eql (.t 4) (nI 2)),oM 9 10]) (.cond (.t 9) (.seq (.region [oF 11 2 1,oR 12 4 11,oO 13 (.call 122 [.t 12]),oM 2 13]) (.ret)) (.seq (.region [oO 15 (.bin .eql (.t 4) (nI 3)),oM 14 15]) (.cond (.t 14) (.seq (.region [oF 16 1 1,oL 17 1 16,oO 18 (.bin .add (.t 17) (.c (.str ⟨#[40]⟩))),oF 19 6 1,oL 20 1 19,⟨(some 21),.call 61 [.t 20],none,[.t 16]⟩,⟨(some 22),.call 63 [.t 21,.c (.str ⟨#[44]⟩)],none,[.t 16]⟩,oO 23 (.bin .add (.t 18) (.t 22)),oO 24 (.bin .add (.t 23) (.c (.str ⟨#[41]⟩))),oM 2 24]) (.ret)) (.skip))))))))) (.seq (.region [oF 25 6 1,oL 26 1 25,oF 28 1 1,oL 29 1 28,⟨(some 27),.call 61 [.t 26],none,[.t 28]⟩,oO 30 (.call 63 [.t 27,.t 29]),oO 31 (.bin .add (.c (.str ⟨#[40]⟩)) (.t 30)),oO 32 (.bin .add (.t 31) (.c (.str ⟨#[41]⟩))),oM 2 32]) (.ret))),.pure,true,true⟩
theorem k94:compF Tryz.prog {mt:=false,mtAt:=[],mode:=.pure,clArgs:=true,clRes:=true} Tryz.f94=some c94:=by kernel_rfl
def c95:AFunc:=⟨9,[.tmp 4],.seq (.region [oO 4 (.mv (.c (.bool false)))]) (.seq (.region [oM 5 0,oM 6 1,oO 7 (.call 123 [.t 5,.t 6]),oO 8 (.bin .geq (.t 7) (nI 0)),oM 4 8]) (.ret)),.gc,false,false⟩
theorem k95:compF Tryz.prog {mt:=false,mtAt:=[],mode:=.gc,clArgs:=false,clRes:=false} Tryz.f95=some c95:=by kernel_rfl
def c96:AFunc:=⟨8,[.tmp 3],.seq (.region [oO 2 (.box (.t 0)),oO 3 (.mv (.c (.bool false)))]) (.seq (.region [oL 4 1 1,oR 5 2 2,oO 6 (.callv (.t 4) [.t 5]),oO 7 (.un .not (.t 6)),oM 3 7]) (.ret)),.gc,false,false⟩
theorem k96:compF Tryz.prog {mt:=false,mtAt:=[],mode:=.gc,clArgs:=false,clRes:=false} Tryz.f96=some c96:=by kernel_rfl
def c97:AFunc:=⟨9,[.tmp 4],.seq (.region [oO 3 (.box (.t 1)),oO 4 (.mv (.c (.bool false)))]) (.seq (.region [oM 5 0,oO 6 (.mkfn 125 [.t 3]),oO 7 (.call 124 [.t 5,.t 6]),oO 8 (.un .not (.t 7)),oM 4 8]) (.ret)),.gc,false,false⟩
theorem k97:compF Tryz.prog {mt:=false,mtAt:=[],mode:=.gc,clArgs:=false,clRes:=false} Tryz.f97=some c97:=by kernel_rfl
def c98:AFunc:=⟨5,[.tmp 2],.seq (.region [oO 1 (.box (.t 0)),oO 2 (.mv (.c (.bool false)))]) (.seq (.region [oR 3 4 1,oO 4 (.call 126 [.t 3,nI 4]),oM 2 4]) (.ret)),.pure,true,true⟩
theorem k98:compF Tryz.prog {mt:=false,mtAt:=[],mode:=.pure,clArgs:=true,clRes:=true} Tryz.f98=some c98:=by kernel_rfl
def c99:AFunc:=⟨9,[.tmp 4],.seq (.region [oO 4 (.mv (.c (.bool false)))]) (.seq (.region [oM 5 0,oM 6 1,oO 7 (.call 36 [.t 5,.t 6]),oO 8 (.bin .geq (.t 7) (nI 0)),oM 4 8]) (.ret)),.gc,false,false⟩
theorem k99:compF Tryz.prog {mt:=false,mtAt:=[],mode:=.gc,clArgs:=false,clRes:=false} Tryz.f99=some c99:=by kernel_rfl
def c100:AFunc:=⟨8,[.tmp 3],.seq (.region [oO 2 (.box (.t 0)),oO 3 (.mv (.c (.bool false)))]) (.seq (.region [oL 4 1 1,oR 5 6 2,oO 6 (.callv (.t 4) [.t 5]),oO 7 (.un .not (.t 6)),oM 3 7]) (.ret)),.gc,false,false⟩
theorem k100:compF Tryz.prog {mt:=false,mtAt:=[],mode:=.gc,clArgs:=false,clRes:=false} Tryz.f100=some c100:=by kernel_rfl
def c101:AFunc:=⟨9,[.tmp 4],.seq (.region [oO 4 (.mv (.c (.bool false)))]) (.seq (.region [oM 5 0,oM 6 1,oO 7 (.call 70 [.t 5,.t 6]),oO 8 (.bin .geq (.t 7) (nI 0)),oM 4 8]) (.ret)),.gc,false,false⟩
theorem k101:compF Tryz.prog {mt:=false,mtAt:=[],mode:=.gc,clArgs:=false,clRes:=false} Tryz.f101=some c101:=by kernel_rfl
def c102:AFunc:=⟨8,[.tmp 3],.seq (.region [oO 2 (.box (.t 0)),oO 3 (.mv (.c (.bool false)))]) (.seq (.region [oL 4 1 1,oR 5 2 2,oO 6 (.callv (.t 4) [.t 5]),oO 7 (.un .not (.t 6)),oM 3 7]) (.ret)),.gc,false,false⟩
theorem k102:compF Tryz.prog {mt:=false,mtAt:=[],mode:=.gc,clArgs:=false,clRes:=false} Tryz.f102=some c102:=by kernel_rfl
def c103:AFunc:=⟨43,[.tmp 2],.seq (.region [oO 2 (.mv (.c (.bool false)))]) (.seq (.seq (.region [oM 6 0,oO 7 (.rng (.t 6))]) (.block 0 (.loop (.seq (.region [oO 8 (.nxt (.t 7)),oX 9 0 8]) (.seq (.cond (.t 9) (.skip) (.exit 0)) (.block 1 (.seq (.region [oX 10 1 8,oX 11 2 8,oM 3 10,oM 4 11]) (.seq (.region [oM 12 4,oO 13 (.bin .geq (.t 12) (.c (.int .i32 97))),oM 14 13,oG 15 (.mv (.t 4)) 14 true,oG 16 (.bin .leq (.t 15) (.c (.int .i32 122))) 14 true,oO 17 (.pick (.t 14) (.t 16) (.c (.bool false))),oM 5 17]) (.seq (.region [oM 18 5,oO 19 (.un .not (.t 18)),oM 20 19,oG 21 (.mv (.t 3)) 20 true,oG 22 (.bin .eql (.t 21) (nI 0)) 20 true,oG 23 (.mv (.t 22)) 20 true,oG 24 (.mv (.t 4)) 23 false,oG 25 (.bin .neq (.t 24) (.c (.int .i32 95))) 23 false,oG 26 (.mv (.t 25)) 23 false,oG 27 (.mv (.t 4)) 26 true,oG 28 (.bin .lss (.t 27) (.c (.int .i32 48))) 26 true,oG 29 (.mv (.t 28)) 26 true,oG 30 (.mv (.t 4)) 29 false,oG 31 (.bin .gtr (.t 30) (.c (.int .i32 57))) 29 false,oG 32 (.pick (.t 29) (.c (.bool true)) (.t 31)) 26 true,oG 33 (.pick (.t 26) (.t 32) (.c (.bool false))) 23 false,oG 34 (.pick (.t 23) (.c (.bool true)) (.t 33)) 20 true,oO 35 (.pick (.t 20) (.t 34) (.c (.bool false)))]) (.cond (.t 35) (.seq (.region [oO 2 (.mv (.c (.bool false)))]) (.ret)) (.skip))))))))))) (.seq (.region [oM 36 0,oO 37 (.bin .neq (.t 36) (.c (.str ⟨#[]⟩))),oM 38 37,oG 39 (.mv (.t 0)) 38 true,oG 40 (.len true (.t 39)) 38 true,oG 41 (.bin .leq (.t 40) (nI 16)) 38 true,oO 42 (.pick (.t 38) (.t 41) (.c (.bool false))),oM 2 42]) (.ret))),.pure,true,true⟩
theorem k103:compF Tryz.prog {mt:=false,mtAt:=[],mode:=.pure,clArgs:=true,clRes:=true} Tryz.f103=some c103:=by kernel_rfl
def c104:AFunc:=⟨6,[.tmp 2],.seq (.region [oO 2 (.mv (nI 0))]) (.seq (.region [oM 3 0,oO 4 (.call 127 [.t 3]),oO 5 (.field 0 1 false (.t 4)),oM 2 5]) (.ret)),.pure,true,true⟩
theorem k104:compF Tryz.prog {mt:=false,mtAt:=[],mode:=.pure,clArgs:=true,clRes:=true} Tryz.f104=some c104:=by kernel_rfl
def c105:AFunc:=⟨9,[.tmp 4],.seq (.region [oO 4 (.mv (.c (.bool false)))]) (.seq (.region [oM 5 0,oM 6 1,oO 7 (.call 128 [.t 5,.t 6]),oO 8 (.bin .geq (.t 7) (nI 0)),oM 4 8]) (.ret)),.gc,false,false⟩
theorem k105:compF Tryz.prog {mt:=false,mtAt:=[],mode:=.gc,clArgs:=false,clRes:=false} Tryz.f105=some c105:=by kernel_rfl
def c106:AFunc:=⟨22,[.tmp 3],.seq (.region [oO 2 (.box (.t 0)),oO 3 (.mv (.c (.bool false)))]) (.seq (.region [oF 4 0 2,oL 5 1 4,oO 6 (.bin .eql (.t 5) (nI 1)),oM 7 6,oG 8 (.faddr 0 (.t 2)) 7 false,oG 9 (.load 1 false (.t 8)) 7 false,oG 10 (.bin .eql (.t 9) (nI 2)) 7 false,oO 11 (.pick (.t 7) (.c (.bool true)) (.t 10)),oM 12 11,oG 13 (.load 3 true (.t 1)) 12 true,oG 14 (.faddr 1 (.t 2)) 12 true,oG 15 (.load 1 false (.t 14)) 12 true,oG 17 (.faddr 2 (.t 2)) 12 true,oG 18 (.load 1 false (.t 17)) 12 true,oG 19 (.len false (.t 18)) 12 true,⟨(some 16),.call 43 [.t 13,.t 15],(some (12,true)),[.t 17]⟩,oG 20 (.bin .neq (.t 16) (.t 19)) 12 true,oO 21 (.pick (.t 12) (.t 20) (.c (.bool false))),oM 3 21]) (.ret)),.gc,false,false⟩
theorem k106:compF Tryz.prog {mt:=false,mtAt:=[],mode:=.gc,clArgs:=false,clRes:=false} Tryz.f106=some c106:=by kernel_rfl
def c107:AFunc:=⟨4,[.tmp 2],.seq (.region [oO 1 (.box (.t 0)),oO 2 (.mv (.c (.nilfunc)))]) (.seq (.region [oO 3 (.mkfn 129 [.t 1]),oM 2 3]) (.ret)),.raw,true,false⟩
theorem k107:compF Tryz.prog {mt:=false,mtAt:=[],mode:=.raw,clArgs:=true,clRes:=false} Tryz.f107=some c107:=by kernel_rfl
def c108:AFunc:=⟨9,[.tmp 4],.seq (.region [oO 3 (.box (.t 1)),oO 4 (.mv (.c (.bool false)))]) (.seq (.region [oM 5 0,oO 6 (.mkfn 132 [.t 3]),oO 7 (.call 131 [.t 5,.t 6]),oO 8 (.un .not (.t 7)),oM 4 8]) (.ret)),.gc,false,false⟩
theorem k108:compF Tryz.prog {mt:=false,mtAt:=[],mode:=.gc,clArgs:=false,clRes:=false} Tryz.f108=some c108:=by kernel_rfl
def c109:AFunc:=⟨5,[.tmp 2],.seq (.region [oO 1 (.box (.t 0)),oO 2 (.mv (.c (.bool false)))]) (.seq (.region [oR 3 7 1,oO 4 (.call 133 [.t 3,nI 8]),oM 2 4]) (.ret)),.pure,true,true⟩
theorem k109:compF Tryz.prog {mt:=false,mtAt:=[],mode:=.pure,clArgs:=true,clRes:=true} Tryz.f109=some c109:=by kernel_rfl
def c110:AFunc:=⟨8,[.tmp 3],.seq (.region [oO 2 (.box (.t 0)),oO 3 (.mv (.c (.bool false)))]) (.seq (.region [oL 4 1 1,oR 5 3 2,oO 6 (.callv (.t 4) [.t 5]),oO 7 (.un .not (.t 6)),oM 3 7]) (.ret)),.gc,false,false⟩
theorem k110:compF Tryz.prog {mt:=false,mtAt:=[],mode:=.gc,clArgs:=false,clRes:=false} Tryz.f110=some c110:=by kernel_rfl
def c111:AFunc:=⟨52,[.tmp 2],.seq (.region [oO 2 (.mv (.c (.bool false)))]) (.seq (.seq (.region [oM 6 0,oO 7 (.rng (.t 6))]) (.block 0 (.loop (.seq (.region [oO 8 (.nxt (.t 7)),oX 9 0 8]) (.seq (.cond (.t 9) (.skip) (.exit 0)) (.block 1 (.seq (.region [oX 10 1 8,oX 11 2 8,oM 3 10,oM 4 11]) (.seq (.region [oM 12 4,oO 13 (.bin .geq (.t 12) (.c (.int .i32 65))),oM 14 13,oG 15 (.mv (.t 4)) 14 true,oG 16 (.bin .leq (.t 15) (.c (.int .i32 90))) 14 true,oO 17 (.pick (.t 14) (.t 16) (.c (.bool false))),oM 5 17]) (.seq (.region [oM 18 5,oO 19 (.un .not (.t 18)),oM 20 19,oG 21 (.mv (.t 3)) 20 true,oG 22 (.bin .eql (.t 21) (nI 0)) 20 true,oG 23 (.mv (.t 22)) 20 true,oG 24 (.mv (.t 4)) 23 false,oG 25 (.bin .geq (.t 24) (.c (.int .i32 97))) 23 false,oG 26 (.mv (.t 25)) 23 false,oG 27 (.mv (.t 4)) 26 true,oG 28 (.bin .leq (.t 27) (.c (.int .i32 122))) 26 true,oG 29 (.pick (.t 26) (.t 28) (.c (.bool false))) 23 false,oG 30 (.mv (.t 29)) 23 false,oG 31 (.mv (.t 4)) 30 false,oG 32 (.bin .geq (.t 31) (.c (.int .i32 48))) 30 false,oG 33 (.mv (.t 32)) 30 false,oG 34 (.mv (.t 4)) 33 true,oG 35 (.bin .leq (.t 34) (.c (.int .i32 57))) 33 true,oG 36 (.pick (.t 33) (.t 35) (.c (.bool false))) 30 false,oG 37 (.pick (.t 30) (.c (.bool true)) (.t 36)) 23 false,oG 38 (.mv (.t 37)) 23 false,oG 39 (.mv (.t 4)) 38 false,oG 40 (.bin .eql (.t 39) (.c (.int .i32 95))) 38 false,oG 41 (.pick (.t 38) (.c (.bool true)) (.t 40)) 23 false,oG 42 (.un .not (.t 41)) 23 false,oG 43 (.pick (.t 23) (.c (.bool true)) (.t 42)) 20 true,oO 44 (.pick (.t 20) (.t 43) (.c (.bool false)))]) (.cond (.t 44) (.seq (.region [oO 2 (.mv (.c (.bool false)))]) (.ret)) (.skip))))))))))) (.seq (.region [oM 45 0,oO 46 (.bin .neq (.t 45) (.c (.str ⟨#[]⟩))),oM 47 46,oG 48 (.mv (.t 0)) 47 true,oG 49 (.len true (.t 48)) 47 true,oG 50 (.bin .leq (.t 49) (nI 16)) 47 true,oO 51 (.pick (.t 47) (.t 50) (.c (.bool false))),oM 2 51]) (.ret))),.pure,true,true⟩
theorem k111:compF Tryz.prog {mt:=false,mtAt:=[],mode:=.pure,clArgs:=true,clRes:=true} Tryz.f111=some c111:=by kernel_rfl
def c113:AFunc:=⟨29,[],.seq (.region [oM 10 1,oO 11 (.len false (.t 10)),oO 12 (.mv (nI 0))]) (.block 0 (.loop (.seq (.region [oO 13 (.bin .lss (.t 12) (.t 11))]) (.seq (.cond (.t 13) (.skip) (.exit 0)) (.seq (.block 1 (.seq (.region [oM 14 12,oO 15 (.iaddrS 7 (.t 10) (.t 12)),oR 16 7 15,oO 9 (.alloc [.int .i64 0,.str ⟨#[]⟩,.int .i64 0,.int .i64 0,.str ⟨#[]⟩,.isl [] true,.isl [] true]),oM 8 14,oU (.store 7 (.t 9) (.t 16))]) (.seq (.seq (.region [oM 17 8,oO 18 (.bin .gtr (.t 17) (nI 0))]) (.cond (.t 18) (.region [oM 19 0,oO 20 (.nilck (.t 19)),oF 21 0 20,oM 22 2,oO 23 (.call 79 [.t 21,.t 22])]) (.skip))) (.region [oM 24 3,oM 25 8,oR 26 7 9,oO 27 (.callv (.t 24) [.t 25,.t 26])])))) (.region [oO 28 (.bin .add (.t 12) (nI 1)),oM 12 28])))))),.gc,false,false⟩
theorem k113:compF Tryz.prog {mt:=false,mtAt:=[],mode:=.gc,clArgs:=false,clRes:=false} Tryz.f113=some c113:=by kernel_rfl
def c114:AFunc:=⟨27,[],.seq (.region [oO 6 (.box (.t 1))]) (.seq (.seq (.region [oL 7 1 2,oO 8 (.bin .neq (.t 7) (.c (.str ⟨#[]⟩))),oM 9 8,oG 10 (.mv (.t 0)) 9 true,oG 11 (.load 1 false (.t 3)) 9 true,oG 12 (.bin .eql (.t 10) (.t 11)) 9 true,oO 13 (.pick (.t 9) (.t 12) (.c (.bool false)))]) (.cond (.t 13) (.seq (.region [oL 14 1 4,oO 15 (.nilck (.t 14)),oF 16 0 15,oL 17 1 2,oO 18 (.bin .add (.t 17) (.c (.str ⟨#[60]⟩))),oF 19 1 6,oL 20 1 19,oO 21 (.bin .add (.t 18) (.t 20)),oO 22 (.bin .add (.t 21) (.c (.str ⟨#[62]⟩))),oO 23 (.call 79 [.t 16,.t 22])]) (.ret)) (.skip))) (.region [oL 24 1 4,oR 25 7 6,oO 26 (.call 115 [.t 24,.t 25])])),.gc,false,false⟩
theorem k114:compF Tryz.prog {mt:=false,mtAt:=[],mode:=.gc,clArgs:=false,clRes:=false} Tryz.f114=some c114:=by kernel_rfl
def c115:AFunc:=⟨48,[],.seq (.region [oO 2 (.box (.t 0)),oO 3 (.box (.t 1))]) (.seq (.region [oO 4 (.mv (.c (.str ⟨#[44]⟩)))]) (.seq (.seq (.region [oF 5 0 3,oL 6 1 5]) (.block 0 (.seq (.region [oO 10 (.bin .eql (.t 6) (nI 1)),oM 9 10]) (.cond (.t 9) (.seq (.region [oL 11 1 2,oO 12 (.nilck (.t 11)),oF 13 0 12,oF 14 1 3,oL 15 1 14,oO 16 (.call 79 [.t 13,.t 15])]) (.ret)) (.seq (.region [oO 18 (.bin .eql (.t 6) (nI 2)),oM 17 18]) (.cond (.t 17) (.seq (.region [oL 19 1 2,oO 20 (.nilck (.t 19)),oF 21 0 20,oF 22 2 3,oR 23 4 22,⟨(some 24),.call 135 [.t 23],none,[.t 2]⟩,oO 25 (.call 79 [.t 21,.t 24])]) (.ret)) (.seq (.region [oO 27 (.bin .eql (.t 6) (nI 3)),oM 26 27]) (.cond (.t 26) (.region [oL 28 1 2,oO 29 (.nilck (.t 28)),oF 30 0 29,oF 31 1 3,oL 32 1 31,oO 33 (.call 79 [.t 30,.t 32])]) (.region [oF 7 1 3,oL 8 1 7,oM 4 8]))))))))) (.seq (.region [oL 34 1 2,oO 35 (.nilck (.t 34)),oF 36 0 35,oO 37 (.call 84 [.t 36,.c (.int .u8 40)])]) (.seq (.region [oL 38 1 2,oF 39 6 3,oL 40 1 39,oM 41 4,oO 42 (.mkfn 136 [.t 2]),oO 43 (.call 113 [.t 38,.t 40,.t 41,.t 42])]) (.region [oL 44 1 2,oO 45 (.nilck (.t 44)),oF 46 0 45,oO 47 (.call 84 [.t 46,.c (.int .u8 41)])]))))),.gc,false,false⟩
theorem k115:compF Tryz.prog {mt:=false,mtAt:=[],mode:=.gc,clArgs:=false,clRes:=false} Tryz.f115=some c115:=by kernel_rfl
def c116:AFunc:=⟨8,[],.seq (.region [oO 4 (.box (.t 1))]) (.region [oL 5 1 2,oR 6 7 4,oO 7 (.call 115 [.t 5,.t 6])]),.gc,false,false⟩
theorem k116:compF Tryz.prog {mt:=false,mtAt:=[],mode:=.gc,clArgs:=false,clRes:=false} Tryz.f116=some c116:=by kernel_rfl
def c117:AFunc:=⟨51,[.tmp 2],.seq (.region [oO 2 (.mv (.c (.bool false)))]) (.seq (.seq (.region [oM 5 0,oO 6 (.len true (.t 5)),oO 7 (.bin .lss (.t 6) (nI 1)),oM 8 7,oG 9 (.mv (.t 0)) 8 false,oG 10 (.len true (.t 9)) 8 false,oG 11 (.bin .gtr (.t 10) (nI 16)) 8 false,oO 12 (.pick (.t 8) (.c (.bool true)) (.t 11)),oM 13 12,oG 14 (.mv (.t 0)) 13 false,oG 15 (.idxStr (.t 14) (nI 0)) 13 false,oG 16 (.bin .lss (.t 15) (.c (.int .u8 97))) 13 false,oO 17 (.pick (.t 13) (.c (.bool true)) (.t 16)),oM 18 17,oG 19 (.mv (.t 0)) 18 false,oG 20 (.idxStr (.t 19) (nI 0)) 18 false,oG 21 (.bin .gtr (.t 20) (.c (.int .u8 122))) 18 false,oO 22 (.pick (.t 18) (.c (.bool true)) (.t 21))]) (.cond (.t 22) (.seq (.region [oO 2 (.mv (.c (.bool false)))]) (.ret)) (.skip))) (.seq (.seq (.region [oO 3 (.mv (nI 1))]) (.block 0 (.loop (.seq (.seq (.region [oM 23 3,oM 24 0,oO 25 (.len true (.t 24)),oO 26 (.bin .lss (.t 23) (.t 25))]) (.cond (.t 26) (.skip) (.exit 0))) (.seq (.block 1 (.seq (.region [oM 29 0,oM 30 3,oO 31 (.idxStr (.t 29) (.t 30)),oM 4 31]) (.seq (.region [oM 32 4,oO 33 (.bin .geq (.t 32) (.c (.int .u8 97))),oM 34 33,oG 35 (.mv (.t 4)) 34 true,oG 36 (.bin .leq (.t 35) (.c (.int .u8 122))) 34 true,oO 37 (.pick (.t 34) (.t 36) (.c (.bool false))),oM 38 37,oG 39 (.mv (.t 4)) 38 false,oG 40 (.bin .geq (.t 39) (.c (.int .u8 48))) 38 false,oG 41 (.mv (.t 40)) 38 false,oG 42 (.mv (.t 4)) 41 true,oG 43 (.bin .leq (.t 42) (.c (.int .u8 57))) 41 true,oG 44 (.pick (.t 41) (.t 43) (.c (.bool false))) 38 false,oO 45 (.pick (.t 38) (.c (.bool true)) (.t 44)),oM 46 45,oG 47 (.mv (.t 4)) 46 false,oG 48 (.bin .eql (.t 47) (.c (.int .u8 95))) 46 false,oO 49 (.pick (.t 46) (.c (.bool true)) (.t 48)),oO 50 (.un .not (.t 49))]) (.cond (.t 50) (.seq (.region [oO 2 (.mv (.c (.bool false)))]) (.ret)) (.skip))))) (.region [oM 27 3,oO 28 (.bin .add (.t 27) (nI 1)),oM 3 28])))))) (.seq (.region [oO 2 (.mv (.c (.bool true)))]) (.ret)))),.pure,true,true⟩
theorem k117:compF Tryz.prog {mt:=false,mtAt:=[],mode:=.pure,clArgs:=true,clRes:=true} Tryz.f117=some c117:=by kernel_rfl
def c118:AFunc:=⟨5,[.tmp 2],.seq (.region [oO 1 (.box (.t 0)),oO 2 (.mv (.c (.bool false)))]) (.seq (.region [oR 3 4 1,oO 4 (.call 137 [.t 3,nI 4]),oM 2 4]) (.ret)),.pure,true,true⟩
theorem k118:compF Tryz.prog {mt:=false,mtAt:=[],mode:=.pure,clArgs:=true,clRes:=true} Tryz.f118=some c118:=by kernel_rfl
def c119:AFunc:=⟨49,[.tmp 2],.seq (.region [oO 1 (.box (.t 0)),oO 2 (.mv (.c (.isl [] true)))]) (.seq (.seq (.region [oF 8 0 1,oL 9 1 8,oO 10 (.bin .eql (.t 9) (nI 1))]) (.cond (.t 10) (.seq (.region [oF 11 1 1,oL 12 1 11,oO 13 (.buildSl 1 1 false [.str ⟨#[]⟩] [(0,1,.t 12)]),oM 2 13]) (.ret)) (.skip))) (.seq (.region [oO 3 (.mv (.c (.isl [] true)))]) (.seq (.seq (.region [oO 4 (.mv (nI 0))]) (.block 0 (.loop (.seq (.seq (.region [oM 14 4,oF 15 6 1,oL 16 1 15,oO 17 (.len false (.t 16)),oO 18 (.bin .lss (.t 14) (.t 17))]) (.cond (.t 18) (.skip) (.exit 0))) (.seq (.block 1 (.seq (.region [oF 21 6 1,oL 22 1 21,oM 23 4,oO 24 (.iaddrS 7 (.t 22) (.t 23)),oR 25 7 24,oO 26 (.call 119 [.t 25]),oM 5 26]) (.seq (.region [oO 6 (.mv (nI 0))]) (.block 2 (.loop (.seq (.seq (.region [oM 27 6,oM 28 5,oO 29 (.len false (.t 28)),oO 30 (.bin .lss (.t 27) (.t 29))]) (.cond (.t 30) (.skip) (.exit 2))) (.seq (.block 3 (.seq (.region [oM 33 3,oM 34 5,oM 35 6,oO 36 (.iaddrS 1 (.t 34) (.t 35)),oL 37 1 36,oO 38 (.call 90 [.t 33,.t 37]),oM 7 38]) (.seq (.region [oM 39 7,oO 40 (.un .not (.t 39))]) (.cond (.t 40) (.region [oM 41 3,oM 42 5,oM 43 6,oO 44 (.iaddrS 1 (.t 42) (.t 43)),oL 45 1 44,oO 46 (.buildSl 1 1 false [.str ⟨#[]⟩] [(0,1,.t 45)]),oO 47 (.append 1 false 16 false (.t 41) (.t 46)),oM 3 47]) (.skip))))) (.region [oM 31 6,oO 32 (.bin .add (.t 31) (nI 1)),oM 6 32])))))))) (.region [oM 19 4,oO 20 (.bin .add (.t 19) (nI 1)),oM 4 20])))))) (.seq (.region [oM 48 3,oM 2 48]) (.ret))))),.pure,true,true⟩
theorem k119:compF Tryz.prog {mt:=false,mtAt:=[],mode:=.pure,clArgs:=true,clRes:=true} Tryz.f119=some c119:=by kernel_rfl
def c120:AFunc:=⟨18,[.tmp 2],.seq (.region [oO 2 (.mv (.c (.bool false)))]) (.seq (.seq (.region [oO 3 (.mv (nI 0))]) (.block 0 (.loop (.seq (.seq (.region [oM 5 3,oM 6 0,oO 7 (.len false (.t 6)),oO 8 (.bin .lss (.t 5) (.t 7))]) (.cond (.t 8) (.skip) (.exit 0))) (.seq (.block 1 (.seq (.region [oM 11 0,oM 12 3,oO 13 (.iaddrS 7 (.t 11) (.t 12)),oR 14 7 13,oO 15 (.call 138 [.t 14,nI 8]),oM 4 15]) (.seq (.region [oM 16 4,oO 17 (.un .not (.t 16))]) (.cond (.t 17) (.seq (.region [oO 2 (.mv (.c (.bool false)))]) (.ret)) (.skip))))) (.region [oM 9 3,oO 10 (.bin .add (.t 9) (nI 1)),oM 3 10])))))) (.seq (.region [oO 2 (.mv (.c (.bool true)))]) (.ret))),.pure,true,true⟩
theorem k120:compF Tryz.prog {mt:=false,mtAt:=[],mode:=.pure,clArgs:=true,clRes:=true} Tryz.f120=some c120:=by kernel_rfl
def c121:AFunc:=⟨59,[.tmp 2],.seq (.region [oO 2 (.mv (.c (.bool false)))]) (.seq (.seq (.region [oM 5 0,oO 6 (.len true (.t 5)),oO 7 (.bin .lss (.t 6) (nI 1)),oM 8 7,oG 9 (.mv (.t 0)) 8 false,oG 10 (.len true (.t 9)) 8 false,oG 11 (.bin .gtr (.t 10) (nI 16)) 8 false,oO 12 (.pick (.t 8) (.c (.bool true)) (.t 11)),oM 13 12,oG 14 (.mv (.t 0)) 13 false,oG 15 (.idxStr (.t 14) (nI 0)) 13 false,oG 16 (.bin .lss (.t 15) (.c (.int .u8 65))) 13 false,oO 17 (.pick (.t 13) (.c (.bool true)) (.t 16)),oM 18 17,oG 19 (.mv (.t 0)) 18 false,oG 20 (.idxStr (.t 19) (nI 0)) 18 false,oG 21 (.bin .gtr (.t 20) (.c (.int .u8 90))) 18 false,oO 22 (.pick (.t 18) (.c (.bool true)) (.t 21))]) (.cond (.t 22) (.seq (.region [oO 2 (.mv (.c (.bool false)))]) (.ret)) (.skip))) (.seq (.seq (.region [oO 3 (.mv (nI 1))]) (.block 0 (.loop (.seq (.seq (.region [oM 23 3,oM 24 0,oO 25 (.len true (.t 24)),oO 26 (.bin .lss (.t 23) (.t 25))]) (.cond (.t 26) (.skip) (.exit 0))) (.seq (.block 1 (.seq (.region [oM 29 0,oM 30 3,oO 31 (.idxStr (.t 29) (.t 30)),oM 4 31]) (.seq (.region [oM 32 4,oO 33 (.bin .geq (.t 32) (.c (.int .u8 97))),oM 34 33,oG 35 (.mv (.t 4)) 34 true,oG 36 (.bin .leq (.t 35) (.c (.int .u8 122))) 34 true,oO 37 (.pick (.t 34) (.t 36) (.c (.bool false))),oM 38 37,oG 39 (.mv (.t 4)) 38 false,oG 40 (.bin .geq (.t 39) (.c (.int .u8 65))) 38 false,oG 41 (.mv (.t 40)) 38 false,oG 42 (.mv (.t 4)) 41 true,oG 43 (.bin .leq (.t 42) (.c (.int .u8 90))) 41 true,oG 44 (.pick (.t 41) (.t 43) (.c (.bool false))) 38 false,oO 45 (.pick (.t 38) (.c (.bool true)) (.t 44)),oM 46 45,oG 47 (.mv (.t 4)) 46 false,oG 48 (.bin .geq (.t 47) (.c (.int .u8 48))) 46 false,oG 49 (.mv (.t 48)) 46 false,oG 50 (.mv (.t 4)) 49 true,oG 51 (.bin .leq (.t 50) (.c (.int .u8 57))) 49 true,oG 52 (.pick (.t 49) (.t 51) (.c (.bool false))) 46 false,oO 53 (.pick (.t 46) (.c (.bool true)) (.t 52)),oM 54 53,oG 55 (.mv (.t 4)) 54 false,oG 56 (.bin .eql (.t 55) (.c (.int .u8 95))) 54 false,oO 57 (.pick (.t 54) (.c (.bool true)) (.t 56)),oO 58 (.un .not (.t 57))]) (.cond (.t 58) (.seq (.region [oO 2 (.mv (.c (.bool false)))]) (.ret)) (.skip))))) (.region [oM 27 3,oO 28 (.bin .add (.t 27) (nI 1)),oM 3 28])))))) (.seq (.region [oO 2 (.mv (.c (.bool true)))]) (.ret)))),.pure,true,true⟩
theorem k121:compF Tryz.prog {mt:=false,mtAt:=[],mode:=.pure,clArgs:=true,clRes:=true} Tryz.f121=some c121:=by kernel_rfl
def c122:AFunc:=⟨48,[.tmp 2],.seq (.region [oO 1 (.box (.t 0)),oO 2 (.mv (.c (.str ⟨#[]⟩)))]) (.seq (.region [oR 6 4 1,oO 7 (.call 118 [.t 6]),oM 3 7]) (.seq (.seq (.region [oM 8 3,oO 9 (.un .not (.t 8))]) (.cond (.t 9) (.seq (.region [oO 2 (.mv (.c (.str ⟨#[]⟩)))]) (.ret)) (.skip))) (.seq (.seq (.region [oF 10 0 1,oL 11 1 10]) (.block 0 (.seq (.region [oO 13 (.bin .eql (.t 11) (nI 1)),oM 12 13]) (.cond (.t 12) (.seq (.region [oF 14 1 1,oL 15 1 14,oO 16 (.call 139 [.t 15]),oM 2 16]) (.ret)) (.seq (.region [oO 18 (.bin .eql (.t 11) (nI 2)),oM 17 18]) (.cond (.t 17) (.seq (.region [oF 19 2 1,oL 20 1 19,oO 21 (.bin .add (.c (.str ⟨#[34]⟩)) (.t 20)),oO 22 (.bin .add (.t 21) (.c (.str ⟨#[34]⟩))),oM 2 22]) (.ret)) (.seq (.region [oO 24 (.bin .eql (.t 11) (nI 3)),oM 23 24]) (.cond (.t 23) (.seq (.region [oF 25 2 1,oL 26 1 25,oM 2 26]) (.ret)) (.skip))))))))) (.seq (.region [oO 4 (.mv (.c (.str ⟨#[91]⟩)))]) (.seq (.seq (.region [oO 5 (.mv (nI 0))]) (.block 1 (.loop (.seq (.seq (.region [oM 27 5,oF 28 3 1,oL 29 1 28,oO 30 (.len false (.t 29)),oO 31 (.bin .lss (.t 27) (.t 30))]) (.cond (.t 31) (.skip) (.exit 1))) (.seq (.block 2 (.seq (.seq (.region [oM 34 5,oO 35 (.bin .gtr (.t 34) (nI 0))]) (.cond (.t 35) (.region [oM 36 4,oO 37 (.bin .add (.t 36) (.c (.str ⟨#[44]⟩))),oM 4 37]) (.skip))) (.region [oM 38 4,oF 39 3 1,oL 40 1 39,oM 41 5,oO 42 (.iaddrS 4 (.t 40) (.t 41)),oR 43 4 42,oO 44 (.call 122 [.t 43]),oO 45 (.bin .add (.t 38) (.t 44)),oM 4 45]))) (.region [oM 32 5,oO 33 (.bin .add (.t 32) (nI 1)),oM 5 33])))))) (.seq (.region [oM 46 4,oO 47 (.bin .add (.t 46) (.c (.str ⟨#[93]⟩))),oM 2 47]) (.ret))))))),.pure,true,true⟩
theorem k122:compF Tryz.prog {mt:=false,mtAt:=[],mode:=.pure,clArgs:=true,clRes:=true} Tryz.f122=some c122:=by kernel_rfl
def c123:AFunc:=⟨19,[.tmp 4],.seq (.region [oO 4 (.mv (nI 0))]) (.seq (.seq (.region [oM 6 0,oO 7 (.len false (.t 6)),oO 8 (.mv (nI 0))]) (.block 0 (.loop (.seq (.region [oO 9 (.bin .lss (.t 8) (.t 7))]) (.seq (.cond (.t 9) (.skip) (.exit 0)) (.seq (.block 1 (.seq (.region [oM 10 8,oM 5 10]) (.seq (.region [oM 11 1,oM 12 0,oM 13 5,oO 14 (.iaddrS 2 (.t 12) (.t 13)),oR 15 2 14,oO 16 (.callv (.t 11) [.t 15])]) (.cond (.t 16) (.seq (.region [oM 17 5,oM 4 17]) (.ret)) (.skip))))) (.region [oO 18 (.bin .add (.t 8) (nI 1)),oM 8 18]))))))) (.seq (.region [oO 4 (.mv (nI (-1)))]) (.ret))),.gc,false,false⟩
theorem k123:compF Tryz.prog {mt:=false,mtAt:=[],mode:=.gc,clArgs:=false,clRes:=false} Tryz.f123=some c123:=by kernel_rfl
def c124:AFunc:=⟨9,[.tmp 4],.seq (.region [oO 4 (.mv (.c (.bool false)))]) (.seq (.region [oM 5 0,oM 6 1,oO 7 (.call 140 [.t 5,.t 6]),oO 8 (.bin .geq (.t 7) (nI 0)),oM 4 8]) (.ret)),.gc,false,false⟩
theorem k124:compF Tryz.prog {mt:=false,mtAt:=[],mode:=.gc,clArgs:=false,clRes:=false} Tryz.f124=some c124:=by kernel_rfl
def c125:AFunc:=⟨8,[.tmp 3],.seq (.region [oO 2 (.box (.t 0)),oO 3 (.mv (.c (.bool false)))]) (.seq (.region [oL 4 1 1,oR 5 4 2,oO 6 (.callv (.t 4) [.t 5]),oO 7 (.un .not (.t 6)),oM 3 7]) (.ret)),.gc,false,false⟩
theorem k125:compF Tryz.prog {mt:=false,mtAt:=[],mode:=.gc,clArgs:=false,clRes:=false} Tryz.f125=some c125:=by kernel_rfl
def c126:AFunc:=⟨67,[.tmp 4],.seq (.region [oO 2 (.box (.t 0)),oO 3 (.box (.t 1)),oO 4 (.mv (.c (.bool false)))]) (.seq (.region [oR 6 4 2,oO 5 (.alloc [.int .i64 0,.int .i64 0,.str ⟨#[]⟩,.isl [] true]),oU (.store 4 (.t 5) (.t 6))]) (.seq (.region [oF 7 0 5,oU (.store 1 (.t 7) (nI 0))]) (.seq (.seq (.region [oF 8 0 2,oL 9 1 8]) (.block 0 (.seq (.region [oO 11 (.bin .eql (.t 9) (nI 1)),oM 10 11]) (.cond (.t 10) (.seq (.region [oF 12 1 5,oU (.store 1 (.t 12) (nI 0))]) (.seq (.region [oR 13 4 5,oO 14 (.call 141 [.t 13]),oM 15 14,oG 16 (.faddr 1 (.t 2)) 15 true,oG 17 (.load 1 false (.t 16)) 15 true,oG 18 (.bin .leq (.t 17) (nI 2147483647)) 15 true,oO 19 (.pick (.t 15) (.t 18) (.c (.bool false))),oM 20 19,oG 21 (.faddr 1 (.t 2)) 20 true,oG 22 (.load 1 false (.t 21)) 20 true,oG 23 (.bin .geq (.t 22) (nI (-2147483647))) 20 true,oO 24 (.pick (.t 20) (.t 23) (.c (.bool false))),oM 4 24]) (.ret))) (.seq (.region [oO 26 (.bin .eql (.t 9) (nI 2)),oM 25 26]) (.cond (.t 25) (.seq (.region [oF 27 2 5,oU (.store 1 (.t 27) (.c (.str ⟨#[]⟩)))]) (.seq (.region [oR 28 4 5,oO 29 (.call 141 [.t 28]),oM 30 29,oG 31 (.faddr 2 (.t 2)) 30 true,oG 32 (.load 1 false (.t 31)) 30 true,oG 33 (.call 142 [.t 32]) 30 true,oO 34 (.pick (.t 30) (.t 33) (.c (.bool false))),oM 4 34]) (.ret))) (.seq (.region [oO 36 (.bin .eql (.t 9) (nI 3)),oM 35 36]) (.cond (.t 35) (.seq (.region [oF 37 2 5,oU (.store 1 (.t 37) (.c (.str ⟨#[]⟩)))]) (.seq (.region [oR 38 4 5,oO 39 (.call 141 [.t 38]),oM 40 39,oG 41 (.faddr 2 (.t 2)) 40 true,oG 42 (.load 1 false (.t 41)) 40 true,oG 43 (.call 103 [.t 42]) 40 true,oO 44 (.pick (.t 40) (.t 43) (.c (.bool false))),oM 4 44]) (.ret))) (.seq (.region [oO 46 (.bin .eql (.t 9) (nI 4)),oM 45 46]) (.cond (.t 45) (.seq (.region [oF 47 3 5,oU (.store 1 (.t 47) (.c (.isl [] true)))]) (.seq (.region [oR 48 4 5,oO 49 (.call 141 [.t 48]),oM 50 49,oG 51 (.load 1 false (.t 3)) 50 true,oG 52 (.bin .gtr (.t 51) (nI 0)) 50 true,oO 53 (.pick (.t 50) (.t 52) (.c (.bool false))),oM 54 53,oG 55 (.faddr 3 (.t 2)) 54 true,oG 56 (.load 1 false (.t 55)) 54 true,oG 57 (.len false (.t 56)) 54 true,oG 58 (.bin .leq (.t 57) (nI 16)) 54 true,oO 59 (.pick (.t 54) (.t 58) (.c (.bool false))),oM 60 59,oG 61 (.faddr 3 (.t 2)) 60 true,oG 62 (.load 1 false (.t 61)) 60 true,oG 63 (.mkfn 143 [.t 3]) 60 true,oG 64 (.call 124 [.t 62,.t 63]) 60 true,oG 65 (.un .not (.t 64)) 60 true,oO 66 (.pick (.t 60) (.t 65) (.c (.bool false))),oM 4 66]) (.ret))) (.skip))))))))))) (.seq (.region [oO 4 (.mv (.c (.bool false)))]) (.ret))))),.pure,true,true⟩
theorem k126:compF Tryz.prog {mt:=false,mtAt:=[],mode:=.pure,clArgs:=true,clRes:=true} Tryz.f126=some c126:=by kernel_rfl
def c127:AFunc:=⟨34,[.cell 2 3 true],.seq (.region [oO 2 (.alloc [.int .i64 0,.int .i64 0,.nilfunc])]) (.seq (.seq (.region [oM 3 0]) (.block 0 (.seq (.region [oO 5 (.bin .eql (.t 3) (.c (.str ⟨#[102,95,99,111,110,115]⟩))),oM 4 5]) (.cond (.t 4) (.seq (.region [oO 6 (.build [.int .i64 0,.int .i64 0,.nilfunc] [(0,1,nI 2),(1,1,nI 1),(2,1,.f 144)]),oU (.store 3 (.t 2) (.t 6))]) (.ret)) (.seq (.region [oO 8 (.bin .eql (.t 3) (.c (.str ⟨#[102,95,97,112,112,101,110,100]⟩))),oM 7 8]) (.cond (.t 7) (.seq (.region [oO 9 (.build [.int .i64 0,.int .i64 0,.nilfunc] [(0,1,nI 2),(1,1,nI 0),(2,1,.f 145)]),oU (.store 3 (.t 2) (.t 9))]) (.ret)) (.seq (.region [oO 11 (.bin .eql (.t 3) (.c (.str ⟨#[102,95,99,111,110,99,97,116]⟩))),oM 10 11]) (.cond (.t 10) (.seq (.region [oO 12 (.build [.int .i64 0,.int .i64 0,.nilfunc] [(0,1,nI 2),(1,1,nI 0),(2,1,.f 146)]),oU (.store 3 (.t 2) (.t 12))]) (.ret)) (.seq (.region [oO 14 (.bin .eql (.t 3) (.c (.str ⟨#[102,95,109,101,109,98,101,114]⟩))),oM 13 14]) (.cond (.t 13) (.seq (.region [oO 15 (.build [.int .i64 0,.int .i64 0,.nilfunc] [(0,1,nI 2),(1,1,nI 0),(2,1,.f 147)]),oU (.store 3 (.t 2) (.t 15))]) (.ret)) (.seq (.region [oO 17 (.bin .eql (.t 3) (.c (.str ⟨#[102,95,115,105,122,101]⟩))),oM 16 17]) (.cond (.t 16) (.seq (.region [oO 18 (.build [.int .i64 0,.int .i64 0,.nilfunc] [(0,1,nI 1),(1,1,nI 0),(2,1,.f 148)]),oU (.store 3 (.t 2) (.t 18))]) (.ret)) (.seq (.region [oO 20 (.bin .eql (.t 3) (.c (.str ⟨#[102,95,102,105,114,115,116]⟩))),oM 19 20]) (.cond (.t 19) (.seq (.region [oO 21 (.call 149 [.c (.bool false)]),oO 22 (.build [.int .i64 0,.int .i64 0,.nilfunc] [(0,1,nI 1),(1,1,nI 0),(2,1,.t 21)]),oU (.store 3 (.t 2) (.t 22))]) (.ret)) (.seq (.region [oO 24 (.bin .eql (.t 3) (.c (.str ⟨#[102,95,108,97,115,116]⟩))),oM 23 24]) (.cond (.t 23) (.seq (.region [oO 25 (.call 149 [.c (.bool true)]),oO 26 (.build [.int .i64 0,.int .i64 0,.nilfunc] [(0,1,nI 1),(1,1,nI 0),(2,1,.t 25)]),oU (.store 3 (.t 2) (.t 26))]) (.ret)) (.seq (.region [oO 28 (.bin .eql (.t 3) (.c (.str ⟨#[102,95,114,101,115,116]⟩))),oM 27 28]) (.cond (.t 27) (.seq (.region [oO 29 (.build [.int .i64 0,.int .i64 0,.nilfunc] [(0,1,nI 1),(1,1,nI 0),(2,1,.f 150)]),oU (.store 3 (.t 2) (.t 29))]) (.ret)) (.seq (.region [oO 31 (.bin .eql (.t 3) (.c (.str ⟨#[102,95,114,101,118,101,114,115,101]⟩))),oM 30 31]) (.cond (.t 30) (.seq (.region [oO 32 (.build [.int .i64 0,.int .i64 0,.nilfunc] [(0,1,nI 1),(1,1,nI 0),(2,1,.f 151)]),oU (.store 3 (.t 2) (.t 32))]) (.ret)) (.skip))))))))))))))))))))) (.seq (.region [oO 33 (.build [.int .i64 0,.int .i64 0,.nilfunc] [(0,1,nI (-1))]),oU (.store 3 (.t 2) (.t 33))]) (.ret))),.pure,true,true⟩
theorem k127:compF Tryz.prog {mt:=false,mtAt:=[],mode:=.pure,clArgs:=true,clRes:=true} Tryz.f127=some c127:=by kernel_rfl
def c128:AFunc:=⟨19,[.tmp 4],.seq (.region [oO 4 (.mv (nI 0))]) (.seq (.seq (.region [oM 6 0,oO 7 (.len false (.t 6)),oO 8 (.mv (nI 0))]) (.block 0 (.loop (.seq (.region [oO 9 (.bin .lss (.t 8) (.t 7))]) (.seq (.cond (.t 9) (.skip) (.exit 0)) (.seq (.block 1 (.seq (.region [oM 10 8,oM 5 10]) (.seq (.region [oM 11 1,oM 12 0,oM 13 5,oO 14 (.iaddrS 3 (.t 12) (.t 13)),oR 15 3 14,oO 16 (.callv (.t 11) [.t 15])]) (.cond (.t 16) (.seq (.region [oM 17 5,oM 4 17]) (.ret)) (.skip))))) (.region [oO 18 (.bin .add (.t 8) (nI 1)),oM 8 18]))))))) (.seq (.region [oO 4 (.mv (nI (-1)))]) (.ret))),.gc,false,false⟩
theorem k128:compF Tryz.prog {mt:=false,mtAt:=[],mode:=.gc,clArgs:=false,clRes:=false} Tryz.f128=some c128:=by kernel_rfl
def c129:AFunc:=⟨8,[],.seq (.region [oO 2 (.box (.t 0))]) (.seq (.region [oO 3 (.alloc [.nilfunc])]) (.seq (.region [oO 4 (.mkfn 130 [.t 2,.t 3]),oU (.store 1 (.t 3) (.t 4))]) (.region [oL 5 1 3,oL 6 1 1,oO 7 (.callv (.t 5) [.t 6])]))),.raw,false,false⟩
theorem k129:compF Tryz.prog {mt:=false,mtAt:=[],mode:=.raw,clArgs:=false,clRes:=false} Tryz.f129=some c129:=by kernel_rfl
def c130:AFunc:=⟨27,[.tmp 4],.seq (.region [oO 4 (.mv (.c (.bool false)))]) (.seq (.seq (.region [oM 7 0,oO 8 (.len false (.t 7)),oO 9 (.mv (nI 0))]) (.block 0 (.loop (.seq (.region [oO 10 (.bin .lss (.t 9) (.t 8))]) (.seq (.cond (.t 10) (.skip) (.exit 0)) (.seq (.block 1 (.seq (.region [oO 11 (.iaddrS 7 (.t 7) (.t 9)),oR 12 7 11,oO 6 (.alloc [.int .i64 0,.str ⟨#[]⟩,.int .i64 0,.int .i64 0,.str ⟨#[]⟩,.isl [] true,.isl [] true]),oU (.store 7 (.t 6) (.t 12))]) (.seq (.region [oF 13 0 6,oL 14 1 13,oO 15 (.bin .eql (.t 14) (nI 1))]) (.cond (.t 15) (.seq (.region [oL 16 1 1,oF 17 1 6,oL 18 1 17,oO 19 (.callv (.t 16) [.t 18]),oO 20 (.un .not (.t 19))]) (.cond (.t 20) (.seq (.region [oO 4 (.mv (.c (.bool false)))]) (.ret)) (.skip))) (.seq (.region [oL 21 1 2,oF 22 6 6,oL 23 1 22,oO 24 (.callv (.t 21) [.t 23]),oO 25 (.un .not (.t 24))]) (.cond (.t 25) (.seq (.region [oO 4 (.mv (.c (.bool false)))]) (.ret)) (.skip))))))) (.region [oO 26 (.bin .add (.t 9) (nI 1)),oM 9 26]))))))) (.seq (.region [oO 4 (.mv (.c (.bool true)))]) (.ret))),.raw,false,false⟩
theorem k130:compF Tryz.prog {mt:=false,mtAt:=[],mode:=.raw,clArgs:=false,clRes:=false} Tryz.f130=some c130:=by kernel_rfl
def c131:AFunc:=⟨9,[.tmp 4],.seq (.region [oO 4 (.mv (.c (.bool false)))]) (.seq (.region [oM 5 0,oM 6 1,oO 7 (.call 152 [.t 5,.t 6]),oO 8 (.bin .geq (.t 7) (nI 0)),oM 4 8]) (.ret)),.gc,false,false⟩
theorem k131:compF Tryz.prog {mt:=false,mtAt:=[],mode:=.gc,clArgs:=false,clRes:=false} Tryz.f131=some c131:=by kernel_rfl
def c132:AFunc:=⟨8,[.tmp 3],.seq (.region [oO 2 (.box (.t 0)),oO 3 (.mv (.c (.bool false)))]) (.seq (.region [oL 4 1 1,oR 5 7 2,oO 6 (.callv (.t 4) [.t 5]),oO 7 (.un .not (.t 6)),oM 3 7]) (.ret)),.gc,false,false⟩
theorem k132:compF Tryz.prog {mt:=false,mtAt:=[],mode:=.gc,clArgs:=false,clRes:=false} Tryz.f132=some c132:=by kernel_rfl
def c133:AFunc:=⟨119,[.tmp 4],.seq (.region [oO 2 (.box (.t 0)),oO 3 (.box (.t 1)),oO 4 (.mv (.c (.bool false)))]) (.seq (.region [oF 8 2 2,oR 9 4 8,oO 5 (.alloc [.int .i64 0,.int .i64 0,.str ⟨#[]⟩,.isl [] true]),oU (.store 4 (.t 5) (.t 9))]) (.seq (.region [oF 10 0 5,oL 11 1 10,oO 12 (.bin .eql (.t 11) (nI 0)),oM 13 12,oG 14 (.faddr 1 (.t 5)) 13 true,oG 15 (.load 1 false (.t 14)) 13 true,oG 16 (.bin .eql (.t 15) (nI 0)) 13 true,oO 17 (.pick (.t 13) (.t 16) (.c (.bool false))),oM 18 17,oG 19 (.faddr 2 (.t 5)) 18 true,oG 20 (.load 1 false (.t 19)) 18 true,oG 21 (.bin .eql (.t 20) (.c (.str ⟨#[]⟩))) 18 true,oO 22 (.pick (.t 18) (.t 21) (.c (.bool false))),oM 23 22,oG 24 (.faddr 3 (.t 5)) 23 true,oG 25 (.load 1 false (.t 24)) 23 true,oG 26 (.len false (.t 25)) 23 true,oG 27 (.bin .eql (.t 26) (nI 0)) 23 true,oO 28 (.pick (.t 23) (.t 27) (.c (.bool false))),oM 6 28]) (.seq (.region [oM 29 6,oM 7 29]) (.seq (.seq (.region [oF 30 0 2,oL 31 1 30]) (.block 0 (.seq (.region [oO 33 (.bin .eql (.t 31) (nI 1)),oM 32 33]) (.cond (.t 32) (.region [oM 34 6,oM 35 34,oG 36 (.faddr 6 (.t 2)) 35 true,oG 37 (.load 1 false (.t 36)) 35 true,oG 38 (.len false (.t 37)) 35 true,oG 39 (.bin .eql (.t 38) (nI 0)) 35 true,oO 40 (.pick (.t 35) (.t 39) (.c (.bool false))),oM 41 40,oG 42 (.faddr 1 (.t 2)) 41 true,oG 43 (.load 1 false (.t 42)) 41 true,oG 44 (.call 111 [.t 43]) 41 true,oO 45 (.pick (.t 41) (.t 44) (.c (.bool false))),oM 7 45]) (.seq (.region [oO 47 (.bin .eql (.t 31) (nI 2)),oM 46 47]) (.cond (.t 46) (.region [oR 48 4 5,oO 49 (.call 98 [.t 48]),oM 50 49,oG 51 (.faddr 6 (.t 2)) 50 true,oG 52 (.load 1 false (.t 51)) 50 true,oG 53 (.len false (.t 52)) 50 true,oG 54 (.bin .eql (.t 53) (nI 0)) 50 true,oO 55 (.pick (.t 50) (.t 54) (.c (.bool false))),oM 56 55,oG 57 (.faddr 1 (.t 2)) 56 true,oG 58 (.load 1 false (.t 57)) 56 true,oG 59 (.bin .eql (.t 58) (.c (.str ⟨#[]⟩))) 56 true,oO 60 (.pick (.t 56) (.t 59) (.c (.bool false))),oM 61 60,oG 62 (.faddr 0 (.t 5)) 61 true,oG 63 (.load 1 false (.t 62)) 61 true,oG 64 (.bin .neq (.t 63) (nI 3)) 61 true,oG 65 (.mv (.t 64)) 61 true,oG 66 (.faddr 2 (.t 5)) 65 false,oG 67 (.load 1 false (.t 66)) 65 false,oG 68 (.call 104 [.t 67]) 65 false,oG 69 (.bin .lss (.t 68) (nI 0)) 65 false,oG 70 (.pick (.t 65) (.c (.bool true)) (.t 69)) 61 true,oO 71 (.pick (.t 61) (.t 70) (.c (.bool false))),oM 7 71]) (.seq (.region [oO 73 (.bin .eql (.t 31) (nI 3)),oM 72 73]) (.cond (.t 72) (.region [oM 74 6,oM 75 74,oG 76 (.faddr 1 (.t 2)) 75 true,oG 77 (.load 1 false (.t 76)) 75 true,oG 79 (.faddr 6 (.t 2)) 75 true,oG 80 (.load 1 false (.t 79)) 75 true,oG 81 (.len false (.t 80)) 75 true,⟨(some 78),.call 104 [.t 77],(some (75,true)),[.t 79]⟩,oG 82 (.bin .eql (.t 78) (.t 81)) 75 true,oO 83 (.pick (.t 75) (.t 82) (.c (.bool false))),oM 7 83]) (.seq (.region [oO 85 (.bin .eql (.t 31) (nI 4)),oM 84 85]) (.cond (.t 84) (.region [oM 86 6,oM 87 86,oG 88 (.faddr 6 (.t 2)) 87 true,oG 89 (.load 1 false (.t 88)) 87 true,oG 90 (.len false (.t 89)) 87 true,oG 91 (.bin .eql (.t 90) (nI 2)) 87 true,oO 92 (.pick (.t 87) (.t 91) (.c (.bool false))),oM 93 92,oG 94 (.faddr 1 (.t 2)) 93 true,oG 95 (.load 1 false (.t 94)) 93 true,oG 96 (.bin .eql (.t 95) (.c (.str ⟨#[43]⟩))) 93 true,oG 97 (.mv (.t 96)) 93 true,oG 98 (.faddr 1 (.t 2)) 97 false,oG 99 (.load 1 false (.t 98)) 97 false,oG 100 (.bin .eql (.t 99) (.c (.str ⟨#[45]⟩))) 97 false,oG 101 (.pick (.t 97) (.c (.bool true)) (.t 100)) 93 true,oG 102 (.mv (.t 101)) 93 true,oG 103 (.faddr 1 (.t 2)) 102 false,oG 104 (.load 1 false (.t 103)) 102 false,oG 105 (.bin .eql (.t 104) (.c (.str ⟨#[42]⟩))) 102 false,oG 106 (.pick (.t 102) (.c (.bool true)) (.t 105)) 93 true,oO 107 (.pick (.t 93) (.t 106) (.c (.bool false))),oM 7 107]) (.seq (.region [oO 4 (.mv (.c (.bool false)))]) (.ret)))))))))))) (.seq (.region [oM 108 7,oM 109 108,oG 110 (.load 1 false (.t 3)) 109 true,oG 111 (.bin .gtr (.t 110) (nI 0)) 109 true,oO 112 (.pick (.t 109) (.t 111) (.c (.bool false))),oM 113 112,oG 114 (.faddr 6 (.t 2)) 113 true,oG 115 (.load 1 false (.t 114)) 113 true,oG 116 (.mkfn 153 [.t 3]) 113 true,oG 117 (.call 108 [.t 115,.t 116]) 113 true,oO 118 (.pick (.t 113) (.t 117) (.c (.bool false))),oM 4 118]) (.ret)))))),.pure,true,true⟩
theorem k133:compF Tryz.prog {mt:=false,mtAt:=[],mode:=.pure,clArgs:=true,clRes:=true} Tryz.f133=some c133:=by kernel_rfl
def c135:AFunc:=⟨10,[.tmp 2],.seq (.region [oO 1 (.box (.t 0)),oO 2 (.mv (.c (.str ⟨#[]⟩)))]) (.seq (.seq (.region [oR 4 4 1,oO 5 (.call 98 [.t 4]),oO 6 (.un .not (.t 5))]) (.cond (.t 6) (.seq (.region [oO 2 (.mv (.c (.str ⟨#[]⟩)))]) (.ret)) (.skip))) (.seq (.region [oO 3 (.allocB 122 5)]) (.seq (.region [oR 7 4 1,oO 8 (.call 154 [.t 3,.t 7])]) (.seq (.region [oO 9 (.call 75 [.t 3]),oM 2 9]) (.ret))))),.pure,true,true⟩
theorem k135:compF Tryz.prog {mt:=false,mtAt:=[],mode:=.pure,clArgs:=true,clRes:=true} Tryz.f135=some c135:=by kernel_rfl
def c136:AFunc:=⟨8,[],.seq (.region [oO 4 (.box (.t 1))]) (.region [oL 5 1 2,oR 6 7 4,oO 7 (.call 115 [.t 5,.t 6])]),.gc,false,false⟩
theorem k136:compF Tryz.prog {mt:=false,mtAt:=[],mode:=.gc,clArgs:=false,clRes:=false} Tryz.f136=some c136:=by kernel_rfl
def c137:AFunc:=⟨125,[.tmp 4],.seq (.region [oO 2 (.box (.t 0)),oO 4 (.mv (.c (.bool false)))]) (.seq (.seq (.region [oF 9 0 2,oL 10 1 9,oO 11 (.bin .eql (.t 10) (nI 1))]) (.cond (.t 11) (.seq (.region [oF 12 2 2,oL 13 1 12,oO 14 (.bin .eql (.t 13) (.c (.str ⟨#[]⟩))),oM 15 14,oG 16 (.faddr 3 (.t 2)) 15 true,oG 17 (.load 1 false (.t 16)) 15 true,oG 18 (.len false (.t 17)) 15 true,oG 19 (.bin .eql (.t 18) (nI 0)) 15 true,oO 20 (.pick (.t 15) (.t 19) (.c (.bool false))),oM 21 20,oG 22 (.faddr 1 (.t 2)) 21 true,oG 23 (.load 1 false (.t 22)) 21 true,oG 24 (.bin .leq (.t 23) (nI 2147483647)) 21 true,oO 25 (.pick (.t 21) (.t 24) (.c (.bool false))),oM 26 25,oG 27 (.faddr 1 (.t 2)) 26 true,oG 28 (.load 1 false (.t 27)) 26 true,oG 29 (.bin .geq (.t 28) (nI (-2147483647))) 26 true,oO 30 (.pick (.t 26) (.t 29) (.c (.bool false))),oM 4 30]) (.ret)) (.skip))) (.seq (.seq (.region [oF 31 1 2,oL 32 1 31,oO 33 (.bin .neq (.t 32) (nI 0))]) (.cond (.t 33) (.seq (.region [oO 4 (.mv (.c (.bool false)))]) (.ret)) (.skip))) (.seq (.seq (.region [oF 34 0 2,oL 35 1 34]) (.block 0 (.seq (.region [oO 37 (.bin .eql (.t 35) (nI 2)),oM 36 37]) (.cond (.t 36) (.seq (.seq (.region [oO 5 (.mv (nI 0))]) (.block 1 (.loop (.seq (.seq (.region [oM 38 5,oF 39 2 2,oL 40 1 39,oO 41 (.len true (.t 40)),oO 42 (.bin .lss (.t 38) (.t 41))]) (.cond (.t 42) (.skip) (.exit 1))) (.seq (.block 2 (.seq (.region [oF 45 2 2,oL 46 1 45,oM 47 5,oO 48 (.idxStr (.t 46) (.t 47)),oO 49 (.bin .lss (.t 48) (.c (.int .u8 32))),oM 50 49,oG 51 (.faddr 2 (.t 2)) 50 false,oG 52 (.load 1 false (.t 51)) 50 false,oG 53 (.mv (.t 5)) 50 false,oG 54 (.idxStr (.t 52) (.t 53)) 50 false,oG 55 (.bin .gtr (.t 54) (.c (.int .u8 126))) 50 false,oO 56 (.pick (.t 50) (.c (.bool true)) (.t 55)),oM 57 56,oG 58 (.faddr 2 (.t 2)) 57 false,oG 59 (.load 1 false (.t 58)) 57 false,oG 60 (.mv (.t 5)) 57 false,oG 61 (.idxStr (.t 59) (.t 60)) 57 false,oG 62 (.bin .eql (.t 61) (.c (.int .u8 34))) 57 false,oO 63 (.pick (.t 57) (.c (.bool true)) (.t 62)),oM 64 63,oG 65 (.faddr 2 (.t 2)) 64 false,oG 66 (.load 1 false (.t 65)) 64 false,oG 67 (.mv (.t 5)) 64 false,oG 68 (.idxStr (.t 66) (.t 67)) 64 false,oG 69 (.bin .eql (.t 68) (.c (.int .u8 92))) 64 false,oO 70 (.pick (.t 64) (.c (.bool true)) (.t 69))]) (.cond (.t 70) (.seq (.region [oO 4 (.mv (.c (.bool false)))]) (.ret)) (.skip)))) (.region [oM 43 5,oO 44 (.bin .add (.t 43) (nI 1)),oM 5 44])))))) (.seq (.region [oF 71 2 2,oL 72 1 71,oO 73 (.len true (.t 72)),oO 74 (.bin .leq (.t 73) (nI 32)),oM 75 74,oG 76 (.faddr 3 (.t 2)) 75 true,oG 77 (.load 1 false (.t 76)) 75 true,oG 78 (.len false (.t 77)) 75 true,oG 79 (.bin .eql (.t 78) (nI 0)) 75 true,oO 80 (.pick (.t 75) (.t 79) (.c (.bool false))),oM 4 80]) (.ret))) (.seq (.region [oO 82 (.bin .eql (.t 35) (nI 3)),oM 81 82]) (.cond (.t 81) (.seq (.region [oF 83 2 2,oL 84 1 83,oO 85 (.call 117 [.t 84]),oM 6 85]) (.seq (.region [oM 86 6,oM 87 86,oG 88 (.faddr 3 (.t 2)) 87 true,oG 89 (.load 1 false (.t 88)) 87 true,oG 90 (.len false (.t 89)) 87 true,oG 91 (.bin .eql (.t 90) (nI 0)) 87 true,oO 92 (.pick (.t 87) (.t 91) (.c (.bool false))),oM 4 92]) (.ret))) (.seq (.region [oO 94 (.bin .eql (.t 35) (nI 4)),oM 93 94]) (.cond (.t 93) (.seq (.seq (.region [oF 95 2 2,oL 96 1 95,oO 97 (.bin .neq (.t 96) (.c (.str ⟨#[]⟩))),oM 98 97,oG 99 (.faddr 3 (.t 2)) 98 false,oG 100 (.load 1 false (.t 99)) 98 false,oG 101 (.len false (.t 100)) 98 false,oG 102 (.bin .gtr (.t 101) (nI 16)) 98 false,oO 103 (.pick (.t 98) (.c (.bool true)) (.t 102)),oM 104 103,oG 105 (.mv (.t 1)) 104 false,oG 106 (.bin .lss (.t 105) (nI 1)) 104 false,oO 107 (.pick (.t 104) (.c (.bool true)) (.t 106))]) (.cond (.t 107) (.seq (.region [oO 4 (.mv (.c (.bool false)))]) (.ret)) (.skip))) (.seq (.seq (.region [oO 7 (.mv (nI 0))]) (.block 3 (.loop (.seq (.seq (.region [oM 108 7,oF 109 3 2,oL 110 1 109,oO 111 (.len false (.t 110)),oO 112 (.bin .lss (.t 108) (.t 111))]) (.cond (.t 112) (.skip) (.exit 3))) (.seq (.block 4 (.seq (.region [oF 115 3 2,oL 116 1 115,oM 117 7,oO 118 (.iaddrS 4 (.t 116) (.t 117)),oR 119 4 118,oM 120 1,oO 121 (.bin .sub (.t 120) (nI 1)),oO 122 (.call 137 [.t 119,.t 121]),oM 8 122]) (.seq (.region [oM 123 8,oO 124 (.un .not (.t 123))]) (.cond (.t 124) (.seq (.region [oO 4 (.mv (.c (.bool false)))]) (.ret)) (.skip))))) (.region [oM 113 7,oO 114 (.bin .add (.t 113) (nI 1)),oM 7 114])))))) (.seq (.region [oO 4 (.mv (.c (.bool true)))]) (.ret)))) (.skip))))))))) (.seq (.region [oO 4 (.mv (.c (.bool false)))]) (.ret))))),.pure,true,true⟩
theorem k137:compF Tryz.prog {mt:=false,mtAt:=[],mode:=.pure,clArgs:=true,clRes:=true} Tryz.f137=some c137:=by kernel_rfl
def c138:AFunc:=⟨111,[.tmp 4],.seq (.region [oO 2 (.box (.t 0)),oO 4 (.mv (.c (.bool false)))]) (.seq (.seq (.region [oM 12 1,oO 13 (.bin .lss (.t 12) (nI 1))]) (.cond (.t 13) (.seq (.region [oO 4 (.mv (.c (.bool false)))]) (.ret)) (.skip))) (.seq (.seq (.region [oF 14 0 2,oL 15 1 14]) (.block 0 (.seq (.region [oO 17 (.bin .eql (.t 15) (nI 1)),oM 16 17]) (.cond (.t 16) (.seq (.region [oF 18 1 2,oL 19 1 18,oO 20 (.call 121 [.t 19]),oM 5 20]) (.seq (.region [oF 21 2 2,oR 22 4 21,oO 23 (.call 155 [.t 22]),oM 6 23]) (.seq (.region [oM 24 5,oM 25 24,oG 26 (.mv (.t 6)) 25 true,oO 27 (.pick (.t 25) (.t 26) (.c (.bool false))),oM 28 27,oG 29 (.faddr 6 (.t 2)) 28 true,oG 30 (.load 1 false (.t 29)) 28 true,oG 31 (.len false (.t 30)) 28 true,oG 32 (.bin .eql (.t 31) (nI 0)) 28 true,oO 33 (.pick (.t 28) (.t 32) (.c (.bool false))),oM 4 33]) (.ret)))) (.seq (.region [oO 35 (.bin .eql (.t 15) (nI 2)),oM 34 35]) (.cond (.t 34) (.seq (.region [oF 36 2 2,oR 37 4 36,oO 38 (.call 118 [.t 37]),oM 7 38]) (.seq (.region [oM 39 7,oM 40 39,oG 41 (.faddr 1 (.t 2)) 40 true,oG 42 (.load 1 false (.t 41)) 40 true,oG 43 (.bin .eql (.t 42) (.c (.str ⟨#[]⟩))) 40 true,oO 44 (.pick (.t 40) (.t 43) (.c (.bool false))),oM 45 44,oG 46 (.faddr 6 (.t 2)) 45 true,oG 47 (.load 1 false (.t 46)) 45 true,oG 48 (.len false (.t 47)) 45 true,oG 49 (.bin .eql (.t 48) (nI 0)) 45 true,oO 50 (.pick (.t 45) (.t 49) (.c (.bool false))),oM 51 50,oG 52 (.faddr 2 (.t 2)) 51 true,oG 53 (.faddr 0 (.t 52)) 51 true,oG 54 (.load 1 false (.t 53)) 51 true,oG 55 (.bin .eql (.t 54) (nI 3)) 51 true,oG 56 (.mv (.t 55)) 51 true,oG 57 (.faddr 2 (.t 2)) 56 true,oG 58 (.faddr 2 (.t 57)) 56 true,oG 59 (.load 1 false (.t 58)) 56 true,oG 60 (.call 53 [.t 59]) 56 true,oG 61 (.bin .geq (.t 60) (nI 0)) 56 true,oG 62 (.pick (.t 56) (.t 61) (.c (.bool false))) 51 true,oG 63 (.un .not (.t 62)) 51 true,oO 64 (.pick (.t 51) (.t 63) (.c (.bool false))),oM 4 64]) (.ret))) (.seq (.region [oO 66 (.bin .eql (.t 15) (nI 3)),oM 65 66]) (.cond (.t 65) (.seq (.region [oF 67 1 2,oL 68 1 67,oF 70 6 2,oL 71 1 70,oO 72 (.len false (.t 71)),⟨(some 69),.call 53 [.t 68],none,[.t 70]⟩,oO 73 (.bin .neq (.t 69) (.t 72))]) (.cond (.t 73) (.seq (.region [oO 4 (.mv (.c (.bool false)))]) (.ret)) (.skip))) (.seq (.region [oO 75 (.bin .eql (.t 15) (nI 4)),oM 74 75]) (.cond (.t 74) (.seq (.region [oO 76 (.buildSl 3 1 false [.str ⟨#[]⟩,.str ⟨#[]⟩,.str ⟨#[]⟩] [(0,1,.c (.str ⟨#[43]⟩)),(1,1,.c (.str ⟨#[45]⟩)),(2,1,.c (.str ⟨#[42]⟩))]),oF 77 1 2,oL 78 1 77,oO 79 (.call 93 [.t 76,.t 78]),oM 8 79]) (.seq (.region [oM 80 8,oO 81 (.un .not (.t 80)),oM 82 81,oG 83 (.faddr 6 (.t 2)) 82 false,oG 84 (.load 1 false (.t 83)) 82 false,oG 85 (.len false (.t 84)) 82 false,oG 86 (.bin .neq (.t 85) (nI 2)) 82 false,oO 87 (.pick (.t 82) (.c (.bool true)) (.t 86))]) (.cond (.t 87) (.seq (.region [oO 4 (.mv (.c (.bool false)))]) (.ret)) (.skip)))) (.seq (.region [oO 4 (.mv (.c (.bool false)))]) (.ret)))))))))))) (.seq (.region [oF 88 2 2,oR 89 4 88,oO 90 (.call 155 [.t 89]),oM 9 90]) (.seq (.seq (.region [oO 10 (.mv (nI 0))]) (.block 1 (.loop (.seq (.seq (.region [oM 91 10,oF 92 6 2,oL 93 1 92,oO 94 (.len false (.t 93)),oO 95 (.bin .lss (.t 91) (.t 94))]) (.cond (.t 95) (.skip) (.exit 1))) (.seq (.block 2 (.seq (.region [oF 98 6 2,oL 99 1 98,oM 100 10,oO 101 (.iaddrS 7 (.t 99) (.t 100)),oR 102 7 101,oM 103 1,oO 104 (.bin .sub (.t 103) (nI 1)),oO 105 (.call 138 [.t 102,.t 104]),oM 11 105]) (.region [oM 106 9,oM 107 106,oG 108 (.mv (.t 11)) 107 true,oO 109 (.pick (.t 107) (.t 108) (.c (.bool false))),oM 9 109]))) (.region [oM 96 10,oO 97 (.bin .add (.t 96) (nI 1)),oM 10 97])))))) (.seq (.region [oM 110 9,oM 4 110]) (.ret)))))),.pure,true,true⟩
theorem k138:compF Tryz.prog {mt:=false,mtAt:=[],mode:=.pure,clArgs:=true,clRes:=true} Tryz.f138=some c138:=by kernel_rfl
def c139:AFunc:=⟨24,[.tmp 2],.seq (.region [oO 2 (.mv (.c (.str ⟨#[]⟩)))]) (.seq (.seq (.region [oM 4 0,oO 5 (.bin .lss (.t 4) (nI 0))]) (.cond (.t 5) (.seq (.region [oM 6 0,oO 7 (.un .neg (.t 6)),oO 8 (.call 139 [.t 7]),oO 9 (.bin .add (.c (.str ⟨#[45]⟩)) (.t 8)),oM 2 9]) (.ret)) (.skip))) (.seq (.region [oM 10 0,oO 11 (.bin .rem (.t 10) (nI 10)),oO 12 (.bin .add (nI 48) (.t 11)),oO 13 (.conv .u8 (.t 12)),oO 14 (.buildSl 1 1 false [.int .u8 0] [(0,1,.t 13)]),oO 15 (.b2s (.t 14)),oM 3 15]) (.seq (.seq (.region [oM 16 0,oO 17 (.bin .geq (.t 16) (nI 10))]) (.cond (.t 17) (.seq (.region [oM 18 0,oO 19 (.bin .quo (.t 18) (nI 10)),oO 20 (.call 139 [.t 19]),oM 21 3,oO 22 (.bin .add (.t 20) (.t 21)),oM 2 22]) (.ret)) (.skip))) (.seq (.region [oM 23 3,oM 2 23]) (.ret))))),.pure,true,true⟩
theorem k139:compF Tryz.prog {mt:=false,mtAt:=[],mode:=.pure,clArgs:=true,clRes:=true} Tryz.f139=some c139:=by kernel_rfl
def c140:AFunc:=⟨19,[.tmp 4],.seq (.region [oO 4 (.mv (nI 0))]) (.seq (.seq (.region [oM 6 0,oO 7 (.len false (.t 6)),oO 8 (.mv (nI 0))]) (.block 0 (.loop (.seq (.region [oO 9 (.bin .lss (.t 8) (.t 7))]) (.seq (.cond (.t 9) (.skip) (.exit 0)) (.seq (.block 1 (.seq (.region [oM 10 8,oM 5 10]) (.seq (.region [oM 11 1,oM 12 0,oM 13 5,oO 14 (.iaddrS 4 (.t 12) (.t 13)),oR 15 4 14,oO 16 (.callv (.t 11) [.t 15])]) (.cond (.t 16) (.seq (.region [oM 17 5,oM 4 17]) (.ret)) (.skip))))) (.region [oO 18 (.bin .add (.t 8) (nI 1)),oM 8 18]))))))) (.seq (.region [oO 4 (.mv (nI (-1)))]) (.ret))),.gc,false,false⟩
theorem k140:compF Tryz.prog {mt:=false,mtAt:=[],mode:=.gc,clArgs:=false,clRes:=false} Tryz.f140=some c140:=by kernel_rfl
def c141:AFunc:=⟨22,[.tmp 2],.seq (.region [oO 1 (.box (.t 0)),oO 2 (.mv (.c (.bool false)))]) (.seq (.region [oF 3 0 1,oL 4 1 3,oO 5 (.bin .eql (.t 4) (nI 0)),oM 6 5,oG 7 (.faddr 1 (.t 1)) 6 true,oG 8 (.load 1 false (.t 7)) 6 true,oG 9 (.bin .eql (.t 8) (nI 0)) 6 true,oO 10 (.pick (.t 6) (.t 9) (.c (.bool false))),oM 11 10,oG 12 (.faddr 2 (.t 1)) 11 true,oG 13 (.load 1 false (.t 12)) 11 true,oG 14 (.bin .eql (.t 13) (.c (.str ⟨#[]⟩))) 11 true,oO 15 (.pick (.t 11) (.t 14) (.c (.bool false))),oM 16 15,oG 17 (.faddr 3 (.t 1)) 16 true,oG 18 (.load 1 false (.t 17)) 16 true,oG 19 (.len false (.t 18)) 16 true,oG 20 (.bin .eql (.t 19) (nI 0)) 16 true,oO 21 (.pick (.t 16) (.t 20) (.c (.bool false))),oM 2 21]) (.ret)),.pure,true,true⟩
theorem k141:compF Tryz.prog {mt:=false,mtAt:=[],mode:=.pure,clArgs:=true,clRes:=true} Tryz.f141=some c141:=by kernel_rfl
def c142:AFunc:=⟨27,[.tmp 2],.seq (.region [oO 2 (.mv (.c (.bool false)))]) (.seq (.seq (.region [oM 5 0,oO 6 (.rng (.t 5))]) (.block 0 (.loop (.seq (.region [oO 7 (.nxt (.t 6)),oX 8 0 7]) (.seq (.cond (.t 8) (.skip) (.exit 0)) (.block 1 (.seq (.region [oX 9 2 7,oM 4 9]) (.seq (.region [oM 10 4,oO 11 (.bin .lss (.t 10) (.c (.int .i32 32))),oM 12 11,oG 13 (.mv (.t 4)) 12 false,oG 14 (.bin .gtr (.t 13) (.c (.int .i32 126))) 12 false,oO 15 (.pick (.t 12) (.c (.bool true)) (.t 14)),oM 16 15,oG 17 (.mv (.t 4)) 16 false,oG 18 (.bin .eql (.t 17) (.c (.int .i32 34))) 16 false,oO 19 (.pick (.t 16) (.c (.bool true)) (.t 18)),oM 20 19,oG 21 (.mv (.t 4)) 20 false,oG 22 (.bin .eql (.t 21) (.c (.int .i32 92))) 20 false,oO 23 (.pick (.t 20) (.c (.bool true)) (.t 22))]) (.cond (.t 23) (.seq (.region [oO 2 (.mv (.c (.bool false)))]) (.ret)) (.skip)))))))))) (.seq (.region [oM 24 0,oO 25 (.len true (.t 24)),oO 26 (.bin .leq (.t 25) (nI 32)),oM 2 26]) (.ret))),.pure,true,true⟩
theorem k142:compF Tryz.prog {mt:=false,mtAt:=[],mode:=.pure,clArgs:=true,clRes:=true} Tryz.f142=some c142:=by kernel_rfl
def c143:AFunc:=⟨9,[.tmp 3],.seq (.region [oO 2 (.box (.t 0)),oO 3 (.mv (.c (.bool false)))]) (.seq (.region [oR 4 4 2,oL 5 1 1,oO 6 (.bin .sub (.t 5) (nI 1)),oO 7 (.call 126 [.t 4,.t 6]),oO 8 (.un .not (.t 7)),oM 3 8]) (.ret)),.gc,false,false⟩
theorem k143:compF Tryz.prog {mt:=false,mtAt:=[],mode:=.gc,clArgs:=false,clRes:=false} Tryz.f143=some c143:=by kernel_rfl
def c144:AFunc:=⟨16,[.cell 4 4 true,.tmp 5],.seq (.region [oO 4 (.alloc [.int .i64 0,.int .i64 0,.str ⟨#[]⟩,.isl [] true]),oO 5 (.mv (.c (.bool false)))]) (.seq (.region [oM 6 1,oO 7 (.iaddrS 4 (.t 6) (nI 0)),oR 8 4 7,oO 9 (.buildSl 1 4 true [.int .i64 0,.int .i64 0,.str ⟨#[]⟩,.isl [] true] [(0,4,.t 8)]),oM 10 0,oO 11 (.append 4 true 56 false (.t 9) (.t 10)),oO 12 (.call 157 [.t 11]),oO 13 (.call 156 [.t 12]),oX 14 0 13,oX 15 1 13,oU (.store 4 (.t 4) (.t 14)),oM 5 15]) (.ret)),.pure,true,true⟩
theorem k144:compF Tryz.prog {mt:=false,mtAt:=[],mode:=.pure,clArgs:=true,clRes:=true} Tryz.f144=some c144:=by kernel_rfl
def c145:AFunc:=⟨15,[.cell 4 4 true,.tmp 5],.seq (.region [oO 4 (.alloc [.int .i64 0,.int .i64 0,.str ⟨#[]⟩,.isl [] true]),oO 5 (.mv (.c (.bool false)))]) (.seq (.region [oM 6 0,oM 7 1,oO 8 (.slSl 4 (.t 7) (some (nI 1)) none),oO 9 (.buildSl 2 1 false [.isl [] true,.isl [] true] [(0,1,.t 6),(1,1,.t 8)]),oO 10 (.call 158 [.t 9]),oO 11 (.call 157 [.t 10]),oO 12 (.call 156 [.t 11]),oX 13 0 12,oX 14 1 12,oU (.store 4 (.t 4) (.t 13)),oM 5 14]) (.ret)),.pure,true,true⟩
theorem k145:compF Tryz.prog {mt:=false,mtAt:=[],mode:=.pure,clArgs:=true,clRes:=true} Tryz.f145=some c145:=by kernel_rfl
def c146:AFunc:=⟨23,[.cell 4 4 true,.tmp 5],.seq (.region [oO 4 (.alloc [.int .i64 0,.int .i64 0,.str ⟨#[]⟩,.isl [] true]),oO 5 (.mv (.c (.bool false)))]) (.seq (.seq (.region [oM 6 1,oO 7 (.iaddrS 4 (.t 6) (nI 1)),oF 8 0 7,oL 9 1 8,oO 10 (.bin .neq (.t 9) (nI 4))]) (.cond (.t 10) (.seq (.region [oO 11 (.build [.int .i64 0,.int .i64 0,.str ⟨#[]⟩,.isl [] true] []),oU (.store 4 (.t 4) (.t 11)),oO 5 (.mv (.c (.bool false)))]) (.ret)) (.skip))) (.seq (.region [oM 12 0,oM 13 1,oO 14 (.iaddrS 4 (.t 13) (nI 1)),oF 15 3 14,oL 16 1 15,oO 17 (.buildSl 2 1 false [.isl [] true,.isl [] true] [(0,1,.t 12),(1,1,.t 16)]),oO 18 (.call 158 [.t 17]),oO 19 (.call 157 [.t 18]),oO 20 (.call 156 [.t 19]),oX 21 0 20,oX 22 1 20,oU (.store 4 (.t 4) (.t 21)),oM 5 22]) (.ret))),.pure,true,true⟩
theorem k146:compF Tryz.prog {mt:=false,mtAt:=[],mode:=.pure,clArgs:=true,clRes:=true} Tryz.f146=some c146:=by kernel_rfl
def c147:AFunc:=⟨11,[.cell 4 4 true,.tmp 5],.seq (.region [oO 3 (.box (.t 1)),oO 4 (.alloc [.int .i64 0,.int .i64 0,.str ⟨#[]⟩,.isl [] true]),oO 5 (.mv (.c (.bool false)))]) (.seq (.seq (.region [oM 6 0,oO 7 (.mkfn 160 [.t 3]),oO 8 (.call 159 [.t 6,.t 7])]) (.cond (.t 8) (.seq (.region [oO 9 (.call 162 [nI 1]),oU (.store 4 (.t 4) (.t 9)),oO 5 (.mv (.c (.bool true)))]) (.ret)) (.skip))) (.seq (.region [oO 10 (.call 162 [nI 0]),oU (.store 4 (.t 4) (.t 10)),oO 5 (.mv (.c (.bool true)))]) (.ret))),.pure,true,true⟩
theorem k147:compF Tryz.prog {mt:=false,mtAt:=[],mode:=.pure,clArgs:=true,clRes:=true} Tryz.f147=some c147:=by kernel_rfl
def c148:AFunc:=⟨9,[.cell 4 4 true,.tmp 5],.seq (.region [oO 4 (.alloc [.int .i64 0,.int .i64 0,.str ⟨#[]⟩,.isl [] true]),oO 5 (.mv (.c (.bool false)))]) (.seq (.region [oM 6 0,oO 7 (.len false (.t 6)),oO 8 (.call 162 [.t 7]),oU (.store 4 (.t 4) (.t 8)),oO 5 (.mv (.c (.bool true)))]) (.ret)),.pure,true,true⟩
theorem k148:compF Tryz.prog {mt:=false,mtAt:=[],mode:=.pure,clArgs:=true,clRes:=true} Tryz.f148=some c148:=by kernel_rfl
def c149:AFunc:=⟨4,[.tmp 2],.seq (.region [oO 1 (.box (.t 0)),oO 2 (.mv (.c (.nilfunc)))]) (.seq (.region [oO 3 (.mkfn 163 [.t 1]),oM 2 3]) (.ret)),.pure,true,true⟩
theorem k149:compF Tryz.prog {mt:=false,mtAt:=[],mode:=.pure,clArgs:=true,clRes:=true} Tryz.f149=some c149:=by kernel_rfl
def c150:AFunc:=⟨13,[.cell 4 4 true,.tmp 5],.seq (.region [oO 4 (.alloc [.int .i64 0,.int .i64 0,.str ⟨#[]⟩,.isl [] true]),oO 5 (.mv (.c (.bool false)))]) (.seq (.seq (.region [oM 6 0,oO 7 (.len false (.t 6)),oO 8 (.bin .eql (.t 7) (nI 0))]) (.cond (.t 8) (.seq (.region [oO 9 (.build [.int .i64 0,.int .i64 0,.str ⟨#[]⟩,.isl [] true] []),oU (.store 4 (.t 4) (.t 9)),oO 5 (.mv (.c (.bool false)))]) (.ret)) (.skip))) (.seq (.region [oM 10 0,oO 11 (.slSl 4 (.t 10) (some (nI 1)) none),oO 12 (.call 157 [.t 11]),oU (.store 4 (.t 4) (.t 12)),oO 5 (.mv (.c (.bool true)))]) (.ret))),.pure,true,true⟩
theorem k150:compF Tryz.prog {mt:=false,mtAt:=[],mode:=.pure,clArgs:=true,clRes:=true} Tryz.f150=some c150:=by kernel_rfl
def c151:AFunc:=⟨13,[.cell 4 4 true,.tmp 5],.seq (.region [oO 4 (.alloc [.int .i64 0,.int .i64 0,.str ⟨#[]⟩,.isl [] true]),oO 5 (.mv (.c (.bool false)))]) (.seq (.region [oM 7 0,oO 8 (.call 157 [.t 7]),oO 6 (.alloc [.int .i64 0,.int .i64 0,.str ⟨#[]⟩,.isl [] true]),oU (.store 4 (.t 6) (.t 8))]) (.seq (.region [oF 9 3 6,oL 10 1 9,oO 11 (.call 164 [.t 10])]) (.seq (.region [oR 12 4 6,oU (.store 4 (.t 4) (.t 12)),oO 5 (.mv (.c (.bool true)))]) (.ret)))),.pure,true,true⟩
theorem k151:compF Tryz.prog {mt:=false,mtAt:=[],mode:=.pure,clArgs:=true,clRes:=true} Tryz.f151=some c151:=by kernel_rfl
def c152:AFunc:=⟨19,[.tmp 4],.seq (.region [oO 4 (.mv (nI 0))]) (.seq (.seq (.region [oM 6 0,oO 7 (.len false (.t 6)),oO 8 (.mv (nI 0))]) (.block 0 (.loop (.seq (.region [oO 9 (.bin .lss (.t 8) (.t 7))]) (.seq (.cond (.t 9) (.skip) (.exit 0)) (.seq (.block 1 (.seq (.region [oM 10 8,oM 5 10]) (.seq (.region [oM 11 1,oM 12 0,oM 13 5,oO 14 (.iaddrS 7 (.t 12) (.t 13)),oR 15 7 14,oO 16 (.callv (.t 11) [.t 15])]) (.cond (.t 16) (.seq (.region [oM 17 5,oM 4 17]) (.ret)) (.skip))))) (.region [oO 18 (.bin .add (.t 8) (nI 1)),oM 8 18]))))))) (.seq (.region [oO 4 (.mv (nI (-1)))]) (.ret))),.gc,false,false⟩
theorem k152:compF Tryz.prog {mt:=false,mtAt:=[],mode:=.gc,clArgs:=false,clRes:=false} Tryz.f152=some c152:=by kernel_rfl
def c153:AFunc:=⟨8,[.tmp 3],.seq (.region [oO 2 (.box (.t 0)),oO 3 (.mv (.c (.bool false)))]) (.seq (.region [oR 4 7 2,oL 5 1 1,oO 6 (.bin .sub (.t 5) (nI 1)),oO 7 (.call 133 [.t 4,.t 6]),oM 3 7]) (.ret)),.gc,false,false⟩
theorem k153:compF Tryz.prog {mt:=false,mtAt:=[],mode:=.gc,clArgs:=false,clRes:=false} Tryz.f153=some c153:=by kernel_rfl
def c154:AFunc:=⟨55,[],.seq (.region [oO 3 (.box (.t 1))]) (.seq (.region [oF 6 0 3,oL 7 1 6]) (.block 0 (.seq (.region [oO 9 (.bin .eql (.t 7) (nI 1)),oM 8 9]) (.cond (.t 8) (.region [oM 10 0,oF 11 1 3,oL 12 1 11,oO 13 (.call 165 [.t 12]),oO 14 (.call 79 [.t 10,.t 13])]) (.seq (.region [oO 16 (.bin .eql (.t 7) (nI 2)),oM 15 16]) (.cond (.t 15) (.region [oM 17 0,oF 18 2 3,oL 19 1 18,oO 20 (.bin .add (.c (.str ⟨#[34]⟩)) (.t 19)),oO 21 (.bin .add (.t 20) (.c (.str ⟨#[34]⟩))),oO 22 (.call 79 [.t 17,.t 21])]) (.seq (.region [oO 24 (.bin .eql (.t 7) (nI 3)),oM 23 24]) (.cond (.t 23) (.region [oM 25 0,oF 26 2 3,oL 27 1 26,oO 28 (.call 79 [.t 25,.t 27])]) (.seq (.region [oO 30 (.bin .eql (.t 7) (nI 4)),oM 29 30]) (.cond (.t 29) (.seq (.seq (.region [oF 31 3 3,oL 32 1 31,oO 33 (.len false (.t 32)),oO 34 (.mv (nI 0))]) (.block 1 (.loop (.seq (.region [oO 35 (.bin .lss (.t 34) (.t 33))]) (.seq (.cond (.t 35) (.skip) (.exit 1)) (.seq (.block 2 (.seq (.region [oM 36 34,oO 37 (.iaddrS 4 (.t 32) (.t 34)),oR 38 4 37,oO 5 (.alloc [.int .i64 0,.int .i64 0,.str ⟨#[]⟩,.isl [] true]),oM 4 36,oU (.store 4 (.t 5) (.t 38))]) (.seq (.region [oM 39 0,oM 40 4,oO 41 (.min2 (.t 40) (nI 1)),oO 42 (.idxStr (.c (.str ⟨#[91,44]⟩)) (.t 41)),oO 43 (.call 84 [.t 39,.t 42])]) (.region [oM 44 0,oR 45 4 5,oO 46 (.call 154 [.t 44,.t 45])])))) (.region [oO 47 (.bin .add (.t 34) (nI 1)),oM 34 47]))))))) (.region [oM 48 0,oF 49 3 3,oL 50 1 49,oO 51 (.len false (.t 50)),oO 52 (.min2 (.t 51) (nI 1)),oO 53 (.strSl (.c (.str ⟨#[91,93]⟩)) (some (.t 52)) none),oO 54 (.call 79 [.t 48,.t 53])])) (.skip))))))))))),.gc,false,true⟩
theorem k154:compF Tryz.prog {mt:=false,mtAt:=[],mode:=.gc,clArgs:=false,clRes:=true} Tryz.f154=some c154:=by kernel_rfl
def c155:AFunc:=⟨22,[.tmp 2],.seq (.region [oO 1 (.box (.t 0)),oO 2 (.mv (.c (.bool false)))]) (.seq (.region [oF 3 0 1,oL 4 1 3,oO 5 (.bin .eql (.t 4) (nI 0)),oM 6 5,oG 7 (.faddr 1 (.t 1)) 6 true,oG 8 (.load 1 false (.t 7)) 6 true,oG 9 (.bin .eql (.t 8) (nI 0)) 6 true,oO 10 (.pick (.t 6) (.t 9) (.c (.bool false))),oM 11 10,oG 12 (.faddr 2 (.t 1)) 11 true,oG 13 (.load 1 false (.t 12)) 11 true,oG 14 (.bin .eql (.t 13) (.c (.str ⟨#[]⟩))) 11 true,oO 15 (.pick (.t 11) (.t 14) (.c (.bool false))),oM 16 15,oG 17 (.faddr 3 (.t 1)) 16 true,oG 18 (.load 1 false (.t 17)) 16 true,oG 19 (.len false (.t 18)) 16 true,oG 20 (.bin .eql (.t 19) (nI 0)) 16 true,oO 21 (.pick (.t 16) (.t 20) (.c (.bool false))),oM 2 21]) (.ret)),.pure,true,true⟩
theorem k155:compF Tryz.prog {mt:=false,mtAt:=[],mode:=.pure,clArgs:=true,clRes:=true} Tryz.f155=some c155:=by kernel_rfl
def c156:AFunc:=⟨9,[.cell 2 4 true,.tmp 3],.seq (.region [oO 1 (.box (.t 0)),oO 2 (.alloc [.int .i64 0,.int .i64 0,.str ⟨#[]⟩,.isl [] true]),oO 3 (.mv (.c (.bool false)))]) (.seq (.seq (.region [oR 4 4 1,oO 5 (.call 98 [.t 4]),oO 6 (.un .not (.t 5))]) (.cond (.t 6) (.seq (.region [oO 7 (.build [.int .i64 0,.int .i64 0,.str ⟨#[]⟩,.isl [] true] []),oU (.store 4 (.t 2) (.t 7)),oO 3 (.mv (.c (.bool false)))]) (.ret)) (.skip))) (.seq (.region [oR 8 4 1,oU (.store 4 (.t 2) (.t 8)),oO 3 (.mv (.c (.bool true)))]) (.ret))),.pure,true,true⟩
theorem k156:compF Tryz.prog {mt:=false,mtAt:=[],mode:=.pure,clArgs:=true,clRes:=true} Tryz.f156=some c156:=by kernel_rfl
def c157:AFunc:=⟨6,[.cell 2 4 true],.seq (.region [oO 2 (.alloc [.int .i64 0,.int .i64 0,.str ⟨#[]⟩,.isl [] true])]) (.seq (.region [oM 3 0,oO 4 (.call 166 [.t 3]),oO 5 (.build [.int .i64 0,.int .i64 0,.str ⟨#[]⟩,.isl [] true] [(0,1,nI 4),(3,1,.t 4)]),oU (.store 4 (.t 2) (.t 5))]) (.ret)),.raw,true,false⟩
theorem k157:compF Tryz.prog {mt:=false,mtAt:=[],mode:=.raw,clArgs:=true,clRes:=false} Tryz.f157=some c157:=by kernel_rfl
def c158:AFunc:=⟨36,[.tmp 2],.seq (.region [oO 2 (.mv (.c (.isl [] true)))]) (.seq (.region [oO 3 (.mv (nI 0))]) (.seq (.seq (.region [oM 9 0,oO 10 (.len false (.t 9)),oO 11 (.mv (nI 0))]) (.block 0 (.loop (.seq (.region [oO 12 (.bin .lss (.t 11) (.t 10))]) (.seq (.cond (.t 12) (.skip) (.exit 0)) (.seq (.block 1 (.seq (.region [oO 13 (.iaddrS 1 (.t 9) (.t 11)),oL 14 1 13,oM 5 14]) (.seq (.region [oM 15 3,oM 16 5,oO 17 (.len false (.t 16)),oO 18 (.bin .add (.t 15) (.t 17)),oM 3 18]) (.seq (.region [oM 19 3,oO 20 (.bin .lss (.t 19) (nI 0))]) (.cond (.t 20) (.cond (.c (.nilptr)) (.skip) (.skip)) (.skip)))))) (.region [oO 22 (.bin .add (.t 11) (nI 1)),oM 11 22]))))))) (.seq (.region [oM 23 3,oO 24 (.call 167 [.c (.isl [] true),.t 23]),oM 6 24]) (.seq (.seq (.region [oM 25 0,oO 26 (.len false (.t 25)),oO 27 (.mv (nI 0))]) (.block 2 (.loop (.seq (.region [oO 28 (.bin .lss (.t 27) (.t 26))]) (.seq (.cond (.t 28) (.skip) (.exit 2)) (.seq (.block 3 (.seq (.region [oO 29 (.iaddrS 1 (.t 25) (.t 27)),oL 30 1 29,oM 8 30]) (.region [oM 31 6,oM 32 8,oO 33 (.append 4 true 56 false (.t 31) (.t 32)),oM 6 33]))) (.region [oO 34 (.bin .add (.t 27) (nI 1)),oM 27 34]))))))) (.seq (.region [oM 35 6,oM 2 35]) (.ret)))))),.pure,true,true⟩
theorem k158:compF Tryz.prog {mt:=false,mtAt:=[],mode:=.pure,clArgs:=true,clRes:=true} Tryz.f158=some c158:=by kernel_rfl
def c159:AFunc:=⟨9,[.tmp 4],.seq (.region [oO 4 (.mv (.c (.bool false)))]) (.seq (.region [oM 5 0,oM 6 1,oO 7 (.call 168 [.t 5,.t 6]),oO 8 (.bin .geq (.t 7) (nI 0)),oM 4 8]) (.ret)),.pure,true,true⟩
theorem k159:compF Tryz.prog {mt:=false,mtAt:=[],mode:=.pure,clArgs:=true,clRes:=true} Tryz.f159=some c159:=by kernel_rfl
def c160:AFunc:=⟨10,[.tmp 3],.seq (.region [oO 2 (.box (.t 0)),oO 3 (.mv (.c (.bool false)))]) (.seq (.region [oR 4 4 2,oL 5 1 1,oO 6 (.iaddrS 4 (.t 5) (nI 1)),oR 7 4 6,oO 8 (.call 161 [.t 4,.t 7]),oO 9 (.bin .eql (.t 8) (nI 0)),oM 3 9]) (.ret)),.pure,true,true⟩
theorem k160:compF Tryz.prog {mt:=false,mtAt:=[],mode:=.pure,clArgs:=true,clRes:=true} Tryz.f160=some c160:=by kernel_rfl
def c161:AFunc:=⟨38,[.tmp 4],.seq (.region [oO 2 (.box (.t 0)),oO 3 (.box (.t 1)),oO 4 (.mv (nI 0))]) (.seq (.seq (.region [oF 6 0 2,oL 7 1 6,oF 8 0 3,oL 9 1 8,oO 10 (.call 169 [.t 7,.t 9]),oM 5 10]) (.seq (.region [oM 11 5,oO 12 (.bin .neq (.t 11) (nI 0))]) (.cond (.t 12) (.seq (.region [oM 13 5,oM 4 13]) (.ret)) (.skip)))) (.seq (.seq (.region [oF 14 0 2,oL 15 1 14]) (.block 0 (.seq (.region [oO 17 (.bin .eql (.t 15) (nI 1)),oM 16 17]) (.cond (.t 16) (.seq (.region [oF 18 1 2,oL 19 1 18,oF 20 1 3,oL 21 1 20,oO 22 (.call 169 [.t 19,.t 21]),oM 4 22]) (.ret)) (.seq (.seq (.region [oO 24 (.bin .eql (.t 15) (nI 2)),oM 23 24]) (.cond (.t 23) (.skip) (.region [oO 25 (.bin .eql (.t 15) (nI 3)),oM 23 25]))) (.cond (.t 23) (.seq (.region [oF 26 2 2,oL 27 1 26,oF 28 2 3,oL 29 1 28,oO 30 (.call 170 [.t 27,.t 29]),oM 4 30]) (.ret)) (.seq (.region [oO 32 (.bin .eql (.t 15) (nI 4)),oM 31 32]) (.cond (.t 31) (.seq (.region [oF 33 3 2,oL 34 1 33,oF 35 3 3,oL 36 1 35,oO 37 (.call 171 [.t 34,.t 36,.f 161]),oM 4 37]) (.ret)) (.skip))))))))) (.seq (.region [oO 4 (.mv (nI 0))]) (.ret)))),.pure,true,true⟩
theorem k161:compF Tryz.prog {mt:=false,mtAt:=[],mode:=.pure,clArgs:=true,clRes:=true} Tryz.f161=some c161:=by kernel_rfl
def c162:AFunc:=⟨5,[.cell 2 4 true],.seq (.region [oO 2 (.alloc [.int .i64 0,.int .i64 0,.str ⟨#[]⟩,.isl [] true])]) (.seq (.region [oM 3 0,oO 4 (.build [.int .i64 0,.int .i64 0,.str ⟨#[]⟩,.isl [] true] [(0,1,nI 1),(1,1,.t 3)]),oU (.store 4 (.t 2) (.t 4))]) (.ret)),.pure,true,true⟩
theorem k162:compF Tryz.prog {mt:=false,mtAt:=[],mode:=.pure,clArgs:=true,clRes:=true} Tryz.f162=some c162:=by kernel_rfl
def c163:AFunc:=⟨23,[.cell 5 4 true,.tmp 6],.seq (.region [oO 5 (.alloc [.int .i64 0,.int .i64 0,.str ⟨#[]⟩,.isl [] true]),oO 6 (.mv (.c (.bool false)))]) (.seq (.block 0 (.seq (.region [oM 8 0,oO 9 (.len false (.t 8)),oO 10 (.bin .eql (.t 9) (nI 0)),oM 7 10]) (.cond (.t 7) (.seq (.region [oO 11 (.build [.int .i64 0,.int .i64 0,.str ⟨#[]⟩,.isl [] true] []),oU (.store 4 (.t 5) (.t 11)),oO 6 (.mv (.c (.bool false)))]) (.ret)) (.seq (.region [oL 13 1 2,oM 12 13]) (.cond (.t 12) (.seq (.region [oM 14 0,oM 15 0,oO 16 (.len false (.t 15)),oO 17 (.bin .sub (.t 16) (nI 1)),oO 18 (.iaddrS 4 (.t 14) (.t 17)),oR 19 4 18,oU (.store 4 (.t 5) (.t 19)),oO 6 (.mv (.c (.bool true)))]) (.ret)) (.skip)))))) (.seq (.region [oM 20 0,oO 21 (.iaddrS 4 (.t 20) (nI 0)),oR 22 4 21,oU (.store 4 (.t 5) (.t 22)),oO 6 (.mv (.c (.bool true)))]) (.ret))),.pure,true,true⟩
theorem k163:compF Tryz.prog {mt:=false,mtAt:=[],mode:=.pure,clArgs:=true,clRes:=true} Tryz.f163=some c163:=by kernel_rfl
def c164:AFunc:=⟨28,[],.seq (.region [oM 4 0,oO 5 (.len false (.t 4)),oO 6 (.bin .sub (.t 5) (nI 1)),oO 2 (.mv (nI 0)),oM 3 6]) (.block 0 (.loop (.seq (.seq (.region [oM 7 2,oM 8 3,oO 9 (.bin .lss (.t 7) (.t 8))]) (.cond (.t 9) (.skip) (.exit 0))) (.seq (.block 1 (.region [oM 14 0,oM 15 2,oM 16 0,oM 17 3,oM 18 0,oM 19 3,oO 20 (.iaddrS 4 (.t 18) (.t 19)),oR 21 4 20,oM 22 0,oM 23 2,oO 24 (.iaddrS 4 (.t 22) (.t 23)),oR 25 4 24,oO 26 (.iaddrS 4 (.t 14) (.t 15)),oU (.store 4 (.t 26) (.t 21)),oO 27 (.iaddrS 4 (.t 16) (.t 17)),oU (.store 4 (.t 27) (.t 25))])) (.region [oM 10 2,oO 11 (.bin .add (.t 10) (nI 1)),oM 12 3,oO 13 (.bin .sub (.t 12) (nI 1)),oM 2 11,oM 3 13]))))),.raw,false,false⟩
theorem k164:compF Tryz.prog {mt:=false,mtAt:=[],mode:=.raw,clArgs:=false,clRes:=false} Tryz.f164=some c164:=by kernel_rfl
def c168:AFunc:=⟨19,[.tmp 4],.seq (.region [oO 4 (.mv (nI 0))]) (.seq (.seq (.region [oM 6 0,oO 7 (.len false (.t 6)),oO 8 (.mv (nI 0))]) (.block 0 (.loop (.seq (.region [oO 9 (.bin .lss (.t 8) (.t 7))]) (.seq (.cond (.t 9) (.skip) (.exit 0)) (.seq (.block 1 (.seq (.region [oM 10 8,oM 5 10]) (.seq (.region [oM 11 1,oM 12 0,oM 13 5,oO 14 (.iaddrS 4 (.t 12) (.t 13)),oR 15 4 14,oO 16 (.callv (.t 11) [.t 15])]) (.cond (.t 16) (.seq (.region [oM 17 5,oM 4 17]) (.ret)) (.skip))))) (.region [oO 18 (.bin .add (.t 8) (nI 1)),oM 8 18]))))))) (.seq (.region [oO 4 (.mv (nI (-1)))]) (.ret))),.pure,true,true⟩
theorem k168:compF Tryz.prog {mt:=false,mtAt:=[],mode:=.pure,clArgs:=true,clRes:=true} Tryz.f168=some c168:=by kernel_rfl
def c169:AFunc:=⟨20,[.tmp 4],.seq (.region [oO 4 (.mv (nI 0))]) (.seq (.region [oM 7 0,oO 8 (.call 173 [.t 7]),oM 5 8]) (.seq (.region [oM 9 1,oO 10 (.call 173 [.t 9]),oM 6 10]) (.seq (.seq (.region [oM 11 5]) (.cond (.t 11) (.seq (.seq (.region [oM 12 6]) (.cond (.t 12) (.seq (.region [oO 4 (.mv (nI 0))]) (.ret)) (.skip))) (.seq (.region [oO 4 (.mv (nI (-1)))]) (.ret))) (.skip))) (.seq (.seq (.region [oM 13 6]) (.cond (.t 13) (.seq (.region [oO 4 (.mv (nI 1))]) (.ret)) (.skip))) (.seq (.seq (.region [oM 14 0,oM 15 1,oO 16 (.bin .lss (.t 14) (.t 15))]) (.cond (.t 16) (.seq (.region [oO 4 (.mv (nI (-1)))]) (.ret)) (.skip))) (.seq (.seq (.region [oM 17 0,oM 18 1,oO 19 (.bin .gtr (.t 17) (.t 18))]) (.cond (.t 19) (.seq (.region [oO 4 (.mv (nI 1))]) (.ret)) (.skip))) (.seq (.region [oO 4 (.mv (nI 0))]) (.ret)))))))),.pure,true,true⟩
theorem k169:compF Tryz.prog {mt:=false,mtAt:=[],mode:=.pure,clArgs:=true,clRes:=true} Tryz.f169=some c169:=by kernel_rfl
def c170:AFunc:=⟨8,[.tmp 4],.seq (.region [oO 4 (.mv (nI 0))]) (.seq (.region [oM 5 0,oM 6 1,oO 7 (.call 174 [.t 5,.t 6]),oM 4 7]) (.ret)),.pure,true,true⟩
theorem k170:compF Tryz.prog {mt:=false,mtAt:=[],mode:=.pure,clArgs:=true,clRes:=true} Tryz.f170=some c170:=by kernel_rfl
def c171:AFunc:=⟨39,[.tmp 6],.seq (.region [oO 6 (.mv (nI 0))]) (.seq (.seq (.region [oM 11 0,oO 12 (.len false (.t 11)),oO 13 (.mv (nI 0))]) (.block 0 (.loop (.seq (.region [oO 14 (.bin .lss (.t 13) (.t 12))]) (.seq (.cond (.t 14) (.skip) (.exit 0)) (.seq (.block 1 (.seq (.region [oM 15 13,oO 16 (.iaddrS 4 (.t 11) (.t 13)),oR 17 4 16,oO 8 (.alloc [.int .i64 0,.int .i64 0,.str ⟨#[]⟩,.isl [] true]),oM 7 15,oU (.store 4 (.t 8) (.t 17))]) (.seq (.seq (.region [oM 18 7,oM 19 1,oO 20 (.len false (.t 19)),oO 21 (.bin .geq (.t 18) (.t 20))]) (.cond (.t 21) (.seq (.region [oO 6 (.mv (nI 1))]) (.ret)) (.skip))) (.seq (.region [oM 22 1,oM 23 7,oO 24 (.iaddrS 4 (.t 22) (.t 23)),oR 25 4 24,oO 9 (.alloc [.int .i64 0,.int .i64 0,.str ⟨#[]⟩,.isl [] true]),oU (.store 4 (.t 9) (.t 25))]) (.seq (.region [oM 26 2,oR 27 4 8,oR 28 4 9,oO 29 (.callv (.t 26) [.t 27,.t 28]),oM 10 29]) (.seq (.region [oM 30 10,oO 31 (.bin .neq (.t 30) (nI 0))]) (.cond (.t 31) (.seq (.region [oM 32 10,oM 6 32]) (.ret)) (.skip)))))))) (.region [oO 33 (.bin .add (.t 13) (nI 1)),oM 13 33]))))))) (.seq (.seq (.region [oM 34 0,oO 35 (.len false (.t 34)),oM 36 1,oO 37 (.len false (.t 36)),oO 38 (.bin .lss (.t 35) (.t 37))]) (.cond (.t 38) (.seq (.region [oO 6 (.mv (nI (-1)))]) (.ret)) (.skip))) (.seq (.region [oO 6 (.mv (nI 0))]) (.ret)))),.pure,true,true⟩
theorem k171:compF Tryz.prog {mt:=false,mtAt:=[],mode:=.pure,clArgs:=true,clRes:=true} Tryz.f171=some c171:=by kernel_rfl
def c173:AFunc:=⟨6,[.tmp 2],.seq (.region [oO 2 (.mv (.c (.bool false)))]) (.seq (.region [oM 3 0,oM 4 0,oO 5 (.bin .neq (.t 3) (.t 4)),oM 2 5]) (.ret)),.pure,true,true⟩
theorem k173:compF Tryz.prog {mt:=false,mtAt:=[],mode:=.pure,clArgs:=true,clRes:=true} Tryz.f173=some c173:=by kernel_rfl
def x166:AFunc:=⟨8,[.tmp 2],
 .seq (.region [
  ⟨(some 2),.mv (.c (.isl [] true)),none,[]⟩]) (
 .seq (.seq (.region [
  ⟨(some 3),.mv (.t 0),none,[]⟩,
  ⟨(some 4),.eqnil false (.t 3),none,[]⟩]) (
 .cond (.t 4) (
  .seq (.region [
   ⟨(some 2),.mv (.c (.isl [] true)),none,[]⟩]) (
  .ret)) (
  .skip))) (
 .seq (.region [
  ⟨(some 5),.buildSl 0 4 true [] [],none,[]⟩,
  ⟨(some 6),.mv (.t 0),none,[]⟩,
  ⟨(some 7),.append 4 true 56 true (.t 5) (.t 6),none,[]⟩,
  ⟨(some 2),.mv (.t 7),none,[]⟩]) (
 .ret))),
 .raw,false,false⟩
theorem kx166:compF Tryz.prog {mt:=true,mtAt:=[],mode:=.raw,clArgs:=false,clRes:=false} Tryz.f166=some x166:=by kernel_rfl
noncomputable def fns:List (Nat × AFunc):=[(3,c3),(4,c4),(5,c5),(6,c6),(7,c7),(8,c8),(9,c9),(10,c10),(11,c11),(12,c12),(13,c13),(14,c14),(15,c15),(16,c16),(17,c17),(18,c18),(19,c19),(20,c20),(21,c21),(22,c22),(23,c23),(24,c24),(25,c25),(26,c26),(27,c27),(28,c28),(29,c29),(30,c30),(31,c31),(32,c32),(33,c33),(34,c34),(35,c35),(36,c36),(37,c37),(38,c38),(39,c39),(40,c40),(41,c41),(42,c42),(43,c43),(44,c44),(45,c45),(46,c46),(47,c47),(48,c48),(49,c49),(50,c50),(51,c51),(52,c52),(53,c53),(54,c54),(55,c55),(56,c56),(57,c57),(58,c58),(59,c59),(60,c60),(61,c61),(62,c62),(63,c63),(64,c64),(65,c65),(66,c66),(67,c67),(68,c68),(69,c69),(70,c70),(71,c71),(72,c72),(73,c73),(74,c74),(76,c76),(77,c77),(78,c78),(80,c80),(81,c81),(82,c82),(83,c83),(85,c85),(86,c86),(87,c87),(88,c88),(89,c89),(90,c90),(91,c91),(92,c92),(93,c93),(94,c94),(95,c95),(96,c96),(97,c97),(98,c98),(99,c99),(100,c100),(101,c101),(102,c102),(103,c103),(104,c104),(105,c105),(106,c106),(107,c107),(108,c108),(109,c109),(110,c110),(111,c111),(113,c113),(114,c114),(115,c115),(116,c116),(117,c117),(118,c118),(119,c119),(120,c120),(121,c121),(122,c122),(123,c123),(124,c124),(125,c125),(126,c126),(127,c127),(128,c128),(129,c129),(130,c130),(131,c131),(132,c132),(133,c133),(135,c135),(136,c136),(137,c137),(138,c138),(139,c139),(140,c140),(141,c141),(142,c142),(143,c143),(144,c144),(145,c145),(146,c146),(147,c147),(148,c148),(149,c149),(150,c150),(151,c151),(152,c152),(153,c153),(154,c154),(155,c155),(156,c156),(157,c157),(158,c158),(159,c159),(160,c160),(161,c161),(162,c162),(163,c163),(164,c164),(168,c168),(169,c169),(170,c170),(171,c171),(173,c173)]
set_option maxRecDepth 100000 in
theorem fns_ok:∀ p∈fns,∃ fn pol,Tryz.prog.funcs[p.1]?=some fn∧compF Tryz.prog pol fn=some p.2:=by
 simp only [fns,List.forall_mem_cons]
 exact ⟨⟨_,_,Tryz.func3,k3⟩,⟨_,_,Tryz.func4,k4⟩,⟨_,_,Tryz.func5,k5⟩,⟨_,_,Tryz.func6,k6⟩,⟨_,_,Tryz.func7,k7⟩,⟨_,_,Tryz.func8,k8⟩,⟨_,_,Tryz.func9,k9⟩,⟨_,_,Tryz.func10,k10⟩,⟨_,_,Tryz.func11,k11⟩,⟨_,_,Tryz.func12,k12⟩,⟨_,_,Tryz.func13,k13⟩,⟨_,_,Tryz.func14,k14⟩,⟨_,_,Tryz.func15,k15⟩,⟨_,_,Tryz.func16,k16⟩,⟨_,_,Tryz.func17,k17⟩,⟨_,_,Tryz.func18,k18⟩,⟨_,_,Tryz.func19,k19⟩,⟨_,_,Tryz.func20,k20⟩,⟨_,_,Tryz.func21,k21⟩,⟨_,_,Tryz.func22,k22⟩,⟨_,_,Tryz.func23,k23⟩,⟨_,_,Tryz.func24,k24⟩,⟨_,_,Tryz.func25,k25⟩,⟨_,_,Tryz.func26,k26⟩,⟨_,_,Tryz.func27,k27⟩,⟨_,_,Tryz.func28,k28⟩,⟨_,_,Tryz.func29,k29⟩,⟨_,_,Tryz.func30,k30⟩,⟨_,_,Tryz.func31,k31⟩,⟨_,_,Tryz.func32,k32⟩,⟨_,_,Tryz.func33,k33⟩,⟨_,_,Tryz.func34,k34⟩,⟨_,_,Tryz.func35,k35⟩,⟨_,_,Tryz.func36,k36⟩,⟨_,_,Tryz.func37,k37⟩,⟨_,_,Tryz.func38,k38⟩,⟨_,_,Tryz.func39,k39⟩,⟨_,_,Tryz.func40,k40⟩,⟨_,_,Tryz.func41,k41⟩,⟨_,_,Tryz.func42,k42⟩,⟨_,_,Tryz.func43,k43⟩,⟨_,_,Tryz.func44,k44⟩,⟨_,_,Tryz.func45,k45⟩,⟨_,_,Tryz.func46,k46⟩,⟨_,_,Tryz.func47,k47⟩,⟨_,_,Tryz.func48,k48⟩,⟨_,_,Tryz.func49,k49⟩,⟨_,_,Tryz.func50,k50⟩,⟨_,_,Tryz.func51,k51⟩,⟨_,_,Tryz.func52,k52⟩,⟨_,_,Tryz.func53,k53⟩,⟨_,_,Tryz.func54,k54⟩,⟨_,_,Tryz.func55,k55⟩,⟨_,_,Tryz.func56,k56⟩,⟨_,_,Tryz.func57,k57⟩,⟨_,_,Tryz.func58,k58⟩,⟨_,_,Tryz.func59,k59⟩,⟨_,_,Tryz.func60,k60⟩,⟨_,_,Tryz.func61,k61⟩,⟨_,_,Tryz.func62,k62⟩,⟨_,_,Tryz.func63,k63⟩,⟨_,_,Tryz.func64,k64⟩,⟨_,_,Tryz.func65,k65⟩,⟨_,_,Tryz.func66,k66⟩,⟨_,_,Tryz.func67,k67⟩,⟨_,_,Tryz.func68,k68⟩,⟨_,_,Tryz.func69,k69⟩,⟨_,_,Tryz.func70,k70⟩,⟨_,_,Tryz.func71,k71⟩,⟨_,_,Tryz.func72,k72⟩,⟨_,_,Tryz.func73,k73⟩,⟨_,_,Tryz.func74,k74⟩,⟨_,_,Tryz.func76,k76⟩,⟨_,_,Tryz.func77,k77⟩,⟨_,_,Tryz.func78,k78⟩,⟨_,_,Tryz.func80,k80⟩,⟨_,_,Tryz.func81,k81⟩,⟨_,_,Tryz.func82,k82⟩,⟨_,_,Tryz.func83,k83⟩,⟨_,_,Tryz.func85,k85⟩,⟨_,_,Tryz.func86,k86⟩,⟨_,_,Tryz.func87,k87⟩,⟨_,_,Tryz.func88,k88⟩,⟨_,_,Tryz.func89,k89⟩,⟨_,_,Tryz.func90,k90⟩,⟨_,_,Tryz.func91,k91⟩,⟨_,_,Tryz.func92,k92⟩,⟨_,_,Tryz.func93,k93⟩,⟨_,_,Tryz.func94,k94⟩,⟨_,_,Tryz.func95,k95⟩,⟨_,_,Tryz.func96,k96⟩,⟨_,_,Tryz.func97,k97⟩,⟨_,_,Tryz.func98,k98⟩,⟨_,_,Tryz.func99,k99⟩,⟨_,_,Tryz.func100,k100⟩,⟨_,_,Tryz.func101,k101⟩,⟨_,_,Tryz.func102,k102⟩,⟨_,_,Tryz.func103,k103⟩,⟨_,_,Tryz.func104,k104⟩,⟨_,_,Tryz.func105,k105⟩,⟨_,_,Tryz.func106,k106⟩,⟨_,_,Tryz.func107,k107⟩,⟨_,_,Tryz.func108,k108⟩,⟨_,_,Tryz.func109,k109⟩,⟨_,_,Tryz.func110,k110⟩,⟨_,_,Tryz.func111,k111⟩,⟨_,_,Tryz.func113,k113⟩,⟨_,_,Tryz.func114,k114⟩,⟨_,_,Tryz.func115,k115⟩,⟨_,_,Tryz.func116,k116⟩,⟨_,_,Tryz.func117,k117⟩,⟨_,_,Tryz.func118,k118⟩,⟨_,_,Tryz.func119,k119⟩,⟨_,_,Tryz.func120,k120⟩,⟨_,_,Tryz.func121,k121⟩,⟨_,_,Tryz.func122,k122⟩,⟨_,_,Tryz.func123,k123⟩,⟨_,_,Tryz.func124,k124⟩,⟨_,_,Tryz.func125,k125⟩,⟨_,_,Tryz.func126,k126⟩,⟨_,_,Tryz.func127,k127⟩,⟨_,_,Tryz.func128,k128⟩,⟨_,_,Tryz.func129,k129⟩,⟨_,_,Tryz.func130,k130⟩,⟨_,_,Tryz.func131,k131⟩,⟨_,_,Tryz.func132,k132⟩,⟨_,_,Tryz.func133,k133⟩,⟨_,_,Tryz.func135,k135⟩,⟨_,_,Tryz.func136,k136⟩,⟨_,_,Tryz.func137,k137⟩,⟨_,_,Tryz.func138,k138⟩,⟨_,_,Tryz.func139,k139⟩,⟨_,_,Tryz.func140,k140⟩,⟨_,_,Tryz.func141,k141⟩,⟨_,_,Tryz.func142,k142⟩,⟨_,_,Tryz.func143,k143⟩,⟨_,_,Tryz.func144,k144⟩,⟨_,_,Tryz.func145,k145⟩,⟨_,_,Tryz.func146,k146⟩,⟨_,_,Tryz.func147,k147⟩,⟨_,_,Tryz.func148,k148⟩,⟨_,_,Tryz.func149,k149⟩,⟨_,_,Tryz.func150,k150⟩,⟨_,_,Tryz.func151,k151⟩,⟨_,_,Tryz.func152,k152⟩,⟨_,_,Tryz.func153,k153⟩,⟨_,_,Tryz.func154,k154⟩,⟨_,_,Tryz.func155,k155⟩,⟨_,_,Tryz.func156,k156⟩,⟨_,_,Tryz.func157,k157⟩,⟨_,_,Tryz.func158,k158⟩,⟨_,_,Tryz.func159,k159⟩,⟨_,_,Tryz.func160,k160⟩,⟨_,_,Tryz.func161,k161⟩,⟨_,_,Tryz.func162,k162⟩,⟨_,_,Tryz.func163,k163⟩,⟨_,_,Tryz.func164,k164⟩,⟨_,_,Tryz.func168,k168⟩,⟨_,_,Tryz.func169,k169⟩,⟨_,_,Tryz.func170,k170⟩,⟨_,_,Tryz.func171,k171⟩,⟨_,_,Tryz.func173,k173⟩,fun _ h=>by cases h⟩
def r74:Nat × ACode × ACode:=(13,.region [
  ⟨(some 5),.mv (.t 8),none,[]⟩],.block 1 (
  .seq (.region [
   ⟨(some 9),.load 1 false (.t 2),none,[]⟩,
   ⟨(some 10),.mv (.t 5),none,[]⟩,
   ⟨(some 11),.mlook false [2] (.bool false) false (.t 9) (.t 10),none,[]⟩,
   ⟨(some 12),.un .not (.t 11),none,[]⟩]) (
  .cond (.t 12) (
   .seq (.region [
    ⟨none,.store 1 (.t 4) (.c (.bool false)),none,[]⟩]) (
   .ret)) (
   .skip))))
theorem kr74:∃ mt,compC Tryz.prog mt r74.1 (rcOf Tryz.f74).assign=some r74.2.1∧compC Tryz.prog mt r74.1 (rcOf Tryz.f74).body=some r74.2.2∧noRf r74.2.1=true∧noRf r74.2.2=true:=⟨({mt:=false,mtAt:=[],mode:=.gc,clArgs:=true,clRes:=true}:Pol).mtOf,by kernel_rfl,by kernel_rfl,rfl,rfl⟩
open Classical in
noncomputable def rds (rc:RCode):Option (Nat × ACode × ACode):=if rc=rcOf Tryz.f74 then some r74 else none
theorem rds_ok:∀ rc nt a b,rds rc=some (nt,a,b)→∃ mt,compC Tryz.prog mt nt rc.assign=some a∧compC Tryz.prog mt nt rc.body=some b∧noRf a=true∧noRf b=true:=by
 intro rc nt a b h
 unfold rds at h
 split at h
 ·rename_i e; subst e; injection h with h; have k:=kr74; rw [h] at k; exact k
 cases h
end Go.Proofs.YtjfgjnlocadpbaaGreatDoor
end
section
namespace Go.Proofs.YtjfgjnlocadpbaaGreatDoor
open Go.RowKit Go.Mach
set_option maxHeartbeats 1000000 in
set_option maxRecDepth 100000 in
theorem cmp_calls (a b:ByteArray) (w:World) :
  Calls Tryz.prog 174 #[.string a,.string b] w fun e w'=>e=.returned (.int .i64 (Lib.compareBytes a.data.toList b.data.toList))∧w'=w:=by
 go_enter Tryz.func174,Tryz.ntmps174
 go_wp2
 rw [run_callFunc_extern Tryz.func176 (by kernel_rfl) (by kernel_rfl) (by kernel_rfl) (e:=Extern.BytealgCompare.compare) (by kernel_rfl),Lib.run_compareString]
 simp only [Result.andThen]
 rw [Oper.upon_value]
 go_wp2
 go_ret
 exact ⟨rfl,rfl⟩
def cmpP (args:List AV) (_:Nat) (σ:Heap):Option (AV × Heap):=match args with
 | [.str a,.str b]=>some (.int .i64 (Lib.compareBytes a.data.toList b.data.toList),σ)
 | _=>none
theorem args1 {g:Gh} {x:AV} {cargs:Array Value} (hA:Args g [x] cargs):∃ c,cargs=#[c]∧VR g x c:=by
 have h0:=hA.len
 match hcl:cargs.toList,(show cargs.toList.length=1 by simpa using h0.symm) with
 | [c],_=>exact ⟨c,by rw [←Array.toArray_toList (xs:=cargs),hcl],hA.val 0 _ c rfl (by rw [←Array.getElem?_toList,hcl]; rfl)⟩
theorem args2 {g:Gh} {x y:AV} {cargs:Array Value} (hA:Args g [x,y] cargs):∃ c d,cargs=#[c,d]∧VR g x c∧VR g y d:=by
 have h0:=hA.len
 match hcl:cargs.toList,(show cargs.toList.length=2 by simpa using h0.symm) with
 | [c,d],_=>
  exact ⟨c,d,by rw [←Array.toArray_toList (xs:=cargs),hcl],hA.val 0 _ c rfl (by rw [←Array.getElem?_toList,hcl]; rfl),hA.val 1 _ d rfl (by rw [←Array.getElem?_toList,hcl]; rfl)⟩
theorem cmp_ok:PrimOK Tryz.prog 174 cmpP:=by
 intro args bs σ v σ' h hbs
 unfold cmpP at h
 split at h
 ·rename_i a b
  injection h with h; injection h with e1 e2; subst e1 e2
  refine ⟨⟨_,Tryz.func174,by kernel_rfl,by kernel_rfl⟩,fun g ow w cargs hH hA=>?_⟩
  obtain ⟨c,d,rfl,hx,hy⟩:=args2 hA
  rw [hx.strv,hy.strv]
  refine (cmp_calls a b w).mono ?_
  rintro e w' ⟨rfl,rfl⟩
  exact ⟨_,g,ow,rfl,.int _ _,hH,.refl ..⟩
 ·cases h
set_option maxHeartbeats 1000000 in
set_option maxRecDepth 100000 in
theorem grow_calls (a:Option Addr) (n:Int) (h0:0<n) (hn:n≤1000000000) (w:World) :
  Calls Tryz.prog 167 #[.slice a 0 0,.int .i64 n] w fun e w'=>∃ c cv tag,e=.returned (.slice (some ⟨w.heap.size,0,none⟩) 0 c) ∧
   w'.heap=w.heap.push (.cells cv tag (0,0))∧Same w w'∧c * 4≤cv.size:=by
 have hb:Tryz.t43.bytes=56:=by rfl
 have hg:Builtin.nextslicecap n.toNat 0=n.toNat:=nextslicecap_zero (by omega)
 go_enter Tryz.func167,Tryz.ntmps167
 cases a
 all_goals (
  go_wp2
  all_goals first
   | (exfalso; simp only [hb,hg] at *; omega)
   | skip
  go_ret
  refine ⟨_,rfl,_,⟨_,rfl⟩,⟨rfl,rfl,rfl⟩,?_⟩
  simp [Builtin.zeroCells,Question.cut]
  omega)
set_option maxRecDepth 100000 in
theorem grow_none (a:Option Addr) (w:World) :
  Calls Tryz.prog 167 #[.slice a 0 0,.int .i64 0] w fun e w'=>e=.returned (.slice a 0 0)∧w'=w:=by
 go_enter Tryz.func167,Tryz.ntmps167
 go_wp2
 go_ret
 exact ⟨rfl,rfl⟩
def growP (args:List AV) (_:Nat) (σ:Heap):Option (AV × Heap):=match args with
 | [.isl [] true,.int .i64 n]=>if 0<n∧n≤1000000000 then some (.own σ.length [],σ++[.tok 0 4]) else if n=0 then some (.isl [] true,σ) else none
 | _=>none
theorem grow_ok:PrimOK Tryz.prog 167 growP:=by
 intro args bs σ v σ' h hbs
 unfold growP at h
 split at h
 ·rename_i n
  refine ⟨⟨_,Tryz.func167,by kernel_rfl,by kernel_rfl⟩,fun g ow w cargs hH hA=>?_⟩
  obtain ⟨c,d,rfl,hx,hy⟩:=args2 hA
  have hy:d=.int .i64 n:=by cases hy; rfl
  obtain ⟨ad,hc⟩:∃ ad,c=.slice ad 0 0:=by
   cases hx with
   | @isl _ _ ad c0 _ _ _ vs hc hs ha hcap hn hM hV=>have:=hcap rfl; simp at this; subst this; exact ⟨_,rfl⟩
  subst hc hy
  split at h
  ·rename_i hn
   injection h with h; injection h with e1 e2; subst e1 e2
   refine (grow_calls ad n hn.1 hn.2 w).mono ?_
   rintro e w' ⟨c,cv,tag,rfl,hw,hs,hc⟩
   obtain ⟨hle,hH',hS⟩:=hH.tokNew (bs:=bs) (n:=0) (s:=4) (c:=c) hw hs (.inl ⟨rfl,rfl⟩) hc (Nat.zero_le _)
   refine ⟨_,_,_,rfl,own_VR (es:=[]) (s:=4) (by simp) (by omega) ?_ (Nat.zero_le _) (by simp [flat]),hH',hS⟩
   simp [Gh.tk]
  ·split at h
   ·rename_i h0; subst h0
    injection h with h; injection h with e1 e2; subst e1 e2
    refine (grow_none ad w).mono ?_
    rintro e w' ⟨rfl,rfl⟩
    exact ⟨_,g,ow,rfl,hx,hH,.refl ..⟩
   ·cases h
 ·cases h
theorem eq_nil {P:Program} {t e:TypeId} (ht:P.underlying t=some (.slice e)) (a:Option Addr) (c:Nat) (w:World):Sem.run P (binOp .eql t (.slice a 0 c) (.slice none 0 0)) w=.ok (.bool a.isNone) w:=by
 have heq:(Op.equal t (.slice a 0 c) (.slice none 0 0)).run P w=.ok a.isNone w:=by
  have hd:∀ d,(Op.equalIn (d+1) t (.slice a 0 c) (.slice none 0 0)).run P w=.ok a.isNone w:=fun d=>by cases a <;> simp [Op.equalIn,run_und ht]
  exact hd 9999
 simp [binOp,heq]
set_option maxRecDepth 100000 in
set_option maxHeartbeats 1000000 in
theorem cloneV_nil (a:Option Addr) (c:Nat) (w:World) :
  Calls Tryz.prog 166 #[.slice a 0 c] w fun e w'=>∃ a',e=.returned (.slice a' 0 0)∧Same w w'∧w.heap.size≤w'.heap.size∧∀ b,b<w.heap.size→w'.heap[b]?=w.heap[b]?:=by
 go_enter Tryz.func166,Tryz.ntmps166
 have hu:Tryz.prog.underlying 41=some (.slice 43):=by kernel_rfl
 cases a with
 | none=>
  have hb:∀ w,Sem.run Tryz.prog (binOp .eql 41 (.slice none 0 c) (.slice none 0 0)) w=.ok (.bool true) w:=fun w=>eq_nil hu none c w
  go_wp2
  go_ret
  exact ⟨_,rfl,⟨rfl,rfl,rfl⟩,Nat.le_refl _,fun _ _=>rfl⟩
 | some a=>
  have hb:∀ w,Sem.run Tryz.prog (binOp .eql 41 (.slice (some a) 0 c) (.slice none 0 0)) w=.ok (.bool false) w:=fun w=>eq_nil hu (some a) c w
  go_wp2
  go_ret
  have hal:∀ o,(w.alloc o).heap=w.heap.push o:=fun _=>rfl
  exact ⟨_,rfl,⟨rfl,rfl,rfl⟩,by rw [hal,Array.size_push]; exact Nat.le_succ _,fun b hb=>by rw [hal,Array.getElem?_push,if_neg (Nat.ne_of_lt hb)]⟩
end Go.Proofs.YtjfgjnlocadpbaaGreatDoor
end
section
namespace Go.Proofs.YtjfgjnlocadpbaaGreatDoor
open Go.RowKit Go.Mach
def TV:Tab:=⟨fun f=>if f=166 then some x166 else none,fun _=>none,fun _=>none⟩
theorem TV_ok:TabOK Tryz.prog TV where
 mixed:=by kernel_rfl
 fn f af h:=by
  simp only [TV] at h
  split at h
  ·rename_i e; injection h with h; subst h e; exact ⟨_,_,Tryz.func166,kx166⟩
  ·cases h
 pr f p h:=by cases h
 yn:=⟨rfl,by decide⟩
theorem cloneV_run (es:List AV) (c:Bool) (bs:Nat) (σ:Heap) (hne:es≠[]) (hf:(flat es).length=es.length * 4) (hl:es.length≤10000000000) :
  evalFn TV 3 166 [.isl es c] bs σ=some (.sl (σ.length+1) 0 es.length 4 true,σ++[.cells [] 0 false,.cells (flat es) 0 true]):=by
 have hnn:notNil (.isl es c)=true:=by cases es with
  | nil=>exact absurd rfl hne
  | cons x l=>rfl
 have he0:elemsA (σ++[.cells [] 0 false]) 4 true (.sl σ.length 0 0 4 true)=some []:=by
  simp [elemsA,window,chunk]
 have he1:elemsN (σ++[.cells [] 0 false]) 4 true (.isl es c)=some es:=rfl
 have hap:appendA (σ++[.cells [] 0 false]) 4 true 56 true (.sl σ.length 0 0 4 true) (.isl es c)=some (.sl (σ.length+1) 0 es.length 4 true,σ++[.cells [] 0 false,.cells (flat es) 0 true]):=by
  have h1:¬ ((4:Nat)=0∨(0+es.length) * 56 > 70368744177664∨0+es.length > 70368744177664):=by omega
  simp only [appendA,he0,he1,Option.bind_some,isSl,if_neg hne,List.length_nil,if_neg h1]
  simp [hf]
  simp [flat]
 simp [evalFn,TV,x166,exec,runOps,startA,stepAll,stepOp,ev,hnn,onNormal,finA,resA,res1,closeRes,closeArgs,dropA,baseA,guardA,chkO,setDst,fillA,hap]
def cloneVP (args:List AV) (bs:Nat) (σ:Heap):Option (AV × Heap):=match args with
 | [.isl es c]=>if es=[] then some (.isl [] true,σ) else if (flat es).length=es.length * 4∧es.length≤10000000000 then some (.sl (σ.length+1) 0 es.length 4 true,σ++[.cells [] 0 false,.cells (flat es) 0 true]) else none
 | _=>none
theorem cloneV_ok:PrimOK Tryz.prog 166 cloneVP:=by
 intro args bs σ v σ' h hbs
 unfold cloneVP at h
 split at h
 ·rename_i es c
  split at h
  ·rename_i he; subst he
   injection h with h; injection h with e1 e2; subst e1 e2
   refine ⟨⟨_,Tryz.func166,by kernel_rfl,by kernel_rfl⟩,fun g ow w cargs hH hA=>?_⟩
   obtain ⟨cc,rfl,hx⟩:=args1 hA
   obtain ⟨ad,cap,rfl⟩:∃ ad cap,cc=.slice ad 0 cap:=by
    cases hx with
    | @isl _ _ ad c0 _ _ _ vs hc hs ha hcap hn hM hV=>exact ⟨_,_,rfl⟩
   refine (cloneV_nil ad cap w).mono ?_
   rintro e w' ⟨a',rfl,hs,hsz,hheap⟩
   obtain ⟨h1,h2⟩:=hH.more (bs:=bs) hsz hheap hs.os hs.tape hs.output
   exact ⟨_,g,ow,rfl,isl_VR (es:=[]) (b:=0) (p:=0) (s:=1) (a:=a') (c:=0) (by simp) (by omega) (.inl rfl) (fun _=>rfl) (Nat.zero_le _) (by simp [flat]),h1,h2⟩
  ·rename_i hne
   split at h
   ·rename_i hc
    injection h with h; injection h with e1 e2; subst e1 e2
    exact (eval_sound TV_ok 3).fn _ _ _ _ _ _ (by decide) (cloneV_run es c bs σ hne hc.1 hc.2) hbs
   ·cases h
 ·cases h
end Go.Proofs.YtjfgjnlocadpbaaGreatDoor
end
section
namespace Go.Proofs.YtjfgjnlocadpbaaGreatDoor
open Go.RowKit Go.Mach
structure Only (w w':World) (b:Nat):Prop where
 same:Same w w'
 size:w'.heap.size=w.heap.size
 block:∀ k,k≠b→w'.heap[k]?=w.heap[k]?
set_option maxHeartbeats 1000000 in
set_option maxRecDepth 100000 in
theorem copyCheck_used (b:Nat) (w:World) (h0:w.cell? ⟨b,0,none⟩=some (.pointer (some ⟨b,0,none⟩))) :
  Calls Tryz.prog 112 #[.pointer (some ⟨b,0,none⟩)] w fun e w'=>e=.returned (.tuple #[])∧w'=w:=by
 have hp:Tryz.prog.underlying 120=some (.pointer 122):=by kernel_rfl
 obtain ⟨j,hj,_⟩:=zqG.1 (show (Tryz.prog.info? 122).map (·.size)=some 2 by kernel_rfl)
 go_enter Tryz.func112,Tryz.ntmps112
 go_wp2
 rw [Lib.run_neq_ptr_same w _ hp hj]
 go_wp2
 go_end0
 exact ⟨rfl,rfl⟩
set_option maxHeartbeats 1000000 in
set_option maxRecDepth 100000 in
theorem copyCheck_fresh (b t:Nat) (w:World) (h0:w.cell? ⟨b,0,none⟩=some (.pointer none)) (hsh:w.shape? b=some (t,2)) (hfz:w.frozen? ⟨b,0,none⟩=false) (hl:liesAt Tryz.prog Tryz.prog.depth t (2 / Tryz.prog.cellsOf t) 0 122 1=true) :
  Calls Tryz.prog 112 #[.pointer (some ⟨b,0,none⟩)] w fun e w'=>e=.returned (.tuple #[])∧w'=w.setCell ⟨b,0,none⟩ (.pointer (some ⟨b,0,none⟩)):=by
 have hp:Tryz.prog.underlying 120=some (.pointer 122):=by kernel_rfl
 have hu:Tryz.prog.underlying 161=some .unsafePointer:=by kernel_rfl
 obtain ⟨j,hj,hjs⟩:=zqG.1 (show (Tryz.prog.info? 122).map (·.size)=some 2 by kernel_rfl)
 go_enter Tryz.func112,Tryz.ntmps112
 go_wp2
 rw [Lib.run_to_unsafe w ⟨b,0,none⟩ hp hu hj (by rw [hjs]; decide) hsh (Nat.zero_lt_succ 1)]
 simp only [Result.andThen]
 rw [Oper.upon_value]
 go_wp2
 rw [run_callFunc_extern Tryz.func134 (by kernel_rfl) (by kernel_rfl) (by kernel_rfl) (e:=Extern.AbiNoEscape.same) (by kernel_rfl)]
 rw [Lib.run_noEscape]
 simp only [Result.andThen]
 rw [Oper.upon_value]
 go_wp2
 rw [Lib.run_from_unsafe w ⟨b,0,none⟩ hu hp hj hsh hl]
 simp only [Result.andThen]
 rw [Oper.upon_value]
 go_wp2
 go_end0
 exact ⟨rfl,rfl⟩
def OwnR (w:World) (e:TypeId) (v:Value) (l:List UInt8):Prop:=
 (v=.slice none 0 0∧l=[])∨∃ gb cap cur,v=.slice (some ⟨gb,0,none⟩) l.length cap∧w.heap[gb]?=some (.cells cur e (0,0))∧l.length≤cap∧cur.size=cap∧cur.toList.take l.length=Lib.byteCells l
theorem OwnR.kept {w w':World} {e:TypeId} {v:Value} {l:List UInt8} (h:OwnR w e v l) (hk:∀ k,v.ownBlock=some k→k<w.heap.size→w'.heap[k]?=w.heap[k]?):OwnR w' e v l:=by
 rcases h with h | ⟨gb,cap,cur,rfl,h2,h3,h4,h5⟩
 ·exact .inl h
 ·exact .inr ⟨gb,cap,cur,rfl,(hk gb rfl (zqN.1 h2).1).trans h2,h3,h4,h5⟩
theorem OwnR.lt {w:World} {e:TypeId} {v:Value} {l:List UInt8} (h:OwnR w e v l) {k:Nat} (hk:v.ownBlock=some k):k<w.heap.size:=by
 rcases h with ⟨rfl,_⟩ | ⟨gb,cap,cur,rfl,h2,_⟩
 ·cases hk
 ·injection hk with hk; subst hk; exact (zqN.1 h2).1
theorem byteCells_one (l:List UInt8):∀ u∈Lib.byteCells l,u.oneCell'=true:=fun u hu=>by
 obtain ⟨b,_,rfl⟩:=List.mem_map.1 hu; rfl
theorem app_row {P:Program} {t u ty e:TypeId} {i:TypeInfo} (ht:P.underlying t=some (.slice e)) (hu:P.underlying u=some .string∨∃ e',P.underlying u=some (.slice e')) (hi:P.info? e=some i)
  (hz0:i.zero=some (.int .u8 0)) (hz1:i.size=1) (hz2:i.bytes=1) {w:World} {v cx:Value} {l k:List UInt8} (hv:OwnR w e v l) (hn:Src P w cx 1 k.length (Lib.byteCells k)) (hlen:l.length+k.length≤70368744177664) :
  ∃ v' w',(Builtin.append_ #[t,u] ty #[v,cx]).run P w=.ok v' w'∧OwnR w' e v' (l++k)∧Same w w'∧w.heap.size≤w'.heap.size∧(∀ q,q<w.heap.size→some q≠v.ownBlock→w'.heap[q]?=w.heap[q]?)∧(v'.ownBlock=v.ownBlock∨v'.ownBlock=some w.heap.size):=by
 have hzv:∀ w,(zeroValue e).run P w=.ok (.int .u8 0) w:=fun w=>by simp [zeroValue,typeInfo,hi,hz0]
 rw [←hz1] at hn
 have grow:∀ ad n c,v=.slice ad n c→n=l.length→Src P w (.slice ad n c) i.size n (Lib.byteCells l)→c<n+k.length →
   ∃ v' w',(Builtin.append_ #[t,u] ty #[v,cx]).run P w=.ok v' w'∧OwnR w' e v' (l++k)∧Same w w'∧w.heap.size≤w'.heap.size∧(∀ q,q<w.heap.size→some q≠v.ownBlock→w'.heap[q]?=w.heap[q]?)∧(v'.ownBlock=v.ownBlock∨v'.ownBlock=some w.heap.size):=by
  rintro ad n c rfl rfl ho hg
  obtain ⟨cap,w1,hcap,hr,hw,hs⟩:=run_app_grow (ty:=ty) ht hu hi hzv ho hn hg ⟨by rw [hz2]; omega,hlen⟩
  refine ⟨_,w1,hr,.inr ⟨w.heap.size,cap,(Lib.byteCells l).toArray++(Lib.byteCells k).toArray++Builtin.zeroCells (Value.int .u8 0).cells (cap - (l.length+k.length)),by simp,by rw [hw,Array.getElem?_push,if_pos rfl],by simpa using hcap,?_,?_⟩,hs,by rw [hw]; simp,fun q hq _=>by rw [hw,Array.getElem?_push]; simp [Nat.ne_of_lt hq],.inr rfl⟩
  ·have e1:(Value.int .u8 0).cells.size=1:=rfl
   simp [Builtin.zeroCells,Lib.byteCells,e1]; omega
  ·rw [Array.toList_append,Array.toList_append,List.toList_toArray,List.toList_toArray,List.take_append_of_le_length (by simp [Lib.byteCells]),List.take_of_length_le (by simp [Lib.byteCells]),Lib.byteCells_append]
 rcases hv with ⟨rfl,rfl⟩ | ⟨gb,cap,cur,rfl,h2,h3,h4,h5⟩
 ·by_cases hk:k.length=0
  ·have hk0:k=[]:=List.eq_nil_of_length_eq_zero hk
   subst hk0
   have hrun:=run_app_fits (P:=P) (ty:=ty) ht hu hi (ad:=none) (n:=0) (c:=0) hn (by simp)
   exact ⟨_,w,hrun,.inl ⟨rfl,rfl⟩,.refl w,Nat.le_refl _,fun _ _ _=>rfl,.inl rfl⟩
  ·exact grow none 0 0 rfl rfl ⟨fun w'=>by simp [Builtin.lenOf],fun w' _=>by simp [Builtin.firstCells,Lib.byteCells],by simp [Lib.byteCells]⟩ (by omega)
 ·have hcell:∀ j u,(Lib.byteCells l)[j]?=some u→cur[j]?=some u:=fun j u hu=>by
   rw [←h5,List.getElem?_take] at hu
   split at hu
   ·simpa using hu
   ·cases hu
  have ho:Src P w (.slice (some ⟨gb,0,none⟩) l.length cap) i.size l.length (Lib.byteCells l):=by
   refine ⟨fun w'=>by simp [Builtin.lenOf],fun w' hw=>run_firstCells_some w' i.size l.length ⟨gb,0,none⟩ l.length cap _ (by rw [hz1]; simp [Lib.byteCells]) fun j u hu=>?_,by rw [hz1]; simp [Lib.byteCells]⟩
   rw [addr_add,Nat.zero_add,cell_heap (by rw [hw]; exact h2)]
   exact hcell j u hu
  rcases Nat.lt_or_ge cap (l.length+k.length) with hg | hg
  ·exact grow _ _ _ rfl rfl ho hg
  ·have hrun:=run_app_fits (P:=P) (ty:=ty) ht hu hi (ad:=some ⟨gb,0,none⟩) (n:=l.length) (c:=cap) hn hg
   obtain ⟨w',hsr,hh,hsm⟩:=run_storeCells (P:=P) gb (0+l.length * i.size) e (0,0) (Lib.byteCells k) 0 cur w h2 (byteCells_one k) (by rw [hz1]; simp [Lib.byteCells]; omega) (fun j hj1 hj2=>by omega)
   rw [Nat.add_zero] at hh
   simp only [addr_add,hsr,Result.andThen_ok] at hrun
   have hgl:gb<w.heap.size:=(zqN.1 h2).1
   refine ⟨_,w',hrun,.inr ⟨gb,cap,setRunA cur (0+l.length * i.size) (Lib.byteCells k),by simp,heap_set_at hh hgl,by simpa using hg,by rw [setRunA_size]; exact h4,?_⟩,hsm,by rw [hh]; simp,fun q _ hq=>heap_set hh q (fun e=>hq (by rw [e]; rfl)),.inl rfl⟩
   have hget:∀ j,(setRunA cur (0+l.length * i.size) (Lib.byteCells k))[j]?=if 0+l.length * i.size≤j∧j<0+l.length * i.size+(Lib.byteCells k).length then (Lib.byteCells k)[j - (0+l.length * i.size)]? else cur[j]?:=fun j=>setRunA_get _ _ _ _ (by rw [hz1]; simp [Lib.byteCells]; omega)
   apply List.ext_getElem?
   intro j
   rw [List.getElem?_take,Lib.byteCells_append]
   have hbl:(Lib.byteCells l).length=l.length:=by simp [Lib.byteCells]
   have hbk:(Lib.byteCells k).length=k.length:=by simp [Lib.byteCells]
   rw [hz1] at hget
   simp only [hz1]
   split
   ·rename_i hj
    rw [zqJ] at hj
    rw [Array.getElem?_toList,hget]
    rcases Nat.lt_or_ge j l.length with hjl | hjl
    ·rw [if_neg (by omega),zqA (by omega)]
     have:=zqF (l:=Lib.byteCells l) (i:=j) (by omega)
     rw [this]; exact hcell _ _ this
    ·rw [if_pos (by omega),zqB (by omega)]
     congr 1; omega
   ·rename_i hj
    rw [zqJ] at hj
    rw [List.getElem?_eq_none (by simp [Lib.byteCells]; omega)]
theorem wpList_app_row {P:Program} {ops:Array Oper} {rest:List Oper} {o:Oper} {a:Act} {Q:Exit→Act→World→Prop} (hgd:o.guard=none) (s x:Operand) (t u:TypeId)
  (ho:o.op=.call {callee:=.builtin .append,args:=#[s,x],argTypes:=#[t,u]}) {e:TypeId} {i:TypeInfo} (ht:P.underlying t=some (.slice e)) (hu:P.underlying u=some .string∨∃ e',P.underlying u=some (.slice e')) (hi:P.info? e=some i)
  (hz0:i.zero=some (.int .u8 0)) (hz1:i.size=1) (hz2:i.bytes=1) {w:World} {v cx:Value} {l k:List UInt8} (hs:a.eval s=v) (hx:a.eval x=cx) (hv:OwnR w e v l) (hn:Src P w cx 1 k.length (Lib.byteCells k)) (hlen:l.length+k.length≤70368744177664)
  (h:∀ v' w',OwnR w' e v' (l++k)→Same w w'→w.heap.size≤w'.heap.size→(∀ q,q<w.heap.size→some q≠v.ownBlock→w'.heap[q]?=w.heap[q]?)→(v'.ownBlock=v.ownBlock∨v'.ownBlock=some w.heap.size)→wpList P ops Q rest (a.put o.dst v') w'):wpList P ops Q (o :: rest) a w:=by
 refine wpList_plain hgd fun K hK=>?_
 obtain ⟨v',w',hr,h1,h2,h3,h4,h5⟩:=app_row (P:=P) (ty:=o.type) ht hu hi hz0 hz1 hz2 hv hn hlen
 unfold Oper.wp execOp
 simp only [ho,resolve,invoke,builtin,Sem.run_bind,Sem.run_pure,Result.andThen_ok,List.map_toArray,List.map_cons,List.map_nil,hs,hx,hr]
 exact hK _ _ (h v' w' h1 h2 h3 h4 h5)
def RowAt (w:World) (b t e:Nat) (l:List UInt8) (p v:Value):Prop:=
 w.heap[b]?=some (.cells #[p,v] t (0,0))∧OwnR w e v l∧v.ownBlock≠some b
theorem RowAt.cell0 {w:World} {b t e:Nat} {l:List UInt8} {p v:Value} (h:RowAt w b t e l p v):w.cell? ⟨b,0,none⟩=some p:=by simp [World.cell?,h.1]
theorem RowAt.cell1 {w:World} {b t e:Nat} {l:List UInt8} {p v:Value} (h:RowAt w b t e l p v):w.cell? ⟨b,1,none⟩=some v:=by simp [World.cell?,h.1]
theorem RowAt.lt {w:World} {b t e:Nat} {l:List UInt8} {p v:Value} (h:RowAt w b t e l p v):b<w.heap.size:=(zqN.1 h.1).1
theorem Only.refl (w:World) (b:Nat):Only w w b:=⟨⟨rfl,rfl,rfl⟩,rfl,fun _ _=>rfl⟩
theorem copyCheck_calls (b t e:Nat) (l:List UInt8) (p v:Value) (w:World) (h:RowAt w b t e l p v) (hp:p=.pointer none∨p=.pointer (some ⟨b,0,none⟩)) (hl:liesAt Tryz.prog Tryz.prog.depth t (2 / Tryz.prog.cellsOf t) 0 122 1=true) :
  Calls Tryz.prog 112 #[.pointer (some ⟨b,0,none⟩)] w fun ex w'=>ex=.returned (.tuple #[])∧RowAt w' b t e l (.pointer (some ⟨b,0,none⟩)) v∧Only w w' b:=by
 rcases hp with rfl | rfl
 ·refine (copyCheck_fresh b t w h.cell0 (by simp [World.shape?,h.1]) (by simp [World.frozen?,h.1]) hl).mono ?_
  rintro ex w' ⟨rfl,rfl⟩
  have hb:∀ k,k≠b→(w.setCell ⟨b,0,none⟩ (.pointer (some ⟨b,0,none⟩))).heap[k]?=w.heap[k]?:=fun k hk=>Below.heap_setCell _ _ _ _ hk
  refine ⟨rfl,⟨?_,h.2.1.kept fun k hk _=>hb k (fun e=>h.2.2 (by rw [hk,e])),h.2.2⟩,⟨rfl,rfl,rfl⟩,by simp [World.setCell],hb⟩
  simp [World.setCell,Array.getElem?_modify,h.1]
 ·refine (copyCheck_used b w h.cell0).mono ?_
  rintro ex w' ⟨rfl,rfl⟩
  exact ⟨rfl,h,.refl _ _⟩
structure OnlyB (w w':World) (b:Nat) (v v':Value):Prop where
 same:Same w w'
 size:w.heap.size≤w'.heap.size
 block:∀ k,k<w.heap.size→k≠b→some k≠v.ownBlock→w'.heap[k]?=w.heap[k]?
 own:v'.ownBlock=v.ownBlock∨∀ k,v'.ownBlock=some k→w.heap.size≤k
set_option maxHeartbeats 2000000 in
set_option maxRecDepth 100000 in
theorem ws_calls (b t:Nat) (l:List UInt8) (p v:Value) (s:ByteArray) (w:World) (h:RowAt w b t 5 l p v) (hp:p=.pointer none∨p=.pointer (some ⟨b,0,none⟩)) (hl:liesAt Tryz.prog Tryz.prog.depth t (2 / Tryz.prog.cellsOf t) 0 122 1=true)
  (hlen:l.length+s.size≤70368744177664) :
  Calls Tryz.prog 79 #[.pointer (some ⟨b,0,none⟩),.string s] w fun ex w'=>∃ cv v',ex=.returned cv∧RowAt w' b t 5 (l++s.data.toList) (.pointer (some ⟨b,0,none⟩)) v'∧OnlyB w w' b v v':=by
 have hs41:Tryz.prog.underlying 76=some (.slice 5):=by kernel_rfl
 have hs9:Tryz.prog.underlying 9=some .string:=by kernel_rfl
 obtain ⟨i0,hi,hz⟩:=zqG.1 (show (Tryz.prog.info? 5).map (fun i=>(i.zero,i.size,i.bytes))=some (some (.int .u8 0),1,1) by kernel_rfl)
 injection hz with hz0 hz; injection hz with hz1 hz2
 have hsl:s.data.toList.length=s.size:=by simp
 have hlen2:l.length+s.data.toList.length≤70368744177664:=by omega
 have hsrc:∀ w,Src Tryz.prog w (.string s) 1 s.data.toList.length (Lib.byteCells s.data.toList):=fun w=>by rw [hsl]; exact str_src rfl
 go_enter Tryz.func79,Tryz.ntmps79
 go_wp2_with (go_at_call 112; refine (copyCheck_calls b t 5 l p v _ h hp hl).mono ?_)
 rintro ex w1 ⟨rfl,h1,hb1⟩
 have c0:=h1.cell0
 have c1:=h1.cell1
 have hne:=h1.2.2
 go_wp2_with (at_builtin; refine wpList_app_row (v:=v) (cx:=.string s) (l:=l) (k:=s.data.toList) rfl _ _ 76 9 rfl hs41 (.inl hs9) hi hz0 hz1 hz2 rfl rfl h1.2.1 (hsrc _) hlen2 ?_)
 intro v' w2 hown' hsm hsz hfr hblk
 have hb2:w2.heap[b]?=some (.cells #[.pointer (some ⟨b,0,none⟩),v] t (0,0)):=by
  rw [hfr b h1.lt (fun e=>hne e.symm)]
  exact h1.1
 have hvb:v'.ownBlock≠some b:=by
  rcases hblk with e | e
  ·rw [e]; exact hne
  ·rw [e]; intro e2; injection e2 with e2; have:=h1.lt; omega
 have d0:w2.cell? ⟨b,0,none⟩=some (.pointer (some ⟨b,0,none⟩)):=by rw [Lib.cell_of_heap hb2]; rfl
 have d1:w2.cell? ⟨b,1,none⟩=some v:=by rw [Lib.cell_of_heap hb2]; rfl
 have f1:w2.frozen? ⟨b,1,none⟩=false:=Lib.frozen_of_heap hb2 1
 obtain ⟨ao,n',cap,rfl⟩:∃ ao n' cap,v'=.slice ao n' cap:=by
  rcases hown' with ⟨hv,_⟩ | ⟨g,cap,cur,hv,_⟩
  ·exact ⟨_,_,_,hv⟩
  ·exact ⟨_,_,_,hv⟩
 go_wp2
 go_ret2
 have hset:∀ k,k≠b→(w2.setCell ⟨b,1,none⟩ (.slice ao n' cap)).heap[k]?=w2.heap[k]?:=fun k hk=>Below.heap_setCell _ _ _ _ hk
 refine ⟨_,.slice ao n' cap,rfl,⟨?_,hown'.kept fun k hk _=>hset k (fun e=>hvb (by rw [hk,e])),hvb⟩,⟨hsm.os.trans hb1.same.os,hsm.tape.trans hb1.same.tape,hsm.output.trans hb1.same.output⟩,?_,fun k hk hkb hkv=>?_,?_⟩
 ·simp [World.setCell,Array.getElem?_modify,hb2]
 ·have:=hb1.size; simp [World.setCell]; omega
 ·rw [hset k hkb,hfr k (by rw [hb1.size]; exact hk) hkv,hb1.block k hkb]
 ·rcases hblk with e | e
  ·exact .inl e
  ·refine .inr fun k hk=>?_
   rw [e] at hk; injection hk with hk; rw [←hk,hb1.size]; exact Nat.le_refl _
set_option maxHeartbeats 2000000 in
set_option maxRecDepth 100000 in
theorem wb_calls (b t:Nat) (l:List UInt8) (p v:Value) (c:UInt8) (w:World) (h:RowAt w b t 5 l p v) (hp:p=.pointer none∨p=.pointer (some ⟨b,0,none⟩)) (hl:liesAt Tryz.prog Tryz.prog.depth t (2 / Tryz.prog.cellsOf t) 0 122 1=true)
  (hlen:l.length+1≤70368744177664) :
  Calls Tryz.prog 84 #[.pointer (some ⟨b,0,none⟩),.int .u8 (c.toNat:Int)] w fun ex w'=>∃ cv v',ex=.returned cv∧RowAt w' b t 5 (l++[c]) (.pointer (some ⟨b,0,none⟩)) v'∧OnlyB w w' b v v':=by
 have hs41:Tryz.prog.underlying 76=some (.slice 5):=by kernel_rfl
 obtain ⟨i0,hi,hz⟩:=zqG.1 (show (Tryz.prog.info? 5).map (fun i=>(i.zero,i.size,i.bytes))=some (some (.int .u8 0),1,1) by kernel_rfl)
 injection hz with hz0 hz; injection hz with hz1 hz2
 go_enter Tryz.func84,Tryz.ntmps84
 go_wp2_with (go_at_call 112; refine (copyCheck_calls b t 5 l p v _ h hp hl).mono ?_)
 rintro ex w1 ⟨rfl,h1,hb1⟩
 have c0:=h1.cell0
 have c1:=h1.cell1
 have hne:=h1.2.2
 have h1a:RowAt (w1.alloc (.cells #[.int .u8 (c.toNat:Int)] 5)) b t 5 l (.pointer (some ⟨b,0,none⟩)) v:=
  ⟨by rw [show (w1.alloc (.cells #[.int .u8 (c.toNat:Int)] 5)).heap=w1.heap.push _ from rfl,Array.getElem?_push,if_neg (Nat.ne_of_lt h1.lt)]; exact h1.1,h1.2.1.kept fun k _ hk=>by rw [show (w1.alloc (.cells #[.int .u8 (c.toNat:Int)] 5)).heap=w1.heap.push _ from rfl,Array.getElem?_push,if_neg (Nat.ne_of_lt hk)],h1.2.2⟩
 have hsrc:Src Tryz.prog (w1.alloc (.cells #[.int .u8 (c.toNat:Int)] 5)) (.slice (some ⟨w1.heap.size,0,none⟩) 1 1) 1 [c].length (Lib.byteCells [c]):=by
  refine ⟨fun w'=>by simp [Builtin.lenOf],fun w' hw=>run_firstCells_some w' 1 1 ⟨w1.heap.size,0,none⟩ 1 1 _ (by simp [Lib.byteCells]) fun j u hu=>?_,by simp [Lib.byteCells]⟩
  rw [addr_add,Nat.zero_add,cell_heap (cv:=#[.int .u8 (c.toNat:Int)]) (tag:=5) (fr:=(0,0)) (by rw [hw,show (w1.alloc (.cells #[.int .u8 (c.toNat:Int)] 5)).heap=w1.heap.push _ from rfl,Array.getElem?_push,if_pos rfl])]
  match j,hu with
  | 0,hu=>simpa [Lib.byteCells] using hu
  | j+1,hu=>simp [Lib.byteCells] at hu
 go_wp2_with (at_builtin; refine wpList_app_row (v:=v) (cx:=.slice (some ⟨w1.heap.size,0,none⟩) 1 1) (l:=l) (k:=[c]) rfl _ _ 76 76 rfl hs41 (.inr ⟨_,hs41⟩) hi hz0 hz1 hz2 rfl rfl h1a.2.1 hsrc hlen ?_)
 intro v' w2 hown' hsm hsz hfr hblk
 have hal:(w1.alloc (.cells #[.int .u8 (c.toNat:Int)] 5)).heap.size=w1.heap.size+1:=by simp
 have hao:∀ k,k<w1.heap.size→(w1.alloc (.cells #[.int .u8 (c.toNat:Int)] 5)).heap[k]?=w1.heap[k]?:=fun k hk=>by rw [show (w1.alloc (.cells #[.int .u8 (c.toNat:Int)] 5)).heap=w1.heap.push _ from rfl,Array.getElem?_push,if_neg (Nat.ne_of_lt hk)]
 have hb2:w2.heap[b]?=some (.cells #[.pointer (some ⟨b,0,none⟩),v] t (0,0)):=by
  rw [hfr b (by have:=h1.lt; omega) (fun e=>hne e.symm)]
  exact h1a.1
 have hvb:v'.ownBlock≠some b:=by
  rcases hblk with e | e
  ·rw [e]; exact hne
  ·rw [e]; intro e2; injection e2 with e2; have:=h1.lt; omega
 have d0:w2.cell? ⟨b,0,none⟩=some (.pointer (some ⟨b,0,none⟩)):=by rw [Lib.cell_of_heap hb2]; rfl
 have d1:w2.cell? ⟨b,1,none⟩=some v:=by rw [Lib.cell_of_heap hb2]; rfl
 have f1:w2.frozen? ⟨b,1,none⟩=false:=Lib.frozen_of_heap hb2 1
 obtain ⟨ao,n',cap,rfl⟩:∃ ao n' cap,v'=.slice ao n' cap:=by
  rcases hown' with ⟨hv,_⟩ | ⟨g,cap,cur,hv,_⟩
  ·exact ⟨_,_,_,hv⟩
  ·exact ⟨_,_,_,hv⟩
 go_wp2
 go_ret
 have hset:∀ k,k≠b→(w2.setCell ⟨b,1,none⟩ (.slice ao n' cap)).heap[k]?=w2.heap[k]?:=fun k hk=>Below.heap_setCell _ _ _ _ hk
 refine ⟨_,.slice ao n' cap,rfl,⟨?_,hown'.kept fun k hk _=>hset k (fun e=>hvb (by rw [hk,e])),hvb⟩,⟨hsm.os.trans hb1.same.os,hsm.tape.trans hb1.same.tape,hsm.output.trans hb1.same.output⟩,?_,fun k hk hkb hkv=>?_,?_⟩
 ·simp [World.setCell,Array.getElem?_modify,hb2]
 ·have:=hb1.size; simp [World.setCell]; omega
 ·rw [hset k hkb,hfr k (by rw [hb1.size]; omega) hkv,hao k (by rw [hb1.size]; exact hk),hb1.block k hkb]
 ·rcases hblk with e | e
  ·exact .inl e
  ·refine .inr fun k hk=>?_
   rw [e] at hk; injection hk with hk; rw [←hk,hb1.size]; omega
structure OnlyG (w w':World) (v:Value):Prop where
 same:Same w w'
 size:w.heap.size≤w'.heap.size
 block:∀ k,k<w.heap.size→some k≠v.ownBlock→w'.heap[k]?=w.heap[k]?
theorem OnlyG.drew (w:World) (v:Value):OnlyG w w.drew v:=⟨⟨rfl,rfl,rfl⟩,Nat.le_refl _,fun _ _ _=>rfl⟩
theorem OnlyG.freeze (w:World) (v:Value) (g n:Nat) (h:v.ownBlock=some g):OnlyG w (w.drew.freeze ⟨g,0,none⟩ n) v:=by
 unfold World.freeze
 split
 ·exact .drew w v
 ·refine ⟨⟨rfl,rfl,rfl⟩,by simp,fun k hk hv=>?_⟩
  simp only [Array.getElem?_modify]
  rw [if_neg (fun e=>hv (by rw [h]; exact congrArg some e.symm))]; rfl
theorem OnlyG.alloc (w:World) (v:Value) (o:Obj):OnlyG w (w.drew.alloc o) v:=by
 refine ⟨⟨rfl,rfl,rfl⟩,?_,fun k hk _=>?_⟩
 ·rw [show (w.drew.alloc o).heap=w.heap.push o from rfl,Array.size_push]; exact Nat.le_succ _
 ·rw [show (w.drew.alloc o).heap=w.heap.push o from rfl,Array.getElem?_push,if_neg (Nat.ne_of_lt hk)]
set_option maxHeartbeats 2000000 in
set_option maxRecDepth 100000 in
theorem str_calls (b t:Nat) (l:List UInt8) (p v:Value) (w:World) (h:RowAt w b t 5 l p v) (hlen:l.length≤70368744177664) :
  Calls Tryz.prog 75 #[.pointer (some ⟨b,0,none⟩)] w fun ex w'=>ex=.returned (.string ⟨l.toArray⟩)∧OnlyG w w' v:=by
 have hp:Tryz.prog.underlying 145=some (.pointer 5):=by kernel_rfl
 have hc:Tryz.prog.cellsOf 5=1:=by kernel_rfl
 have hlt:=h.lt
 have hbk:=h.1
 rcases h.2.1 with ⟨rfl,rfl⟩ | ⟨g,cap,cur,rfl,hg,hnc,hcs,htake⟩
 ·have hUS:∀ W:World,∀ q,(Builtin.unsafeString_ #[145,3] 9 #[.pointer q,.int .i64 0]).run Tryz.prog W=.ok (.string .empty) W:=fun W q=>Lib.run_unsafeString_none W _ _ _ q
  have c1:w.drew.cell? ⟨b,1,none⟩=some (.slice none 0 0):=by
   have:w.drew.heap[b]?=_:=hbk
   rw [Lib.cell_of_heap this]; rfl
  have hSD:(Builtin.unsafeSliceData_ #[76] 145 #[.slice none 0 0]).run Tryz.prog w.drew=.ok (.pointer none) w.drew:=rfl
  go_enter Tryz.func75,Tryz.ntmps75
  go_wp2
  go_region
  all_goals (go_wp2; go_ret; exact ⟨rfl,.drew w _⟩)
 ·cases l with
  | nil=>
   have hUS:∀ W:World,∀ q,(Builtin.unsafeString_ #[145,3] 9 #[.pointer q,.int .i64 0]).run Tryz.prog W=.ok (.string .empty) W:=fun W q=>Lib.run_unsafeString_none W _ _ _ q
   by_cases hc0:cap=0
   ·subst hc0
    have c1:w.drew.cell? ⟨b,1,none⟩=some (.slice (some ⟨g,0,none⟩) 0 0):=by
     have:w.drew.heap[b]?=_:=hbk
     rw [Lib.cell_of_heap this]; rfl
    have hSD:(Builtin.unsafeSliceData_ #[76] 145 #[.slice (some ⟨g,0,none⟩) 0 0]).run Tryz.prog w.drew=.ok (.pointer (some ⟨w.drew.heap.size,0,none⟩)) (w.drew.alloc (.view ⟨g,0,none⟩ 5)):=
     Lib.run_unsafeSliceData_zero w.drew _ _ 5 hp ⟨g,0,none⟩ 0 (5,cur.size) (by have hg':w.drew.heap[g]?=_:=hg; simp [World.shape?,hg'])
    have c2:(w.drew.alloc (.view ⟨g,0,none⟩ 5)).cell? ⟨b,1,none⟩=some (.slice (some ⟨g,0,none⟩) 0 0):=by
     have:(w.drew.alloc (.view ⟨g,0,none⟩ 5)).heap[b]?=_:=(Lib.alloc_old w.drew _ b hlt).trans hbk
     rw [Lib.cell_of_heap this]; rfl
    have c3:(w.alloc (.view ⟨g,0,none⟩ 5)).drew.cell? ⟨b,1,none⟩=some (.slice (some ⟨g,0,none⟩) 0 0):=c2
    have c0:w.cell? ⟨b,1,none⟩=some (.slice (some ⟨g,0,none⟩) 0 0):=c1
    go_enter Tryz.func75,Tryz.ntmps75
    go_wp2
    go_region
    all_goals (go_wp2; go_ret; exact ⟨rfl,.alloc w _ _⟩)
   ·have c1:w.drew.cell? ⟨b,1,none⟩=some (.slice (some ⟨g,0,none⟩) 0 cap):=by
     have:w.drew.heap[b]?=_:=hbk
     rw [Lib.cell_of_heap this]; rfl
    have hSD:(Builtin.unsafeSliceData_ #[76] 145 #[.slice (some ⟨g,0,none⟩) 0 cap]).run Tryz.prog w.drew=.ok (.pointer (some ⟨g,0,none⟩)) w.drew:=
     Lib.run_unsafeSliceData_row _ _ _ _ _ _ hc0
    clear hc0
    go_enter Tryz.func75,Tryz.ntmps75
    go_wp2
    go_region
    all_goals (go_wp2; go_ret; exact ⟨rfl,.drew w _⟩)
  | cons x r=>
   have h0:(x :: r)≠[]:=by simp
   generalize hlr:x :: r=l at *
   have hl0:l.length≠0:=by simpa using h0
   have c1:w.drew.cell? ⟨b,1,none⟩=some (.slice (some ⟨g,0,none⟩) l.length cap):=by
    have:w.drew.heap[b]?=_:=hbk
    rw [Lib.cell_of_heap this]; rfl
   have hSD:(Builtin.unsafeSliceData_ #[76] 145 #[.slice (some ⟨g,0,none⟩) l.length cap]).run Tryz.prog w.drew=.ok (.pointer (some ⟨g,0,none⟩)) w.drew:=
    Lib.run_unsafeSliceData_row _ _ _ _ _ _ (by omega)
   have hUS:(Builtin.unsafeString_ #[145,3] 9 #[.pointer (some ⟨g,0,none⟩),.int .i64 l.length]).run Tryz.prog w.drew=.ok (.string ⟨l.toArray⟩) (w.drew.freeze ⟨g,0,none⟩ l.length):=by
    refine Lib.run_unsafeString_row w.drew 145 3 9 5 hp hc g cur.size (by have hg':w.drew.heap[g]?=_:=hg; simp [World.shape?,hg']) l h0 (by omega) (by omega) ?_
    intro j x hx
    have hg':w.drew.heap[g]?=_:=hg
    rw [addr_add,Nat.zero_add,cell_heap hg']
    have:=congrArg (fun l=>l[j]?) htake
    simp only [List.getElem?_take,Lib.byteCells,List.getElem?_map,hx,Option.map_some] at this
    rw [if_pos (zqI.1 hx).1] at this
    simpa using this
   go_enter Tryz.func75,Tryz.ntmps75
   go_wp2
   go_region
   all_goals (go_wp2; go_ret; exact ⟨rfl,.freeze w _ g _ rfl⟩)
def bldTs:List Nat:=[122,124]
theorem bldTs_ok:∀ t∈bldTs,liesAt Tryz.prog Tryz.prog.depth t (2 / Tryz.prog.cellsOf t) 0 122 1=true:=by
 simp only [bldTs,List.forall_mem_cons]
 exact ⟨by kernel_rfl,by kernel_rfl,fun _ h=>by cases h⟩
theorem bld_row {g:Gh} {ow:Nat→Option Nat} {id b t e:Nat} {l:List UInt8} {w:World} (h:BldAt g ow id b t e l w) :
  ∃ p v,RowAt w b t e l p v∧(p=.pointer none∨p=.pointer (some ⟨b,0,none⟩))∧ow b=some id∧(∀ i,g.M b i=none)∧∀ k,v.ownBlock=some k→ow k=some id∧∀ i,g.M k i=none:=by
 obtain ⟨p,v,h1,h2,h3,h4,h5⟩:=h
 rcases h5 with ⟨rfl,rfl⟩ | ⟨gb,cap,cur,rfl,m2,m3,m5,m6,m7,m8,m9⟩
 ·exact ⟨p,_,⟨h1,.inl ⟨rfl,rfl⟩,by simp [Value.ownBlock]⟩,h2,h3,h4,fun k hk=>by simp [Value.ownBlock] at hk⟩
 ·refine ⟨p,_,⟨h1,.inr ⟨gb,cap,cur,rfl,m2,m3,m5,m6⟩,fun e=>by injection e with e; exact m8 e⟩,h2,h3,h4,fun k hk=>?_⟩
  injection hk with hk; subst hk; exact ⟨m7,m9⟩
theorem row_bld {g:Gh} {ow:Nat→Option Nat} {id b t e:Nat} {l:List UInt8} {w:World} {p v:Value} (h:RowAt w b t e l p v) (hp:p=.pointer none∨p=.pointer (some ⟨b,0,none⟩)) (ho:ow b=some id) (hM:∀ i,g.M b i=none) (hk:∀ k,v.ownBlock=some k→ow k=some id∧∀ i,g.M k i=none) :
  BldAt g ow id b t e l w:=by
 refine ⟨p,v,h.1,hp,ho,hM,?_⟩
 rcases h.2.1 with ⟨rfl,rfl⟩ | ⟨gb,cap,cur,rfl,m2,m3,m5,m6⟩
 ·exact .inl ⟨rfl,rfl⟩
 ·obtain ⟨k1,k2⟩:=hk gb rfl
  exact .inr ⟨gb,cap,cur,rfl,m2,m3,m5,m6,k1,fun e=>h.2.2 (by rw [e]; rfl),k2⟩
theorem wrote {bs:Nat} {g:Gh} {ow:Nat→Option Nat} {σ:Heap} {w w':World} (h:HR g ow σ w) {id t e b c:Nat} {l l':List UInt8} {p v v':Value} (hσ:σ[id]?=some (.bld t e l)) (hp:g.φ id=some (b,c))
  (hob:ow b=some id) (hMb:∀ i,g.M b i=none) (hog:∀ k,v.ownBlock=some k→ow k=some id∧∀ i,g.M k i=none)
  (hR:RowAt w b t e l p v) (hR':RowAt w' b t e l' (.pointer (some ⟨b,0,none⟩)) v') (hO:OnlyB w w' b v v') :
  ∃ ow',HR g ow' (σ.set id (.bld t e l')) w'∧St bs g ow σ w g ow' (σ.set id (.bld t e l')) w':=by
 have hMn:∀ k,w.heap.size≤k→∀ i,g.M k i=none:=fun k hk i=>by
  cases hm:g.M k i with
  | none=>rfl
  | some u=>have:=h.lt hm; omega
 refine ⟨fun k=>if some k=v'.ownBlock∧w.heap.size≤k then some id else ow k,h.bldTo (v:=v) hσ hp hob hMb hog hO.same hO.size (fun k hk h1 h2=>hO.block k hk h1 h2) (fun k hk=>by rw [if_neg (by omega)]) _ (.inr ⟨l',rfl,row_bld hR' (.inr rfl) ?_ hMb fun k hk=>?_⟩)⟩
 ·rw [if_neg (by have:=hR.lt; omega)]; exact hob
 ·rcases hO.own with e | e
  ·rw [e] at hk
   obtain ⟨k1,k2⟩:=hog k hk
   refine ⟨?_,k2⟩
   rw [if_neg (by have:=hR.2.1.lt hk; omega)]; exact k1
  ·have hge:=e k hk
   exact ⟨by rw [if_pos ⟨hk.symm,hge⟩],hMn k hge⟩
def wsP (args:List AV) (_:Nat) (σ:Heap):Option (AV × Heap):=match args with
 | [.ptr id 0,.str s]=>match σ[id]? with
  | some (.bld t e l)=>if t∈bldTs∧e=5∧l.length+s.size≤70368744177664 then some (.undef,σ.set id (.bld t e (l++s.data.toList))) else none
  | _=>none
 | _=>none
theorem ws_ok:PrimOK Tryz.prog 79 wsP:=by
 intro args bs σ v σ' h hbs
 unfold wsP at h
 split at h
 ·rename_i id s
  split at h
  ·rename_i t e l hσ
   split at h
   ·rename_i hc
    obtain ⟨ht,rfl,hlen⟩:=hc
    injection h with h; injection h with e1 e2; subst e1 e2
    refine ⟨⟨_,Tryz.func79,by kernel_rfl,by kernel_rfl⟩,fun g ow w cargs hH hA=>?_⟩
    obtain ⟨c,d,rfl,hx,hy⟩:=args2 hA
    rw [hy.strv]
    cases hx with
    | @ptr _ _ b cc hp=>
     obtain ⟨p,v,hR,hpp,hob,hMb,hog⟩:=bld_row (hH.bd id (.bld t _ l) rfl hσ b cc hp)
     refine (ws_calls b t l p v s w hR hpp (bldTs_ok t ht) hlen).mono ?_
     rintro ex w' ⟨cv,v',rfl,hR',hO⟩
     obtain ⟨ow',h1,h2⟩:=wrote (bs:=bs) hH hσ hp hob hMb hog hR hR' hO
     exact ⟨cv,g,ow',rfl,.undef _,h1,h2⟩
   ·cases h
  ·cases h
 ·cases h
def wbP (args:List AV) (_:Nat) (σ:Heap):Option (AV × Heap):=match args with
 | [.ptr id 0,.int .u8 n]=>match σ[id]? with
  | some (.bld t e l)=>if t∈bldTs∧e=5∧l.length+1≤70368744177664∧0≤n∧n<256 then some (.undef,σ.set id (.bld t e (l++[UInt8.ofNat n.toNat]))) else none
  | _=>none
 | _=>none
theorem wb_ok:PrimOK Tryz.prog 84 wbP:=by
 intro args bs σ v σ' h hbs
 unfold wbP at h
 split at h
 ·rename_i id n
  split at h
  ·rename_i t e l hσ
   split at h
   ·rename_i hc
    obtain ⟨ht,rfl,hlen,hn0,hn1⟩:=hc
    injection h with h; injection h with e1 e2; subst e1 e2
    refine ⟨⟨_,Tryz.func84,by kernel_rfl,by kernel_rfl⟩,fun g ow w cargs hH hA=>?_⟩
    obtain ⟨c,d,rfl,hx,hy⟩:=args2 hA
    have hd:d=.int .u8 ((UInt8.ofNat n.toNat).toNat:Int):=by
     have e:((UInt8.ofNat n.toNat).toNat:Int)=n:=by
      rw [UInt8.toNat_ofNat']; omega
     rw [e]; cases hy; rfl
    subst hd
    cases hx with
    | @ptr _ _ b cc hp=>
     obtain ⟨p,v,hR,hpp,hob,hMb,hog⟩:=bld_row (hH.bd id (.bld t _ l) rfl hσ b cc hp)
     refine (wb_calls b t l p v (UInt8.ofNat n.toNat) w hR hpp (bldTs_ok t ht) hlen).mono ?_
     rintro ex w' ⟨cv,v',rfl,hR',hO⟩
     obtain ⟨ow',h1,h2⟩:=wrote (bs:=bs) hH hσ hp hob hMb hog hR hR' hO
     exact ⟨cv,g,ow',rfl,.undef _,h1,h2⟩
   ·cases h
  ·cases h
 ·cases h
def strP (args:List AV) (_:Nat) (σ:Heap):Option (AV × Heap):=match args with
 | [.ptr id 0]=>match σ[id]? with
  | some (.bld t e l)=>if e=5∧l.length≤70368744177664 then some (.str ⟨l.toArray⟩,σ.set id .dead) else none
  | _=>none
 | _=>none
theorem str_ok:PrimOK Tryz.prog 75 strP:=by
 intro args bs σ v σ' h hbs
 unfold strP at h
 split at h
 ·rename_i id
  split at h
  ·rename_i t e l hσ
   split at h
   ·rename_i hc
    obtain ⟨rfl,hlen⟩:=hc
    injection h with h; injection h with e1 e2; subst e1 e2
    refine ⟨⟨_,Tryz.func75,by kernel_rfl,by kernel_rfl⟩,fun g ow w cargs hH hA=>?_⟩
    obtain ⟨c,rfl,hx⟩:=args1 hA
    cases hx with
    | @ptr _ _ b cc hp=>
     obtain ⟨p,v,hR,hpp,hob,hMb,hog⟩:=bld_row (hH.bd id (.bld t _ l) rfl hσ b cc hp)
     refine (str_calls b t l p v w hR hlen).mono ?_
     rintro ex w' ⟨rfl,hO⟩
     obtain ⟨h1,h2⟩:=hH.bldTo (bs:=bs) (ow':=ow) (v:=v) hσ hp hob hMb hog hO.same hO.size (fun k hk _ hv=>hO.block k hk hv) (fun _ _=>rfl) .dead (.inl rfl)
     exact ⟨_,g,ow,rfl,.str _,h1,h2⟩
   ·cases h
  ·cases h
 ·cases h
end Go.Proofs.YtjfgjnlocadpbaaGreatDoor
end
section
namespace Go.Proofs
open Go.Shelf
def Tryz.laysM171_ren:Go.Shelf.Ren:=⟨fun | 171=>165 | 243=>172 | 246=>175 | 283=>177 | 284=>178 | 285=>179 | 286=>180 | 129=>182 | 317=>181 | 318=>183 | 319=>184 | 320=>185 | 337=>186 | 338=>187 | n=>n,fun | 3=>3 | 9=>9 | 2=>2 | 4=>4 | 171=>185 | 0=>0 | 53=>186 | 37=>76 | 5=>5 | 173=>189 | 212=>193 | 51=>194 | 20=>20 | 213=>195 | 46=>196 | 232=>199 | 233=>200 | n=>n,fun | 17=>1 | 18=>2 | 19=>3 | n=>n⟩
theorem Tryz.laysM171:Go.Proofs.LaysM.n171 Tryz.prog Tryz.laysM171_ren:={
 mixed:=by kernel_rfl
 f129:=Tryz.func182.trans (congrArg some (by kernel_rfl))
 f171:=Tryz.func165.trans (congrArg some (by kernel_rfl))
 f243:=Tryz.func172.trans (congrArg some (by kernel_rfl))
 f246:=Tryz.func175.trans (congrArg some (by kernel_rfl))
 f283:=Tryz.func177.trans (congrArg some (by kernel_rfl))
 f284:=Tryz.func178.trans (congrArg some (by kernel_rfl))
 f285:=Tryz.func179.trans (congrArg some (by kernel_rfl))
 f286:=Tryz.func180.trans (congrArg some (by kernel_rfl))
 f317:=Tryz.func181.trans (congrArg some (by kernel_rfl))
 f318:=Tryz.func183.trans (congrArg some (by kernel_rfl))
 f319:=Tryz.func184.trans (congrArg some (by kernel_rfl))
 f320:=Tryz.func185.trans (congrArg some (by kernel_rfl))
 f337:=Tryz.func186.trans (congrArg some (by kernel_rfl))
 f338:=Tryz.func187.trans (congrArg some (by kernel_rfl))
 t0:=Tryz.underlying0
 a0:=Tryz.isAgg0
 z0:=Tryz.sizeOf0
 v0:=Tryz.zeroValue0
 t2:=Tryz.underlying2
 a2:=Tryz.isAgg2
 z2:=Tryz.sizeOf2
 v2:=Tryz.zeroValue2
 t3:=Tryz.underlying3
 a3:=Tryz.isAgg3
 z3:=Tryz.sizeOf3
 v3:=Tryz.zeroValue3
 t4:=Tryz.underlying4
 a4:=Tryz.isAgg4
 z4:=Tryz.sizeOf4
 v4:=Tryz.zeroValue4
 t5:=Tryz.underlying5
 a5:=Tryz.isAgg5
 z5:=Tryz.sizeOf5
 v5:=Tryz.zeroValue5
 t9:=Tryz.underlying9
 a9:=Tryz.isAgg9
 z9:=Tryz.sizeOf9
 v9:=Tryz.zeroValue9
 t20:=Tryz.underlying20
 a20:=Tryz.isAgg20
 z20:=Tryz.sizeOf20
 v20:=Tryz.zeroValue20
 t37:=Tryz.underlying76
 a37:=Tryz.isAgg76
 z37:=Tryz.sizeOf76
 v37:=Tryz.zeroValue76
 t46:=Tryz.underlying196
 a46:=Tryz.isAgg196
 z46:=Tryz.sizeOf196
 v46:=Tryz.zeroValue196
 t51:=Tryz.underlying194
 a51:=Tryz.isAgg194
 z51:=Tryz.sizeOf194
 v51:=Tryz.zeroValue194
 t53:=Tryz.underlying186
 a53:=Tryz.isAgg186
 z53:=Tryz.sizeOf186
 v53:=Tryz.zeroValue186
 t171:=Tryz.underlying185
 a171:=Tryz.isAgg185
 z171:=Tryz.sizeOf185
 v171:=Tryz.zeroValue185
 t173:=Tryz.underlying189
 a173:=Tryz.isAgg189
 z173:=Tryz.sizeOf189
 v173:=Tryz.zeroValue189
 t212:=Tryz.underlying193
 a212:=Tryz.isAgg193
 z212:=Tryz.sizeOf193
 v212:=Tryz.zeroValue193
 t213:=Tryz.underlying195
 a213:=Tryz.isAgg195
 z213:=Tryz.sizeOf195
 t232:=Tryz.underlying199
 a232:=Tryz.isAgg199
 z232:=Tryz.sizeOf199
 v232:=Tryz.zeroValue199
 t233:=Tryz.underlying200
 a233:=Tryz.isAgg200
 z233:=Tryz.sizeOf200
 v233:=Tryz.zeroValue200
 g17:=by kernel_rfl
 g18:=by kernel_rfl
 g19:=by kernel_rfl
 i0:=by kernel_rfl
 i2:=by kernel_rfl
 i3:=by kernel_rfl
 i4:=by kernel_rfl
 i5:=by kernel_rfl
 i9:=by kernel_rfl
 i20:=by kernel_rfl
 i37:=by kernel_rfl
 i46:=by kernel_rfl
 i51:=by kernel_rfl
 i53:=by kernel_rfl
 i171:=by kernel_rfl
 i173:=by kernel_rfl
 i212:=by kernel_rfl
 i232:=by kernel_rfl
 i233:=by kernel_rfl
 m17:=by kernel_rfl
 m18:=by kernel_rfl
 m19:=by kernel_rfl}
open Go.RowKit Go.Sort Go.Lib in
theorem Tryz.strconv_Itoa (n : Int) (h0 : -9223372036854775808 ≤ n) (h1 : n ≤ 9223372036854775807) (w : World) (htab : Lib.TabIs Tryz.prog w "internal/strconv.uint64pow10" .u64 Lib.pow10Tab) :
  Calls Tryz.prog 165 #[.int .i64 n] w fun e w'=>e=.returned (.string ⟨(Lib.itoa n).toArray⟩)∧∃ k os,w'=grow (w.drewN k) os:=Any.strconv_Itoa Tryz.laysM171 n h0 h1 w htab
end Go.Proofs
end
section
namespace Go.Proofs.YtjfgjnlocadpbaaGreatDoor
open Go.RowKit Go.Mach
open Go.Sort
theorem pow10_pin:(1,(((List.range 20).map fun i=>((10 ^ i:Nat):Int)).map fun z=>Value.int .u64 z).toArray)∈pinned:=by simp [pinned]
def itoaP (args:List AV) (_:Nat) (σ:Heap):Option (AV × Heap):=match args with
 | [.int .i64 n]=>if -9223372036854775808≤n∧n≤9223372036854775807 then some (.str ⟨(Lib.itoa n).toArray⟩,σ) else none
 | _=>none
theorem itoa_ok:PrimOK Tryz.prog 165 itoaP:=by
 intro args bs σ v σ' h hbs
 unfold itoaP at h
 split at h
 ·rename_i n
  split at h
  ·rename_i hc
   injection h with h; injection h with e1 e2; subst e1 e2
   refine ⟨⟨_,Tryz.func165,by kernel_rfl,by kernel_rfl⟩,fun g ow w cargs hH hA=>?_⟩
   obtain ⟨c,rfl,hx⟩:=args1 hA
   have hx:c=.int .i64 n:=by cases hx; rfl
   subst hx
   obtain ⟨⟨t,fr,hp⟩,_⟩:=hH.pin _ pow10_pin
   have htab : Lib.TabIs Tryz.prog w "internal/strconv.uint64pow10" .u64 Lib.pow10Tab := by
    unfold Lib.TabIs World.var?
    rw [show Tryz.prog.globalNamed "internal/strconv.uint64pow10" = some 1 by kernel_rfl]
    simp only [Option.bind_some,hp]; rfl
   refine (Tryz.strconv_Itoa n hc.1 hc.2 w htab).mono ?_
   rintro e w' ⟨rfl,k,os,rfl⟩
   obtain ⟨h1,h2⟩:=hH.more (bs:=bs) (w':=grow (w.drewN k) os) (by show w.heap.size≤(w.heap++os).size; rw [Array.size_append]; omega)
    (fun b hb=>by show (w.heap++os)[b]?=w.heap[b]?; exact Array.getElem?_append_left hb) rfl rfl rfl
   exact ⟨_,g,ow,rfl,.str _,h1,h2⟩
  ·cases h
 ·cases h
end Go.Proofs.YtjfgjnlocadpbaaGreatDoor
end
section
namespace Go.Proofs.YtjfgjnlocadpbaaGreatDoor
open Go.ChangeShapes Go.WideShapes Go.ChangeAt Go.RowKit Go.Mach
noncomputable def laidWorld (os:Os):World:=
 {World.holding Tryz.prog os ⟨#[],#[],[]⟩ with heap:=((((World.holding Tryz.prog os ⟨#[],#[],[]⟩).heap
  |>.modify 2 (fun o=>match o with | .cells _ t frozen=>.cells #[.int .u8 0,.int .u8 1,.int .u8 28,.int .u8 2,.int .u8 29,.int .u8 14,.int .u8 24,.int .u8 3,.int .u8 30,.int .u8 22,.int .u8 20,.int .u8 15,.int .u8 25,.int .u8 17,.int .u8 4,.int .u8 8,.int .u8 31,.int .u8 27,.int .u8 13,.int .u8 23,.int .u8 21,.int .u8 19,.int .u8 16,.int .u8 7,.int .u8 26,.int .u8 12,.int .u8 18,.int .u8 6,.int .u8 11,.int .u8 5,.int .u8 10,.int .u8 9] t frozen | o=>o))
  |>.modify 3 (fun o=>match o with | .cells _ t frozen=>.cells #[.int .u8 0,.int .u8 1,.int .u8 56,.int .u8 2,.int .u8 57,.int .u8 49,.int .u8 28,.int .u8 3,.int .u8 61,.int .u8 58,.int .u8 42,.int .u8 50,.int .u8 38,.int .u8 29,.int .u8 17,.int .u8 4,.int .u8 62,.int .u8 47,.int .u8 59,.int .u8 36,.int .u8 45,.int .u8 43,.int .u8 51,.int .u8 22,.int .u8 53,.int .u8 39,.int .u8 33,.int .u8 30,.int .u8 24,.int .u8 18,.int .u8 12,.int .u8 5,.int .u8 63,.int .u8 55,.int .u8 48,.int .u8 27,.int .u8 60,.int .u8 41,.int .u8 37,.int .u8 16,.int .u8 46,.int .u8 35,.int .u8 44,.int .u8 21,.int .u8 52,.int .u8 32,.int .u8 23,.int .u8 11,.int .u8 54,.int .u8 26,.int .u8 40,.int .u8 15,.int .u8 34,.int .u8 20,.int .u8 31,.int .u8 10,.int .u8 25,.int .u8 14,.int .u8 19,.int .u8 9,.int .u8 13,.int .u8 8,.int .u8 7,.int .u8 6] t frozen | o=>o))
  |>.modify 1 (fun o=>match o with | .cells _ t frozen=>.cells #[.int .u64 1,.int .u64 10,.int .u64 100,.int .u64 1000,.int .u64 10000,.int .u64 100000,.int .u64 1000000,.int .u64 10000000,.int .u64 100000000,.int .u64 1000000000,.int .u64 10000000000,.int .u64 100000000000,.int .u64 1000000000000,.int .u64 10000000000000,.int .u64 100000000000000,.int .u64 1000000000000000,.int .u64 10000000000000000,.int .u64 100000000000000000,.int .u64 1000000000000000000,.int .u64 10000000000000000000] t frozen | o=>o))}
def laidList:List (String × DataW Unit):=Rows.locateReadsRow.laid
theorem pins_of {W:World} (h:laidMetH Tryz.prog laidList W):Pins (fun _=>none) W:=by
 have ht : Lib.TabIs Tryz.prog W "internal/strconv.uint64pow10" .u64 Lib.pow10Tab :=
  Lib.tabIs_of_head (zs:=Lib.pow10Tab) (rest:=[])
   (g:=1) (by kernel_rfl) (t:=193) (by kernel_rfl) Tryz.underlying193 (e:=186) Tryz.underlying186 (by kernel_rfl) (by kernel_rfl) (h:laidMet Tryz.prog laidList W).tail.tail
 intro p hp
 simp only [pinned,List.mem_cons,List.not_mem_nil,or_false] at hp
 subst hp
 unfold Lib.TabIs World.var? at ht
 rw [show Tryz.prog.globalNamed "internal/strconv.uint64pow10" = some 1 by kernel_rfl] at ht
 simp only [Option.bind_some] at ht
 split at ht
 ·rename_i cs t fr hh
  injection ht with ht
  exact ⟨⟨t,fr,by rw [hh,ht]; rfl⟩,rfl⟩
 ·cases ht
end Go.Proofs.YtjfgjnlocadpbaaGreatDoor
end
section
namespace Go.Proofs.YtjfgjnlocadpbaaGreatDoor
open Go.Mach
def prims:List (Nat × (List AV→Nat→Heap→Option (AV × Heap))):=[
 (174,cmpP),
 (167,growP),
 (166,cloneVP),
 (79,wsP),
 (84,wbP),
 (75,strP),
 (165,itoaP),
 (1000000,fun _ _ _=>none)]
noncomputable def T:Tab:=⟨fun f=>(fns.find? (·.1 == f)).map (·.2),fun f=>(prims.find? (·.1 == f)).map (·.2),rds⟩
theorem prims_ok:∀ p∈prims,PrimOK Tryz.prog p.1 p.2:=by
 simp only [prims,List.forall_mem_cons]
 exact ⟨
  cmp_ok,
  grow_ok,
  cloneV_ok,
  ws_ok,wb_ok,str_ok,
  itoa_ok,
  (fun _ _ _ _ _ h=>by cases h),fun _ h=>by cases h⟩
theorem T_ok:TabOK Tryz.prog T where
 mixed:=by kernel_rfl
 fn f af h:=by
  obtain ⟨p,hp,rfl⟩:=zqG.1 h
  have h1:=List.find?_some hp
  have h2:=fns_ok p (List.mem_of_find?_eq_some hp)
  have:p.1=f:=by simpa using h1
  rw [←this]; exact h2
 pr f p h:=by
  obtain ⟨q,hq,rfl⟩:=zqG.1 h
  have h1:=List.find?_some hq
  have h2:=prims_ok q (List.mem_of_find?_eq_some hq)
  have:q.1=f:=by simpa using h1
  rw [←this]; exact h2
 yn:=⟨by kernel_rfl,by kernel_rfl⟩
 rd:=rds_ok
theorem callN_T (f:Nat) (args:List AV) (bs:Nat) (σ:Heap) (h:headYld args=false):callN (callT T) f args bs σ=callT T f args bs σ:=by
 unfold callN
 split
 ·rename_i e; subst e
  rw [callT_yld T bs σ T_ok.yn.1 T_ok.yn.2]
  unfold roundA
  split
  ·cases h
  ·rfl
 ·rfl
attribute [simp] callN_T
end Go.Proofs.YtjfgjnlocadpbaaGreatDoor
end
section
namespace Go.Mach
inductive GV where
 | mk (kind num:Int) (text:ByteArray) (items:List GV)
 deriving Inhabited
namespace GV
abbrev kind:GV→Int | .mk k _ _ _=>k
abbrev num:GV→Int | .mk _ n _ _=>n
abbrev text:GV→ByteArray | .mk _ _ t _=>t
abbrev items:GV→List GV | .mk _ _ _ l=>l
mutual
def enc:GV→AV
 | .mk k n t l=>.agg [.int .i64 k,.int .i64 n,.str t,.isl (encs l) false]
def encs:List GV→List AV
 | []=>[]
 | v :: l=>enc v :: encs l
end
theorem encs_map:∀ l:List GV,encs l=l.map enc
 | []=>rfl
 | v :: l=>by simp only [encs,List.map_cons,encs_map l]
@[simp] theorem encs_length (l:List GV):(encs l).length=l.length:=by simp [encs_map]
theorem enc_eq (v:GV):v.enc=.agg [.int .i64 v.kind,.int .i64 v.num,.str v.text,.isl (encs v.items) false]:=by cases v; simp only [enc,kind,num,text,items]
@[simp] theorem enc_cells (v:GV):v.enc.cells=[.int .i64 v.kind,.int .i64 v.num,.str v.text,.isl (encs v.items) false]:=by rw [enc_eq]; rfl
def i64ok (n:Int):Prop:=-9223372036854775808≤n∧n≤9223372036854775807
mutual
def ok:GV→Prop
 | .mk k n _ l=>i64ok k∧i64ok n∧oks l
def oks:List GV→Prop
 | []=>True
 | v :: l=>ok v∧oks l
end
theorem oks_iff:∀ l:List GV,oks l↔∀ v∈l,ok v
 | []=>by simp [oks]
 | v :: l=>by simp [oks,oks_iff l]
mutual
def size:GV→Nat
 | .mk _ _ t l=>t.size+sizes l+5
def sizes:List GV→Nat
 | []=>0
 | v :: l=>size v+sizes l
end
mutual
theorem bulk_enc:∀ v:GV,bulkA v.enc=v.size
 | .mk k n t l=>by
  have h:=bulk_encs l
  simp only [enc,bulkA,bulkAs,size,h]; omega
theorem bulk_encs:∀ l:List GV,bulkAs (encs l)=sizes l
 | []=>by simp [encs,bulkAs,sizes]
 | v :: l=>by
  have h1:=bulk_enc v
  have h2:=bulk_encs l
  simp only [encs,bulkAs,sizes,h1,h2]
end
end GV
structure IsV (P:Program) (tV tL tI tS:TypeId):Prop where
 fs:∃ fs:Array Field,P.underlying tV=some (.struct fs)∧fs.toList.map (·.type)=[tI,tI,tS,tL]
 int:P.underlying tI=some (.int .i64)
 str:P.underlying tS=some .string
 list:P.underlying tL=some (.slice tV)
theorem field_ty {P:Program} {fs:Array Field} {ts:List TypeId} (h:fs.toList.map (·.type)=ts) {vs:List AV} (hv:∀ (i:Nat) f x,fs.toList[i]?=some f→vs[i]?=some x→TyA P f.type x) {i:Nat} {t:TypeId} {x:AV} (ht:ts[i]?=some t) (hx:vs[i]?=some x):TyA P t x:=by
 rw [←h,List.getElem?_map] at ht
 obtain ⟨f,hf,rfl⟩:=zqG.1 ht
 exact hv i f x hf hx
theorem TyA.asValue {P:Program} {tV tL tI tS:TypeId} (hV:IsV P tV tL tI tS) {t:TypeId} {x:AV} (h:TyA P t x):(t=tV→∃ v:GV,x=v.enc∧v.ok)∧(t=tL→∃ l:List GV,x=.isl (GV.encs l) false∧GV.oks l):=by
 have e1:IntKind.i64.min=-9223372036854775808:=by decide
 have e2:IntKind.i64.max=9223372036854775807:=by decide
 obtain ⟨fs0,hf0,hts⟩:=hV.fs
 induction h with
 | bool hu b=>exact ⟨fun e=>(by subst e; rw [hf0] at hu; cases hu),fun e=>by subst e; rw [hV.list] at hu; cases hu⟩
 | int hu n hn=>exact ⟨fun e=>(by subst e; rw [hf0] at hu; cases hu),fun e=>by subst e; rw [hV.list] at hu; cases hu⟩
 | str hu s=>exact ⟨fun e=>(by subst e; rw [hf0] at hu; cases hu),fun e=>by subst e; rw [hV.list] at hu; cases hu⟩
 | array hu hl hv=>exact ⟨fun e=>(by subst e; rw [hf0] at hu; cases hu),fun e=>by subst e; rw [hV.list] at hu; cases hu⟩
 | @slice t e es hu hes ih=>
  refine ⟨fun e'=>(by subst e'; rw [hf0] at hu; cases hu),fun e'=>?_⟩
  subst e'; rw [hV.list] at hu; injection hu with hu; injection hu with hu; subst hu
  have:∀ l:List AV,(∀ y∈l,∃ v:GV,y=v.enc∧v.ok)→∃ l':List GV,l=GV.encs l'∧GV.oks l':=by
   intro l
   induction l with
   | nil=>intro _; exact ⟨[],rfl,trivial⟩
   | cons y l ihl=>
    intro h
    obtain ⟨v,rfl,hv⟩:=h y (by simp)
    obtain ⟨l',rfl,hl'⟩:=ihl fun z hz=>h z (by simp [hz])
    exact ⟨v :: l',rfl,hv,hl'⟩
  obtain ⟨l',rfl,hl'⟩:=this es fun y hy=>(ih y hy).1 rfl
  exact ⟨l',rfl,hl'⟩
 | @struct t fs vs hu hl hv ih=>
  refine ⟨fun e'=>?_,fun e'=>by subst e'; rw [hV.list] at hu; cases hu⟩
  subst e'; rw [hf0] at hu; injection hu with hu; injection hu with hu; subst hu
  have hlen:vs.length=4:=by rw [hl,←List.length_map (f:=(·.type)),hts]; rfl
  match vs,hlen with
  | [x0,x1,x2,x3],_=>
   obtain ⟨k,rfl,k1,k2⟩:=(field_ty hts hv (i:=0) rfl rfl).asInt hV.int
   obtain ⟨n,rfl,n1,n2⟩:=(field_ty hts hv (i:=1) rfl rfl).asInt hV.int
   obtain ⟨s,rfl⟩:=(field_ty hts hv (i:=2) rfl rfl).asStr hV.str
   have h3:fs0.toList[3]?.map (·.type)=some tL:=by rw [←List.getElem?_map,hts]; rfl
   obtain ⟨f3,hf3,hft⟩:=zqG.1 h3
   obtain ⟨l,rfl,hok⟩:=(ih 3 f3 x3 hf3 rfl).2 hft
   rw [e1] at k1 n1; rw [e2] at k2 n2
   refine ⟨.mk k n s l,by simp [GV.enc,flat],⟨⟨k1,k2⟩,⟨n1,n2⟩,hok⟩⟩
end Go.Mach
end
section
namespace Go.Mach
end Go.Mach
namespace Go.Proofs.YtjfgjnlocadpbaaGreatDoor
open Go.Mach
def cmpI (a b:Int):Int:=if a<b then -1 else if b<a then 1 else 0
mutual
def cmpV:GV→GV→Int
 | .mk k n t l,b=>if cmpI k b.kind≠0 then cmpI k b.kind else if k=1 then cmpI n b.num else if k=2∨k=3 then Lib.compareBytes t.data.toList b.text.data.toList else if k=4 then cmpVs l b.items else 0
def cmpVs:List GV→List GV→Int
 | [],[]=>0
 | [],_ :: _=>-1
 | _ :: _,[]=>1
 | x :: xs,y :: ys=>if cmpV x y≠0 then cmpV x y else cmpVs xs ys
end
theorem sizes_mem {l:List GV} {x:GV} (h:x∈l):x.size+5≤GV.sizes l+5∧l.length≤GV.sizes l:=by
 induction l with
 | nil=>cases h
 | cons y l ih=>
  have hy:5≤y.size:=by cases y; simp [GV.size]
  rcases List.mem_cons.1 h with rfl | h
  ·refine ⟨by simp [GV.sizes],?_⟩
   have:∀ l:List GV,l.length≤GV.sizes l:=fun l=>by
    induction l with
    | nil=>simp [GV.sizes]
    | cons z l ih=>have:5≤z.size:=(by cases z; simp [GV.size]); simp [GV.sizes]; omega
   have:=this l
   simp [GV.sizes]; omega
  ·obtain ⟨h1,h2⟩:=ih h
   simp [GV.sizes]; omega
theorem len_sizes (l:List GV):l.length≤GV.sizes l:=by
 cases l with
 | nil=>simp
 | cons x l=>exact (sizes_mem (List.mem_cons_self (a:=x) (l:=l))).2
end Go.Proofs.YtjfgjnlocadpbaaGreatDoor
end
section
namespace Go.Proofs.YtjfgjnlocadpbaaGreatDoor
open Go.Mach
def idxG {α:Type} (p:α→Bool) (l:List α):Int:=match l.findIdx? p with
 | some i=>(i:Int)
 | none=>-1
theorem idxG_drop {α:Type} (p:α→Bool) (l:List α) (i:Nat) (hi:i<l.length) (h:∀ j,(hj:j<l.length)→j<i→p l[j]=false) (hp:p l[i]=true):l.findIdx? p=some i:=by
 rw [List.findIdx?_eq_some_iff_getElem]
 exact ⟨hi,hp,fun j hj=>by rw [h j (by omega) hj]; simp⟩
theorem idxG_any {α:Type} (p:α→Bool) (l:List α):(0≤idxG p l)↔l.any p=true:=by
 unfold idxG
 cases h:l.findIdx? p with
 | none=>rw [List.findIdx?_eq_none_iff] at h; simp only [List.any_eq_true]; exact ⟨fun h=>by omega,fun ⟨x,hx,hp⟩=>by rw [h x hx] at hp; cases hp⟩
 | some i=>
  rw [List.findIdx?_eq_some_iff_getElem] at h
  obtain ⟨hi,hp,_⟩:=h
  exact ⟨fun _=>List.any_eq_true.2 ⟨_,zqT hi,hp⟩,fun _=>by simp⟩
theorem not_any {α:Type} (p:α→Bool) (l:List α):(!l.any (fun x=>!p x))=l.all p:=by
 induction l with
 | nil=>rfl
 | cons x l ih=>simp only [List.any_cons,List.all_cons,Bool.not_or,Bool.not_not,ih]
theorem refLt2_bool (n:Nat) (b:Bool):refLt2 n (.bool b)=true:=rfl
theorem refLt2_int (n:Nat) (k:IntKind) (m:Int):refLt2 n (.int k m)=true:=rfl
theorem take_1 (σ:Heap) (a b:AObj):(σ++[a,b]).take (σ.length+1)=σ++[a]:=by
 rw [List.take_append,List.take_of_length_le (by omega)]; simp
theorem idxValue (p:GV→Bool) (l:List GV) (g:Nat) (caps:List AV) (hl:l.length≤100000000000) (σ:Heap) (hc:∀ x∈l,∀ bs,callT T g (x.enc :: caps) bs σ=some (.bool (p x),σ)) (bs:Nat) :
  callT T 140 [.isl (GV.encs l) false,.func g caps] bs σ=some (.int .i64 (idxG p l),σ):=by
 refine heap_enter (af:=c140) (args':=[.isl (GV.encs l) false,.func g caps]) (σ1:=σ) rfl rfl (by simp [c140]) (by simp [c140]) rfl ?_
 simp [c140,baseA]
 refine W_for T _ 19 l.length (fun i f τ=>f 0=.isl (GV.encs l) false∧f 1=.func g caps∧f 7=.int .i64 (l.length:Int)∧f 8=.int .i64 (i:Int)∧τ=σ∧∀ j,(hj:j<l.length)→j<i→p l[j]=false) ?_ _ _ ?_
 ·rintro i f τ hi ⟨h0,h1,h7,h8,rfl,hall⟩
  by_cases hlt:i<l.length
  ·have e1:l[i]?=some l[i]:=zqF hlt
   have hcl:=hc l[i] (zqT hlt)
   cases hp:p l[i]
   ·rw [hp] at hcl
    simp [h0,h1,h7,h8,hlt,hcl,hp,←GV.enc_eq]
    refine ⟨wr64 (by omega) (by omega),fun j hj hji=>?_⟩
    by_cases e:j=i
    ·subst e; exact hp
    ·exact hall j hj (by omega)
   ·rw [hp] at hcl
    simp [h0,h1,h7,h8,hlt,hcl,hp,←GV.enc_eq,dropA_gc,refLt,res1,refLt2_bool,refLt2_int,take_1]
    simp [idxG,idxG_drop p l i hlt hall hp]
  ·have he:i=l.length:=by omega
   subst he
   have hn:l.findIdx? p=none:=by
    rw [List.findIdx?_eq_none_iff]
    intro x hx
    obtain ⟨j,hj,rfl⟩:=zqS hx
    exact hall j hj hj
   simp [h0,h1,h7,h8,idxG,hn,dropA_gc,refLt,res1,refLt2_bool,refLt2_int,take_1]
 ·simp
theorem conValue (p:GV→Bool) (l:List GV) (g:Nat) (caps:List AV) (hl:l.length≤100000000000) (σ:Heap) (hc:∀ x∈l,∀ bs,callT T g (x.enc :: caps) bs σ=some (.bool (p x),σ)) (bs:Nat) :
  callT T 124 [.isl (GV.encs l) false,.func g caps] bs σ=some (.bool (sym (l.any p)),σ):=by
 have h1:=idxValue p l g caps hl σ hc
 have h2:=idxG_any p l
 refine heap_enter (af:=c124) (args':=[.isl (GV.encs l) false,.func g caps]) (σ1:=σ) rfl rfl (by simp [c124]) (by simp [c124]) rfl ?_
 simp [c124,baseA,h1,dropA_gc,refLt,res1,refLt2_bool,refLt2_int,take_1]
 refine ⟨fun h=>by simpa [sym] using h2.1 h,fun h=>?_⟩
 have:¬ l.any p=true:=fun hh=>by have:=h2.2 hh; omega
 simpa [sym] using this
theorem allValue1 (b:Bool) (x:GV) (g:Nat) (caps:List AV) (σ:Heap) (hc:∀ τ bs,callT T g (x.enc :: caps) bs (σ++τ)=some (.bool b,σ++τ)) (bs:Nat) :
  callT T 125 [x.enc,.ptr σ.length 0] bs (σ++[.cells [.func g caps] 0 false])=some (.bool (!b),σ++[.cells [.func g caps] 0 false]):=by
 have hc1:=fun o bs=>hc [.cells [.func g caps] 0 false,o] bs
 refine heap_enter (af:=c125) (args':=[x.enc,.ptr σ.length 0]) (σ1:=σ++[.cells [.func g caps] 0 false]) rfl rfl (by simp [c125]) (by simp [c125]) rfl ?_
 simp [c125,baseA,hc1,←GV.enc_eq,setRun,dropA_gc,refLt,res1,refLt2_bool,refLt2_int,take_1]
theorem allValue (p:GV→Bool) (l:List GV) (g:Nat) (caps:List AV) (hl:l.length≤100000000000) (σ:Heap) (hc:∀ x∈l,∀ τ bs,callT T g (x.enc :: caps) bs (σ++τ)=some (.bool (p x),σ++τ)) (bs:Nat) :
  callT T 97 [.isl (GV.encs l) false,.func g caps] bs σ=some (.bool (sym (l.all p)),σ):=by
 have h1:=fun x hx=>allValue1 (p x) x g caps σ (hc x hx)
 have h2:=conValue (fun x=>!p x) l 125 [.ptr σ.length 0] hl (σ++[.cells [.func g caps] 0 false]) h1
 refine heap_enter (af:=c97) (args':=[.isl (GV.encs l) false,.func g caps]) (σ1:=σ) rfl rfl (by simp [c97]) (by simp [c97]) rfl ?_
 rw [←not_any]
 simp [c97,baseA,h2,dropA_gc,refLt,res1,refLt2_bool,refLt2_int,take_1,setRun,sym]
end Go.Proofs.YtjfgjnlocadpbaaGreatDoor
end
section
namespace Go.Proofs.YtjfgjnlocadpbaaGreatDoor
open Go.Mach
def plainB (c:Nat):Bool:=decide (32≤c) && decide (c≤126) && !decide (c=34) && !decide (c=92)
def textOK (t:ByteArray):Bool:=t.data.toList.all (fun c=>plainB c.toNat) && decide (t.size≤32)
def letterB (c:Nat):Bool:=decide (97≤c) && decide (c≤122)
def innerB (c:Nat):Bool:=letterB c || decide (c=95) || (decide (48≤c) && decide (c≤57))
def nameL:List UInt8→Bool
 | []=>false
 | c :: l=>letterB c.toNat && l.all (fun c=>innerB c.toNat)
def nameOK (t:ByteArray):Bool:=nameL t.data.toList && decide (t.size≤16)
def rightB (v:GV) (lst:Bool):Bool:=
 if v.kind=1 then decide (v.text=⟨#[]⟩∧v.items=[]∧v.num≤2147483647∧-2147483647≤v.num)
 else if v.kind=2 then decide (v.num=0∧v.items=[]∧textOK v.text=true)
 else if v.kind=3 then decide (v.num=0∧v.items=[]∧nameOK v.text=true)
 else if v.kind=4 then decide (v.num=0∧v.text=⟨#[]⟩∧lst=true)
 else false
def rightV:Nat→GV→Bool
 | 0,v=>rightB v false
 | d+1,v=>rightB v (decide (v.items.length≤16∧v.items.all (rightV d)=true))
def bt (s:ByteArray) (i:Nat):Nat:=((s.data.toList[i]?).getD 0).toNat
theorem bt_eq {s:ByteArray} {i:Nat} (h:i<s.size):bt s i=(s.data.toList[i]'(by simpa using h)).toNat:=by
 simp only [bt]; rw [zqF (by simpa using h)]; rfl
theorem bt_eq2 {s:ByteArray} {i:Nat} (h:i<s.size):(s.data[i]'h).toNat=bt s i:=by rw [bt_eq h]; simp
theorem bt_get {s:ByteArray} {i:Nat} (h:i<s.size):∃ b:UInt8,s.data.toList[i]?=some b∧b.toNat=bt s i:=⟨_,zqF (by simpa using h),(bt_eq h).symm⟩
theorem idx_bt {s:ByteArray} {i:Nat} (h:i<s.size):(s.data.toList[i]?).map (fun b=>(AV.int .u8 (b.toNat:Int)))=some (.int .u8 (bt s i)):=by
 obtain ⟨b,h1,h2⟩:=bt_get h; rw [h1,←h2]; rfl
theorem all_bt (s:ByteArray) (p:Nat→Bool):s.data.toList.all (fun c=>p c.toNat)=true↔∀ i,i<s.size→p (bt s i)=true:=by
 rw [zqQ]
 constructor
 ·intro h i hi
  rw [bt_eq hi]; exact h _ (zqT _)
 ·intro h c hc
  obtain ⟨i,hi,rfl⟩:=zqS hc
  have hi':i<s.size:=by simpa using hi
  have:=h i hi'
  rwa [bt_eq hi'] at this
theorem ba_nil (t:ByteArray):t=⟨#[]⟩↔t.size=0:=⟨fun h=>by rw [h]; rfl,fun h=>ByteArray.ext (Array.eq_empty_of_size_eq_zero h)⟩
theorem ba_get {s:ByteArray} {i:Nat} (h:i<s.size):s[i]'h=s.data.toList[i]'(by simpa using h):=by
 cases s; rfl
theorem dec_lo {s:ByteArray} {i:Nat} (h:i<s.size) (ha:bt s i<128):Utf8.decode s i=(bt s i,1):=by
 rw [bt_eq h] at ha ⊢
 have:=decode_ascii s i h (by rw [ba_get h]; exact ha)
 rw [this,ba_get h]
theorem dec_hi {s:ByteArray} {i:Nat} (h:i<s.size) (ha:128≤bt s i):128≤(Utf8.decode s i).1:=by
 rw [bt_eq h] at ha
 exact (decode_high s i h (by rw [ba_get h]; exact ha)).1
theorem textOK_iff (t:ByteArray):textOK t=true↔(∀ i,i<t.size→plainB (bt t i)=true)∧t.size≤32:=by
 rw [textOK,zqL,all_bt t plainB,decide_eq_true_eq]
theorem textOK_no {t:ByteArray} {i:Nat} (h:i<t.size) (hp:plainB (bt t i)=false):textOK t=false:=by
 rw [Bool.eq_false_iff,Ne,textOK_iff]; intro hh; rw [hh.1 i h] at hp; cases hp
theorem plain_ok (t:ByteArray) (ht:t.size≤100000000000):pureT T c142 [.str t]=some (.bool (textOK t)):=by
 apply pure_enter (by simp [c142])
 simp [c142]
 refine W_for T 0 27 t.size (fun i f σ=>f 0=.str t∧f 6=.ptr 0 0∧σ=[.iter t i]∧∀ j,j<i→plainB (bt t j)=true) ?_ _ _ ?_
 ·rintro i f σ hi ⟨h0,h6,rfl,hall⟩
  by_cases hlt:i<t.size
  ·by_cases hlo:bt t i<128
   ·simp [h0,h6,hlt,dec_lo hlt hlo]
    have hno:=@textOK_no t i hlt
    refine ⟨fun h=>hno (by simp [plainB]; omega),fun h=>⟨fun h=>hno (by simp [plainB]; omega),fun h=>⟨fun h=>hno (by simp [plainB]; omega),fun h=>⟨fun h=>hno (by simp [plainB]; omega),fun h j hj=>?_⟩⟩⟩⟩
    by_cases e:j=i
    ·subst e; simp [plainB]; omega
    ·exact hall j (by omega)
   ·have:=dec_hi hlt (by omega)
    simp [h0,h6,hlt]
    have hno:=@textOK_no t i hlt
    refine ⟨fun h=>by omega,fun h=>⟨fun h=>hno (by simp [plainB]; omega),fun h=>by omega⟩⟩
  ·have he:i=t.size:=by omega
   subst he
   simp [h0,h6]
   refine ⟨fun h=>?_,fun h=>?_⟩
   ·exact (textOK_iff t).2 ⟨fun i hi=>hall i hi,by omega⟩
   ·refine Bool.eq_false_iff.2 fun hh=>?_
    have:=((textOK_iff t).1 hh).2
    omega
 ·simp
def nameG (s:ByteArray) (i:Nat):Bool:=if i=0 then letterB (bt s i) else innerB (bt s i)
theorem nameG_iff (s:ByteArray) (i:Nat):nameG s i=true↔(97≤bt s i∧bt s i≤122)∨(i≠0∧(bt s i=95∨(48≤bt s i∧bt s i≤57))):=by
 unfold nameG
 split
 ·simp [letterB]; omega
 ·simp [letterB,innerB]; omega
theorem nameOK_iff (t:ByteArray):nameOK t=true↔(∀ i,i<t.size→nameG t i=true)∧t.size≠0∧t.size≤16:=by
 have hs:t.data.toList.length=t.size:=by simp
 simp only [nameOK,zqL,decide_eq_true_eq]
 match hl:t.data.toList with
 | []=>
  rw [hl] at hs; simp at hs
  simp only [nameL,Bool.false_eq_true,false_and,false_iff]; omega
 | c :: l=>
  rw [hl] at hs; simp at hs
  have hb:∀ i,bt t i=(((c :: l)[i]?).getD 0).toNat:=fun i=>by simp only [bt,hl]
  simp only [nameL,zqL,zqQ]
  constructor
  ·rintro ⟨⟨h1,h2⟩,h3⟩
   refine ⟨fun i hi=>?_,by omega,h3⟩
   unfold nameG
   cases i with
   | zero=>simp [hb,h1]
   | succ i=>
    have hi':i<l.length:=by omega
    simp [hb,zqF hi',h2 l[i] (zqT hi')]
  ·rintro ⟨h1,h2,h3⟩
   refine ⟨⟨?_,fun x hx=>?_⟩,h3⟩
   ·have:=h1 0 (by omega)
    simpa [nameG,hb] using this
   ·obtain ⟨i,hi,rfl⟩:=zqS hx
    have:=h1 (i+1) (by omega)
    simpa [nameG,hb,zqF hi] using this
theorem nameOK_no {t:ByteArray} {i:Nat} (h:i<t.size) (hp:¬ ((97≤bt t i∧bt t i≤122)∨(i≠0∧(bt t i=95∨(48≤bt t i∧bt t i≤57))))):nameOK t=false:=by
 rw [←nameG_iff] at hp
 rw [Bool.eq_false_iff,Ne,nameOK_iff]; intro hh; exact hp (hh.1 i h)
theorem name_ok (t:ByteArray) (ht:t.size≤100000000000):pureT T c103 [.str t]=some (.bool (nameOK t)):=by
 apply pure_enter (by simp [c103])
 simp [c103]
 refine W_for T 0 43 t.size (fun i f σ=>f 0=.str t∧f 7=.ptr 0 0∧σ=[.iter t i]∧∀ j,j<i→nameG t j=true) ?_ _ _ ?_
 ·rintro i f σ hi ⟨h0,h6,rfl,hall⟩
  by_cases hlt:i<t.size
  ·have hno:=@nameOK_no t i hlt
   have hyes:_→∀ j,j<i+1→nameG t j=true:=fun h j hj=>by
    by_cases e:j=i
    ·subst e; exact (nameG_iff t j).2 h
    ·exact hall j (by omega)
   by_cases hlo:bt t i<128
   ·simp [h0,h6,hlt,dec_lo hlt hlo]
    repeat' (first | apply And.intro | intro _)
    all_goals first | exact hno (by omega) | exact hyes (by omega) _ (by assumption)
   ·have:=dec_hi hlt (by omega)
    simp [h0,h6,hlt]
    repeat' (first | apply And.intro | intro _)
    all_goals first | exact hno (by omega) | omega
  ·have he:i=t.size:=by omega
   subst he
   have hb:(nameOK t=true)↔t.size≠0∧t.size≤16:=by rw [nameOK_iff]; exact ⟨fun h=>h.2,fun h=>⟨fun i hi=>hall i hi,h⟩⟩
   simp [h0,h6,ba_empty,ba_nil,-ByteArray.size_eq_zero_iff]
   refine ⟨fun h=>⟨fun h2=>hb.2 ⟨h,by omega⟩,fun h2=>?_⟩,fun h=>?_⟩
   all_goals (refine Bool.eq_false_iff.2 fun hh=>?_; have:=hb.1 hh; omega)
 ·simp
theorem empty_ok (k n:Int) (t:ByteArray) (es:List AV):pureT T c141 [.agg [.int .i64 k,.int .i64 n,.str t,.isl es false]]=some (.bool (decide (k=0) && decide (n=0) && decide (t=⟨#[]⟩) && decide (es=[]))):=by
 apply pure_enter (by simp [c141])
 simp [c141]
 repeat' (first | apply And.intro | intro _)
 all_goals simp_all
theorem call_empty (k n:Int) (t:ByteArray) (es:List AV) (c:Bool) (bs:Nat) (σ:Heap):callT T 141 [.agg [.int .i64 k,.int .i64 n,.str t,.isl es c]] bs σ=some (.bool (sym (decide (k=0) && decide (n=0) && decide (t=⟨#[]⟩) && decide (es=[]))),σ):=
 call_scal rfl rfl rfl (empty_ok k n t es) rfl rfl rfl
theorem plain_call (t:ByteArray) (ht:t.size≤100000000000) (bs:Nat) (σ:Heap):callT T 142 [.str t] bs σ=some (.bool (sym (textOK t)),σ):=call_clean rfl rfl rfl rfl (plain_ok t ht)
theorem name_call (t:ByteArray) (ht:t.size≤100000000000) (bs:Nat) (σ:Heap):callT T 103 [.str t] bs σ=some (.bool (sym (nameOK t)),σ):=call_clean rfl rfl rfl rfl (name_ok t ht)
theorem encs_nil (l:List GV):GV.encs l=[]↔l=[]:=by cases l <;> simp [GV.encs]
theorem right_base (d:Nat) (lst:Bool) (k n:Int) (t:ByteArray) (l:List GV) (ht:t.size≤100000000000) (hk:k≠4) :
  pureT T c126 [(GV.mk k n t l).enc,.int .i64 d]=some (.bool (rightB (GV.mk k n t l) lst)):=by
 have hp:=plain_call t ht
 have hn:=name_call t ht
 apply pure_enter (by simp [c126])
 by_cases h1:k=1
 ·subst h1; simp [c126,GV.enc_eq,GV.kind,GV.num,GV.text,GV.items,call_empty,rightB,setRun,encs_nil]
  repeat' (first | apply And.intro | intro _)
  all_goals grind
 by_cases h2:k=2
 ·subst h2; simp [c126,GV.enc_eq,GV.kind,GV.num,GV.text,GV.items,call_empty,rightB,setRun,hp,encs_nil]
  repeat' (first | apply And.intro | intro _)
  all_goals grind
 by_cases h3:k=3
 ·subst h3; simp [c126,GV.enc_eq,GV.kind,GV.num,GV.text,GV.items,call_empty,rightB,setRun,hn,encs_nil]
  repeat' (first | apply And.intro | intro _)
  all_goals grind
 simp [c126,GV.enc_eq,GV.kind,GV.num,GV.text,GV.items,call_empty,rightB,setRun,h1,h2,h3,hk]
theorem right_ok:∀ (d:Nat) (v:GV),d≤100→v.size≤100000000000→pureT T c126 [v.enc,.int .i64 d]=some (.bool (rightV d v)):=by
 intro d
 induction d with
 | zero=>
  intro v hd hs
  obtain ⟨k,n,t,l⟩:=v
  simp only [GV.size] at hs
  by_cases h4:k=4
  ·subst h4
   apply pure_enter (by simp [c126])
   simp [c126,GV.enc_eq,GV.kind,GV.num,GV.text,GV.items,call_empty,rightV,rightB,setRun]
  exact right_base 0 _ k n t l (by omega) h4
 | succ d ih=>
  intro v hd hs
  obtain ⟨k,n,t,l⟩:=v
  simp only [GV.size] at hs
  by_cases h4:k=4
  ·subst h4
   have hw:IntKind.i64.wrap (d:Int)=(d:Int):=wr64 (by omega) (by omega)
   have hlen:=len_sizes l
   have hcont:∀ bs A C,callT T 124 [.isl (GV.encs l) false,.func 143 [.ptr 1 0]] bs [A,.cells [.int .i64 ((d:Int)+1)] 0 false,C]=some (.bool (sym (l.any fun x=>!rightV d x)),[A,.cells [.int .i64 ((d:Int)+1)] 0 false,C]):=fun bs A C=>
    conValue (fun x=>!rightV d x) l 143 [.ptr 1 0] (by omega) _ (fun x hx bs=>by
     have hr:∀ bs σ,callT T 126 [x.enc,.int .i64 d] bs σ=some (.bool (rightV d x),σ):=fun bs σ=>call_clean rfl rfl rfl (by simp) (ih x (by omega) (by have:=(sizes_mem hx).1; omega))
     refine heap_enter (af:=c143) (args':=[x.enc,.ptr 1 0]) rfl rfl (by simp [c143]) (by simp [c143]) rfl ?_
     simp [c143,baseA,hr,hw,←GV.enc_eq,setRun,dropA_gc,refLt,res1,refLt2_bool]) bs
   apply pure_enter (by simp [c126])
   simp [c126,GV.enc_eq,GV.kind,GV.num,GV.text,GV.items,call_empty,rightV,rightB,setRun,hcont,encs_nil]
   repeat' (first | apply And.intro | intro _)
   all_goals grind
  exact right_base _ _ k n t l (by omega) h4
end Go.Proofs.YtjfgjnlocadpbaaGreatDoor
end
section
namespace Go.Proofs.YtjfgjnlocadpbaaGreatDoor
open Go.Mach
theorem refName_ok (t:ByteArray) (ht:t.size≤100000000000):pureT T c117 [.str t]=some (.bool (nameOK t)):=by
 apply pure_enter (by simp [c117])
 have hn:nameOK t=true↔(∀ i,i<t.size→nameG t i=true)∧t.size≠0∧t.size≤16:=nameOK_iff t
 by_cases h0:1≤t.size
 ·have hno0:¬ (97≤bt t 0∧bt t 0≤122)→nameOK t=false:=fun h=>nameOK_no (i:=0) (by omega) (by omega)
  have hb:=@idx_bt t 0 (by omega)
  have hb':t.data[0]?.map (fun b=>(AV.int .u8 (b.toNat:Int)))=some (.int .u8 (bt t 0)):=by simpa using hb
  have hlong:¬ t.size≤16→nameOK t=false:=fun h=>by rw [Bool.eq_false_iff,Ne,hn]; omega
  simp [c117,hb']
  refine ⟨fun h=>by omega,fun h=>⟨fun h=>hlong (by omega),fun h2=>⟨fun h=>hno0 (by omega),fun h3=>⟨fun h=>hno0 (by omega),fun h4=>?_⟩⟩⟩⟩
  refine W_for T 0 51 (t.size - 1) (fun i f σ=>f 0=.str t∧f 3=.int .i64 ((i:Int)+1)∧σ=[]∧∀ j,j<i+1→nameG t j=true) ?_ _ _ ?_
  ·rintro i f σ hi ⟨h0,h3,rfl,hall⟩
   by_cases hlt:i+1<t.size
   ·have hno:=@nameOK_no t (i+1) hlt
    have hyes:_→∀ j,j<i+1+1→nameG t j=true:=fun h j hj=>by
     by_cases e:j=i+1
     ·subst e; exact (nameG_iff t (i+1)).2 h
     ·exact hall j (by omega)
    have hb:=@idx_bt t (i+1) hlt
    have hb':t.data[i+1]?.map (fun b=>(AV.int .u8 (b.toNat:Int)))=some (.int .u8 (bt t (i+1))):=by simpa using hb
    have hw:IntKind.i64.wrap ((i:Int)+1+1)=(i:Int)+1+1:=wr64 (by omega) (by omega)
    have hc1:((i:Int)+1<(t.size:Int)):=by omega
    have hc2:(0:Int)≤(i:Int)+1:=by omega
    have hc3:((i:Int)+1).toNat=i+1:=by omega
    have hc4:i<t.size - 1:=by omega
    simp [h0,h3,hc1,hc2,hc3,hb',hw,hc4]
    repeat' (first | apply And.intro | intro _)
    all_goals first | exact hno (by omega) | exact hyes (by omega) _ (by assumption)
   ·have hc1:¬ ((i:Int)+1<(t.size:Int)):=by omega
    simp [h0,h3,hc1]
    exact hn.2 ⟨fun j hj=>hall j (by omega),by omega,by omega⟩
  ·simp
   exact (nameG_iff t 0).2 (by omega)
 ·have:t.size=0:=by omega
  have hf:nameOK t=false:=by rw [Bool.eq_false_iff,Ne,hn]; omega
  simp [c117,this,hf]
theorem refName_call (t:ByteArray) (ht:t.size≤100000000000) (bs:Nat) (σ:Heap):callT T 117 [.str t] bs σ=some (.bool (sym (nameOK t)),σ):=call_clean rfl rfl rfl rfl (refName_ok t ht)
theorem deep_text (d:Int) (n:Int) (t:ByteArray) (l:List GV) (lst:Bool) (ht:t.size≤100000000000) (hl:l.length≤100000000000):pureT T c137 [(GV.mk 2 n t l).enc,.int .i64 d]=some (.bool (rightB (GV.mk 2 n t l) lst)):=by
 apply pure_enter (by simp [c137])
 have hn:=textOK_iff t
 have hr:rightB (GV.mk 2 n t l) lst=decide (n=0∧l=[]∧textOK t=true):=by rw [Bool.eq_iff_iff]; simp [rightB,GV.kind,GV.num,GV.text,GV.items]
 rw [hr]
 by_cases h0:n=0
 ·subst h0
  simp [c137,GV.enc_eq,GV.kind,GV.num,GV.text,GV.items]
  refine W_for T 0 125 t.size (fun i f σ=>f 2=.ptr 0 0∧f 5=.int .i64 (i:Int)∧σ=[.cells [.int .i64 2,.int .i64 0,.str t,.isl (GV.encs l) false] 0 false]∧∀ j,j<i→plainB (bt t j)=true) ?_ _ _ ?_
  ·rintro i f σ hi ⟨h2,h5,rfl,hall⟩
   by_cases hlt:i<t.size
   ·have hno:=@textOK_no t i hlt
    have hb:=@idx_bt t i hlt
    have hb':t.data[i]?.map (fun b=>(AV.int .u8 (b.toNat:Int)))=some (.int .u8 (bt t i)):=by simpa using hb
    have hw:IntKind.i64.wrap ((i:Int)+1)=(i:Int)+1:=wr64 (by omega) (by omega)
    have hbe:=bt_eq2 hlt
    simp [h2,h5,hlt,hbe,hw]
    have hno':¬ (32≤bt t i∧bt t i≤126∧bt t i≠34∧bt t i≠92)→textOK t=false:=fun h=>hno (by simp [plainB]; omega)
    have hyes:(32≤bt t i∧bt t i≤126∧bt t i≠34∧bt t i≠92)→∀ j,j<i+1→plainB (bt t j)=true:=fun h j hj=>by
     by_cases e:j=i
     ·subst e; simp [plainB]; omega
     ·exact hall j (by omega)
    refine ⟨fun h=>?_,fun h=>⟨fun h=>?_,fun h=>⟨fun h=>?_,fun h=>⟨fun h=>?_,fun h=>?_⟩⟩⟩⟩
    all_goals first | exact hyes (by omega) | (rw [hno' (by omega)]; simp)
   ·have he:i=t.size:=by omega
    subst he
    simp [h2,h5,encs_nil]
    have:textOK t=true↔t.size≤32:=by rw [hn]; exact ⟨fun h=>h.2,fun h=>⟨fun j hj=>hall j hj,h⟩⟩
    grind
  ·simp
 ·simp [c137,GV.enc_eq,GV.kind,GV.num,GV.text,GV.items,h0]
theorem deep_list (d:Nat) (n:Int) (t:ByteArray) (l:List GV) (hd:d≤100) (ht:t.size≤100000000000) (hl:l.length≤100000000000) (hc:∀ x∈l,∀ bs σ,0<d→callT T 137 [x.enc,.int .i64 ((d:Int) - 1)] bs σ=some (.bool (sym (rightV (d - 1) x)),σ)) :
  pureT T c137 [(GV.mk 4 n t l).enc,.int .i64 d]=some (.bool (rightV d (GV.mk 4 n t l))):=by
 apply pure_enter (by simp [c137])
 have hr:rightV d (GV.mk 4 n t l)=decide (n=0∧t=⟨#[]⟩∧0<d∧l.length≤16∧l.all (rightV (d - 1))=true):=by
  rw [Bool.eq_iff_iff]; cases d <;> simp [rightV,rightB,GV.kind,GV.num,GV.text,GV.items]
 rw [hr]
 by_cases h0:n=0
 ·subst h0
  simp [c137,GV.enc_eq,GV.kind,GV.num,GV.text,GV.items]
  refine ⟨fun h1 h2 h3 h4=>absurd h2 h1,fun h1=>⟨fun h2=>by omega,fun h2=>⟨fun h3=>by omega,fun h3=>?_⟩⟩⟩
  refine W_for T 0 125 l.length (fun i f σ=>f 1=.int .i64 (d:Int)∧f 2=.ptr 0 0∧f 7=.int .i64 (i:Int)∧σ=[.cells [.int .i64 4,.int .i64 0,.str t,.isl (GV.encs l) false] 0 false]∧∀ j,(hj:j<l.length)→j<i→rightV (d - 1) l[j]=true) ?_ _ _ ?_
  ·rintro i f σ hi ⟨hd1,h2',h7,rfl,hall⟩
   by_cases hlt:i<l.length
   ·have hw:IntKind.i64.wrap ((i:Int)+1)=(i:Int)+1:=wr64 (by omega) (by omega)
    have hwd:IntKind.i64.wrap ((d:Int) - 1)=(d:Int) - 1:=wr64 (by omega) (by omega)
    have e1:l[i]?=some l[i]:=zqF hlt
    have hcl:=fun bs σ=>hc l[i] (zqT hlt) bs σ (by omega)
    simp [hd1,h2',h7,hlt,hw,hwd,hcl]
    refine ⟨fun h j hj hji=>?_,fun h=>?_⟩
    ·by_cases e:j=i
     ·subst e; exact h
     ·exact hall j hj (by omega)
    ·intro _ _ _; exact ⟨_,zqT hlt,h⟩
   ·have he:i=l.length:=by omega
    subst he
    simp [h2',h7]
    refine ⟨h1,by omega,by omega,fun x hx=>?_⟩
    obtain ⟨j,hj,rfl⟩:=zqS hx
    exact hall j hj hj
  ·simp
 ·simp [c137,GV.enc_eq,GV.kind,GV.num,GV.text,GV.items,h0]
theorem deep_rest (d:Nat) (k n:Int) (t:ByteArray) (l:List GV) (hk:k≠2) (hk4:k≠4) (ht:t.size≤100000000000):pureT T c137 [(GV.mk k n t l).enc,.int .i64 d]=some (.bool (rightV d (GV.mk k n t l))):=by
 apply pure_enter (by simp [c137])
 have hc:=refName_call t ht
 have hr:rightV d (GV.mk k n t l)=(if k=1 then decide (t=⟨#[]⟩∧l=[]∧n≤2147483647∧-2147483647≤n) else if k=3 then decide (n=0∧l=[]∧nameOK t=true) else false):=by
  rw [Bool.eq_iff_iff]; cases d <;> simp [rightV,rightB,GV.kind,GV.num,GV.text,GV.items,hk,hk4] <;> split <;> simp
 rw [hr]
 by_cases h1:k=1
 ·subst h1
  simp [c137,GV.enc_eq,GV.kind,GV.num,GV.text,GV.items,encs_nil]
  grind
 ·by_cases h0:n=0
  ·by_cases h3:k=3
   ·subst h3
    simp [c137,GV.enc_eq,GV.kind,GV.num,GV.text,GV.items,encs_nil,h0,hc]
    grind
   ·simp [c137,GV.enc_eq,GV.kind,GV.num,GV.text,GV.items,encs_nil,h0,h1,h3,hk,hk4]
  ·simp [c137,GV.enc_eq,GV.kind,GV.num,GV.text,GV.items,encs_nil,h0,h1]
theorem deep_ok:∀ (d:Nat) (v:GV),d≤100→v.size≤100000000000→pureT T c137 [v.enc,.int .i64 d]=some (.bool (rightV d v)):=by
 intro d
 induction d with
 | zero=>
  intro v hd hs
  obtain ⟨k,n,t,l⟩:=v
  simp only [GV.size] at hs
  have hl:=len_sizes l
  by_cases h2:k=2
  ·subst h2; exact deep_text _ _ _ _ _ (by omega) (by omega)
  by_cases h4:k=4
  ·subst h4; exact deep_list 0 _ _ _ (by omega) (by omega) (by omega) (fun x hx bs σ h=>by omega)
  exact deep_rest _ _ _ _ _ h2 h4 (by omega)
 | succ d ih=>
  intro v hd hs
  obtain ⟨k,n,t,l⟩:=v
  simp only [GV.size] at hs
  have hl:=len_sizes l
  by_cases h2:k=2
  ·subst h2; exact deep_text _ _ _ _ _ (by omega) (by omega)
  by_cases h4:k=4
  ·subst h4
   refine deep_list (d+1) _ _ _ (by omega) (by omega) (by omega) (fun x hx bs σ h=>?_)
   have:=ih x (by omega) (by have:=(sizes_mem hx).1; omega)
   have e:(((d+1:Nat):Int) - 1)=(d:Int):=by omega
   rw [e]
   exact call_clean rfl rfl rfl (by simp) this
  exact deep_rest _ _ _ _ _ h2 h4 (by omega)
abbrev rightT (v:GV):Bool:=rightV 4 v
theorem valRight_ok (v:GV) (hs:v.size≤100000000000):pureT T c98 [v.enc]=some (.bool (rightT v)):=by
 have hr:∀ bs σ,callT T 126 [v.enc,.int .i64 4] bs σ=some (.bool (sym (rightT v)),σ):=fun bs σ=>call_clean rfl rfl rfl (by simp) (right_ok 4 v (by omega) hs)
 apply pure_enter (by simp [c98])
 simp [c98,hr]
theorem valRight (v:GV) (hs:v.size≤100000000000) (bs:Nat) (σ:Heap):callT T 98 [v.enc] bs σ=some (.bool (sym (rightT v)),σ):=call_clean rfl rfl rfl (by simp) (valRight_ok v hs)
theorem refRight_ok (v:GV) (hs:v.size≤100000000000):pureT T c118 [v.enc]=some (.bool (rightT v)):=by
 have hr:∀ bs σ,callT T 137 [v.enc,.int .i64 4] bs σ=some (.bool (sym (rightT v)),σ):=fun bs σ=>call_clean rfl rfl rfl (by simp) (deep_ok 4 v (by omega) hs)
 apply pure_enter (by simp [c118])
 simp [c118,hr]
theorem refRight (v:GV) (hs:v.size≤100000000000) (bs:Nat) (σ:Heap):callT T 118 [v.enc] bs σ=some (.bool (sym (rightT v)),σ):=call_clean rfl rfl rfl (by simp) (refRight_ok v hs)
end Go.Proofs.YtjfgjnlocadpbaaGreatDoor
end
