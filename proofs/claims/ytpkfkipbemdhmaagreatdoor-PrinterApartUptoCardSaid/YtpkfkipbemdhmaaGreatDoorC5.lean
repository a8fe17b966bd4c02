import Derived.Test.YtpkfkipbemdhmaaGreatDoorC4
import Derived.Test.YtpkfkipbemdhmaaGreatDoorChecked
import Derived.Test.YtpkfkipbemdhmaaGreatDoorC3
import Derived.KernelRfl
import Derived.WalkKit
import Derived.Lib.Bytealg
import Derived.BigFrameIn
import Derived.Lib.Builder
import Derived.Lib.AppendStr
import Derived.Lib.UnsafeStr
import Derived.Lib.Walk
import Derived.BigRegion
import Derived.Laws.IdiomCopy
import Derived.Laws.Externs
import Derived.Shelf.Small.Strs
import Derived.Shelf.Strconv.Itoa0
import Derived.Shelf.Strconv.Itoa1
import Derived.Shelf.LaysM
import Derived.Shelf.Strconv.Itoa2
import Derived.Shelf.Strconv.Itoa3
import Derived.Test.YtpkfkipbemdhmaaGreatDoorProg
import Derived.Lib.LaidTab
section
namespace Go.Proofs.YtpkfkipbemdhmaaGreatDoor
open Go.Mach
def c64 : AFunc := ⟨5, [.cell 2 4 true], .seq (.region [ ⟨some 2, .alloc [.int .i64 0, .int .i64 0, .str ⟨#[]⟩, .isl [] true], none, []⟩]) ( .seq (.region [ ⟨some 3, .mv (.t 0), none, []⟩, ⟨some 4, .build [.int .i64 0, .int .i64 0, .str ⟨#[]⟩, .isl [] true] [(0, 1, .c (.int .i64 1)), (1, 1, .t 3)], none, []⟩, ⟨none, .store 4 (.t 2) (.t 4), none, []⟩]) ( .ret)), .pure, true, true⟩
theorem k64 : compF Tryz.prog { mt := false, mtAt := [], mode := .pure, clArgs := true, clRes := true } Tryz.f64 = some c64 := by kernel_rfl
def c65 : AFunc := ⟨25, [.tmp 4], .seq (.region [ ⟨some 4, .mv (.c (.str ⟨#[]⟩)), none, []⟩]) ( .seq (.region [ ⟨some 5, .mv (.c (.str ⟨#[]⟩)), none, []⟩]) ( .seq (.seq (.region [ ⟨some 6, .mv (.c (.int .i64 0)), none, []⟩]) ( .block 0 ( .loop ( .seq (.seq (.region [ ⟨some 7, .mv (.t 6), none, []⟩, ⟨some 8, .mv (.t 0), none, []⟩, ⟨some 9, .len false (.t 8), none, []⟩, ⟨some 10, .bin .lss (.t 7) (.t 9), none, []⟩]) ( .cond (.t 10) ( .skip) ( .exit 0))) ( .seq (.block 1 ( .seq (.seq (.region [ ⟨some 13, .mv (.t 6), none, []⟩, ⟨some 14, .bin .gtr (.t 13) (.c (.int .i64 0)), none, []⟩]) ( .cond (.t 14) ( .region [ ⟨some 15, .mv (.t 5), none, []⟩, ⟨some 16, .mv (.t 1), none, []⟩, ⟨some 17, .bin .add (.t 15) (.t 16), none, []⟩, ⟨some 5, .mv (.t 17), none, []⟩]) ( .skip))) ( .region [ ⟨some 18, .mv (.t 5), none, []⟩, ⟨some 19, .mv (.t 0), none, []⟩, ⟨some 20, .mv (.t 6), none, []⟩, ⟨some 21, .iaddrS 1 (.t 19) (.t 20), none, []⟩, ⟨some 22, .load 1 false (.t 21), none, []⟩, ⟨some 23, .bin .add (.t 18) (.t 22), none, []⟩, ⟨some 5, .mv (.t 23), none, []⟩]))) ( .region [ ⟨some 11, .mv (.t 6), none, []⟩, ⟨some 12, .bin .add (.t 11) (.c (.int .i64 1)), none, []⟩, ⟨some 6, .mv (.t 12), none, []⟩])))))) ( .seq (.region [ ⟨some 24, .mv (.t 5), none, []⟩, ⟨some 4, .mv (.t 24), none, []⟩]) ( .ret)))), .pure, true, true⟩
theorem k65 : compF Tryz.prog { mt := false, mtAt := [], mode := .pure, clArgs := true, clRes := true } Tryz.f65 = some c65 := by kernel_rfl
def c66 : AFunc := ⟨20, [.tmp 2], .seq (.region [ ⟨some 2, .mv (.c (.isl [] true)), none, []⟩]) ( .seq (.region [ ⟨some 3, .mv (.c (.isl [] true)), none, []⟩]) ( .seq (.seq (.region [ ⟨some 4, .mv (.c (.int .i64 0)), none, []⟩]) ( .block 0 ( .loop ( .seq (.seq (.region [ ⟨some 5, .mv (.t 4), none, []⟩, ⟨some 6, .mv (.t 0), none, []⟩, ⟨some 7, .len false (.t 6), none, []⟩, ⟨some 8, .bin .lss (.t 5) (.t 7), none, []⟩]) ( .cond (.t 8) ( .skip) ( .exit 0))) ( .seq (.block 1 ( .region [ ⟨some 11, .mv (.t 3), none, []⟩, ⟨some 12, .mv (.t 0), none, []⟩, ⟨some 13, .mv (.t 4), none, []⟩, ⟨some 14, .iaddrS 7 (.t 12) (.t 13), none, []⟩, ⟨some 15, .load 7 true (.t 14), none, []⟩, ⟨some 16, .call 69 [.t 15], none, []⟩, ⟨some 17, .buildSl 1 1 false [.str ⟨#[]⟩] [(0, 1, .t 16)], none, []⟩, ⟨some 18, .append 1 false 16 true (.t 11) (.t 17), none, []⟩, ⟨some 3, .mv (.t 18), none, []⟩])) ( .region [ ⟨some 9, .mv (.t 4), none, []⟩, ⟨some 10, .bin .add (.t 9) (.c (.int .i64 1)), none, []⟩, ⟨some 4, .mv (.t 10), none, []⟩])))))) ( .seq (.region [ ⟨some 19, .mv (.t 3), none, []⟩, ⟨some 2, .mv (.t 19), none, []⟩]) ( .ret)))), .raw, true, false⟩
theorem k66 : compF Tryz.prog { mt := true, mtAt := [], mode := .raw, clArgs := true, clRes := false } Tryz.f66 = some c66 := by kernel_rfl
def c67 : AFunc := ⟨61, [.tmp 2], .seq (.region [ ⟨some 1, .box (.t 0), none, []⟩, ⟨some 2, .mv (.c (.bool false)), none, []⟩]) ( .seq (.seq (.region [ ⟨some 9, .faddr 0 (.t 1), none, []⟩, ⟨some 10, .load 1 false (.t 9), none, []⟩]) ( .block 0 ( .seq (.seq (.region [ ⟨some 12, .bin .eql (.t 10) (.c (.int .i64 1)), none, []⟩, ⟨some 11, .mv (.t 12), none, []⟩]) ( .cond (.t 11) ( .skip) ( .region [ ⟨some 13, .bin .eql (.t 10) (.c (.int .i64 2)), none, []⟩, ⟨some 11, .mv (.t 13), none, []⟩]))) ( .cond (.t 11) ( .seq (.region [ ⟨some 14, .faddr 1 (.t 1), none, []⟩, ⟨some 15, .load 1 false (.t 14), none, []⟩, ⟨some 16, .call 60 [.t 15], none, []⟩, ⟨some 3, .mv (.t 16), none, []⟩]) ( .seq (.region [ ⟨some 17, .faddr 2 (.t 1), none, []⟩, ⟨some 18, .load 1 false (.t 17), none, []⟩, ⟨some 19, .call 103 [.t 18], none, []⟩, ⟨some 4, .mv (.t 19), none, []⟩]) ( .seq (.region [ ⟨some 20, .mv (.t 3), none, []⟩, ⟨some 21, .mv (.t 20), none, []⟩, ⟨some 22, .mv (.t 4), (some (21, true)), []⟩, ⟨some 23, .pick (.t 21) (.t 22) (.c (.bool false)), none, []⟩, ⟨some 2, .mv (.t 23), none, []⟩]) ( .ret)))) ( .seq (.region [ ⟨some 25, .bin .eql (.t 10) (.c (.int .i64 3)), none, []⟩, ⟨some 24, .mv (.t 25), none, []⟩]) ( .cond (.t 24) ( .seq (.region [ ⟨some 26, .buildSl 6 1 false [.str ⟨#[]⟩, .str ⟨#[]⟩, .str ⟨#[]⟩, .str ⟨#[]⟩, .str ⟨#[]⟩, .str ⟨#[]⟩] [(0, 1, .c (.str ⟨#[61, 61]⟩)), (1, 1, .c (.str ⟨#[33, 61]⟩)), (2, 1, .c (.str ⟨#[60]⟩)), (3, 1, .c (.str ⟨#[60, 61]⟩)), (4, 1, .c (.str ⟨#[62]⟩)), (5, 1, .c (.str ⟨#[62, 61]⟩))], none, []⟩, ⟨some 27, .faddr 1 (.t 1), none, []⟩, ⟨some 28, .load 1 false (.t 27), none, []⟩, ⟨some 29, .call 104 [.t 26, .t 28], none, []⟩, ⟨some 5, .mv (.t 29), none, []⟩]) ( .seq (.region [ ⟨some 30, .faddr 2 (.t 1), none, []⟩, ⟨some 31, .load 1 false (.t 30), none, []⟩, ⟨some 32, .call 106 [.t 31], none, []⟩, ⟨some 6, .mv (.t 32), none, []⟩]) ( .seq (.region [ ⟨some 33, .mv (.t 5), none, []⟩, ⟨some 34, .mv (.t 33), none, []⟩, ⟨some 35, .mv (.t 6), (some (34, true)), []⟩, ⟨some 36, .pick (.t 34) (.t 35) (.c (.bool false)), none, []⟩, ⟨some 37, .mv (.t 36), none, []⟩, ⟨some 38, .faddr 2 (.t 1), (some (37, true)), []⟩, ⟨some 39, .load 1 false (.t 38), (some (37, true)), []⟩, ⟨some 40, .len false (.t 39), (some (37, true)), []⟩, ⟨some 41, .bin .eql (.t 40) (.c (.int .i64 2)), (some (37, true)), []⟩, ⟨some 42, .pick (.t 37) (.t 41) (.c (.bool false)), none, []⟩, ⟨some 2, .mv (.t 42), none, []⟩]) ( .ret)))) ( .seq (.region [ ⟨some 44, .bin .eql (.t 10) (.c (.int .i64 4)), none, []⟩, ⟨some 43, .mv (.t 44), none, []⟩]) ( .cond (.t 43) ( .seq (.region [ ⟨some 45, .faddr 1 (.t 1), none, []⟩, ⟨some 46, .load 1 false (.t 45), none, []⟩, ⟨some 47, .call 107 [.t 46], none, []⟩, ⟨some 7, .mv (.t 47), none, []⟩]) ( .seq (.region [ ⟨some 48, .faddr 2 (.t 1), none, []⟩, ⟨some 49, .load 1 false (.t 48), none, []⟩, ⟨some 50, .call 106 [.t 49], none, []⟩, ⟨some 8, .mv (.t 50), none, []⟩]) ( .seq (.region [ ⟨some 51, .mv (.t 7), none, []⟩, ⟨some 52, .mv (.t 51), none, []⟩, ⟨some 53, .mv (.t 8), (some (52, true)), []⟩, ⟨some 54, .pick (.t 52) (.t 53) (.c (.bool false)), none, []⟩, ⟨some 55, .mv (.t 54), none, []⟩, ⟨some 56, .faddr 2 (.t 1), (some (55, true)), []⟩, ⟨some 57, .load 1 false (.t 56), (some (55, true)), []⟩, ⟨some 58, .len false (.t 57), (some (55, true)), []⟩, ⟨some 59, .bin .eql (.t 58) (.c (.int .i64 1)), (some (55, true)), []⟩, ⟨some 60, .pick (.t 55) (.t 59) (.c (.bool false)), none, []⟩, ⟨some 2, .mv (.t 60), none, []⟩]) ( .ret)))) ( .skip))))))))) ( .seq (.region [ ⟨some 2, .mv (.c (.bool false)), none, []⟩]) ( .ret))), .pure, true, true⟩
theorem k67 : compF Tryz.prog { mt := false, mtAt := [], mode := .pure, clArgs := true, clRes := true } Tryz.f67 = some c67 := by kernel_rfl
def c68 : AFunc := ⟨111, [.tmp 4], .seq (.region [ ⟨some 2, .box (.t 0), none, []⟩, ⟨some 4, .mv (.c (.bool false)), none, []⟩]) ( .seq (.seq (.region [ ⟨some 12, .mv (.t 1), none, []⟩, ⟨some 13, .bin .lss (.t 12) (.c (.int .i64 1)), none, []⟩]) ( .cond (.t 13) ( .seq (.region [ ⟨some 4, .mv (.c (.bool false)), none, []⟩]) ( .ret)) ( .skip))) ( .seq (.seq (.region [ ⟨some 14, .faddr 0 (.t 2), none, []⟩, ⟨some 15, .load 1 false (.t 14), none, []⟩]) ( .block 0 ( .seq (.region [ ⟨some 17, .bin .eql (.t 15) (.c (.int .i64 1)), none, []⟩, ⟨some 16, .mv (.t 17), none, []⟩]) ( .cond (.t 16) ( .seq (.region [ ⟨some 18, .faddr 1 (.t 2), none, []⟩, ⟨some 19, .load 1 false (.t 18), none, []⟩, ⟨some 20, .call 107 [.t 19], none, []⟩, ⟨some 5, .mv (.t 20), none, []⟩]) ( .seq (.region [ ⟨some 21, .faddr 2 (.t 2), none, []⟩, ⟨some 22, .load 4 true (.t 21), none, []⟩, ⟨some 23, .call 108 [.t 22], none, []⟩, ⟨some 6, .mv (.t 23), none, []⟩]) ( .seq (.region [ ⟨some 24, .mv (.t 5), none, []⟩, ⟨some 25, .mv (.t 24), none, []⟩, ⟨some 26, .mv (.t 6), (some (25, true)), []⟩, ⟨some 27, .pick (.t 25) (.t 26) (.c (.bool false)), none, []⟩, ⟨some 28, .mv (.t 27), none, []⟩, ⟨some 29, .faddr 6 (.t 2), (some (28, true)), []⟩, ⟨some 30, .load 1 false (.t 29), (some (28, true)), []⟩, ⟨some 31, .len false (.t 30), (some (28, true)), []⟩, ⟨some 32, .bin .eql (.t 31) (.c (.int .i64 0)), (some (28, true)), []⟩, ⟨some 33, .pick (.t 28) (.t 32) (.c (.bool false)), none, []⟩, ⟨some 4, .mv (.t 33), none, []⟩]) ( .ret)))) ( .seq (.region [ ⟨some 35, .bin .eql (.t 15) (.c (.int .i64 2)), none, []⟩, ⟨some 34, .mv (.t 35), none, []⟩]) ( .cond (.t 34) ( .seq (.region [ ⟨some 36, .faddr 2 (.t 2), none, []⟩, ⟨some 37, .load 4 true (.t 36), none, []⟩, ⟨some 38, .call 102 [.t 37], none, []⟩, ⟨some 7, .mv (.t 38), none, []⟩]) ( .seq (.region [ ⟨some 39, .mv (.t 7), none, []⟩, ⟨some 40, .mv (.t 39), none, []⟩, ⟨some 41, .faddr 1 (.t 2), (some (40, true)), []⟩, ⟨some 42, .load 1 false (.t 41), (some (40, true)), []⟩, ⟨some 43, .bin .eql (.t 42) (.c (.str ⟨#[]⟩)), (some (40, true)), []⟩, ⟨some 44, .pick (.t 40) (.t 43) (.c (.bool false)), none, []⟩, ⟨some 45, .mv (.t 44), none, []⟩, ⟨some 46, .faddr 6 (.t 2), (some (45, true)), []⟩, ⟨some 47, .load 1 false (.t 46), (some (45, true)), []⟩, ⟨some 48, .len false (.t 47), (some (45, true)), []⟩, ⟨some 49, .bin .eql (.t 48) (.c (.int .i64 0)), (some (45, true)), []⟩, ⟨some 50, .pick (.t 45) (.t 49) (.c (.bool false)), none, []⟩, ⟨some 51, .mv (.t 50), none, []⟩, ⟨some 52, .faddr 2 (.t 2), (some (51, true)), []⟩, ⟨some 53, .faddr 0 (.t 52), (some (51, true)), []⟩, ⟨some 54, .load 1 false (.t 53), (some (51, true)), []⟩, ⟨some 55, .bin .eql (.t 54) (.c (.int .i64 3)), (some (51, true)), []⟩, ⟨some 56, .mv (.t 55), (some (51, true)), []⟩, ⟨some 57, .faddr 2 (.t 2), (some (56, true)), []⟩, ⟨some 58, .faddr 2 (.t 57), (some (56, true)), []⟩, ⟨some 59, .load 1 false (.t 58), (some (56, true)), []⟩, ⟨some 60, .call 49 [.t 59], (some (56, true)), []⟩, ⟨some 61, .bin .geq (.t 60) (.c (.int .i64 0)), (some (56, true)), []⟩, ⟨some 62, .pick (.t 56) (.t 61) (.c (.bool false)), (some (51, true)), []⟩, ⟨some 63, .un .not (.t 62), (some (51, true)), []⟩, ⟨some 64, .pick (.t 51) (.t 63) (.c (.bool false)), none, []⟩, ⟨some 4, .mv (.t 64), none, []⟩]) ( .ret))) ( .seq (.region [ ⟨some 66, .bin .eql (.t 15) (.c (.int .i64 3)), none, []⟩, ⟨some 65, .mv (.t 66), none, []⟩]) ( .cond (.t 65) ( .seq (.region [ ⟨some 67, .faddr 1 (.t 2), none, []⟩, ⟨some 68, .load 1 false (.t 67), none, []⟩, ⟨some 70, .faddr 6 (.t 2), none, []⟩, ⟨some 71, .load 1 false (.t 70), none, []⟩, ⟨some 72, .len false (.t 71), none, []⟩, ⟨some 69, .call 49 [.t 68], none, [.t 70]⟩, ⟨some 73, .bin .neq (.t 69) (.t 72), none, []⟩]) ( .cond (.t 73) ( .seq (.region [ ⟨some 4, .mv (.c (.bool false)), none, []⟩]) ( .ret)) ( .skip))) ( .seq (.region [ ⟨some 75, .bin .eql (.t 15) (.c (.int .i64 4)), none, []⟩, ⟨some 74, .mv (.t 75), none, []⟩]) ( .cond (.t 74) ( .seq (.region [ ⟨some 76, .buildSl 3 1 false [.str ⟨#[]⟩, .str ⟨#[]⟩, .str ⟨#[]⟩] [(0, 1, .c (.str ⟨#[43]⟩)), (1, 1, .c (.str ⟨#[45]⟩)), (2, 1, .c (.str ⟨#[42]⟩))], none, []⟩, ⟨some 77, .faddr 1 (.t 2), none, []⟩, ⟨some 78, .load 1 false (.t 77), none, []⟩, ⟨some 79, .call 104 [.t 76, .t 78], none, []⟩, ⟨some 8, .mv (.t 79), none, []⟩]) ( .seq (.region [ ⟨some 80, .mv (.t 8), none, []⟩, ⟨some 81, .un .not (.t 80), none, []⟩, ⟨some 82, .mv (.t 81), none, []⟩, ⟨some 83, .faddr 6 (.t 2), (some (82, false)), []⟩, ⟨some 84, .load 1 false (.t 83), (some (82, false)), []⟩, ⟨some 85, .len false (.t 84), (some (82, false)), []⟩, ⟨some 86, .bin .neq (.t 85) (.c (.int .i64 2)), (some (82, false)), []⟩, ⟨some 87, .pick (.t 82) (.c (.bool true)) (.t 86), none, []⟩]) ( .cond (.t 87) ( .seq (.region [ ⟨some 4, .mv (.c (.bool false)), none, []⟩]) ( .ret)) ( .skip)))) ( .seq (.region [ ⟨some 4, .mv (.c (.bool false)), none, []⟩]) ( .ret)))))))))))) ( .seq (.region [ ⟨some 88, .faddr 2 (.t 2), none, []⟩, ⟨some 89, .load 4 true (.t 88), none, []⟩, ⟨some 90, .call 108 [.t 89], none, []⟩, ⟨some 9, .mv (.t 90), none, []⟩]) ( .seq (.seq (.region [ ⟨some 10, .mv (.c (.int .i64 0)), none, []⟩]) ( .block 1 ( .loop ( .seq (.seq (.region [ ⟨some 91, .mv (.t 10), none, []⟩, ⟨some 92, .faddr 6 (.t 2), none, []⟩, ⟨some 93, .load 1 false (.t 92), none, []⟩, ⟨some 94, .len false (.t 93), none, []⟩, ⟨some 95, .bin .lss (.t 91) (.t 94), none, []⟩]) ( .cond (.t 95) ( .skip) ( .exit 1))) ( .seq (.block 2 ( .seq (.region [ ⟨some 98, .faddr 6 (.t 2), none, []⟩, ⟨some 99, .load 1 false (.t 98), none, []⟩, ⟨some 100, .mv (.t 10), none, []⟩, ⟨some 101, .iaddrS 7 (.t 99) (.t 100), none, []⟩, ⟨some 102, .load 7 true (.t 101), none, []⟩, ⟨some 103, .mv (.t 1), none, []⟩, ⟨some 104, .bin .sub (.t 103) (.c (.int .i64 1)), none, []⟩, ⟨some 105, .call 68 [.t 102, .t 104], none, []⟩, ⟨some 11, .mv (.t 105), none, []⟩]) ( .region [ ⟨some 106, .mv (.t 9), none, []⟩, ⟨some 107, .mv (.t 106), none, []⟩, ⟨some 108, .mv (.t 11), (some (107, true)), []⟩, ⟨some 109, .pick (.t 107) (.t 108) (.c (.bool false)), none, []⟩, ⟨some 9, .mv (.t 109), none, []⟩]))) ( .region [ ⟨some 96, .mv (.t 10), none, []⟩, ⟨some 97, .bin .add (.t 96) (.c (.int .i64 1)), none, []⟩, ⟨some 10, .mv (.t 97), none, []⟩])))))) ( .seq (.region [ ⟨some 110, .mv (.t 9), none, []⟩, ⟨some 4, .mv (.t 110), none, []⟩]) ( .ret)))))), .pure, true, true⟩
theorem k68 : compF Tryz.prog { mt := false, mtAt := [], mode := .pure, clArgs := true, clRes := true } Tryz.f68 = some c68 := by kernel_rfl
def c69 : AFunc := ⟨33, [.tmp 2], .seq (.region [ ⟨some 1, .box (.t 0), none, []⟩, ⟨some 2, .mv (.c (.str ⟨#[]⟩)), none, []⟩]) ( .seq (.seq (.region [ ⟨some 3, .faddr 0 (.t 1), none, []⟩, ⟨some 4, .load 1 false (.t 3), none, []⟩]) ( .block 0 ( .seq (.region [ ⟨some 6, .bin .eql (.t 4) (.c (.int .i64 1)), none, []⟩, ⟨some 5, .mv (.t 6), none, []⟩]) ( .cond (.t 5) ( .seq (.region [ ⟨some 7, .faddr 1 (.t 1), none, []⟩, ⟨some 8, .load 1 false (.t 7), none, []⟩, ⟨some 2, .mv (.t 8), none, []⟩]) ( .ret)) ( .seq (.region [ ⟨some 10, .bin .eql (.t 4) (.c (.int .i64 2)), none, []⟩, ⟨some 9, .mv (.t 10), none, []⟩]) ( .cond (.t 9) ( .seq (.region [ ⟨some 11, .faddr 2 (.t 1), none, []⟩, ⟨some 12, .load 4 true (.t 11), none, []⟩, ⟨some 13, .call 63 [.t 12], none, []⟩, ⟨some 2, .mv (.t 13), none, []⟩]) ( .ret)) ( .seq (.region [ ⟨some 15, .bin .eql (.t 4) (.c (.int .i64 3)), none, []⟩, ⟨some 14, .mv (.t 15), none, []⟩]) ( .cond (.t 14) ( .seq (.region [ ⟨some 16, .faddr 1 (.t 1), none, []⟩, ⟨some 17, .load 1 false (.t 16), none, []⟩, ⟨some 18, .bin .add (.t 17) (.c (.str ⟨#[40]⟩)), none, []⟩, ⟨some 19, .faddr 6 (.t 1), none, []⟩, ⟨some 20, .load 1 false (.t 19), none, []⟩, ⟨some 21, .call 66 [.t 20], none, [.t 16]⟩, ⟨some 22, .call 65 [.t 21, .c (.str ⟨#[44]⟩)], none, [.t 16]⟩, ⟨some 23, .bin .add (.t 18) (.t 22), none, []⟩, ⟨some 24, .bin .add (.t 23) (.c (.str ⟨#[41]⟩)), none, []⟩, ⟨some 2, .mv (.t 24), none, []⟩]) ( .ret)) ( .skip))))))))) ( .seq (.region [ ⟨some 25, .faddr 6 (.t 1), none, []⟩, ⟨some 26, .load 1 false (.t 25), none, []⟩, ⟨some 28, .faddr 1 (.t 1), none, []⟩, ⟨some 29, .load 1 false (.t 28), none, []⟩, ⟨some 27, .call 66 [.t 26], none, [.t 28]⟩, ⟨some 30, .call 65 [.t 27, .t 29], none, []⟩, ⟨some 31, .bin .add (.c (.str ⟨#[40]⟩)) (.t 30), none, []⟩, ⟨some 32, .bin .add (.t 31) (.c (.str ⟨#[41]⟩)), none, []⟩, ⟨some 2, .mv (.t 32), none, []⟩]) ( .ret))), .pure, true, true⟩
theorem k69 : compF Tryz.prog { mt := false, mtAt := [], mode := .pure, clArgs := true, clRes := true } Tryz.f69 = some c69 := by kernel_rfl
def c70 : AFunc := ⟨44, [.tmp 2], .seq (.region [ ⟨some 2, .mv (.c (.str ⟨#[]⟩)), none, []⟩]) ( .seq (.region [ ⟨some 6, .mv (.t 0), none, []⟩, ⟨some 7, .mv (.t 0), none, []⟩, ⟨some 8, .len true (.t 7), none, []⟩, ⟨some 9, .min2 (.t 8) (.c (.int .i64 15)), none, []⟩, ⟨some 10, .strSl (.t 6) none (some (.t 9)), none, []⟩, ⟨some 11, .bin .add (.c (.str ⟨#[110]⟩)) (.t 10), none, []⟩, ⟨some 12, .s2b (.t 11), none, []⟩, ⟨some 3, .mv (.t 12), none, []⟩]) ( .seq (.seq (.region [ ⟨some 4, .mv (.c (.int .i64 1)), none, []⟩]) ( .block 0 ( .loop ( .seq (.seq (.region [ ⟨some 13, .mv (.t 4), none, []⟩, ⟨some 14, .mv (.t 3), none, []⟩, ⟨some 15, .len false (.t 14), none, []⟩, ⟨some 16, .bin .lss (.t 13) (.t 15), none, []⟩]) ( .cond (.t 16) ( .skip) ( .exit 0))) ( .seq (.block 1 ( .seq (.region [ ⟨some 19, .mv (.t 3), none, []⟩, ⟨some 20, .mv (.t 4), none, []⟩, ⟨some 21, .iaddrS 1 (.t 19) (.t 20), none, []⟩, ⟨some 22, .load 1 false (.t 21), none, []⟩, ⟨some 23, .bin .rem (.t 22) (.c (.int .u8 37)), none, []⟩, ⟨some 5, .mv (.t 23), none, []⟩]) ( .seq (.region [ ⟨some 24, .mv (.t 5), none, []⟩, ⟨some 25, .bin .lss (.t 24) (.c (.int .u8 26)), none, []⟩]) ( .cond (.t 25) ( .region [ ⟨some 26, .mv (.t 3), none, []⟩, ⟨some 27, .mv (.t 4), none, []⟩, ⟨some 28, .mv (.t 5), none, []⟩, ⟨some 29, .bin .add (.c (.int .u8 97)) (.t 28), none, []⟩, ⟨some 30, .iaddrS 1 (.t 26) (.t 27), none, []⟩, ⟨none, .store 1 (.t 30) (.t 29), none, []⟩]) ( .seq (.region [ ⟨some 31, .mv (.t 5), none, []⟩, ⟨some 32, .bin .lss (.t 31) (.c (.int .u8 36)), none, []⟩]) ( .cond (.t 32) ( .region [ ⟨some 33, .mv (.t 3), none, []⟩, ⟨some 34, .mv (.t 4), none, []⟩, ⟨some 35, .mv (.t 5), none, []⟩, ⟨some 36, .bin .add (.c (.int .u8 48)) (.t 35), none, []⟩, ⟨some 37, .bin .sub (.t 36) (.c (.int .u8 26)), none, []⟩, ⟨some 38, .iaddrS 1 (.t 33) (.t 34), none, []⟩, ⟨none, .store 1 (.t 38) (.t 37), none, []⟩]) ( .region [ ⟨some 39, .mv (.t 3), none, []⟩, ⟨some 40, .mv (.t 4), none, []⟩, ⟨some 41, .iaddrS 1 (.t 39) (.t 40), none, []⟩, ⟨none, .store 1 (.t 41) (.c (.int .u8 95)), none, []⟩]))))))) ( .region [ ⟨some 17, .mv (.t 4), none, []⟩, ⟨some 18, .bin .add (.t 17) (.c (.int .i64 1)), none, []⟩, ⟨some 4, .mv (.t 18), none, []⟩])))))) ( .seq (.region [ ⟨some 42, .mv (.t 3), none, []⟩, ⟨some 43, .b2s (.t 42), none, []⟩, ⟨some 2, .mv (.t 43), none, []⟩]) ( .ret)))), .pure, true, true⟩
theorem k70 : compF Tryz.prog { mt := false, mtAt := [], mode := .pure, clArgs := true, clRes := true } Tryz.f70 = some c70 := by kernel_rfl
def c71 : AFunc := ⟨107, [.cell 4 4 true], .seq (.region [ ⟨some 2, .box (.t 0), none, []⟩, ⟨some 4, .alloc [.int .i64 0, .int .i64 0, .str ⟨#[]⟩, .isl [] true], none, []⟩]) ( .seq (.seq (.region [ ⟨some 11, .faddr 0 (.t 2), none, []⟩, ⟨some 12, .load 1 false (.t 11), none, []⟩, ⟨some 13, .call 109 [.t 12, .c (.int .i64 4)], none, []⟩]) ( .block 0 ( .seq (.region [ ⟨some 15, .bin .eql (.t 13) (.c (.int .i64 0)), none, []⟩, ⟨some 14, .mv (.t 15), none, []⟩]) ( .cond (.t 14) ( .seq (.region [ ⟨some 16, .faddr 1 (.t 2), none, []⟩, ⟨some 17, .load 1 false (.t 16), none, []⟩, ⟨some 18, .call 109 [.t 17, .c (.int .i64 4294967295)], none, []⟩, ⟨some 19, .bin .sub (.t 18) (.c (.int .i64 2147483647)), none, []⟩, ⟨some 5, .mv (.t 19), none, []⟩]) ( .seq (.region [ ⟨some 20, .mv (.t 5), none, []⟩, ⟨some 21, .build [.int .i64 0, .int .i64 0, .str ⟨#[]⟩, .isl [] true] [(0, 1, .c (.int .i64 1)), (1, 1, .t 20)], none, []⟩, ⟨none, .store 4 (.t 4) (.t 21), none, []⟩]) ( .ret))) ( .seq (.region [ ⟨some 23, .bin .eql (.t 13) (.c (.int .i64 1)), none, []⟩, ⟨some 22, .mv (.t 23), none, []⟩]) ( .cond (.t 22) ( .seq (.region [ ⟨some 24, .faddr 2 (.t 2), none, []⟩, ⟨some 25, .load 1 false (.t 24), none, []⟩, ⟨some 26, .faddr 2 (.t 2), none, []⟩, ⟨some 27, .load 1 false (.t 26), none, []⟩, ⟨some 28, .len true (.t 27), none, []⟩, ⟨some 29, .min2 (.t 28) (.c (.int .i64 32)), none, []⟩, ⟨some 30, .strSl (.t 25) none (some (.t 29)), none, []⟩, ⟨some 31, .s2b (.t 30), none, []⟩, ⟨some 6, .mv (.t 31), none, []⟩]) ( .seq (.seq (.region [ ⟨some 7, .mv (.c (.int .i64 0)), none, []⟩]) ( .block 1 ( .loop ( .seq (.seq (.region [ ⟨some 32, .mv (.t 7), none, []⟩, ⟨some 33, .mv (.t 6), none, []⟩, ⟨some 34, .len false (.t 33), none, []⟩, ⟨some 35, .bin .lss (.t 32) (.t 34), none, []⟩]) ( .cond (.t 35) ( .skip) ( .exit 1))) ( .seq (.block 2 ( .seq (.region [ ⟨some 38, .mv (.t 6), none, []⟩, ⟨some 39, .mv (.t 7), none, []⟩, ⟨some 40, .mv (.t 6), none, []⟩, ⟨some 41, .mv (.t 7), none, []⟩, ⟨some 42, .iaddrS 1 (.t 40) (.t 41), none, []⟩, ⟨some 43, .load 1 false (.t 42), none, []⟩, ⟨some 44, .bin .rem (.t 43) (.c (.int .u8 95)), none, []⟩, ⟨some 45, .bin .add (.c (.int .u8 32)) (.t 44), none, []⟩, ⟨some 46, .iaddrS 1 (.t 38) (.t 39), none, []⟩, ⟨none, .store 1 (.t 46) (.t 45), none, []⟩]) ( .seq (.region [ ⟨some 47, .mv (.t 6), none, []⟩, ⟨some 48, .mv (.t 7), none, []⟩, ⟨some 49, .iaddrS 1 (.t 47) (.t 48), none, []⟩, ⟨some 50, .load 1 false (.t 49), none, []⟩, ⟨some 51, .bin .eql (.t 50) (.c (.int .u8 34)), none, []⟩, ⟨some 52, .mv (.t 51), none, []⟩, ⟨some 53, .mv (.t 6), (some (52, false)), []⟩, ⟨some 54, .mv (.t 7), (some (52, false)), []⟩, ⟨some 55, .iaddrS 1 (.t 53) (.t 54), (some (52, false)), []⟩, ⟨some 56, .load 1 false (.t 55), (some (52, false)), []⟩, ⟨some 57, .bin .eql (.t 56) (.c (.int .u8 92)), (some (52, false)), []⟩, ⟨some 58, .pick (.t 52) (.c (.bool true)) (.t 57), none, []⟩]) ( .cond (.t 58) ( .region [ ⟨some 59, .mv (.t 6), none, []⟩, ⟨some 60, .mv (.t 7), none, []⟩, ⟨some 61, .iaddrS 1 (.t 59) (.t 60), none, []⟩, ⟨none, .store 1 (.t 61) (.c (.int .u8 32)), none, []⟩]) ( .skip))))) ( .region [ ⟨some 36, .mv (.t 7), none, []⟩, ⟨some 37, .bin .add (.t 36) (.c (.int .i64 1)), none, []⟩, ⟨some 7, .mv (.t 37), none, []⟩])))))) ( .seq (.region [ ⟨some 62, .mv (.t 6), none, []⟩, ⟨some 63, .b2s (.t 62), none, []⟩, ⟨some 64, .build [.int .i64 0, .int .i64 0, .str ⟨#[]⟩, .isl [] true] [(0, 1, .c (.int .i64 2)), (2, 1, .t 63)], none, []⟩, ⟨none, .store 4 (.t 4) (.t 64), none, []⟩]) ( .ret)))) ( .seq (.region [ ⟨some 66, .bin .eql (.t 13) (.c (.int .i64 2)), none, []⟩, ⟨some 65, .mv (.t 66), none, []⟩]) ( .cond (.t 65) ( .seq (.region [ ⟨some 67, .faddr 2 (.t 2), none, []⟩, ⟨some 68, .load 1 false (.t 67), none, []⟩, ⟨some 69, .call 70 [.t 68], none, []⟩, ⟨some 70, .build [.int .i64 0, .int .i64 0, .str ⟨#[]⟩, .isl [] true] [(0, 1, .c (.int .i64 3)), (2, 1, .t 69)], none, []⟩, ⟨none, .store 4 (.t 4) (.t 70), none, []⟩]) ( .ret)) ( .skip))))))))) ( .seq (.region [ ⟨some 71, .build [.int .i64 0, .int .i64 0, .str ⟨#[]⟩, .isl [] true] [(0, 1, .c (.int .i64 4))], none, []⟩, ⟨some 8, .alloc [.int .i64 0, .int .i64 0, .str ⟨#[]⟩, .isl [] true], none, []⟩, ⟨none, .store 4 (.t 8) (.t 71), none, []⟩]) ( .seq (.seq (.region [ ⟨some 9, .mv (.c (.int .i64 0)), none, []⟩]) ( .block 3 ( .loop ( .seq (.seq (.region [ ⟨some 72, .mv (.t 9), none, []⟩, ⟨some 73, .faddr 3 (.t 2), none, []⟩, ⟨some 74, .load 1 false (.t 73), none, []⟩, ⟨some 75, .len false (.t 74), none, []⟩, ⟨some 76, .bin .lss (.t 72) (.t 75), none, []⟩, ⟨some 77, .mv (.t 76), none, []⟩, ⟨some 78, .mv (.t 9), (some (77, true)), []⟩, ⟨some 79, .bin .lss (.t 78) (.c (.int .i64 16)), (some (77, true)), []⟩, ⟨some 80, .pick (.t 77) (.t 79) (.c (.bool false)), none, []⟩]) ( .cond (.t 80) ( .skip) ( .exit 3))) ( .seq (.block 4 ( .seq (.region [ ⟨some 83, .faddr 3 (.t 2), none, []⟩, ⟨some 84, .load 1 false (.t 83), none, []⟩, ⟨some 85, .mv (.t 9), none, []⟩, ⟨some 86, .iaddrS 4 (.t 84) (.t 85), none, []⟩, ⟨some 87, .load 4 true (.t 86), none, []⟩, ⟨some 10, .alloc [.int .i64 0, .int .i64 0, .str ⟨#[]⟩, .isl [] true], none, []⟩, ⟨none, .store 4 (.t 10) (.t 87), none, []⟩]) ( .seq (.seq (.region [ ⟨some 88, .mv (.t 1), none, []⟩, ⟨some 89, .bin .leq (.t 88) (.c (.int .i64 1)), none, []⟩, ⟨some 90, .mv (.t 89), none, []⟩, ⟨some 91, .faddr 0 (.t 10), (some (90, true)), []⟩, ⟨some 92, .load 1 false (.t 91), (some (90, true)), []⟩, ⟨some 93, .call 109 [.t 92, .c (.int .i64 4)], (some (90, true)), []⟩, ⟨some 94, .bin .eql (.t 93) (.c (.int .i64 3)), (some (90, true)), []⟩, ⟨some 95, .pick (.t 90) (.t 94) (.c (.bool false)), none, []⟩]) ( .cond (.t 95) ( .region [ ⟨some 96, .faddr 0 (.t 10), none, []⟩, ⟨none, .store 1 (.t 96) (.c (.int .i64 0)), none, []⟩]) ( .skip))) ( .region [ ⟨some 97, .faddr 3 (.t 8), none, []⟩, ⟨some 98, .load 1 false (.t 97), none, []⟩, ⟨some 99, .load 4 true (.t 10), none, []⟩, ⟨some 100, .mv (.t 1), none, []⟩, ⟨some 101, .bin .sub (.t 100) (.c (.int .i64 1)), none, []⟩, ⟨some 102, .call 71 [.t 99, .t 101], none, [.t 97]⟩, ⟨some 103, .buildSl 1 4 true [.int .i64 0, .int .i64 0, .str ⟨#[]⟩, .isl [] true] [(0, 4, .t 102)], none, []⟩, ⟨some 104, .append 4 true 56 false (.t 98) (.t 103), none, []⟩, ⟨some 105, .faddr 3 (.t 8), none, []⟩, ⟨none, .store 1 (.t 105) (.t 104), none, []⟩])))) ( .region [ ⟨some 81, .mv (.t 9), none, []⟩, ⟨some 82, .bin .add (.t 81) (.c (.int .i64 1)), none, []⟩, ⟨some 9, .mv (.t 82), none, []⟩])))))) ( .seq (.region [ ⟨some 106, .load 4 true (.t 8), none, []⟩, ⟨none, .store 4 (.t 4) (.t 106), none, []⟩]) ( .ret))))), .pure, true, true⟩
theorem k71 : compF Tryz.prog { mt := false, mtAt := [], mode := .pure, clArgs := true, clRes := true } Tryz.f71 = some c71 := by kernel_rfl
def c72 : AFunc := ⟨9, [.tmp 4], .seq (.region [ ⟨some 4, .mv (.c (.bool false)), none, []⟩]) ( .seq (.region [ ⟨some 5, .mv (.t 0), none, []⟩, ⟨some 6, .mv (.t 1), none, []⟩, ⟨some 7, .call 110 [.t 5, .t 6], none, []⟩, ⟨some 8, .bin .geq (.t 7) (.c (.int .i64 0)), none, []⟩, ⟨some 4, .mv (.t 8), none, []⟩]) ( .ret)), .gc, false, false⟩
theorem k72 : compF Tryz.prog { mt := false, mtAt := [], mode := .gc, clArgs := false, clRes := false } Tryz.f72 = some c72 := by kernel_rfl
def c73 : AFunc := ⟨8, [.tmp 3], .seq (.region [ ⟨some 2, .box (.t 0), none, []⟩, ⟨some 3, .mv (.c (.bool false)), none, []⟩]) ( .seq (.region [ ⟨some 4, .load 1 false (.t 1), none, []⟩, ⟨some 5, .load 2 true (.t 2), none, []⟩, ⟨some 6, .callv (.t 4) [.t 5], none, []⟩, ⟨some 7, .un .not (.t 6), none, []⟩, ⟨some 3, .mv (.t 7), none, []⟩]) ( .ret)), .gc, false, false⟩
theorem k73 : compF Tryz.prog { mt := false, mtAt := [], mode := .gc, clArgs := false, clRes := false } Tryz.f73 = some c73 := by kernel_rfl
def c74 : AFunc := ⟨9, [.tmp 4], .seq (.region [ ⟨some 3, .box (.t 1), none, []⟩, ⟨some 4, .mv (.c (.bool false)), none, []⟩]) ( .seq (.region [ ⟨some 5, .mv (.t 0), none, []⟩, ⟨some 6, .mkfn 112 [.t 3], none, []⟩, ⟨some 7, .call 111 [.t 5, .t 6], none, []⟩, ⟨some 8, .un .not (.t 7), none, []⟩, ⟨some 4, .mv (.t 8), none, []⟩]) ( .ret)), .gc, false, false⟩
theorem k74 : compF Tryz.prog { mt := false, mtAt := [], mode := .gc, clArgs := false, clRes := false } Tryz.f74 = some c74 := by kernel_rfl
def c75 : AFunc := ⟨5, [.tmp 2], .seq (.region [ ⟨some 1, .box (.t 0), none, []⟩, ⟨some 2, .mv (.c (.bool false)), none, []⟩]) ( .seq (.region [ ⟨some 3, .load 4 true (.t 1), none, []⟩, ⟨some 4, .call 113 [.t 3, .c (.int .i64 4)], none, []⟩, ⟨some 2, .mv (.t 4), none, []⟩]) ( .ret)), .pure, true, true⟩
theorem k75 : compF Tryz.prog { mt := false, mtAt := [], mode := .pure, clArgs := true, clRes := true } Tryz.f75 = some c75 := by kernel_rfl
def c76 : AFunc := ⟨9, [.tmp 4], .seq (.region [ ⟨some 4, .mv (.c (.bool false)), none, []⟩]) ( .seq (.region [ ⟨some 5, .mv (.t 0), none, []⟩, ⟨some 6, .mv (.t 1), none, []⟩, ⟨some 7, .call 114 [.t 5, .t 6], none, []⟩, ⟨some 8, .bin .geq (.t 7) (.c (.int .i64 0)), none, []⟩, ⟨some 4, .mv (.t 8), none, []⟩]) ( .ret)), .gc, false, false⟩
theorem k76 : compF Tryz.prog { mt := false, mtAt := [], mode := .gc, clArgs := false, clRes := false } Tryz.f76 = some c76 := by kernel_rfl
def c77 : AFunc := ⟨8, [.tmp 3], .seq (.region [ ⟨some 2, .box (.t 0), none, []⟩, ⟨some 3, .mv (.c (.bool false)), none, []⟩]) ( .seq (.region [ ⟨some 4, .load 1 false (.t 1), none, []⟩, ⟨some 5, .load 6 true (.t 2), none, []⟩, ⟨some 6, .callv (.t 4) [.t 5], none, []⟩, ⟨some 7, .un .not (.t 6), none, []⟩, ⟨some 3, .mv (.t 7), none, []⟩]) ( .ret)), .gc, false, false⟩
theorem k77 : compF Tryz.prog { mt := false, mtAt := [], mode := .gc, clArgs := false, clRes := false } Tryz.f77 = some c77 := by kernel_rfl
def c78 : AFunc := ⟨36, [.tmp 2], .seq (.region [ ⟨some 2, .mv (.c (.bool false)), none, []⟩]) ( .seq (.seq (.region [ ⟨some 3, .mv (.t 0), none, []⟩, ⟨some 4, .len false (.t 3), none, []⟩, ⟨some 5, .bin .lss (.t 4) (.c (.int .i64 1)), none, []⟩, ⟨some 6, .mv (.t 5), none, []⟩, ⟨some 7, .mv (.t 0), (some (6, false)), []⟩, ⟨some 8, .len false (.t 7), (some (6, false)), []⟩, ⟨some 9, .bin .gtr (.t 8) (.c (.int .i64 8)), (some (6, false)), []⟩, ⟨some 10, .pick (.t 6) (.c (.bool true)) (.t 9), none, []⟩, ⟨some 11, .mv (.t 10), none, []⟩, ⟨some 12, .mv (.t 0), (some (11, false)), []⟩, ⟨some 13, .call 98 [.t 12, .f 52], (some (11, false)), []⟩, ⟨some 14, .un .not (.t 13), (some (11, false)), []⟩, ⟨some 15, .pick (.t 11) (.c (.bool true)) (.t 14), none, []⟩]) ( .cond (.t 15) ( .seq (.region [ ⟨some 2, .mv (.c (.bool false)), none, []⟩]) ( .ret)) ( .skip))) ( .seq (.region [ ⟨some 16, .mv (.t 0), none, []⟩, ⟨some 17, .iaddrS 7 (.t 16) (.c (.int .i64 0)), none, []⟩, ⟨some 18, .faddr 0 (.t 17), none, []⟩, ⟨some 19, .load 1 false (.t 18), none, []⟩, ⟨some 20, .bin .eql (.t 19) (.c (.int .i64 1)), none, []⟩, ⟨some 21, .mv (.t 20), none, []⟩, ⟨some 22, .mv (.t 0), (some (21, false)), []⟩, ⟨some 23, .iaddrS 7 (.t 22) (.c (.int .i64 0)), (some (21, false)), []⟩, ⟨some 24, .faddr 0 (.t 23), (some (21, false)), []⟩, ⟨some 25, .load 1 false (.t 24), (some (21, false)), []⟩, ⟨some 26, .bin .eql (.t 25) (.c (.int .i64 2)), (some (21, false)), []⟩, ⟨some 27, .mv (.t 26), (some (21, false)), []⟩, ⟨some 28, .mv (.t 0), (some (27, true)), []⟩, ⟨some 29, .iaddrS 7 (.t 28) (.c (.int .i64 0)), (some (27, true)), []⟩, ⟨some 30, .faddr 2 (.t 29), (some (27, true)), []⟩, ⟨some 31, .faddr 0 (.t 30), (some (27, true)), []⟩, ⟨some 32, .load 1 false (.t 31), (some (27, true)), []⟩, ⟨some 33, .bin .eql (.t 32) (.c (.int .i64 3)), (some (27, true)), []⟩, ⟨some 34, .pick (.t 27) (.t 33) (.c (.bool false)), (some (21, false)), []⟩, ⟨some 35, .pick (.t 21) (.c (.bool true)) (.t 34), none, []⟩, ⟨some 2, .mv (.t 35), none, []⟩]) ( .ret))), .pure, true, true⟩
theorem k78 : compF Tryz.prog { mt := false, mtAt := [], mode := .pure, clArgs := true, clRes := true } Tryz.f78 = some c78 := by kernel_rfl
def c79 : AFunc := ⟨9, [.tmp 4], .seq (.region [ ⟨some 3, .box (.t 1), none, []⟩, ⟨some 4, .mv (.c (.bool false)), none, []⟩]) ( .seq (.region [ ⟨some 5, .mv (.t 0), none, []⟩, ⟨some 6, .mkfn 116 [.t 3], none, []⟩, ⟨some 7, .call 115 [.t 5, .t 6], none, []⟩, ⟨some 8, .un .not (.t 7), none, []⟩, ⟨some 4, .mv (.t 8), none, []⟩]) ( .ret)), .gc, false, false⟩
theorem k79 : compF Tryz.prog { mt := false, mtAt := [], mode := .gc, clArgs := false, clRes := false } Tryz.f79 = some c79 := by kernel_rfl
def c80 : AFunc := ⟨9, [.tmp 4], .seq (.region [ ⟨some 4, .mv (.c (.bool false)), none, []⟩]) ( .seq (.region [ ⟨some 5, .mv (.t 0), none, []⟩, ⟨some 6, .mv (.t 1), none, []⟩, ⟨some 7, .call 117 [.t 5, .t 6], none, []⟩, ⟨some 8, .bin .geq (.t 7) (.c (.int .i64 0)), none, []⟩, ⟨some 4, .mv (.t 8), none, []⟩]) ( .ret)), .gc, false, false⟩
theorem k80 : compF Tryz.prog { mt := false, mtAt := [], mode := .gc, clArgs := false, clRes := false } Tryz.f80 = some c80 := by kernel_rfl
def c81 : AFunc := ⟨8, [.tmp 3], .seq (.region [ ⟨some 2, .box (.t 0), none, []⟩, ⟨some 3, .mv (.c (.bool false)), none, []⟩]) ( .seq (.region [ ⟨some 4, .load 1 false (.t 1), none, []⟩, ⟨some 5, .load 2 true (.t 2), none, []⟩, ⟨some 6, .callv (.t 4) [.t 5], none, []⟩, ⟨some 7, .un .not (.t 6), none, []⟩, ⟨some 3, .mv (.t 7), none, []⟩]) ( .ret)), .gc, false, false⟩
theorem k81 : compF Tryz.prog { mt := false, mtAt := [], mode := .gc, clArgs := false, clRes := false } Tryz.f81 = some c81 := by kernel_rfl
def c82 : AFunc := ⟨43, [.tmp 2], .seq (.region [ ⟨some 2, .mv (.c (.bool false)), none, []⟩]) ( .seq (.seq (.region [ ⟨some 6, .mv (.t 0), none, []⟩, ⟨some 7, .rng (.t 6), none, []⟩]) ( .block 0 ( .loop ( .seq (.region [ ⟨some 8, .nxt (.t 7), none, []⟩, ⟨some 9, .extract 0 (.t 8), none, []⟩]) ( .seq (.cond (.t 9) ( .skip) ( .exit 0)) ( .block 1 ( .seq (.region [ ⟨some 10, .extract 1 (.t 8), none, []⟩, ⟨some 11, .extract 2 (.t 8), none, []⟩, ⟨some 3, .mv (.t 10), none, []⟩, ⟨some 4, .mv (.t 11), none, []⟩]) ( .seq (.region [ ⟨some 12, .mv (.t 4), none, []⟩, ⟨some 13, .bin .geq (.t 12) (.c (.int .i32 97)), none, []⟩, ⟨some 14, .mv (.t 13), none, []⟩, ⟨some 15, .mv (.t 4), (some (14, true)), []⟩, ⟨some 16, .bin .leq (.t 15) (.c (.int .i32 122)), (some (14, true)), []⟩, ⟨some 17, .pick (.t 14) (.t 16) (.c (.bool false)), none, []⟩, ⟨some 5, .mv (.t 17), none, []⟩]) ( .seq (.region [ ⟨some 18, .mv (.t 5), none, []⟩, ⟨some 19, .un .not (.t 18), none, []⟩, ⟨some 20, .mv (.t 19), none, []⟩, ⟨some 21, .mv (.t 3), (some (20, true)), []⟩, ⟨some 22, .bin .eql (.t 21) (.c (.int .i64 0)), (some (20, true)), []⟩, ⟨some 23, .mv (.t 22), (some (20, true)), []⟩, ⟨some 24, .mv (.t 4), (some (23, false)), []⟩, ⟨some 25, .bin .neq (.t 24) (.c (.int .i32 95)), (some (23, false)), []⟩, ⟨some 26, .mv (.t 25), (some (23, false)), []⟩, ⟨some 27, .mv (.t 4), (some (26, true)), []⟩, ⟨some 28, .bin .lss (.t 27) (.c (.int .i32 48)), (some (26, true)), []⟩, ⟨some 29, .mv (.t 28), (some (26, true)), []⟩, ⟨some 30, .mv (.t 4), (some (29, false)), []⟩, ⟨some 31, .bin .gtr (.t 30) (.c (.int .i32 57)), (some (29, false)), []⟩, ⟨some 32, .pick (.t 29) (.c (.bool true)) (.t 31), (some (26, true)), []⟩, ⟨some 33, .pick (.t 26) (.t 32) (.c (.bool false)), (some (23, false)), []⟩, ⟨some 34, .pick (.t 23) (.c (.bool true)) (.t 33), (some (20, true)), []⟩, ⟨some 35, .pick (.t 20) (.t 34) (.c (.bool false)), none, []⟩]) ( .cond (.t 35) ( .seq (.region [ ⟨some 2, .mv (.c (.bool false)), none, []⟩]) ( .ret)) ( .skip))))))))))) ( .seq (.region [ ⟨some 36, .mv (.t 0), none, []⟩, ⟨some 37, .bin .neq (.t 36) (.c (.str ⟨#[]⟩)), none, []⟩, ⟨some 38, .mv (.t 37), none, []⟩, ⟨some 39, .mv (.t 0), (some (38, true)), []⟩, ⟨some 40, .len true (.t 39), (some (38, true)), []⟩, ⟨some 41, .bin .leq (.t 40) (.c (.int .i64 16)), (some (38, true)), []⟩, ⟨some 42, .pick (.t 38) (.t 41) (.c (.bool false)), none, []⟩, ⟨some 2, .mv (.t 42), none, []⟩]) ( .ret))), .pure, true, true⟩
theorem k82 : compF Tryz.prog { mt := false, mtAt := [], mode := .pure, clArgs := true, clRes := true } Tryz.f82 = some c82 := by kernel_rfl
def c83 : AFunc := ⟨6, [.tmp 2], .seq (.region [ ⟨some 2, .mv (.c (.int .i64 0)), none, []⟩]) ( .seq (.region [ ⟨some 3, .mv (.t 0), none, []⟩, ⟨some 4, .call 118 [.t 3], none, []⟩, ⟨some 5, .field 0 1 false (.t 4), none, []⟩, ⟨some 2, .mv (.t 5), none, []⟩]) ( .ret)), .pure, true, true⟩
theorem k83 : compF Tryz.prog { mt := false, mtAt := [], mode := .pure, clArgs := true, clRes := true } Tryz.f83 = some c83 := by kernel_rfl
def c87 : AFunc := ⟨29, [], .seq (.region [ ⟨some 10, .mv (.t 1), none, []⟩, ⟨some 11, .len false (.t 10), none, []⟩, ⟨some 12, .mv (.c (.int .i64 0)), none, []⟩]) ( .block 0 ( .loop ( .seq (.region [ ⟨some 13, .bin .lss (.t 12) (.t 11), none, []⟩]) ( .seq (.cond (.t 13) ( .skip) ( .exit 0)) ( .seq (.block 1 ( .seq (.region [ ⟨some 14, .mv (.t 12), none, []⟩, ⟨some 15, .iaddrS 4 (.t 10) (.t 12), none, []⟩, ⟨some 16, .load 4 true (.t 15), none, []⟩, ⟨some 9, .alloc [.int .i64 0, .int .i64 0, .str ⟨#[]⟩, .isl [] true], none, []⟩, ⟨some 8, .mv (.t 14), none, []⟩, ⟨none, .store 4 (.t 9) (.t 16), none, []⟩]) ( .seq (.seq (.region [ ⟨some 17, .mv (.t 8), none, []⟩, ⟨some 18, .bin .gtr (.t 17) (.c (.int .i64 0)), none, []⟩]) ( .cond (.t 18) ( .region [ ⟨some 19, .mv (.t 0), none, []⟩, ⟨some 20, .nilck (.t 19), none, []⟩, ⟨some 21, .faddr 0 (.t 20), none, []⟩, ⟨some 22, .mv (.t 2), none, []⟩, ⟨some 23, .call 42 [.t 21, .t 22], none, []⟩]) ( .skip))) ( .region [ ⟨some 24, .mv (.t 3), none, []⟩, ⟨some 25, .mv (.t 8), none, []⟩, ⟨some 26, .load 4 true (.t 9), none, []⟩, ⟨some 27, .callv (.t 24) [.t 25, .t 26], none, []⟩])))) ( .region [ ⟨some 28, .bin .add (.t 12) (.c (.int .i64 1)), none, []⟩, ⟨some 12, .mv (.t 28), none, []⟩])))))), .gc, false, false⟩
theorem k87 : compF Tryz.prog { mt := false, mtAt := [], mode := .gc, clArgs := false, clRes := false } Tryz.f87 = some c87 := by kernel_rfl
def c88 : AFunc := ⟨11, [], .seq (.region [ ⟨some 4, .box (.t 1), none, []⟩]) ( .region [ ⟨some 5, .load 1 false (.t 2), none, []⟩, ⟨some 6, .nilck (.t 5), none, []⟩, ⟨some 7, .faddr 0 (.t 6), none, []⟩, ⟨some 8, .load 4 true (.t 4), none, []⟩, ⟨some 9, .call 89 [.t 8], none, [.t 2]⟩, ⟨some 10, .call 42 [.t 7, .t 9], none, []⟩]), .gc, false, false⟩
theorem k88 : compF Tryz.prog { mt := false, mtAt := [], mode := .gc, clArgs := false, clRes := false } Tryz.f88 = some c88 := by kernel_rfl
def c89 : AFunc := ⟨10, [.tmp 2], .seq (.region [ ⟨some 1, .box (.t 0), none, []⟩, ⟨some 2, .mv (.c (.str ⟨#[]⟩)), none, []⟩]) ( .seq (.seq (.region [ ⟨some 4, .load 4 true (.t 1), none, []⟩, ⟨some 5, .call 75 [.t 4], none, []⟩, ⟨some 6, .un .not (.t 5), none, []⟩]) ( .cond (.t 6) ( .seq (.region [ ⟨some 2, .mv (.c (.str ⟨#[]⟩)), none, []⟩]) ( .ret)) ( .skip))) ( .seq (.region [ ⟨some 3, .allocB 78 5, none, []⟩]) ( .seq (.region [ ⟨some 7, .load 4 true (.t 1), none, []⟩, ⟨some 8, .call 121 [.t 3, .t 7], none, []⟩]) ( .seq (.region [ ⟨some 9, .call 84 [.t 3], none, []⟩, ⟨some 2, .mv (.t 9), none, []⟩]) ( .ret))))), .pure, true, true⟩
theorem k89 : compF Tryz.prog { mt := false, mtAt := [], mode := .pure, clArgs := true, clRes := true } Tryz.f89 = some c89 := by kernel_rfl
def c90 : AFunc := ⟨24, [], .seq (.region [ ⟨some 5, .box (.t 0), none, []⟩, ⟨some 8, .box (.t 3), none, []⟩, ⟨some 9, .box (.t 4), none, []⟩]) ( .seq (.region [ ⟨some 10, .load 1 false (.t 5), none, []⟩, ⟨some 11, .nilck (.t 10), none, []⟩, ⟨some 12, .faddr 0 (.t 11), none, []⟩, ⟨some 13, .mv (.t 1), none, []⟩, ⟨some 14, .bin .add (.t 13) (.c (.str ⟨#[40, 64]⟩)), none, []⟩, ⟨some 15, .call 42 [.t 12, .t 14], none, []⟩]) ( .seq (.region [ ⟨some 16, .load 1 false (.t 5), none, []⟩, ⟨some 17, .mv (.t 2), none, []⟩, ⟨some 18, .mkfn 122 [.t 8, .t 9, .t 5], none, []⟩, ⟨some 19, .call 95 [.t 16, .t 17, .c (.str ⟨#[44]⟩), .t 18], none, []⟩]) ( .region [ ⟨some 20, .load 1 false (.t 5), none, []⟩, ⟨some 21, .nilck (.t 20), none, []⟩, ⟨some 22, .faddr 0 (.t 21), none, []⟩, ⟨some 23, .call 45 [.t 22, .c (.int .u8 41)], none, []⟩]))), .gc, false, false⟩
theorem k90 : compF Tryz.prog { mt := false, mtAt := [], mode := .gc, clArgs := false, clRes := false } Tryz.f90 = some c90 := by kernel_rfl
def c91 : AFunc := ⟨29, [], .seq (.region [ ⟨some 10, .mv (.t 1), none, []⟩, ⟨some 11, .len false (.t 10), none, []⟩, ⟨some 12, .mv (.c (.int .i64 0)), none, []⟩]) ( .block 0 ( .loop ( .seq (.region [ ⟨some 13, .bin .lss (.t 12) (.t 11), none, []⟩]) ( .seq (.cond (.t 13) ( .skip) ( .exit 0)) ( .seq (.block 1 ( .seq (.region [ ⟨some 14, .mv (.t 12), none, []⟩, ⟨some 15, .iaddrS 3 (.t 10) (.t 12), none, []⟩, ⟨some 16, .load 3 true (.t 15), none, []⟩, ⟨some 9, .alloc [.int .i64 0, .str ⟨#[]⟩, .isl [] true], none, []⟩, ⟨some 8, .mv (.t 14), none, []⟩, ⟨none, .store 3 (.t 9) (.t 16), none, []⟩]) ( .seq (.seq (.region [ ⟨some 17, .mv (.t 8), none, []⟩, ⟨some 18, .bin .gtr (.t 17) (.c (.int .i64 0)), none, []⟩]) ( .cond (.t 18) ( .region [ ⟨some 19, .mv (.t 0), none, []⟩, ⟨some 20, .nilck (.t 19), none, []⟩, ⟨some 21, .faddr 0 (.t 20), none, []⟩, ⟨some 22, .mv (.t 2), none, []⟩, ⟨some 23, .call 42 [.t 21, .t 22], none, []⟩]) ( .skip))) ( .region [ ⟨some 24, .mv (.t 3), none, []⟩, ⟨some 25, .mv (.t 8), none, []⟩, ⟨some 26, .load 3 true (.t 9), none, []⟩, ⟨some 27, .callv (.t 24) [.t 25, .t 26], none, []⟩])))) ( .region [ ⟨some 28, .bin .add (.t 12) (.c (.int .i64 1)), none, []⟩, ⟨some 12, .mv (.t 28), none, []⟩])))))), .gc, false, false⟩
theorem k91 : compF Tryz.prog { mt := false, mtAt := [], mode := .gc, clArgs := false, clRes := false } Tryz.f91 = some c91 := by kernel_rfl
def c92 : AFunc := ⟨8, [], .seq (.region [ ⟨some 4, .box (.t 1), none, []⟩]) ( .region [ ⟨some 5, .load 1 false (.t 2), none, []⟩, ⟨some 6, .load 3 true (.t 4), none, []⟩, ⟨some 7, .call 57 [.t 5, .t 6], none, []⟩]), .gc, false, false⟩
theorem k92 : compF Tryz.prog { mt := false, mtAt := [], mode := .gc, clArgs := false, clRes := false } Tryz.f92 = some c92 := by kernel_rfl
def c93 : AFunc := ⟨29, [.tmp 4], .seq (.region [ ⟨some 4, .mv (.c (.bool false)), none, []⟩]) ( .seq (.seq (.region [ ⟨some 7, .mv (.t 0), none, []⟩, ⟨some 8, .len false (.t 7), none, []⟩, ⟨some 9, .mv (.t 1), none, []⟩, ⟨some 10, .len false (.t 9), none, []⟩, ⟨some 11, .bin .neq (.t 8) (.t 10), none, []⟩]) ( .cond (.t 11) ( .seq (.region [ ⟨some 4, .mv (.c (.bool false)), none, []⟩]) ( .ret)) ( .skip))) ( .seq (.seq (.region [ ⟨some 5, .mv (.c (.int .i64 0)), none, []⟩]) ( .block 0 ( .loop ( .seq (.seq (.region [ ⟨some 12, .mv (.t 5), none, []⟩, ⟨some 13, .mv (.t 0), none, []⟩, ⟨some 14, .len false (.t 13), none, []⟩, ⟨some 15, .bin .lss (.t 12) (.t 14), none, []⟩]) ( .cond (.t 15) ( .skip) ( .exit 0))) ( .seq (.block 1 ( .seq (.region [ ⟨some 18, .mv (.t 0), none, []⟩, ⟨some 19, .mv (.t 5), none, []⟩, ⟨some 20, .iaddrS 4 (.t 18) (.t 19), none, []⟩, ⟨some 21, .load 4 true (.t 20), none, []⟩, ⟨some 22, .mv (.t 1), none, []⟩, ⟨some 23, .mv (.t 5), none, []⟩, ⟨some 24, .iaddrS 4 (.t 22) (.t 23), none, []⟩, ⟨some 25, .load 4 true (.t 24), none, []⟩, ⟨some 26, .call 54 [.t 21, .t 25], none, []⟩, ⟨some 6, .mv (.t 26), none, []⟩]) ( .seq (.region [ ⟨some 27, .mv (.t 6), none, []⟩, ⟨some 28, .un .not (.t 27), none, []⟩]) ( .cond (.t 28) ( .seq (.region [ ⟨some 4, .mv (.c (.bool false)), none, []⟩]) ( .ret)) ( .skip))))) ( .region [ ⟨some 16, .mv (.t 5), none, []⟩, ⟨some 17, .bin .add (.t 16) (.c (.int .i64 1)), none, []⟩, ⟨some 5, .mv (.t 17), none, []⟩])))))) ( .seq (.region [ ⟨some 4, .mv (.c (.bool true)), none, []⟩]) ( .ret)))), .pure, true, true⟩
theorem k93 : compF Tryz.prog { mt := false, mtAt := [], mode := .pure, clArgs := true, clRes := true } Tryz.f93 = some c93 := by kernel_rfl
def c94 : AFunc := ⟨119, [.tmp 4], .seq (.region [ ⟨some 2, .box (.t 0), none, []⟩, ⟨some 3, .box (.t 1), none, []⟩, ⟨some 4, .mv (.c (.bool false)), none, []⟩]) ( .seq (.region [ ⟨some 8, .faddr 2 (.t 2), none, []⟩, ⟨some 9, .load 4 true (.t 8), none, []⟩, ⟨some 5, .alloc [.int .i64 0, .int .i64 0, .str ⟨#[]⟩, .isl [] true], none, []⟩, ⟨none, .store 4 (.t 5) (.t 9), none, []⟩]) ( .seq (.region [ ⟨some 10, .faddr 0 (.t 5), none, []⟩, ⟨some 11, .load 1 false (.t 10), none, []⟩, ⟨some 12, .bin .eql (.t 11) (.c (.int .i64 0)), none, []⟩, ⟨some 13, .mv (.t 12), none, []⟩, ⟨some 14, .faddr 1 (.t 5), (some (13, true)), []⟩, ⟨some 15, .load 1 false (.t 14), (some (13, true)), []⟩, ⟨some 16, .bin .eql (.t 15) (.c (.int .i64 0)), (some (13, true)), []⟩, ⟨some 17, .pick (.t 13) (.t 16) (.c (.bool false)), none, []⟩, ⟨some 18, .mv (.t 17), none, []⟩, ⟨some 19, .faddr 2 (.t 5), (some (18, true)), []⟩, ⟨some 20, .load 1 false (.t 19), (some (18, true)), []⟩, ⟨some 21, .bin .eql (.t 20) (.c (.str ⟨#[]⟩)), (some (18, true)), []⟩, ⟨some 22, .pick (.t 18) (.t 21) (.c (.bool false)), none, []⟩, ⟨some 23, .mv (.t 22), none, []⟩, ⟨some 24, .faddr 3 (.t 5), (some (23, true)), []⟩, ⟨some 25, .load 1 false (.t 24), (some (23, true)), []⟩, ⟨some 26, .len false (.t 25), (some (23, true)), []⟩, ⟨some 27, .bin .eql (.t 26) (.c (.int .i64 0)), (some (23, true)), []⟩, ⟨some 28, .pick (.t 23) (.t 27) (.c (.bool false)), none, []⟩, ⟨some 6, .mv (.t 28), none, []⟩]) ( .seq (.region [ ⟨some 29, .mv (.t 6), none, []⟩, ⟨some 7, .mv (.t 29), none, []⟩]) ( .seq (.seq (.region [ ⟨some 30, .faddr 0 (.t 2), none, []⟩, ⟨some 31, .load 1 false (.t 30), none, []⟩]) ( .block 0 ( .seq (.region [ ⟨some 33, .bin .eql (.t 31) (.c (.int .i64 1)), none, []⟩, ⟨some 32, .mv (.t 33), none, []⟩]) ( .cond (.t 32) ( .region [ ⟨some 34, .mv (.t 6), none, []⟩, ⟨some 35, .mv (.t 34), none, []⟩, ⟨some 36, .faddr 6 (.t 2), (some (35, true)), []⟩, ⟨some 37, .load 1 false (.t 36), (some (35, true)), []⟩, ⟨some 38, .len false (.t 37), (some (35, true)), []⟩, ⟨some 39, .bin .eql (.t 38) (.c (.int .i64 0)), (some (35, true)), []⟩, ⟨some 40, .pick (.t 35) (.t 39) (.c (.bool false)), none, []⟩, ⟨some 41, .mv (.t 40), none, []⟩, ⟨some 42, .faddr 1 (.t 2), (some (41, true)), []⟩, ⟨some 43, .load 1 false (.t 42), (some (41, true)), []⟩, ⟨some 44, .call 99 [.t 43], (some (41, true)), []⟩, ⟨some 45, .pick (.t 41) (.t 44) (.c (.bool false)), none, []⟩, ⟨some 7, .mv (.t 45), none, []⟩]) ( .seq (.region [ ⟨some 47, .bin .eql (.t 31) (.c (.int .i64 2)), none, []⟩, ⟨some 46, .mv (.t 47), none, []⟩]) ( .cond (.t 46) ( .region [ ⟨some 48, .load 4 true (.t 5), none, []⟩, ⟨some 49, .call 75 [.t 48], none, []⟩, ⟨some 50, .mv (.t 49), none, []⟩, ⟨some 51, .faddr 6 (.t 2), (some (50, true)), []⟩, ⟨some 52, .load 1 false (.t 51), (some (50, true)), []⟩, ⟨some 53, .len false (.t 52), (some (50, true)), []⟩, ⟨some 54, .bin .eql (.t 53) (.c (.int .i64 0)), (some (50, true)), []⟩, ⟨some 55, .pick (.t 50) (.t 54) (.c (.bool false)), none, []⟩, ⟨some 56, .mv (.t 55), none, []⟩, ⟨some 57, .faddr 1 (.t 2), (some (56, true)), []⟩, ⟨some 58, .load 1 false (.t 57), (some (56, true)), []⟩, ⟨some 59, .bin .eql (.t 58) (.c (.str ⟨#[]⟩)), (some (56, true)), []⟩, ⟨some 60, .pick (.t 56) (.t 59) (.c (.bool false)), none, []⟩, ⟨some 61, .mv (.t 60), none, []⟩, ⟨some 62, .faddr 0 (.t 5), (some (61, true)), []⟩, ⟨some 63, .load 1 false (.t 62), (some (61, true)), []⟩, ⟨some 64, .bin .neq (.t 63) (.c (.int .i64 3)), (some (61, true)), []⟩, ⟨some 65, .mv (.t 64), (some (61, true)), []⟩, ⟨some 66, .faddr 2 (.t 5), (some (65, false)), []⟩, ⟨some 67, .load 1 false (.t 66), (some (65, false)), []⟩, ⟨some 68, .call 83 [.t 67], (some (65, false)), []⟩, ⟨some 69, .bin .lss (.t 68) (.c (.int .i64 0)), (some (65, false)), []⟩, ⟨some 70, .pick (.t 65) (.c (.bool true)) (.t 69), (some (61, true)), []⟩, ⟨some 71, .pick (.t 61) (.t 70) (.c (.bool false)), none, []⟩, ⟨some 7, .mv (.t 71), none, []⟩]) ( .seq (.region [ ⟨some 73, .bin .eql (.t 31) (.c (.int .i64 3)), none, []⟩, ⟨some 72, .mv (.t 73), none, []⟩]) ( .cond (.t 72) ( .region [ ⟨some 74, .mv (.t 6), none, []⟩, ⟨some 75, .mv (.t 74), none, []⟩, ⟨some 76, .faddr 1 (.t 2), (some (75, true)), []⟩, ⟨some 77, .load 1 false (.t 76), (some (75, true)), []⟩, ⟨some 79, .faddr 6 (.t 2), (some (75, true)), []⟩, ⟨some 80, .load 1 false (.t 79), (some (75, true)), []⟩, ⟨some 81, .len false (.t 80), (some (75, true)), []⟩, ⟨some 78, .call 83 [.t 77], (some (75, true)), [.t 79]⟩, ⟨some 82, .bin .eql (.t 78) (.t 81), (some (75, true)), []⟩, ⟨some 83, .pick (.t 75) (.t 82) (.c (.bool false)), none, []⟩, ⟨some 7, .mv (.t 83), none, []⟩]) ( .seq (.region [ ⟨some 85, .bin .eql (.t 31) (.c (.int .i64 4)), none, []⟩, ⟨some 84, .mv (.t 85), none, []⟩]) ( .cond (.t 84) ( .region [ ⟨some 86, .mv (.t 6), none, []⟩, ⟨some 87, .mv (.t 86), none, []⟩, ⟨some 88, .faddr 6 (.t 2), (some (87, true)), []⟩, ⟨some 89, .load 1 false (.t 88), (some (87, true)), []⟩, ⟨some 90, .len false (.t 89), (some (87, true)), []⟩, ⟨some 91, .bin .eql (.t 90) (.c (.int .i64 2)), (some (87, true)), []⟩, ⟨some 92, .pick (.t 87) (.t 91) (.c (.bool false)), none, []⟩, ⟨some 93, .mv (.t 92), none, []⟩, ⟨some 94, .faddr 1 (.t 2), (some (93, true)), []⟩, ⟨some 95, .load 1 false (.t 94), (some (93, true)), []⟩, ⟨some 96, .bin .eql (.t 95) (.c (.str ⟨#[43]⟩)), (some (93, true)), []⟩, ⟨some 97, .mv (.t 96), (some (93, true)), []⟩, ⟨some 98, .faddr 1 (.t 2), (some (97, false)), []⟩, ⟨some 99, .load 1 false (.t 98), (some (97, false)), []⟩, ⟨some 100, .bin .eql (.t 99) (.c (.str ⟨#[45]⟩)), (some (97, false)), []⟩, ⟨some 101, .pick (.t 97) (.c (.bool true)) (.t 100), (some (93, true)), []⟩, ⟨some 102, .mv (.t 101), (some (93, true)), []⟩, ⟨some 103, .faddr 1 (.t 2), (some (102, false)), []⟩, ⟨some 104, .load 1 false (.t 103), (some (102, false)), []⟩, ⟨some 105, .bin .eql (.t 104) (.c (.str ⟨#[42]⟩)), (some (102, false)), []⟩, ⟨some 106, .pick (.t 102) (.c (.bool true)) (.t 105), (some (93, true)), []⟩, ⟨some 107, .pick (.t 93) (.t 106) (.c (.bool false)), none, []⟩, ⟨some 7, .mv (.t 107), none, []⟩]) ( .seq (.region [ ⟨some 4, .mv (.c (.bool false)), none, []⟩]) ( .ret)))))))))))) ( .seq (.region [ ⟨some 108, .mv (.t 7), none, []⟩, ⟨some 109, .mv (.t 108), none, []⟩, ⟨some 110, .load 1 false (.t 3), (some (109, true)), []⟩, ⟨some 111, .bin .gtr (.t 110) (.c (.int .i64 0)), (some (109, true)), []⟩, ⟨some 112, .pick (.t 109) (.t 111) (.c (.bool false)), none, []⟩, ⟨some 113, .mv (.t 112), none, []⟩, ⟨some 114, .faddr 6 (.t 2), (some (113, true)), []⟩, ⟨some 115, .load 1 false (.t 114), (some (113, true)), []⟩, ⟨some 116, .mkfn 123 [.t 3], (some (113, true)), []⟩, ⟨some 117, .call 98 [.t 115, .t 116], (some (113, true)), []⟩, ⟨some 118, .pick (.t 113) (.t 117) (.c (.bool false)), none, []⟩, ⟨some 4, .mv (.t 118), none, []⟩]) ( .ret)))))), .pure, true, true⟩
theorem k94 : compF Tryz.prog { mt := false, mtAt := [], mode := .pure, clArgs := true, clRes := true } Tryz.f94 = some c94 := by kernel_rfl
def c95 : AFunc := ⟨29, [], .seq (.region [ ⟨some 10, .mv (.t 1), none, []⟩, ⟨some 11, .len false (.t 10), none, []⟩, ⟨some 12, .mv (.c (.int .i64 0)), none, []⟩]) ( .block 0 ( .loop ( .seq (.region [ ⟨some 13, .bin .lss (.t 12) (.t 11), none, []⟩]) ( .seq (.cond (.t 13) ( .skip) ( .exit 0)) ( .seq (.block 1 ( .seq (.region [ ⟨some 14, .mv (.t 12), none, []⟩, ⟨some 15, .iaddrS 7 (.t 10) (.t 12), none, []⟩, ⟨some 16, .load 7 true (.t 15), none, []⟩, ⟨some 9, .alloc [.int .i64 0, .str ⟨#[]⟩, .int .i64 0, .int .i64 0, .str ⟨#[]⟩, .isl [] true, .isl [] true], none, []⟩, ⟨some 8, .mv (.t 14), none, []⟩, ⟨none, .store 7 (.t 9) (.t 16), none, []⟩]) ( .seq (.seq (.region [ ⟨some 17, .mv (.t 8), none, []⟩, ⟨some 18, .bin .gtr (.t 17) (.c (.int .i64 0)), none, []⟩]) ( .cond (.t 18) ( .region [ ⟨some 19, .mv (.t 0), none, []⟩, ⟨some 20, .nilck (.t 19), none, []⟩, ⟨some 21, .faddr 0 (.t 20), none, []⟩, ⟨some 22, .mv (.t 2), none, []⟩, ⟨some 23, .call 42 [.t 21, .t 22], none, []⟩]) ( .skip))) ( .region [ ⟨some 24, .mv (.t 3), none, []⟩, ⟨some 25, .mv (.t 8), none, []⟩, ⟨some 26, .load 7 true (.t 9), none, []⟩, ⟨some 27, .callv (.t 24) [.t 25, .t 26], none, []⟩])))) ( .region [ ⟨some 28, .bin .add (.t 12) (.c (.int .i64 1)), none, []⟩, ⟨some 12, .mv (.t 28), none, []⟩])))))), .gc, false, false⟩
theorem k95 : compF Tryz.prog { mt := false, mtAt := [], mode := .gc, clArgs := false, clRes := false } Tryz.f95 = some c95 := by kernel_rfl
def c96 : AFunc := ⟨8, [], .seq (.region [ ⟨some 4, .box (.t 1), none, []⟩]) ( .region [ ⟨some 5, .load 1 false (.t 2), none, []⟩, ⟨some 6, .load 7 true (.t 4), none, []⟩, ⟨some 7, .call 53 [.t 5, .t 6], none, []⟩]), .gc, false, false⟩
theorem k96 : compF Tryz.prog { mt := false, mtAt := [], mode := .gc, clArgs := false, clRes := false } Tryz.f96 = some c96 := by kernel_rfl
def c97 : AFunc := ⟨9, [.tmp 4], .seq (.region [ ⟨some 4, .mv (.c (.bool false)), none, []⟩]) ( .seq (.region [ ⟨some 5, .mv (.t 0), none, []⟩, ⟨some 6, .mv (.t 1), none, []⟩, ⟨some 7, .call 124 [.t 5, .t 6], none, []⟩, ⟨some 8, .bin .geq (.t 7) (.c (.int .i64 0)), none, []⟩, ⟨some 4, .mv (.t 8), none, []⟩]) ( .ret)), .pure, true, true⟩
theorem k97 : compF Tryz.prog { mt := false, mtAt := [], mode := .pure, clArgs := true, clRes := true } Tryz.f97 = some c97 := by kernel_rfl
def c98 : AFunc := ⟨9, [.tmp 4], .seq (.region [ ⟨some 3, .box (.t 1), none, []⟩, ⟨some 4, .mv (.c (.bool false)), none, []⟩]) ( .seq (.region [ ⟨some 5, .mv (.t 0), none, []⟩, ⟨some 6, .mkfn 126 [.t 3], none, []⟩, ⟨some 7, .call 125 [.t 5, .t 6], none, []⟩, ⟨some 8, .un .not (.t 7), none, []⟩, ⟨some 4, .mv (.t 8), none, []⟩]) ( .ret)), .gc, false, false⟩
theorem k98 : compF Tryz.prog { mt := false, mtAt := [], mode := .gc, clArgs := false, clRes := false } Tryz.f98 = some c98 := by kernel_rfl
def c99 : AFunc := ⟨52, [.tmp 2], .seq (.region [ ⟨some 2, .mv (.c (.bool false)), none, []⟩]) ( .seq (.seq (.region [ ⟨some 6, .mv (.t 0), none, []⟩, ⟨some 7, .rng (.t 6), none, []⟩]) ( .block 0 ( .loop ( .seq (.region [ ⟨some 8, .nxt (.t 7), none, []⟩, ⟨some 9, .extract 0 (.t 8), none, []⟩]) ( .seq (.cond (.t 9) ( .skip) ( .exit 0)) ( .block 1 ( .seq (.region [ ⟨some 10, .extract 1 (.t 8), none, []⟩, ⟨some 11, .extract 2 (.t 8), none, []⟩, ⟨some 3, .mv (.t 10), none, []⟩, ⟨some 4, .mv (.t 11), none, []⟩]) ( .seq (.region [ ⟨some 12, .mv (.t 4), none, []⟩, ⟨some 13, .bin .geq (.t 12) (.c (.int .i32 65)), none, []⟩, ⟨some 14, .mv (.t 13), none, []⟩, ⟨some 15, .mv (.t 4), (some (14, true)), []⟩, ⟨some 16, .bin .leq (.t 15) (.c (.int .i32 90)), (some (14, true)), []⟩, ⟨some 17, .pick (.t 14) (.t 16) (.c (.bool false)), none, []⟩, ⟨some 5, .mv (.t 17), none, []⟩]) ( .seq (.region [ ⟨some 18, .mv (.t 5), none, []⟩, ⟨some 19, .un .not (.t 18), none, []⟩, ⟨some 20, .mv (.t 19), none, []⟩, ⟨some 21, .mv (.t 3), (some (20, true)), []⟩, ⟨some 22, .bin .eql (.t 21) (.c (.int .i64 0)), (some (20, true)), []⟩, ⟨some 23, .mv (.t 22), (some (20, true)), []⟩, ⟨some 24, .mv (.t 4), (some (23, false)), []⟩, ⟨some 25, .bin .geq (.t 24) (.c (.int .i32 97)), (some (23, false)), []⟩, ⟨some 26, .mv (.t 25), (some (23, false)), []⟩, ⟨some 27, .mv (.t 4), (some (26, true)), []⟩, ⟨some 28, .bin .leq (.t 27) (.c (.int .i32 122)), (some (26, true)), []⟩, ⟨some 29, .pick (.t 26) (.t 28) (.c (.bool false)), (some (23, false)), []⟩, ⟨some 30, .mv (.t 29), (some (23, false)), []⟩, ⟨some 31, .mv (.t 4), (some (30, false)), []⟩, ⟨some 32, .bin .geq (.t 31) (.c (.int .i32 48)), (some (30, false)), []⟩, ⟨some 33, .mv (.t 32), (some (30, false)), []⟩, ⟨some 34, .mv (.t 4), (some (33, true)), []⟩, ⟨some 35, .bin .leq (.t 34) (.c (.int .i32 57)), (some (33, true)), []⟩, ⟨some 36, .pick (.t 33) (.t 35) (.c (.bool false)), (some (30, false)), []⟩, ⟨some 37, .pick (.t 30) (.c (.bool true)) (.t 36), (some (23, false)), []⟩, ⟨some 38, .mv (.t 37), (some (23, false)), []⟩, ⟨some 39, .mv (.t 4), (some (38, false)), []⟩, ⟨some 40, .bin .eql (.t 39) (.c (.int .i32 95)), (some (38, false)), []⟩, ⟨some 41, .pick (.t 38) (.c (.bool true)) (.t 40), (some (23, false)), []⟩, ⟨some 42, .un .not (.t 41), (some (23, false)), []⟩, ⟨some 43, .pick (.t 23) (.c (.bool true)) (.t 42), (some (20, true)), []⟩, ⟨some 44, .pick (.t 20) (.t 43) (.c (.bool false)), none, []⟩]) ( .cond (.t 44) ( .seq (.region [ ⟨some 2, .mv (.c (.bool false)), none, []⟩]) ( .ret)) ( .skip))))))))))) ( .seq (.region [ ⟨some 45, .mv (.t 0), none, []⟩, ⟨some 46, .bin .neq (.t 45) (.c (.str ⟨#[]⟩)), none, []⟩, ⟨some 47, .mv (.t 46), none, []⟩, ⟨some 48, .mv (.t 0), (some (47, true)), []⟩, ⟨some 49, .len true (.t 48), (some (47, true)), []⟩, ⟨some 50, .bin .leq (.t 49) (.c (.int .i64 16)), (some (47, true)), []⟩, ⟨some 51, .pick (.t 47) (.t 50) (.c (.bool false)), none, []⟩, ⟨some 2, .mv (.t 51), none, []⟩]) ( .ret))), .pure, true, true⟩
theorem k99 : compF Tryz.prog { mt := false, mtAt := [], mode := .pure, clArgs := true, clRes := true } Tryz.f99 = some c99 := by kernel_rfl
def c100 : AFunc := ⟨8, [], .seq (.region [ ⟨some 4, .box (.t 1), none, []⟩]) ( .region [ ⟨some 5, .load 1 false (.t 2), none, []⟩, ⟨some 6, .load 7 true (.t 4), none, []⟩, ⟨some 7, .call 53 [.t 5, .t 6], none, []⟩]), .gc, false, false⟩
theorem k100 : compF Tryz.prog { mt := false, mtAt := [], mode := .gc, clArgs := false, clRes := false } Tryz.f100 = some c100 := by kernel_rfl
def c101 : AFunc := ⟨51, [.tmp 2], .seq (.region [ ⟨some 2, .mv (.c (.bool false)), none, []⟩]) ( .seq (.seq (.region [ ⟨some 5, .mv (.t 0), none, []⟩, ⟨some 6, .len true (.t 5), none, []⟩, ⟨some 7, .bin .lss (.t 6) (.c (.int .i64 1)), none, []⟩, ⟨some 8, .mv (.t 7), none, []⟩, ⟨some 9, .mv (.t 0), (some (8, false)), []⟩, ⟨some 10, .len true (.t 9), (some (8, false)), []⟩, ⟨some 11, .bin .gtr (.t 10) (.c (.int .i64 16)), (some (8, false)), []⟩, ⟨some 12, .pick (.t 8) (.c (.bool true)) (.t 11), none, []⟩, ⟨some 13, .mv (.t 12), none, []⟩, ⟨some 14, .mv (.t 0), (some (13, false)), []⟩, ⟨some 15, .idxStr (.t 14) (.c (.int .i64 0)), (some (13, false)), []⟩, ⟨some 16, .bin .lss (.t 15) (.c (.int .u8 97)), (some (13, false)), []⟩, ⟨some 17, .pick (.t 13) (.c (.bool true)) (.t 16), none, []⟩, ⟨some 18, .mv (.t 17), none, []⟩, ⟨some 19, .mv (.t 0), (some (18, false)), []⟩, ⟨some 20, .idxStr (.t 19) (.c (.int .i64 0)), (some (18, false)), []⟩, ⟨some 21, .bin .gtr (.t 20) (.c (.int .u8 122)), (some (18, false)), []⟩, ⟨some 22, .pick (.t 18) (.c (.bool true)) (.t 21), none, []⟩]) ( .cond (.t 22) ( .seq (.region [ ⟨some 2, .mv (.c (.bool false)), none, []⟩]) ( .ret)) ( .skip))) ( .seq (.seq (.region [ ⟨some 3, .mv (.c (.int .i64 1)), none, []⟩]) ( .block 0 ( .loop ( .seq (.seq (.region [ ⟨some 23, .mv (.t 3), none, []⟩, ⟨some 24, .mv (.t 0), none, []⟩, ⟨some 25, .len true (.t 24), none, []⟩, ⟨some 26, .bin .lss (.t 23) (.t 25), none, []⟩]) ( .cond (.t 26) ( .skip) ( .exit 0))) ( .seq (.block 1 ( .seq (.region [ ⟨some 29, .mv (.t 0), none, []⟩, ⟨some 30, .mv (.t 3), none, []⟩, ⟨some 31, .idxStr (.t 29) (.t 30), none, []⟩, ⟨some 4, .mv (.t 31), none, []⟩]) ( .seq (.region [ ⟨some 32, .mv (.t 4), none, []⟩, ⟨some 33, .bin .geq (.t 32) (.c (.int .u8 97)), none, []⟩, ⟨some 34, .mv (.t 33), none, []⟩, ⟨some 35, .mv (.t 4), (some (34, true)), []⟩, ⟨some 36, .bin .leq (.t 35) (.c (.int .u8 122)), (some (34, true)), []⟩, ⟨some 37, .pick (.t 34) (.t 36) (.c (.bool false)), none, []⟩, ⟨some 38, .mv (.t 37), none, []⟩, ⟨some 39, .mv (.t 4), (some (38, false)), []⟩, ⟨some 40, .bin .geq (.t 39) (.c (.int .u8 48)), (some (38, false)), []⟩, ⟨some 41, .mv (.t 40), (some (38, false)), []⟩, ⟨some 42, .mv (.t 4), (some (41, true)), []⟩, ⟨some 43, .bin .leq (.t 42) (.c (.int .u8 57)), (some (41, true)), []⟩, ⟨some 44, .pick (.t 41) (.t 43) (.c (.bool false)), (some (38, false)), []⟩, ⟨some 45, .pick (.t 38) (.c (.bool true)) (.t 44), none, []⟩, ⟨some 46, .mv (.t 45), none, []⟩, ⟨some 47, .mv (.t 4), (some (46, false)), []⟩, ⟨some 48, .bin .eql (.t 47) (.c (.int .u8 95)), (some (46, false)), []⟩, ⟨some 49, .pick (.t 46) (.c (.bool true)) (.t 48), none, []⟩, ⟨some 50, .un .not (.t 49), none, []⟩]) ( .cond (.t 50) ( .seq (.region [ ⟨some 2, .mv (.c (.bool false)), none, []⟩]) ( .ret)) ( .skip))))) ( .region [ ⟨some 27, .mv (.t 3), none, []⟩, ⟨some 28, .bin .add (.t 27) (.c (.int .i64 1)), none, []⟩, ⟨some 3, .mv (.t 28), none, []⟩])))))) ( .seq (.region [ ⟨some 2, .mv (.c (.bool true)), none, []⟩]) ( .ret)))), .pure, true, true⟩
theorem k101 : compF Tryz.prog { mt := false, mtAt := [], mode := .pure, clArgs := true, clRes := true } Tryz.f101 = some c101 := by kernel_rfl
def c102 : AFunc := ⟨5, [.tmp 2], .seq (.region [ ⟨some 1, .box (.t 0), none, []⟩, ⟨some 2, .mv (.c (.bool false)), none, []⟩]) ( .seq (.region [ ⟨some 3, .load 4 true (.t 1), none, []⟩, ⟨some 4, .call 127 [.t 3, .c (.int .i64 4)], none, []⟩, ⟨some 2, .mv (.t 4), none, []⟩]) ( .ret)), .pure, true, true⟩
theorem k102 : compF Tryz.prog { mt := false, mtAt := [], mode := .pure, clArgs := true, clRes := true } Tryz.f102 = some c102 := by kernel_rfl
def c103 : AFunc := ⟨39, [.tmp 2], .seq (.region [ ⟨some 2, .mv (.c (.bool false)), none, []⟩]) ( .seq (.region [ ⟨some 4, .mv (.t 0), none, []⟩, ⟨some 5, .call 106 [.t 4], none, []⟩, ⟨some 3, .mv (.t 5), none, []⟩]) ( .seq (.region [ ⟨some 6, .mv (.t 3), none, []⟩, ⟨some 7, .mv (.t 6), none, []⟩, ⟨some 8, .mv (.t 0), (some (7, true)), []⟩, ⟨some 9, .len false (.t 8), (some (7, true)), []⟩, ⟨some 10, .bin .geq (.t 9) (.c (.int .i64 1)), (some (7, true)), []⟩, ⟨some 11, .pick (.t 7) (.t 10) (.c (.bool false)), none, []⟩, ⟨some 12, .mv (.t 11), none, []⟩, ⟨some 13, .mv (.t 0), (some (12, true)), []⟩, ⟨some 14, .len false (.t 13), (some (12, true)), []⟩, ⟨some 15, .bin .leq (.t 14) (.c (.int .i64 8)), (some (12, true)), []⟩, ⟨some 16, .pick (.t 12) (.t 15) (.c (.bool false)), none, []⟩, ⟨some 17, .mv (.t 16), none, []⟩, ⟨some 18, .mv (.t 0), (some (17, true)), []⟩, ⟨some 19, .iaddrS 7 (.t 18) (.c (.int .i64 0)), (some (17, true)), []⟩, ⟨some 20, .faddr 0 (.t 19), (some (17, true)), []⟩, ⟨some 21, .load 1 false (.t 20), (some (17, true)), []⟩, ⟨some 22, .bin .eql (.t 21) (.c (.int .i64 1)), (some (17, true)), []⟩, ⟨some 23, .mv (.t 22), (some (17, true)), []⟩, ⟨some 24, .mv (.t 0), (some (23, false)), []⟩, ⟨some 25, .iaddrS 7 (.t 24) (.c (.int .i64 0)), (some (23, false)), []⟩, ⟨some 26, .faddr 0 (.t 25), (some (23, false)), []⟩, ⟨some 27, .load 1 false (.t 26), (some (23, false)), []⟩, ⟨some 28, .bin .eql (.t 27) (.c (.int .i64 2)), (some (23, false)), []⟩, ⟨some 29, .mv (.t 28), (some (23, false)), []⟩, ⟨some 30, .mv (.t 0), (some (29, true)), []⟩, ⟨some 31, .iaddrS 7 (.t 30) (.c (.int .i64 0)), (some (29, true)), []⟩, ⟨some 32, .faddr 2 (.t 31), (some (29, true)), []⟩, ⟨some 33, .faddr 0 (.t 32), (some (29, true)), []⟩, ⟨some 34, .load 1 false (.t 33), (some (29, true)), []⟩, ⟨some 35, .bin .eql (.t 34) (.c (.int .i64 3)), (some (29, true)), []⟩, ⟨some 36, .pick (.t 29) (.t 35) (.c (.bool false)), (some (23, false)), []⟩, ⟨some 37, .pick (.t 23) (.c (.bool true)) (.t 36), (some (17, true)), []⟩, ⟨some 38, .pick (.t 17) (.t 37) (.c (.bool false)), none, []⟩, ⟨some 2, .mv (.t 38), none, []⟩]) ( .ret))), .pure, true, true⟩
theorem k103 : compF Tryz.prog { mt := false, mtAt := [], mode := .pure, clArgs := true, clRes := true } Tryz.f103 = some c103 := by kernel_rfl
def c104 : AFunc := ⟨18, [.tmp 4], .seq (.region [ ⟨some 4, .mv (.c (.bool false)), none, []⟩]) ( .seq (.seq (.region [ ⟨some 5, .mv (.c (.int .i64 0)), none, []⟩]) ( .block 0 ( .loop ( .seq (.seq (.region [ ⟨some 6, .mv (.t 5), none, []⟩, ⟨some 7, .mv (.t 0), none, []⟩, ⟨some 8, .len false (.t 7), none, []⟩, ⟨some 9, .bin .lss (.t 6) (.t 8), none, []⟩]) ( .cond (.t 9) ( .skip) ( .exit 0))) ( .seq (.block 1 ( .seq (.region [ ⟨some 12, .mv (.t 0), none, []⟩, ⟨some 13, .mv (.t 5), none, []⟩, ⟨some 14, .iaddrS 1 (.t 12) (.t 13), none, []⟩, ⟨some 15, .load 1 false (.t 14), none, []⟩, ⟨some 16, .mv (.t 1), none, []⟩, ⟨some 17, .bin .eql (.t 15) (.t 16), none, []⟩]) ( .cond (.t 17) ( .seq (.region [ ⟨some 4, .mv (.c (.bool true)), none, []⟩]) ( .ret)) ( .skip)))) ( .region [ ⟨some 10, .mv (.t 5), none, []⟩, ⟨some 11, .bin .add (.t 10) (.c (.int .i64 1)), none, []⟩, ⟨some 5, .mv (.t 11), none, []⟩])))))) ( .seq (.region [ ⟨some 4, .mv (.c (.bool false)), none, []⟩]) ( .ret))), .pure, true, true⟩
theorem k104 : compF Tryz.prog { mt := false, mtAt := [], mode := .pure, clArgs := true, clRes := true } Tryz.f104 = some c104 := by kernel_rfl
def c105 : AFunc := ⟨24, [.tmp 2], .seq (.region [ ⟨some 2, .mv (.c (.str ⟨#[]⟩)), none, []⟩]) ( .seq (.seq (.region [ ⟨some 4, .mv (.t 0), none, []⟩, ⟨some 5, .bin .lss (.t 4) (.c (.int .i64 0)), none, []⟩]) ( .cond (.t 5) ( .seq (.region [ ⟨some 6, .mv (.t 0), none, []⟩, ⟨some 7, .un .neg (.t 6), none, []⟩, ⟨some 8, .call 105 [.t 7], none, []⟩, ⟨some 9, .bin .add (.c (.str ⟨#[45]⟩)) (.t 8), none, []⟩, ⟨some 2, .mv (.t 9), none, []⟩]) ( .ret)) ( .skip))) ( .seq (.region [ ⟨some 10, .mv (.t 0), none, []⟩, ⟨some 11, .bin .rem (.t 10) (.c (.int .i64 10)), none, []⟩, ⟨some 12, .bin .add (.c (.int .i64 48)) (.t 11), none, []⟩, ⟨some 13, .conv .u8 (.t 12), none, []⟩, ⟨some 14, .buildSl 1 1 false [.int .u8 0] [(0, 1, .t 13)], none, []⟩, ⟨some 15, .b2s (.t 14), none, []⟩, ⟨some 3, .mv (.t 15), none, []⟩]) ( .seq (.seq (.region [ ⟨some 16, .mv (.t 0), none, []⟩, ⟨some 17, .bin .geq (.t 16) (.c (.int .i64 10)), none, []⟩]) ( .cond (.t 17) ( .seq (.region [ ⟨some 18, .mv (.t 0), none, []⟩, ⟨some 19, .bin .quo (.t 18) (.c (.int .i64 10)), none, []⟩, ⟨some 20, .call 105 [.t 19], none, []⟩, ⟨some 21, .mv (.t 3), none, []⟩, ⟨some 22, .bin .add (.t 20) (.t 21), none, []⟩, ⟨some 2, .mv (.t 22), none, []⟩]) ( .ret)) ( .skip))) ( .seq (.region [ ⟨some 23, .mv (.t 3), none, []⟩, ⟨some 2, .mv (.t 23), none, []⟩]) ( .ret))))), .pure, true, true⟩
theorem k105 : compF Tryz.prog { mt := false, mtAt := [], mode := .pure, clArgs := true, clRes := true } Tryz.f105 = some c105 := by kernel_rfl
def c106 : AFunc := ⟨18, [.tmp 2], .seq (.region [ ⟨some 2, .mv (.c (.bool false)), none, []⟩]) ( .seq (.seq (.region [ ⟨some 3, .mv (.c (.int .i64 0)), none, []⟩]) ( .block 0 ( .loop ( .seq (.seq (.region [ ⟨some 5, .mv (.t 3), none, []⟩, ⟨some 6, .mv (.t 0), none, []⟩, ⟨some 7, .len false (.t 6), none, []⟩, ⟨some 8, .bin .lss (.t 5) (.t 7), none, []⟩]) ( .cond (.t 8) ( .skip) ( .exit 0))) ( .seq (.block 1 ( .seq (.region [ ⟨some 11, .mv (.t 0), none, []⟩, ⟨some 12, .mv (.t 3), none, []⟩, ⟨some 13, .iaddrS 7 (.t 11) (.t 12), none, []⟩, ⟨some 14, .load 7 true (.t 13), none, []⟩, ⟨some 15, .call 68 [.t 14, .c (.int .i64 8)], none, []⟩, ⟨some 4, .mv (.t 15), none, []⟩]) ( .seq (.region [ ⟨some 16, .mv (.t 4), none, []⟩, ⟨some 17, .un .not (.t 16), none, []⟩]) ( .cond (.t 17) ( .seq (.region [ ⟨some 2, .mv (.c (.bool false)), none, []⟩]) ( .ret)) ( .skip))))) ( .region [ ⟨some 9, .mv (.t 3), none, []⟩, ⟨some 10, .bin .add (.t 9) (.c (.int .i64 1)), none, []⟩, ⟨some 3, .mv (.t 10), none, []⟩])))))) ( .seq (.region [ ⟨some 2, .mv (.c (.bool true)), none, []⟩]) ( .ret))), .pure, true, true⟩
theorem k106 : compF Tryz.prog { mt := false, mtAt := [], mode := .pure, clArgs := true, clRes := true } Tryz.f106 = some c106 := by kernel_rfl
def c107 : AFunc := ⟨59, [.tmp 2], .seq (.region [ ⟨some 2, .mv (.c (.bool false)), none, []⟩]) ( .seq (.seq (.region [ ⟨some 5, .mv (.t 0), none, []⟩, ⟨some 6, .len true (.t 5), none, []⟩, ⟨some 7, .bin .lss (.t 6) (.c (.int .i64 1)), none, []⟩, ⟨some 8, .mv (.t 7), none, []⟩, ⟨some 9, .mv (.t 0), (some (8, false)), []⟩, ⟨some 10, .len true (.t 9), (some (8, false)), []⟩, ⟨some 11, .bin .gtr (.t 10) (.c (.int .i64 16)), (some (8, false)), []⟩, ⟨some 12, .pick (.t 8) (.c (.bool true)) (.t 11), none, []⟩, ⟨some 13, .mv (.t 12), none, []⟩, ⟨some 14, .mv (.t 0), (some (13, false)), []⟩, ⟨some 15, .idxStr (.t 14) (.c (.int .i64 0)), (some (13, false)), []⟩, ⟨some 16, .bin .lss (.t 15) (.c (.int .u8 65)), (some (13, false)), []⟩, ⟨some 17, .pick (.t 13) (.c (.bool true)) (.t 16), none, []⟩, ⟨some 18, .mv (.t 17), none, []⟩, ⟨some 19, .mv (.t 0), (some (18, false)), []⟩, ⟨some 20, .idxStr (.t 19) (.c (.int .i64 0)), (some (18, false)), []⟩, ⟨some 21, .bin .gtr (.t 20) (.c (.int .u8 90)), (some (18, false)), []⟩, ⟨some 22, .pick (.t 18) (.c (.bool true)) (.t 21), none, []⟩]) ( .cond (.t 22) ( .seq (.region [ ⟨some 2, .mv (.c (.bool false)), none, []⟩]) ( .ret)) ( .skip))) ( .seq (.seq (.region [ ⟨some 3, .mv (.c (.int .i64 1)), none, []⟩]) ( .block 0 ( .loop ( .seq (.seq (.region [ ⟨some 23, .mv (.t 3), none, []⟩, ⟨some 24, .mv (.t 0), none, []⟩, ⟨some 25, .len true (.t 24), none, []⟩, ⟨some 26, .bin .lss (.t 23) (.t 25), none, []⟩]) ( .cond (.t 26) ( .skip) ( .exit 0))) ( .seq (.block 1 ( .seq (.region [ ⟨some 29, .mv (.t 0), none, []⟩, ⟨some 30, .mv (.t 3), none, []⟩, ⟨some 31, .idxStr (.t 29) (.t 30), none, []⟩, ⟨some 4, .mv (.t 31), none, []⟩]) ( .seq (.region [ ⟨some 32, .mv (.t 4), none, []⟩, ⟨some 33, .bin .geq (.t 32) (.c (.int .u8 97)), none, []⟩, ⟨some 34, .mv (.t 33), none, []⟩, ⟨some 35, .mv (.t 4), (some (34, true)), []⟩, ⟨some 36, .bin .leq (.t 35) (.c (.int .u8 122)), (some (34, true)), []⟩, ⟨some 37, .pick (.t 34) (.t 36) (.c (.bool false)), none, []⟩, ⟨some 38, .mv (.t 37), none, []⟩, ⟨some 39, .mv (.t 4), (some (38, false)), []⟩, ⟨some 40, .bin .geq (.t 39) (.c (.int .u8 65)), (some (38, false)), []⟩, ⟨some 41, .mv (.t 40), (some (38, false)), []⟩, ⟨some 42, .mv (.t 4), (some (41, true)), []⟩, ⟨some 43, .bin .leq (.t 42) (.c (.int .u8 90)), (some (41, true)), []⟩, ⟨some 44, .pick (.t 41) (.t 43) (.c (.bool false)), (some (38, false)), []⟩, ⟨some 45, .pick (.t 38) (.c (.bool true)) (.t 44), none, []⟩, ⟨some 46, .mv (.t 45), none, []⟩, ⟨some 47, .mv (.t 4), (some (46, false)), []⟩, ⟨some 48, .bin .geq (.t 47) (.c (.int .u8 48)), (some (46, false)), []⟩, ⟨some 49, .mv (.t 48), (some (46, false)), []⟩, ⟨some 50, .mv (.t 4), (some (49, true)), []⟩, ⟨some 51, .bin .leq (.t 50) (.c (.int .u8 57)), (some (49, true)), []⟩, ⟨some 52, .pick (.t 49) (.t 51) (.c (.bool false)), (some (46, false)), []⟩, ⟨some 53, .pick (.t 46) (.c (.bool true)) (.t 52), none, []⟩, ⟨some 54, .mv (.t 53), none, []⟩, ⟨some 55, .mv (.t 4), (some (54, false)), []⟩, ⟨some 56, .bin .eql (.t 55) (.c (.int .u8 95)), (some (54, false)), []⟩, ⟨some 57, .pick (.t 54) (.c (.bool true)) (.t 56), none, []⟩, ⟨some 58, .un .not (.t 57), none, []⟩]) ( .cond (.t 58) ( .seq (.region [ ⟨some 2, .mv (.c (.bool false)), none, []⟩]) ( .ret)) ( .skip))))) ( .region [ ⟨some 27, .mv (.t 3), none, []⟩, ⟨some 28, .bin .add (.t 27) (.c (.int .i64 1)), none, []⟩, ⟨some 3, .mv (.t 28), none, []⟩])))))) ( .seq (.region [ ⟨some 2, .mv (.c (.bool true)), none, []⟩]) ( .ret)))), .pure, true, true⟩
theorem k107 : compF Tryz.prog { mt := false, mtAt := [], mode := .pure, clArgs := true, clRes := true } Tryz.f107 = some c107 := by kernel_rfl
def c108 : AFunc := ⟨22, [.tmp 2], .seq (.region [ ⟨some 1, .box (.t 0), none, []⟩, ⟨some 2, .mv (.c (.bool false)), none, []⟩]) ( .seq (.region [ ⟨some 3, .faddr 0 (.t 1), none, []⟩, ⟨some 4, .load 1 false (.t 3), none, []⟩, ⟨some 5, .bin .eql (.t 4) (.c (.int .i64 0)), none, []⟩, ⟨some 6, .mv (.t 5), none, []⟩, ⟨some 7, .faddr 1 (.t 1), (some (6, true)), []⟩, ⟨some 8, .load 1 false (.t 7), (some (6, true)), []⟩, ⟨some 9, .bin .eql (.t 8) (.c (.int .i64 0)), (some (6, true)), []⟩, ⟨some 10, .pick (.t 6) (.t 9) (.c (.bool false)), none, []⟩, ⟨some 11, .mv (.t 10), none, []⟩, ⟨some 12, .faddr 2 (.t 1), (some (11, true)), []⟩, ⟨some 13, .load 1 false (.t 12), (some (11, true)), []⟩, ⟨some 14, .bin .eql (.t 13) (.c (.str ⟨#[]⟩)), (some (11, true)), []⟩, ⟨some 15, .pick (.t 11) (.t 14) (.c (.bool false)), none, []⟩, ⟨some 16, .mv (.t 15), none, []⟩, ⟨some 17, .faddr 3 (.t 1), (some (16, true)), []⟩, ⟨some 18, .load 1 false (.t 17), (some (16, true)), []⟩, ⟨some 19, .len false (.t 18), (some (16, true)), []⟩, ⟨some 20, .bin .eql (.t 19) (.c (.int .i64 0)), (some (16, true)), []⟩, ⟨some 21, .pick (.t 16) (.t 20) (.c (.bool false)), none, []⟩, ⟨some 2, .mv (.t 21), none, []⟩]) ( .ret)), .pure, true, true⟩
theorem k108 : compF Tryz.prog { mt := false, mtAt := [], mode := .pure, clArgs := true, clRes := true } Tryz.f108 = some c108 := by kernel_rfl
def c109 : AFunc := ⟨13, [.tmp 4], .seq (.region [ ⟨some 4, .mv (.c (.int .i64 0)), none, []⟩]) ( .seq (.seq (.region [ ⟨some 5, .mv (.t 0), none, []⟩, ⟨some 6, .bin .lss (.t 5) (.c (.int .i64 0)), none, []⟩]) ( .cond (.t 6) ( .region [ ⟨some 7, .mv (.t 0), none, []⟩, ⟨some 8, .bin .add (.t 7) (.c (.int .i64 1)), none, []⟩, ⟨some 9, .un .neg (.t 8), none, []⟩, ⟨some 0, .mv (.t 9), none, []⟩]) ( .skip))) ( .seq (.region [ ⟨some 10, .mv (.t 0), none, []⟩, ⟨some 11, .mv (.t 1), none, []⟩, ⟨some 12, .bin .rem (.t 10) (.t 11), none, []⟩, ⟨some 4, .mv (.t 12), none, []⟩]) ( .ret))), .pure, true, true⟩
theorem k109 : compF Tryz.prog { mt := false, mtAt := [], mode := .pure, clArgs := true, clRes := true } Tryz.f109 = some c109 := by kernel_rfl
def c110 : AFunc := ⟨19, [.tmp 4], .seq (.region [ ⟨some 4, .mv (.c (.int .i64 0)), none, []⟩]) ( .seq (.seq (.region [ ⟨some 6, .mv (.t 0), none, []⟩, ⟨some 7, .len false (.t 6), none, []⟩, ⟨some 8, .mv (.c (.int .i64 0)), none, []⟩]) ( .block 0 ( .loop ( .seq (.region [ ⟨some 9, .bin .lss (.t 8) (.t 7), none, []⟩]) ( .seq (.cond (.t 9) ( .skip) ( .exit 0)) ( .seq (.block 1 ( .seq (.region [ ⟨some 10, .mv (.t 8), none, []⟩, ⟨some 5, .mv (.t 10), none, []⟩]) ( .seq (.region [ ⟨some 11, .mv (.t 1), none, []⟩, ⟨some 12, .mv (.t 0), none, []⟩, ⟨some 13, .mv (.t 5), none, []⟩, ⟨some 14, .iaddrS 2 (.t 12) (.t 13), none, []⟩, ⟨some 15, .load 2 true (.t 14), none, []⟩, ⟨some 16, .callv (.t 11) [.t 15], none, []⟩]) ( .cond (.t 16) ( .seq (.region [ ⟨some 17, .mv (.t 5), none, []⟩, ⟨some 4, .mv (.t 17), none, []⟩]) ( .ret)) ( .skip))))) ( .region [ ⟨some 18, .bin .add (.t 8) (.c (.int .i64 1)), none, []⟩, ⟨some 8, .mv (.t 18), none, []⟩]))))))) ( .seq (.region [ ⟨some 4, .mv (.c (.int .i64 (-1))), none, []⟩]) ( .ret))), .gc, false, false⟩
theorem k110 : compF Tryz.prog { mt := false, mtAt := [], mode := .gc, clArgs := false, clRes := false } Tryz.f110 = some c110 := by kernel_rfl
def c111 : AFunc := ⟨9, [.tmp 4], .seq (.region [ ⟨some 4, .mv (.c (.bool false)), none, []⟩]) ( .seq (.region [ ⟨some 5, .mv (.t 0), none, []⟩, ⟨some 6, .mv (.t 1), none, []⟩, ⟨some 7, .call 128 [.t 5, .t 6], none, []⟩, ⟨some 8, .bin .geq (.t 7) (.c (.int .i64 0)), none, []⟩, ⟨some 4, .mv (.t 8), none, []⟩]) ( .ret)), .gc, false, false⟩
theorem k111 : compF Tryz.prog { mt := false, mtAt := [], mode := .gc, clArgs := false, clRes := false } Tryz.f111 = some c111 := by kernel_rfl
def c112 : AFunc := ⟨8, [.tmp 3], .seq (.region [ ⟨some 2, .box (.t 0), none, []⟩, ⟨some 3, .mv (.c (.bool false)), none, []⟩]) ( .seq (.region [ ⟨some 4, .load 1 false (.t 1), none, []⟩, ⟨some 5, .load 4 true (.t 2), none, []⟩, ⟨some 6, .callv (.t 4) [.t 5], none, []⟩, ⟨some 7, .un .not (.t 6), none, []⟩, ⟨some 3, .mv (.t 7), none, []⟩]) ( .ret)), .gc, false, false⟩
theorem k112 : compF Tryz.prog { mt := false, mtAt := [], mode := .gc, clArgs := false, clRes := false } Tryz.f112 = some c112 := by kernel_rfl
def c113 : AFunc := ⟨67, [.tmp 4], .seq (.region [ ⟨some 2, .box (.t 0), none, []⟩, ⟨some 3, .box (.t 1), none, []⟩, ⟨some 4, .mv (.c (.bool false)), none, []⟩]) ( .seq (.region [ ⟨some 6, .load 4 true (.t 2), none, []⟩, ⟨some 5, .alloc [.int .i64 0, .int .i64 0, .str ⟨#[]⟩, .isl [] true], none, []⟩, ⟨none, .store 4 (.t 5) (.t 6), none, []⟩]) ( .seq (.region [ ⟨some 7, .faddr 0 (.t 5), none, []⟩, ⟨none, .store 1 (.t 7) (.c (.int .i64 0)), none, []⟩]) ( .seq (.seq (.region [ ⟨some 8, .faddr 0 (.t 2), none, []⟩, ⟨some 9, .load 1 false (.t 8), none, []⟩]) ( .block 0 ( .seq (.region [ ⟨some 11, .bin .eql (.t 9) (.c (.int .i64 1)), none, []⟩, ⟨some 10, .mv (.t 11), none, []⟩]) ( .cond (.t 10) ( .seq (.region [ ⟨some 12, .faddr 1 (.t 5), none, []⟩, ⟨none, .store 1 (.t 12) (.c (.int .i64 0)), none, []⟩]) ( .seq (.region [ ⟨some 13, .load 4 true (.t 5), none, []⟩, ⟨some 14, .call 129 [.t 13], none, []⟩, ⟨some 15, .mv (.t 14), none, []⟩, ⟨some 16, .faddr 1 (.t 2), (some (15, true)), []⟩, ⟨some 17, .load 1 false (.t 16), (some (15, true)), []⟩, ⟨some 18, .bin .leq (.t 17) (.c (.int .i64 2147483647)), (some (15, true)), []⟩, ⟨some 19, .pick (.t 15) (.t 18) (.c (.bool false)), none, []⟩, ⟨some 20, .mv (.t 19), none, []⟩, ⟨some 21, .faddr 1 (.t 2), (some (20, true)), []⟩, ⟨some 22, .load 1 false (.t 21), (some (20, true)), []⟩, ⟨some 23, .bin .geq (.t 22) (.c (.int .i64 (-2147483647))), (some (20, true)), []⟩, ⟨some 24, .pick (.t 20) (.t 23) (.c (.bool false)), none, []⟩, ⟨some 4, .mv (.t 24), none, []⟩]) ( .ret))) ( .seq (.region [ ⟨some 26, .bin .eql (.t 9) (.c (.int .i64 2)), none, []⟩, ⟨some 25, .mv (.t 26), none, []⟩]) ( .cond (.t 25) ( .seq (.region [ ⟨some 27, .faddr 2 (.t 5), none, []⟩, ⟨none, .store 1 (.t 27) (.c (.str ⟨#[]⟩)), none, []⟩]) ( .seq (.region [ ⟨some 28, .load 4 true (.t 5), none, []⟩, ⟨some 29, .call 129 [.t 28], none, []⟩, ⟨some 30, .mv (.t 29), none, []⟩, ⟨some 31, .faddr 2 (.t 2), (some (30, true)), []⟩, ⟨some 32, .load 1 false (.t 31), (some (30, true)), []⟩, ⟨some 33, .call 130 [.t 32], (some (30, true)), []⟩, ⟨some 34, .pick (.t 30) (.t 33) (.c (.bool false)), none, []⟩, ⟨some 4, .mv (.t 34), none, []⟩]) ( .ret))) ( .seq (.region [ ⟨some 36, .bin .eql (.t 9) (.c (.int .i64 3)), none, []⟩, ⟨some 35, .mv (.t 36), none, []⟩]) ( .cond (.t 35) ( .seq (.region [ ⟨some 37, .faddr 2 (.t 5), none, []⟩, ⟨none, .store 1 (.t 37) (.c (.str ⟨#[]⟩)), none, []⟩]) ( .seq (.region [ ⟨some 38, .load 4 true (.t 5), none, []⟩, ⟨some 39, .call 129 [.t 38], none, []⟩, ⟨some 40, .mv (.t 39), none, []⟩, ⟨some 41, .faddr 2 (.t 2), (some (40, true)), []⟩, ⟨some 42, .load 1 false (.t 41), (some (40, true)), []⟩, ⟨some 43, .call 82 [.t 42], (some (40, true)), []⟩, ⟨some 44, .pick (.t 40) (.t 43) (.c (.bool false)), none, []⟩, ⟨some 4, .mv (.t 44), none, []⟩]) ( .ret))) ( .seq (.region [ ⟨some 46, .bin .eql (.t 9) (.c (.int .i64 4)), none, []⟩, ⟨some 45, .mv (.t 46), none, []⟩]) ( .cond (.t 45) ( .seq (.region [ ⟨some 47, .faddr 3 (.t 5), none, []⟩, ⟨none, .store 1 (.t 47) (.c (.isl [] true)), none, []⟩]) ( .seq (.region [ ⟨some 48, .load 4 true (.t 5), none, []⟩, ⟨some 49, .call 129 [.t 48], none, []⟩, ⟨some 50, .mv (.t 49), none, []⟩, ⟨some 51, .load 1 false (.t 3), (some (50, true)), []⟩, ⟨some 52, .bin .gtr (.t 51) (.c (.int .i64 0)), (some (50, true)), []⟩, ⟨some 53, .pick (.t 50) (.t 52) (.c (.bool false)), none, []⟩, ⟨some 54, .mv (.t 53), none, []⟩, ⟨some 55, .faddr 3 (.t 2), (some (54, true)), []⟩, ⟨some 56, .load 1 false (.t 55), (some (54, true)), []⟩, ⟨some 57, .len false (.t 56), (some (54, true)), []⟩, ⟨some 58, .bin .leq (.t 57) (.c (.int .i64 16)), (some (54, true)), []⟩, ⟨some 59, .pick (.t 54) (.t 58) (.c (.bool false)), none, []⟩, ⟨some 60, .mv (.t 59), none, []⟩, ⟨some 61, .faddr 3 (.t 2), (some (60, true)), []⟩, ⟨some 62, .load 1 false (.t 61), (some (60, true)), []⟩, ⟨some 63, .mkfn 131 [.t 3], (some (60, true)), []⟩, ⟨some 64, .call 111 [.t 62, .t 63], (some (60, true)), []⟩, ⟨some 65, .un .not (.t 64), (some (60, true)), []⟩, ⟨some 66, .pick (.t 60) (.t 65) (.c (.bool false)), none, []⟩, ⟨some 4, .mv (.t 66), none, []⟩]) ( .ret))) ( .skip))))))))))) ( .seq (.region [ ⟨some 4, .mv (.c (.bool false)), none, []⟩]) ( .ret))))), .pure, true, true⟩
theorem k113 : compF Tryz.prog { mt := false, mtAt := [], mode := .pure, clArgs := true, clRes := true } Tryz.f113 = some c113 := by kernel_rfl
def c114 : AFunc := ⟨19, [.tmp 4], .seq (.region [ ⟨some 4, .mv (.c (.int .i64 0)), none, []⟩]) ( .seq (.seq (.region [ ⟨some 6, .mv (.t 0), none, []⟩, ⟨some 7, .len false (.t 6), none, []⟩, ⟨some 8, .mv (.c (.int .i64 0)), none, []⟩]) ( .block 0 ( .loop ( .seq (.region [ ⟨some 9, .bin .lss (.t 8) (.t 7), none, []⟩]) ( .seq (.cond (.t 9) ( .skip) ( .exit 0)) ( .seq (.block 1 ( .seq (.region [ ⟨some 10, .mv (.t 8), none, []⟩, ⟨some 5, .mv (.t 10), none, []⟩]) ( .seq (.region [ ⟨some 11, .mv (.t 1), none, []⟩, ⟨some 12, .mv (.t 0), none, []⟩, ⟨some 13, .mv (.t 5), none, []⟩, ⟨some 14, .iaddrS 6 (.t 12) (.t 13), none, []⟩, ⟨some 15, .load 6 true (.t 14), none, []⟩, ⟨some 16, .callv (.t 11) [.t 15], none, []⟩]) ( .cond (.t 16) ( .seq (.region [ ⟨some 17, .mv (.t 5), none, []⟩, ⟨some 4, .mv (.t 17), none, []⟩]) ( .ret)) ( .skip))))) ( .region [ ⟨some 18, .bin .add (.t 8) (.c (.int .i64 1)), none, []⟩, ⟨some 8, .mv (.t 18), none, []⟩]))))))) ( .seq (.region [ ⟨some 4, .mv (.c (.int .i64 (-1))), none, []⟩]) ( .ret))), .gc, false, false⟩
theorem k114 : compF Tryz.prog { mt := false, mtAt := [], mode := .gc, clArgs := false, clRes := false } Tryz.f114 = some c114 := by kernel_rfl
def c115 : AFunc := ⟨9, [.tmp 4], .seq (.region [ ⟨some 4, .mv (.c (.bool false)), none, []⟩]) ( .seq (.region [ ⟨some 5, .mv (.t 0), none, []⟩, ⟨some 6, .mv (.t 1), none, []⟩, ⟨some 7, .call 132 [.t 5, .t 6], none, []⟩, ⟨some 8, .bin .geq (.t 7) (.c (.int .i64 0)), none, []⟩, ⟨some 4, .mv (.t 8), none, []⟩]) ( .ret)), .gc, false, false⟩
theorem k115 : compF Tryz.prog { mt := false, mtAt := [], mode := .gc, clArgs := false, clRes := false } Tryz.f115 = some c115 := by kernel_rfl
def c116 : AFunc := ⟨8, [.tmp 3], .seq (.region [ ⟨some 2, .box (.t 0), none, []⟩, ⟨some 3, .mv (.c (.bool false)), none, []⟩]) ( .seq (.region [ ⟨some 4, .load 1 false (.t 1), none, []⟩, ⟨some 5, .load 3 true (.t 2), none, []⟩, ⟨some 6, .callv (.t 4) [.t 5], none, []⟩, ⟨some 7, .un .not (.t 6), none, []⟩, ⟨some 3, .mv (.t 7), none, []⟩]) ( .ret)), .gc, false, false⟩
theorem k116 : compF Tryz.prog { mt := false, mtAt := [], mode := .gc, clArgs := false, clRes := false } Tryz.f116 = some c116 := by kernel_rfl
def c117 : AFunc := ⟨19, [.tmp 4], .seq (.region [ ⟨some 4, .mv (.c (.int .i64 0)), none, []⟩]) ( .seq (.seq (.region [ ⟨some 6, .mv (.t 0), none, []⟩, ⟨some 7, .len false (.t 6), none, []⟩, ⟨some 8, .mv (.c (.int .i64 0)), none, []⟩]) ( .block 0 ( .loop ( .seq (.region [ ⟨some 9, .bin .lss (.t 8) (.t 7), none, []⟩]) ( .seq (.cond (.t 9) ( .skip) ( .exit 0)) ( .seq (.block 1 ( .seq (.region [ ⟨some 10, .mv (.t 8), none, []⟩, ⟨some 5, .mv (.t 10), none, []⟩]) ( .seq (.region [ ⟨some 11, .mv (.t 1), none, []⟩, ⟨some 12, .mv (.t 0), none, []⟩, ⟨some 13, .mv (.t 5), none, []⟩, ⟨some 14, .iaddrS 2 (.t 12) (.t 13), none, []⟩, ⟨some 15, .load 2 true (.t 14), none, []⟩, ⟨some 16, .callv (.t 11) [.t 15], none, []⟩]) ( .cond (.t 16) ( .seq (.region [ ⟨some 17, .mv (.t 5), none, []⟩, ⟨some 4, .mv (.t 17), none, []⟩]) ( .ret)) ( .skip))))) ( .region [ ⟨some 18, .bin .add (.t 8) (.c (.int .i64 1)), none, []⟩, ⟨some 8, .mv (.t 18), none, []⟩]))))))) ( .seq (.region [ ⟨some 4, .mv (.c (.int .i64 (-1))), none, []⟩]) ( .ret))), .gc, false, false⟩
theorem k117 : compF Tryz.prog { mt := false, mtAt := [], mode := .gc, clArgs := false, clRes := false } Tryz.f117 = some c117 := by kernel_rfl
def c118 : AFunc := ⟨34, [.cell 2 3 true], .seq (.region [ ⟨some 2, .alloc [.int .i64 0, .int .i64 0, .nilfunc], none, []⟩]) ( .seq (.seq (.region [ ⟨some 3, .mv (.t 0), none, []⟩]) ( .block 0 ( .seq (.region [ ⟨some 5, .bin .eql (.t 3) (.c (.str ⟨#[102, 95, 99, 111, 110, 115]⟩)), none, []⟩, ⟨some 4, .mv (.t 5), none, []⟩]) ( .cond (.t 4) ( .seq (.region [ ⟨some 6, .build [.int .i64 0, .int .i64 0, .nilfunc] [(0, 1, .c (.int .i64 2)), (1, 1, .c (.int .i64 1)), (2, 1, .f 133)], none, []⟩, ⟨none, .store 3 (.t 2) (.t 6), none, []⟩]) ( .ret)) ( .seq (.region [ ⟨some 8, .bin .eql (.t 3) (.c (.str ⟨#[102, 95, 97, 112, 112, 101, 110, 100]⟩)), none, []⟩, ⟨some 7, .mv (.t 8), none, []⟩]) ( .cond (.t 7) ( .seq (.region [ ⟨some 9, .build [.int .i64 0, .int .i64 0, .nilfunc] [(0, 1, .c (.int .i64 2)), (1, 1, .c (.int .i64 0)), (2, 1, .f 134)], none, []⟩, ⟨none, .store 3 (.t 2) (.t 9), none, []⟩]) ( .ret)) ( .seq (.region [ ⟨some 11, .bin .eql (.t 3) (.c (.str ⟨#[102, 95, 99, 111, 110, 99, 97, 116]⟩)), none, []⟩, ⟨some 10, .mv (.t 11), none, []⟩]) ( .cond (.t 10) ( .seq (.region [ ⟨some 12, .build [.int .i64 0, .int .i64 0, .nilfunc] [(0, 1, .c (.int .i64 2)), (1, 1, .c (.int .i64 0)), (2, 1, .f 135)], none, []⟩, ⟨none, .store 3 (.t 2) (.t 12), none, []⟩]) ( .ret)) ( .seq (.region [ ⟨some 14, .bin .eql (.t 3) (.c (.str ⟨#[102, 95, 109, 101, 109, 98, 101, 114]⟩)), none, []⟩, ⟨some 13, .mv (.t 14), none, []⟩]) ( .cond (.t 13) ( .seq (.region [ ⟨some 15, .build [.int .i64 0, .int .i64 0, .nilfunc] [(0, 1, .c (.int .i64 2)), (1, 1, .c (.int .i64 0)), (2, 1, .f 136)], none, []⟩, ⟨none, .store 3 (.t 2) (.t 15), none, []⟩]) ( .ret)) ( .seq (.region [ ⟨some 17, .bin .eql (.t 3) (.c (.str ⟨#[102, 95, 115, 105, 122, 101]⟩)), none, []⟩, ⟨some 16, .mv (.t 17), none, []⟩]) ( .cond (.t 16) ( .seq (.region [ ⟨some 18, .build [.int .i64 0, .int .i64 0, .nilfunc] [(0, 1, .c (.int .i64 1)), (1, 1, .c (.int .i64 0)), (2, 1, .f 137)], none, []⟩, ⟨none, .store 3 (.t 2) (.t 18), none, []⟩]) ( .ret)) ( .seq (.region [ ⟨some 20, .bin .eql (.t 3) (.c (.str ⟨#[102, 95, 102, 105, 114, 115, 116]⟩)), none, []⟩, ⟨some 19, .mv (.t 20), none, []⟩]) ( .cond (.t 19) ( .seq (.region [ ⟨some 21, .call 138 [.c (.bool false)], none, []⟩, ⟨some 22, .build [.int .i64 0, .int .i64 0, .nilfunc] [(0, 1, .c (.int .i64 1)), (1, 1, .c (.int .i64 0)), (2, 1, .t 21)], none, []⟩, ⟨none, .store 3 (.t 2) (.t 22), none, []⟩]) ( .ret)) ( .seq (.region [ ⟨some 24, .bin .eql (.t 3) (.c (.str ⟨#[102, 95, 108, 97, 115, 116]⟩)), none, []⟩, ⟨some 23, .mv (.t 24), none, []⟩]) ( .cond (.t 23) ( .seq (.region [ ⟨some 25, .call 138 [.c (.bool true)], none, []⟩, ⟨some 26, .build [.int .i64 0, .int .i64 0, .nilfunc] [(0, 1, .c (.int .i64 1)), (1, 1, .c (.int .i64 0)), (2, 1, .t 25)], none, []⟩, ⟨none, .store 3 (.t 2) (.t 26), none, []⟩]) ( .ret)) ( .seq (.region [ ⟨some 28, .bin .eql (.t 3) (.c (.str ⟨#[102, 95, 114, 101, 115, 116]⟩)), none, []⟩, ⟨some 27, .mv (.t 28), none, []⟩]) ( .cond (.t 27) ( .seq (.region [ ⟨some 29, .build [.int .i64 0, .int .i64 0, .nilfunc] [(0, 1, .c (.int .i64 1)), (1, 1, .c (.int .i64 0)), (2, 1, .f 139)], none, []⟩, ⟨none, .store 3 (.t 2) (.t 29), none, []⟩]) ( .ret)) ( .seq (.region [ ⟨some 31, .bin .eql (.t 3) (.c (.str ⟨#[102, 95, 114, 101, 118, 101, 114, 115, 101]⟩)), none, []⟩, ⟨some 30, .mv (.t 31), none, []⟩]) ( .cond (.t 30) ( .seq (.region [ ⟨some 32, .build [.int .i64 0, .int .i64 0, .nilfunc] [(0, 1, .c (.int .i64 1)), (1, 1, .c (.int .i64 0)), (2, 1, .f 140)], none, []⟩, ⟨none, .store 3 (.t 2) (.t 32), none, []⟩]) ( .ret)) ( .skip))))))))))))))))))))) ( .seq (.region [ ⟨some 33, .build [.int .i64 0, .int .i64 0, .nilfunc] [(0, 1, .c (.int .i64 (-1)))], none, []⟩, ⟨none, .store 3 (.t 2) (.t 33), none, []⟩]) ( .ret))), .pure, true, true⟩
theorem k118 : compF Tryz.prog { mt := false, mtAt := [], mode := .pure, clArgs := true, clRes := true } Tryz.f118 = some c118 := by kernel_rfl
def c121 : AFunc := ⟨55, [], .seq (.region [ ⟨some 3, .box (.t 1), none, []⟩]) ( .seq (.region [ ⟨some 6, .faddr 0 (.t 3), none, []⟩, ⟨some 7, .load 1 false (.t 6), none, []⟩]) ( .block 0 ( .seq (.region [ ⟨some 9, .bin .eql (.t 7) (.c (.int .i64 1)), none, []⟩, ⟨some 8, .mv (.t 9), none, []⟩]) ( .cond (.t 8) ( .region [ ⟨some 10, .mv (.t 0), none, []⟩, ⟨some 11, .faddr 1 (.t 3), none, []⟩, ⟨some 12, .load 1 false (.t 11), none, []⟩, ⟨some 13, .call 43 [.t 12], none, []⟩, ⟨some 14, .call 42 [.t 10, .t 13], none, []⟩]) ( .seq (.region [ ⟨some 16, .bin .eql (.t 7) (.c (.int .i64 2)), none, []⟩, ⟨some 15, .mv (.t 16), none, []⟩]) ( .cond (.t 15) ( .region [ ⟨some 17, .mv (.t 0), none, []⟩, ⟨some 18, .faddr 2 (.t 3), none, []⟩, ⟨some 19, .load 1 false (.t 18), none, []⟩, ⟨some 20, .bin .add (.c (.str ⟨#[34]⟩)) (.t 19), none, []⟩, ⟨some 21, .bin .add (.t 20) (.c (.str ⟨#[34]⟩)), none, []⟩, ⟨some 22, .call 42 [.t 17, .t 21], none, []⟩]) ( .seq (.region [ ⟨some 24, .bin .eql (.t 7) (.c (.int .i64 3)), none, []⟩, ⟨some 23, .mv (.t 24), none, []⟩]) ( .cond (.t 23) ( .region [ ⟨some 25, .mv (.t 0), none, []⟩, ⟨some 26, .faddr 2 (.t 3), none, []⟩, ⟨some 27, .load 1 false (.t 26), none, []⟩, ⟨some 28, .call 42 [.t 25, .t 27], none, []⟩]) ( .seq (.region [ ⟨some 30, .bin .eql (.t 7) (.c (.int .i64 4)), none, []⟩, ⟨some 29, .mv (.t 30), none, []⟩]) ( .cond (.t 29) ( .seq (.seq (.region [ ⟨some 31, .faddr 3 (.t 3), none, []⟩, ⟨some 32, .load 1 false (.t 31), none, []⟩, ⟨some 33, .len false (.t 32), none, []⟩, ⟨some 34, .mv (.c (.int .i64 0)), none, []⟩]) ( .block 1 ( .loop ( .seq (.region [ ⟨some 35, .bin .lss (.t 34) (.t 33), none, []⟩]) ( .seq (.cond (.t 35) ( .skip) ( .exit 1)) ( .seq (.block 2 ( .seq (.region [ ⟨some 36, .mv (.t 34), none, []⟩, ⟨some 37, .iaddrS 4 (.t 32) (.t 34), none, []⟩, ⟨some 38, .load 4 true (.t 37), none, []⟩, ⟨some 5, .alloc [.int .i64 0, .int .i64 0, .str ⟨#[]⟩, .isl [] true], none, []⟩, ⟨some 4, .mv (.t 36), none, []⟩, ⟨none, .store 4 (.t 5) (.t 38), none, []⟩]) ( .seq (.region [ ⟨some 39, .mv (.t 0), none, []⟩, ⟨some 40, .mv (.t 4), none, []⟩, ⟨some 41, .min2 (.t 40) (.c (.int .i64 1)), none, []⟩, ⟨some 42, .idxStr (.c (.str ⟨#[91, 44]⟩)) (.t 41), none, []⟩, ⟨some 43, .call 45 [.t 39, .t 42], none, []⟩]) ( .region [ ⟨some 44, .mv (.t 0), none, []⟩, ⟨some 45, .load 4 true (.t 5), none, []⟩, ⟨some 46, .call 121 [.t 44, .t 45], none, []⟩])))) ( .region [ ⟨some 47, .bin .add (.t 34) (.c (.int .i64 1)), none, []⟩, ⟨some 34, .mv (.t 47), none, []⟩]))))))) ( .region [ ⟨some 48, .mv (.t 0), none, []⟩, ⟨some 49, .faddr 3 (.t 3), none, []⟩, ⟨some 50, .load 1 false (.t 49), none, []⟩, ⟨some 51, .len false (.t 50), none, []⟩, ⟨some 52, .min2 (.t 51) (.c (.int .i64 1)), none, []⟩, ⟨some 53, .strSl (.c (.str ⟨#[91, 93]⟩)) (some (.t 52)) none, none, []⟩, ⟨some 54, .call 42 [.t 48, .t 53], none, []⟩])) ( .skip))))))))))), .gc, false, true⟩
theorem k121 : compF Tryz.prog { mt := false, mtAt := [], mode := .gc, clArgs := false, clRes := true } Tryz.f121 = some c121 := by kernel_rfl
def c122 : AFunc := ⟨27, [], .seq (.region [ ⟨some 6, .box (.t 1), none, []⟩]) ( .seq (.seq (.region [ ⟨some 7, .load 1 false (.t 2), none, []⟩, ⟨some 8, .bin .neq (.t 7) (.c (.str ⟨#[]⟩)), none, []⟩, ⟨some 9, .mv (.t 8), none, []⟩, ⟨some 10, .mv (.t 0), (some (9, true)), []⟩, ⟨some 11, .load 1 false (.t 3), (some (9, true)), []⟩, ⟨some 12, .bin .eql (.t 10) (.t 11), (some (9, true)), []⟩, ⟨some 13, .pick (.t 9) (.t 12) (.c (.bool false)), none, []⟩]) ( .cond (.t 13) ( .seq (.region [ ⟨some 14, .load 1 false (.t 4), none, []⟩, ⟨some 15, .nilck (.t 14), none, []⟩, ⟨some 16, .faddr 0 (.t 15), none, []⟩, ⟨some 17, .load 1 false (.t 2), none, []⟩, ⟨some 18, .bin .add (.t 17) (.c (.str ⟨#[60]⟩)), none, []⟩, ⟨some 19, .faddr 1 (.t 6), none, []⟩, ⟨some 20, .load 1 false (.t 19), none, []⟩, ⟨some 21, .bin .add (.t 18) (.t 20), none, []⟩, ⟨some 22, .bin .add (.t 21) (.c (.str ⟨#[62]⟩)), none, []⟩, ⟨some 23, .call 42 [.t 16, .t 22], none, []⟩]) ( .ret)) ( .skip))) ( .region [ ⟨some 24, .load 1 false (.t 4), none, []⟩, ⟨some 25, .load 7 true (.t 6), none, []⟩, ⟨some 26, .call 53 [.t 24, .t 25], none, []⟩])), .gc, false, false⟩
theorem k122 : compF Tryz.prog { mt := false, mtAt := [], mode := .gc, clArgs := false, clRes := false } Tryz.f122 = some c122 := by kernel_rfl
def c123 : AFunc := ⟨8, [.tmp 3], .seq (.region [ ⟨some 2, .box (.t 0), none, []⟩, ⟨some 3, .mv (.c (.bool false)), none, []⟩]) ( .seq (.region [ ⟨some 4, .load 7 true (.t 2), none, []⟩, ⟨some 5, .load 1 false (.t 1), none, []⟩, ⟨some 6, .bin .sub (.t 5) (.c (.int .i64 1)), none, []⟩, ⟨some 7, .call 94 [.t 4, .t 6], none, []⟩, ⟨some 3, .mv (.t 7), none, []⟩]) ( .ret)), .gc, false, false⟩
theorem k123 : compF Tryz.prog { mt := false, mtAt := [], mode := .gc, clArgs := false, clRes := false } Tryz.f123 = some c123 := by kernel_rfl
def c124 : AFunc := ⟨19, [.tmp 4], .seq (.region [ ⟨some 4, .mv (.c (.int .i64 0)), none, []⟩]) ( .seq (.seq (.region [ ⟨some 6, .mv (.t 0), none, []⟩, ⟨some 7, .len false (.t 6), none, []⟩, ⟨some 8, .mv (.c (.int .i64 0)), none, []⟩]) ( .block 0 ( .loop ( .seq (.region [ ⟨some 9, .bin .lss (.t 8) (.t 7), none, []⟩]) ( .seq (.cond (.t 9) ( .skip) ( .exit 0)) ( .seq (.block 1 ( .seq (.region [ ⟨some 10, .mv (.t 8), none, []⟩, ⟨some 5, .mv (.t 10), none, []⟩]) ( .seq (.region [ ⟨some 11, .mv (.t 1), none, []⟩, ⟨some 12, .mv (.t 0), none, []⟩, ⟨some 13, .mv (.t 5), none, []⟩, ⟨some 14, .iaddrS 1 (.t 12) (.t 13), none, []⟩, ⟨some 15, .load 1 false (.t 14), none, []⟩, ⟨some 16, .bin .eql (.t 11) (.t 15), none, []⟩]) ( .cond (.t 16) ( .seq (.region [ ⟨some 17, .mv (.t 5), none, []⟩, ⟨some 4, .mv (.t 17), none, []⟩]) ( .ret)) ( .skip))))) ( .region [ ⟨some 18, .bin .add (.t 8) (.c (.int .i64 1)), none, []⟩, ⟨some 8, .mv (.t 18), none, []⟩]))))))) ( .seq (.region [ ⟨some 4, .mv (.c (.int .i64 (-1))), none, []⟩]) ( .ret))), .pure, true, true⟩
theorem k124 : compF Tryz.prog { mt := false, mtAt := [], mode := .pure, clArgs := true, clRes := true } Tryz.f124 = some c124 := by kernel_rfl
def c125 : AFunc := ⟨9, [.tmp 4], .seq (.region [ ⟨some 4, .mv (.c (.bool false)), none, []⟩]) ( .seq (.region [ ⟨some 5, .mv (.t 0), none, []⟩, ⟨some 6, .mv (.t 1), none, []⟩, ⟨some 7, .call 145 [.t 5, .t 6], none, []⟩, ⟨some 8, .bin .geq (.t 7) (.c (.int .i64 0)), none, []⟩, ⟨some 4, .mv (.t 8), none, []⟩]) ( .ret)), .gc, false, false⟩
theorem k125 : compF Tryz.prog { mt := false, mtAt := [], mode := .gc, clArgs := false, clRes := false } Tryz.f125 = some c125 := by kernel_rfl
def c126 : AFunc := ⟨8, [.tmp 3], .seq (.region [ ⟨some 2, .box (.t 0), none, []⟩, ⟨some 3, .mv (.c (.bool false)), none, []⟩]) ( .seq (.region [ ⟨some 4, .load 1 false (.t 1), none, []⟩, ⟨some 5, .load 7 true (.t 2), none, []⟩, ⟨some 6, .callv (.t 4) [.t 5], none, []⟩, ⟨some 7, .un .not (.t 6), none, []⟩, ⟨some 3, .mv (.t 7), none, []⟩]) ( .ret)), .gc, false, false⟩
theorem k126 : compF Tryz.prog { mt := false, mtAt := [], mode := .gc, clArgs := false, clRes := false } Tryz.f126 = some c126 := by kernel_rfl
def c127 : AFunc := ⟨125, [.tmp 4], .seq (.region [ ⟨some 2, .box (.t 0), none, []⟩, ⟨some 4, .mv (.c (.bool false)), none, []⟩]) ( .seq (.seq (.region [ ⟨some 9, .faddr 0 (.t 2), none, []⟩, ⟨some 10, .load 1 false (.t 9), none, []⟩, ⟨some 11, .bin .eql (.t 10) (.c (.int .i64 1)), none, []⟩]) ( .cond (.t 11) ( .seq (.region [ ⟨some 12, .faddr 2 (.t 2), none, []⟩, ⟨some 13, .load 1 false (.t 12), none, []⟩, ⟨some 14, .bin .eql (.t 13) (.c (.str ⟨#[]⟩)), none, []⟩, ⟨some 15, .mv (.t 14), none, []⟩, ⟨some 16, .faddr 3 (.t 2), (some (15, true)), []⟩, ⟨some 17, .load 1 false (.t 16), (some (15, true)), []⟩, ⟨some 18, .len false (.t 17), (some (15, true)), []⟩, ⟨some 19, .bin .eql (.t 18) (.c (.int .i64 0)), (some (15, true)), []⟩, ⟨some 20, .pick (.t 15) (.t 19) (.c (.bool false)), none, []⟩, ⟨some 21, .mv (.t 20), none, []⟩, ⟨some 22, .faddr 1 (.t 2), (some (21, true)), []⟩, ⟨some 23, .load 1 false (.t 22), (some (21, true)), []⟩, ⟨some 24, .bin .leq (.t 23) (.c (.int .i64 2147483647)), (some (21, true)), []⟩, ⟨some 25, .pick (.t 21) (.t 24) (.c (.bool false)), none, []⟩, ⟨some 26, .mv (.t 25), none, []⟩, ⟨some 27, .faddr 1 (.t 2), (some (26, true)), []⟩, ⟨some 28, .load 1 false (.t 27), (some (26, true)), []⟩, ⟨some 29, .bin .geq (.t 28) (.c (.int .i64 (-2147483647))), (some (26, true)), []⟩, ⟨some 30, .pick (.t 26) (.t 29) (.c (.bool false)), none, []⟩, ⟨some 4, .mv (.t 30), none, []⟩]) ( .ret)) ( .skip))) ( .seq (.seq (.region [ ⟨some 31, .faddr 1 (.t 2), none, []⟩, ⟨some 32, .load 1 false (.t 31), none, []⟩, ⟨some 33, .bin .neq (.t 32) (.c (.int .i64 0)), none, []⟩]) ( .cond (.t 33) ( .seq (.region [ ⟨some 4, .mv (.c (.bool false)), none, []⟩]) ( .ret)) ( .skip))) ( .seq (.seq (.region [ ⟨some 34, .faddr 0 (.t 2), none, []⟩, ⟨some 35, .load 1 false (.t 34), none, []⟩]) ( .block 0 ( .seq (.region [ ⟨some 37, .bin .eql (.t 35) (.c (.int .i64 2)), none, []⟩, ⟨some 36, .mv (.t 37), none, []⟩]) ( .cond (.t 36) ( .seq (.seq (.region [ ⟨some 5, .mv (.c (.int .i64 0)), none, []⟩]) ( .block 1 ( .loop ( .seq (.seq (.region [ ⟨some 38, .mv (.t 5), none, []⟩, ⟨some 39, .faddr 2 (.t 2), none, []⟩, ⟨some 40, .load 1 false (.t 39), none, []⟩, ⟨some 41, .len true (.t 40), none, []⟩, ⟨some 42, .bin .lss (.t 38) (.t 41), none, []⟩]) ( .cond (.t 42) ( .skip) ( .exit 1))) ( .seq (.block 2 ( .seq (.region [ ⟨some 45, .faddr 2 (.t 2), none, []⟩, ⟨some 46, .load 1 false (.t 45), none, []⟩, ⟨some 47, .mv (.t 5), none, []⟩, ⟨some 48, .idxStr (.t 46) (.t 47), none, []⟩, ⟨some 49, .bin .lss (.t 48) (.c (.int .u8 32)), none, []⟩, ⟨some 50, .mv (.t 49), none, []⟩, ⟨some 51, .faddr 2 (.t 2), (some (50, false)), []⟩, ⟨some 52, .load 1 false (.t 51), (some (50, false)), []⟩, ⟨some 53, .mv (.t 5), (some (50, false)), []⟩, ⟨some 54, .idxStr (.t 52) (.t 53), (some (50, false)), []⟩, ⟨some 55, .bin .gtr (.t 54) (.c (.int .u8 126)), (some (50, false)), []⟩, ⟨some 56, .pick (.t 50) (.c (.bool true)) (.t 55), none, []⟩, ⟨some 57, .mv (.t 56), none, []⟩, ⟨some 58, .faddr 2 (.t 2), (some (57, false)), []⟩, ⟨some 59, .load 1 false (.t 58), (some (57, false)), []⟩, ⟨some 60, .mv (.t 5), (some (57, false)), []⟩, ⟨some 61, .idxStr (.t 59) (.t 60), (some (57, false)), []⟩, ⟨some 62, .bin .eql (.t 61) (.c (.int .u8 34)), (some (57, false)), []⟩, ⟨some 63, .pick (.t 57) (.c (.bool true)) (.t 62), none, []⟩, ⟨some 64, .mv (.t 63), none, []⟩, ⟨some 65, .faddr 2 (.t 2), (some (64, false)), []⟩, ⟨some 66, .load 1 false (.t 65), (some (64, false)), []⟩, ⟨some 67, .mv (.t 5), (some (64, false)), []⟩, ⟨some 68, .idxStr (.t 66) (.t 67), (some (64, false)), []⟩, ⟨some 69, .bin .eql (.t 68) (.c (.int .u8 92)), (some (64, false)), []⟩, ⟨some 70, .pick (.t 64) (.c (.bool true)) (.t 69), none, []⟩]) ( .cond (.t 70) ( .seq (.region [ ⟨some 4, .mv (.c (.bool false)), none, []⟩]) ( .ret)) ( .skip)))) ( .region [ ⟨some 43, .mv (.t 5), none, []⟩, ⟨some 44, .bin .add (.t 43) (.c (.int .i64 1)), none, []⟩, ⟨some 5, .mv (.t 44), none, []⟩])))))) ( .seq (.region [ ⟨some 71, .faddr 2 (.t 2), none, []⟩, ⟨some 72, .load 1 false (.t 71), none, []⟩, ⟨some 73, .len true (.t 72), none, []⟩, ⟨some 74, .bin .leq (.t 73) (.c (.int .i64 32)), none, []⟩, ⟨some 75, .mv (.t 74), none, []⟩, ⟨some 76, .faddr 3 (.t 2), (some (75, true)), []⟩, ⟨some 77, .load 1 false (.t 76), (some (75, true)), []⟩, ⟨some 78, .len false (.t 77), (some (75, true)), []⟩, ⟨some 79, .bin .eql (.t 78) (.c (.int .i64 0)), (some (75, true)), []⟩, ⟨some 80, .pick (.t 75) (.t 79) (.c (.bool false)), none, []⟩, ⟨some 4, .mv (.t 80), none, []⟩]) ( .ret))) ( .seq (.region [ ⟨some 82, .bin .eql (.t 35) (.c (.int .i64 3)), none, []⟩, ⟨some 81, .mv (.t 82), none, []⟩]) ( .cond (.t 81) ( .seq (.region [ ⟨some 83, .faddr 2 (.t 2), none, []⟩, ⟨some 84, .load 1 false (.t 83), none, []⟩, ⟨some 85, .call 101 [.t 84], none, []⟩, ⟨some 6, .mv (.t 85), none, []⟩]) ( .seq (.region [ ⟨some 86, .mv (.t 6), none, []⟩, ⟨some 87, .mv (.t 86), none, []⟩, ⟨some 88, .faddr 3 (.t 2), (some (87, true)), []⟩, ⟨some 89, .load 1 false (.t 88), (some (87, true)), []⟩, ⟨some 90, .len false (.t 89), (some (87, true)), []⟩, ⟨some 91, .bin .eql (.t 90) (.c (.int .i64 0)), (some (87, true)), []⟩, ⟨some 92, .pick (.t 87) (.t 91) (.c (.bool false)), none, []⟩, ⟨some 4, .mv (.t 92), none, []⟩]) ( .ret))) ( .seq (.region [ ⟨some 94, .bin .eql (.t 35) (.c (.int .i64 4)), none, []⟩, ⟨some 93, .mv (.t 94), none, []⟩]) ( .cond (.t 93) ( .seq (.seq (.region [ ⟨some 95, .faddr 2 (.t 2), none, []⟩, ⟨some 96, .load 1 false (.t 95), none, []⟩, ⟨some 97, .bin .neq (.t 96) (.c (.str ⟨#[]⟩)), none, []⟩, ⟨some 98, .mv (.t 97), none, []⟩, ⟨some 99, .faddr 3 (.t 2), (some (98, false)), []⟩, ⟨some 100, .load 1 false (.t 99), (some (98, false)), []⟩, ⟨some 101, .len false (.t 100), (some (98, false)), []⟩, ⟨some 102, .bin .gtr (.t 101) (.c (.int .i64 16)), (some (98, false)), []⟩, ⟨some 103, .pick (.t 98) (.c (.bool true)) (.t 102), none, []⟩, ⟨some 104, .mv (.t 103), none, []⟩, ⟨some 105, .mv (.t 1), (some (104, false)), []⟩, ⟨some 106, .bin .lss (.t 105) (.c (.int .i64 1)), (some (104, false)), []⟩, ⟨some 107, .pick (.t 104) (.c (.bool true)) (.t 106), none, []⟩]) ( .cond (.t 107) ( .seq (.region [ ⟨some 4, .mv (.c (.bool false)), none, []⟩]) ( .ret)) ( .skip))) ( .seq (.seq (.region [ ⟨some 7, .mv (.c (.int .i64 0)), none, []⟩]) ( .block 3 ( .loop ( .seq (.seq (.region [ ⟨some 108, .mv (.t 7), none, []⟩, ⟨some 109, .faddr 3 (.t 2), none, []⟩, ⟨some 110, .load 1 false (.t 109), none, []⟩, ⟨some 111, .len false (.t 110), none, []⟩, ⟨some 112, .bin .lss (.t 108) (.t 111), none, []⟩]) ( .cond (.t 112) ( .skip) ( .exit 3))) ( .seq (.block 4 ( .seq (.region [ ⟨some 115, .faddr 3 (.t 2), none, []⟩, ⟨some 116, .load 1 false (.t 115), none, []⟩, ⟨some 117, .mv (.t 7), none, []⟩, ⟨some 118, .iaddrS 4 (.t 116) (.t 117), none, []⟩, ⟨some 119, .load 4 true (.t 118), none, []⟩, ⟨some 120, .mv (.t 1), none, []⟩, ⟨some 121, .bin .sub (.t 120) (.c (.int .i64 1)), none, []⟩, ⟨some 122, .call 127 [.t 119, .t 121], none, []⟩, ⟨some 8, .mv (.t 122), none, []⟩]) ( .seq (.region [ ⟨some 123, .mv (.t 8), none, []⟩, ⟨some 124, .un .not (.t 123), none, []⟩]) ( .cond (.t 124) ( .seq (.region [ ⟨some 4, .mv (.c (.bool false)), none, []⟩]) ( .ret)) ( .skip))))) ( .region [ ⟨some 113, .mv (.t 7), none, []⟩, ⟨some 114, .bin .add (.t 113) (.c (.int .i64 1)), none, []⟩, ⟨some 7, .mv (.t 114), none, []⟩])))))) ( .seq (.region [ ⟨some 4, .mv (.c (.bool true)), none, []⟩]) ( .ret)))) ( .skip))))))))) ( .seq (.region [ ⟨some 4, .mv (.c (.bool false)), none, []⟩]) ( .ret))))), .pure, true, true⟩
theorem k127 : compF Tryz.prog { mt := false, mtAt := [], mode := .pure, clArgs := true, clRes := true } Tryz.f127 = some c127 := by kernel_rfl
def c128 : AFunc := ⟨19, [.tmp 4], .seq (.region [ ⟨some 4, .mv (.c (.int .i64 0)), none, []⟩]) ( .seq (.seq (.region [ ⟨some 6, .mv (.t 0), none, []⟩, ⟨some 7, .len false (.t 6), none, []⟩, ⟨some 8, .mv (.c (.int .i64 0)), none, []⟩]) ( .block 0 ( .loop ( .seq (.region [ ⟨some 9, .bin .lss (.t 8) (.t 7), none, []⟩]) ( .seq (.cond (.t 9) ( .skip) ( .exit 0)) ( .seq (.block 1 ( .seq (.region [ ⟨some 10, .mv (.t 8), none, []⟩, ⟨some 5, .mv (.t 10), none, []⟩]) ( .seq (.region [ ⟨some 11, .mv (.t 1), none, []⟩, ⟨some 12, .mv (.t 0), none, []⟩, ⟨some 13, .mv (.t 5), none, []⟩, ⟨some 14, .iaddrS 4 (.t 12) (.t 13), none, []⟩, ⟨some 15, .load 4 true (.t 14), none, []⟩, ⟨some 16, .callv (.t 11) [.t 15], none, []⟩]) ( .cond (.t 16) ( .seq (.region [ ⟨some 17, .mv (.t 5), none, []⟩, ⟨some 4, .mv (.t 17), none, []⟩]) ( .ret)) ( .skip))))) ( .region [ ⟨some 18, .bin .add (.t 8) (.c (.int .i64 1)), none, []⟩, ⟨some 8, .mv (.t 18), none, []⟩]))))))) ( .seq (.region [ ⟨some 4, .mv (.c (.int .i64 (-1))), none, []⟩]) ( .ret))), .gc, false, false⟩
theorem k128 : compF Tryz.prog { mt := false, mtAt := [], mode := .gc, clArgs := false, clRes := false } Tryz.f128 = some c128 := by kernel_rfl
def c129 : AFunc := ⟨22, [.tmp 2], .seq (.region [ ⟨some 1, .box (.t 0), none, []⟩, ⟨some 2, .mv (.c (.bool false)), none, []⟩]) ( .seq (.region [ ⟨some 3, .faddr 0 (.t 1), none, []⟩, ⟨some 4, .load 1 false (.t 3), none, []⟩, ⟨some 5, .bin .eql (.t 4) (.c (.int .i64 0)), none, []⟩, ⟨some 6, .mv (.t 5), none, []⟩, ⟨some 7, .faddr 1 (.t 1), (some (6, true)), []⟩, ⟨some 8, .load 1 false (.t 7), (some (6, true)), []⟩, ⟨some 9, .bin .eql (.t 8) (.c (.int .i64 0)), (some (6, true)), []⟩, ⟨some 10, .pick (.t 6) (.t 9) (.c (.bool false)), none, []⟩, ⟨some 11, .mv (.t 10), none, []⟩, ⟨some 12, .faddr 2 (.t 1), (some (11, true)), []⟩, ⟨some 13, .load 1 false (.t 12), (some (11, true)), []⟩, ⟨some 14, .bin .eql (.t 13) (.c (.str ⟨#[]⟩)), (some (11, true)), []⟩, ⟨some 15, .pick (.t 11) (.t 14) (.c (.bool false)), none, []⟩, ⟨some 16, .mv (.t 15), none, []⟩, ⟨some 17, .faddr 3 (.t 1), (some (16, true)), []⟩, ⟨some 18, .load 1 false (.t 17), (some (16, true)), []⟩, ⟨some 19, .len false (.t 18), (some (16, true)), []⟩, ⟨some 20, .bin .eql (.t 19) (.c (.int .i64 0)), (some (16, true)), []⟩, ⟨some 21, .pick (.t 16) (.t 20) (.c (.bool false)), none, []⟩, ⟨some 2, .mv (.t 21), none, []⟩]) ( .ret)), .pure, true, true⟩
theorem k129 : compF Tryz.prog { mt := false, mtAt := [], mode := .pure, clArgs := true, clRes := true } Tryz.f129 = some c129 := by kernel_rfl
def c130 : AFunc := ⟨27, [.tmp 2], .seq (.region [ ⟨some 2, .mv (.c (.bool false)), none, []⟩]) ( .seq (.seq (.region [ ⟨some 5, .mv (.t 0), none, []⟩, ⟨some 6, .rng (.t 5), none, []⟩]) ( .block 0 ( .loop ( .seq (.region [ ⟨some 7, .nxt (.t 6), none, []⟩, ⟨some 8, .extract 0 (.t 7), none, []⟩]) ( .seq (.cond (.t 8) ( .skip) ( .exit 0)) ( .block 1 ( .seq (.region [ ⟨some 9, .extract 2 (.t 7), none, []⟩, ⟨some 4, .mv (.t 9), none, []⟩]) ( .seq (.region [ ⟨some 10, .mv (.t 4), none, []⟩, ⟨some 11, .bin .lss (.t 10) (.c (.int .i32 32)), none, []⟩, ⟨some 12, .mv (.t 11), none, []⟩, ⟨some 13, .mv (.t 4), (some (12, false)), []⟩, ⟨some 14, .bin .gtr (.t 13) (.c (.int .i32 126)), (some (12, false)), []⟩, ⟨some 15, .pick (.t 12) (.c (.bool true)) (.t 14), none, []⟩, ⟨some 16, .mv (.t 15), none, []⟩, ⟨some 17, .mv (.t 4), (some (16, false)), []⟩, ⟨some 18, .bin .eql (.t 17) (.c (.int .i32 34)), (some (16, false)), []⟩, ⟨some 19, .pick (.t 16) (.c (.bool true)) (.t 18), none, []⟩, ⟨some 20, .mv (.t 19), none, []⟩, ⟨some 21, .mv (.t 4), (some (20, false)), []⟩, ⟨some 22, .bin .eql (.t 21) (.c (.int .i32 92)), (some (20, false)), []⟩, ⟨some 23, .pick (.t 20) (.c (.bool true)) (.t 22), none, []⟩]) ( .cond (.t 23) ( .seq (.region [ ⟨some 2, .mv (.c (.bool false)), none, []⟩]) ( .ret)) ( .skip)))))))))) ( .seq (.region [ ⟨some 24, .mv (.t 0), none, []⟩, ⟨some 25, .len true (.t 24), none, []⟩, ⟨some 26, .bin .leq (.t 25) (.c (.int .i64 32)), none, []⟩, ⟨some 2, .mv (.t 26), none, []⟩]) ( .ret))), .pure, true, true⟩
theorem k130 : compF Tryz.prog { mt := false, mtAt := [], mode := .pure, clArgs := true, clRes := true } Tryz.f130 = some c130 := by kernel_rfl
def c131 : AFunc := ⟨9, [.tmp 3], .seq (.region [ ⟨some 2, .box (.t 0), none, []⟩, ⟨some 3, .mv (.c (.bool false)), none, []⟩]) ( .seq (.region [ ⟨some 4, .load 4 true (.t 2), none, []⟩, ⟨some 5, .load 1 false (.t 1), none, []⟩, ⟨some 6, .bin .sub (.t 5) (.c (.int .i64 1)), none, []⟩, ⟨some 7, .call 113 [.t 4, .t 6], none, []⟩, ⟨some 8, .un .not (.t 7), none, []⟩, ⟨some 3, .mv (.t 8), none, []⟩]) ( .ret)), .gc, false, false⟩
theorem k131 : compF Tryz.prog { mt := false, mtAt := [], mode := .gc, clArgs := false, clRes := false } Tryz.f131 = some c131 := by kernel_rfl
def c132 : AFunc := ⟨19, [.tmp 4], .seq (.region [ ⟨some 4, .mv (.c (.int .i64 0)), none, []⟩]) ( .seq (.seq (.region [ ⟨some 6, .mv (.t 0), none, []⟩, ⟨some 7, .len false (.t 6), none, []⟩, ⟨some 8, .mv (.c (.int .i64 0)), none, []⟩]) ( .block 0 ( .loop ( .seq (.region [ ⟨some 9, .bin .lss (.t 8) (.t 7), none, []⟩]) ( .seq (.cond (.t 9) ( .skip) ( .exit 0)) ( .seq (.block 1 ( .seq (.region [ ⟨some 10, .mv (.t 8), none, []⟩, ⟨some 5, .mv (.t 10), none, []⟩]) ( .seq (.region [ ⟨some 11, .mv (.t 1), none, []⟩, ⟨some 12, .mv (.t 0), none, []⟩, ⟨some 13, .mv (.t 5), none, []⟩, ⟨some 14, .iaddrS 3 (.t 12) (.t 13), none, []⟩, ⟨some 15, .load 3 true (.t 14), none, []⟩, ⟨some 16, .callv (.t 11) [.t 15], none, []⟩]) ( .cond (.t 16) ( .seq (.region [ ⟨some 17, .mv (.t 5), none, []⟩, ⟨some 4, .mv (.t 17), none, []⟩]) ( .ret)) ( .skip))))) ( .region [ ⟨some 18, .bin .add (.t 8) (.c (.int .i64 1)), none, []⟩, ⟨some 8, .mv (.t 18), none, []⟩]))))))) ( .seq (.region [ ⟨some 4, .mv (.c (.int .i64 (-1))), none, []⟩]) ( .ret))), .gc, false, false⟩
theorem k132 : compF Tryz.prog { mt := false, mtAt := [], mode := .gc, clArgs := false, clRes := false } Tryz.f132 = some c132 := by kernel_rfl
def c133 : AFunc := ⟨16, [.cell 4 4 true, .tmp 5], .seq (.region [ ⟨some 4, .alloc [.int .i64 0, .int .i64 0, .str ⟨#[]⟩, .isl [] true], none, []⟩, ⟨some 5, .mv (.c (.bool false)), none, []⟩]) ( .seq (.region [ ⟨some 6, .mv (.t 1), none, []⟩, ⟨some 7, .iaddrS 4 (.t 6) (.c (.int .i64 0)), none, []⟩, ⟨some 8, .load 4 true (.t 7), none, []⟩, ⟨some 9, .buildSl 1 4 true [.int .i64 0, .int .i64 0, .str ⟨#[]⟩, .isl [] true] [(0, 4, .t 8)], none, []⟩, ⟨some 10, .mv (.t 0), none, []⟩, ⟨some 11, .append 4 true 56 false (.t 9) (.t 10), none, []⟩, ⟨some 12, .call 147 [.t 11], none, []⟩, ⟨some 13, .call 146 [.t 12], none, []⟩, ⟨some 14, .extract 0 (.t 13), none, []⟩, ⟨some 15, .extract 1 (.t 13), none, []⟩, ⟨none, .store 4 (.t 4) (.t 14), none, []⟩, ⟨some 5, .mv (.t 15), none, []⟩]) ( .ret)), .pure, true, true⟩
theorem k133 : compF Tryz.prog { mt := false, mtAt := [], mode := .pure, clArgs := true, clRes := true } Tryz.f133 = some c133 := by kernel_rfl
def c134 : AFunc := ⟨15, [.cell 4 4 true, .tmp 5], .seq (.region [ ⟨some 4, .alloc [.int .i64 0, .int .i64 0, .str ⟨#[]⟩, .isl [] true], none, []⟩, ⟨some 5, .mv (.c (.bool false)), none, []⟩]) ( .seq (.region [ ⟨some 6, .mv (.t 0), none, []⟩, ⟨some 7, .mv (.t 1), none, []⟩, ⟨some 8, .slSl 4 (.t 7) (some (.c (.int .i64 1))) none, none, []⟩, ⟨some 9, .buildSl 2 1 false [.isl [] true, .isl [] true] [(0, 1, .t 6), (1, 1, .t 8)], none, []⟩, ⟨some 10, .call 148 [.t 9], none, []⟩, ⟨some 11, .call 147 [.t 10], none, []⟩, ⟨some 12, .call 146 [.t 11], none, []⟩, ⟨some 13, .extract 0 (.t 12), none, []⟩, ⟨some 14, .extract 1 (.t 12), none, []⟩, ⟨none, .store 4 (.t 4) (.t 13), none, []⟩, ⟨some 5, .mv (.t 14), none, []⟩]) ( .ret)), .pure, true, true⟩
theorem k134 : compF Tryz.prog { mt := false, mtAt := [], mode := .pure, clArgs := true, clRes := true } Tryz.f134 = some c134 := by kernel_rfl
def c135 : AFunc := ⟨23, [.cell 4 4 true, .tmp 5], .seq (.region [ ⟨some 4, .alloc [.int .i64 0, .int .i64 0, .str ⟨#[]⟩, .isl [] true], none, []⟩, ⟨some 5, .mv (.c (.bool false)), none, []⟩]) ( .seq (.seq (.region [ ⟨some 6, .mv (.t 1), none, []⟩, ⟨some 7, .iaddrS 4 (.t 6) (.c (.int .i64 1)), none, []⟩, ⟨some 8, .faddr 0 (.t 7), none, []⟩, ⟨some 9, .load 1 false (.t 8), none, []⟩, ⟨some 10, .bin .neq (.t 9) (.c (.int .i64 4)), none, []⟩]) ( .cond (.t 10) ( .seq (.region [ ⟨some 11, .build [.int .i64 0, .int .i64 0, .str ⟨#[]⟩, .isl [] true] [], none, []⟩, ⟨none, .store 4 (.t 4) (.t 11), none, []⟩, ⟨some 5, .mv (.c (.bool false)), none, []⟩]) ( .ret)) ( .skip))) ( .seq (.region [ ⟨some 12, .mv (.t 0), none, []⟩, ⟨some 13, .mv (.t 1), none, []⟩, ⟨some 14, .iaddrS 4 (.t 13) (.c (.int .i64 1)), none, []⟩, ⟨some 15, .faddr 3 (.t 14), none, []⟩, ⟨some 16, .load 1 false (.t 15), none, []⟩, ⟨some 17, .buildSl 2 1 false [.isl [] true, .isl [] true] [(0, 1, .t 12), (1, 1, .t 16)], none, []⟩, ⟨some 18, .call 148 [.t 17], none, []⟩, ⟨some 19, .call 147 [.t 18], none, []⟩, ⟨some 20, .call 146 [.t 19], none, []⟩, ⟨some 21, .extract 0 (.t 20), none, []⟩, ⟨some 22, .extract 1 (.t 20), none, []⟩, ⟨none, .store 4 (.t 4) (.t 21), none, []⟩, ⟨some 5, .mv (.t 22), none, []⟩]) ( .ret))), .pure, true, true⟩
theorem k135 : compF Tryz.prog { mt := false, mtAt := [], mode := .pure, clArgs := true, clRes := true } Tryz.f135 = some c135 := by kernel_rfl
def c136 : AFunc := ⟨11, [.cell 4 4 true, .tmp 5], .seq (.region [ ⟨some 3, .box (.t 1), none, []⟩, ⟨some 4, .alloc [.int .i64 0, .int .i64 0, .str ⟨#[]⟩, .isl [] true], none, []⟩, ⟨some 5, .mv (.c (.bool false)), none, []⟩]) ( .seq (.seq (.region [ ⟨some 6, .mv (.t 0), none, []⟩, ⟨some 7, .mkfn 150 [.t 3], none, []⟩, ⟨some 8, .call 149 [.t 6, .t 7], none, []⟩]) ( .cond (.t 8) ( .seq (.region [ ⟨some 9, .call 152 [.c (.int .i64 1)], none, []⟩, ⟨none, .store 4 (.t 4) (.t 9), none, []⟩, ⟨some 5, .mv (.c (.bool true)), none, []⟩]) ( .ret)) ( .skip))) ( .seq (.region [ ⟨some 10, .call 152 [.c (.int .i64 0)], none, []⟩, ⟨none, .store 4 (.t 4) (.t 10), none, []⟩, ⟨some 5, .mv (.c (.bool true)), none, []⟩]) ( .ret))), .pure, true, true⟩
theorem k136 : compF Tryz.prog { mt := false, mtAt := [], mode := .pure, clArgs := true, clRes := true } Tryz.f136 = some c136 := by kernel_rfl
def c137 : AFunc := ⟨9, [.cell 4 4 true, .tmp 5], .seq (.region [ ⟨some 4, .alloc [.int .i64 0, .int .i64 0, .str ⟨#[]⟩, .isl [] true], none, []⟩, ⟨some 5, .mv (.c (.bool false)), none, []⟩]) ( .seq (.region [ ⟨some 6, .mv (.t 0), none, []⟩, ⟨some 7, .len false (.t 6), none, []⟩, ⟨some 8, .call 152 [.t 7], none, []⟩, ⟨none, .store 4 (.t 4) (.t 8), none, []⟩, ⟨some 5, .mv (.c (.bool true)), none, []⟩]) ( .ret)), .pure, true, true⟩
theorem k137 : compF Tryz.prog { mt := false, mtAt := [], mode := .pure, clArgs := true, clRes := true } Tryz.f137 = some c137 := by kernel_rfl
def c138 : AFunc := ⟨4, [.tmp 2], .seq (.region [ ⟨some 1, .box (.t 0), none, []⟩, ⟨some 2, .mv (.c (.nilfunc)), none, []⟩]) ( .seq (.region [ ⟨some 3, .mkfn 153 [.t 1], none, []⟩, ⟨some 2, .mv (.t 3), none, []⟩]) ( .ret)), .pure, true, true⟩
theorem k138 : compF Tryz.prog { mt := false, mtAt := [], mode := .pure, clArgs := true, clRes := true } Tryz.f138 = some c138 := by kernel_rfl
def c139 : AFunc := ⟨13, [.cell 4 4 true, .tmp 5], .seq (.region [ ⟨some 4, .alloc [.int .i64 0, .int .i64 0, .str ⟨#[]⟩, .isl [] true], none, []⟩, ⟨some 5, .mv (.c (.bool false)), none, []⟩]) ( .seq (.seq (.region [ ⟨some 6, .mv (.t 0), none, []⟩, ⟨some 7, .len false (.t 6), none, []⟩, ⟨some 8, .bin .eql (.t 7) (.c (.int .i64 0)), none, []⟩]) ( .cond (.t 8) ( .seq (.region [ ⟨some 9, .build [.int .i64 0, .int .i64 0, .str ⟨#[]⟩, .isl [] true] [], none, []⟩, ⟨none, .store 4 (.t 4) (.t 9), none, []⟩, ⟨some 5, .mv (.c (.bool false)), none, []⟩]) ( .ret)) ( .skip))) ( .seq (.region [ ⟨some 10, .mv (.t 0), none, []⟩, ⟨some 11, .slSl 4 (.t 10) (some (.c (.int .i64 1))) none, none, []⟩, ⟨some 12, .call 147 [.t 11], none, []⟩, ⟨none, .store 4 (.t 4) (.t 12), none, []⟩, ⟨some 5, .mv (.c (.bool true)), none, []⟩]) ( .ret))), .pure, true, true⟩
theorem k139 : compF Tryz.prog { mt := false, mtAt := [], mode := .pure, clArgs := true, clRes := true } Tryz.f139 = some c139 := by kernel_rfl
def c140 : AFunc := ⟨13, [.cell 4 4 true, .tmp 5], .seq (.region [ ⟨some 4, .alloc [.int .i64 0, .int .i64 0, .str ⟨#[]⟩, .isl [] true], none, []⟩, ⟨some 5, .mv (.c (.bool false)), none, []⟩]) ( .seq (.region [ ⟨some 7, .mv (.t 0), none, []⟩, ⟨some 8, .call 147 [.t 7], none, []⟩, ⟨some 6, .alloc [.int .i64 0, .int .i64 0, .str ⟨#[]⟩, .isl [] true], none, []⟩, ⟨none, .store 4 (.t 6) (.t 8), none, []⟩]) ( .seq (.region [ ⟨some 9, .faddr 3 (.t 6), none, []⟩, ⟨some 10, .load 1 false (.t 9), none, []⟩, ⟨some 11, .call 154 [.t 10], none, []⟩]) ( .seq (.region [ ⟨some 12, .load 4 true (.t 6), none, []⟩, ⟨none, .store 4 (.t 4) (.t 12), none, []⟩, ⟨some 5, .mv (.c (.bool true)), none, []⟩]) ( .ret)))), .pure, true, true⟩
theorem k140 : compF Tryz.prog { mt := false, mtAt := [], mode := .pure, clArgs := true, clRes := true } Tryz.f140 = some c140 := by kernel_rfl
def c145 : AFunc := ⟨19, [.tmp 4], .seq (.region [ ⟨some 4, .mv (.c (.int .i64 0)), none, []⟩]) ( .seq (.seq (.region [ ⟨some 6, .mv (.t 0), none, []⟩, ⟨some 7, .len false (.t 6), none, []⟩, ⟨some 8, .mv (.c (.int .i64 0)), none, []⟩]) ( .block 0 ( .loop ( .seq (.region [ ⟨some 9, .bin .lss (.t 8) (.t 7), none, []⟩]) ( .seq (.cond (.t 9) ( .skip) ( .exit 0)) ( .seq (.block 1 ( .seq (.region [ ⟨some 10, .mv (.t 8), none, []⟩, ⟨some 5, .mv (.t 10), none, []⟩]) ( .seq (.region [ ⟨some 11, .mv (.t 1), none, []⟩, ⟨some 12, .mv (.t 0), none, []⟩, ⟨some 13, .mv (.t 5), none, []⟩, ⟨some 14, .iaddrS 7 (.t 12) (.t 13), none, []⟩, ⟨some 15, .load 7 true (.t 14), none, []⟩, ⟨some 16, .callv (.t 11) [.t 15], none, []⟩]) ( .cond (.t 16) ( .seq (.region [ ⟨some 17, .mv (.t 5), none, []⟩, ⟨some 4, .mv (.t 17), none, []⟩]) ( .ret)) ( .skip))))) ( .region [ ⟨some 18, .bin .add (.t 8) (.c (.int .i64 1)), none, []⟩, ⟨some 8, .mv (.t 18), none, []⟩]))))))) ( .seq (.region [ ⟨some 4, .mv (.c (.int .i64 (-1))), none, []⟩]) ( .ret))), .gc, false, false⟩
theorem k145 : compF Tryz.prog { mt := false, mtAt := [], mode := .gc, clArgs := false, clRes := false } Tryz.f145 = some c145 := by kernel_rfl
def c146 : AFunc := ⟨9, [.cell 2 4 true, .tmp 3], .seq (.region [ ⟨some 1, .box (.t 0), none, []⟩, ⟨some 2, .alloc [.int .i64 0, .int .i64 0, .str ⟨#[]⟩, .isl [] true], none, []⟩, ⟨some 3, .mv (.c (.bool false)), none, []⟩]) ( .seq (.seq (.region [ ⟨some 4, .load 4 true (.t 1), none, []⟩, ⟨some 5, .call 75 [.t 4], none, []⟩, ⟨some 6, .un .not (.t 5), none, []⟩]) ( .cond (.t 6) ( .seq (.region [ ⟨some 7, .build [.int .i64 0, .int .i64 0, .str ⟨#[]⟩, .isl [] true] [], none, []⟩, ⟨none, .store 4 (.t 2) (.t 7), none, []⟩, ⟨some 3, .mv (.c (.bool false)), none, []⟩]) ( .ret)) ( .skip))) ( .seq (.region [ ⟨some 8, .load 4 true (.t 1), none, []⟩, ⟨none, .store 4 (.t 2) (.t 8), none, []⟩, ⟨some 3, .mv (.c (.bool true)), none, []⟩]) ( .ret))), .pure, true, true⟩
theorem k146 : compF Tryz.prog { mt := false, mtAt := [], mode := .pure, clArgs := true, clRes := true } Tryz.f146 = some c146 := by kernel_rfl
def c147 : AFunc := ⟨6, [.cell 2 4 true], .seq (.region [ ⟨some 2, .alloc [.int .i64 0, .int .i64 0, .str ⟨#[]⟩, .isl [] true], none, []⟩]) ( .seq (.region [ ⟨some 3, .mv (.t 0), none, []⟩, ⟨some 4, .call 160 [.t 3], none, []⟩, ⟨some 5, .build [.int .i64 0, .int .i64 0, .str ⟨#[]⟩, .isl [] true] [(0, 1, .c (.int .i64 4)), (3, 1, .t 4)], none, []⟩, ⟨none, .store 4 (.t 2) (.t 5), none, []⟩]) ( .ret)), .raw, true, false⟩
theorem k147 : compF Tryz.prog { mt := false, mtAt := [], mode := .raw, clArgs := true, clRes := false } Tryz.f147 = some c147 := by kernel_rfl
def c148 : AFunc := ⟨36, [.tmp 2], .seq (.region [ ⟨some 2, .mv (.c (.isl [] true)), none, []⟩]) ( .seq (.region [ ⟨some 3, .mv (.c (.int .i64 0)), none, []⟩]) ( .seq (.seq (.region [ ⟨some 9, .mv (.t 0), none, []⟩, ⟨some 10, .len false (.t 9), none, []⟩, ⟨some 11, .mv (.c (.int .i64 0)), none, []⟩]) ( .block 0 ( .loop ( .seq (.region [ ⟨some 12, .bin .lss (.t 11) (.t 10), none, []⟩]) ( .seq (.cond (.t 12) ( .skip) ( .exit 0)) ( .seq (.block 1 ( .seq (.region [ ⟨some 13, .iaddrS 1 (.t 9) (.t 11), none, []⟩, ⟨some 14, .load 1 false (.t 13), none, []⟩, ⟨some 5, .mv (.t 14), none, []⟩]) ( .seq (.region [ ⟨some 15, .mv (.t 3), none, []⟩, ⟨some 16, .mv (.t 5), none, []⟩, ⟨some 17, .len false (.t 16), none, []⟩, ⟨some 18, .bin .add (.t 15) (.t 17), none, []⟩, ⟨some 3, .mv (.t 18), none, []⟩]) ( .seq (.region [ ⟨some 19, .mv (.t 3), none, []⟩, ⟨some 20, .bin .lss (.t 19) (.c (.int .i64 0)), none, []⟩]) ( .cond (.t 20) ( .cond (.c (.nilptr)) ( .skip) ( .skip)) ( .skip)))))) ( .region [ ⟨some 22, .bin .add (.t 11) (.c (.int .i64 1)), none, []⟩, ⟨some 11, .mv (.t 22), none, []⟩]))))))) ( .seq (.region [ ⟨some 23, .mv (.t 3), none, []⟩, ⟨some 24, .call 161 [.c (.isl [] true), .t 23], none, []⟩, ⟨some 6, .mv (.t 24), none, []⟩]) ( .seq (.seq (.region [ ⟨some 25, .mv (.t 0), none, []⟩, ⟨some 26, .len false (.t 25), none, []⟩, ⟨some 27, .mv (.c (.int .i64 0)), none, []⟩]) ( .block 2 ( .loop ( .seq (.region [ ⟨some 28, .bin .lss (.t 27) (.t 26), none, []⟩]) ( .seq (.cond (.t 28) ( .skip) ( .exit 2)) ( .seq (.block 3 ( .seq (.region [ ⟨some 29, .iaddrS 1 (.t 25) (.t 27), none, []⟩, ⟨some 30, .load 1 false (.t 29), none, []⟩, ⟨some 8, .mv (.t 30), none, []⟩]) ( .region [ ⟨some 31, .mv (.t 6), none, []⟩, ⟨some 32, .mv (.t 8), none, []⟩, ⟨some 33, .append 4 true 56 false (.t 31) (.t 32), none, []⟩, ⟨some 6, .mv (.t 33), none, []⟩]))) ( .region [ ⟨some 34, .bin .add (.t 27) (.c (.int .i64 1)), none, []⟩, ⟨some 27, .mv (.t 34), none, []⟩]))))))) ( .seq (.region [ ⟨some 35, .mv (.t 6), none, []⟩, ⟨some 2, .mv (.t 35), none, []⟩]) ( .ret)))))), .pure, true, true⟩
theorem k148 : compF Tryz.prog { mt := false, mtAt := [], mode := .pure, clArgs := true, clRes := true } Tryz.f148 = some c148 := by kernel_rfl
def c149 : AFunc := ⟨9, [.tmp 4], .seq (.region [ ⟨some 4, .mv (.c (.bool false)), none, []⟩]) ( .seq (.region [ ⟨some 5, .mv (.t 0), none, []⟩, ⟨some 6, .mv (.t 1), none, []⟩, ⟨some 7, .call 162 [.t 5, .t 6], none, []⟩, ⟨some 8, .bin .geq (.t 7) (.c (.int .i64 0)), none, []⟩, ⟨some 4, .mv (.t 8), none, []⟩]) ( .ret)), .pure, true, true⟩
theorem k149 : compF Tryz.prog { mt := false, mtAt := [], mode := .pure, clArgs := true, clRes := true } Tryz.f149 = some c149 := by kernel_rfl
def c150 : AFunc := ⟨10, [.tmp 3], .seq (.region [ ⟨some 2, .box (.t 0), none, []⟩, ⟨some 3, .mv (.c (.bool false)), none, []⟩]) ( .seq (.region [ ⟨some 4, .load 4 true (.t 2), none, []⟩, ⟨some 5, .load 1 false (.t 1), none, []⟩, ⟨some 6, .iaddrS 4 (.t 5) (.c (.int .i64 1)), none, []⟩, ⟨some 7, .load 4 true (.t 6), none, []⟩, ⟨some 8, .call 151 [.t 4, .t 7], none, []⟩, ⟨some 9, .bin .eql (.t 8) (.c (.int .i64 0)), none, []⟩, ⟨some 3, .mv (.t 9), none, []⟩]) ( .ret)), .pure, true, true⟩
theorem k150 : compF Tryz.prog { mt := false, mtAt := [], mode := .pure, clArgs := true, clRes := true } Tryz.f150 = some c150 := by kernel_rfl
def c151 : AFunc := ⟨38, [.tmp 4], .seq (.region [ ⟨some 2, .box (.t 0), none, []⟩, ⟨some 3, .box (.t 1), none, []⟩, ⟨some 4, .mv (.c (.int .i64 0)), none, []⟩]) ( .seq (.seq (.region [ ⟨some 6, .faddr 0 (.t 2), none, []⟩, ⟨some 7, .load 1 false (.t 6), none, []⟩, ⟨some 8, .faddr 0 (.t 3), none, []⟩, ⟨some 9, .load 1 false (.t 8), none, []⟩, ⟨some 10, .call 163 [.t 7, .t 9], none, []⟩, ⟨some 5, .mv (.t 10), none, []⟩]) ( .seq (.region [ ⟨some 11, .mv (.t 5), none, []⟩, ⟨some 12, .bin .neq (.t 11) (.c (.int .i64 0)), none, []⟩]) ( .cond (.t 12) ( .seq (.region [ ⟨some 13, .mv (.t 5), none, []⟩, ⟨some 4, .mv (.t 13), none, []⟩]) ( .ret)) ( .skip)))) ( .seq (.seq (.region [ ⟨some 14, .faddr 0 (.t 2), none, []⟩, ⟨some 15, .load 1 false (.t 14), none, []⟩]) ( .block 0 ( .seq (.region [ ⟨some 17, .bin .eql (.t 15) (.c (.int .i64 1)), none, []⟩, ⟨some 16, .mv (.t 17), none, []⟩]) ( .cond (.t 16) ( .seq (.region [ ⟨some 18, .faddr 1 (.t 2), none, []⟩, ⟨some 19, .load 1 false (.t 18), none, []⟩, ⟨some 20, .faddr 1 (.t 3), none, []⟩, ⟨some 21, .load 1 false (.t 20), none, []⟩, ⟨some 22, .call 163 [.t 19, .t 21], none, []⟩, ⟨some 4, .mv (.t 22), none, []⟩]) ( .ret)) ( .seq (.seq (.region [ ⟨some 24, .bin .eql (.t 15) (.c (.int .i64 2)), none, []⟩, ⟨some 23, .mv (.t 24), none, []⟩]) ( .cond (.t 23) ( .skip) ( .region [ ⟨some 25, .bin .eql (.t 15) (.c (.int .i64 3)), none, []⟩, ⟨some 23, .mv (.t 25), none, []⟩]))) ( .cond (.t 23) ( .seq (.region [ ⟨some 26, .faddr 2 (.t 2), none, []⟩, ⟨some 27, .load 1 false (.t 26), none, []⟩, ⟨some 28, .faddr 2 (.t 3), none, []⟩, ⟨some 29, .load 1 false (.t 28), none, []⟩, ⟨some 30, .call 164 [.t 27, .t 29], none, []⟩, ⟨some 4, .mv (.t 30), none, []⟩]) ( .ret)) ( .seq (.region [ ⟨some 32, .bin .eql (.t 15) (.c (.int .i64 4)), none, []⟩, ⟨some 31, .mv (.t 32), none, []⟩]) ( .cond (.t 31) ( .seq (.region [ ⟨some 33, .faddr 3 (.t 2), none, []⟩, ⟨some 34, .load 1 false (.t 33), none, []⟩, ⟨some 35, .faddr 3 (.t 3), none, []⟩, ⟨some 36, .load 1 false (.t 35), none, []⟩, ⟨some 37, .call 165 [.t 34, .t 36, .f 151], none, []⟩, ⟨some 4, .mv (.t 37), none, []⟩]) ( .ret)) ( .skip))))))))) ( .seq (.region [ ⟨some 4, .mv (.c (.int .i64 0)), none, []⟩]) ( .ret)))), .pure, true, true⟩
theorem k151 : compF Tryz.prog { mt := false, mtAt := [], mode := .pure, clArgs := true, clRes := true } Tryz.f151 = some c151 := by kernel_rfl
def c152 : AFunc := ⟨5, [.cell 2 4 true], .seq (.region [ ⟨some 2, .alloc [.int .i64 0, .int .i64 0, .str ⟨#[]⟩, .isl [] true], none, []⟩]) ( .seq (.region [ ⟨some 3, .mv (.t 0), none, []⟩, ⟨some 4, .build [.int .i64 0, .int .i64 0, .str ⟨#[]⟩, .isl [] true] [(0, 1, .c (.int .i64 1)), (1, 1, .t 3)], none, []⟩, ⟨none, .store 4 (.t 2) (.t 4), none, []⟩]) ( .ret)), .pure, true, true⟩
theorem k152 : compF Tryz.prog { mt := false, mtAt := [], mode := .pure, clArgs := true, clRes := true } Tryz.f152 = some c152 := by kernel_rfl
def c153 : AFunc := ⟨23, [.cell 5 4 true, .tmp 6], .seq (.region [ ⟨some 5, .alloc [.int .i64 0, .int .i64 0, .str ⟨#[]⟩, .isl [] true], none, []⟩, ⟨some 6, .mv (.c (.bool false)), none, []⟩]) ( .seq (.block 0 ( .seq (.region [ ⟨some 8, .mv (.t 0), none, []⟩, ⟨some 9, .len false (.t 8), none, []⟩, ⟨some 10, .bin .eql (.t 9) (.c (.int .i64 0)), none, []⟩, ⟨some 7, .mv (.t 10), none, []⟩]) ( .cond (.t 7) ( .seq (.region [ ⟨some 11, .build [.int .i64 0, .int .i64 0, .str ⟨#[]⟩, .isl [] true] [], none, []⟩, ⟨none, .store 4 (.t 5) (.t 11), none, []⟩, ⟨some 6, .mv (.c (.bool false)), none, []⟩]) ( .ret)) ( .seq (.region [ ⟨some 13, .load 1 false (.t 2), none, []⟩, ⟨some 12, .mv (.t 13), none, []⟩]) ( .cond (.t 12) ( .seq (.region [ ⟨some 14, .mv (.t 0), none, []⟩, ⟨some 15, .mv (.t 0), none, []⟩, ⟨some 16, .len false (.t 15), none, []⟩, ⟨some 17, .bin .sub (.t 16) (.c (.int .i64 1)), none, []⟩, ⟨some 18, .iaddrS 4 (.t 14) (.t 17), none, []⟩, ⟨some 19, .load 4 true (.t 18), none, []⟩, ⟨none, .store 4 (.t 5) (.t 19), none, []⟩, ⟨some 6, .mv (.c (.bool true)), none, []⟩]) ( .ret)) ( .skip)))))) ( .seq (.region [ ⟨some 20, .mv (.t 0), none, []⟩, ⟨some 21, .iaddrS 4 (.t 20) (.c (.int .i64 0)), none, []⟩, ⟨some 22, .load 4 true (.t 21), none, []⟩, ⟨none, .store 4 (.t 5) (.t 22), none, []⟩, ⟨some 6, .mv (.c (.bool true)), none, []⟩]) ( .ret))), .pure, true, true⟩
theorem k153 : compF Tryz.prog { mt := false, mtAt := [], mode := .pure, clArgs := true, clRes := true } Tryz.f153 = some c153 := by kernel_rfl
def c154 : AFunc := ⟨28, [], .seq (.region [ ⟨some 4, .mv (.t 0), none, []⟩, ⟨some 5, .len false (.t 4), none, []⟩, ⟨some 6, .bin .sub (.t 5) (.c (.int .i64 1)), none, []⟩, ⟨some 2, .mv (.c (.int .i64 0)), none, []⟩, ⟨some 3, .mv (.t 6), none, []⟩]) ( .block 0 ( .loop ( .seq (.seq (.region [ ⟨some 7, .mv (.t 2), none, []⟩, ⟨some 8, .mv (.t 3), none, []⟩, ⟨some 9, .bin .lss (.t 7) (.t 8), none, []⟩]) ( .cond (.t 9) ( .skip) ( .exit 0))) ( .seq (.block 1 ( .region [ ⟨some 14, .mv (.t 0), none, []⟩, ⟨some 15, .mv (.t 2), none, []⟩, ⟨some 16, .mv (.t 0), none, []⟩, ⟨some 17, .mv (.t 3), none, []⟩, ⟨some 18, .mv (.t 0), none, []⟩, ⟨some 19, .mv (.t 3), none, []⟩, ⟨some 20, .iaddrS 4 (.t 18) (.t 19), none, []⟩, ⟨some 21, .load 4 true (.t 20), none, []⟩, ⟨some 22, .mv (.t 0), none, []⟩, ⟨some 23, .mv (.t 2), none, []⟩, ⟨some 24, .iaddrS 4 (.t 22) (.t 23), none, []⟩, ⟨some 25, .load 4 true (.t 24), none, []⟩, ⟨some 26, .iaddrS 4 (.t 14) (.t 15), none, []⟩, ⟨none, .store 4 (.t 26) (.t 21), none, []⟩, ⟨some 27, .iaddrS 4 (.t 16) (.t 17), none, []⟩, ⟨none, .store 4 (.t 27) (.t 25), none, []⟩])) ( .region [ ⟨some 10, .mv (.t 2), none, []⟩, ⟨some 11, .bin .add (.t 10) (.c (.int .i64 1)), none, []⟩, ⟨some 12, .mv (.t 3), none, []⟩, ⟨some 13, .bin .sub (.t 12) (.c (.int .i64 1)), none, []⟩, ⟨some 2, .mv (.t 11), none, []⟩, ⟨some 3, .mv (.t 13), none, []⟩]))))), .raw, false, false⟩
theorem k154 : compF Tryz.prog { mt := false, mtAt := [], mode := .raw, clArgs := false, clRes := false } Tryz.f154 = some c154 := by kernel_rfl
def c162 : AFunc := ⟨19, [.tmp 4], .seq (.region [ ⟨some 4, .mv (.c (.int .i64 0)), none, []⟩]) ( .seq (.seq (.region [ ⟨some 6, .mv (.t 0), none, []⟩, ⟨some 7, .len false (.t 6), none, []⟩, ⟨some 8, .mv (.c (.int .i64 0)), none, []⟩]) ( .block 0 ( .loop ( .seq (.region [ ⟨some 9, .bin .lss (.t 8) (.t 7), none, []⟩]) ( .seq (.cond (.t 9) ( .skip) ( .exit 0)) ( .seq (.block 1 ( .seq (.region [ ⟨some 10, .mv (.t 8), none, []⟩, ⟨some 5, .mv (.t 10), none, []⟩]) ( .seq (.region [ ⟨some 11, .mv (.t 1), none, []⟩, ⟨some 12, .mv (.t 0), none, []⟩, ⟨some 13, .mv (.t 5), none, []⟩, ⟨some 14, .iaddrS 4 (.t 12) (.t 13), none, []⟩, ⟨some 15, .load 4 true (.t 14), none, []⟩, ⟨some 16, .callv (.t 11) [.t 15], none, []⟩]) ( .cond (.t 16) ( .seq (.region [ ⟨some 17, .mv (.t 5), none, []⟩, ⟨some 4, .mv (.t 17), none, []⟩]) ( .ret)) ( .skip))))) ( .region [ ⟨some 18, .bin .add (.t 8) (.c (.int .i64 1)), none, []⟩, ⟨some 8, .mv (.t 18), none, []⟩]))))))) ( .seq (.region [ ⟨some 4, .mv (.c (.int .i64 (-1))), none, []⟩]) ( .ret))), .pure, true, true⟩
theorem k162 : compF Tryz.prog { mt := false, mtAt := [], mode := .pure, clArgs := true, clRes := true } Tryz.f162 = some c162 := by kernel_rfl
def c163 : AFunc := ⟨20, [.tmp 4], .seq (.region [ ⟨some 4, .mv (.c (.int .i64 0)), none, []⟩]) ( .seq (.region [ ⟨some 7, .mv (.t 0), none, []⟩, ⟨some 8, .call 168 [.t 7], none, []⟩, ⟨some 5, .mv (.t 8), none, []⟩]) ( .seq (.region [ ⟨some 9, .mv (.t 1), none, []⟩, ⟨some 10, .call 168 [.t 9], none, []⟩, ⟨some 6, .mv (.t 10), none, []⟩]) ( .seq (.seq (.region [ ⟨some 11, .mv (.t 5), none, []⟩]) ( .cond (.t 11) ( .seq (.seq (.region [ ⟨some 12, .mv (.t 6), none, []⟩]) ( .cond (.t 12) ( .seq (.region [ ⟨some 4, .mv (.c (.int .i64 0)), none, []⟩]) ( .ret)) ( .skip))) ( .seq (.region [ ⟨some 4, .mv (.c (.int .i64 (-1))), none, []⟩]) ( .ret))) ( .skip))) ( .seq (.seq (.region [ ⟨some 13, .mv (.t 6), none, []⟩]) ( .cond (.t 13) ( .seq (.region [ ⟨some 4, .mv (.c (.int .i64 1)), none, []⟩]) ( .ret)) ( .skip))) ( .seq (.seq (.region [ ⟨some 14, .mv (.t 0), none, []⟩, ⟨some 15, .mv (.t 1), none, []⟩, ⟨some 16, .bin .lss (.t 14) (.t 15), none, []⟩]) ( .cond (.t 16) ( .seq (.region [ ⟨some 4, .mv (.c (.int .i64 (-1))), none, []⟩]) ( .ret)) ( .skip))) ( .seq (.seq (.region [ ⟨some 17, .mv (.t 0), none, []⟩, ⟨some 18, .mv (.t 1), none, []⟩, ⟨some 19, .bin .gtr (.t 17) (.t 18), none, []⟩]) ( .cond (.t 19) ( .seq (.region [ ⟨some 4, .mv (.c (.int .i64 1)), none, []⟩]) ( .ret)) ( .skip))) ( .seq (.region [ ⟨some 4, .mv (.c (.int .i64 0)), none, []⟩]) ( .ret)))))))), .pure, true, true⟩
theorem k163 : compF Tryz.prog { mt := false, mtAt := [], mode := .pure, clArgs := true, clRes := true } Tryz.f163 = some c163 := by kernel_rfl
def c164 : AFunc := ⟨8, [.tmp 4], .seq (.region [ ⟨some 4, .mv (.c (.int .i64 0)), none, []⟩]) ( .seq (.region [ ⟨some 5, .mv (.t 0), none, []⟩, ⟨some 6, .mv (.t 1), none, []⟩, ⟨some 7, .call 169 [.t 5, .t 6], none, []⟩, ⟨some 4, .mv (.t 7), none, []⟩]) ( .ret)), .pure, true, true⟩
theorem k164 : compF Tryz.prog { mt := false, mtAt := [], mode := .pure, clArgs := true, clRes := true } Tryz.f164 = some c164 := by kernel_rfl
def c165 : AFunc := ⟨39, [.tmp 6], .seq (.region [ ⟨some 6, .mv (.c (.int .i64 0)), none, []⟩]) ( .seq (.seq (.region [ ⟨some 11, .mv (.t 0), none, []⟩, ⟨some 12, .len false (.t 11), none, []⟩, ⟨some 13, .mv (.c (.int .i64 0)), none, []⟩]) ( .block 0 ( .loop ( .seq (.region [ ⟨some 14, .bin .lss (.t 13) (.t 12), none, []⟩]) ( .seq (.cond (.t 14) ( .skip) ( .exit 0)) ( .seq (.block 1 ( .seq (.region [ ⟨some 15, .mv (.t 13), none, []⟩, ⟨some 16, .iaddrS 4 (.t 11) (.t 13), none, []⟩, ⟨some 17, .load 4 true (.t 16), none, []⟩, ⟨some 8, .alloc [.int .i64 0, .int .i64 0, .str ⟨#[]⟩, .isl [] true], none, []⟩, ⟨some 7, .mv (.t 15), none, []⟩, ⟨none, .store 4 (.t 8) (.t 17), none, []⟩]) ( .seq (.seq (.region [ ⟨some 18, .mv (.t 7), none, []⟩, ⟨some 19, .mv (.t 1), none, []⟩, ⟨some 20, .len false (.t 19), none, []⟩, ⟨some 21, .bin .geq (.t 18) (.t 20), none, []⟩]) ( .cond (.t 21) ( .seq (.region [ ⟨some 6, .mv (.c (.int .i64 1)), none, []⟩]) ( .ret)) ( .skip))) ( .seq (.region [ ⟨some 22, .mv (.t 1), none, []⟩, ⟨some 23, .mv (.t 7), none, []⟩, ⟨some 24, .iaddrS 4 (.t 22) (.t 23), none, []⟩, ⟨some 25, .load 4 true (.t 24), none, []⟩, ⟨some 9, .alloc [.int .i64 0, .int .i64 0, .str ⟨#[]⟩, .isl [] true], none, []⟩, ⟨none, .store 4 (.t 9) (.t 25), none, []⟩]) ( .seq (.region [ ⟨some 26, .mv (.t 2), none, []⟩, ⟨some 27, .load 4 true (.t 8), none, []⟩, ⟨some 28, .load 4 true (.t 9), none, []⟩, ⟨some 29, .callv (.t 26) [.t 27, .t 28], none, []⟩, ⟨some 10, .mv (.t 29), none, []⟩]) ( .seq (.region [ ⟨some 30, .mv (.t 10), none, []⟩, ⟨some 31, .bin .neq (.t 30) (.c (.int .i64 0)), none, []⟩]) ( .cond (.t 31) ( .seq (.region [ ⟨some 32, .mv (.t 10), none, []⟩, ⟨some 6, .mv (.t 32), none, []⟩]) ( .ret)) ( .skip)))))))) ( .region [ ⟨some 33, .bin .add (.t 13) (.c (.int .i64 1)), none, []⟩, ⟨some 13, .mv (.t 33), none, []⟩]))))))) ( .seq (.seq (.region [ ⟨some 34, .mv (.t 0), none, []⟩, ⟨some 35, .len false (.t 34), none, []⟩, ⟨some 36, .mv (.t 1), none, []⟩, ⟨some 37, .len false (.t 36), none, []⟩, ⟨some 38, .bin .lss (.t 35) (.t 37), none, []⟩]) ( .cond (.t 38) ( .seq (.region [ ⟨some 6, .mv (.c (.int .i64 (-1))), none, []⟩]) ( .ret)) ( .skip))) ( .seq (.region [ ⟨some 6, .mv (.c (.int .i64 0)), none, []⟩]) ( .ret)))), .pure, true, true⟩
theorem k165 : compF Tryz.prog { mt := false, mtAt := [], mode := .pure, clArgs := true, clRes := true } Tryz.f165 = some c165 := by kernel_rfl
def c168 : AFunc := ⟨6, [.tmp 2], .seq (.region [ ⟨some 2, .mv (.c (.bool false)), none, []⟩]) ( .seq (.region [ ⟨some 3, .mv (.t 0), none, []⟩, ⟨some 4, .mv (.t 0), none, []⟩, ⟨some 5, .bin .neq (.t 3) (.t 4), none, []⟩, ⟨some 2, .mv (.t 5), none, []⟩]) ( .ret)), .pure, true, true⟩
theorem k168 : compF Tryz.prog { mt := false, mtAt := [], mode := .pure, clArgs := true, clRes := true } Tryz.f168 = some c168 := by kernel_rfl
def x160 : AFunc := ⟨8, [.tmp 2],
  .seq (.region [
    ⟨(some 2), .mv (.c (.isl [] true)), none, []⟩]) (
  .seq (.seq (.region [
    ⟨(some 3), .mv (.t 0), none, []⟩,
    ⟨(some 4), .eqnil false (.t 3), none, []⟩]) (
  .cond (.t 4) (
    .seq (.region [
      ⟨(some 2), .mv (.c (.isl [] true)), none, []⟩]) (
    .ret)) (
    .skip))) (
  .seq (.region [
    ⟨(some 5), .buildSl 0 4 true [] [], none, []⟩,
    ⟨(some 6), .mv (.t 0), none, []⟩,
    ⟨(some 7), .append 4 true 56 true (.t 5) (.t 6), none, []⟩,
    ⟨(some 2), .mv (.t 7), none, []⟩]) (
  .ret))),
  .raw, false, false⟩
theorem kx160 : compF Tryz.prog { mt := true, mtAt := [], mode := .raw, clArgs := false, clRes := false } Tryz.f160 = some x160 := by kernel_rfl
def fns : List (Nat × AFunc) := [(3, c3), (4, c4), (5, c5), (6, c6), (7, c7), (8, c8), (9, c9), (10, c10), (11, c11), (12, c12), (13, c13), (14, c14), (15, c15), (16, c16), (17, c17), (18, c18), (19, c19), (20, c20), (21, c21), (22, c22), (23, c23), (24, c24), (25, c25), (26, c26), (27, c27), (28, c28), (29, c29), (30, c30), (31, c31), (32, c32), (33, c33), (34, c34), (35, c35), (36, c36), (37, c37), (38, c38), (39, c39), (40, c40), (41, c41), (44, c44), (46, c46), (47, c47), (48, c48), (49, c49), (50, c50), (51, c51), (52, c52), (53, c53), (54, c54), (55, c55), (56, c56), (57, c57), (58, c58), (59, c59), (60, c60), (61, c61), (62, c62), (63, c63), (64, c64), (65, c65), (66, c66), (67, c67), (68, c68), (69, c69), (70, c70), (71, c71), (72, c72), (73, c73), (74, c74), (75, c75), (76, c76), (77, c77), (78, c78), (79, c79), (80, c80), (81, c81), (82, c82), (83, c83), (87, c87), (88, c88), (89, c89), (90, c90), (91, c91), (92, c92), (93, c93), (94, c94), (95, c95), (96, c96), (97, c97), (98, c98), (99, c99), (100, c100), (101, c101), (102, c102), (103, c103), (104, c104), (105, c105), (106, c106), (107, c107), (108, c108), (109, c109), (110, c110), (111, c111), (112, c112), (113, c113), (114, c114), (115, c115), (116, c116), (117, c117), (118, c118), (121, c121), (122, c122), (123, c123), (124, c124), (125, c125), (126, c126), (127, c127), (128, c128), (129, c129), (130, c130), (131, c131), (132, c132), (133, c133), (134, c134), (135, c135), (136, c136), (137, c137), (138, c138), (139, c139), (140, c140), (145, c145), (146, c146), (147, c147), (148, c148), (149, c149), (150, c150), (151, c151), (152, c152), (153, c153), (154, c154), (162, c162), (163, c163), (164, c164), (165, c165), (168, c168)]
theorem fns_ok : ∀ p ∈ fns, ∃ fn pol, Tryz.prog.funcs[p.1]? = some fn ∧ compF Tryz.prog pol fn = some p.2 := by
  simp only [fns, List.forall_mem_cons]
  exact ⟨⟨_, _, Tryz.func3, k3⟩, ⟨_, _, Tryz.func4, k4⟩, ⟨_, _, Tryz.func5, k5⟩, ⟨_, _, Tryz.func6, k6⟩, ⟨_, _, Tryz.func7, k7⟩, ⟨_, _, Tryz.func8, k8⟩, ⟨_, _, Tryz.func9, k9⟩, ⟨_, _, Tryz.func10, k10⟩, ⟨_, _, Tryz.func11, k11⟩, ⟨_, _, Tryz.func12, k12⟩, ⟨_, _, Tryz.func13, k13⟩, ⟨_, _, Tryz.func14, k14⟩, ⟨_, _, Tryz.func15, k15⟩, ⟨_, _, Tryz.func16, k16⟩, ⟨_, _, Tryz.func17, k17⟩, ⟨_, _, Tryz.func18, k18⟩, ⟨_, _, Tryz.func19, k19⟩, ⟨_, _, Tryz.func20, k20⟩, ⟨_, _, Tryz.func21, k21⟩, ⟨_, _, Tryz.func22, k22⟩, ⟨_, _, Tryz.func23, k23⟩, ⟨_, _, Tryz.func24, k24⟩, ⟨_, _, Tryz.func25, k25⟩, ⟨_, _, Tryz.func26, k26⟩, ⟨_, _, Tryz.func27, k27⟩, ⟨_, _, Tryz.func28, k28⟩, ⟨_, _, Tryz.func29, k29⟩, ⟨_, _, Tryz.func30, k30⟩, ⟨_, _, Tryz.func31, k31⟩, ⟨_, _, Tryz.func32, k32⟩, ⟨_, _, Tryz.func33, k33⟩, ⟨_, _, Tryz.func34, k34⟩, ⟨_, _, Tryz.func35, k35⟩, ⟨_, _, Tryz.func36, k36⟩, ⟨_, _, Tryz.func37, k37⟩, ⟨_, _, Tryz.func38, k38⟩, ⟨_, _, Tryz.func39, k39⟩, ⟨_, _, Tryz.func40, k40⟩, ⟨_, _, Tryz.func41, k41⟩, ⟨_, _, Tryz.func44, k44⟩, ⟨_, _, Tryz.func46, k46⟩, ⟨_, _, Tryz.func47, k47⟩, ⟨_, _, Tryz.func48, k48⟩, ⟨_, _, Tryz.func49, k49⟩, ⟨_, _, Tryz.func50, k50⟩, ⟨_, _, Tryz.func51, k51⟩, ⟨_, _, Tryz.func52, k52⟩, ⟨_, _, Tryz.func53, k53⟩, ⟨_, _, Tryz.func54, k54⟩, ⟨_, _, Tryz.func55, k55⟩, ⟨_, _, Tryz.func56, k56⟩, ⟨_, _, Tryz.func57, k57⟩, ⟨_, _, Tryz.func58, k58⟩, ⟨_, _, Tryz.func59, k59⟩, ⟨_, _, Tryz.func60, k60⟩, ⟨_, _, Tryz.func61, k61⟩, ⟨_, _, Tryz.func62, k62⟩, ⟨_, _, Tryz.func63, k63⟩, ⟨_, _, Tryz.func64, k64⟩, ⟨_, _, Tryz.func65, k65⟩, ⟨_, _, Tryz.func66, k66⟩, ⟨_, _, Tryz.func67, k67⟩, ⟨_, _, Tryz.func68, k68⟩, ⟨_, _, Tryz.func69, k69⟩, ⟨_, _, Tryz.func70, k70⟩, ⟨_, _, Tryz.func71, k71⟩, ⟨_, _, Tryz.func72, k72⟩, ⟨_, _, Tryz.func73, k73⟩, ⟨_, _, Tryz.func74, k74⟩, ⟨_, _, Tryz.func75, k75⟩, ⟨_, _, Tryz.func76, k76⟩, ⟨_, _, Tryz.func77, k77⟩, ⟨_, _, Tryz.func78, k78⟩, ⟨_, _, Tryz.func79, k79⟩, ⟨_, _, Tryz.func80, k80⟩, ⟨_, _, Tryz.func81, k81⟩, ⟨_, _, Tryz.func82, k82⟩, ⟨_, _, Tryz.func83, k83⟩, ⟨_, _, Tryz.func87, k87⟩, ⟨_, _, Tryz.func88, k88⟩, ⟨_, _, Tryz.func89, k89⟩, ⟨_, _, Tryz.func90, k90⟩, ⟨_, _, Tryz.func91, k91⟩, ⟨_, _, Tryz.func92, k92⟩, ⟨_, _, Tryz.func93, k93⟩, ⟨_, _, Tryz.func94, k94⟩, ⟨_, _, Tryz.func95, k95⟩, ⟨_, _, Tryz.func96, k96⟩, ⟨_, _, Tryz.func97, k97⟩, ⟨_, _, Tryz.func98, k98⟩, ⟨_, _, Tryz.func99, k99⟩, ⟨_, _, Tryz.func100, k100⟩, ⟨_, _, Tryz.func101, k101⟩, ⟨_, _, Tryz.func102, k102⟩, ⟨_, _, Tryz.func103, k103⟩, ⟨_, _, Tryz.func104, k104⟩, ⟨_, _, Tryz.func105, k105⟩, ⟨_, _, Tryz.func106, k106⟩, ⟨_, _, Tryz.func107, k107⟩, ⟨_, _, Tryz.func108, k108⟩, ⟨_, _, Tryz.func109, k109⟩, ⟨_, _, Tryz.func110, k110⟩, ⟨_, _, Tryz.func111, k111⟩, ⟨_, _, Tryz.func112, k112⟩, ⟨_, _, Tryz.func113, k113⟩, ⟨_, _, Tryz.func114, k114⟩, ⟨_, _, Tryz.func115, k115⟩, ⟨_, _, Tryz.func116, k116⟩, ⟨_, _, Tryz.func117, k117⟩, ⟨_, _, Tryz.func118, k118⟩, ⟨_, _, Tryz.func121, k121⟩, ⟨_, _, Tryz.func122, k122⟩, ⟨_, _, Tryz.func123, k123⟩, ⟨_, _, Tryz.func124, k124⟩, ⟨_, _, Tryz.func125, k125⟩, ⟨_, _, Tryz.func126, k126⟩, ⟨_, _, Tryz.func127, k127⟩, ⟨_, _, Tryz.func128, k128⟩, ⟨_, _, Tryz.func129, k129⟩, ⟨_, _, Tryz.func130, k130⟩, ⟨_, _, Tryz.func131, k131⟩, ⟨_, _, Tryz.func132, k132⟩, ⟨_, _, Tryz.func133, k133⟩, ⟨_, _, Tryz.func134, k134⟩, ⟨_, _, Tryz.func135, k135⟩, ⟨_, _, Tryz.func136, k136⟩, ⟨_, _, Tryz.func137, k137⟩, ⟨_, _, Tryz.func138, k138⟩, ⟨_, _, Tryz.func139, k139⟩, ⟨_, _, Tryz.func140, k140⟩, ⟨_, _, Tryz.func145, k145⟩, ⟨_, _, Tryz.func146, k146⟩, ⟨_, _, Tryz.func147, k147⟩, ⟨_, _, Tryz.func148, k148⟩, ⟨_, _, Tryz.func149, k149⟩, ⟨_, _, Tryz.func150, k150⟩, ⟨_, _, Tryz.func151, k151⟩, ⟨_, _, Tryz.func152, k152⟩, ⟨_, _, Tryz.func153, k153⟩, ⟨_, _, Tryz.func154, k154⟩, ⟨_, _, Tryz.func162, k162⟩, ⟨_, _, Tryz.func163, k163⟩, ⟨_, _, Tryz.func164, k164⟩, ⟨_, _, Tryz.func165, k165⟩, ⟨_, _, Tryz.func168, k168⟩, fun _ h => by cases h⟩
end Go.Proofs.YtpkfkipbemdhmaaGreatDoor
end
section
set_option linter.unusedVariables false
set_option linter.unusedSimpArgs false
set_option linter.unnecessarySimpa false
namespace Go.Proofs.YtpkfkipbemdhmaaGreatDoor
open Go.RowKit Go.Mach
set_option maxHeartbeats 1000000 in
set_option maxRecDepth 100000 in
theorem cmp_calls (a b : ByteArray) (w : World) :
    Calls Tryz.prog 169 #[.string a, .string b] w fun e w' => e = .returned (.int .i64 (Lib.compareBytes a.data.toList b.data.toList)) ∧ w' = w := by
  go_enter Tryz.func169, Tryz.ntmps169
  go_wp2
  rw [run_callFunc_extern Tryz.func170 (by kernel_rfl) (by kernel_rfl) (by kernel_rfl) (e := Extern.BytealgCompare.compare) (by kernel_rfl), Lib.run_compareString]
  simp only [Result.andThen]
  rw [Oper.upon_value]
  go_wp2
  go_ret
  exact ⟨rfl, rfl⟩
def cmpP (args : List AV) (_ : Nat) (σ : Heap) : Option (AV × Heap) := match args with
  | [.str a, .str b] => some (.int .i64 (Lib.compareBytes a.data.toList b.data.toList), σ)
  | _ => none
theorem args1 {g : Gh} {x : AV} {cargs : Array Value} (hA : Args g [x] cargs) : ∃ c, cargs = #[c] ∧ VR g x c := by
  have h0 := hA.len
  match hcl : cargs.toList, (show cargs.toList.length = 1 by simpa using h0.symm) with
  | [c], _ => exact ⟨c, by rw [← Array.toArray_toList (xs := cargs), hcl], hA.val 0 _ c rfl (by rw [← Array.getElem?_toList, hcl]; rfl)⟩
theorem args2 {g : Gh} {x y : AV} {cargs : Array Value} (hA : Args g [x, y] cargs) : ∃ c d, cargs = #[c, d] ∧ VR g x c ∧ VR g y d := by
  have h0 := hA.len
  match hcl : cargs.toList, (show cargs.toList.length = 2 by simpa using h0.symm) with
  | [c, d], _ =>
    exact ⟨c, d, by rw [← Array.toArray_toList (xs := cargs), hcl], hA.val 0 _ c rfl (by rw [← Array.getElem?_toList, hcl]; rfl), hA.val 1 _ d rfl (by rw [← Array.getElem?_toList, hcl]; rfl)⟩
theorem cmp_ok : PrimOK Tryz.prog 169 cmpP := by
  intro args bs σ v σ' h hbs
  unfold cmpP at h
  split at h
  · rename_i a b
    injection h with h; injection h with e1 e2; subst e1 e2
    refine ⟨⟨_, Tryz.func169, by kernel_rfl, by kernel_rfl⟩, fun g ow w cargs hH hA => ?_⟩
    obtain ⟨c, d, rfl, hx, hy⟩ := args2 hA
    rw [hx.strv, hy.strv]
    refine (cmp_calls a b w).mono ?_
    rintro e w' ⟨rfl, rfl⟩
    exact ⟨_, g, ow, rfl, .int _ _, hH, .refl ..⟩
  · cases h
set_option maxHeartbeats 1000000 in
set_option maxRecDepth 100000 in
theorem grow_calls (a : Option Addr) (n : Int) (h0 : 0 < n) (hn : n ≤ 1000000000) (w : World) :
    Calls Tryz.prog 161 #[.slice a 0 0, .int .i64 n] w fun e w' => ∃ c cv tag, e = .returned (.slice (some ⟨w.heap.size, 0, none⟩) 0 c) ∧
      w'.heap = w.heap.push (.cells cv tag (0, 0)) ∧ Same w w' ∧ c * 4 ≤ cv.size := by
  have hb : Tryz.t34.bytes = 56 := by rfl
  have hg : Builtin.nextslicecap n.toNat 0 = n.toNat := nextslicecap_zero (by omega)
  go_enter Tryz.func161, Tryz.ntmps161
  cases a
  all_goals (
    go_wp2
    all_goals first
      | (exfalso; simp only [hb, hg] at *; omega)
      | skip
    go_ret
    refine ⟨_, rfl, _, ⟨_, rfl⟩, ⟨rfl, rfl, rfl⟩, ?_⟩
    simp [Builtin.zeroCells, Question.cut]
    omega)
set_option maxRecDepth 100000 in
theorem grow_none (a : Option Addr) (w : World) :
    Calls Tryz.prog 161 #[.slice a 0 0, .int .i64 0] w fun e w' => e = .returned (.slice a 0 0) ∧ w' = w := by
  go_enter Tryz.func161, Tryz.ntmps161
  go_wp2
  go_ret
  exact ⟨rfl, rfl⟩
def growP (args : List AV) (_ : Nat) (σ : Heap) : Option (AV × Heap) := match args with
  | [.isl [] true, .int .i64 n] => if 0 < n ∧ n ≤ 1000000000 then some (.own σ.length [], σ ++ [.tok 0 4]) else if n = 0 then some (.isl [] true, σ) else none
  | _ => none
theorem grow_ok : PrimOK Tryz.prog 161 growP := by
  intro args bs σ v σ' h hbs
  unfold growP at h
  split at h
  · rename_i n
    refine ⟨⟨_, Tryz.func161, by kernel_rfl, by kernel_rfl⟩, fun g ow w cargs hH hA => ?_⟩
    obtain ⟨c, d, rfl, hx, hy⟩ := args2 hA
    have hy : d = .int .i64 n := by cases hy; rfl
    obtain ⟨ad, hc⟩ : ∃ ad, c = .slice ad 0 0 := by
      cases hx with
      | @isl _ _ ad c0 _ _ _ vs hc hs ha hcap hn hM hV => have := hcap rfl; simp at this; subst this; exact ⟨_, rfl⟩
    subst hc hy
    split at h
    · rename_i hn
      injection h with h; injection h with e1 e2; subst e1 e2
      refine (grow_calls ad n hn.1 hn.2 w).mono ?_
      rintro e w' ⟨c, cv, tag, rfl, hw, hs, hc⟩
      obtain ⟨hle, hH', hS⟩ := hH.tokNew (bs := bs) (n := 0) (s := 4) (c := c) hw hs (.inl ⟨rfl, rfl⟩) hc (Nat.zero_le _)
      refine ⟨_, _, _, rfl, own_VR (es := []) (s := 4) (by simp) (by omega) ?_ (Nat.zero_le _) (by simp [flat]), hH', hS⟩
      simp [Gh.tk]
    · split at h
      · rename_i h0; subst h0
        injection h with h; injection h with e1 e2; subst e1 e2
        refine (grow_none ad w).mono ?_
        rintro e w' ⟨rfl, rfl⟩
        exact ⟨_, g, ow, rfl, hx, hH, .refl ..⟩
      · cases h
  · cases h
theorem eq_nil {P : Program} {t e : TypeId} (ht : P.underlying t = some (.slice e)) (a : Option Addr) (c : Nat) (w : World) : Sem.run P (binOp .eql t (.slice a 0 c) (.slice none 0 0)) w = .ok (.bool a.isNone) w := by
  have heq : (Op.equal t (.slice a 0 c) (.slice none 0 0)).run P w = .ok a.isNone w := by
    have hd : ∀ d, (Op.equalIn (d + 1) t (.slice a 0 c) (.slice none 0 0)).run P w = .ok a.isNone w := fun d => by cases a <;> simp [Op.equalIn, run_und ht]
    exact hd 9999
  simp [binOp, heq]
set_option maxRecDepth 100000 in
set_option maxHeartbeats 1000000 in
theorem cloneV_nil (a : Option Addr) (c : Nat) (w : World) :
    Calls Tryz.prog 160 #[.slice a 0 c] w fun e w' => ∃ a', e = .returned (.slice a' 0 0) ∧ Same w w' ∧ w.heap.size ≤ w'.heap.size ∧ ∀ b, b < w.heap.size → w'.heap[b]? = w.heap[b]? := by
  go_enter Tryz.func160, Tryz.ntmps160
  have hu : Tryz.prog.underlying 32 = some (.slice 34) := by kernel_rfl
  cases a with
  | none =>
    have hb : ∀ w, Sem.run Tryz.prog (binOp .eql 32 (.slice none 0 c) (.slice none 0 0)) w = .ok (.bool true) w := fun w => eq_nil hu none c w
    go_wp2
    go_ret
    exact ⟨_, rfl, ⟨rfl, rfl, rfl⟩, Nat.le_refl _, fun _ _ => rfl⟩
  | some a =>
    have hb : ∀ w, Sem.run Tryz.prog (binOp .eql 32 (.slice (some a) 0 c) (.slice none 0 0)) w = .ok (.bool false) w := fun w => eq_nil hu (some a) c w
    go_wp2
    go_ret
    have hal : ∀ o, (w.alloc o).heap = w.heap.push o := fun _ => rfl
    exact ⟨_, rfl, ⟨rfl, rfl, rfl⟩, by rw [hal, Array.size_push]; exact Nat.le_succ _, fun b hb => by rw [hal, Array.getElem?_push, if_neg (Nat.ne_of_lt hb)]⟩
end Go.Proofs.YtpkfkipbemdhmaaGreatDoor
end
section
set_option linter.unusedVariables false
set_option linter.unusedSimpArgs false
set_option linter.unnecessarySimpa false
namespace Go.Proofs.YtpkfkipbemdhmaaGreatDoor
open Go.RowKit Go.Mach
def TV : Tab := ⟨fun f => if f = 160 then some x160 else none, fun _ => none⟩
theorem TV_ok : TabOK Tryz.prog TV where
  mixed := by kernel_rfl
  fn f af h := by
    simp only [TV] at h
    split at h
    · rename_i e; injection h with h; subst h e; exact ⟨_, _, Tryz.func160, kx160⟩
    · cases h
  pr f p h := by cases h
theorem cloneV_run (es : List AV) (c : Bool) (bs : Nat) (σ : Heap) (hne : es ≠ []) (hf : (flat es).length = es.length * 4) (hl : es.length ≤ 10000000000) :
    evalFn TV 3 160 [.isl es c] bs σ = some (.sl (σ.length + 1) 0 es.length 4 true, σ ++ [.cells [] 0 false, .cells (flat es) 0 true]) := by
  have hnn : notNil (.isl es c) = true := by cases es with
    | nil => exact absurd rfl hne
    | cons x l => rfl
  have he0 : elemsA (σ ++ [.cells [] 0 false]) 4 true (.sl σ.length 0 0 4 true) = some [] := by
    simp [elemsA, window, chunk]
  have he1 : elemsN (σ ++ [.cells [] 0 false]) 4 true (.isl es c) = some es := rfl
  have hap : appendA (σ ++ [.cells [] 0 false]) 4 true 56 true (.sl σ.length 0 0 4 true) (.isl es c) = some (.sl (σ.length + 1) 0 es.length 4 true, σ ++ [.cells [] 0 false, .cells (flat es) 0 true]) := by
    have h1 : ¬ ((4 : Nat) = 0 ∨ (0 + es.length) * 56 > 70368744177664 ∨ 0 + es.length > 70368744177664) := by omega
    simp only [appendA, he0, he1, Option.bind_some, isSl, if_neg hne, List.length_nil, if_neg h1]
    simp [hf]
    simp [flat]
  simp [evalFn, TV, x160, exec, runOps, startA, stepAll, stepOp, ev, hnn, onNormal, finA, resA, res1, closeRes, closeArgs, dropA, baseA, guardA, chkO, setDst, fillA, hap]
def cloneVP (args : List AV) (bs : Nat) (σ : Heap) : Option (AV × Heap) := match args with
  | [.isl es c] => if es = [] then some (.isl [] true, σ) else if (flat es).length = es.length * 4 ∧ es.length ≤ 10000000000 then some (.sl (σ.length + 1) 0 es.length 4 true, σ ++ [.cells [] 0 false, .cells (flat es) 0 true]) else none
  | _ => none
theorem cloneV_ok : PrimOK Tryz.prog 160 cloneVP := by
  intro args bs σ v σ' h hbs
  unfold cloneVP at h
  split at h
  · rename_i es c
    split at h
    · rename_i he; subst he
      injection h with h; injection h with e1 e2; subst e1 e2
      refine ⟨⟨_, Tryz.func160, by kernel_rfl, by kernel_rfl⟩, fun g ow w cargs hH hA => ?_⟩
      obtain ⟨cc, rfl, hx⟩ := args1 hA
      obtain ⟨ad, cap, rfl⟩ : ∃ ad cap, cc = .slice ad 0 cap := by
        cases hx with
        | @isl _ _ ad c0 _ _ _ vs hc hs ha hcap hn hM hV => exact ⟨_, _, rfl⟩
      refine (cloneV_nil ad cap w).mono ?_
      rintro e w' ⟨a', rfl, hs, hsz, hheap⟩
      obtain ⟨h1, h2⟩ := hH.more (bs := bs) hsz hheap hs.os hs.tape hs.output
      exact ⟨_, g, ow, rfl, isl_VR (es := []) (b := 0) (p := 0) (s := 1) (a := a') (c := 0) (by simp) (by omega) (.inl rfl) (fun _ => rfl) (Nat.zero_le _) (by simp [flat]), h1, h2⟩
    · rename_i hne
      split at h
      · rename_i hc
        injection h with h; injection h with e1 e2; subst e1 e2
        exact eval_sound TV_ok 3 _ _ _ _ _ _ (cloneV_run es c bs σ hne hc.1 hc.2) hbs
      · cases h
  · cases h
end Go.Proofs.YtpkfkipbemdhmaaGreatDoor
end
section
set_option linter.unusedVariables false
set_option linter.unusedSimpArgs false
set_option linter.unnecessarySimpa false
namespace Go.Proofs.YtpkfkipbemdhmaaGreatDoor
open Go.RowKit Go.Mach
structure Only (w w' : World) (b : Nat) : Prop where
  same : Same w w'
  size : w'.heap.size = w.heap.size
  block : ∀ k, k ≠ b → w'.heap[k]? = w.heap[k]?
set_option maxHeartbeats 1000000 in
set_option maxRecDepth 100000 in
theorem copyCheck_used (b : Nat) (w : World) (h0 : w.cell? ⟨b, 0, none⟩ = some (.pointer (some ⟨b, 0, none⟩))) :
    Calls Tryz.prog 85 #[.pointer (some ⟨b, 0, none⟩)] w fun e w' => e = .returned (.tuple #[]) ∧ w' = w := by
  have hp : Tryz.prog.underlying 75 = some (.pointer 78) := by kernel_rfl
  obtain ⟨j, hj, _⟩ := Option.map_eq_some_iff.1 (show (Tryz.prog.info? 78).map (·.size) = some 2 by kernel_rfl)
  go_enter Tryz.func85, Tryz.ntmps85
  go_wp2
  rw [Lib.run_neq_ptr_same w _ hp hj]
  go_wp2
  go_end0
  exact ⟨rfl, rfl⟩
set_option maxHeartbeats 1000000 in
set_option maxRecDepth 100000 in
theorem copyCheck_fresh (b t : Nat) (w : World) (h0 : w.cell? ⟨b, 0, none⟩ = some (.pointer none)) (hsh : w.shape? b = some (t, 2)) (hfz : w.frozen? ⟨b, 0, none⟩ = false) (hl : liesAt Tryz.prog Tryz.prog.depth t (2 / Tryz.prog.cellsOf t) 0 78 1 = true) :
    Calls Tryz.prog 85 #[.pointer (some ⟨b, 0, none⟩)] w fun e w' => e = .returned (.tuple #[]) ∧ w' = w.setCell ⟨b, 0, none⟩ (.pointer (some ⟨b, 0, none⟩)) := by
  have hp : Tryz.prog.underlying 75 = some (.pointer 78) := by kernel_rfl
  have hu : Tryz.prog.underlying 133 = some .unsafePointer := by kernel_rfl
  obtain ⟨j, hj, hjs⟩ := Option.map_eq_some_iff.1 (show (Tryz.prog.info? 78).map (·.size) = some 2 by kernel_rfl)
  go_enter Tryz.func85, Tryz.ntmps85
  go_wp2
  rw [Lib.run_to_unsafe w ⟨b, 0, none⟩ hp hu hj (by rw [hjs]; decide) hsh (Nat.zero_lt_succ 1)]
  simp only [Result.andThen]
  rw [Oper.upon_value]
  go_wp2
  rw [run_callFunc_extern Tryz.func119 (by kernel_rfl) (by kernel_rfl) (by kernel_rfl) (e := Extern.AbiNoEscape.same) (by kernel_rfl)]
  rw [Lib.run_noEscape]
  simp only [Result.andThen]
  rw [Oper.upon_value]
  go_wp2
  rw [Lib.run_from_unsafe w ⟨b, 0, none⟩ hu hp hj hsh hl]
  simp only [Result.andThen]
  rw [Oper.upon_value]
  go_wp2
  go_end0
  exact ⟨rfl, rfl⟩
def OwnR (w : World) (e : TypeId) (v : Value) (l : List UInt8) : Prop :=
  (v = .slice none 0 0 ∧ l = []) ∨ ∃ gb cap cur, v = .slice (some ⟨gb, 0, none⟩) l.length cap ∧ w.heap[gb]? = some (.cells cur e (0, 0)) ∧ l.length ≤ cap ∧ cur.size = cap ∧ cur.toList.take l.length = Lib.byteCells l
theorem OwnR.kept {w w' : World} {e : TypeId} {v : Value} {l : List UInt8} (h : OwnR w e v l) (hk : ∀ k, v.ownBlock = some k → k < w.heap.size → w'.heap[k]? = w.heap[k]?) : OwnR w' e v l := by
  rcases h with h | ⟨gb, cap, cur, rfl, h2, h3, h4, h5⟩
  · exact .inl h
  · exact .inr ⟨gb, cap, cur, rfl, (hk gb rfl (Array.getElem?_eq_some_iff.1 h2).1).trans h2, h3, h4, h5⟩
theorem OwnR.lt {w : World} {e : TypeId} {v : Value} {l : List UInt8} (h : OwnR w e v l) {k : Nat} (hk : v.ownBlock = some k) : k < w.heap.size := by
  rcases h with ⟨rfl, _⟩ | ⟨gb, cap, cur, rfl, h2, _⟩
  · cases hk
  · injection hk with hk; subst hk; exact (Array.getElem?_eq_some_iff.1 h2).1
theorem byteCells_one (l : List UInt8) : ∀ u ∈ Lib.byteCells l, u.oneCell' = true := fun u hu => by
  obtain ⟨b, _, rfl⟩ := List.mem_map.1 hu; rfl
theorem app_row {P : Program} {t u ty e : TypeId} {i : TypeInfo} (ht : P.underlying t = some (.slice e)) (hu : P.underlying u = some .string ∨ ∃ e', P.underlying u = some (.slice e')) (hi : P.info? e = some i)
    (hz0 : i.zero = some (.int .u8 0)) (hz1 : i.size = 1) (hz2 : i.bytes = 1) {w : World} {v cx : Value} {l k : List UInt8} (hv : OwnR w e v l) (hn : Src P w cx 1 k.length (Lib.byteCells k)) (hlen : l.length + k.length ≤ 70368744177664) :
    ∃ v' w', (Builtin.append_ #[t, u] ty #[v, cx]).run P w = .ok v' w' ∧ OwnR w' e v' (l ++ k) ∧ Same w w' ∧ w.heap.size ≤ w'.heap.size ∧ (∀ q, q < w.heap.size → some q ≠ v.ownBlock → w'.heap[q]? = w.heap[q]?) ∧ (v'.ownBlock = v.ownBlock ∨ v'.ownBlock = some w.heap.size) := by
  have hzv : ∀ w, (zeroValue e).run P w = .ok (.int .u8 0) w := fun w => by simp [zeroValue, typeInfo, hi, hz0]
  rw [← hz1] at hn
  have grow : ∀ ad n c, v = .slice ad n c → n = l.length → Src P w (.slice ad n c) i.size n (Lib.byteCells l) → c < n + k.length →
      ∃ v' w', (Builtin.append_ #[t, u] ty #[v, cx]).run P w = .ok v' w' ∧ OwnR w' e v' (l ++ k) ∧ Same w w' ∧ w.heap.size ≤ w'.heap.size ∧ (∀ q, q < w.heap.size → some q ≠ v.ownBlock → w'.heap[q]? = w.heap[q]?) ∧ (v'.ownBlock = v.ownBlock ∨ v'.ownBlock = some w.heap.size) := by
    rintro ad n c rfl rfl ho hg
    obtain ⟨cap, w1, hcap, hr, hw, hs⟩ := run_app_grow (ty := ty) ht hu hi hzv ho hn hg ⟨by rw [hz2]; omega, hlen⟩
    refine ⟨_, w1, hr, .inr ⟨w.heap.size, cap, (Lib.byteCells l).toArray ++ (Lib.byteCells k).toArray ++ Builtin.zeroCells (Value.int .u8 0).cells (cap - (l.length + k.length)), by simp, by rw [hw, Array.getElem?_push, if_pos rfl], by simpa using hcap, ?_, ?_⟩, hs, by rw [hw]; simp, fun q hq _ => by rw [hw, Array.getElem?_push]; simp [Nat.ne_of_lt hq], .inr rfl⟩
    · have e1 : (Value.int .u8 0).cells.size = 1 := rfl
      simp [Builtin.zeroCells, Lib.byteCells, e1]; omega
    · rw [Array.toList_append, Array.toList_append, List.toList_toArray, List.toList_toArray, List.take_append_of_le_length (by simp [Lib.byteCells]), List.take_of_length_le (by simp [Lib.byteCells]), Lib.byteCells_append]
  rcases hv with ⟨rfl, rfl⟩ | ⟨gb, cap, cur, rfl, h2, h3, h4, h5⟩
  · by_cases hk : k.length = 0
    · have hk0 : k = [] := List.eq_nil_of_length_eq_zero hk
      subst hk0
      have hrun := run_app_fits (P := P) (ty := ty) ht hu hi (ad := none) (n := 0) (c := 0) hn (by simp)
      exact ⟨_, w, hrun, .inl ⟨rfl, rfl⟩, .refl w, Nat.le_refl _, fun _ _ _ => rfl, .inl rfl⟩
    · exact grow none 0 0 rfl rfl ⟨fun w' => by simp [Builtin.lenOf], fun w' _ => by simp [Builtin.firstCells, Lib.byteCells], by simp [Lib.byteCells]⟩ (by omega)
  · have hcell : ∀ j u, (Lib.byteCells l)[j]? = some u → cur[j]? = some u := fun j u hu => by
      rw [← h5, List.getElem?_take] at hu
      split at hu
      · simpa using hu
      · cases hu
    have ho : Src P w (.slice (some ⟨gb, 0, none⟩) l.length cap) i.size l.length (Lib.byteCells l) := by
      refine ⟨fun w' => by simp [Builtin.lenOf], fun w' hw => run_firstCells_some w' i.size l.length ⟨gb, 0, none⟩ l.length cap _ (by rw [hz1]; simp [Lib.byteCells]) fun j u hu => ?_, by rw [hz1]; simp [Lib.byteCells]⟩
      rw [addr_add, Nat.zero_add, cell_heap (by rw [hw]; exact h2)]
      exact hcell j u hu
    rcases Nat.lt_or_ge cap (l.length + k.length) with hg | hg
    · exact grow _ _ _ rfl rfl ho hg
    · have hrun := run_app_fits (P := P) (ty := ty) ht hu hi (ad := some ⟨gb, 0, none⟩) (n := l.length) (c := cap) hn hg
      obtain ⟨w', hsr, hh, hsm⟩ := run_storeCells (P := P) gb (0 + l.length * i.size) e (0, 0) (Lib.byteCells k) 0 cur w h2 (byteCells_one k) (by rw [hz1]; simp [Lib.byteCells]; omega) (fun j hj1 hj2 => by omega)
      rw [Nat.add_zero] at hh
      simp only [addr_add, hsr, Result.andThen_ok] at hrun
      have hgl : gb < w.heap.size := (Array.getElem?_eq_some_iff.1 h2).1
      refine ⟨_, w', hrun, .inr ⟨gb, cap, setRunA cur (0 + l.length * i.size) (Lib.byteCells k), by simp, heap_set_at hh hgl, by simpa using hg, by rw [setRunA_size]; exact h4, ?_⟩, hsm, by rw [hh]; simp, fun q _ hq => heap_set hh q (fun e => hq (by rw [e]; rfl)), .inl rfl⟩
      have hget : ∀ j, (setRunA cur (0 + l.length * i.size) (Lib.byteCells k))[j]? = if 0 + l.length * i.size ≤ j ∧ j < 0 + l.length * i.size + (Lib.byteCells k).length then (Lib.byteCells k)[j - (0 + l.length * i.size)]? else cur[j]? := fun j => setRunA_get _ _ _ _ (by rw [hz1]; simp [Lib.byteCells]; omega)
      apply List.ext_getElem?
      intro j
      rw [List.getElem?_take, Lib.byteCells_append]
      have hbl : (Lib.byteCells l).length = l.length := by simp [Lib.byteCells]
      have hbk : (Lib.byteCells k).length = k.length := by simp [Lib.byteCells]
      rw [hz1] at hget
      simp only [hz1]
      split
      · rename_i hj
        rw [List.length_append] at hj
        rw [Array.getElem?_toList, hget]
        rcases Nat.lt_or_ge j l.length with hjl | hjl
        · rw [if_neg (by omega), List.getElem?_append_left (by omega)]
          have := List.getElem?_eq_getElem (l := Lib.byteCells l) (i := j) (by omega)
          rw [this]; exact hcell _ _ this
        · rw [if_pos (by omega), List.getElem?_append_right (by omega)]
          congr 1; omega
      · rename_i hj
        rw [List.length_append] at hj
        rw [List.getElem?_eq_none (by simp [Lib.byteCells]; omega)]
theorem wpList_app_row {P : Program} {ops : Array Oper} {rest : List Oper} {o : Oper} {a : Act} {Q : Exit → Act → World → Prop} (hgd : o.guard = none) (s x : Operand) (t u : TypeId)
    (ho : o.op = .call { callee := .builtin .append, args := #[s, x], argTypes := #[t, u] }) {e : TypeId} {i : TypeInfo} (ht : P.underlying t = some (.slice e)) (hu : P.underlying u = some .string ∨ ∃ e', P.underlying u = some (.slice e')) (hi : P.info? e = some i)
    (hz0 : i.zero = some (.int .u8 0)) (hz1 : i.size = 1) (hz2 : i.bytes = 1) {w : World} {v cx : Value} {l k : List UInt8} (hs : a.eval s = v) (hx : a.eval x = cx) (hv : OwnR w e v l) (hn : Src P w cx 1 k.length (Lib.byteCells k)) (hlen : l.length + k.length ≤ 70368744177664)
    (h : ∀ v' w', OwnR w' e v' (l ++ k) → Same w w' → w.heap.size ≤ w'.heap.size → (∀ q, q < w.heap.size → some q ≠ v.ownBlock → w'.heap[q]? = w.heap[q]?) → (v'.ownBlock = v.ownBlock ∨ v'.ownBlock = some w.heap.size) → wpList P ops Q rest (a.put o.dst v') w') : wpList P ops Q (o :: rest) a w := by
  refine wpList_plain hgd fun K hK => ?_
  obtain ⟨v', w', hr, h1, h2, h3, h4, h5⟩ := app_row (P := P) (ty := o.type) ht hu hi hz0 hz1 hz2 hv hn hlen
  unfold Oper.wp execOp
  simp only [ho, resolve, invoke, builtin, Sem.run_bind, Sem.run_pure, Result.andThen_ok, List.map_toArray, List.map_cons, List.map_nil, hs, hx, hr]
  exact hK _ _ (h v' w' h1 h2 h3 h4 h5)
def RowAt (w : World) (b t e : Nat) (l : List UInt8) (p v : Value) : Prop :=
  w.heap[b]? = some (.cells #[p, v] t (0, 0)) ∧ OwnR w e v l ∧ v.ownBlock ≠ some b
theorem RowAt.cell0 {w : World} {b t e : Nat} {l : List UInt8} {p v : Value} (h : RowAt w b t e l p v) : w.cell? ⟨b, 0, none⟩ = some p := by simp [World.cell?, h.1]
theorem RowAt.cell1 {w : World} {b t e : Nat} {l : List UInt8} {p v : Value} (h : RowAt w b t e l p v) : w.cell? ⟨b, 1, none⟩ = some v := by simp [World.cell?, h.1]
theorem RowAt.lt {w : World} {b t e : Nat} {l : List UInt8} {p v : Value} (h : RowAt w b t e l p v) : b < w.heap.size := (Array.getElem?_eq_some_iff.1 h.1).1
theorem Only.refl (w : World) (b : Nat) : Only w w b := ⟨⟨rfl, rfl, rfl⟩, rfl, fun _ _ => rfl⟩
theorem copyCheck_calls (b t e : Nat) (l : List UInt8) (p v : Value) (w : World) (h : RowAt w b t e l p v) (hp : p = .pointer none ∨ p = .pointer (some ⟨b, 0, none⟩)) (hl : liesAt Tryz.prog Tryz.prog.depth t (2 / Tryz.prog.cellsOf t) 0 78 1 = true) :
    Calls Tryz.prog 85 #[.pointer (some ⟨b, 0, none⟩)] w fun ex w' => ex = .returned (.tuple #[]) ∧ RowAt w' b t e l (.pointer (some ⟨b, 0, none⟩)) v ∧ Only w w' b := by
  rcases hp with rfl | rfl
  · refine (copyCheck_fresh b t w h.cell0 (by simp [World.shape?, h.1]) (by simp [World.frozen?, h.1]) hl).mono ?_
    rintro ex w' ⟨rfl, rfl⟩
    have hb : ∀ k, k ≠ b → (w.setCell ⟨b, 0, none⟩ (.pointer (some ⟨b, 0, none⟩))).heap[k]? = w.heap[k]? := fun k hk => Below.heap_setCell _ _ _ _ hk
    refine ⟨rfl, ⟨?_, h.2.1.kept fun k hk _ => hb k (fun e => h.2.2 (by rw [hk, e])), h.2.2⟩, ⟨rfl, rfl, rfl⟩, by simp [World.setCell], hb⟩
    simp [World.setCell, Array.getElem?_modify, h.1]
  · refine (copyCheck_used b w h.cell0).mono ?_
    rintro ex w' ⟨rfl, rfl⟩
    exact ⟨rfl, h, .refl _ _⟩
structure OnlyB (w w' : World) (b : Nat) (v v' : Value) : Prop where
  same : Same w w'
  size : w.heap.size ≤ w'.heap.size
  block : ∀ k, k < w.heap.size → k ≠ b → some k ≠ v.ownBlock → w'.heap[k]? = w.heap[k]?
  own : v'.ownBlock = v.ownBlock ∨ ∀ k, v'.ownBlock = some k → w.heap.size ≤ k
set_option maxHeartbeats 2000000 in
set_option maxRecDepth 100000 in
theorem ws_calls (b t : Nat) (l : List UInt8) (p v : Value) (s : ByteArray) (w : World) (h : RowAt w b t 5 l p v) (hp : p = .pointer none ∨ p = .pointer (some ⟨b, 0, none⟩)) (hl : liesAt Tryz.prog Tryz.prog.depth t (2 / Tryz.prog.cellsOf t) 0 78 1 = true)
    (hlen : l.length + s.size ≤ 70368744177664) :
    Calls Tryz.prog 42 #[.pointer (some ⟨b, 0, none⟩), .string s] w fun ex w' => ∃ cv v', ex = .returned cv ∧ RowAt w' b t 5 (l ++ s.data.toList) (.pointer (some ⟨b, 0, none⟩)) v' ∧ OnlyB w w' b v v' := by
  have hs41 : Tryz.prog.underlying 76 = some (.slice 5) := by kernel_rfl
  have hs9 : Tryz.prog.underlying 9 = some .string := by kernel_rfl
  obtain ⟨i0, hi, hz⟩ := Option.map_eq_some_iff.1 (show (Tryz.prog.info? 5).map (fun i => (i.zero, i.size, i.bytes)) = some (some (.int .u8 0), 1, 1) by kernel_rfl)
  injection hz with hz0 hz; injection hz with hz1 hz2
  have hsl : s.data.toList.length = s.size := by simp
  have hlen2 : l.length + s.data.toList.length ≤ 70368744177664 := by omega
  have hsrc : ∀ w, Src Tryz.prog w (.string s) 1 s.data.toList.length (Lib.byteCells s.data.toList) := fun w => by rw [hsl]; exact str_src rfl
  go_enter Tryz.func42, Tryz.ntmps42
  go_wp2_with (go_at_call 85; refine (copyCheck_calls b t 5 l p v _ h hp hl).mono ?_)
  rintro ex w1 ⟨rfl, h1, hb1⟩
  have c0 := h1.cell0
  have c1 := h1.cell1
  have hne := h1.2.2
  go_wp2_with (at_builtin; refine wpList_app_row (v := v) (cx := .string s) (l := l) (k := s.data.toList) rfl _ _ 76 9 rfl hs41 (.inl hs9) hi hz0 hz1 hz2 rfl rfl h1.2.1 (hsrc _) hlen2 ?_)
  intro v' w2 hown' hsm hsz hfr hblk
  have hb2 : w2.heap[b]? = some (.cells #[.pointer (some ⟨b, 0, none⟩), v] t (0, 0)) := by
    rw [hfr b h1.lt (fun e => hne e.symm)]
    exact h1.1
  have hvb : v'.ownBlock ≠ some b := by
    rcases hblk with e | e
    · rw [e]; exact hne
    · rw [e]; intro e2; injection e2 with e2; have := h1.lt; omega
  have d0 : w2.cell? ⟨b, 0, none⟩ = some (.pointer (some ⟨b, 0, none⟩)) := by rw [Lib.cell_of_heap hb2]; rfl
  have d1 : w2.cell? ⟨b, 1, none⟩ = some v := by rw [Lib.cell_of_heap hb2]; rfl
  have f1 : w2.frozen? ⟨b, 1, none⟩ = false := Lib.frozen_of_heap hb2 1
  obtain ⟨ao, n', cap, rfl⟩ : ∃ ao n' cap, v' = .slice ao n' cap := by
    rcases hown' with ⟨hv, _⟩ | ⟨g, cap, cur, hv, _⟩
    · exact ⟨_, _, _, hv⟩
    · exact ⟨_, _, _, hv⟩
  go_wp2
  go_ret2
  have hset : ∀ k, k ≠ b → (w2.setCell ⟨b, 1, none⟩ (.slice ao n' cap)).heap[k]? = w2.heap[k]? := fun k hk => Below.heap_setCell _ _ _ _ hk
  refine ⟨_, .slice ao n' cap, rfl, ⟨?_, hown'.kept fun k hk _ => hset k (fun e => hvb (by rw [hk, e])), hvb⟩, ⟨hsm.os.trans hb1.same.os, hsm.tape.trans hb1.same.tape, hsm.output.trans hb1.same.output⟩, ?_, fun k hk hkb hkv => ?_, ?_⟩
  · simp [World.setCell, Array.getElem?_modify, hb2]
  · have := hb1.size; simp [World.setCell]; omega
  · rw [hset k hkb, hfr k (by rw [hb1.size]; exact hk) hkv, hb1.block k hkb]
  · rcases hblk with e | e
    · exact .inl e
    · refine .inr fun k hk => ?_
      rw [e] at hk; injection hk with hk; rw [← hk, hb1.size]; exact Nat.le_refl _
set_option maxHeartbeats 2000000 in
set_option maxRecDepth 100000 in
theorem wb_calls (b t : Nat) (l : List UInt8) (p v : Value) (c : UInt8) (w : World) (h : RowAt w b t 5 l p v) (hp : p = .pointer none ∨ p = .pointer (some ⟨b, 0, none⟩)) (hl : liesAt Tryz.prog Tryz.prog.depth t (2 / Tryz.prog.cellsOf t) 0 78 1 = true)
    (hlen : l.length + 1 ≤ 70368744177664) :
    Calls Tryz.prog 45 #[.pointer (some ⟨b, 0, none⟩), .int .u8 (c.toNat : Int)] w fun ex w' => ∃ cv v', ex = .returned cv ∧ RowAt w' b t 5 (l ++ [c]) (.pointer (some ⟨b, 0, none⟩)) v' ∧ OnlyB w w' b v v' := by
  have hs41 : Tryz.prog.underlying 76 = some (.slice 5) := by kernel_rfl
  obtain ⟨i0, hi, hz⟩ := Option.map_eq_some_iff.1 (show (Tryz.prog.info? 5).map (fun i => (i.zero, i.size, i.bytes)) = some (some (.int .u8 0), 1, 1) by kernel_rfl)
  injection hz with hz0 hz; injection hz with hz1 hz2
  go_enter Tryz.func45, Tryz.ntmps45
  go_wp2_with (go_at_call 85; refine (copyCheck_calls b t 5 l p v _ h hp hl).mono ?_)
  rintro ex w1 ⟨rfl, h1, hb1⟩
  have c0 := h1.cell0
  have c1 := h1.cell1
  have hne := h1.2.2
  have h1a : RowAt (w1.alloc (.cells #[.int .u8 (c.toNat : Int)] 5)) b t 5 l (.pointer (some ⟨b, 0, none⟩)) v :=
    ⟨by rw [show (w1.alloc (.cells #[.int .u8 (c.toNat : Int)] 5)).heap = w1.heap.push _ from rfl, Array.getElem?_push, if_neg (Nat.ne_of_lt h1.lt)]; exact h1.1, h1.2.1.kept fun k _ hk => by rw [show (w1.alloc (.cells #[.int .u8 (c.toNat : Int)] 5)).heap = w1.heap.push _ from rfl, Array.getElem?_push, if_neg (Nat.ne_of_lt hk)], h1.2.2⟩
  have hsrc : Src Tryz.prog (w1.alloc (.cells #[.int .u8 (c.toNat : Int)] 5)) (.slice (some ⟨w1.heap.size, 0, none⟩) 1 1) 1 [c].length (Lib.byteCells [c]) := by
    refine ⟨fun w' => by simp [Builtin.lenOf], fun w' hw => run_firstCells_some w' 1 1 ⟨w1.heap.size, 0, none⟩ 1 1 _ (by simp [Lib.byteCells]) fun j u hu => ?_, by simp [Lib.byteCells]⟩
    rw [addr_add, Nat.zero_add, cell_heap (cv := #[.int .u8 (c.toNat : Int)]) (tag := 5) (fr := (0, 0)) (by rw [hw, show (w1.alloc (.cells #[.int .u8 (c.toNat : Int)] 5)).heap = w1.heap.push _ from rfl, Array.getElem?_push, if_pos rfl])]
    match j, hu with
    | 0, hu => simpa [Lib.byteCells] using hu
    | j + 1, hu => simp [Lib.byteCells] at hu
  go_wp2_with (at_builtin; refine wpList_app_row (v := v) (cx := .slice (some ⟨w1.heap.size, 0, none⟩) 1 1) (l := l) (k := [c]) rfl _ _ 76 76 rfl hs41 (.inr ⟨_, hs41⟩) hi hz0 hz1 hz2 rfl rfl h1a.2.1 hsrc hlen ?_)
  intro v' w2 hown' hsm hsz hfr hblk
  have hal : (w1.alloc (.cells #[.int .u8 (c.toNat : Int)] 5)).heap.size = w1.heap.size + 1 := by simp
  have hao : ∀ k, k < w1.heap.size → (w1.alloc (.cells #[.int .u8 (c.toNat : Int)] 5)).heap[k]? = w1.heap[k]? := fun k hk => by rw [show (w1.alloc (.cells #[.int .u8 (c.toNat : Int)] 5)).heap = w1.heap.push _ from rfl, Array.getElem?_push, if_neg (Nat.ne_of_lt hk)]
  have hb2 : w2.heap[b]? = some (.cells #[.pointer (some ⟨b, 0, none⟩), v] t (0, 0)) := by
    rw [hfr b (by have := h1.lt; omega) (fun e => hne e.symm)]
    exact h1a.1
  have hvb : v'.ownBlock ≠ some b := by
    rcases hblk with e | e
    · rw [e]; exact hne
    · rw [e]; intro e2; injection e2 with e2; have := h1.lt; omega
  have d0 : w2.cell? ⟨b, 0, none⟩ = some (.pointer (some ⟨b, 0, none⟩)) := by rw [Lib.cell_of_heap hb2]; rfl
  have d1 : w2.cell? ⟨b, 1, none⟩ = some v := by rw [Lib.cell_of_heap hb2]; rfl
  have f1 : w2.frozen? ⟨b, 1, none⟩ = false := Lib.frozen_of_heap hb2 1
  obtain ⟨ao, n', cap, rfl⟩ : ∃ ao n' cap, v' = .slice ao n' cap := by
    rcases hown' with ⟨hv, _⟩ | ⟨g, cap, cur, hv, _⟩
    · exact ⟨_, _, _, hv⟩
    · exact ⟨_, _, _, hv⟩
  go_wp2
  go_ret
  have hset : ∀ k, k ≠ b → (w2.setCell ⟨b, 1, none⟩ (.slice ao n' cap)).heap[k]? = w2.heap[k]? := fun k hk => Below.heap_setCell _ _ _ _ hk
  refine ⟨_, .slice ao n' cap, rfl, ⟨?_, hown'.kept fun k hk _ => hset k (fun e => hvb (by rw [hk, e])), hvb⟩, ⟨hsm.os.trans hb1.same.os, hsm.tape.trans hb1.same.tape, hsm.output.trans hb1.same.output⟩, ?_, fun k hk hkb hkv => ?_, ?_⟩
  · simp [World.setCell, Array.getElem?_modify, hb2]
  · have := hb1.size; simp [World.setCell]; omega
  · rw [hset k hkb, hfr k (by rw [hb1.size]; omega) hkv, hao k (by rw [hb1.size]; exact hk), hb1.block k hkb]
  · rcases hblk with e | e
    · exact .inl e
    · refine .inr fun k hk => ?_
      rw [e] at hk; injection hk with hk; rw [← hk, hb1.size]; omega
structure OnlyG (w w' : World) (v : Value) : Prop where
  same : Same w w'
  size : w.heap.size ≤ w'.heap.size
  block : ∀ k, k < w.heap.size → some k ≠ v.ownBlock → w'.heap[k]? = w.heap[k]?
theorem OnlyG.drew (w : World) (v : Value) : OnlyG w w.drew v := ⟨⟨rfl, rfl, rfl⟩, Nat.le_refl _, fun _ _ _ => rfl⟩
theorem OnlyG.freeze (w : World) (v : Value) (g n : Nat) (h : v.ownBlock = some g) : OnlyG w (w.drew.freeze ⟨g, 0, none⟩ n) v := by
  unfold World.freeze
  split
  · exact .drew w v
  · refine ⟨⟨rfl, rfl, rfl⟩, by simp, fun k hk hv => ?_⟩
    simp only [Array.getElem?_modify]
    rw [if_neg (fun e => hv (by rw [h]; exact congrArg some e.symm))]; rfl
theorem OnlyG.alloc (w : World) (v : Value) (o : Obj) : OnlyG w (w.drew.alloc o) v := by
  refine ⟨⟨rfl, rfl, rfl⟩, ?_, fun k hk _ => ?_⟩
  · rw [show (w.drew.alloc o).heap = w.heap.push o from rfl, Array.size_push]; exact Nat.le_succ _
  · rw [show (w.drew.alloc o).heap = w.heap.push o from rfl, Array.getElem?_push, if_neg (Nat.ne_of_lt hk)]
set_option maxHeartbeats 2000000 in
set_option maxRecDepth 100000 in
theorem str_calls (b t : Nat) (l : List UInt8) (p v : Value) (w : World) (h : RowAt w b t 5 l p v) (hlen : l.length ≤ 70368744177664) :
    Calls Tryz.prog 84 #[.pointer (some ⟨b, 0, none⟩)] w fun ex w' => ex = .returned (.string ⟨l.toArray⟩) ∧ OnlyG w w' v := by
  have hp : Tryz.prog.underlying 132 = some (.pointer 5) := by kernel_rfl
  have hc : Tryz.prog.cellsOf 5 = 1 := by kernel_rfl
  have hlt := h.lt
  have hbk := h.1
  rcases h.2.1 with ⟨rfl, rfl⟩ | ⟨g, cap, cur, rfl, hg, hnc, hcs, htake⟩
  · have hUS : ∀ W : World, ∀ q, (Builtin.unsafeString_ #[132, 3] 9 #[.pointer q, .int .i64 0]).run Tryz.prog W = .ok (.string .empty) W := fun W q => Lib.run_unsafeString_none W _ _ _ q
    have c1 : w.drew.cell? ⟨b, 1, none⟩ = some (.slice none 0 0) := by
      have : w.drew.heap[b]? = _ := hbk
      rw [Lib.cell_of_heap this]; rfl
    have hSD : (Builtin.unsafeSliceData_ #[76] 132 #[.slice none 0 0]).run Tryz.prog w.drew = .ok (.pointer none) w.drew := rfl
    go_enter Tryz.func84, Tryz.ntmps84
    go_wp2
    go_region
    all_goals (go_wp2; go_ret; exact ⟨rfl, .drew w _⟩)
  · cases l with
    | nil =>
      have hUS : ∀ W : World, ∀ q, (Builtin.unsafeString_ #[132, 3] 9 #[.pointer q, .int .i64 0]).run Tryz.prog W = .ok (.string .empty) W := fun W q => Lib.run_unsafeString_none W _ _ _ q
      by_cases hc0 : cap = 0
      · subst hc0
        have c1 : w.drew.cell? ⟨b, 1, none⟩ = some (.slice (some ⟨g, 0, none⟩) 0 0) := by
          have : w.drew.heap[b]? = _ := hbk
          rw [Lib.cell_of_heap this]; rfl
        have hSD : (Builtin.unsafeSliceData_ #[76] 132 #[.slice (some ⟨g, 0, none⟩) 0 0]).run Tryz.prog w.drew = .ok (.pointer (some ⟨w.drew.heap.size, 0, none⟩)) (w.drew.alloc (.view ⟨g, 0, none⟩ 5)) :=
          Lib.run_unsafeSliceData_zero w.drew _ _ 5 hp ⟨g, 0, none⟩ 0 (5, cur.size) (by have hg' : w.drew.heap[g]? = _ := hg; simp [World.shape?, hg'])
        have c2 : (w.drew.alloc (.view ⟨g, 0, none⟩ 5)).cell? ⟨b, 1, none⟩ = some (.slice (some ⟨g, 0, none⟩) 0 0) := by
          have : (w.drew.alloc (.view ⟨g, 0, none⟩ 5)).heap[b]? = _ := (Lib.alloc_old w.drew _ b hlt).trans hbk
          rw [Lib.cell_of_heap this]; rfl
        have c3 : (w.alloc (.view ⟨g, 0, none⟩ 5)).drew.cell? ⟨b, 1, none⟩ = some (.slice (some ⟨g, 0, none⟩) 0 0) := c2
        have c0 : w.cell? ⟨b, 1, none⟩ = some (.slice (some ⟨g, 0, none⟩) 0 0) := c1
        go_enter Tryz.func84, Tryz.ntmps84
        go_wp2
        go_region
        all_goals (go_wp2; go_ret; exact ⟨rfl, .alloc w _ _⟩)
      · have c1 : w.drew.cell? ⟨b, 1, none⟩ = some (.slice (some ⟨g, 0, none⟩) 0 cap) := by
          have : w.drew.heap[b]? = _ := hbk
          rw [Lib.cell_of_heap this]; rfl
        have hSD : (Builtin.unsafeSliceData_ #[76] 132 #[.slice (some ⟨g, 0, none⟩) 0 cap]).run Tryz.prog w.drew = .ok (.pointer (some ⟨g, 0, none⟩)) w.drew :=
          Lib.run_unsafeSliceData_row _ _ _ _ _ _ hc0
        clear hc0
        go_enter Tryz.func84, Tryz.ntmps84
        go_wp2
        go_region
        all_goals (go_wp2; go_ret; exact ⟨rfl, .drew w _⟩)
    | cons x r =>
      have h0 : (x :: r) ≠ [] := by simp
      generalize hlr : x :: r = l at *
      have hl0 : l.length ≠ 0 := by simpa using h0
      have c1 : w.drew.cell? ⟨b, 1, none⟩ = some (.slice (some ⟨g, 0, none⟩) l.length cap) := by
        have : w.drew.heap[b]? = _ := hbk
        rw [Lib.cell_of_heap this]; rfl
      have hSD : (Builtin.unsafeSliceData_ #[76] 132 #[.slice (some ⟨g, 0, none⟩) l.length cap]).run Tryz.prog w.drew = .ok (.pointer (some ⟨g, 0, none⟩)) w.drew :=
        Lib.run_unsafeSliceData_row _ _ _ _ _ _ (by omega)
      have hUS : (Builtin.unsafeString_ #[132, 3] 9 #[.pointer (some ⟨g, 0, none⟩), .int .i64 l.length]).run Tryz.prog w.drew = .ok (.string ⟨l.toArray⟩) (w.drew.freeze ⟨g, 0, none⟩ l.length) := by
        refine Lib.run_unsafeString_row w.drew 132 3 9 5 hp hc g cur.size (by have hg' : w.drew.heap[g]? = _ := hg; simp [World.shape?, hg']) l h0 (by omega) (by omega) ?_
        intro j x hx
        have hg' : w.drew.heap[g]? = _ := hg
        rw [addr_add, Nat.zero_add, cell_heap hg']
        have := congrArg (fun l => l[j]?) htake
        simp only [List.getElem?_take, Lib.byteCells, List.getElem?_map, hx, Option.map_some] at this
        rw [if_pos (List.getElem?_eq_some_iff.1 hx).1] at this
        simpa using this
      go_enter Tryz.func84, Tryz.ntmps84
      go_wp2
      go_region
      all_goals (go_wp2; go_ret; exact ⟨rfl, .freeze w _ g _ rfl⟩)
def bldTs : List Nat := [78, 80]
theorem bldTs_ok : ∀ t ∈ bldTs, liesAt Tryz.prog Tryz.prog.depth t (2 / Tryz.prog.cellsOf t) 0 78 1 = true := by
  simp only [bldTs, List.forall_mem_cons]
  exact ⟨by kernel_rfl, by kernel_rfl, fun _ h => by cases h⟩
theorem bld_row {g : Gh} {ow : Nat → Option Nat} {id b t e : Nat} {l : List UInt8} {w : World} (h : BldAt g ow id b t e l w) :
    ∃ p v, RowAt w b t e l p v ∧ (p = .pointer none ∨ p = .pointer (some ⟨b, 0, none⟩)) ∧ ow b = some id ∧ (∀ i, g.M b i = none) ∧ ∀ k, v.ownBlock = some k → ow k = some id ∧ ∀ i, g.M k i = none := by
  obtain ⟨p, v, h1, h2, h3, h4, h5⟩ := h
  rcases h5 with ⟨rfl, rfl⟩ | ⟨gb, cap, cur, rfl, m2, m3, m5, m6, m7, m8, m9⟩
  · exact ⟨p, _, ⟨h1, .inl ⟨rfl, rfl⟩, by simp [Value.ownBlock]⟩, h2, h3, h4, fun k hk => by simp [Value.ownBlock] at hk⟩
  · refine ⟨p, _, ⟨h1, .inr ⟨gb, cap, cur, rfl, m2, m3, m5, m6⟩, fun e => by injection e with e; exact m8 e⟩, h2, h3, h4, fun k hk => ?_⟩
    injection hk with hk; subst hk; exact ⟨m7, m9⟩
theorem row_bld {g : Gh} {ow : Nat → Option Nat} {id b t e : Nat} {l : List UInt8} {w : World} {p v : Value} (h : RowAt w b t e l p v) (hp : p = .pointer none ∨ p = .pointer (some ⟨b, 0, none⟩)) (ho : ow b = some id) (hM : ∀ i, g.M b i = none) (hk : ∀ k, v.ownBlock = some k → ow k = some id ∧ ∀ i, g.M k i = none) :
    BldAt g ow id b t e l w := by
  refine ⟨p, v, h.1, hp, ho, hM, ?_⟩
  rcases h.2.1 with ⟨rfl, rfl⟩ | ⟨gb, cap, cur, rfl, m2, m3, m5, m6⟩
  · exact .inl ⟨rfl, rfl⟩
  · obtain ⟨k1, k2⟩ := hk gb rfl
    exact .inr ⟨gb, cap, cur, rfl, m2, m3, m5, m6, k1, fun e => h.2.2 (by rw [e]; rfl), k2⟩
theorem wrote {bs : Nat} {g : Gh} {ow : Nat → Option Nat} {σ : Heap} {w w' : World} (h : HR g ow σ w) {id t e b c : Nat} {l l' : List UInt8} {p v v' : Value} (hσ : σ[id]? = some (.bld t e l)) (hp : g.φ id = some (b, c))
    (hob : ow b = some id) (hMb : ∀ i, g.M b i = none) (hog : ∀ k, v.ownBlock = some k → ow k = some id ∧ ∀ i, g.M k i = none)
    (hR : RowAt w b t e l p v) (hR' : RowAt w' b t e l' (.pointer (some ⟨b, 0, none⟩)) v') (hO : OnlyB w w' b v v') :
    ∃ ow', HR g ow' (σ.set id (.bld t e l')) w' ∧ St bs g ow σ w g ow' (σ.set id (.bld t e l')) w' := by
  have hMn : ∀ k, w.heap.size ≤ k → ∀ i, g.M k i = none := fun k hk i => by
    cases hm : g.M k i with
    | none => rfl
    | some u => have := h.lt hm; omega
  refine ⟨fun k => if some k = v'.ownBlock ∧ w.heap.size ≤ k then some id else ow k, h.bldTo (v := v) hσ hp hob hMb hog hO.same hO.size (fun k hk h1 h2 => hO.block k hk h1 h2) (fun k hk => by rw [if_neg (by omega)]) _ (.inr ⟨l', rfl, row_bld hR' (.inr rfl) ?_ hMb fun k hk => ?_⟩)⟩
  · rw [if_neg (by have := hR.lt; omega)]; exact hob
  · rcases hO.own with e | e
    · rw [e] at hk
      obtain ⟨k1, k2⟩ := hog k hk
      refine ⟨?_, k2⟩
      rw [if_neg (by have := hR.2.1.lt hk; omega)]; exact k1
    · have hge := e k hk
      exact ⟨by rw [if_pos ⟨hk.symm, hge⟩], hMn k hge⟩
def wsP (args : List AV) (_ : Nat) (σ : Heap) : Option (AV × Heap) := match args with
  | [.ptr id 0, .str s] => match σ[id]? with
    | some (.bld t e l) => if t ∈ bldTs ∧ e = 5 ∧ l.length + s.size ≤ 70368744177664 then some (.undef, σ.set id (.bld t e (l ++ s.data.toList))) else none
    | _ => none
  | _ => none
theorem ws_ok : PrimOK Tryz.prog 42 wsP := by
  intro args bs σ v σ' h hbs
  unfold wsP at h
  split at h
  · rename_i id s
    split at h
    · rename_i t e l hσ
      split at h
      · rename_i hc
        obtain ⟨ht, rfl, hlen⟩ := hc
        injection h with h; injection h with e1 e2; subst e1 e2
        refine ⟨⟨_, Tryz.func42, by kernel_rfl, by kernel_rfl⟩, fun g ow w cargs hH hA => ?_⟩
        obtain ⟨c, d, rfl, hx, hy⟩ := args2 hA
        rw [hy.strv]
        cases hx with
        | @ptr _ _ b cc hp =>
          obtain ⟨p, v, hR, hpp, hob, hMb, hog⟩ := bld_row (hH.bd id t _ l hσ b cc hp)
          refine (ws_calls b t l p v s w hR hpp (bldTs_ok t ht) hlen).mono ?_
          rintro ex w' ⟨cv, v', rfl, hR', hO⟩
          obtain ⟨ow', h1, h2⟩ := wrote (bs := bs) hH hσ hp hob hMb hog hR hR' hO
          exact ⟨cv, g, ow', rfl, .undef _, h1, h2⟩
      · cases h
    · cases h
  · cases h
def wbP (args : List AV) (_ : Nat) (σ : Heap) : Option (AV × Heap) := match args with
  | [.ptr id 0, .int .u8 n] => match σ[id]? with
    | some (.bld t e l) => if t ∈ bldTs ∧ e = 5 ∧ l.length + 1 ≤ 70368744177664 ∧ 0 ≤ n ∧ n < 256 then some (.undef, σ.set id (.bld t e (l ++ [UInt8.ofNat n.toNat]))) else none
    | _ => none
  | _ => none
theorem wb_ok : PrimOK Tryz.prog 45 wbP := by
  intro args bs σ v σ' h hbs
  unfold wbP at h
  split at h
  · rename_i id n
    split at h
    · rename_i t e l hσ
      split at h
      · rename_i hc
        obtain ⟨ht, rfl, hlen, hn0, hn1⟩ := hc
        injection h with h; injection h with e1 e2; subst e1 e2
        refine ⟨⟨_, Tryz.func45, by kernel_rfl, by kernel_rfl⟩, fun g ow w cargs hH hA => ?_⟩
        obtain ⟨c, d, rfl, hx, hy⟩ := args2 hA
        have hd : d = .int .u8 ((UInt8.ofNat n.toNat).toNat : Int) := by
          have e : ((UInt8.ofNat n.toNat).toNat : Int) = n := by
            rw [UInt8.toNat_ofNat']; omega
          rw [e]; cases hy; rfl
        subst hd
        cases hx with
        | @ptr _ _ b cc hp =>
          obtain ⟨p, v, hR, hpp, hob, hMb, hog⟩ := bld_row (hH.bd id t _ l hσ b cc hp)
          refine (wb_calls b t l p v (UInt8.ofNat n.toNat) w hR hpp (bldTs_ok t ht) hlen).mono ?_
          rintro ex w' ⟨cv, v', rfl, hR', hO⟩
          obtain ⟨ow', h1, h2⟩ := wrote (bs := bs) hH hσ hp hob hMb hog hR hR' hO
          exact ⟨cv, g, ow', rfl, .undef _, h1, h2⟩
      · cases h
    · cases h
  · cases h
def strP (args : List AV) (_ : Nat) (σ : Heap) : Option (AV × Heap) := match args with
  | [.ptr id 0] => match σ[id]? with
    | some (.bld t e l) => if e = 5 ∧ l.length ≤ 70368744177664 then some (.str ⟨l.toArray⟩, σ.set id .dead) else none
    | _ => none
  | _ => none
theorem str_ok : PrimOK Tryz.prog 84 strP := by
  intro args bs σ v σ' h hbs
  unfold strP at h
  split at h
  · rename_i id
    split at h
    · rename_i t e l hσ
      split at h
      · rename_i hc
        obtain ⟨rfl, hlen⟩ := hc
        injection h with h; injection h with e1 e2; subst e1 e2
        refine ⟨⟨_, Tryz.func84, by kernel_rfl, by kernel_rfl⟩, fun g ow w cargs hH hA => ?_⟩
        obtain ⟨c, rfl, hx⟩ := args1 hA
        cases hx with
        | @ptr _ _ b cc hp =>
          obtain ⟨p, v, hR, hpp, hob, hMb, hog⟩ := bld_row (hH.bd id t _ l hσ b cc hp)
          refine (str_calls b t l p v w hR hlen).mono ?_
          rintro ex w' ⟨rfl, hO⟩
          obtain ⟨h1, h2⟩ := hH.bldTo (bs := bs) (ow' := ow) (v := v) hσ hp hob hMb hog hO.same hO.size (fun k hk _ hv => hO.block k hk hv) (fun _ _ => rfl) .dead (.inl rfl)
          exact ⟨_, g, ow, rfl, .str _, h1, h2⟩
      · cases h
    · cases h
  · cases h
end Go.Proofs.YtpkfkipbemdhmaaGreatDoor
end
section
namespace Go.Proofs
open Go.Shelf
def Tryz.laysM171_ren : Go.Shelf.Ren := ⟨fun | 171 => 43 | 243 => 86 | 246 => 120 | 283 => 141 | 284 => 142 | 285 => 143 | 286 => 144 | 129 => 156 | 317 => 155 | 318 => 157 | 319 => 158 | 320 => 159 | 337 => 166 | 338 => 167 | n => n, fun | 3 => 3 | 9 => 9 | 2 => 2 | 4 => 4 | 171 => 141 | 0 => 0 | 53 => 142 | 37 => 76 | 5 => 5 | 173 => 145 | 212 => 158 | 51 => 159 | 20 => 20 | 213 => 160 | 46 => 162 | 232 => 171 | 233 => 172 | n => n, fun | 17 => 0 | 18 => 1 | 19 => 2 | n => n⟩
theorem Tryz.laysM171 : Go.Proofs.LaysM.n171 Tryz.prog Tryz.laysM171_ren := {
  mixed := by kernel_rfl
  f129 := Tryz.func156.trans (congrArg some (by kernel_rfl))
  f171 := Tryz.func43.trans (congrArg some (by kernel_rfl))
  f243 := Tryz.func86.trans (congrArg some (by kernel_rfl))
  f246 := Tryz.func120.trans (congrArg some (by kernel_rfl))
  f283 := Tryz.func141.trans (congrArg some (by kernel_rfl))
  f284 := Tryz.func142.trans (congrArg some (by kernel_rfl))
  f285 := Tryz.func143.trans (congrArg some (by kernel_rfl))
  f286 := Tryz.func144.trans (congrArg some (by kernel_rfl))
  f317 := Tryz.func155.trans (congrArg some (by kernel_rfl))
  f318 := Tryz.func157.trans (congrArg some (by kernel_rfl))
  f319 := Tryz.func158.trans (congrArg some (by kernel_rfl))
  f320 := Tryz.func159.trans (congrArg some (by kernel_rfl))
  f337 := Tryz.func166.trans (congrArg some (by kernel_rfl))
  f338 := Tryz.func167.trans (congrArg some (by kernel_rfl))
  t0 := Tryz.underlying0
  a0 := Tryz.isAgg0
  z0 := Tryz.sizeOf0
  v0 := Tryz.zeroValue0
  t2 := Tryz.underlying2
  a2 := Tryz.isAgg2
  z2 := Tryz.sizeOf2
  v2 := Tryz.zeroValue2
  t3 := Tryz.underlying3
  a3 := Tryz.isAgg3
  z3 := Tryz.sizeOf3
  v3 := Tryz.zeroValue3
  t4 := Tryz.underlying4
  a4 := Tryz.isAgg4
  z4 := Tryz.sizeOf4
  v4 := Tryz.zeroValue4
  t5 := Tryz.underlying5
  a5 := Tryz.isAgg5
  z5 := Tryz.sizeOf5
  v5 := Tryz.zeroValue5
  t9 := Tryz.underlying9
  a9 := Tryz.isAgg9
  z9 := Tryz.sizeOf9
  v9 := Tryz.zeroValue9
  t20 := Tryz.underlying20
  a20 := Tryz.isAgg20
  z20 := Tryz.sizeOf20
  v20 := Tryz.zeroValue20
  t37 := Tryz.underlying76
  a37 := Tryz.isAgg76
  z37 := Tryz.sizeOf76
  v37 := Tryz.zeroValue76
  t46 := Tryz.underlying162
  a46 := Tryz.isAgg162
  z46 := Tryz.sizeOf162
  v46 := Tryz.zeroValue162
  t51 := Tryz.underlying159
  a51 := Tryz.isAgg159
  z51 := Tryz.sizeOf159
  v51 := Tryz.zeroValue159
  t53 := Tryz.underlying142
  a53 := Tryz.isAgg142
  z53 := Tryz.sizeOf142
  v53 := Tryz.zeroValue142
  t171 := Tryz.underlying141
  a171 := Tryz.isAgg141
  z171 := Tryz.sizeOf141
  v171 := Tryz.zeroValue141
  t173 := Tryz.underlying145
  a173 := Tryz.isAgg145
  z173 := Tryz.sizeOf145
  v173 := Tryz.zeroValue145
  t212 := Tryz.underlying158
  a212 := Tryz.isAgg158
  z212 := Tryz.sizeOf158
  v212 := Tryz.zeroValue158
  t213 := Tryz.underlying160
  a213 := Tryz.isAgg160
  z213 := Tryz.sizeOf160
  t232 := Tryz.underlying171
  a232 := Tryz.isAgg171
  z232 := Tryz.sizeOf171
  v232 := Tryz.zeroValue171
  t233 := Tryz.underlying172
  a233 := Tryz.isAgg172
  z233 := Tryz.sizeOf172
  v233 := Tryz.zeroValue172
  g17 := by kernel_rfl
  g18 := by kernel_rfl
  g19 := by kernel_rfl
  i0 := by kernel_rfl
  i2 := by kernel_rfl
  i3 := by kernel_rfl
  i4 := by kernel_rfl
  i5 := by kernel_rfl
  i9 := by kernel_rfl
  i20 := by kernel_rfl
  i37 := by kernel_rfl
  i46 := by kernel_rfl
  i51 := by kernel_rfl
  i53 := by kernel_rfl
  i171 := by kernel_rfl
  i173 := by kernel_rfl
  i212 := by kernel_rfl
  i232 := by kernel_rfl
  i233 := by kernel_rfl
  m17 := by kernel_rfl
  m18 := by kernel_rfl
  m19 := by kernel_rfl }
open Go.RowKit Go.Sort Go.Lib in
theorem Tryz.strconv_Itoa (n : Int) (h0 : -9223372036854775808 ≤ n) (h1 : n ≤ 9223372036854775807) (w : World) (htab : Lib.TabIs Tryz.prog w "internal/strconv.uint64pow10" .u64 Lib.pow10Tab) :
    Calls Tryz.prog 43 #[.int .i64 n] w fun e w' => e = .returned (.string ⟨(Lib.itoa n).toArray⟩) ∧ ∃ k os, w' = grow (w.drewN k) os := Any.strconv_Itoa Tryz.laysM171 n h0 h1 w htab
end Go.Proofs
end
section
set_option linter.unusedVariables false
set_option linter.unusedSimpArgs false
set_option linter.unnecessarySimpa false
namespace Go.Proofs.YtpkfkipbemdhmaaGreatDoor
open Go.RowKit Go.Mach Go.Sort
theorem pow10_pin : (0, (((List.range 20).map fun i => ((10 ^ i : Nat) : Int)).map fun z => Value.int .u64 z).toArray) ∈ pinned := by simp [pinned]
def itoaP (args : List AV) (_ : Nat) (σ : Heap) : Option (AV × Heap) := match args with
  | [.int .i64 n] => if -9223372036854775808 ≤ n ∧ n ≤ 9223372036854775807 then some (.str ⟨(Lib.itoa n).toArray⟩, σ) else none
  | _ => none
theorem itoa_ok : PrimOK Tryz.prog 43 itoaP := by
  intro args bs σ v σ' h hbs
  unfold itoaP at h
  split at h
  · rename_i n
    split at h
    · rename_i hc
      injection h with h; injection h with e1 e2; subst e1 e2
      refine ⟨⟨_, Tryz.func43, by kernel_rfl, by kernel_rfl⟩, fun g ow w cargs hH hA => ?_⟩
      obtain ⟨c, rfl, hx⟩ := args1 hA
      have hx : c = .int .i64 n := by cases hx; rfl
      subst hx
      obtain ⟨⟨t, fr, hp⟩, _⟩ := hH.pin _ pow10_pin
      have htab : Lib.TabIs Tryz.prog w "internal/strconv.uint64pow10" .u64 Lib.pow10Tab := by
        unfold Lib.TabIs World.var?
        rw [show Tryz.prog.globalNamed "internal/strconv.uint64pow10" = some 0 by kernel_rfl]
        simp only [Option.bind_some, hp]; rfl
      refine (Tryz.strconv_Itoa n hc.1 hc.2 w htab).mono ?_
      rintro e w' ⟨rfl, k, os, rfl⟩
      obtain ⟨h1, h2⟩ := hH.more (bs := bs) (w' := grow (w.drewN k) os) (by show w.heap.size ≤ (w.heap ++ os).size; rw [Array.size_append]; omega)
        (fun b hb => by show (w.heap ++ os)[b]? = w.heap[b]?; exact Array.getElem?_append_left hb) rfl rfl rfl
      exact ⟨_, g, ow, rfl, .str _, h1, h2⟩
    · cases h
  · cases h
end Go.Proofs.YtpkfkipbemdhmaaGreatDoor
end
