import Derived.Test.YtddmjmkbnfoodaaC4
import Derived.Test.YtddmjmkbnfoodaaChecked
import Derived.Test.YtddmjmkbnfoodaaC3
import Derived.KernelRfl
import Derived.WalkKit
import Derived.Lib.Bytealg
import Derived.BigFrameIn
import Derived.Lib.Builder
import Derived.Lib.AppendStr
import Derived.Lib.UnsafeStr
import Derived.Lib.Walk
import Derived.BigRegion
import Derived.Laws.IdiomCopy
import Derived.Laws.Externs
import Derived.Laws.RangeAny
set_option linter.unusedVariables false
set_option linter.unusedSimpArgs false
set_option linter.unnecessarySimpa false
section
namespace Go.Proofs.Ytddmjmkbnfoodaa
open Go.Mach
def c3 : AFunc := ⟨127, [.tmp 6], .seq (.region [ ⟨some 3, .box (.t 0), none, []⟩, ⟨some 5, .box (.t 2), none, []⟩, ⟨some 6, .mv (.c (.bool false)), none, []⟩]) ( .seq (.region [ ⟨some 24, .call 4 [], none, []⟩, ⟨some 7, .mv (.t 24), none, []⟩]) ( .seq (.region [ ⟨some 25, .load 7 true (.t 3), none, []⟩, ⟨some 26, .call 5 [.t 25, .c (.int .i64 8)], none, []⟩, ⟨some 8, .alloc [.int .i64 0, .str ⟨#[]⟩, .int .i64 0, .int .i64 0, .str ⟨#[]⟩, .isl [] true, .isl [] true], none, []⟩, ⟨none, .store 7 (.t 8) (.t 26), none, []⟩]) ( .seq (.region [ ⟨some 27, .mv (.t 1), none, []⟩, ⟨some 28, .call 6 [.t 27], none, []⟩, ⟨some 9, .mv (.t 28), none, []⟩]) ( .seq (.region [ ⟨some 30, .load 7 true (.t 8), none, []⟩, ⟨some 31, .mv (.t 9), none, []⟩, ⟨some 32, .call 7 [.t 30, .t 31], none, []⟩, ⟨some 29, .mv (.t 32), none, []⟩, ⟨some 33, .extract 0 (.t 29), none, []⟩, ⟨some 34, .extract 1 (.t 29), none, []⟩, ⟨some 10, .alloc [.int .i64 0, .int .i64 0, .str ⟨#[]⟩, .isl [] true], none, []⟩, ⟨none, .store 4 (.t 10) (.t 33), none, []⟩, ⟨some 11, .mv (.t 34), none, []⟩]) ( .seq (.region [ ⟨some 35, .mv (.t 9), none, []⟩, ⟨some 36, .append 5 true 72 false (.c (.isl [] true)) (.t 35), none, []⟩, ⟨some 37, .mv (.t 9), none, []⟩, ⟨some 38, .append 5 true 72 false (.t 36) (.t 37), none, []⟩, ⟨some 12, .mv (.t 38), none, []⟩]) ( .seq (.region [ ⟨some 39, .load 4 true (.t 5), none, []⟩, ⟨some 40, .build [.str ⟨#[]⟩, .int .i64 0, .int .i64 0, .str ⟨#[]⟩, .isl [] true] [(0, 1, .c (.str ⟨#[79, 116, 104, 101, 114]⟩)), (1, 4, .t 39)], none, []⟩, ⟨some 41, .buildSl 1 5 true [.str ⟨#[]⟩, .int .i64 0, .int .i64 0, .str ⟨#[]⟩, .isl [] true] [(0, 5, .t 40)], none, []⟩, ⟨some 42, .mv (.t 9), none, []⟩, ⟨some 43, .append 5 true 72 false (.t 41) (.t 42), none, []⟩, ⟨some 13, .mv (.t 43), none, []⟩]) ( .seq (.region [ ⟨some 45, .load 7 true (.t 8), none, []⟩, ⟨some 46, .mv (.t 12), none, []⟩, ⟨some 47, .call 7 [.t 45, .t 46], none, []⟩, ⟨some 44, .mv (.t 47), none, []⟩, ⟨some 48, .extract 0 (.t 44), none, []⟩, ⟨some 49, .extract 1 (.t 44), none, []⟩, ⟨some 14, .alloc [.int .i64 0, .int .i64 0, .str ⟨#[]⟩, .isl [] true], none, []⟩, ⟨none, .store 4 (.t 14) (.t 48), none, []⟩, ⟨some 15, .mv (.t 49), none, []⟩]) ( .seq (.region [ ⟨some 50, .load 7 true (.t 8), none, []⟩, ⟨some 51, .call 8 [.t 50], none, []⟩, ⟨some 16, .mv (.t 51), none, []⟩]) ( .seq (.seq (.region [ ⟨some 17, .mv (.c (.int .i64 0)), none, []⟩]) ( .block 0 ( .loop ( .seq (.seq (.region [ ⟨some 52, .mv (.t 17), none, []⟩, ⟨some 53, .mv (.t 16), none, []⟩, ⟨some 54, .len false (.t 53), none, []⟩, ⟨some 55, .bin .lss (.t 52) (.t 54), none, []⟩]) ( .cond (.t 55) ( .skip) ( .exit 0))) ( .seq (.block 1 ( .seq (.region [ ⟨some 58, .mv (.t 16), none, []⟩, ⟨some 59, .mv (.t 17), none, []⟩, ⟨some 60, .iaddrS 1 (.t 58) (.t 59), none, []⟩, ⟨some 61, .load 1 false (.t 60), none, []⟩, ⟨some 62, .bin .eql (.t 61) (.c (.str ⟨#[79, 116, 104, 101, 114]⟩)), none, []⟩]) ( .cond (.t 62) ( .seq (.region [ ⟨some 63, .mv (.t 7), none, []⟩, ⟨some 64, .mv (.t 63), none, []⟩, ⟨some 65, .mv (.t 15), (some (64, true)), []⟩, ⟨some 66, .mv (.t 11), (some (64, true)), []⟩, ⟨some 67, .eqb false (.t 65) (.t 66), (some (64, true)), []⟩, ⟨some 68, .pick (.t 64) (.t 67) (.c (.bool false)), none, []⟩, ⟨some 69, .mv (.t 68), none, []⟩, ⟨some 70, .load 4 true (.t 14), (some (69, true)), []⟩, ⟨some 71, .load 4 true (.t 10), (some (69, true)), []⟩, ⟨some 72, .call 9 [.t 70, .t 71], (some (69, true)), []⟩, ⟨some 73, .pick (.t 69) (.t 72) (.c (.bool false)), none, []⟩, ⟨some 6, .mv (.t 73), none, []⟩]) ( .ret)) ( .skip)))) ( .region [ ⟨some 56, .mv (.t 17), none, []⟩, ⟨some 57, .bin .add (.t 56) (.c (.int .i64 1)), none, []⟩, ⟨some 17, .mv (.t 57), none, []⟩])))))) ( .seq (.region [ ⟨some 75, .load 7 true (.t 8), none, []⟩, ⟨some 76, .mv (.t 13), none, []⟩, ⟨some 77, .call 7 [.t 75, .t 76], none, []⟩, ⟨some 74, .mv (.t 77), none, []⟩, ⟨some 78, .extract 0 (.t 74), none, []⟩, ⟨some 79, .extract 1 (.t 74), none, []⟩, ⟨some 18, .alloc [.int .i64 0, .int .i64 0, .str ⟨#[]⟩, .isl [] true], none, []⟩, ⟨none, .store 4 (.t 18) (.t 78), none, []⟩, ⟨some 19, .mv (.t 79), none, []⟩]) ( .seq (.region [ ⟨some 20, .mv (.c (.bool true)), none, []⟩]) ( .seq (.seq (.region [ ⟨some 21, .mv (.c (.int .i64 0)), none, []⟩]) ( .block 2 ( .loop ( .seq (.seq (.region [ ⟨some 80, .mv (.t 21), none, []⟩, ⟨some 81, .mv (.t 16), none, []⟩, ⟨some 82, .len false (.t 81), none, []⟩, ⟨some 83, .bin .lss (.t 80) (.t 82), none, []⟩]) ( .cond (.t 83) ( .skip) ( .exit 2))) ( .seq (.block 3 ( .seq (.region [ ⟨some 87, .mv (.t 9), none, []⟩, ⟨some 88, .mv (.t 16), none, []⟩, ⟨some 89, .mv (.t 21), none, []⟩, ⟨some 90, .iaddrS 1 (.t 88) (.t 89), none, []⟩, ⟨some 91, .load 1 false (.t 90), none, []⟩, ⟨some 92, .call 10 [.t 87, .t 91], none, []⟩, ⟨some 86, .mv (.t 92), none, []⟩, ⟨some 93, .extract 0 (.t 86), none, []⟩, ⟨some 94, .extract 1 (.t 86), none, []⟩, ⟨some 22, .alloc [.int .i64 0, .int .i64 0, .str ⟨#[]⟩, .isl [] true], none, []⟩, ⟨none, .store 4 (.t 22) (.t 93), none, []⟩, ⟨some 23, .mv (.t 94), none, []⟩]) ( .region [ ⟨some 95, .mv (.t 20), none, []⟩, ⟨some 96, .mv (.t 95), none, []⟩, ⟨some 97, .mv (.t 23), (some (96, true)), []⟩, ⟨some 98, .pick (.t 96) (.t 97) (.c (.bool false)), none, []⟩, ⟨some 20, .mv (.t 98), none, []⟩]))) ( .region [ ⟨some 84, .mv (.t 21), none, []⟩, ⟨some 85, .bin .add (.t 84) (.c (.int .i64 1)), none, []⟩, ⟨some 21, .mv (.t 85), none, []⟩])))))) ( .seq (.region [ ⟨some 99, .mv (.t 7), none, []⟩, ⟨some 100, .mv (.t 99), none, []⟩, ⟨some 101, .mv (.t 15), (some (100, true)), []⟩, ⟨some 102, .mv (.t 11), (some (100, true)), []⟩, ⟨some 103, .eqb false (.t 101) (.t 102), (some (100, true)), []⟩, ⟨some 104, .pick (.t 100) (.t 103) (.c (.bool false)), none, []⟩, ⟨some 105, .mv (.t 104), none, []⟩, ⟨some 106, .mv (.t 19), (some (105, true)), []⟩, ⟨some 107, .mv (.t 11), (some (105, true)), []⟩, ⟨some 108, .eqb false (.t 106) (.t 107), (some (105, true)), []⟩, ⟨some 109, .pick (.t 105) (.t 108) (.c (.bool false)), none, []⟩, ⟨some 110, .mv (.t 109), none, []⟩, ⟨some 111, .load 4 true (.t 14), (some (110, true)), []⟩, ⟨some 112, .load 4 true (.t 10), (some (110, true)), []⟩, ⟨some 113, .call 9 [.t 111, .t 112], (some (110, true)), []⟩, ⟨some 114, .pick (.t 110) (.t 113) (.c (.bool false)), none, []⟩, ⟨some 115, .mv (.t 114), none, []⟩, ⟨some 116, .load 4 true (.t 18), (some (115, true)), []⟩, ⟨some 117, .load 4 true (.t 10), (some (115, true)), []⟩, ⟨some 118, .call 9 [.t 116, .t 117], (some (115, true)), []⟩, ⟨some 119, .pick (.t 115) (.t 118) (.c (.bool false)), none, []⟩, ⟨some 120, .mv (.t 119), none, []⟩, ⟨some 121, .mv (.t 20), (some (120, true)), []⟩, ⟨some 122, .mv (.t 121), (some (120, true)), []⟩, ⟨some 123, .mv (.t 11), (some (122, false)), []⟩, ⟨some 124, .un .not (.t 123), (some (122, false)), []⟩, ⟨some 125, .pick (.t 122) (.c (.bool true)) (.t 124), (some (120, true)), []⟩, ⟨some 126, .pick (.t 120) (.t 125) (.c (.bool false)), none, []⟩, ⟨some 6, .mv (.t 126), none, []⟩]) ( .ret)))))))))))))), .pure, true, true⟩
theorem k3 : compF Try.prog { mt := false, mtAt := [], mode := .pure, clArgs := true, clRes := true } Try.f3 = some c3 := by kernel_rfl
def c4 : AFunc := ⟨79, [.tmp 0], .seq (.region [ ⟨some 0, .mv (.c (.bool false)), none, []⟩]) ( .seq (.region [ ⟨some 12, .build [.int .i64 0, .str ⟨#[]⟩, .int .i64 0, .int .i64 0, .str ⟨#[]⟩, .isl [] true, .isl [] true] [(0, 1, .c (.int .i64 1)), (1, 1, .c (.str ⟨#[88]⟩))], none, []⟩, ⟨some 1, .alloc [.int .i64 0, .str ⟨#[]⟩, .int .i64 0, .int .i64 0, .str ⟨#[]⟩, .isl [] true, .isl [] true], none, []⟩, ⟨none, .store 7 (.t 1) (.t 12), none, []⟩]) ( .seq (.region [ ⟨some 13, .call 11 [.c (.int .i64 1)], none, []⟩, ⟨some 14, .build [.int .i64 0, .str ⟨#[]⟩, .int .i64 0, .int .i64 0, .str ⟨#[]⟩, .isl [] true, .isl [] true] [(0, 1, .c (.int .i64 2)), (2, 4, .t 13)], none, []⟩, ⟨some 2, .alloc [.int .i64 0, .str ⟨#[]⟩, .int .i64 0, .int .i64 0, .str ⟨#[]⟩, .isl [] true, .isl [] true], none, []⟩, ⟨none, .store 7 (.t 2) (.t 14), none, []⟩]) ( .seq (.region [ ⟨some 15, .load 7 true (.t 1), none, []⟩, ⟨some 16, .load 7 true (.t 1), none, []⟩, ⟨some 17, .load 7 true (.t 1), none, []⟩, ⟨some 18, .load 7 true (.t 2), none, []⟩, ⟨some 19, .buildSl 2 7 true [.int .i64 0, .str ⟨#[]⟩, .int .i64 0, .int .i64 0, .str ⟨#[]⟩, .isl [] true, .isl [] true, .int .i64 0, .str ⟨#[]⟩, .int .i64 0, .int .i64 0, .str ⟨#[]⟩, .isl [] true, .isl [] true] [(0, 7, .t 17), (7, 7, .t 18)], none, []⟩, ⟨some 20, .build [.int .i64 0, .str ⟨#[]⟩, .int .i64 0, .int .i64 0, .str ⟨#[]⟩, .isl [] true, .isl [] true] [(0, 1, .c (.int .i64 4)), (1, 1, .c (.str ⟨#[43]⟩)), (6, 1, .t 19)], none, []⟩, ⟨some 21, .buildSl 3 7 true [.int .i64 0, .str ⟨#[]⟩, .int .i64 0, .int .i64 0, .str ⟨#[]⟩, .isl [] true, .isl [] true, .int .i64 0, .str ⟨#[]⟩, .int .i64 0, .int .i64 0, .str ⟨#[]⟩, .isl [] true, .isl [] true, .int .i64 0, .str ⟨#[]⟩, .int .i64 0, .int .i64 0, .str ⟨#[]⟩, .isl [] true, .isl [] true] [(0, 7, .t 15), (7, 7, .t 16), (14, 7, .t 20)], none, []⟩, ⟨some 3, .mv (.t 21), none, []⟩]) ( .seq (.region [ ⟨some 23, .mv (.t 3), none, []⟩, ⟨some 24, .call 11 [.c (.int .i64 2)], none, []⟩, ⟨some 25, .call 11 [.c (.int .i64 2)], none, []⟩, ⟨some 26, .call 11 [.c (.int .i64 3)], none, []⟩, ⟨some 27, .buildSl 3 4 true [.int .i64 0, .int .i64 0, .str ⟨#[]⟩, .isl [] true, .int .i64 0, .int .i64 0, .str ⟨#[]⟩, .isl [] true, .int .i64 0, .int .i64 0, .str ⟨#[]⟩, .isl [] true] [(0, 4, .t 24), (4, 4, .t 25), (8, 4, .t 26)], none, []⟩, ⟨some 28, .call 12 [.t 23, .t 27, .c (.isl [] true)], none, []⟩, ⟨some 22, .mv (.t 28), none, []⟩, ⟨some 29, .extract 0 (.t 22), none, []⟩, ⟨some 30, .extract 1 (.t 22), none, []⟩, ⟨some 4, .mv (.t 29), none, []⟩, ⟨some 5, .mv (.t 30), none, []⟩]) ( .seq (.region [ ⟨some 32, .mv (.t 3), none, []⟩, ⟨some 33, .call 11 [.c (.int .i64 2)], none, []⟩, ⟨some 34, .call 11 [.c (.int .i64 3)], none, []⟩, ⟨some 35, .call 11 [.c (.int .i64 3)], none, []⟩, ⟨some 36, .buildSl 3 4 true [.int .i64 0, .int .i64 0, .str ⟨#[]⟩, .isl [] true, .int .i64 0, .int .i64 0, .str ⟨#[]⟩, .isl [] true, .int .i64 0, .int .i64 0, .str ⟨#[]⟩, .isl [] true] [(0, 4, .t 33), (4, 4, .t 34), (8, 4, .t 35)], none, []⟩, ⟨some 37, .call 12 [.t 32, .t 36, .c (.isl [] true)], none, []⟩, ⟨some 31, .mv (.t 37), none, []⟩, ⟨some 38, .extract 0 (.t 31), none, []⟩, ⟨some 39, .extract 1 (.t 31), none, []⟩, ⟨some 6, .mv (.t 38), none, []⟩, ⟨some 7, .mv (.t 39), none, []⟩]) ( .seq (.region [ ⟨some 41, .mv (.t 4), none, []⟩, ⟨some 42, .call 10 [.t 41, .c (.str ⟨#[88]⟩)], none, []⟩, ⟨some 40, .mv (.t 42), none, []⟩, ⟨some 43, .extract 0 (.t 40), none, []⟩, ⟨some 44, .extract 1 (.t 40), none, []⟩, ⟨some 8, .alloc [.int .i64 0, .int .i64 0, .str ⟨#[]⟩, .isl [] true], none, []⟩, ⟨none, .store 4 (.t 8) (.t 43), none, []⟩, ⟨some 9, .mv (.t 44), none, []⟩]) ( .seq (.region [ ⟨some 46, .mv (.t 3), none, []⟩, ⟨some 47, .iaddrS 7 (.t 46) (.c (.int .i64 2)), none, []⟩, ⟨some 48, .load 7 true (.t 47), none, []⟩, ⟨some 49, .mv (.t 4), none, []⟩, ⟨some 50, .call 7 [.t 48, .t 49], none, []⟩, ⟨some 45, .mv (.t 50), none, []⟩, ⟨some 51, .extract 0 (.t 45), none, []⟩, ⟨some 52, .extract 1 (.t 45), none, []⟩, ⟨some 10, .alloc [.int .i64 0, .int .i64 0, .str ⟨#[]⟩, .isl [] true], none, []⟩, ⟨none, .store 4 (.t 10) (.t 51), none, []⟩, ⟨some 11, .mv (.t 52), none, []⟩]) ( .seq (.region [ ⟨some 53, .mv (.t 5), none, []⟩, ⟨some 54, .mv (.t 53), none, []⟩, ⟨some 55, .mv (.t 7), (some (54, true)), []⟩, ⟨some 56, .un .not (.t 55), (some (54, true)), []⟩, ⟨some 57, .pick (.t 54) (.t 56) (.c (.bool false)), none, []⟩, ⟨some 58, .mv (.t 57), none, []⟩, ⟨some 59, .mv (.t 4), (some (58, true)), []⟩, ⟨some 60, .len false (.t 59), (some (58, true)), []⟩, ⟨some 61, .bin .eql (.t 60) (.c (.int .i64 1)), (some (58, true)), []⟩, ⟨some 62, .pick (.t 58) (.t 61) (.c (.bool false)), none, []⟩, ⟨some 63, .mv (.t 62), none, []⟩, ⟨some 64, .mv (.t 9), (some (63, true)), []⟩, ⟨some 65, .pick (.t 63) (.t 64) (.c (.bool false)), none, []⟩, ⟨some 66, .mv (.t 65), none, []⟩, ⟨some 67, .faddr 1 (.t 8), (some (66, true)), []⟩, ⟨some 68, .load 1 false (.t 67), (some (66, true)), []⟩, ⟨some 69, .bin .eql (.t 68) (.c (.int .i64 2)), (some (66, true)), []⟩, ⟨some 70, .pick (.t 66) (.t 69) (.c (.bool false)), none, []⟩, ⟨some 71, .mv (.t 70), none, []⟩, ⟨some 72, .mv (.t 11), (some (71, true)), []⟩, ⟨some 73, .pick (.t 71) (.t 72) (.c (.bool false)), none, []⟩, ⟨some 74, .mv (.t 73), none, []⟩, ⟨some 75, .faddr 1 (.t 10), (some (74, true)), []⟩, ⟨some 76, .load 1 false (.t 75), (some (74, true)), []⟩, ⟨some 77, .bin .eql (.t 76) (.c (.int .i64 3)), (some (74, true)), []⟩, ⟨some 78, .pick (.t 74) (.t 77) (.c (.bool false)), none, []⟩, ⟨some 0, .mv (.t 78), none, []⟩]) ( .ret))))))))), .pure, true, true⟩
theorem k4 : compF Try.prog { mt := false, mtAt := [], mode := .pure, clArgs := true, clRes := true } Try.f4 = some c4 := by kernel_rfl
def c5 : AFunc := ⟨103, [.cell 4 7 true], .seq (.region [ ⟨some 2, .box (.t 0), none, []⟩, ⟨some 4, .alloc [.int .i64 0, .str ⟨#[]⟩, .int .i64 0, .int .i64 0, .str ⟨#[]⟩, .isl [] true, .isl [] true], none, []⟩]) ( .seq (.region [ ⟨some 11, .faddr 0 (.t 2), none, []⟩, ⟨some 12, .load 1 false (.t 11), none, []⟩, ⟨some 13, .call 13 [.t 12, .c (.int .i64 4)], none, []⟩, ⟨some 5, .mv (.t 13), none, []⟩]) ( .seq (.seq (.region [ ⟨some 14, .mv (.t 1), none, []⟩, ⟨some 15, .bin .leq (.t 14) (.c (.int .i64 1)), none, []⟩, ⟨some 16, .mv (.t 15), none, []⟩, ⟨some 17, .faddr 6 (.t 2), (some (16, false)), []⟩, ⟨some 18, .load 1 false (.t 17), (some (16, false)), []⟩, ⟨some 19, .len false (.t 18), (some (16, false)), []⟩, ⟨some 20, .bin .lss (.t 19) (.c (.int .i64 2)), (some (16, false)), []⟩, ⟨some 21, .pick (.t 16) (.c (.bool true)) (.t 20), none, []⟩]) ( .cond (.t 21) ( .region [ ⟨some 22, .mv (.t 5), none, []⟩, ⟨some 23, .bin .rem (.t 22) (.c (.int .i64 2)), none, []⟩, ⟨some 5, .mv (.t 23), none, []⟩]) ( .skip))) ( .seq (.seq (.region [ ⟨some 24, .mv (.t 5), none, []⟩]) ( .block 0 ( .seq (.region [ ⟨some 26, .bin .eql (.t 24) (.c (.int .i64 0)), none, []⟩, ⟨some 25, .mv (.t 26), none, []⟩]) ( .cond (.t 25) ( .seq (.region [ ⟨some 27, .faddr 1 (.t 2), none, []⟩, ⟨some 28, .load 1 false (.t 27), none, []⟩, ⟨some 29, .call 14 [.t 28], none, []⟩, ⟨some 30, .build [.int .i64 0, .str ⟨#[]⟩, .int .i64 0, .int .i64 0, .str ⟨#[]⟩, .isl [] true, .isl [] true] [(0, 1, .c (.int .i64 1)), (1, 1, .t 29)], none, []⟩, ⟨none, .store 7 (.t 4) (.t 30), none, []⟩]) ( .ret)) ( .seq (.region [ ⟨some 32, .bin .eql (.t 24) (.c (.int .i64 1)), none, []⟩, ⟨some 31, .mv (.t 32), none, []⟩]) ( .cond (.t 31) ( .seq (.region [ ⟨some 33, .faddr 2 (.t 2), none, []⟩, ⟨some 34, .load 4 true (.t 33), none, []⟩, ⟨some 35, .call 15 [.t 34], none, []⟩, ⟨some 6, .alloc [.int .i64 0, .int .i64 0, .str ⟨#[]⟩, .isl [] true], none, []⟩, ⟨none, .store 4 (.t 6) (.t 35), none, []⟩]) ( .seq (.seq (.region [ ⟨some 36, .faddr 0 (.t 6), none, []⟩, ⟨some 37, .load 1 false (.t 36), none, []⟩, ⟨some 38, .bin .eql (.t 37) (.c (.int .i64 3)), none, []⟩]) ( .cond (.t 38) ( .region [ ⟨some 39, .faddr 2 (.t 6), none, []⟩, ⟨some 40, .load 1 false (.t 39), none, []⟩, ⟨some 41, .call 16 [.t 40], none, []⟩, ⟨some 42, .faddr 2 (.t 6), none, []⟩, ⟨none, .store 1 (.t 42) (.t 41), none, []⟩]) ( .skip))) ( .seq (.region [ ⟨some 43, .load 4 true (.t 6), none, []⟩, ⟨some 44, .build [.int .i64 0, .str ⟨#[]⟩, .int .i64 0, .int .i64 0, .str ⟨#[]⟩, .isl [] true, .isl [] true] [(0, 1, .c (.int .i64 2)), (2, 4, .t 43)], none, []⟩, ⟨none, .store 7 (.t 4) (.t 44), none, []⟩]) ( .ret)))) ( .seq (.region [ ⟨some 46, .bin .eql (.t 24) (.c (.int .i64 2)), none, []⟩, ⟨some 45, .mv (.t 46), none, []⟩]) ( .cond (.t 45) ( .seq (.region [ ⟨some 47, .buildSl 6 1 false [.str ⟨#[]⟩, .str ⟨#[]⟩, .str ⟨#[]⟩, .str ⟨#[]⟩, .str ⟨#[]⟩, .str ⟨#[]⟩] [(0, 1, .c (.str ⟨#[102, 95, 99, 111, 110, 115]⟩)), (1, 1, .c (.str ⟨#[102, 95, 115, 105, 122, 101]⟩)), (2, 1, .c (.str ⟨#[102, 95, 109, 101, 109, 98, 101, 114]⟩)), (3, 1, .c (.str ⟨#[102, 95, 102, 105, 114, 115, 116]⟩)), (4, 1, .c (.str ⟨#[102, 95, 114, 101, 118, 101, 114, 115, 101]⟩)), (5, 1, .c (.str ⟨#[102, 95, 99, 111, 110, 99, 97, 116]⟩))], none, []⟩, ⟨some 48, .faddr 1 (.t 2), none, []⟩, ⟨some 49, .load 1 false (.t 48), none, []⟩, ⟨some 50, .len true (.t 49), none, []⟩, ⟨some 51, .faddr 0 (.t 2), none, []⟩, ⟨some 52, .load 1 false (.t 51), none, []⟩, ⟨some 53, .bin .add (.t 50) (.t 52), none, []⟩, ⟨some 54, .call 13 [.t 53, .c (.int .i64 6)], none, []⟩, ⟨some 55, .iaddrS 1 (.t 47) (.t 54), none, []⟩, ⟨some 56, .load 1 false (.t 55), none, []⟩, ⟨some 7, .mv (.t 56), none, []⟩]) ( .seq (.region [ ⟨some 57, .mv (.t 7), none, []⟩, ⟨some 58, .build [.int .i64 0, .str ⟨#[]⟩, .int .i64 0, .int .i64 0, .str ⟨#[]⟩, .isl [] true, .isl [] true] [(0, 1, .c (.int .i64 3)), (1, 1, .t 57)], none, []⟩, ⟨some 8, .alloc [.int .i64 0, .str ⟨#[]⟩, .int .i64 0, .int .i64 0, .str ⟨#[]⟩, .isl [] true, .isl [] true], none, []⟩, ⟨none, .store 7 (.t 8) (.t 58), none, []⟩]) ( .seq (.seq (.region [ ⟨some 9, .mv (.c (.int .i64 0)), none, []⟩]) ( .block 1 ( .loop ( .seq (.seq (.region [ ⟨some 59, .mv (.t 9), none, []⟩, ⟨some 60, .mv (.t 7), none, []⟩, ⟨some 61, .call 17 [.t 60], none, []⟩, ⟨some 62, .bin .lss (.t 59) (.t 61), none, []⟩]) ( .cond (.t 62) ( .skip) ( .exit 1))) ( .seq (.block 2 ( .region [ ⟨some 65, .faddr 6 (.t 8), none, []⟩, ⟨some 66, .load 1 false (.t 65), none, []⟩, ⟨some 67, .faddr 6 (.t 2), none, []⟩, ⟨some 68, .load 1 false (.t 67), none, []⟩, ⟨some 69, .mv (.t 9), none, []⟩, ⟨some 70, .iaddrS 7 (.t 68) (.t 69), none, []⟩, ⟨some 71, .load 7 true (.t 70), none, []⟩, ⟨some 72, .mv (.t 1), none, []⟩, ⟨some 73, .bin .sub (.t 72) (.c (.int .i64 1)), none, []⟩, ⟨some 74, .call 5 [.t 71, .t 73], none, [.t 65]⟩, ⟨some 75, .buildSl 1 7 true [.int .i64 0, .str ⟨#[]⟩, .int .i64 0, .int .i64 0, .str ⟨#[]⟩, .isl [] true, .isl [] true] [(0, 7, .t 74)], none, []⟩, ⟨some 76, .append 7 true 104 false (.t 66) (.t 75), none, []⟩, ⟨some 77, .faddr 6 (.t 8), none, []⟩, ⟨none, .store 1 (.t 77) (.t 76), none, []⟩])) ( .region [ ⟨some 63, .mv (.t 9), none, []⟩, ⟨some 64, .bin .add (.t 63) (.c (.int .i64 1)), none, []⟩, ⟨some 9, .mv (.t 64), none, []⟩])))))) ( .seq (.region [ ⟨some 78, .load 7 true (.t 8), none, []⟩, ⟨none, .store 7 (.t 4) (.t 78), none, []⟩]) ( .ret))))) ( .skip))))))))) ( .seq (.region [ ⟨some 79, .buildSl 3 1 false [.str ⟨#[]⟩, .str ⟨#[]⟩, .str ⟨#[]⟩] [(0, 1, .c (.str ⟨#[43]⟩)), (1, 1, .c (.str ⟨#[45]⟩)), (2, 1, .c (.str ⟨#[42]⟩))], none, []⟩, ⟨some 80, .faddr 1 (.t 2), none, []⟩, ⟨some 81, .load 1 false (.t 80), none, []⟩, ⟨some 82, .len true (.t 81), none, []⟩, ⟨some 83, .call 13 [.t 82, .c (.int .i64 3)], none, []⟩, ⟨some 84, .iaddrS 1 (.t 79) (.t 83), none, []⟩, ⟨some 85, .load 1 false (.t 84), none, []⟩, ⟨some 10, .mv (.t 85), none, []⟩]) ( .seq (.region [ ⟨some 86, .mv (.t 10), none, []⟩, ⟨some 87, .faddr 6 (.t 2), none, []⟩, ⟨some 88, .load 1 false (.t 87), none, []⟩, ⟨some 89, .iaddrS 7 (.t 88) (.c (.int .i64 0)), none, []⟩, ⟨some 90, .load 7 true (.t 89), none, []⟩, ⟨some 91, .mv (.t 1), none, []⟩, ⟨some 92, .bin .sub (.t 91) (.c (.int .i64 1)), none, []⟩, ⟨some 94, .faddr 6 (.t 2), none, []⟩, ⟨some 95, .load 1 false (.t 94), none, []⟩, ⟨some 96, .iaddrS 7 (.t 95) (.c (.int .i64 1)), none, []⟩, ⟨some 97, .load 7 true (.t 96), none, []⟩, ⟨some 98, .mv (.t 1), none, []⟩, ⟨some 99, .bin .sub (.t 98) (.c (.int .i64 1)), none, []⟩, ⟨some 93, .call 5 [.t 90, .t 92], none, [.t 94, .t 96]⟩, ⟨some 100, .call 5 [.t 97, .t 99], none, []⟩, ⟨some 101, .buildSl 2 7 true [.int .i64 0, .str ⟨#[]⟩, .int .i64 0, .int .i64 0, .str ⟨#[]⟩, .isl [] true, .isl [] true, .int .i64 0, .str ⟨#[]⟩, .int .i64 0, .int .i64 0, .str ⟨#[]⟩, .isl [] true, .isl [] true] [(0, 7, .t 93), (7, 7, .t 100)], none, []⟩, ⟨some 102, .build [.int .i64 0, .str ⟨#[]⟩, .int .i64 0, .int .i64 0, .str ⟨#[]⟩, .isl [] true, .isl [] true] [(0, 1, .c (.int .i64 4)), (1, 1, .t 86), (6, 1, .t 101)], none, []⟩, ⟨none, .store 7 (.t 4) (.t 102), none, []⟩]) ( .ret)))))), .pure, true, true⟩
theorem k5 : compF Try.prog { mt := false, mtAt := [], mode := .pure, clArgs := true, clRes := true } Try.f5 = some c5 := by kernel_rfl
def c6 : AFunc := ⟨36, [.tmp 2], .seq (.region [ ⟨some 2, .mv (.c (.isl [] true)), none, []⟩]) ( .seq (.region [ ⟨some 3, .mv (.c (.isl [] true)), none, []⟩]) ( .seq (.seq (.region [ ⟨some 4, .mv (.c (.int .i64 0)), none, []⟩]) ( .block 0 ( .loop ( .seq (.seq (.region [ ⟨some 5, .mv (.t 4), none, []⟩, ⟨some 6, .mv (.t 0), none, []⟩, ⟨some 7, .len false (.t 6), none, []⟩, ⟨some 8, .bin .lss (.t 5) (.t 7), none, []⟩, ⟨some 9, .mv (.t 8), none, []⟩, ⟨some 10, .mv (.t 4), (some (9, true)), []⟩, ⟨some 11, .bin .lss (.t 10) (.c (.int .i64 8)), (some (9, true)), []⟩, ⟨some 12, .pick (.t 9) (.t 11) (.c (.bool false)), none, []⟩]) ( .cond (.t 12) ( .skip) ( .exit 0))) ( .seq (.block 1 ( .region [ ⟨some 15, .mv (.t 3), none, []⟩, ⟨some 16, .buildSl 4 1 false [.str ⟨#[]⟩, .str ⟨#[]⟩, .str ⟨#[]⟩, .str ⟨#[]⟩] [(0, 1, .c (.str ⟨#[86]⟩)), (1, 1, .c (.str ⟨#[86, 97]⟩)), (2, 1, .c (.str ⟨#[83]⟩)), (3, 1, .c (.str ⟨#[88]⟩))], none, []⟩, ⟨some 17, .mv (.t 0), none, []⟩, ⟨some 18, .mv (.t 4), none, []⟩, ⟨some 19, .iaddrS 5 (.t 17) (.t 18), none, []⟩, ⟨some 20, .faddr 0 (.t 19), none, []⟩, ⟨some 21, .load 1 false (.t 20), none, []⟩, ⟨some 22, .len true (.t 21), none, []⟩, ⟨some 26, .mv (.t 0), none, []⟩, ⟨some 27, .mv (.t 4), none, []⟩, ⟨some 28, .iaddrS 5 (.t 26) (.t 27), none, []⟩, ⟨some 29, .faddr 1 (.t 28), none, []⟩, ⟨some 30, .load 4 true (.t 29), none, []⟩, ⟨some 23, .call 18 [.t 22, .c (.int .i64 4)], none, [.t 16, .t 29]⟩, ⟨some 24, .iaddrS 1 (.t 16) (.t 23), none, []⟩, ⟨some 25, .load 1 false (.t 24), none, []⟩, ⟨some 31, .call 15 [.t 30], none, [.t 16, .t 24]⟩, ⟨some 32, .build [.str ⟨#[]⟩, .int .i64 0, .int .i64 0, .str ⟨#[]⟩, .isl [] true] [(0, 1, .t 25), (1, 4, .t 31)], none, []⟩, ⟨some 33, .buildSl 1 5 true [.str ⟨#[]⟩, .int .i64 0, .int .i64 0, .str ⟨#[]⟩, .isl [] true] [(0, 5, .t 32)], none, []⟩, ⟨some 34, .append 5 true 72 false (.t 15) (.t 33), none, []⟩, ⟨some 3, .mv (.t 34), none, []⟩])) ( .region [ ⟨some 13, .mv (.t 4), none, []⟩, ⟨some 14, .bin .add (.t 13) (.c (.int .i64 1)), none, []⟩, ⟨some 4, .mv (.t 14), none, []⟩])))))) ( .seq (.region [ ⟨some 35, .mv (.t 3), none, []⟩, ⟨some 2, .mv (.t 35), none, []⟩]) ( .ret)))), .pure, true, true⟩
theorem k6 : compF Try.prog { mt := false, mtAt := [], mode := .pure, clArgs := true, clRes := true } Try.f6 = some c6 := by kernel_rfl
def c7 : AFunc := ⟨17, [.cell 4 4 true, .tmp 5], .seq (.region [ ⟨some 2, .box (.t 0), none, []⟩, ⟨some 4, .alloc [.int .i64 0, .int .i64 0, .str ⟨#[]⟩, .isl [] true], none, []⟩, ⟨some 5, .mv (.c (.bool false)), none, []⟩]) ( .seq (.region [ ⟨some 9, .mv (.t 1), none, []⟩, ⟨some 10, .load 7 true (.t 2), none, []⟩, ⟨some 11, .call 19 [.t 9, .t 10], none, []⟩, ⟨some 8, .mv (.t 11), none, []⟩, ⟨some 12, .extract 0 (.t 8), none, []⟩, ⟨some 13, .extract 1 (.t 8), none, []⟩, ⟨some 6, .alloc [.int .i64 0, .int .i64 0, .str ⟨#[]⟩, .isl [] true], none, []⟩, ⟨none, .store 4 (.t 6) (.t 12), none, []⟩, ⟨some 7, .mv (.t 13), none, []⟩]) ( .seq (.region [ ⟨some 14, .load 4 true (.t 6), none, []⟩, ⟨some 15, .call 20 [.t 14], none, []⟩, ⟨some 16, .mv (.t 7), none, []⟩, ⟨none, .store 4 (.t 4) (.t 15), none, []⟩, ⟨some 5, .mv (.t 16), none, []⟩]) ( .ret))), .pure, true, true⟩
theorem k7 : compF Try.prog { mt := false, mtAt := [], mode := .pure, clArgs := true, clRes := true } Try.f7 = some c7 := by kernel_rfl
noncomputable def c8 : AFunc := ⟨20, [.cell 2 1 false],
  .seq (.region [
    ⟨(some 1), .box (.t 0), none, []⟩,
    ⟨(some 2), .alloc [.isl [] true], none, []⟩]) (
  .seq (.region [
    ⟨(some 5), .mkmap, none, []⟩,
    ⟨(some 3), .alloc [.nilmap], none, []⟩,
    ⟨none, .store 1 (.t 3) (.t 5), none, []⟩]) (
  .seq (.seq (.region [
    ⟨(some 6), .load 7 true (.t 1), none, []⟩,
    ⟨(some 7), .buildSl 1 7 true [.int .i64 0, .str ⟨#[]⟩, .int .i64 0, .int .i64 0, .str ⟨#[]⟩, .isl [] true, .isl [] true] [(0, 7, .t 6)], none, []⟩,
    ⟨(some 8), .call 21 [.t 7], none, []⟩]) (
  .block 0 (
    .rfn (.t 8) (rcOf Try.f8)))) (
  .ret))),
  .pure, true, true⟩
theorem k8 : compF Try.prog { mt := false, mtAt := [], mode := .pure, clArgs := true, clRes := true } Try.f8 = some c8 := by kernel_rfl
def c9 : AFunc := ⟨31, [.tmp 4], .seq (.region [ ⟨some 2, .box (.t 0), none, []⟩, ⟨some 3, .box (.t 1), none, []⟩, ⟨some 4, .mv (.c (.bool false)), none, []⟩]) ( .seq (.region [ ⟨some 5, .faddr 0 (.t 2), none, []⟩, ⟨some 6, .load 1 false (.t 5), none, []⟩, ⟨some 7, .faddr 0 (.t 3), none, []⟩, ⟨some 8, .load 1 false (.t 7), none, []⟩, ⟨some 9, .bin .eql (.t 6) (.t 8), none, []⟩, ⟨some 10, .mv (.t 9), none, []⟩, ⟨some 11, .faddr 1 (.t 2), (some (10, true)), []⟩, ⟨some 12, .load 1 false (.t 11), (some (10, true)), []⟩, ⟨some 13, .faddr 1 (.t 3), (some (10, true)), []⟩, ⟨some 14, .load 1 false (.t 13), (some (10, true)), []⟩, ⟨some 15, .bin .eql (.t 12) (.t 14), (some (10, true)), []⟩, ⟨some 16, .pick (.t 10) (.t 15) (.c (.bool false)), none, []⟩, ⟨some 17, .mv (.t 16), none, []⟩, ⟨some 18, .faddr 2 (.t 2), (some (17, true)), []⟩, ⟨some 19, .load 1 false (.t 18), (some (17, true)), []⟩, ⟨some 20, .faddr 2 (.t 3), (some (17, true)), []⟩, ⟨some 21, .load 1 false (.t 20), (some (17, true)), []⟩, ⟨some 22, .bin .eql (.t 19) (.t 21), (some (17, true)), []⟩, ⟨some 23, .pick (.t 17) (.t 22) (.c (.bool false)), none, []⟩, ⟨some 24, .mv (.t 23), none, []⟩, ⟨some 25, .faddr 3 (.t 2), (some (24, true)), []⟩, ⟨some 26, .load 1 false (.t 25), (some (24, true)), []⟩, ⟨some 27, .faddr 3 (.t 3), (some (24, true)), []⟩, ⟨some 28, .load 1 false (.t 27), (some (24, true)), []⟩, ⟨some 29, .call 22 [.t 26, .t 28], (some (24, true)), []⟩, ⟨some 30, .pick (.t 24) (.t 29) (.c (.bool false)), none, []⟩, ⟨some 4, .mv (.t 30), none, []⟩]) ( .ret)), .pure, true, true⟩
theorem k9 : compF Try.prog { mt := false, mtAt := [], mode := .pure, clArgs := true, clRes := true } Try.f9 = some c9 := by kernel_rfl
def c10 : AFunc := ⟨17, [.cell 4 4 true, .tmp 5], .seq (.region [ ⟨some 4, .alloc [.int .i64 0, .int .i64 0, .str ⟨#[]⟩, .isl [] true], none, []⟩, ⟨some 5, .mv (.c (.bool false)), none, []⟩]) ( .seq (.region [ ⟨some 9, .mv (.t 0), none, []⟩, ⟨some 10, .mv (.t 1), none, []⟩, ⟨some 11, .call 23 [.t 9, .t 10], none, []⟩, ⟨some 8, .mv (.t 11), none, []⟩, ⟨some 12, .extract 0 (.t 8), none, []⟩, ⟨some 13, .extract 1 (.t 8), none, []⟩, ⟨some 6, .alloc [.int .i64 0, .int .i64 0, .str ⟨#[]⟩, .isl [] true], none, []⟩, ⟨none, .store 4 (.t 6) (.t 12), none, []⟩, ⟨some 7, .mv (.t 13), none, []⟩]) ( .seq (.region [ ⟨some 14, .load 4 true (.t 6), none, []⟩, ⟨some 15, .call 20 [.t 14], none, []⟩, ⟨some 16, .mv (.t 7), none, []⟩, ⟨none, .store 4 (.t 4) (.t 15), none, []⟩, ⟨some 5, .mv (.t 16), none, []⟩]) ( .ret))), .pure, true, true⟩
theorem k10 : compF Try.prog { mt := false, mtAt := [], mode := .pure, clArgs := true, clRes := true } Try.f10 = some c10 := by kernel_rfl
def c11 : AFunc := ⟨5, [.cell 2 4 true], .seq (.region [ ⟨some 2, .alloc [.int .i64 0, .int .i64 0, .str ⟨#[]⟩, .isl [] true], none, []⟩]) ( .seq (.region [ ⟨some 3, .mv (.t 0), none, []⟩, ⟨some 4, .build [.int .i64 0, .int .i64 0, .str ⟨#[]⟩, .isl [] true] [(0, 1, .c (.int .i64 1)), (1, 1, .t 3)], none, []⟩, ⟨none, .store 4 (.t 2) (.t 4), none, []⟩]) ( .ret)), .pure, true, true⟩
theorem k11 : compF Try.prog { mt := false, mtAt := [], mode := .pure, clArgs := true, clRes := true } Try.f11 = some c11 := by kernel_rfl
def c12 : AFunc := ⟨55, [.tmp 6, .tmp 7], .seq (.region [ ⟨some 6, .mv (.c (.isl [] true)), none, []⟩, ⟨some 7, .mv (.c (.bool false)), none, []⟩]) ( .seq (.seq (.region [ ⟨some 12, .mv (.t 0), none, []⟩, ⟨some 13, .len false (.t 12), none, []⟩, ⟨some 14, .mv (.t 1), none, []⟩, ⟨some 15, .len false (.t 14), none, []⟩, ⟨some 16, .bin .neq (.t 13) (.t 15), none, []⟩]) ( .cond (.t 16) ( .seq (.region [ ⟨some 6, .mv (.c (.isl [] true)), none, []⟩, ⟨some 7, .mv (.c (.bool false)), none, []⟩]) ( .ret)) ( .skip))) ( .seq (.region [ ⟨some 17, .mv (.t 2), none, []⟩, ⟨some 18, .call 24 [.t 17], none, []⟩, ⟨some 19, .mv (.t 0), none, []⟩, ⟨some 20, .mv (.t 1), none, []⟩, ⟨some 21, .call 25 [.t 18, .t 19, .t 20], none, []⟩, ⟨some 8, .mv (.t 21), none, []⟩]) ( .seq (.seq (.region [ ⟨some 22, .mv (.t 0), none, []⟩, ⟨some 23, .len false (.t 22), none, []⟩, ⟨some 24, .mv (.c (.int .i64 0)), none, []⟩]) ( .block 0 ( .loop ( .seq (.region [ ⟨some 25, .bin .lss (.t 24) (.t 23), none, []⟩]) ( .seq (.cond (.t 25) ( .skip) ( .exit 0)) ( .seq (.block 1 ( .seq (.region [ ⟨some 26, .mv (.t 24), none, []⟩, ⟨some 27, .iaddrS 7 (.t 22) (.t 24), none, []⟩, ⟨some 28, .load 7 true (.t 27), none, []⟩, ⟨some 10, .alloc [.int .i64 0, .str ⟨#[]⟩, .int .i64 0, .int .i64 0, .str ⟨#[]⟩, .isl [] true, .isl [] true], none, []⟩, ⟨some 9, .mv (.t 26), none, []⟩, ⟨none, .store 7 (.t 10) (.t 28), none, []⟩]) ( .seq (.region [ ⟨some 29, .mv (.t 8), none, []⟩, ⟨some 30, .load 7 true (.t 10), none, []⟩, ⟨some 31, .mv (.t 1), none, []⟩, ⟨some 32, .mv (.t 9), none, []⟩, ⟨some 33, .iaddrS 4 (.t 31) (.t 32), none, []⟩, ⟨some 34, .load 4 true (.t 33), none, []⟩, ⟨some 35, .call 26 [.t 29, .t 30, .t 34], none, []⟩, ⟨some 36, .un .not (.t 35), none, []⟩]) ( .cond (.t 36) ( .seq (.region [ ⟨some 6, .mv (.c (.isl [] true)), none, []⟩, ⟨some 7, .mv (.c (.bool false)), none, []⟩]) ( .ret)) ( .skip))))) ( .region [ ⟨some 37, .bin .add (.t 24) (.c (.int .i64 1)), none, []⟩, ⟨some 24, .mv (.t 37), none, []⟩]))))))) ( .seq (.seq (.region [ ⟨some 38, .mv (.t 8), none, []⟩, ⟨some 39, .len false (.t 38), none, []⟩, ⟨some 40, .mv (.c (.int .i64 0)), none, []⟩]) ( .block 2 ( .loop ( .seq (.region [ ⟨some 41, .bin .lss (.t 40) (.t 39), none, []⟩]) ( .seq (.cond (.t 41) ( .skip) ( .exit 2)) ( .seq (.block 3 ( .seq (.region [ ⟨some 42, .mv (.t 40), none, []⟩, ⟨some 11, .mv (.t 42), none, []⟩]) ( .region [ ⟨some 43, .mv (.t 8), none, []⟩, ⟨some 44, .mv (.t 11), none, []⟩, ⟨some 45, .mv (.t 8), none, []⟩, ⟨some 46, .mv (.t 11), none, []⟩, ⟨some 47, .iaddrS 5 (.t 45) (.t 46), none, []⟩, ⟨some 48, .faddr 1 (.t 47), none, []⟩, ⟨some 49, .load 4 true (.t 48), none, []⟩, ⟨some 50, .call 20 [.t 49], none, []⟩, ⟨some 51, .iaddrS 5 (.t 43) (.t 44), none, []⟩, ⟨some 52, .faddr 1 (.t 51), none, []⟩, ⟨none, .store 4 (.t 52) (.t 50), none, []⟩]))) ( .region [ ⟨some 53, .bin .add (.t 40) (.c (.int .i64 1)), none, []⟩, ⟨some 40, .mv (.t 53), none, []⟩]))))))) ( .seq (.region [ ⟨some 54, .mv (.t 8), none, []⟩, ⟨some 6, .mv (.t 54), none, []⟩, ⟨some 7, .mv (.c (.bool true)), none, []⟩]) ( .ret)))))), .pure, true, true⟩
theorem k12 : compF Try.prog { mt := false, mtAt := [], mode := .pure, clArgs := true, clRes := true } Try.f12 = some c12 := by kernel_rfl
def c13 : AFunc := ⟨13, [.tmp 4], .seq (.region [ ⟨some 4, .mv (.c (.int .i64 0)), none, []⟩]) ( .seq (.seq (.region [ ⟨some 5, .mv (.t 0), none, []⟩, ⟨some 6, .bin .lss (.t 5) (.c (.int .i64 0)), none, []⟩]) ( .cond (.t 6) ( .region [ ⟨some 7, .mv (.t 0), none, []⟩, ⟨some 8, .bin .add (.t 7) (.c (.int .i64 1)), none, []⟩, ⟨some 9, .un .neg (.t 8), none, []⟩, ⟨some 0, .mv (.t 9), none, []⟩]) ( .skip))) ( .seq (.region [ ⟨some 10, .mv (.t 0), none, []⟩, ⟨some 11, .mv (.t 1), none, []⟩, ⟨some 12, .bin .rem (.t 10) (.t 11), none, []⟩, ⟨some 4, .mv (.t 12), none, []⟩]) ( .ret))), .pure, true, true⟩
theorem k13 : compF Try.prog { mt := false, mtAt := [], mode := .pure, clArgs := true, clRes := true } Try.f13 = some c13 := by kernel_rfl
def c14 : AFunc := ⟨7, [.tmp 2], .seq (.region [ ⟨some 2, .mv (.c (.str ⟨#[]⟩)), none, []⟩]) ( .seq (.region [ ⟨some 3, .mv (.t 0), none, []⟩, ⟨some 4, .call 27 [.t 3], none, []⟩, ⟨some 5, .strSl (.t 4) (some (.c (.int .i64 1))) none, none, []⟩, ⟨some 6, .bin .add (.c (.str ⟨#[86]⟩)) (.t 5), none, []⟩, ⟨some 2, .mv (.t 6), none, []⟩]) ( .ret)), .pure, true, true⟩
theorem k14 : compF Try.prog { mt := false, mtAt := [], mode := .pure, clArgs := true, clRes := true } Try.f14 = some c14 := by kernel_rfl
def c15 : AFunc := ⟨5, [.cell 2 4 true], .seq (.region [ ⟨some 1, .box (.t 0), none, []⟩, ⟨some 2, .alloc [.int .i64 0, .int .i64 0, .str ⟨#[]⟩, .isl [] true], none, []⟩]) ( .seq (.region [ ⟨some 3, .load 4 true (.t 1), none, []⟩, ⟨some 4, .call 28 [.t 3, .c (.int .i64 4)], none, []⟩, ⟨none, .store 4 (.t 2) (.t 4), none, []⟩]) ( .ret)), .pure, true, true⟩
theorem k15 : compF Try.prog { mt := false, mtAt := [], mode := .pure, clArgs := true, clRes := true } Try.f15 = some c15 := by kernel_rfl
def c16 : AFunc := ⟨14, [.tmp 2], .seq (.region [ ⟨some 2, .mv (.c (.str ⟨#[]⟩)), none, []⟩]) ( .seq (.region [ ⟨some 4, .mv (.t 0), none, []⟩, ⟨some 5, .call 27 [.t 4], none, []⟩, ⟨some 3, .mv (.t 5), none, []⟩]) ( .seq (.seq (.region [ ⟨some 6, .mv (.t 3), none, []⟩, ⟨some 7, .call 17 [.t 6], none, []⟩, ⟨some 8, .bin .geq (.t 7) (.c (.int .i64 0)), none, []⟩, ⟨some 9, .mv (.t 8), none, []⟩, ⟨some 10, .mv (.t 3), (some (9, false)), []⟩, ⟨some 11, .bin .eql (.t 10) (.c (.str ⟨#[109, 97, 116, 101, 114, 105, 97, 108, 105, 122, 101]⟩)), (some (9, false)), []⟩, ⟨some 12, .pick (.t 9) (.c (.bool true)) (.t 11), none, []⟩]) ( .cond (.t 12) ( .seq (.region [ ⟨some 2, .mv (.c (.str ⟨#[110]⟩)), none, []⟩]) ( .ret)) ( .skip))) ( .seq (.region [ ⟨some 13, .mv (.t 3), none, []⟩, ⟨some 2, .mv (.t 13), none, []⟩]) ( .ret)))), .pure, true, true⟩
theorem k16 : compF Try.prog { mt := false, mtAt := [], mode := .pure, clArgs := true, clRes := true } Try.f16 = some c16 := by kernel_rfl
def c17 : AFunc := ⟨15, [.tmp 2], .seq (.region [ ⟨some 2, .mv (.c (.int .i64 0)), none, []⟩]) ( .seq (.seq (.region [ ⟨some 3, .mv (.t 0), none, []⟩]) ( .block 0 ( .seq (.seq (.region [ ⟨some 5, .bin .eql (.t 3) (.c (.str ⟨#[102, 95, 99, 111, 110, 115]⟩)), none, []⟩, ⟨some 4, .mv (.t 5), none, []⟩]) ( .cond (.t 4) ( .skip) ( .seq (.region [ ⟨some 6, .bin .eql (.t 3) (.c (.str ⟨#[102, 95, 97, 112, 112, 101, 110, 100]⟩)), none, []⟩, ⟨some 4, .mv (.t 6), none, []⟩]) ( .cond (.t 4) ( .skip) ( .seq (.region [ ⟨some 7, .bin .eql (.t 3) (.c (.str ⟨#[102, 95, 99, 111, 110, 99, 97, 116]⟩)), none, []⟩, ⟨some 4, .mv (.t 7), none, []⟩]) ( .cond (.t 4) ( .skip) ( .region [ ⟨some 8, .bin .eql (.t 3) (.c (.str ⟨#[102, 95, 109, 101, 109, 98, 101, 114]⟩)), none, []⟩, ⟨some 4, .mv (.t 8), none, []⟩]))))))) ( .cond (.t 4) ( .seq (.region [ ⟨some 2, .mv (.c (.int .i64 2)), none, []⟩]) ( .ret)) ( .seq (.seq (.region [ ⟨some 10, .bin .eql (.t 3) (.c (.str ⟨#[102, 95, 115, 105, 122, 101]⟩)), none, []⟩, ⟨some 9, .mv (.t 10), none, []⟩]) ( .cond (.t 9) ( .skip) ( .seq (.region [ ⟨some 11, .bin .eql (.t 3) (.c (.str ⟨#[102, 95, 102, 105, 114, 115, 116]⟩)), none, []⟩, ⟨some 9, .mv (.t 11), none, []⟩]) ( .cond (.t 9) ( .skip) ( .seq (.region [ ⟨some 12, .bin .eql (.t 3) (.c (.str ⟨#[102, 95, 108, 97, 115, 116]⟩)), none, []⟩, ⟨some 9, .mv (.t 12), none, []⟩]) ( .cond (.t 9) ( .skip) ( .seq (.region [ ⟨some 13, .bin .eql (.t 3) (.c (.str ⟨#[102, 95, 114, 101, 115, 116]⟩)), none, []⟩, ⟨some 9, .mv (.t 13), none, []⟩]) ( .cond (.t 9) ( .skip) ( .region [ ⟨some 14, .bin .eql (.t 3) (.c (.str ⟨#[102, 95, 114, 101, 118, 101, 114, 115, 101]⟩)), none, []⟩, ⟨some 9, .mv (.t 14), none, []⟩]))))))))) ( .cond (.t 9) ( .seq (.region [ ⟨some 2, .mv (.c (.int .i64 1)), none, []⟩]) ( .ret)) ( .skip))))))) ( .seq (.region [ ⟨some 2, .mv (.c (.int .i64 (-1))), none, []⟩]) ( .ret))), .pure, true, true⟩
theorem k17 : compF Try.prog { mt := false, mtAt := [], mode := .pure, clArgs := true, clRes := true } Try.f17 = some c17 := by kernel_rfl
def c18 : AFunc := ⟨13, [.tmp 4], .seq (.region [ ⟨some 4, .mv (.c (.int .i64 0)), none, []⟩]) ( .seq (.seq (.region [ ⟨some 5, .mv (.t 0), none, []⟩, ⟨some 6, .bin .lss (.t 5) (.c (.int .i64 0)), none, []⟩]) ( .cond (.t 6) ( .region [ ⟨some 7, .mv (.t 0), none, []⟩, ⟨some 8, .bin .add (.t 7) (.c (.int .i64 1)), none, []⟩, ⟨some 9, .un .neg (.t 8), none, []⟩, ⟨some 0, .mv (.t 9), none, []⟩]) ( .skip))) ( .seq (.region [ ⟨some 10, .mv (.t 0), none, []⟩, ⟨some 11, .mv (.t 1), none, []⟩, ⟨some 12, .bin .rem (.t 10) (.t 11), none, []⟩, ⟨some 4, .mv (.t 12), none, []⟩]) ( .ret))), .pure, true, true⟩
theorem k18 : compF Try.prog { mt := false, mtAt := [], mode := .pure, clArgs := true, clRes := true } Try.f18 = some c18 := by kernel_rfl
def c19 : AFunc := ⟨65, [.cell 4 4 true, .tmp 5], .seq (.region [ ⟨some 3, .box (.t 1), none, []⟩, ⟨some 4, .alloc [.int .i64 0, .int .i64 0, .str ⟨#[]⟩, .isl [] true], none, []⟩, ⟨some 5, .mv (.c (.bool false)), none, []⟩]) ( .seq (.seq (.region [ ⟨some 8, .faddr 0 (.t 3), none, []⟩, ⟨some 9, .load 1 false (.t 8), none, []⟩]) ( .block 0 ( .seq (.region [ ⟨some 11, .bin .eql (.t 9) (.c (.int .i64 1)), none, []⟩, ⟨some 10, .mv (.t 11), none, []⟩]) ( .cond (.t 10) ( .seq (.region [ ⟨some 12, .mv (.t 0), none, []⟩, ⟨some 13, .faddr 1 (.t 3), none, []⟩, ⟨some 14, .load 1 false (.t 13), none, []⟩, ⟨some 15, .call 23 [.t 12, .t 14], none, []⟩, ⟨some 16, .extract 0 (.t 15), none, []⟩, ⟨some 17, .extract 1 (.t 15), none, []⟩, ⟨none, .store 4 (.t 4) (.t 16), none, []⟩, ⟨some 5, .mv (.t 17), none, []⟩]) ( .ret)) ( .seq (.region [ ⟨some 19, .bin .eql (.t 9) (.c (.int .i64 2)), none, []⟩, ⟨some 18, .mv (.t 19), none, []⟩]) ( .cond (.t 18) ( .seq (.region [ ⟨some 20, .faddr 2 (.t 3), none, []⟩, ⟨some 21, .load 4 true (.t 20), none, []⟩, ⟨none, .store 4 (.t 4) (.t 21), none, []⟩, ⟨some 5, .mv (.c (.bool true)), none, []⟩]) ( .ret)) ( .skip))))))) ( .seq (.region [ ⟨some 23, .faddr 6 (.t 3), none, []⟩, ⟨some 24, .load 1 false (.t 23), none, []⟩, ⟨some 25, .mv (.t 0), none, []⟩, ⟨some 26, .mkmeth 19 [.t 25], none, []⟩, ⟨some 27, .call 29 [.t 24, .t 26], none, []⟩, ⟨some 22, .mv (.t 27), none, []⟩, ⟨some 28, .extract 0 (.t 22), none, []⟩, ⟨some 29, .extract 1 (.t 22), none, []⟩, ⟨some 6, .mv (.t 28), none, []⟩, ⟨some 7, .mv (.t 29), none, []⟩]) ( .seq (.block 1 ( .seq (.region [ ⟨some 31, .mv (.t 7), none, []⟩, ⟨some 32, .un .not (.t 31), none, []⟩, ⟨some 30, .mv (.t 32), none, []⟩]) ( .cond (.t 30) ( .seq (.region [ ⟨some 33, .build [.int .i64 0, .int .i64 0, .str ⟨#[]⟩, .isl [] true] [], none, []⟩, ⟨none, .store 4 (.t 4) (.t 33), none, []⟩, ⟨some 5, .mv (.c (.bool false)), none, []⟩]) ( .ret)) ( .seq (.region [ ⟨some 35, .faddr 0 (.t 3), none, []⟩, ⟨some 36, .load 1 false (.t 35), none, []⟩, ⟨some 37, .bin .eql (.t 36) (.c (.int .i64 3)), none, []⟩, ⟨some 34, .mv (.t 37), none, []⟩]) ( .cond (.t 34) ( .seq (.region [ ⟨some 38, .faddr 1 (.t 3), none, []⟩, ⟨some 39, .load 1 false (.t 38), none, []⟩, ⟨some 40, .mv (.t 6), none, []⟩, ⟨some 41, .call 30 [.t 39, .t 40], none, []⟩, ⟨some 42, .extract 0 (.t 41), none, []⟩, ⟨some 43, .extract 1 (.t 41), none, []⟩, ⟨none, .store 4 (.t 4) (.t 42), none, []⟩, ⟨some 5, .mv (.t 43), none, []⟩]) ( .ret)) ( .seq (.region [ ⟨some 45, .faddr 0 (.t 3), none, []⟩, ⟨some 46, .load 1 false (.t 45), none, []⟩, ⟨some 47, .bin .eql (.t 46) (.c (.int .i64 4)), none, []⟩, ⟨some 48, .mv (.t 47), none, []⟩, ⟨some 49, .mv (.t 6), (some (48, true)), []⟩, ⟨some 50, .len false (.t 49), (some (48, true)), []⟩, ⟨some 51, .bin .eql (.t 50) (.c (.int .i64 2)), (some (48, true)), []⟩, ⟨some 52, .pick (.t 48) (.t 51) (.c (.bool false)), none, []⟩, ⟨some 44, .mv (.t 52), none, []⟩]) ( .cond (.t 44) ( .seq (.region [ ⟨some 53, .faddr 1 (.t 3), none, []⟩, ⟨some 54, .load 1 false (.t 53), none, []⟩, ⟨some 55, .mv (.t 6), none, []⟩, ⟨some 56, .iaddrS 4 (.t 55) (.c (.int .i64 0)), none, []⟩, ⟨some 57, .load 4 true (.t 56), none, []⟩, ⟨some 58, .mv (.t 6), none, []⟩, ⟨some 59, .iaddrS 4 (.t 58) (.c (.int .i64 1)), none, []⟩, ⟨some 60, .load 4 true (.t 59), none, []⟩, ⟨some 61, .call 31 [.t 54, .t 57, .t 60], none, []⟩, ⟨some 62, .extract 0 (.t 61), none, []⟩, ⟨some 63, .extract 1 (.t 61), none, []⟩, ⟨none, .store 4 (.t 4) (.t 62), none, []⟩, ⟨some 5, .mv (.t 63), none, []⟩]) ( .ret)) ( .skip)))))))) ( .seq (.region [ ⟨some 64, .build [.int .i64 0, .int .i64 0, .str ⟨#[]⟩, .isl [] true] [], none, []⟩, ⟨none, .store 4 (.t 4) (.t 64), none, []⟩, ⟨some 5, .mv (.c (.bool false)), none, []⟩]) ( .ret))))), .pure, true, true⟩
theorem k19 : compF Try.prog { mt := false, mtAt := [], mode := .pure, clArgs := true, clRes := true } Try.f19 = some c19 := by kernel_rfl
def c20 : AFunc := ⟨29, [.cell 2 4 true], .seq (.region [ ⟨some 1, .box (.t 0), none, []⟩, ⟨some 2, .alloc [.int .i64 0, .int .i64 0, .str ⟨#[]⟩, .isl [] true], none, []⟩]) ( .seq (.seq (.region [ ⟨some 5, .faddr 3 (.t 1), none, []⟩, ⟨some 6, .load 1 false (.t 5), none, []⟩, ⟨some 7, .len false (.t 6), none, []⟩, ⟨some 8, .bin .gtr (.t 7) (.c (.int .i64 0)), none, []⟩]) ( .cond (.t 8) ( .seq (.region [ ⟨some 9, .faddr 3 (.t 1), none, []⟩, ⟨some 10, .load 1 false (.t 9), none, []⟩, ⟨some 11, .call 32 [.t 10], none, []⟩, ⟨some 12, .faddr 3 (.t 1), none, []⟩, ⟨none, .store 1 (.t 12) (.t 11), none, []⟩]) ( .seq (.region [ ⟨some 13, .faddr 3 (.t 1), none, []⟩, ⟨some 14, .load 1 false (.t 13), none, []⟩, ⟨some 15, .len false (.t 14), none, []⟩, ⟨some 16, .mv (.c (.int .i64 0)), none, []⟩]) ( .block 0 ( .loop ( .seq (.region [ ⟨some 17, .bin .lss (.t 16) (.t 15), none, []⟩]) ( .seq (.cond (.t 17) ( .skip) ( .exit 0)) ( .seq (.block 1 ( .seq (.region [ ⟨some 18, .mv (.t 16), none, []⟩, ⟨some 19, .iaddrS 4 (.t 14) (.t 16), none, []⟩, ⟨some 20, .load 4 true (.t 19), none, []⟩, ⟨some 4, .alloc [.int .i64 0, .int .i64 0, .str ⟨#[]⟩, .isl [] true], none, []⟩, ⟨some 3, .mv (.t 18), none, []⟩, ⟨none, .store 4 (.t 4) (.t 20), none, []⟩]) ( .region [ ⟨some 21, .faddr 3 (.t 1), none, []⟩, ⟨some 22, .load 1 false (.t 21), none, []⟩, ⟨some 23, .mv (.t 3), none, []⟩, ⟨some 24, .load 4 true (.t 4), none, []⟩, ⟨some 25, .call 20 [.t 24], none, [.t 21]⟩, ⟨some 26, .iaddrS 4 (.t 22) (.t 23), none, []⟩, ⟨none, .store 4 (.t 26) (.t 25), none, []⟩]))) ( .region [ ⟨some 27, .bin .add (.t 16) (.c (.int .i64 1)), none, []⟩, ⟨some 16, .mv (.t 27), none, []⟩])))))))) ( .skip))) ( .seq (.region [ ⟨some 28, .load 4 true (.t 1), none, []⟩, ⟨none, .store 4 (.t 2) (.t 28), none, []⟩]) ( .ret))), .pure, true, true⟩
theorem k20 : compF Try.prog { mt := false, mtAt := [], mode := .pure, clArgs := true, clRes := true } Try.f20 = some c20 := by kernel_rfl
def c21 : AFunc := ⟨4, [.tmp 2], .seq (.region [ ⟨some 1, .box (.t 0), none, []⟩, ⟨some 2, .mv (.c (.nilfunc)), none, []⟩]) ( .seq (.region [ ⟨some 3, .mkfn 33 [.t 1], none, []⟩, ⟨some 2, .mv (.t 3), none, []⟩]) ( .ret)), .raw, true, false⟩
theorem k21 : compF Try.prog { mt := false, mtAt := [], mode := .raw, clArgs := true, clRes := false } Try.f21 = some c21 := by kernel_rfl
def c22 : AFunc := ⟨29, [.tmp 4], .seq (.region [ ⟨some 4, .mv (.c (.bool false)), none, []⟩]) ( .seq (.seq (.region [ ⟨some 7, .mv (.t 0), none, []⟩, ⟨some 8, .len false (.t 7), none, []⟩, ⟨some 9, .mv (.t 1), none, []⟩, ⟨some 10, .len false (.t 9), none, []⟩, ⟨some 11, .bin .neq (.t 8) (.t 10), none, []⟩]) ( .cond (.t 11) ( .seq (.region [ ⟨some 4, .mv (.c (.bool false)), none, []⟩]) ( .ret)) ( .skip))) ( .seq (.seq (.region [ ⟨some 5, .mv (.c (.int .i64 0)), none, []⟩]) ( .block 0 ( .loop ( .seq (.seq (.region [ ⟨some 12, .mv (.t 5), none, []⟩, ⟨some 13, .mv (.t 0), none, []⟩, ⟨some 14, .len false (.t 13), none, []⟩, ⟨some 15, .bin .lss (.t 12) (.t 14), none, []⟩]) ( .cond (.t 15) ( .skip) ( .exit 0))) ( .seq (.block 1 ( .seq (.region [ ⟨some 18, .mv (.t 0), none, []⟩, ⟨some 19, .mv (.t 5), none, []⟩, ⟨some 20, .iaddrS 4 (.t 18) (.t 19), none, []⟩, ⟨some 21, .load 4 true (.t 20), none, []⟩, ⟨some 22, .mv (.t 1), none, []⟩, ⟨some 23, .mv (.t 5), none, []⟩, ⟨some 24, .iaddrS 4 (.t 22) (.t 23), none, []⟩, ⟨some 25, .load 4 true (.t 24), none, []⟩, ⟨some 26, .call 9 [.t 21, .t 25], none, []⟩, ⟨some 6, .mv (.t 26), none, []⟩]) ( .seq (.region [ ⟨some 27, .mv (.t 6), none, []⟩, ⟨some 28, .un .not (.t 27), none, []⟩]) ( .cond (.t 28) ( .seq (.region [ ⟨some 4, .mv (.c (.bool false)), none, []⟩]) ( .ret)) ( .skip))))) ( .region [ ⟨some 16, .mv (.t 5), none, []⟩, ⟨some 17, .bin .add (.t 16) (.c (.int .i64 1)), none, []⟩, ⟨some 5, .mv (.t 17), none, []⟩])))))) ( .seq (.region [ ⟨some 4, .mv (.c (.bool true)), none, []⟩]) ( .ret)))), .pure, true, true⟩
theorem k22 : compF Try.prog { mt := false, mtAt := [], mode := .pure, clArgs := true, clRes := true } Try.f22 = some c22 := by kernel_rfl
def c23 : AFunc := ⟨18, [.cell 4 4 true, .tmp 5], .seq (.region [ ⟨some 3, .box (.t 1), none, []⟩, ⟨some 4, .alloc [.int .i64 0, .int .i64 0, .str ⟨#[]⟩, .isl [] true], none, []⟩, ⟨some 5, .mv (.c (.bool false)), none, []⟩]) ( .seq (.region [ ⟨some 7, .mv (.t 0), none, []⟩, ⟨some 8, .mkfn 36 [.t 3], none, []⟩, ⟨some 9, .call 35 [.t 7, .t 8], none, []⟩, ⟨some 6, .mv (.t 9), none, []⟩]) ( .seq (.seq (.region [ ⟨some 10, .mv (.t 6), none, []⟩, ⟨some 11, .bin .lss (.t 10) (.c (.int .i64 0)), none, []⟩]) ( .cond (.t 11) ( .seq (.region [ ⟨some 12, .build [.int .i64 0, .int .i64 0, .str ⟨#[]⟩, .isl [] true] [], none, []⟩, ⟨none, .store 4 (.t 4) (.t 12), none, []⟩, ⟨some 5, .mv (.c (.bool false)), none, []⟩]) ( .ret)) ( .skip))) ( .seq (.region [ ⟨some 13, .mv (.t 0), none, []⟩, ⟨some 14, .mv (.t 6), none, []⟩, ⟨some 15, .iaddrS 5 (.t 13) (.t 14), none, []⟩, ⟨some 16, .faddr 1 (.t 15), none, []⟩, ⟨some 17, .load 4 true (.t 16), none, []⟩, ⟨none, .store 4 (.t 4) (.t 17), none, []⟩, ⟨some 5, .mv (.c (.bool true)), none, []⟩]) ( .ret)))), .gc, false, true⟩
theorem k23 : compF Try.prog { mt := false, mtAt := [], mode := .gc, clArgs := false, clRes := true } Try.f23 = some c23 := by kernel_rfl
def c25 : AFunc := ⟨42, [.tmp 6], .seq (.region [ ⟨some 6, .mv (.c (.isl [] true)), none, []⟩]) ( .seq (.seq (.region [ ⟨some 11, .mv (.t 1), none, []⟩, ⟨some 12, .len false (.t 11), none, []⟩, ⟨some 13, .mv (.c (.int .i64 0)), none, []⟩]) ( .block 0 ( .loop ( .seq (.region [ ⟨some 14, .bin .lss (.t 13) (.t 12), none, []⟩]) ( .seq (.cond (.t 14) ( .skip) ( .exit 0)) ( .seq (.block 1 ( .seq (.region [ ⟨some 15, .mv (.t 13), none, []⟩, ⟨some 16, .iaddrS 7 (.t 11) (.t 13), none, []⟩, ⟨some 17, .load 7 true (.t 16), none, []⟩, ⟨some 8, .alloc [.int .i64 0, .str ⟨#[]⟩, .int .i64 0, .int .i64 0, .str ⟨#[]⟩, .isl [] true, .isl [] true], none, []⟩, ⟨some 7, .mv (.t 15), none, []⟩, ⟨none, .store 7 (.t 8) (.t 17), none, []⟩]) ( .seq (.seq (.region [ ⟨some 18, .faddr 0 (.t 8), none, []⟩, ⟨some 19, .load 1 false (.t 18), none, []⟩, ⟨some 20, .bin .neq (.t 19) (.c (.int .i64 1)), none, []⟩]) ( .cond (.t 20) ( .exit 1) ( .skip))) ( .seq (.region [ ⟨some 22, .mv (.t 0), none, []⟩, ⟨some 23, .faddr 1 (.t 8), none, []⟩, ⟨some 24, .load 1 false (.t 23), none, []⟩, ⟨some 25, .call 23 [.t 22, .t 24], none, []⟩, ⟨some 21, .mv (.t 25), none, []⟩, ⟨some 26, .extract 0 (.t 21), none, []⟩, ⟨some 27, .extract 1 (.t 21), none, []⟩, ⟨some 9, .alloc [.int .i64 0, .int .i64 0, .str ⟨#[]⟩, .isl [] true], none, []⟩, ⟨none, .store 4 (.t 9) (.t 26), none, []⟩, ⟨some 10, .mv (.t 27), none, []⟩]) ( .seq (.region [ ⟨some 28, .mv (.t 10), none, []⟩, ⟨some 29, .un .not (.t 28), none, []⟩]) ( .cond (.t 29) ( .region [ ⟨some 30, .mv (.t 0), none, []⟩, ⟨some 31, .faddr 1 (.t 8), none, []⟩, ⟨some 32, .load 1 false (.t 31), none, []⟩, ⟨some 33, .mv (.t 2), none, []⟩, ⟨some 34, .mv (.t 7), none, []⟩, ⟨some 35, .iaddrS 4 (.t 33) (.t 34), none, []⟩, ⟨some 36, .load 4 true (.t 35), none, []⟩, ⟨some 37, .build [.str ⟨#[]⟩, .int .i64 0, .int .i64 0, .str ⟨#[]⟩, .isl [] true] [(0, 1, .t 32), (1, 4, .t 36)], none, []⟩, ⟨some 38, .buildSl 1 5 true [.str ⟨#[]⟩, .int .i64 0, .int .i64 0, .str ⟨#[]⟩, .isl [] true] [(0, 5, .t 37)], none, []⟩, ⟨some 39, .append 5 true 72 true (.t 30) (.t 38), none, []⟩, ⟨some 0, .mv (.t 39), none, []⟩]) ( .skip))))))) ( .region [ ⟨some 40, .bin .add (.t 13) (.c (.int .i64 1)), none, []⟩, ⟨some 13, .mv (.t 40), none, []⟩]))))))) ( .seq (.region [ ⟨some 41, .mv (.t 0), none, []⟩, ⟨some 6, .mv (.t 41), none, []⟩]) ( .ret))), .raw, false, false⟩
theorem k25 : compF Try.prog { mt := true, mtAt := [], mode := .raw, clArgs := false, clRes := false } Try.f25 = some c25 := by kernel_rfl
def c26 : AFunc := ⟨22, [.tmp 6], .seq (.region [ ⟨some 4, .box (.t 1), none, []⟩, ⟨some 5, .box (.t 2), none, []⟩, ⟨some 6, .mv (.c (.bool false)), none, []⟩]) ( .seq (.region [ ⟨some 10, .mv (.t 0), none, []⟩, ⟨some 11, .load 7 true (.t 4), none, []⟩, ⟨some 12, .call 19 [.t 10, .t 11], none, []⟩, ⟨some 9, .mv (.t 12), none, []⟩, ⟨some 13, .extract 0 (.t 9), none, []⟩, ⟨some 14, .extract 1 (.t 9), none, []⟩, ⟨some 7, .alloc [.int .i64 0, .int .i64 0, .str ⟨#[]⟩, .isl [] true], none, []⟩, ⟨none, .store 4 (.t 7) (.t 13), none, []⟩, ⟨some 8, .mv (.t 14), none, []⟩]) ( .seq (.region [ ⟨some 15, .mv (.t 8), none, []⟩, ⟨some 16, .mv (.t 15), none, []⟩, ⟨some 17, .load 4 true (.t 7), (some (16, true)), []⟩, ⟨some 18, .load 4 true (.t 5), (some (16, true)), []⟩, ⟨some 19, .call 37 [.t 17, .t 18], (some (16, true)), []⟩, ⟨some 20, .bin .eql (.t 19) (.c (.int .i64 0)), (some (16, true)), []⟩, ⟨some 21, .pick (.t 16) (.t 20) (.c (.bool false)), none, []⟩, ⟨some 6, .mv (.t 21), none, []⟩]) ( .ret))), .pure, true, true⟩
theorem k26 : compF Try.prog { mt := false, mtAt := [], mode := .pure, clArgs := true, clRes := true } Try.f26 = some c26 := by kernel_rfl
def c27 : AFunc := ⟨44, [.tmp 2], .seq (.region [ ⟨some 2, .mv (.c (.str ⟨#[]⟩)), none, []⟩]) ( .seq (.region [ ⟨some 6, .mv (.t 0), none, []⟩, ⟨some 7, .mv (.t 0), none, []⟩, ⟨some 8, .len true (.t 7), none, []⟩, ⟨some 9, .min2 (.t 8) (.c (.int .i64 15)), none, []⟩, ⟨some 10, .strSl (.t 6) none (some (.t 9)), none, []⟩, ⟨some 11, .bin .add (.c (.str ⟨#[110]⟩)) (.t 10), none, []⟩, ⟨some 12, .s2b (.t 11), none, []⟩, ⟨some 3, .mv (.t 12), none, []⟩]) ( .seq (.seq (.region [ ⟨some 4, .mv (.c (.int .i64 1)), none, []⟩]) ( .block 0 ( .loop ( .seq (.seq (.region [ ⟨some 13, .mv (.t 4), none, []⟩, ⟨some 14, .mv (.t 3), none, []⟩, ⟨some 15, .len false (.t 14), none, []⟩, ⟨some 16, .bin .lss (.t 13) (.t 15), none, []⟩]) ( .cond (.t 16) ( .skip) ( .exit 0))) ( .seq (.block 1 ( .seq (.region [ ⟨some 19, .mv (.t 3), none, []⟩, ⟨some 20, .mv (.t 4), none, []⟩, ⟨some 21, .iaddrS 1 (.t 19) (.t 20), none, []⟩, ⟨some 22, .load 1 false (.t 21), none, []⟩, ⟨some 23, .bin .rem (.t 22) (.c (.int .u8 37)), none, []⟩, ⟨some 5, .mv (.t 23), none, []⟩]) ( .seq (.region [ ⟨some 24, .mv (.t 5), none, []⟩, ⟨some 25, .bin .lss (.t 24) (.c (.int .u8 26)), none, []⟩]) ( .cond (.t 25) ( .region [ ⟨some 26, .mv (.t 3), none, []⟩, ⟨some 27, .mv (.t 4), none, []⟩, ⟨some 28, .mv (.t 5), none, []⟩, ⟨some 29, .bin .add (.c (.int .u8 97)) (.t 28), none, []⟩, ⟨some 30, .iaddrS 1 (.t 26) (.t 27), none, []⟩, ⟨none, .store 1 (.t 30) (.t 29), none, []⟩]) ( .seq (.region [ ⟨some 31, .mv (.t 5), none, []⟩, ⟨some 32, .bin .lss (.t 31) (.c (.int .u8 36)), none, []⟩]) ( .cond (.t 32) ( .region [ ⟨some 33, .mv (.t 3), none, []⟩, ⟨some 34, .mv (.t 4), none, []⟩, ⟨some 35, .mv (.t 5), none, []⟩, ⟨some 36, .bin .add (.c (.int .u8 48)) (.t 35), none, []⟩, ⟨some 37, .bin .sub (.t 36) (.c (.int .u8 26)), none, []⟩, ⟨some 38, .iaddrS 1 (.t 33) (.t 34), none, []⟩, ⟨none, .store 1 (.t 38) (.t 37), none, []⟩]) ( .region [ ⟨some 39, .mv (.t 3), none, []⟩, ⟨some 40, .mv (.t 4), none, []⟩, ⟨some 41, .iaddrS 1 (.t 39) (.t 40), none, []⟩, ⟨none, .store 1 (.t 41) (.c (.int .u8 95)), none, []⟩]))))))) ( .region [ ⟨some 17, .mv (.t 4), none, []⟩, ⟨some 18, .bin .add (.t 17) (.c (.int .i64 1)), none, []⟩, ⟨some 4, .mv (.t 18), none, []⟩])))))) ( .seq (.region [ ⟨some 42, .mv (.t 3), none, []⟩, ⟨some 43, .b2s (.t 42), none, []⟩, ⟨some 2, .mv (.t 43), none, []⟩]) ( .ret)))), .pure, true, true⟩
theorem k27 : compF Try.prog { mt := false, mtAt := [], mode := .pure, clArgs := true, clRes := true } Try.f27 = some c27 := by kernel_rfl
def c28 : AFunc := ⟨107, [.cell 4 4 true], .seq (.region [ ⟨some 2, .box (.t 0), none, []⟩, ⟨some 4, .alloc [.int .i64 0, .int .i64 0, .str ⟨#[]⟩, .isl [] true], none, []⟩]) ( .seq (.seq (.region [ ⟨some 11, .faddr 0 (.t 2), none, []⟩, ⟨some 12, .load 1 false (.t 11), none, []⟩, ⟨some 13, .call 38 [.t 12, .c (.int .i64 4)], none, []⟩]) ( .block 0 ( .seq (.region [ ⟨some 15, .bin .eql (.t 13) (.c (.int .i64 0)), none, []⟩, ⟨some 14, .mv (.t 15), none, []⟩]) ( .cond (.t 14) ( .seq (.region [ ⟨some 16, .faddr 1 (.t 2), none, []⟩, ⟨some 17, .load 1 false (.t 16), none, []⟩, ⟨some 18, .call 38 [.t 17, .c (.int .i64 4294967295)], none, []⟩, ⟨some 19, .bin .sub (.t 18) (.c (.int .i64 2147483647)), none, []⟩, ⟨some 5, .mv (.t 19), none, []⟩]) ( .seq (.region [ ⟨some 20, .mv (.t 5), none, []⟩, ⟨some 21, .build [.int .i64 0, .int .i64 0, .str ⟨#[]⟩, .isl [] true] [(0, 1, .c (.int .i64 1)), (1, 1, .t 20)], none, []⟩, ⟨none, .store 4 (.t 4) (.t 21), none, []⟩]) ( .ret))) ( .seq (.region [ ⟨some 23, .bin .eql (.t 13) (.c (.int .i64 1)), none, []⟩, ⟨some 22, .mv (.t 23), none, []⟩]) ( .cond (.t 22) ( .seq (.region [ ⟨some 24, .faddr 2 (.t 2), none, []⟩, ⟨some 25, .load 1 false (.t 24), none, []⟩, ⟨some 26, .faddr 2 (.t 2), none, []⟩, ⟨some 27, .load 1 false (.t 26), none, []⟩, ⟨some 28, .len true (.t 27), none, []⟩, ⟨some 29, .min2 (.t 28) (.c (.int .i64 32)), none, []⟩, ⟨some 30, .strSl (.t 25) none (some (.t 29)), none, []⟩, ⟨some 31, .s2b (.t 30), none, []⟩, ⟨some 6, .mv (.t 31), none, []⟩]) ( .seq (.seq (.region [ ⟨some 7, .mv (.c (.int .i64 0)), none, []⟩]) ( .block 1 ( .loop ( .seq (.seq (.region [ ⟨some 32, .mv (.t 7), none, []⟩, ⟨some 33, .mv (.t 6), none, []⟩, ⟨some 34, .len false (.t 33), none, []⟩, ⟨some 35, .bin .lss (.t 32) (.t 34), none, []⟩]) ( .cond (.t 35) ( .skip) ( .exit 1))) ( .seq (.block 2 ( .seq (.region [ ⟨some 38, .mv (.t 6), none, []⟩, ⟨some 39, .mv (.t 7), none, []⟩, ⟨some 40, .mv (.t 6), none, []⟩, ⟨some 41, .mv (.t 7), none, []⟩, ⟨some 42, .iaddrS 1 (.t 40) (.t 41), none, []⟩, ⟨some 43, .load 1 false (.t 42), none, []⟩, ⟨some 44, .bin .rem (.t 43) (.c (.int .u8 95)), none, []⟩, ⟨some 45, .bin .add (.c (.int .u8 32)) (.t 44), none, []⟩, ⟨some 46, .iaddrS 1 (.t 38) (.t 39), none, []⟩, ⟨none, .store 1 (.t 46) (.t 45), none, []⟩]) ( .seq (.region [ ⟨some 47, .mv (.t 6), none, []⟩, ⟨some 48, .mv (.t 7), none, []⟩, ⟨some 49, .iaddrS 1 (.t 47) (.t 48), none, []⟩, ⟨some 50, .load 1 false (.t 49), none, []⟩, ⟨some 51, .bin .eql (.t 50) (.c (.int .u8 34)), none, []⟩, ⟨some 52, .mv (.t 51), none, []⟩, ⟨some 53, .mv (.t 6), (some (52, false)), []⟩, ⟨some 54, .mv (.t 7), (some (52, false)), []⟩, ⟨some 55, .iaddrS 1 (.t 53) (.t 54), (some (52, false)), []⟩, ⟨some 56, .load 1 false (.t 55), (some (52, false)), []⟩, ⟨some 57, .bin .eql (.t 56) (.c (.int .u8 92)), (some (52, false)), []⟩, ⟨some 58, .pick (.t 52) (.c (.bool true)) (.t 57), none, []⟩]) ( .cond (.t 58) ( .region [ ⟨some 59, .mv (.t 6), none, []⟩, ⟨some 60, .mv (.t 7), none, []⟩, ⟨some 61, .iaddrS 1 (.t 59) (.t 60), none, []⟩, ⟨none, .store 1 (.t 61) (.c (.int .u8 32)), none, []⟩]) ( .skip))))) ( .region [ ⟨some 36, .mv (.t 7), none, []⟩, ⟨some 37, .bin .add (.t 36) (.c (.int .i64 1)), none, []⟩, ⟨some 7, .mv (.t 37), none, []⟩])))))) ( .seq (.region [ ⟨some 62, .mv (.t 6), none, []⟩, ⟨some 63, .b2s (.t 62), none, []⟩, ⟨some 64, .build [.int .i64 0, .int .i64 0, .str ⟨#[]⟩, .isl [] true] [(0, 1, .c (.int .i64 2)), (2, 1, .t 63)], none, []⟩, ⟨none, .store 4 (.t 4) (.t 64), none, []⟩]) ( .ret)))) ( .seq (.region [ ⟨some 66, .bin .eql (.t 13) (.c (.int .i64 2)), none, []⟩, ⟨some 65, .mv (.t 66), none, []⟩]) ( .cond (.t 65) ( .seq (.region [ ⟨some 67, .faddr 2 (.t 2), none, []⟩, ⟨some 68, .load 1 false (.t 67), none, []⟩, ⟨some 69, .call 27 [.t 68], none, []⟩, ⟨some 70, .build [.int .i64 0, .int .i64 0, .str ⟨#[]⟩, .isl [] true] [(0, 1, .c (.int .i64 3)), (2, 1, .t 69)], none, []⟩, ⟨none, .store 4 (.t 4) (.t 70), none, []⟩]) ( .ret)) ( .skip))))))))) ( .seq (.region [ ⟨some 71, .build [.int .i64 0, .int .i64 0, .str ⟨#[]⟩, .isl [] true] [(0, 1, .c (.int .i64 4))], none, []⟩, ⟨some 8, .alloc [.int .i64 0, .int .i64 0, .str ⟨#[]⟩, .isl [] true], none, []⟩, ⟨none, .store 4 (.t 8) (.t 71), none, []⟩]) ( .seq (.seq (.region [ ⟨some 9, .mv (.c (.int .i64 0)), none, []⟩]) ( .block 3 ( .loop ( .seq (.seq (.region [ ⟨some 72, .mv (.t 9), none, []⟩, ⟨some 73, .faddr 3 (.t 2), none, []⟩, ⟨some 74, .load 1 false (.t 73), none, []⟩, ⟨some 75, .len false (.t 74), none, []⟩, ⟨some 76, .bin .lss (.t 72) (.t 75), none, []⟩, ⟨some 77, .mv (.t 76), none, []⟩, ⟨some 78, .mv (.t 9), (some (77, true)), []⟩, ⟨some 79, .bin .lss (.t 78) (.c (.int .i64 16)), (some (77, true)), []⟩, ⟨some 80, .pick (.t 77) (.t 79) (.c (.bool false)), none, []⟩]) ( .cond (.t 80) ( .skip) ( .exit 3))) ( .seq (.block 4 ( .seq (.region [ ⟨some 83, .faddr 3 (.t 2), none, []⟩, ⟨some 84, .load 1 false (.t 83), none, []⟩, ⟨some 85, .mv (.t 9), none, []⟩, ⟨some 86, .iaddrS 4 (.t 84) (.t 85), none, []⟩, ⟨some 87, .load 4 true (.t 86), none, []⟩, ⟨some 10, .alloc [.int .i64 0, .int .i64 0, .str ⟨#[]⟩, .isl [] true], none, []⟩, ⟨none, .store 4 (.t 10) (.t 87), none, []⟩]) ( .seq (.seq (.region [ ⟨some 88, .mv (.t 1), none, []⟩, ⟨some 89, .bin .leq (.t 88) (.c (.int .i64 1)), none, []⟩, ⟨some 90, .mv (.t 89), none, []⟩, ⟨some 91, .faddr 0 (.t 10), (some (90, true)), []⟩, ⟨some 92, .load 1 false (.t 91), (some (90, true)), []⟩, ⟨some 93, .call 38 [.t 92, .c (.int .i64 4)], (some (90, true)), []⟩, ⟨some 94, .bin .eql (.t 93) (.c (.int .i64 3)), (some (90, true)), []⟩, ⟨some 95, .pick (.t 90) (.t 94) (.c (.bool false)), none, []⟩]) ( .cond (.t 95) ( .region [ ⟨some 96, .faddr 0 (.t 10), none, []⟩, ⟨none, .store 1 (.t 96) (.c (.int .i64 0)), none, []⟩]) ( .skip))) ( .region [ ⟨some 97, .faddr 3 (.t 8), none, []⟩, ⟨some 98, .load 1 false (.t 97), none, []⟩, ⟨some 99, .load 4 true (.t 10), none, []⟩, ⟨some 100, .mv (.t 1), none, []⟩, ⟨some 101, .bin .sub (.t 100) (.c (.int .i64 1)), none, []⟩, ⟨some 102, .call 28 [.t 99, .t 101], none, [.t 97]⟩, ⟨some 103, .buildSl 1 4 true [.int .i64 0, .int .i64 0, .str ⟨#[]⟩, .isl [] true] [(0, 4, .t 102)], none, []⟩, ⟨some 104, .append 4 true 56 false (.t 98) (.t 103), none, []⟩, ⟨some 105, .faddr 3 (.t 8), none, []⟩, ⟨none, .store 1 (.t 105) (.t 104), none, []⟩])))) ( .region [ ⟨some 81, .mv (.t 9), none, []⟩, ⟨some 82, .bin .add (.t 81) (.c (.int .i64 1)), none, []⟩, ⟨some 9, .mv (.t 82), none, []⟩])))))) ( .seq (.region [ ⟨some 106, .load 4 true (.t 8), none, []⟩, ⟨none, .store 4 (.t 4) (.t 106), none, []⟩]) ( .ret))))), .pure, true, true⟩
theorem k28 : compF Try.prog { mt := false, mtAt := [], mode := .pure, clArgs := true, clRes := true } Try.f28 = some c28 := by kernel_rfl
def c29 : AFunc := ⟨30, [.tmp 4, .tmp 5], .seq (.region [ ⟨some 4, .mv (.c (.isl [] true)), none, []⟩, ⟨some 5, .mv (.c (.bool false)), none, []⟩]) ( .seq (.seq (.region [ ⟨some 10, .mv (.t 0), none, []⟩, ⟨some 11, .len false (.t 10), none, []⟩, ⟨some 12, .mv (.c (.int .i64 0)), none, []⟩]) ( .block 0 ( .loop ( .seq (.region [ ⟨some 13, .bin .lss (.t 12) (.t 11), none, []⟩]) ( .seq (.cond (.t 13) ( .skip) ( .exit 0)) ( .seq (.block 1 ( .seq (.region [ ⟨some 14, .iaddrS 7 (.t 10) (.t 12), none, []⟩, ⟨some 15, .load 7 true (.t 14), none, []⟩, ⟨some 7, .alloc [.int .i64 0, .str ⟨#[]⟩, .int .i64 0, .int .i64 0, .str ⟨#[]⟩, .isl [] true, .isl [] true], none, []⟩, ⟨none, .store 7 (.t 7) (.t 15), none, []⟩]) ( .seq (.region [ ⟨some 17, .mv (.t 1), none, []⟩, ⟨some 18, .load 7 true (.t 7), none, []⟩, ⟨some 19, .callv (.t 17) [.t 18], none, []⟩, ⟨some 16, .mv (.t 19), none, []⟩, ⟨some 20, .extract 0 (.t 16), none, []⟩, ⟨some 21, .extract 1 (.t 16), none, []⟩, ⟨some 8, .alloc [.int .i64 0, .int .i64 0, .str ⟨#[]⟩, .isl [] true], none, []⟩, ⟨none, .store 4 (.t 8) (.t 20), none, []⟩, ⟨some 9, .mv (.t 21), none, []⟩]) ( .seq (.seq (.region [ ⟨some 22, .mv (.t 9), none, []⟩, ⟨some 23, .un .not (.t 22), none, []⟩]) ( .cond (.t 23) ( .seq (.region [ ⟨some 4, .mv (.c (.isl [] true)), none, []⟩, ⟨some 5, .mv (.c (.bool false)), none, []⟩]) ( .ret)) ( .skip))) ( .region [ ⟨some 24, .mv (.t 4), none, []⟩, ⟨some 25, .load 4 true (.t 8), none, []⟩, ⟨some 26, .buildSl 1 4 true [.int .i64 0, .int .i64 0, .str ⟨#[]⟩, .isl [] true] [(0, 4, .t 25)], none, []⟩, ⟨some 27, .append 4 true 56 false (.t 24) (.t 26), none, []⟩, ⟨some 4, .mv (.t 27), none, []⟩]))))) ( .region [ ⟨some 28, .bin .add (.t 12) (.c (.int .i64 1)), none, []⟩, ⟨some 12, .mv (.t 28), none, []⟩]))))))) ( .seq (.region [ ⟨some 29, .mv (.t 4), none, []⟩, ⟨some 4, .mv (.t 29), none, []⟩, ⟨some 5, .mv (.c (.bool true)), none, []⟩]) ( .ret))), .pure, true, true⟩
theorem k29 : compF Try.prog { mt := false, mtAt := [], mode := .pure, clArgs := true, clRes := true } Try.f29 = some c29 := by kernel_rfl
def c30 : AFunc := ⟨46, [.cell 4 4 true, .tmp 5], .seq (.region [ ⟨some 4, .alloc [.int .i64 0, .int .i64 0, .str ⟨#[]⟩, .isl [] true], none, []⟩, ⟨some 5, .mv (.c (.bool false)), none, []⟩]) ( .seq (.region [ ⟨some 9, .mv (.t 0), none, []⟩, ⟨some 10, .call 39 [.t 9], none, []⟩, ⟨some 6, .alloc [.int .i64 0, .int .i64 0, .nilfunc], none, []⟩, ⟨none, .store 3 (.t 6) (.t 10), none, []⟩]) ( .seq (.seq (.region [ ⟨some 11, .faddr 0 (.t 6), none, []⟩, ⟨some 12, .load 1 false (.t 11), none, []⟩, ⟨some 13, .mv (.t 1), none, []⟩, ⟨some 14, .len false (.t 13), none, []⟩, ⟨some 15, .bin .neq (.t 12) (.t 14), none, []⟩, ⟨some 16, .mv (.t 15), none, []⟩, ⟨some 17, .mv (.t 1), (some (16, false)), []⟩, ⟨some 18, .call 40 [.t 17, .f 41], (some (16, false)), []⟩, ⟨some 19, .pick (.t 16) (.c (.bool true)) (.t 18), none, []⟩, ⟨some 20, .mv (.t 19), none, []⟩, ⟨some 21, .mv (.t 1), (some (20, false)), []⟩, ⟨some 22, .faddr 1 (.t 6), (some (20, false)), []⟩, ⟨some 23, .load 1 false (.t 22), (some (20, false)), []⟩, ⟨some 24, .iaddrS 4 (.t 21) (.t 23), (some (20, false)), []⟩, ⟨some 25, .faddr 0 (.t 24), (some (20, false)), []⟩, ⟨some 26, .load 1 false (.t 25), (some (20, false)), []⟩, ⟨some 27, .bin .neq (.t 26) (.c (.int .i64 4)), (some (20, false)), []⟩, ⟨some 28, .pick (.t 20) (.c (.bool true)) (.t 27), none, []⟩]) ( .cond (.t 28) ( .seq (.region [ ⟨some 29, .build [.int .i64 0, .int .i64 0, .str ⟨#[]⟩, .isl [] true] [], none, []⟩, ⟨none, .store 4 (.t 4) (.t 29), none, []⟩, ⟨some 5, .mv (.c (.bool false)), none, []⟩]) ( .ret)) ( .skip))) ( .seq (.region [ ⟨some 31, .faddr 2 (.t 6), none, []⟩, ⟨some 32, .load 1 false (.t 31), none, []⟩, ⟨some 33, .mv (.t 1), none, []⟩, ⟨some 34, .faddr 1 (.t 6), none, []⟩, ⟨some 35, .load 1 false (.t 34), none, []⟩, ⟨some 36, .iaddrS 4 (.t 33) (.t 35), none, []⟩, ⟨some 37, .faddr 3 (.t 36), none, []⟩, ⟨some 38, .load 1 false (.t 37), none, []⟩, ⟨some 39, .mv (.t 1), none, []⟩, ⟨some 7, .alloc [.int .i64 0, .int .i64 0, .str ⟨#[]⟩, .isl [] true], none, []⟩, ⟨some 40, .callv (.t 32) [.t 38, .t 39], none, [.t 7]⟩, ⟨some 30, .mv (.t 40), none, []⟩, ⟨some 41, .extract 0 (.t 30), none, []⟩, ⟨some 42, .extract 1 (.t 30), none, []⟩, ⟨none, .store 4 (.t 7) (.t 41), none, []⟩, ⟨some 8, .mv (.t 42), none, []⟩]) ( .seq (.region [ ⟨some 43, .load 4 true (.t 7), none, []⟩, ⟨some 44, .call 43 [.t 43], none, []⟩, ⟨some 45, .mv (.t 8), none, []⟩, ⟨none, .store 4 (.t 4) (.t 44), none, []⟩, ⟨some 5, .mv (.t 45), none, []⟩]) ( .ret))))), .pure, true, true⟩
theorem k30 : compF Try.prog { mt := false, mtAt := [], mode := .pure, clArgs := true, clRes := true } Try.f30 = some c30 := by kernel_rfl
def c31 : AFunc := ⟨62, [.cell 6 4 true, .tmp 7], .seq (.region [ ⟨some 4, .box (.t 1), none, []⟩, ⟨some 5, .box (.t 2), none, []⟩, ⟨some 6, .alloc [.int .i64 0, .int .i64 0, .str ⟨#[]⟩, .isl [] true], none, []⟩, ⟨some 7, .mv (.c (.bool false)), none, []⟩]) ( .seq (.seq (.region [ ⟨some 8, .faddr 0 (.t 4), none, []⟩, ⟨some 9, .load 1 false (.t 8), none, []⟩, ⟨some 10, .bin .neq (.t 9) (.c (.int .i64 1)), none, []⟩, ⟨some 11, .mv (.t 10), none, []⟩, ⟨some 12, .faddr 0 (.t 5), (some (11, false)), []⟩, ⟨some 13, .load 1 false (.t 12), (some (11, false)), []⟩, ⟨some 14, .bin .neq (.t 13) (.c (.int .i64 1)), (some (11, false)), []⟩, ⟨some 15, .pick (.t 11) (.c (.bool true)) (.t 14), none, []⟩, ⟨some 16, .mv (.t 15), none, []⟩, ⟨some 17, .load 4 true (.t 4), (some (16, false)), []⟩, ⟨some 18, .call 42 [.t 17], (some (16, false)), []⟩, ⟨some 19, .un .not (.t 18), (some (16, false)), []⟩, ⟨some 20, .pick (.t 16) (.c (.bool true)) (.t 19), none, []⟩, ⟨some 21, .mv (.t 20), none, []⟩, ⟨some 22, .load 4 true (.t 5), (some (21, false)), []⟩, ⟨some 23, .call 42 [.t 22], (some (21, false)), []⟩, ⟨some 24, .un .not (.t 23), (some (21, false)), []⟩, ⟨some 25, .pick (.t 21) (.c (.bool true)) (.t 24), none, []⟩]) ( .cond (.t 25) ( .seq (.region [ ⟨some 26, .build [.int .i64 0, .int .i64 0, .str ⟨#[]⟩, .isl [] true] [], none, []⟩, ⟨none, .store 4 (.t 6) (.t 26), none, []⟩, ⟨some 7, .mv (.c (.bool false)), none, []⟩]) ( .ret)) ( .skip))) ( .seq (.seq (.region [ ⟨some 27, .mv (.t 0), none, []⟩]) ( .block 0 ( .seq (.region [ ⟨some 29, .bin .eql (.t 27) (.c (.str ⟨#[43]⟩)), none, []⟩, ⟨some 28, .mv (.t 29), none, []⟩]) ( .cond (.t 28) ( .seq (.region [ ⟨some 30, .faddr 1 (.t 4), none, []⟩, ⟨some 31, .load 1 false (.t 30), none, []⟩, ⟨some 32, .faddr 1 (.t 5), none, []⟩, ⟨some 33, .load 1 false (.t 32), none, []⟩, ⟨some 34, .bin .add (.t 31) (.t 33), none, []⟩, ⟨some 35, .call 11 [.t 34], none, []⟩, ⟨some 36, .call 44 [.t 35], none, []⟩, ⟨some 37, .extract 0 (.t 36), none, []⟩, ⟨some 38, .extract 1 (.t 36), none, []⟩, ⟨none, .store 4 (.t 6) (.t 37), none, []⟩, ⟨some 7, .mv (.t 38), none, []⟩]) ( .ret)) ( .seq (.region [ ⟨some 40, .bin .eql (.t 27) (.c (.str ⟨#[45]⟩)), none, []⟩, ⟨some 39, .mv (.t 40), none, []⟩]) ( .cond (.t 39) ( .seq (.region [ ⟨some 41, .faddr 1 (.t 4), none, []⟩, ⟨some 42, .load 1 false (.t 41), none, []⟩, ⟨some 43, .faddr 1 (.t 5), none, []⟩, ⟨some 44, .load 1 false (.t 43), none, []⟩, ⟨some 45, .bin .sub (.t 42) (.t 44), none, []⟩, ⟨some 46, .call 11 [.t 45], none, []⟩, ⟨some 47, .call 44 [.t 46], none, []⟩, ⟨some 48, .extract 0 (.t 47), none, []⟩, ⟨some 49, .extract 1 (.t 47), none, []⟩, ⟨none, .store 4 (.t 6) (.t 48), none, []⟩, ⟨some 7, .mv (.t 49), none, []⟩]) ( .ret)) ( .seq (.region [ ⟨some 51, .bin .eql (.t 27) (.c (.str ⟨#[42]⟩)), none, []⟩, ⟨some 50, .mv (.t 51), none, []⟩]) ( .cond (.t 50) ( .seq (.region [ ⟨some 52, .faddr 1 (.t 4), none, []⟩, ⟨some 53, .load 1 false (.t 52), none, []⟩, ⟨some 54, .faddr 1 (.t 5), none, []⟩, ⟨some 55, .load 1 false (.t 54), none, []⟩, ⟨some 56, .bin .mul (.t 53) (.t 55), none, []⟩, ⟨some 57, .call 11 [.t 56], none, []⟩, ⟨some 58, .call 44 [.t 57], none, []⟩, ⟨some 59, .extract 0 (.t 58), none, []⟩, ⟨some 60, .extract 1 (.t 58), none, []⟩, ⟨none, .store 4 (.t 6) (.t 59), none, []⟩, ⟨some 7, .mv (.t 60), none, []⟩]) ( .ret)) ( .skip))))))))) ( .seq (.region [ ⟨some 61, .build [.int .i64 0, .int .i64 0, .str ⟨#[]⟩, .isl [] true] [], none, []⟩, ⟨none, .store 4 (.t 6) (.t 61), none, []⟩, ⟨some 7, .mv (.c (.bool false)), none, []⟩]) ( .ret)))), .pure, true, true⟩
theorem k31 : compF Try.prog { mt := false, mtAt := [], mode := .pure, clArgs := true, clRes := true } Try.f31 = some c31 := by kernel_rfl
def c33 : AFunc := ⟨8, [], .seq (.region [ ⟨some 2, .box (.t 0), none, []⟩]) ( .seq (.region [ ⟨some 3, .alloc [.nilfunc], none, []⟩]) ( .seq (.region [ ⟨some 4, .mkfn 34 [.t 2, .t 3], none, []⟩, ⟨none, .store 1 (.t 3) (.t 4), none, []⟩]) ( .region [ ⟨some 5, .load 1 false (.t 3), none, []⟩, ⟨some 6, .load 1 false (.t 1), none, []⟩, ⟨some 7, .callv (.t 5) [.t 6], none, []⟩]))), .raw, false, false⟩
theorem k33 : compF Try.prog { mt := false, mtAt := [], mode := .raw, clArgs := false, clRes := false } Try.f33 = some c33 := by kernel_rfl
def c34 : AFunc := ⟨27, [.tmp 4], .seq (.region [ ⟨some 4, .mv (.c (.bool false)), none, []⟩]) ( .seq (.seq (.region [ ⟨some 7, .mv (.t 0), none, []⟩, ⟨some 8, .len false (.t 7), none, []⟩, ⟨some 9, .mv (.c (.int .i64 0)), none, []⟩]) ( .block 0 ( .loop ( .seq (.region [ ⟨some 10, .bin .lss (.t 9) (.t 8), none, []⟩]) ( .seq (.cond (.t 10) ( .skip) ( .exit 0)) ( .seq (.block 1 ( .seq (.region [ ⟨some 11, .iaddrS 7 (.t 7) (.t 9), none, []⟩, ⟨some 12, .load 7 true (.t 11), none, []⟩, ⟨some 6, .alloc [.int .i64 0, .str ⟨#[]⟩, .int .i64 0, .int .i64 0, .str ⟨#[]⟩, .isl [] true, .isl [] true], none, []⟩, ⟨none, .store 7 (.t 6) (.t 12), none, []⟩]) ( .seq (.region [ ⟨some 13, .faddr 0 (.t 6), none, []⟩, ⟨some 14, .load 1 false (.t 13), none, []⟩, ⟨some 15, .bin .eql (.t 14) (.c (.int .i64 1)), none, []⟩]) ( .cond (.t 15) ( .seq (.region [ ⟨some 16, .load 1 false (.t 1), none, []⟩, ⟨some 17, .faddr 1 (.t 6), none, []⟩, ⟨some 18, .load 1 false (.t 17), none, []⟩, ⟨some 19, .callv (.t 16) [.t 18], none, []⟩, ⟨some 20, .un .not (.t 19), none, []⟩]) ( .cond (.t 20) ( .seq (.region [ ⟨some 4, .mv (.c (.bool false)), none, []⟩]) ( .ret)) ( .skip))) ( .seq (.region [ ⟨some 21, .load 1 false (.t 2), none, []⟩, ⟨some 22, .faddr 6 (.t 6), none, []⟩, ⟨some 23, .load 1 false (.t 22), none, []⟩, ⟨some 24, .callv (.t 21) [.t 23], none, []⟩, ⟨some 25, .un .not (.t 24), none, []⟩]) ( .cond (.t 25) ( .seq (.region [ ⟨some 4, .mv (.c (.bool false)), none, []⟩]) ( .ret)) ( .skip))))))) ( .region [ ⟨some 26, .bin .add (.t 9) (.c (.int .i64 1)), none, []⟩, ⟨some 9, .mv (.t 26), none, []⟩]))))))) ( .seq (.region [ ⟨some 4, .mv (.c (.bool true)), none, []⟩]) ( .ret))), .raw, false, false⟩
theorem k34 : compF Try.prog { mt := false, mtAt := [], mode := .raw, clArgs := false, clRes := false } Try.f34 = some c34 := by kernel_rfl
def c35 : AFunc := ⟨19, [.tmp 4], .seq (.region [ ⟨some 4, .mv (.c (.int .i64 0)), none, []⟩]) ( .seq (.seq (.region [ ⟨some 6, .mv (.t 0), none, []⟩, ⟨some 7, .len false (.t 6), none, []⟩, ⟨some 8, .mv (.c (.int .i64 0)), none, []⟩]) ( .block 0 ( .loop ( .seq (.region [ ⟨some 9, .bin .lss (.t 8) (.t 7), none, []⟩]) ( .seq (.cond (.t 9) ( .skip) ( .exit 0)) ( .seq (.block 1 ( .seq (.region [ ⟨some 10, .mv (.t 8), none, []⟩, ⟨some 5, .mv (.t 10), none, []⟩]) ( .seq (.region [ ⟨some 11, .mv (.t 1), none, []⟩, ⟨some 12, .mv (.t 0), none, []⟩, ⟨some 13, .mv (.t 5), none, []⟩, ⟨some 14, .iaddrS 5 (.t 12) (.t 13), none, []⟩, ⟨some 15, .load 5 true (.t 14), none, []⟩, ⟨some 16, .callv (.t 11) [.t 15], none, []⟩]) ( .cond (.t 16) ( .seq (.region [ ⟨some 17, .mv (.t 5), none, []⟩, ⟨some 4, .mv (.t 17), none, []⟩]) ( .ret)) ( .skip))))) ( .region [ ⟨some 18, .bin .add (.t 8) (.c (.int .i64 1)), none, []⟩, ⟨some 8, .mv (.t 18), none, []⟩]))))))) ( .seq (.region [ ⟨some 4, .mv (.c (.int .i64 (-1))), none, []⟩]) ( .ret))), .pure, true, true⟩
theorem k35 : compF Try.prog { mt := false, mtAt := [], mode := .pure, clArgs := true, clRes := true } Try.f35 = some c35 := by kernel_rfl
def c36 : AFunc := ⟨8, [.tmp 3], .seq (.region [ ⟨some 2, .box (.t 0), none, []⟩, ⟨some 3, .mv (.c (.bool false)), none, []⟩]) ( .seq (.region [ ⟨some 4, .faddr 0 (.t 2), none, []⟩, ⟨some 5, .load 1 false (.t 4), none, []⟩, ⟨some 6, .load 1 false (.t 1), none, []⟩, ⟨some 7, .bin .eql (.t 5) (.t 6), none, []⟩, ⟨some 3, .mv (.t 7), none, []⟩]) ( .ret)), .pure, true, true⟩
theorem k36 : compF Try.prog { mt := false, mtAt := [], mode := .pure, clArgs := true, clRes := true } Try.f36 = some c36 := by kernel_rfl
def c37 : AFunc := ⟨38, [.tmp 4], .seq (.region [ ⟨some 2, .box (.t 0), none, []⟩, ⟨some 3, .box (.t 1), none, []⟩, ⟨some 4, .mv (.c (.int .i64 0)), none, []⟩]) ( .seq (.seq (.region [ ⟨some 6, .faddr 0 (.t 2), none, []⟩, ⟨some 7, .load 1 false (.t 6), none, []⟩, ⟨some 8, .faddr 0 (.t 3), none, []⟩, ⟨some 9, .load 1 false (.t 8), none, []⟩, ⟨some 10, .call 45 [.t 7, .t 9], none, []⟩, ⟨some 5, .mv (.t 10), none, []⟩]) ( .seq (.region [ ⟨some 11, .mv (.t 5), none, []⟩, ⟨some 12, .bin .neq (.t 11) (.c (.int .i64 0)), none, []⟩]) ( .cond (.t 12) ( .seq (.region [ ⟨some 13, .mv (.t 5), none, []⟩, ⟨some 4, .mv (.t 13), none, []⟩]) ( .ret)) ( .skip)))) ( .seq (.seq (.region [ ⟨some 14, .faddr 0 (.t 2), none, []⟩, ⟨some 15, .load 1 false (.t 14), none, []⟩]) ( .block 0 ( .seq (.region [ ⟨some 17, .bin .eql (.t 15) (.c (.int .i64 1)), none, []⟩, ⟨some 16, .mv (.t 17), none, []⟩]) ( .cond (.t 16) ( .seq (.region [ ⟨some 18, .faddr 1 (.t 2), none, []⟩, ⟨some 19, .load 1 false (.t 18), none, []⟩, ⟨some 20, .faddr 1 (.t 3), none, []⟩, ⟨some 21, .load 1 false (.t 20), none, []⟩, ⟨some 22, .call 45 [.t 19, .t 21], none, []⟩, ⟨some 4, .mv (.t 22), none, []⟩]) ( .ret)) ( .seq (.seq (.region [ ⟨some 24, .bin .eql (.t 15) (.c (.int .i64 2)), none, []⟩, ⟨some 23, .mv (.t 24), none, []⟩]) ( .cond (.t 23) ( .skip) ( .region [ ⟨some 25, .bin .eql (.t 15) (.c (.int .i64 3)), none, []⟩, ⟨some 23, .mv (.t 25), none, []⟩]))) ( .cond (.t 23) ( .seq (.region [ ⟨some 26, .faddr 2 (.t 2), none, []⟩, ⟨some 27, .load 1 false (.t 26), none, []⟩, ⟨some 28, .faddr 2 (.t 3), none, []⟩, ⟨some 29, .load 1 false (.t 28), none, []⟩, ⟨some 30, .call 46 [.t 27, .t 29], none, []⟩, ⟨some 4, .mv (.t 30), none, []⟩]) ( .ret)) ( .seq (.region [ ⟨some 32, .bin .eql (.t 15) (.c (.int .i64 4)), none, []⟩, ⟨some 31, .mv (.t 32), none, []⟩]) ( .cond (.t 31) ( .seq (.region [ ⟨some 33, .faddr 3 (.t 2), none, []⟩, ⟨some 34, .load 1 false (.t 33), none, []⟩, ⟨some 35, .faddr 3 (.t 3), none, []⟩, ⟨some 36, .load 1 false (.t 35), none, []⟩, ⟨some 37, .call 47 [.t 34, .t 36, .f 37], none, []⟩, ⟨some 4, .mv (.t 37), none, []⟩]) ( .ret)) ( .skip))))))))) ( .seq (.region [ ⟨some 4, .mv (.c (.int .i64 0)), none, []⟩]) ( .ret)))), .pure, true, true⟩
theorem k37 : compF Try.prog { mt := false, mtAt := [], mode := .pure, clArgs := true, clRes := true } Try.f37 = some c37 := by kernel_rfl
def c38 : AFunc := ⟨13, [.tmp 4], .seq (.region [ ⟨some 4, .mv (.c (.int .i64 0)), none, []⟩]) ( .seq (.seq (.region [ ⟨some 5, .mv (.t 0), none, []⟩, ⟨some 6, .bin .lss (.t 5) (.c (.int .i64 0)), none, []⟩]) ( .cond (.t 6) ( .region [ ⟨some 7, .mv (.t 0), none, []⟩, ⟨some 8, .bin .add (.t 7) (.c (.int .i64 1)), none, []⟩, ⟨some 9, .un .neg (.t 8), none, []⟩, ⟨some 0, .mv (.t 9), none, []⟩]) ( .skip))) ( .seq (.region [ ⟨some 10, .mv (.t 0), none, []⟩, ⟨some 11, .mv (.t 1), none, []⟩, ⟨some 12, .bin .rem (.t 10) (.t 11), none, []⟩, ⟨some 4, .mv (.t 12), none, []⟩]) ( .ret))), .pure, true, true⟩
theorem k38 : compF Try.prog { mt := false, mtAt := [], mode := .pure, clArgs := true, clRes := true } Try.f38 = some c38 := by kernel_rfl
def c39 : AFunc := ⟨34, [.cell 2 3 true], .seq (.region [ ⟨some 2, .alloc [.int .i64 0, .int .i64 0, .nilfunc], none, []⟩]) ( .seq (.seq (.region [ ⟨some 3, .mv (.t 0), none, []⟩]) ( .block 0 ( .seq (.region [ ⟨some 5, .bin .eql (.t 3) (.c (.str ⟨#[102, 95, 99, 111, 110, 115]⟩)), none, []⟩, ⟨some 4, .mv (.t 5), none, []⟩]) ( .cond (.t 4) ( .seq (.region [ ⟨some 6, .build [.int .i64 0, .int .i64 0, .nilfunc] [(0, 1, .c (.int .i64 2)), (1, 1, .c (.int .i64 1)), (2, 1, .f 48)], none, []⟩, ⟨none, .store 3 (.t 2) (.t 6), none, []⟩]) ( .ret)) ( .seq (.region [ ⟨some 8, .bin .eql (.t 3) (.c (.str ⟨#[102, 95, 97, 112, 112, 101, 110, 100]⟩)), none, []⟩, ⟨some 7, .mv (.t 8), none, []⟩]) ( .cond (.t 7) ( .seq (.region [ ⟨some 9, .build [.int .i64 0, .int .i64 0, .nilfunc] [(0, 1, .c (.int .i64 2)), (1, 1, .c (.int .i64 0)), (2, 1, .f 49)], none, []⟩, ⟨none, .store 3 (.t 2) (.t 9), none, []⟩]) ( .ret)) ( .seq (.region [ ⟨some 11, .bin .eql (.t 3) (.c (.str ⟨#[102, 95, 99, 111, 110, 99, 97, 116]⟩)), none, []⟩, ⟨some 10, .mv (.t 11), none, []⟩]) ( .cond (.t 10) ( .seq (.region [ ⟨some 12, .build [.int .i64 0, .int .i64 0, .nilfunc] [(0, 1, .c (.int .i64 2)), (1, 1, .c (.int .i64 0)), (2, 1, .f 50)], none, []⟩, ⟨none, .store 3 (.t 2) (.t 12), none, []⟩]) ( .ret)) ( .seq (.region [ ⟨some 14, .bin .eql (.t 3) (.c (.str ⟨#[102, 95, 109, 101, 109, 98, 101, 114]⟩)), none, []⟩, ⟨some 13, .mv (.t 14), none, []⟩]) ( .cond (.t 13) ( .seq (.region [ ⟨some 15, .build [.int .i64 0, .int .i64 0, .nilfunc] [(0, 1, .c (.int .i64 2)), (1, 1, .c (.int .i64 0)), (2, 1, .f 51)], none, []⟩, ⟨none, .store 3 (.t 2) (.t 15), none, []⟩]) ( .ret)) ( .seq (.region [ ⟨some 17, .bin .eql (.t 3) (.c (.str ⟨#[102, 95, 115, 105, 122, 101]⟩)), none, []⟩, ⟨some 16, .mv (.t 17), none, []⟩]) ( .cond (.t 16) ( .seq (.region [ ⟨some 18, .build [.int .i64 0, .int .i64 0, .nilfunc] [(0, 1, .c (.int .i64 1)), (1, 1, .c (.int .i64 0)), (2, 1, .f 52)], none, []⟩, ⟨none, .store 3 (.t 2) (.t 18), none, []⟩]) ( .ret)) ( .seq (.region [ ⟨some 20, .bin .eql (.t 3) (.c (.str ⟨#[102, 95, 102, 105, 114, 115, 116]⟩)), none, []⟩, ⟨some 19, .mv (.t 20), none, []⟩]) ( .cond (.t 19) ( .seq (.region [ ⟨some 21, .call 53 [.c (.bool false)], none, []⟩, ⟨some 22, .build [.int .i64 0, .int .i64 0, .nilfunc] [(0, 1, .c (.int .i64 1)), (1, 1, .c (.int .i64 0)), (2, 1, .t 21)], none, []⟩, ⟨none, .store 3 (.t 2) (.t 22), none, []⟩]) ( .ret)) ( .seq (.region [ ⟨some 24, .bin .eql (.t 3) (.c (.str ⟨#[102, 95, 108, 97, 115, 116]⟩)), none, []⟩, ⟨some 23, .mv (.t 24), none, []⟩]) ( .cond (.t 23) ( .seq (.region [ ⟨some 25, .call 53 [.c (.bool true)], none, []⟩, ⟨some 26, .build [.int .i64 0, .int .i64 0, .nilfunc] [(0, 1, .c (.int .i64 1)), (1, 1, .c (.int .i64 0)), (2, 1, .t 25)], none, []⟩, ⟨none, .store 3 (.t 2) (.t 26), none, []⟩]) ( .ret)) ( .seq (.region [ ⟨some 28, .bin .eql (.t 3) (.c (.str ⟨#[102, 95, 114, 101, 115, 116]⟩)), none, []⟩, ⟨some 27, .mv (.t 28), none, []⟩]) ( .cond (.t 27) ( .seq (.region [ ⟨some 29, .build [.int .i64 0, .int .i64 0, .nilfunc] [(0, 1, .c (.int .i64 1)), (1, 1, .c (.int .i64 0)), (2, 1, .f 54)], none, []⟩, ⟨none, .store 3 (.t 2) (.t 29), none, []⟩]) ( .ret)) ( .seq (.region [ ⟨some 31, .bin .eql (.t 3) (.c (.str ⟨#[102, 95, 114, 101, 118, 101, 114, 115, 101]⟩)), none, []⟩, ⟨some 30, .mv (.t 31), none, []⟩]) ( .cond (.t 30) ( .seq (.region [ ⟨some 32, .build [.int .i64 0, .int .i64 0, .nilfunc] [(0, 1, .c (.int .i64 1)), (1, 1, .c (.int .i64 0)), (2, 1, .f 55)], none, []⟩, ⟨none, .store 3 (.t 2) (.t 32), none, []⟩]) ( .ret)) ( .skip))))))))))))))))))))) ( .seq (.region [ ⟨some 33, .build [.int .i64 0, .int .i64 0, .nilfunc] [(0, 1, .c (.int .i64 (-1)))], none, []⟩, ⟨none, .store 3 (.t 2) (.t 33), none, []⟩]) ( .ret))), .pure, true, true⟩
theorem k39 : compF Try.prog { mt := false, mtAt := [], mode := .pure, clArgs := true, clRes := true } Try.f39 = some c39 := by kernel_rfl
def c40 : AFunc := ⟨9, [.tmp 4], .seq (.region [ ⟨some 4, .mv (.c (.bool false)), none, []⟩]) ( .seq (.region [ ⟨some 5, .mv (.t 0), none, []⟩, ⟨some 6, .mv (.t 1), none, []⟩, ⟨some 7, .call 56 [.t 5, .t 6], none, []⟩, ⟨some 8, .bin .geq (.t 7) (.c (.int .i64 0)), none, []⟩, ⟨some 4, .mv (.t 8), none, []⟩]) ( .ret)), .pure, true, true⟩
theorem k40 : compF Try.prog { mt := false, mtAt := [], mode := .pure, clArgs := true, clRes := true } Try.f40 = some c40 := by kernel_rfl
def c41 : AFunc := ⟨6, [.tmp 2], .seq (.region [ ⟨some 1, .box (.t 0), none, []⟩, ⟨some 2, .mv (.c (.bool false)), none, []⟩]) ( .seq (.region [ ⟨some 3, .load 4 true (.t 1), none, []⟩, ⟨some 4, .call 42 [.t 3], none, []⟩, ⟨some 5, .un .not (.t 4), none, []⟩, ⟨some 2, .mv (.t 5), none, []⟩]) ( .ret)), .pure, true, true⟩
theorem k41 : compF Try.prog { mt := false, mtAt := [], mode := .pure, clArgs := true, clRes := true } Try.f41 = some c41 := by kernel_rfl
def c42 : AFunc := ⟨5, [.tmp 2], .seq (.region [ ⟨some 1, .box (.t 0), none, []⟩, ⟨some 2, .mv (.c (.bool false)), none, []⟩]) ( .seq (.region [ ⟨some 3, .load 4 true (.t 1), none, []⟩, ⟨some 4, .call 57 [.t 3, .c (.int .i64 4)], none, []⟩, ⟨some 2, .mv (.t 4), none, []⟩]) ( .ret)), .pure, true, true⟩
theorem k42 : compF Try.prog { mt := false, mtAt := [], mode := .pure, clArgs := true, clRes := true } Try.f42 = some c42 := by kernel_rfl
def c43 : AFunc := ⟨28, [.cell 2 4 true], .seq (.region [ ⟨some 1, .box (.t 0), none, []⟩, ⟨some 2, .alloc [.int .i64 0, .int .i64 0, .str ⟨#[]⟩, .isl [] true], none, []⟩]) ( .seq (.seq (.region [ ⟨some 5, .faddr 0 (.t 1), none, []⟩, ⟨some 6, .load 1 false (.t 5), none, []⟩, ⟨some 7, .bin .eql (.t 6) (.c (.int .i64 4)), none, []⟩]) ( .cond (.t 7) ( .seq (.region [ ⟨some 8, .faddr 3 (.t 1), none, []⟩, ⟨some 9, .load 1 false (.t 8), none, []⟩, ⟨some 10, .call 32 [.t 9], none, []⟩, ⟨some 11, .faddr 3 (.t 1), none, []⟩, ⟨none, .store 1 (.t 11) (.t 10), none, []⟩]) ( .seq (.region [ ⟨some 12, .faddr 3 (.t 1), none, []⟩, ⟨some 13, .load 1 false (.t 12), none, []⟩, ⟨some 14, .len false (.t 13), none, []⟩, ⟨some 15, .mv (.c (.int .i64 0)), none, []⟩]) ( .block 0 ( .loop ( .seq (.region [ ⟨some 16, .bin .lss (.t 15) (.t 14), none, []⟩]) ( .seq (.cond (.t 16) ( .skip) ( .exit 0)) ( .seq (.block 1 ( .seq (.region [ ⟨some 17, .mv (.t 15), none, []⟩, ⟨some 18, .iaddrS 4 (.t 13) (.t 15), none, []⟩, ⟨some 19, .load 4 true (.t 18), none, []⟩, ⟨some 4, .alloc [.int .i64 0, .int .i64 0, .str ⟨#[]⟩, .isl [] true], none, []⟩, ⟨some 3, .mv (.t 17), none, []⟩, ⟨none, .store 4 (.t 4) (.t 19), none, []⟩]) ( .region [ ⟨some 20, .faddr 3 (.t 1), none, []⟩, ⟨some 21, .load 1 false (.t 20), none, []⟩, ⟨some 22, .mv (.t 3), none, []⟩, ⟨some 23, .load 4 true (.t 4), none, []⟩, ⟨some 24, .call 43 [.t 23], none, [.t 20]⟩, ⟨some 25, .iaddrS 4 (.t 21) (.t 22), none, []⟩, ⟨none, .store 4 (.t 25) (.t 24), none, []⟩]))) ( .region [ ⟨some 26, .bin .add (.t 15) (.c (.int .i64 1)), none, []⟩, ⟨some 15, .mv (.t 26), none, []⟩])))))))) ( .skip))) ( .seq (.region [ ⟨some 27, .load 4 true (.t 1), none, []⟩, ⟨none, .store 4 (.t 2) (.t 27), none, []⟩]) ( .ret))), .pure, true, true⟩
theorem k43 : compF Try.prog { mt := false, mtAt := [], mode := .pure, clArgs := true, clRes := true } Try.f43 = some c43 := by kernel_rfl
def c44 : AFunc := ⟨9, [.cell 2 4 true, .tmp 3], .seq (.region [ ⟨some 1, .box (.t 0), none, []⟩, ⟨some 2, .alloc [.int .i64 0, .int .i64 0, .str ⟨#[]⟩, .isl [] true], none, []⟩, ⟨some 3, .mv (.c (.bool false)), none, []⟩]) ( .seq (.seq (.region [ ⟨some 4, .load 4 true (.t 1), none, []⟩, ⟨some 5, .call 42 [.t 4], none, []⟩, ⟨some 6, .un .not (.t 5), none, []⟩]) ( .cond (.t 6) ( .seq (.region [ ⟨some 7, .build [.int .i64 0, .int .i64 0, .str ⟨#[]⟩, .isl [] true] [], none, []⟩, ⟨none, .store 4 (.t 2) (.t 7), none, []⟩, ⟨some 3, .mv (.c (.bool false)), none, []⟩]) ( .ret)) ( .skip))) ( .seq (.region [ ⟨some 8, .load 4 true (.t 1), none, []⟩, ⟨none, .store 4 (.t 2) (.t 8), none, []⟩, ⟨some 3, .mv (.c (.bool true)), none, []⟩]) ( .ret))), .pure, true, true⟩
theorem k44 : compF Try.prog { mt := false, mtAt := [], mode := .pure, clArgs := true, clRes := true } Try.f44 = some c44 := by kernel_rfl
def c45 : AFunc := ⟨20, [.tmp 4], .seq (.region [ ⟨some 4, .mv (.c (.int .i64 0)), none, []⟩]) ( .seq (.region [ ⟨some 7, .mv (.t 0), none, []⟩, ⟨some 8, .call 58 [.t 7], none, []⟩, ⟨some 5, .mv (.t 8), none, []⟩]) ( .seq (.region [ ⟨some 9, .mv (.t 1), none, []⟩, ⟨some 10, .call 58 [.t 9], none, []⟩, ⟨some 6, .mv (.t 10), none, []⟩]) ( .seq (.seq (.region [ ⟨some 11, .mv (.t 5), none, []⟩]) ( .cond (.t 11) ( .seq (.seq (.region [ ⟨some 12, .mv (.t 6), none, []⟩]) ( .cond (.t 12) ( .seq (.region [ ⟨some 4, .mv (.c (.int .i64 0)), none, []⟩]) ( .ret)) ( .skip))) ( .seq (.region [ ⟨some 4, .mv (.c (.int .i64 (-1))), none, []⟩]) ( .ret))) ( .skip))) ( .seq (.seq (.region [ ⟨some 13, .mv (.t 6), none, []⟩]) ( .cond (.t 13) ( .seq (.region [ ⟨some 4, .mv (.c (.int .i64 1)), none, []⟩]) ( .ret)) ( .skip))) ( .seq (.seq (.region [ ⟨some 14, .mv (.t 0), none, []⟩, ⟨some 15, .mv (.t 1), none, []⟩, ⟨some 16, .bin .lss (.t 14) (.t 15), none, []⟩]) ( .cond (.t 16) ( .seq (.region [ ⟨some 4, .mv (.c (.int .i64 (-1))), none, []⟩]) ( .ret)) ( .skip))) ( .seq (.seq (.region [ ⟨some 17, .mv (.t 0), none, []⟩, ⟨some 18, .mv (.t 1), none, []⟩, ⟨some 19, .bin .gtr (.t 17) (.t 18), none, []⟩]) ( .cond (.t 19) ( .seq (.region [ ⟨some 4, .mv (.c (.int .i64 1)), none, []⟩]) ( .ret)) ( .skip))) ( .seq (.region [ ⟨some 4, .mv (.c (.int .i64 0)), none, []⟩]) ( .ret)))))))), .pure, true, true⟩
theorem k45 : compF Try.prog { mt := false, mtAt := [], mode := .pure, clArgs := true, clRes := true } Try.f45 = some c45 := by kernel_rfl
def c46 : AFunc := ⟨8, [.tmp 4], .seq (.region [ ⟨some 4, .mv (.c (.int .i64 0)), none, []⟩]) ( .seq (.region [ ⟨some 5, .mv (.t 0), none, []⟩, ⟨some 6, .mv (.t 1), none, []⟩, ⟨some 7, .call 59 [.t 5, .t 6], none, []⟩, ⟨some 4, .mv (.t 7), none, []⟩]) ( .ret)), .pure, true, true⟩
theorem k46 : compF Try.prog { mt := false, mtAt := [], mode := .pure, clArgs := true, clRes := true } Try.f46 = some c46 := by kernel_rfl
def c47 : AFunc := ⟨39, [.tmp 6], .seq (.region [ ⟨some 6, .mv (.c (.int .i64 0)), none, []⟩]) ( .seq (.seq (.region [ ⟨some 11, .mv (.t 0), none, []⟩, ⟨some 12, .len false (.t 11), none, []⟩, ⟨some 13, .mv (.c (.int .i64 0)), none, []⟩]) ( .block 0 ( .loop ( .seq (.region [ ⟨some 14, .bin .lss (.t 13) (.t 12), none, []⟩]) ( .seq (.cond (.t 14) ( .skip) ( .exit 0)) ( .seq (.block 1 ( .seq (.region [ ⟨some 15, .mv (.t 13), none, []⟩, ⟨some 16, .iaddrS 4 (.t 11) (.t 13), none, []⟩, ⟨some 17, .load 4 true (.t 16), none, []⟩, ⟨some 8, .alloc [.int .i64 0, .int .i64 0, .str ⟨#[]⟩, .isl [] true], none, []⟩, ⟨some 7, .mv (.t 15), none, []⟩, ⟨none, .store 4 (.t 8) (.t 17), none, []⟩]) ( .seq (.seq (.region [ ⟨some 18, .mv (.t 7), none, []⟩, ⟨some 19, .mv (.t 1), none, []⟩, ⟨some 20, .len false (.t 19), none, []⟩, ⟨some 21, .bin .geq (.t 18) (.t 20), none, []⟩]) ( .cond (.t 21) ( .seq (.region [ ⟨some 6, .mv (.c (.int .i64 1)), none, []⟩]) ( .ret)) ( .skip))) ( .seq (.region [ ⟨some 22, .mv (.t 1), none, []⟩, ⟨some 23, .mv (.t 7), none, []⟩, ⟨some 24, .iaddrS 4 (.t 22) (.t 23), none, []⟩, ⟨some 25, .load 4 true (.t 24), none, []⟩, ⟨some 9, .alloc [.int .i64 0, .int .i64 0, .str ⟨#[]⟩, .isl [] true], none, []⟩, ⟨none, .store 4 (.t 9) (.t 25), none, []⟩]) ( .seq (.region [ ⟨some 26, .mv (.t 2), none, []⟩, ⟨some 27, .load 4 true (.t 8), none, []⟩, ⟨some 28, .load 4 true (.t 9), none, []⟩, ⟨some 29, .callv (.t 26) [.t 27, .t 28], none, []⟩, ⟨some 10, .mv (.t 29), none, []⟩]) ( .seq (.region [ ⟨some 30, .mv (.t 10), none, []⟩, ⟨some 31, .bin .neq (.t 30) (.c (.int .i64 0)), none, []⟩]) ( .cond (.t 31) ( .seq (.region [ ⟨some 32, .mv (.t 10), none, []⟩, ⟨some 6, .mv (.t 32), none, []⟩]) ( .ret)) ( .skip)))))))) ( .region [ ⟨some 33, .bin .add (.t 13) (.c (.int .i64 1)), none, []⟩, ⟨some 13, .mv (.t 33), none, []⟩]))))))) ( .seq (.seq (.region [ ⟨some 34, .mv (.t 0), none, []⟩, ⟨some 35, .len false (.t 34), none, []⟩, ⟨some 36, .mv (.t 1), none, []⟩, ⟨some 37, .len false (.t 36), none, []⟩, ⟨some 38, .bin .lss (.t 35) (.t 37), none, []⟩]) ( .cond (.t 38) ( .seq (.region [ ⟨some 6, .mv (.c (.int .i64 (-1))), none, []⟩]) ( .ret)) ( .skip))) ( .seq (.region [ ⟨some 6, .mv (.c (.int .i64 0)), none, []⟩]) ( .ret)))), .pure, true, true⟩
theorem k47 : compF Try.prog { mt := false, mtAt := [], mode := .pure, clArgs := true, clRes := true } Try.f47 = some c47 := by kernel_rfl
def c48 : AFunc := ⟨16, [.cell 4 4 true, .tmp 5], .seq (.region [ ⟨some 4, .alloc [.int .i64 0, .int .i64 0, .str ⟨#[]⟩, .isl [] true], none, []⟩, ⟨some 5, .mv (.c (.bool false)), none, []⟩]) ( .seq (.region [ ⟨some 6, .mv (.t 1), none, []⟩, ⟨some 7, .iaddrS 4 (.t 6) (.c (.int .i64 0)), none, []⟩, ⟨some 8, .load 4 true (.t 7), none, []⟩, ⟨some 9, .buildSl 1 4 true [.int .i64 0, .int .i64 0, .str ⟨#[]⟩, .isl [] true] [(0, 4, .t 8)], none, []⟩, ⟨some 10, .mv (.t 0), none, []⟩, ⟨some 11, .append 4 true 56 false (.t 9) (.t 10), none, []⟩, ⟨some 12, .call 60 [.t 11], none, []⟩, ⟨some 13, .call 44 [.t 12], none, []⟩, ⟨some 14, .extract 0 (.t 13), none, []⟩, ⟨some 15, .extract 1 (.t 13), none, []⟩, ⟨none, .store 4 (.t 4) (.t 14), none, []⟩, ⟨some 5, .mv (.t 15), none, []⟩]) ( .ret)), .pure, true, true⟩
theorem k48 : compF Try.prog { mt := false, mtAt := [], mode := .pure, clArgs := true, clRes := true } Try.f48 = some c48 := by kernel_rfl
def c49 : AFunc := ⟨15, [.cell 4 4 true, .tmp 5], .seq (.region [ ⟨some 4, .alloc [.int .i64 0, .int .i64 0, .str ⟨#[]⟩, .isl [] true], none, []⟩, ⟨some 5, .mv (.c (.bool false)), none, []⟩]) ( .seq (.region [ ⟨some 6, .mv (.t 0), none, []⟩, ⟨some 7, .mv (.t 1), none, []⟩, ⟨some 8, .slSl 4 (.t 7) (some (.c (.int .i64 1))) none, none, []⟩, ⟨some 9, .buildSl 2 1 false [.isl [] true, .isl [] true] [(0, 1, .t 6), (1, 1, .t 8)], none, []⟩, ⟨some 10, .call 61 [.t 9], none, []⟩, ⟨some 11, .call 60 [.t 10], none, []⟩, ⟨some 12, .call 44 [.t 11], none, []⟩, ⟨some 13, .extract 0 (.t 12), none, []⟩, ⟨some 14, .extract 1 (.t 12), none, []⟩, ⟨none, .store 4 (.t 4) (.t 13), none, []⟩, ⟨some 5, .mv (.t 14), none, []⟩]) ( .ret)), .pure, true, true⟩
theorem k49 : compF Try.prog { mt := false, mtAt := [], mode := .pure, clArgs := true, clRes := true } Try.f49 = some c49 := by kernel_rfl
def c50 : AFunc := ⟨23, [.cell 4 4 true, .tmp 5], .seq (.region [ ⟨some 4, .alloc [.int .i64 0, .int .i64 0, .str ⟨#[]⟩, .isl [] true], none, []⟩, ⟨some 5, .mv (.c (.bool false)), none, []⟩]) ( .seq (.seq (.region [ ⟨some 6, .mv (.t 1), none, []⟩, ⟨some 7, .iaddrS 4 (.t 6) (.c (.int .i64 1)), none, []⟩, ⟨some 8, .faddr 0 (.t 7), none, []⟩, ⟨some 9, .load 1 false (.t 8), none, []⟩, ⟨some 10, .bin .neq (.t 9) (.c (.int .i64 4)), none, []⟩]) ( .cond (.t 10) ( .seq (.region [ ⟨some 11, .build [.int .i64 0, .int .i64 0, .str ⟨#[]⟩, .isl [] true] [], none, []⟩, ⟨none, .store 4 (.t 4) (.t 11), none, []⟩, ⟨some 5, .mv (.c (.bool false)), none, []⟩]) ( .ret)) ( .skip))) ( .seq (.region [ ⟨some 12, .mv (.t 0), none, []⟩, ⟨some 13, .mv (.t 1), none, []⟩, ⟨some 14, .iaddrS 4 (.t 13) (.c (.int .i64 1)), none, []⟩, ⟨some 15, .faddr 3 (.t 14), none, []⟩, ⟨some 16, .load 1 false (.t 15), none, []⟩, ⟨some 17, .buildSl 2 1 false [.isl [] true, .isl [] true] [(0, 1, .t 12), (1, 1, .t 16)], none, []⟩, ⟨some 18, .call 61 [.t 17], none, []⟩, ⟨some 19, .call 60 [.t 18], none, []⟩, ⟨some 20, .call 44 [.t 19], none, []⟩, ⟨some 21, .extract 0 (.t 20), none, []⟩, ⟨some 22, .extract 1 (.t 20), none, []⟩, ⟨none, .store 4 (.t 4) (.t 21), none, []⟩, ⟨some 5, .mv (.t 22), none, []⟩]) ( .ret))), .pure, true, true⟩
theorem k50 : compF Try.prog { mt := false, mtAt := [], mode := .pure, clArgs := true, clRes := true } Try.f50 = some c50 := by kernel_rfl
def c51 : AFunc := ⟨11, [.cell 4 4 true, .tmp 5], .seq (.region [ ⟨some 3, .box (.t 1), none, []⟩, ⟨some 4, .alloc [.int .i64 0, .int .i64 0, .str ⟨#[]⟩, .isl [] true], none, []⟩, ⟨some 5, .mv (.c (.bool false)), none, []⟩]) ( .seq (.seq (.region [ ⟨some 6, .mv (.t 0), none, []⟩, ⟨some 7, .mkfn 63 [.t 3], none, []⟩, ⟨some 8, .call 62 [.t 6, .t 7], none, []⟩]) ( .cond (.t 8) ( .seq (.region [ ⟨some 9, .call 11 [.c (.int .i64 1)], none, []⟩, ⟨none, .store 4 (.t 4) (.t 9), none, []⟩, ⟨some 5, .mv (.c (.bool true)), none, []⟩]) ( .ret)) ( .skip))) ( .seq (.region [ ⟨some 10, .call 11 [.c (.int .i64 0)], none, []⟩, ⟨none, .store 4 (.t 4) (.t 10), none, []⟩, ⟨some 5, .mv (.c (.bool true)), none, []⟩]) ( .ret))), .pure, true, true⟩
theorem k51 : compF Try.prog { mt := false, mtAt := [], mode := .pure, clArgs := true, clRes := true } Try.f51 = some c51 := by kernel_rfl
def c52 : AFunc := ⟨9, [.cell 4 4 true, .tmp 5], .seq (.region [ ⟨some 4, .alloc [.int .i64 0, .int .i64 0, .str ⟨#[]⟩, .isl [] true], none, []⟩, ⟨some 5, .mv (.c (.bool false)), none, []⟩]) ( .seq (.region [ ⟨some 6, .mv (.t 0), none, []⟩, ⟨some 7, .len false (.t 6), none, []⟩, ⟨some 8, .call 11 [.t 7], none, []⟩, ⟨none, .store 4 (.t 4) (.t 8), none, []⟩, ⟨some 5, .mv (.c (.bool true)), none, []⟩]) ( .ret)), .pure, true, true⟩
theorem k52 : compF Try.prog { mt := false, mtAt := [], mode := .pure, clArgs := true, clRes := true } Try.f52 = some c52 := by kernel_rfl
def c53 : AFunc := ⟨4, [.tmp 2], .seq (.region [ ⟨some 1, .box (.t 0), none, []⟩, ⟨some 2, .mv (.c (.nilfunc)), none, []⟩]) ( .seq (.region [ ⟨some 3, .mkfn 64 [.t 1], none, []⟩, ⟨some 2, .mv (.t 3), none, []⟩]) ( .ret)), .pure, true, true⟩
theorem k53 : compF Try.prog { mt := false, mtAt := [], mode := .pure, clArgs := true, clRes := true } Try.f53 = some c53 := by kernel_rfl
def c54 : AFunc := ⟨13, [.cell 4 4 true, .tmp 5], .seq (.region [ ⟨some 4, .alloc [.int .i64 0, .int .i64 0, .str ⟨#[]⟩, .isl [] true], none, []⟩, ⟨some 5, .mv (.c (.bool false)), none, []⟩]) ( .seq (.seq (.region [ ⟨some 6, .mv (.t 0), none, []⟩, ⟨some 7, .len false (.t 6), none, []⟩, ⟨some 8, .bin .eql (.t 7) (.c (.int .i64 0)), none, []⟩]) ( .cond (.t 8) ( .seq (.region [ ⟨some 9, .build [.int .i64 0, .int .i64 0, .str ⟨#[]⟩, .isl [] true] [], none, []⟩, ⟨none, .store 4 (.t 4) (.t 9), none, []⟩, ⟨some 5, .mv (.c (.bool false)), none, []⟩]) ( .ret)) ( .skip))) ( .seq (.region [ ⟨some 10, .mv (.t 0), none, []⟩, ⟨some 11, .slSl 4 (.t 10) (some (.c (.int .i64 1))) none, none, []⟩, ⟨some 12, .call 60 [.t 11], none, []⟩, ⟨none, .store 4 (.t 4) (.t 12), none, []⟩, ⟨some 5, .mv (.c (.bool true)), none, []⟩]) ( .ret))), .pure, true, true⟩
theorem k54 : compF Try.prog { mt := false, mtAt := [], mode := .pure, clArgs := true, clRes := true } Try.f54 = some c54 := by kernel_rfl
def c55 : AFunc := ⟨13, [.cell 4 4 true, .tmp 5], .seq (.region [ ⟨some 4, .alloc [.int .i64 0, .int .i64 0, .str ⟨#[]⟩, .isl [] true], none, []⟩, ⟨some 5, .mv (.c (.bool false)), none, []⟩]) ( .seq (.region [ ⟨some 7, .mv (.t 0), none, []⟩, ⟨some 8, .call 60 [.t 7], none, []⟩, ⟨some 6, .alloc [.int .i64 0, .int .i64 0, .str ⟨#[]⟩, .isl [] true], none, []⟩, ⟨none, .store 4 (.t 6) (.t 8), none, []⟩]) ( .seq (.region [ ⟨some 9, .faddr 3 (.t 6), none, []⟩, ⟨some 10, .load 1 false (.t 9), none, []⟩, ⟨some 11, .call 65 [.t 10], none, []⟩]) ( .seq (.region [ ⟨some 12, .load 4 true (.t 6), none, []⟩, ⟨none, .store 4 (.t 4) (.t 12), none, []⟩, ⟨some 5, .mv (.c (.bool true)), none, []⟩]) ( .ret)))), .pure, true, true⟩
theorem k55 : compF Try.prog { mt := false, mtAt := [], mode := .pure, clArgs := true, clRes := true } Try.f55 = some c55 := by kernel_rfl
def c56 : AFunc := ⟨19, [.tmp 4], .seq (.region [ ⟨some 4, .mv (.c (.int .i64 0)), none, []⟩]) ( .seq (.seq (.region [ ⟨some 6, .mv (.t 0), none, []⟩, ⟨some 7, .len false (.t 6), none, []⟩, ⟨some 8, .mv (.c (.int .i64 0)), none, []⟩]) ( .block 0 ( .loop ( .seq (.region [ ⟨some 9, .bin .lss (.t 8) (.t 7), none, []⟩]) ( .seq (.cond (.t 9) ( .skip) ( .exit 0)) ( .seq (.block 1 ( .seq (.region [ ⟨some 10, .mv (.t 8), none, []⟩, ⟨some 5, .mv (.t 10), none, []⟩]) ( .seq (.region [ ⟨some 11, .mv (.t 1), none, []⟩, ⟨some 12, .mv (.t 0), none, []⟩, ⟨some 13, .mv (.t 5), none, []⟩, ⟨some 14, .iaddrS 4 (.t 12) (.t 13), none, []⟩, ⟨some 15, .load 4 true (.t 14), none, []⟩, ⟨some 16, .callv (.t 11) [.t 15], none, []⟩]) ( .cond (.t 16) ( .seq (.region [ ⟨some 17, .mv (.t 5), none, []⟩, ⟨some 4, .mv (.t 17), none, []⟩]) ( .ret)) ( .skip))))) ( .region [ ⟨some 18, .bin .add (.t 8) (.c (.int .i64 1)), none, []⟩, ⟨some 8, .mv (.t 18), none, []⟩]))))))) ( .seq (.region [ ⟨some 4, .mv (.c (.int .i64 (-1))), none, []⟩]) ( .ret))), .pure, true, true⟩
theorem k56 : compF Try.prog { mt := false, mtAt := [], mode := .pure, clArgs := true, clRes := true } Try.f56 = some c56 := by kernel_rfl
def c57 : AFunc := ⟨67, [.tmp 4], .seq (.region [ ⟨some 2, .box (.t 0), none, []⟩, ⟨some 3, .box (.t 1), none, []⟩, ⟨some 4, .mv (.c (.bool false)), none, []⟩]) ( .seq (.region [ ⟨some 6, .load 4 true (.t 2), none, []⟩, ⟨some 5, .alloc [.int .i64 0, .int .i64 0, .str ⟨#[]⟩, .isl [] true], none, []⟩, ⟨none, .store 4 (.t 5) (.t 6), none, []⟩]) ( .seq (.region [ ⟨some 7, .faddr 0 (.t 5), none, []⟩, ⟨none, .store 1 (.t 7) (.c (.int .i64 0)), none, []⟩]) ( .seq (.seq (.region [ ⟨some 8, .faddr 0 (.t 2), none, []⟩, ⟨some 9, .load 1 false (.t 8), none, []⟩]) ( .block 0 ( .seq (.region [ ⟨some 11, .bin .eql (.t 9) (.c (.int .i64 1)), none, []⟩, ⟨some 10, .mv (.t 11), none, []⟩]) ( .cond (.t 10) ( .seq (.region [ ⟨some 12, .faddr 1 (.t 5), none, []⟩, ⟨none, .store 1 (.t 12) (.c (.int .i64 0)), none, []⟩]) ( .seq (.region [ ⟨some 13, .load 4 true (.t 5), none, []⟩, ⟨some 14, .call 66 [.t 13], none, []⟩, ⟨some 15, .mv (.t 14), none, []⟩, ⟨some 16, .faddr 1 (.t 2), (some (15, true)), []⟩, ⟨some 17, .load 1 false (.t 16), (some (15, true)), []⟩, ⟨some 18, .bin .leq (.t 17) (.c (.int .i64 2147483647)), (some (15, true)), []⟩, ⟨some 19, .pick (.t 15) (.t 18) (.c (.bool false)), none, []⟩, ⟨some 20, .mv (.t 19), none, []⟩, ⟨some 21, .faddr 1 (.t 2), (some (20, true)), []⟩, ⟨some 22, .load 1 false (.t 21), (some (20, true)), []⟩, ⟨some 23, .bin .geq (.t 22) (.c (.int .i64 (-2147483647))), (some (20, true)), []⟩, ⟨some 24, .pick (.t 20) (.t 23) (.c (.bool false)), none, []⟩, ⟨some 4, .mv (.t 24), none, []⟩]) ( .ret))) ( .seq (.region [ ⟨some 26, .bin .eql (.t 9) (.c (.int .i64 2)), none, []⟩, ⟨some 25, .mv (.t 26), none, []⟩]) ( .cond (.t 25) ( .seq (.region [ ⟨some 27, .faddr 2 (.t 5), none, []⟩, ⟨none, .store 1 (.t 27) (.c (.str ⟨#[]⟩)), none, []⟩]) ( .seq (.region [ ⟨some 28, .load 4 true (.t 5), none, []⟩, ⟨some 29, .call 66 [.t 28], none, []⟩, ⟨some 30, .mv (.t 29), none, []⟩, ⟨some 31, .faddr 2 (.t 2), (some (30, true)), []⟩, ⟨some 32, .load 1 false (.t 31), (some (30, true)), []⟩, ⟨some 33, .call 67 [.t 32], (some (30, true)), []⟩, ⟨some 34, .pick (.t 30) (.t 33) (.c (.bool false)), none, []⟩, ⟨some 4, .mv (.t 34), none, []⟩]) ( .ret))) ( .seq (.region [ ⟨some 36, .bin .eql (.t 9) (.c (.int .i64 3)), none, []⟩, ⟨some 35, .mv (.t 36), none, []⟩]) ( .cond (.t 35) ( .seq (.region [ ⟨some 37, .faddr 2 (.t 5), none, []⟩, ⟨none, .store 1 (.t 37) (.c (.str ⟨#[]⟩)), none, []⟩]) ( .seq (.region [ ⟨some 38, .load 4 true (.t 5), none, []⟩, ⟨some 39, .call 66 [.t 38], none, []⟩, ⟨some 40, .mv (.t 39), none, []⟩, ⟨some 41, .faddr 2 (.t 2), (some (40, true)), []⟩, ⟨some 42, .load 1 false (.t 41), (some (40, true)), []⟩, ⟨some 43, .call 68 [.t 42], (some (40, true)), []⟩, ⟨some 44, .pick (.t 40) (.t 43) (.c (.bool false)), none, []⟩, ⟨some 4, .mv (.t 44), none, []⟩]) ( .ret))) ( .seq (.region [ ⟨some 46, .bin .eql (.t 9) (.c (.int .i64 4)), none, []⟩, ⟨some 45, .mv (.t 46), none, []⟩]) ( .cond (.t 45) ( .seq (.region [ ⟨some 47, .faddr 3 (.t 5), none, []⟩, ⟨none, .store 1 (.t 47) (.c (.isl [] true)), none, []⟩]) ( .seq (.region [ ⟨some 48, .load 4 true (.t 5), none, []⟩, ⟨some 49, .call 66 [.t 48], none, []⟩, ⟨some 50, .mv (.t 49), none, []⟩, ⟨some 51, .load 1 false (.t 3), (some (50, true)), []⟩, ⟨some 52, .bin .gtr (.t 51) (.c (.int .i64 0)), (some (50, true)), []⟩, ⟨some 53, .pick (.t 50) (.t 52) (.c (.bool false)), none, []⟩, ⟨some 54, .mv (.t 53), none, []⟩, ⟨some 55, .faddr 3 (.t 2), (some (54, true)), []⟩, ⟨some 56, .load 1 false (.t 55), (some (54, true)), []⟩, ⟨some 57, .len false (.t 56), (some (54, true)), []⟩, ⟨some 58, .bin .leq (.t 57) (.c (.int .i64 16)), (some (54, true)), []⟩, ⟨some 59, .pick (.t 54) (.t 58) (.c (.bool false)), none, []⟩, ⟨some 60, .mv (.t 59), none, []⟩, ⟨some 61, .faddr 3 (.t 2), (some (60, true)), []⟩, ⟨some 62, .load 1 false (.t 61), (some (60, true)), []⟩, ⟨some 63, .mkfn 69 [.t 3], (some (60, true)), []⟩, ⟨some 64, .call 40 [.t 62, .t 63], (some (60, true)), []⟩, ⟨some 65, .un .not (.t 64), (some (60, true)), []⟩, ⟨some 66, .pick (.t 60) (.t 65) (.c (.bool false)), none, []⟩, ⟨some 4, .mv (.t 66), none, []⟩]) ( .ret))) ( .skip))))))))))) ( .seq (.region [ ⟨some 4, .mv (.c (.bool false)), none, []⟩]) ( .ret))))), .pure, true, true⟩
theorem k57 : compF Try.prog { mt := false, mtAt := [], mode := .pure, clArgs := true, clRes := true } Try.f57 = some c57 := by kernel_rfl
def c58 : AFunc := ⟨6, [.tmp 2], .seq (.region [ ⟨some 2, .mv (.c (.bool false)), none, []⟩]) ( .seq (.region [ ⟨some 3, .mv (.t 0), none, []⟩, ⟨some 4, .mv (.t 0), none, []⟩, ⟨some 5, .bin .neq (.t 3) (.t 4), none, []⟩, ⟨some 2, .mv (.t 5), none, []⟩]) ( .ret)), .pure, true, true⟩
theorem k58 : compF Try.prog { mt := false, mtAt := [], mode := .pure, clArgs := true, clRes := true } Try.f58 = some c58 := by kernel_rfl
def c60 : AFunc := ⟨6, [.cell 2 4 true], .seq (.region [ ⟨some 2, .alloc [.int .i64 0, .int .i64 0, .str ⟨#[]⟩, .isl [] true], none, []⟩]) ( .seq (.region [ ⟨some 3, .mv (.t 0), none, []⟩, ⟨some 4, .call 32 [.t 3], none, []⟩, ⟨some 5, .build [.int .i64 0, .int .i64 0, .str ⟨#[]⟩, .isl [] true] [(0, 1, .c (.int .i64 4)), (3, 1, .t 4)], none, []⟩, ⟨none, .store 4 (.t 2) (.t 5), none, []⟩]) ( .ret)), .raw, true, false⟩
theorem k60 : compF Try.prog { mt := false, mtAt := [], mode := .raw, clArgs := true, clRes := false } Try.f60 = some c60 := by kernel_rfl
def c61 : AFunc := ⟨36, [.tmp 2], .seq (.region [ ⟨some 2, .mv (.c (.isl [] true)), none, []⟩]) ( .seq (.region [ ⟨some 3, .mv (.c (.int .i64 0)), none, []⟩]) ( .seq (.seq (.region [ ⟨some 9, .mv (.t 0), none, []⟩, ⟨some 10, .len false (.t 9), none, []⟩, ⟨some 11, .mv (.c (.int .i64 0)), none, []⟩]) ( .block 0 ( .loop ( .seq (.region [ ⟨some 12, .bin .lss (.t 11) (.t 10), none, []⟩]) ( .seq (.cond (.t 12) ( .skip) ( .exit 0)) ( .seq (.block 1 ( .seq (.region [ ⟨some 13, .iaddrS 1 (.t 9) (.t 11), none, []⟩, ⟨some 14, .load 1 false (.t 13), none, []⟩, ⟨some 5, .mv (.t 14), none, []⟩]) ( .seq (.region [ ⟨some 15, .mv (.t 3), none, []⟩, ⟨some 16, .mv (.t 5), none, []⟩, ⟨some 17, .len false (.t 16), none, []⟩, ⟨some 18, .bin .add (.t 15) (.t 17), none, []⟩, ⟨some 3, .mv (.t 18), none, []⟩]) ( .seq (.region [ ⟨some 19, .mv (.t 3), none, []⟩, ⟨some 20, .bin .lss (.t 19) (.c (.int .i64 0)), none, []⟩]) ( .cond (.t 20) ( .cond (.c (.nilptr)) ( .skip) ( .skip)) ( .skip)))))) ( .region [ ⟨some 22, .bin .add (.t 11) (.c (.int .i64 1)), none, []⟩, ⟨some 11, .mv (.t 22), none, []⟩]))))))) ( .seq (.region [ ⟨some 23, .mv (.t 3), none, []⟩, ⟨some 24, .call 71 [.c (.isl [] true), .t 23], none, []⟩, ⟨some 6, .mv (.t 24), none, []⟩]) ( .seq (.seq (.region [ ⟨some 25, .mv (.t 0), none, []⟩, ⟨some 26, .len false (.t 25), none, []⟩, ⟨some 27, .mv (.c (.int .i64 0)), none, []⟩]) ( .block 2 ( .loop ( .seq (.region [ ⟨some 28, .bin .lss (.t 27) (.t 26), none, []⟩]) ( .seq (.cond (.t 28) ( .skip) ( .exit 2)) ( .seq (.block 3 ( .seq (.region [ ⟨some 29, .iaddrS 1 (.t 25) (.t 27), none, []⟩, ⟨some 30, .load 1 false (.t 29), none, []⟩, ⟨some 8, .mv (.t 30), none, []⟩]) ( .region [ ⟨some 31, .mv (.t 6), none, []⟩, ⟨some 32, .mv (.t 8), none, []⟩, ⟨some 33, .append 4 true 56 false (.t 31) (.t 32), none, []⟩, ⟨some 6, .mv (.t 33), none, []⟩]))) ( .region [ ⟨some 34, .bin .add (.t 27) (.c (.int .i64 1)), none, []⟩, ⟨some 27, .mv (.t 34), none, []⟩]))))))) ( .seq (.region [ ⟨some 35, .mv (.t 6), none, []⟩, ⟨some 2, .mv (.t 35), none, []⟩]) ( .ret)))))), .pure, true, true⟩
theorem k61 : compF Try.prog { mt := false, mtAt := [], mode := .pure, clArgs := true, clRes := true } Try.f61 = some c61 := by kernel_rfl
def c62 : AFunc := ⟨9, [.tmp 4], .seq (.region [ ⟨some 4, .mv (.c (.bool false)), none, []⟩]) ( .seq (.region [ ⟨some 5, .mv (.t 0), none, []⟩, ⟨some 6, .mv (.t 1), none, []⟩, ⟨some 7, .call 72 [.t 5, .t 6], none, []⟩, ⟨some 8, .bin .geq (.t 7) (.c (.int .i64 0)), none, []⟩, ⟨some 4, .mv (.t 8), none, []⟩]) ( .ret)), .pure, true, true⟩
theorem k62 : compF Try.prog { mt := false, mtAt := [], mode := .pure, clArgs := true, clRes := true } Try.f62 = some c62 := by kernel_rfl
def c63 : AFunc := ⟨10, [.tmp 3], .seq (.region [ ⟨some 2, .box (.t 0), none, []⟩, ⟨some 3, .mv (.c (.bool false)), none, []⟩]) ( .seq (.region [ ⟨some 4, .load 4 true (.t 2), none, []⟩, ⟨some 5, .load 1 false (.t 1), none, []⟩, ⟨some 6, .iaddrS 4 (.t 5) (.c (.int .i64 1)), none, []⟩, ⟨some 7, .load 4 true (.t 6), none, []⟩, ⟨some 8, .call 37 [.t 4, .t 7], none, []⟩, ⟨some 9, .bin .eql (.t 8) (.c (.int .i64 0)), none, []⟩, ⟨some 3, .mv (.t 9), none, []⟩]) ( .ret)), .pure, true, true⟩
theorem k63 : compF Try.prog { mt := false, mtAt := [], mode := .pure, clArgs := true, clRes := true } Try.f63 = some c63 := by kernel_rfl
def c64 : AFunc := ⟨23, [.cell 5 4 true, .tmp 6], .seq (.region [ ⟨some 5, .alloc [.int .i64 0, .int .i64 0, .str ⟨#[]⟩, .isl [] true], none, []⟩, ⟨some 6, .mv (.c (.bool false)), none, []⟩]) ( .seq (.block 0 ( .seq (.region [ ⟨some 8, .mv (.t 0), none, []⟩, ⟨some 9, .len false (.t 8), none, []⟩, ⟨some 10, .bin .eql (.t 9) (.c (.int .i64 0)), none, []⟩, ⟨some 7, .mv (.t 10), none, []⟩]) ( .cond (.t 7) ( .seq (.region [ ⟨some 11, .build [.int .i64 0, .int .i64 0, .str ⟨#[]⟩, .isl [] true] [], none, []⟩, ⟨none, .store 4 (.t 5) (.t 11), none, []⟩, ⟨some 6, .mv (.c (.bool false)), none, []⟩]) ( .ret)) ( .seq (.region [ ⟨some 13, .load 1 false (.t 2), none, []⟩, ⟨some 12, .mv (.t 13), none, []⟩]) ( .cond (.t 12) ( .seq (.region [ ⟨some 14, .mv (.t 0), none, []⟩, ⟨some 15, .mv (.t 0), none, []⟩, ⟨some 16, .len false (.t 15), none, []⟩, ⟨some 17, .bin .sub (.t 16) (.c (.int .i64 1)), none, []⟩, ⟨some 18, .iaddrS 4 (.t 14) (.t 17), none, []⟩, ⟨some 19, .load 4 true (.t 18), none, []⟩, ⟨none, .store 4 (.t 5) (.t 19), none, []⟩, ⟨some 6, .mv (.c (.bool true)), none, []⟩]) ( .ret)) ( .skip)))))) ( .seq (.region [ ⟨some 20, .mv (.t 0), none, []⟩, ⟨some 21, .iaddrS 4 (.t 20) (.c (.int .i64 0)), none, []⟩, ⟨some 22, .load 4 true (.t 21), none, []⟩, ⟨none, .store 4 (.t 5) (.t 22), none, []⟩, ⟨some 6, .mv (.c (.bool true)), none, []⟩]) ( .ret))), .pure, true, true⟩
theorem k64 : compF Try.prog { mt := false, mtAt := [], mode := .pure, clArgs := true, clRes := true } Try.f64 = some c64 := by kernel_rfl
def c65 : AFunc := ⟨28, [], .seq (.region [ ⟨some 4, .mv (.t 0), none, []⟩, ⟨some 5, .len false (.t 4), none, []⟩, ⟨some 6, .bin .sub (.t 5) (.c (.int .i64 1)), none, []⟩, ⟨some 2, .mv (.c (.int .i64 0)), none, []⟩, ⟨some 3, .mv (.t 6), none, []⟩]) ( .block 0 ( .loop ( .seq (.seq (.region [ ⟨some 7, .mv (.t 2), none, []⟩, ⟨some 8, .mv (.t 3), none, []⟩, ⟨some 9, .bin .lss (.t 7) (.t 8), none, []⟩]) ( .cond (.t 9) ( .skip) ( .exit 0))) ( .seq (.block 1 ( .region [ ⟨some 14, .mv (.t 0), none, []⟩, ⟨some 15, .mv (.t 2), none, []⟩, ⟨some 16, .mv (.t 0), none, []⟩, ⟨some 17, .mv (.t 3), none, []⟩, ⟨some 18, .mv (.t 0), none, []⟩, ⟨some 19, .mv (.t 3), none, []⟩, ⟨some 20, .iaddrS 4 (.t 18) (.t 19), none, []⟩, ⟨some 21, .load 4 true (.t 20), none, []⟩, ⟨some 22, .mv (.t 0), none, []⟩, ⟨some 23, .mv (.t 2), none, []⟩, ⟨some 24, .iaddrS 4 (.t 22) (.t 23), none, []⟩, ⟨some 25, .load 4 true (.t 24), none, []⟩, ⟨some 26, .iaddrS 4 (.t 14) (.t 15), none, []⟩, ⟨none, .store 4 (.t 26) (.t 21), none, []⟩, ⟨some 27, .iaddrS 4 (.t 16) (.t 17), none, []⟩, ⟨none, .store 4 (.t 27) (.t 25), none, []⟩])) ( .region [ ⟨some 10, .mv (.t 2), none, []⟩, ⟨some 11, .bin .add (.t 10) (.c (.int .i64 1)), none, []⟩, ⟨some 12, .mv (.t 3), none, []⟩, ⟨some 13, .bin .sub (.t 12) (.c (.int .i64 1)), none, []⟩, ⟨some 2, .mv (.t 11), none, []⟩, ⟨some 3, .mv (.t 13), none, []⟩]))))), .raw, false, false⟩
theorem k65 : compF Try.prog { mt := false, mtAt := [], mode := .raw, clArgs := false, clRes := false } Try.f65 = some c65 := by kernel_rfl
def c66 : AFunc := ⟨22, [.tmp 2], .seq (.region [ ⟨some 1, .box (.t 0), none, []⟩, ⟨some 2, .mv (.c (.bool false)), none, []⟩]) ( .seq (.region [ ⟨some 3, .faddr 0 (.t 1), none, []⟩, ⟨some 4, .load 1 false (.t 3), none, []⟩, ⟨some 5, .bin .eql (.t 4) (.c (.int .i64 0)), none, []⟩, ⟨some 6, .mv (.t 5), none, []⟩, ⟨some 7, .faddr 1 (.t 1), (some (6, true)), []⟩, ⟨some 8, .load 1 false (.t 7), (some (6, true)), []⟩, ⟨some 9, .bin .eql (.t 8) (.c (.int .i64 0)), (some (6, true)), []⟩, ⟨some 10, .pick (.t 6) (.t 9) (.c (.bool false)), none, []⟩, ⟨some 11, .mv (.t 10), none, []⟩, ⟨some 12, .faddr 2 (.t 1), (some (11, true)), []⟩, ⟨some 13, .load 1 false (.t 12), (some (11, true)), []⟩, ⟨some 14, .bin .eql (.t 13) (.c (.str ⟨#[]⟩)), (some (11, true)), []⟩, ⟨some 15, .pick (.t 11) (.t 14) (.c (.bool false)), none, []⟩, ⟨some 16, .mv (.t 15), none, []⟩, ⟨some 17, .faddr 3 (.t 1), (some (16, true)), []⟩, ⟨some 18, .load 1 false (.t 17), (some (16, true)), []⟩, ⟨some 19, .len false (.t 18), (some (16, true)), []⟩, ⟨some 20, .bin .eql (.t 19) (.c (.int .i64 0)), (some (16, true)), []⟩, ⟨some 21, .pick (.t 16) (.t 20) (.c (.bool false)), none, []⟩, ⟨some 2, .mv (.t 21), none, []⟩]) ( .ret)), .pure, true, true⟩
theorem k66 : compF Try.prog { mt := false, mtAt := [], mode := .pure, clArgs := true, clRes := true } Try.f66 = some c66 := by kernel_rfl
def c67 : AFunc := ⟨27, [.tmp 2], .seq (.region [ ⟨some 2, .mv (.c (.bool false)), none, []⟩]) ( .seq (.seq (.region [ ⟨some 5, .mv (.t 0), none, []⟩, ⟨some 6, .rng (.t 5), none, []⟩]) ( .block 0 ( .loop ( .seq (.region [ ⟨some 7, .nxt (.t 6), none, []⟩, ⟨some 8, .extract 0 (.t 7), none, []⟩]) ( .seq (.cond (.t 8) ( .skip) ( .exit 0)) ( .block 1 ( .seq (.region [ ⟨some 9, .extract 2 (.t 7), none, []⟩, ⟨some 4, .mv (.t 9), none, []⟩]) ( .seq (.region [ ⟨some 10, .mv (.t 4), none, []⟩, ⟨some 11, .bin .lss (.t 10) (.c (.int .i32 32)), none, []⟩, ⟨some 12, .mv (.t 11), none, []⟩, ⟨some 13, .mv (.t 4), (some (12, false)), []⟩, ⟨some 14, .bin .gtr (.t 13) (.c (.int .i32 126)), (some (12, false)), []⟩, ⟨some 15, .pick (.t 12) (.c (.bool true)) (.t 14), none, []⟩, ⟨some 16, .mv (.t 15), none, []⟩, ⟨some 17, .mv (.t 4), (some (16, false)), []⟩, ⟨some 18, .bin .eql (.t 17) (.c (.int .i32 34)), (some (16, false)), []⟩, ⟨some 19, .pick (.t 16) (.c (.bool true)) (.t 18), none, []⟩, ⟨some 20, .mv (.t 19), none, []⟩, ⟨some 21, .mv (.t 4), (some (20, false)), []⟩, ⟨some 22, .bin .eql (.t 21) (.c (.int .i32 92)), (some (20, false)), []⟩, ⟨some 23, .pick (.t 20) (.c (.bool true)) (.t 22), none, []⟩]) ( .cond (.t 23) ( .seq (.region [ ⟨some 2, .mv (.c (.bool false)), none, []⟩]) ( .ret)) ( .skip)))))))))) ( .seq (.region [ ⟨some 24, .mv (.t 0), none, []⟩, ⟨some 25, .len true (.t 24), none, []⟩, ⟨some 26, .bin .leq (.t 25) (.c (.int .i64 32)), none, []⟩, ⟨some 2, .mv (.t 26), none, []⟩]) ( .ret))), .pure, true, true⟩
theorem k67 : compF Try.prog { mt := false, mtAt := [], mode := .pure, clArgs := true, clRes := true } Try.f67 = some c67 := by kernel_rfl
def c68 : AFunc := ⟨43, [.tmp 2], .seq (.region [ ⟨some 2, .mv (.c (.bool false)), none, []⟩]) ( .seq (.seq (.region [ ⟨some 6, .mv (.t 0), none, []⟩, ⟨some 7, .rng (.t 6), none, []⟩]) ( .block 0 ( .loop ( .seq (.region [ ⟨some 8, .nxt (.t 7), none, []⟩, ⟨some 9, .extract 0 (.t 8), none, []⟩]) ( .seq (.cond (.t 9) ( .skip) ( .exit 0)) ( .block 1 ( .seq (.region [ ⟨some 10, .extract 1 (.t 8), none, []⟩, ⟨some 11, .extract 2 (.t 8), none, []⟩, ⟨some 3, .mv (.t 10), none, []⟩, ⟨some 4, .mv (.t 11), none, []⟩]) ( .seq (.region [ ⟨some 12, .mv (.t 4), none, []⟩, ⟨some 13, .bin .geq (.t 12) (.c (.int .i32 97)), none, []⟩, ⟨some 14, .mv (.t 13), none, []⟩, ⟨some 15, .mv (.t 4), (some (14, true)), []⟩, ⟨some 16, .bin .leq (.t 15) (.c (.int .i32 122)), (some (14, true)), []⟩, ⟨some 17, .pick (.t 14) (.t 16) (.c (.bool false)), none, []⟩, ⟨some 5, .mv (.t 17), none, []⟩]) ( .seq (.region [ ⟨some 18, .mv (.t 5), none, []⟩, ⟨some 19, .un .not (.t 18), none, []⟩, ⟨some 20, .mv (.t 19), none, []⟩, ⟨some 21, .mv (.t 3), (some (20, true)), []⟩, ⟨some 22, .bin .eql (.t 21) (.c (.int .i64 0)), (some (20, true)), []⟩, ⟨some 23, .mv (.t 22), (some (20, true)), []⟩, ⟨some 24, .mv (.t 4), (some (23, false)), []⟩, ⟨some 25, .bin .neq (.t 24) (.c (.int .i32 95)), (some (23, false)), []⟩, ⟨some 26, .mv (.t 25), (some (23, false)), []⟩, ⟨some 27, .mv (.t 4), (some (26, true)), []⟩, ⟨some 28, .bin .lss (.t 27) (.c (.int .i32 48)), (some (26, true)), []⟩, ⟨some 29, .mv (.t 28), (some (26, true)), []⟩, ⟨some 30, .mv (.t 4), (some (29, false)), []⟩, ⟨some 31, .bin .gtr (.t 30) (.c (.int .i32 57)), (some (29, false)), []⟩, ⟨some 32, .pick (.t 29) (.c (.bool true)) (.t 31), (some (26, true)), []⟩, ⟨some 33, .pick (.t 26) (.t 32) (.c (.bool false)), (some (23, false)), []⟩, ⟨some 34, .pick (.t 23) (.c (.bool true)) (.t 33), (some (20, true)), []⟩, ⟨some 35, .pick (.t 20) (.t 34) (.c (.bool false)), none, []⟩]) ( .cond (.t 35) ( .seq (.region [ ⟨some 2, .mv (.c (.bool false)), none, []⟩]) ( .ret)) ( .skip))))))))))) ( .seq (.region [ ⟨some 36, .mv (.t 0), none, []⟩, ⟨some 37, .bin .neq (.t 36) (.c (.str ⟨#[]⟩)), none, []⟩, ⟨some 38, .mv (.t 37), none, []⟩, ⟨some 39, .mv (.t 0), (some (38, true)), []⟩, ⟨some 40, .len true (.t 39), (some (38, true)), []⟩, ⟨some 41, .bin .leq (.t 40) (.c (.int .i64 16)), (some (38, true)), []⟩, ⟨some 42, .pick (.t 38) (.t 41) (.c (.bool false)), none, []⟩, ⟨some 2, .mv (.t 42), none, []⟩]) ( .ret))), .pure, true, true⟩
theorem k68 : compF Try.prog { mt := false, mtAt := [], mode := .pure, clArgs := true, clRes := true } Try.f68 = some c68 := by kernel_rfl
def c69 : AFunc := ⟨9, [.tmp 3], .seq (.region [ ⟨some 2, .box (.t 0), none, []⟩, ⟨some 3, .mv (.c (.bool false)), none, []⟩]) ( .seq (.region [ ⟨some 4, .load 4 true (.t 2), none, []⟩, ⟨some 5, .load 1 false (.t 1), none, []⟩, ⟨some 6, .bin .sub (.t 5) (.c (.int .i64 1)), none, []⟩, ⟨some 7, .call 57 [.t 4, .t 6], none, []⟩, ⟨some 8, .un .not (.t 7), none, []⟩, ⟨some 3, .mv (.t 8), none, []⟩]) ( .ret)), .pure, true, true⟩
theorem k69 : compF Try.prog { mt := false, mtAt := [], mode := .pure, clArgs := true, clRes := true } Try.f69 = some c69 := by kernel_rfl
def c72 : AFunc := ⟨19, [.tmp 4], .seq (.region [ ⟨some 4, .mv (.c (.int .i64 0)), none, []⟩]) ( .seq (.seq (.region [ ⟨some 6, .mv (.t 0), none, []⟩, ⟨some 7, .len false (.t 6), none, []⟩, ⟨some 8, .mv (.c (.int .i64 0)), none, []⟩]) ( .block 0 ( .loop ( .seq (.region [ ⟨some 9, .bin .lss (.t 8) (.t 7), none, []⟩]) ( .seq (.cond (.t 9) ( .skip) ( .exit 0)) ( .seq (.block 1 ( .seq (.region [ ⟨some 10, .mv (.t 8), none, []⟩, ⟨some 5, .mv (.t 10), none, []⟩]) ( .seq (.region [ ⟨some 11, .mv (.t 1), none, []⟩, ⟨some 12, .mv (.t 0), none, []⟩, ⟨some 13, .mv (.t 5), none, []⟩, ⟨some 14, .iaddrS 4 (.t 12) (.t 13), none, []⟩, ⟨some 15, .load 4 true (.t 14), none, []⟩, ⟨some 16, .callv (.t 11) [.t 15], none, []⟩]) ( .cond (.t 16) ( .seq (.region [ ⟨some 17, .mv (.t 5), none, []⟩, ⟨some 4, .mv (.t 17), none, []⟩]) ( .ret)) ( .skip))))) ( .region [ ⟨some 18, .bin .add (.t 8) (.c (.int .i64 1)), none, []⟩, ⟨some 8, .mv (.t 18), none, []⟩]))))))) ( .seq (.region [ ⟨some 4, .mv (.c (.int .i64 (-1))), none, []⟩]) ( .ret))), .pure, true, true⟩
theorem k72 : compF Try.prog { mt := false, mtAt := [], mode := .pure, clArgs := true, clRes := true } Try.f72 = some c72 := by kernel_rfl
def x24 : AFunc := ⟨8, [.tmp 2],
  .seq (.region [
    ⟨(some 2), .mv (.c (.isl [] true)), none, []⟩]) (
  .seq (.seq (.region [
    ⟨(some 3), .mv (.t 0), none, []⟩,
    ⟨(some 4), .eqnil false (.t 3), none, []⟩]) (
  .cond (.t 4) (
    .seq (.region [
      ⟨(some 2), .mv (.c (.isl [] true)), none, []⟩]) (
    .ret)) (
    .skip))) (
  .seq (.region [
    ⟨(some 5), .buildSl 0 5 true [] [], none, []⟩,
    ⟨(some 6), .mv (.t 0), none, []⟩,
    ⟨(some 7), .append 5 true 72 true (.t 5) (.t 6), none, []⟩,
    ⟨(some 2), .mv (.t 7), none, []⟩]) (
  .ret))),
  .raw, false, false⟩
theorem kx24 : compF Try.prog { mt := true, mtAt := [], mode := .raw, clArgs := false, clRes := false } Try.f24 = some x24 := by kernel_rfl
def x32 : AFunc := ⟨8, [.tmp 2],
  .seq (.region [
    ⟨(some 2), .mv (.c (.isl [] true)), none, []⟩]) (
  .seq (.seq (.region [
    ⟨(some 3), .mv (.t 0), none, []⟩,
    ⟨(some 4), .eqnil false (.t 3), none, []⟩]) (
  .cond (.t 4) (
    .seq (.region [
      ⟨(some 2), .mv (.c (.isl [] true)), none, []⟩]) (
    .ret)) (
    .skip))) (
  .seq (.region [
    ⟨(some 5), .buildSl 0 4 true [] [], none, []⟩,
    ⟨(some 6), .mv (.t 0), none, []⟩,
    ⟨(some 7), .append 4 true 56 true (.t 5) (.t 6), none, []⟩,
    ⟨(some 2), .mv (.t 7), none, []⟩]) (
  .ret))),
  .raw, false, false⟩
theorem kx32 : compF Try.prog { mt := true, mtAt := [], mode := .raw, clArgs := false, clRes := false } Try.f32 = some x32 := by kernel_rfl
noncomputable def fns : List (Nat × AFunc) := [(3, c3), (4, c4), (5, c5), (6, c6), (7, c7), (8, c8), (9, c9), (10, c10), (11, c11), (12, c12), (13, c13), (14, c14), (15, c15), (16, c16), (17, c17), (18, c18), (19, c19), (20, c20), (21, c21), (22, c22), (23, c23), (25, c25), (26, c26), (27, c27), (28, c28), (29, c29), (30, c30), (31, c31), (33, c33), (34, c34), (35, c35), (36, c36), (37, c37), (38, c38), (39, c39), (40, c40), (41, c41), (42, c42), (43, c43), (44, c44), (45, c45), (46, c46), (47, c47), (48, c48), (49, c49), (50, c50), (51, c51), (52, c52), (53, c53), (54, c54), (55, c55), (56, c56), (57, c57), (58, c58), (60, c60), (61, c61), (62, c62), (63, c63), (64, c64), (65, c65), (66, c66), (67, c67), (68, c68), (69, c69), (72, c72)]
set_option maxRecDepth 100000 in
theorem fns_ok : ∀ p ∈ fns, ∃ fn pol, Try.prog.funcs[p.1]? = some fn ∧ compF Try.prog pol fn = some p.2 := by
  simp only [fns, List.forall_mem_cons]
  exact ⟨⟨_, _, Try.func3, k3⟩, ⟨_, _, Try.func4, k4⟩, ⟨_, _, Try.func5, k5⟩, ⟨_, _, Try.func6, k6⟩, ⟨_, _, Try.func7, k7⟩, ⟨_, _, Try.func8, k8⟩, ⟨_, _, Try.func9, k9⟩, ⟨_, _, Try.func10, k10⟩, ⟨_, _, Try.func11, k11⟩, ⟨_, _, Try.func12, k12⟩, ⟨_, _, Try.func13, k13⟩, ⟨_, _, Try.func14, k14⟩, ⟨_, _, Try.func15, k15⟩, ⟨_, _, Try.func16, k16⟩, ⟨_, _, Try.func17, k17⟩, ⟨_, _, Try.func18, k18⟩, ⟨_, _, Try.func19, k19⟩, ⟨_, _, Try.func20, k20⟩, ⟨_, _, Try.func21, k21⟩, ⟨_, _, Try.func22, k22⟩, ⟨_, _, Try.func23, k23⟩, ⟨_, _, Try.func25, k25⟩, ⟨_, _, Try.func26, k26⟩, ⟨_, _, Try.func27, k27⟩, ⟨_, _, Try.func28, k28⟩, ⟨_, _, Try.func29, k29⟩, ⟨_, _, Try.func30, k30⟩, ⟨_, _, Try.func31, k31⟩, ⟨_, _, Try.func33, k33⟩, ⟨_, _, Try.func34, k34⟩, ⟨_, _, Try.func35, k35⟩, ⟨_, _, Try.func36, k36⟩, ⟨_, _, Try.func37, k37⟩, ⟨_, _, Try.func38, k38⟩, ⟨_, _, Try.func39, k39⟩, ⟨_, _, Try.func40, k40⟩, ⟨_, _, Try.func41, k41⟩, ⟨_, _, Try.func42, k42⟩, ⟨_, _, Try.func43, k43⟩, ⟨_, _, Try.func44, k44⟩, ⟨_, _, Try.func45, k45⟩, ⟨_, _, Try.func46, k46⟩, ⟨_, _, Try.func47, k47⟩, ⟨_, _, Try.func48, k48⟩, ⟨_, _, Try.func49, k49⟩, ⟨_, _, Try.func50, k50⟩, ⟨_, _, Try.func51, k51⟩, ⟨_, _, Try.func52, k52⟩, ⟨_, _, Try.func53, k53⟩, ⟨_, _, Try.func54, k54⟩, ⟨_, _, Try.func55, k55⟩, ⟨_, _, Try.func56, k56⟩, ⟨_, _, Try.func57, k57⟩, ⟨_, _, Try.func58, k58⟩, ⟨_, _, Try.func60, k60⟩, ⟨_, _, Try.func61, k61⟩, ⟨_, _, Try.func62, k62⟩, ⟨_, _, Try.func63, k63⟩, ⟨_, _, Try.func64, k64⟩, ⟨_, _, Try.func65, k65⟩, ⟨_, _, Try.func66, k66⟩, ⟨_, _, Try.func67, k67⟩, ⟨_, _, Try.func68, k68⟩, ⟨_, _, Try.func69, k69⟩, ⟨_, _, Try.func72, k72⟩, fun _ h => by cases h⟩
def r8 : Nat × ACode × ACode := (20, .region [
    ⟨(some 4), .mv (.t 9), none, []⟩], .block 1 (
    .seq (.region [
      ⟨(some 10), .load 1 false (.t 3), none, []⟩,
      ⟨(some 11), .mv (.t 4), none, []⟩,
      ⟨(some 12), .mlook false [2] (.bool false) false (.t 10) (.t 11), none, []⟩,
      ⟨(some 13), .un .not (.t 12), none, []⟩]) (
    .cond (.t 13) (
      .seq (.region [
        ⟨(some 14), .load 1 false (.t 3), none, []⟩,
        ⟨(some 15), .mv (.t 4), none, []⟩,
        ⟨none, .mset false [2] (.t 14) (.t 15) (.c (.bool true)), none, []⟩]) (
      .region [
        ⟨(some 16), .load 1 false (.t 2), none, []⟩,
        ⟨(some 17), .mv (.t 4), none, []⟩,
        ⟨(some 18), .buildSl 1 1 false [.str ⟨#[]⟩] [(0, 1, .t 17)], none, []⟩,
        ⟨(some 19), .append 1 false 16 false (.t 16) (.t 18), none, []⟩,
        ⟨none, .store 1 (.t 2) (.t 19), none, []⟩])) (
      .skip))))
theorem kr8 : ∃ mt, compC Try.prog mt r8.1 (rcOf Try.f8).assign = some r8.2.1 ∧ compC Try.prog mt r8.1 (rcOf Try.f8).body = some r8.2.2 ∧ noRf r8.2.1 = true ∧ noRf r8.2.2 = true := ⟨({ mt := false, mtAt := [], mode := .pure, clArgs := true, clRes := true } : Pol).mtOf, by kernel_rfl, by kernel_rfl, rfl, rfl⟩
open Classical in
noncomputable def rds (rc : RCode) : Option (Nat × ACode × ACode) := if rc = rcOf Try.f8 then some r8 else none
theorem rds_ok : ∀ rc nt a b, rds rc = some (nt, a, b) → ∃ mt, compC Try.prog mt nt rc.assign = some a ∧ compC Try.prog mt nt rc.body = some b ∧ noRf a = true ∧ noRf b = true := by
  intro rc nt a b h
  unfold rds at h
  split at h
  · rename_i e; subst e; injection h with h; have k := kr8; rw [h] at k; exact k
  cases h
end Go.Proofs.Ytddmjmkbnfoodaa
end
section
namespace Go.Proofs.Ytddmjmkbnfoodaa
open Go.RowKit Go.Mach
set_option maxHeartbeats 1000000 in
set_option maxRecDepth 100000 in
theorem cmp_calls (a b : ByteArray) (w : World) :
    Calls Try.prog 59 #[.string a, .string b] w fun e w' => e = .returned (.int .i64 (Lib.compareBytes a.data.toList b.data.toList)) ∧ w' = w := by
  go_enter Try.func59, Try.ntmps59
  go_wp2
  rw [run_callFunc_extern Try.func70 (by kernel_rfl) (by kernel_rfl) (by kernel_rfl) (e := Extern.BytealgCompare.compare) (by kernel_rfl), Lib.run_compareString]
  simp only [Result.andThen]
  rw [Oper.upon_value]
  go_wp2
  go_ret
  exact ⟨rfl, rfl⟩
def cmpP (args : List AV) (_ : Nat) (σ : Heap) : Option (AV × Heap) := match args with
  | [.str a, .str b] => some (.int .i64 (Lib.compareBytes a.data.toList b.data.toList), σ)
  | _ => none
theorem args1 {g : Gh} {x : AV} {cargs : Array Value} (hA : Args g [x] cargs) : ∃ c, cargs = #[c] ∧ VR g x c := by
  have h0 := hA.len
  match hcl : cargs.toList, (show cargs.toList.length = 1 by simpa using h0.symm) with
  | [c], _ => exact ⟨c, by rw [← Array.toArray_toList (xs := cargs), hcl], hA.val 0 _ c rfl (by rw [← Array.getElem?_toList, hcl]; rfl)⟩
theorem args2 {g : Gh} {x y : AV} {cargs : Array Value} (hA : Args g [x, y] cargs) : ∃ c d, cargs = #[c, d] ∧ VR g x c ∧ VR g y d := by
  have h0 := hA.len
  match hcl : cargs.toList, (show cargs.toList.length = 2 by simpa using h0.symm) with
  | [c, d], _ =>
    exact ⟨c, d, by rw [← Array.toArray_toList (xs := cargs), hcl], hA.val 0 _ c rfl (by rw [← Array.getElem?_toList, hcl]; rfl), hA.val 1 _ d rfl (by rw [← Array.getElem?_toList, hcl]; rfl)⟩
theorem cmp_ok : PrimOK Try.prog 59 cmpP := by
  intro args bs σ v σ' h hbs
  unfold cmpP at h
  split at h
  · rename_i a b
    injection h with h; injection h with e1 e2; subst e1 e2
    refine ⟨⟨_, Try.func59, by kernel_rfl, by kernel_rfl⟩, fun g ow w cargs hH hA => ?_⟩
    obtain ⟨c, d, rfl, hx, hy⟩ := args2 hA
    rw [hx.strv, hy.strv]
    refine (cmp_calls a b w).mono ?_
    rintro e w' ⟨rfl, rfl⟩
    exact ⟨_, g, ow, rfl, .int _ _, hH, .refl ..⟩
  · cases h
set_option maxHeartbeats 1000000 in
set_option maxRecDepth 100000 in
theorem grow_calls (a : Option Addr) (n : Int) (h0 : 0 < n) (hn : n ≤ 1000000000) (w : World) :
    Calls Try.prog 71 #[.slice a 0 0, .int .i64 n] w fun e w' => ∃ c cv tag, e = .returned (.slice (some ⟨w.heap.size, 0, none⟩) 0 c) ∧
      w'.heap = w.heap.push (.cells cv tag (0, 0)) ∧ Same w w' ∧ c * 4 ≤ cv.size := by
  have hb : Try.t24.bytes = 56 := by rfl
  have hg : Builtin.nextslicecap n.toNat 0 = n.toNat := nextslicecap_zero (by omega)
  go_enter Try.func71, Try.ntmps71
  cases a
  all_goals (
    go_wp2
    all_goals first
      | (exfalso; simp only [hb, hg] at *; omega)
      | skip
    go_ret
    refine ⟨_, rfl, _, ⟨_, rfl⟩, ⟨rfl, rfl, rfl⟩, ?_⟩
    simp [Builtin.zeroCells, Question.cut]
    omega)
set_option maxRecDepth 100000 in
theorem grow_none (a : Option Addr) (w : World) :
    Calls Try.prog 71 #[.slice a 0 0, .int .i64 0] w fun e w' => e = .returned (.slice a 0 0) ∧ w' = w := by
  go_enter Try.func71, Try.ntmps71
  go_wp2
  go_ret
  exact ⟨rfl, rfl⟩
def growP (args : List AV) (_ : Nat) (σ : Heap) : Option (AV × Heap) := match args with
  | [.isl [] true, .int .i64 n] => if 0 < n ∧ n ≤ 1000000000 then some (.own σ.length [], σ ++ [.tok 0 4]) else if n = 0 then some (.isl [] true, σ) else none
  | _ => none
theorem grow_ok : PrimOK Try.prog 71 growP := by
  intro args bs σ v σ' h hbs
  unfold growP at h
  split at h
  · rename_i n
    refine ⟨⟨_, Try.func71, by kernel_rfl, by kernel_rfl⟩, fun g ow w cargs hH hA => ?_⟩
    obtain ⟨c, d, rfl, hx, hy⟩ := args2 hA
    have hy : d = .int .i64 n := by cases hy; rfl
    obtain ⟨ad, hc⟩ : ∃ ad, c = .slice ad 0 0 := by
      cases hx with
      | @isl _ _ ad c0 _ _ _ vs hc hs ha hcap hn hM hV => have := hcap rfl; simp at this; subst this; exact ⟨_, rfl⟩
    subst hc hy
    split at h
    · rename_i hn
      injection h with h; injection h with e1 e2; subst e1 e2
      refine (grow_calls ad n hn.1 hn.2 w).mono ?_
      rintro e w' ⟨c, cv, tag, rfl, hw, hs, hc⟩
      obtain ⟨hle, hH', hS⟩ := hH.tokNew (bs := bs) (n := 0) (s := 4) (c := c) hw hs (.inl ⟨rfl, rfl⟩) hc (Nat.zero_le _)
      refine ⟨_, _, _, rfl, own_VR (es := []) (s := 4) (by simp) (by omega) ?_ (Nat.zero_le _) (by simp [flat]), hH', hS⟩
      simp [Gh.tk]
    · split at h
      · rename_i h0; subst h0
        injection h with h; injection h with e1 e2; subst e1 e2
        refine (grow_none ad w).mono ?_
        rintro e w' ⟨rfl, rfl⟩
        exact ⟨_, g, ow, rfl, hx, hH, .refl ..⟩
      · cases h
  · cases h
theorem eq_nil {P : Program} {t e : TypeId} (ht : P.underlying t = some (.slice e)) (a : Option Addr) (c : Nat) (w : World) : Sem.run P (binOp .eql t (.slice a 0 c) (.slice none 0 0)) w = .ok (.bool a.isNone) w := by
  have heq : (Op.equal t (.slice a 0 c) (.slice none 0 0)).run P w = .ok a.isNone w := by
    have hd : ∀ d, (Op.equalIn (d + 1) t (.slice a 0 c) (.slice none 0 0)).run P w = .ok a.isNone w := fun d => by cases a <;> simp [Op.equalIn, run_und ht]
    exact hd 9999
  simp [binOp, heq]
set_option maxRecDepth 100000 in
set_option maxHeartbeats 1000000 in
theorem cloneV_nil (a : Option Addr) (c : Nat) (w : World) :
    Calls Try.prog 32 #[.slice a 0 c] w fun e w' => ∃ a', e = .returned (.slice a' 0 0) ∧ Same w w' ∧ w.heap.size ≤ w'.heap.size ∧ ∀ b, b < w.heap.size → w'.heap[b]? = w.heap[b]? := by
  go_enter Try.func32, Try.ntmps32
  have hu : Try.prog.underlying 22 = some (.slice 24) := by kernel_rfl
  cases a with
  | none =>
    have hb : ∀ w, Sem.run Try.prog (binOp .eql 22 (.slice none 0 c) (.slice none 0 0)) w = .ok (.bool true) w := fun w => eq_nil hu none c w
    go_wp2
    go_ret
    exact ⟨_, rfl, ⟨rfl, rfl, rfl⟩, Nat.le_refl _, fun _ _ => rfl⟩
  | some a =>
    have hb : ∀ w, Sem.run Try.prog (binOp .eql 22 (.slice (some a) 0 c) (.slice none 0 0)) w = .ok (.bool false) w := fun w => eq_nil hu (some a) c w
    go_wp2
    go_ret
    have hal : ∀ o, (w.alloc o).heap = w.heap.push o := fun _ => rfl
    exact ⟨_, rfl, ⟨rfl, rfl, rfl⟩, by rw [hal, Array.size_push]; exact Nat.le_succ _, fun b hb => by rw [hal, Array.getElem?_push, if_neg (Nat.ne_of_lt hb)]⟩
set_option maxRecDepth 100000 in
set_option maxHeartbeats 1000000 in
theorem cloneB_nil (a : Option Addr) (c : Nat) (w : World) :
    Calls Try.prog 24 #[.slice a 0 c] w fun e w' => ∃ a', e = .returned (.slice a' 0 0) ∧ Same w w' ∧ w.heap.size ≤ w'.heap.size ∧ ∀ b, b < w.heap.size → w'.heap[b]? = w.heap[b]? := by
  go_enter Try.func24, Try.ntmps24
  have hu : Try.prog.underlying 28 = some (.slice 35) := by kernel_rfl
  cases a with
  | none =>
    have hb : ∀ w, Sem.run Try.prog (binOp .eql 28 (.slice none 0 c) (.slice none 0 0)) w = .ok (.bool true) w := fun w => eq_nil hu none c w
    go_wp2
    go_ret
    exact ⟨_, rfl, ⟨rfl, rfl, rfl⟩, Nat.le_refl _, fun _ _ => rfl⟩
  | some a =>
    have hb : ∀ w, Sem.run Try.prog (binOp .eql 28 (.slice (some a) 0 c) (.slice none 0 0)) w = .ok (.bool false) w := fun w => eq_nil hu (some a) c w
    go_wp2
    go_ret
    have hal : ∀ o, (w.alloc o).heap = w.heap.push o := fun _ => rfl
    exact ⟨_, rfl, ⟨rfl, rfl, rfl⟩, by rw [hal, Array.size_push]; exact Nat.le_succ _, fun b hb => by rw [hal, Array.getElem?_push, if_neg (Nat.ne_of_lt hb)]⟩
end Go.Proofs.Ytddmjmkbnfoodaa
end
section
namespace Go.Proofs.Ytddmjmkbnfoodaa
open Go.RowKit Go.Mach
def TV : Tab := ⟨fun f => if f = 32 then some x32 else none, fun _ => none, fun _ => none⟩
theorem TV_ok : TabOK Try.prog TV where
  mixed := by kernel_rfl
  fn f af h := by
    simp only [TV] at h
    split at h
    · rename_i e; injection h with h; subst h e; exact ⟨_, _, Try.func32, kx32⟩
    · cases h
  pr f p h := by cases h
  yn := ⟨rfl, by decide⟩
theorem cloneV_run (es : List AV) (c : Bool) (bs : Nat) (σ : Heap) (hne : es ≠ []) (hf : (flat es).length = es.length * 4) (hl : es.length ≤ 10000000000) :
    evalFn TV 3 32 [.isl es c] bs σ = some (.sl (σ.length + 1) 0 es.length 4 true, σ ++ [.cells [] 0 false, .cells (flat es) 0 true]) := by
  have hnn : notNil (.isl es c) = true := by cases es with
    | nil => exact absurd rfl hne
    | cons x l => rfl
  have he0 : elemsA (σ ++ [.cells [] 0 false]) 4 true (.sl σ.length 0 0 4 true) = some [] := by
    simp [elemsA, window, chunk]
  have he1 : elemsN (σ ++ [.cells [] 0 false]) 4 true (.isl es c) = some es := rfl
  have hap : appendA (σ ++ [.cells [] 0 false]) 4 true 56 true (.sl σ.length 0 0 4 true) (.isl es c) = some (.sl (σ.length + 1) 0 es.length 4 true, σ ++ [.cells [] 0 false, .cells (flat es) 0 true]) := by
    have h1 : ¬ ((4 : Nat) = 0 ∨ (0 + es.length) * 56 > 70368744177664 ∨ 0 + es.length > 70368744177664) := by omega
    simp only [appendA, he0, he1, Option.bind_some, isSl, if_neg hne, List.length_nil, if_neg h1]
    simp [hf]
    simp [flat]
  simp [evalFn, TV, x32, exec, runOps, startA, stepAll, stepOp, ev, hnn, onNormal, finA, resA, res1, closeRes, closeArgs, dropA, baseA, guardA, chkO, setDst, fillA, hap]
def cloneVP (args : List AV) (bs : Nat) (σ : Heap) : Option (AV × Heap) := match args with
  | [.isl es c] => if es = [] then some (.isl [] true, σ) else if (flat es).length = es.length * 4 ∧ es.length ≤ 10000000000 then some (.sl (σ.length + 1) 0 es.length 4 true, σ ++ [.cells [] 0 false, .cells (flat es) 0 true]) else none
  | _ => none
theorem cloneV_ok : PrimOK Try.prog 32 cloneVP := by
  intro args bs σ v σ' h hbs
  unfold cloneVP at h
  split at h
  · rename_i es c
    split at h
    · rename_i he; subst he
      injection h with h; injection h with e1 e2; subst e1 e2
      refine ⟨⟨_, Try.func32, by kernel_rfl, by kernel_rfl⟩, fun g ow w cargs hH hA => ?_⟩
      obtain ⟨cc, rfl, hx⟩ := args1 hA
      obtain ⟨ad, cap, rfl⟩ : ∃ ad cap, cc = .slice ad 0 cap := by
        cases hx with
        | @isl _ _ ad c0 _ _ _ vs hc hs ha hcap hn hM hV => exact ⟨_, _, rfl⟩
      refine (cloneV_nil ad cap w).mono ?_
      rintro e w' ⟨a', rfl, hs, hsz, hheap⟩
      obtain ⟨h1, h2⟩ := hH.more (bs := bs) hsz hheap hs.os hs.tape hs.output
      exact ⟨_, g, ow, rfl, isl_VR (es := []) (b := 0) (p := 0) (s := 1) (a := a') (c := 0) (by simp) (by omega) (.inl rfl) (fun _ => rfl) (Nat.zero_le _) (by simp [flat]), h1, h2⟩
    · rename_i hne
      split at h
      · rename_i hc
        injection h with h; injection h with e1 e2; subst e1 e2
        exact (eval_sound TV_ok 3).fn _ _ _ _ _ _ (by decide) (cloneV_run es c bs σ hne hc.1 hc.2) hbs
      · cases h
  · cases h
def TB : Tab := ⟨fun f => if f = 24 then some x24 else none, fun _ => none, fun _ => none⟩
theorem TB_ok : TabOK Try.prog TB where
  mixed := by kernel_rfl
  fn f af h := by
    simp only [TB] at h
    split at h
    · rename_i e; injection h with h; subst h e; exact ⟨_, _, Try.func24, kx24⟩
    · cases h
  pr f p h := by cases h
  yn := ⟨rfl, by decide⟩
theorem cloneB_run (es : List AV) (c : Bool) (bs : Nat) (σ : Heap) (hne : es ≠ []) (hf : (flat es).length = es.length * 5) (hl : es.length ≤ 10000000000) :
    evalFn TB 3 24 [.isl es c] bs σ = some (.sl (σ.length + 1) 0 es.length 5 true, σ ++ [.cells [] 0 false, .cells (flat es) 0 true]) := by
  have hnn : notNil (.isl es c) = true := by cases es with
    | nil => exact absurd rfl hne
    | cons x l => rfl
  have he0 : elemsA (σ ++ [.cells [] 0 false]) 5 true (.sl σ.length 0 0 5 true) = some [] := by
    simp [elemsA, window, chunk]
  have he1 : elemsN (σ ++ [.cells [] 0 false]) 5 true (.isl es c) = some es := rfl
  have hap : appendA (σ ++ [.cells [] 0 false]) 5 true 72 true (.sl σ.length 0 0 5 true) (.isl es c) = some (.sl (σ.length + 1) 0 es.length 5 true, σ ++ [.cells [] 0 false, .cells (flat es) 0 true]) := by
    have h1 : ¬ ((5 : Nat) = 0 ∨ (0 + es.length) * 72 > 70368744177664 ∨ 0 + es.length > 70368744177664) := by omega
    simp only [appendA, he0, he1, Option.bind_some, isSl, if_neg hne, List.length_nil, if_neg h1]
    simp [hf]
    simp [flat]
  simp [evalFn, TB, x24, exec, runOps, startA, stepAll, stepOp, ev, hnn, onNormal, finA, resA, res1, closeRes, closeArgs, dropA, baseA, guardA, chkO, setDst, fillA, hap]
def cloneBP (args : List AV) (bs : Nat) (σ : Heap) : Option (AV × Heap) := match args with
  | [.isl es c] => if es = [] then some (.isl [] true, σ) else if (flat es).length = es.length * 5 ∧ es.length ≤ 10000000000 then some (.sl (σ.length + 1) 0 es.length 5 true, σ ++ [.cells [] 0 false, .cells (flat es) 0 true]) else none
  | _ => none
theorem cloneB_ok : PrimOK Try.prog 24 cloneBP := by
  intro args bs σ v σ' h hbs
  unfold cloneBP at h
  split at h
  · rename_i es c
    split at h
    · rename_i he; subst he
      injection h with h; injection h with e1 e2; subst e1 e2
      refine ⟨⟨_, Try.func24, by kernel_rfl, by kernel_rfl⟩, fun g ow w cargs hH hA => ?_⟩
      obtain ⟨cc, rfl, hx⟩ := args1 hA
      obtain ⟨ad, cap, rfl⟩ : ∃ ad cap, cc = .slice ad 0 cap := by
        cases hx with
        | @isl _ _ ad c0 _ _ _ vs hc hs ha hcap hn hM hV => exact ⟨_, _, rfl⟩
      refine (cloneB_nil ad cap w).mono ?_
      rintro e w' ⟨a', rfl, hs, hsz, hheap⟩
      obtain ⟨h1, h2⟩ := hH.more (bs := bs) hsz hheap hs.os hs.tape hs.output
      exact ⟨_, g, ow, rfl, isl_VR (es := []) (b := 0) (p := 0) (s := 1) (a := a') (c := 0) (by simp) (by omega) (.inl rfl) (fun _ => rfl) (Nat.zero_le _) (by simp [flat]), h1, h2⟩
    · rename_i hne
      split at h
      · rename_i hc
        injection h with h; injection h with e1 e2; subst e1 e2
        exact (eval_sound TB_ok 3).fn _ _ _ _ _ _ (by decide) (cloneB_run es c bs σ hne hc.1 hc.2) hbs
      · cases h
  · cases h
end Go.Proofs.Ytddmjmkbnfoodaa
end
section
namespace Go.Proofs.Ytddmjmkbnfoodaa
open Go.RowKit Go.Mach
end Go.Proofs.Ytddmjmkbnfoodaa
end
section
namespace Go.Proofs.Ytddmjmkbnfoodaa
open Go.RowKit Go.Mach
end Go.Proofs.Ytddmjmkbnfoodaa
end
section
namespace Go.Proofs.Ytddmjmkbnfoodaa
open Go.Mach
def prims : List (Nat × (List AV → Nat → Heap → Option (AV × Heap))) := [
  (59, cmpP),
  (71, growP),
  (32, cloneVP),
  (24, cloneBP),
  (1000000, fun _ _ _ => none)]
noncomputable def T : Tab := ⟨fun f => (fns.find? (·.1 == f)).map (·.2), fun f => (prims.find? (·.1 == f)).map (·.2), rds⟩
theorem prims_ok : ∀ p ∈ prims, PrimOK Try.prog p.1 p.2 := by
  simp only [prims, List.forall_mem_cons]
  exact ⟨
    cmp_ok,
    grow_ok,
    cloneV_ok,
    cloneB_ok,
    (fun _ _ _ _ _ h => by cases h), fun _ h => by cases h⟩
theorem T_ok : TabOK Try.prog T where
  mixed := by kernel_rfl
  fn f af h := by
    obtain ⟨p, hp, rfl⟩ := Option.map_eq_some_iff.1 h
    have h1 := List.find?_some hp
    have h2 := fns_ok p (List.mem_of_find?_eq_some hp)
    have : p.1 = f := by simpa using h1
    rw [← this]; exact h2
  pr f p h := by
    obtain ⟨q, hq, rfl⟩ := Option.map_eq_some_iff.1 h
    have h1 := List.find?_some hq
    have h2 := prims_ok q (List.mem_of_find?_eq_some hq)
    have : q.1 = f := by simpa using h1
    rw [← this]; exact h2
  yn := ⟨by kernel_rfl, by kernel_rfl⟩
  rd := rds_ok
theorem callN_T (f : Nat) (args : List AV) (bs : Nat) (σ : Heap) (h : headYld args = false) : callN (callT T) f args bs σ = callT T f args bs σ := by
  unfold callN
  split
  · rename_i e; subst e
    rw [callT_yld T bs σ T_ok.yn.1 T_ok.yn.2]
    unfold roundA
    split
    · cases h
    · rfl
  · rfl
attribute [simp] callN_T
end Go.Proofs.Ytddmjmkbnfoodaa
end
section
namespace Go.Mach
inductive GV where
  | mk (kind num : Int) (text : ByteArray) (items : List GV)
  deriving Inhabited
namespace GV
abbrev kind : GV → Int | .mk k _ _ _ => k
abbrev num : GV → Int | .mk _ n _ _ => n
abbrev text : GV → ByteArray | .mk _ _ t _ => t
abbrev items : GV → List GV | .mk _ _ _ l => l
mutual
def enc : GV → AV
  | .mk k n t l => .agg [.int .i64 k, .int .i64 n, .str t, .isl (encs l) false]
def encs : List GV → List AV
  | [] => []
  | v :: l => enc v :: encs l
end
theorem encs_map : ∀ l : List GV, encs l = l.map enc
  | [] => rfl
  | v :: l => by simp only [encs, List.map_cons, encs_map l]
@[simp] theorem encs_length (l : List GV) : (encs l).length = l.length := by simp [encs_map]
@[simp] theorem encs_get (l : List GV) (i : Nat) : (encs l)[i]? = l[i]?.map enc := by simp [encs_map]
@[simp] theorem encs_getE (l : List GV) (i : Nat) (h : i < (encs l).length) : (encs l)[i] = (l[i]'(by simpa using h)).enc := by simp [encs_map]
theorem enc_eq (v : GV) : v.enc = .agg [.int .i64 v.kind, .int .i64 v.num, .str v.text, .isl (encs v.items) false] := by cases v; simp only [enc, kind, num, text, items]
@[simp] theorem enc_fold (v : GV) : AV.agg [.int .i64 v.kind, .int .i64 v.num, .str v.text, .isl (encs v.items) false] = v.enc := (enc_eq v).symm
@[simp] theorem enc_cells (v : GV) : v.enc.cells = [.int .i64 v.kind, .int .i64 v.num, .str v.text, .isl (encs v.items) false] := by rw [enc_eq]; rfl
@[simp] theorem enc_solid (v : GV) : v.enc.solid = true := by rw [enc_eq]; rfl
@[simp] theorem enc_head (v : GV) (xs : List AV) : headYld (v.enc :: xs) = false := by rw [enc_eq]; rfl
@[simp] theorem enc_clean (v : GV) : v.enc.clean = true := by rw [enc_eq]; rfl
@[simp] theorem enc_closeA (σ : Heap) (v : GV) : closeA σ v.enc = some (v.enc, σ) := (clean_close (by simp)).1
@[simp] theorem enc_closeR (σ : Heap) (v : GV) : closeR σ v.enc = some (v.enc, σ) := by rw [enc_eq]; rfl
@[simp] theorem enc_datR (v : GV) : v.enc.datR = true := by rw [enc_eq]; rfl
@[simp] theorem enc_dat1 (v : GV) : v.enc.clo1 = false := by rw [enc_eq]; rfl
@[simp] theorem enc_dat (v : GV) : v.enc.dat = true := by rw [enc_eq]; rfl
@[simp] theorem enc_clo (v : GV) : v.enc.clo = true := by rw [enc_eq]; rfl
def i64ok (n : Int) : Prop := -9223372036854775808 ≤ n ∧ n ≤ 9223372036854775807
mutual
def ok : GV → Prop
  | .mk k n _ l => i64ok k ∧ i64ok n ∧ oks l
def oks : List GV → Prop
  | [] => True
  | v :: l => ok v ∧ oks l
end
theorem oks_iff : ∀ l : List GV, oks l ↔ ∀ v ∈ l, ok v
  | [] => by simp [oks]
  | v :: l => by simp [oks, oks_iff l]
mutual
def size : GV → Nat
  | .mk _ _ t l => t.size + sizes l + 5
def sizes : List GV → Nat
  | [] => 0
  | v :: l => size v + sizes l
end
mutual
theorem bulk_enc : ∀ v : GV, bulkA v.enc = v.size
  | .mk k n t l => by
    have h := bulk_encs l
    simp only [enc, bulkA, bulkAs, size, h]; omega
theorem bulk_encs : ∀ l : List GV, bulkAs (encs l) = sizes l
  | [] => by simp [encs, bulkAs, sizes]
  | v :: l => by
    have h1 := bulk_enc v
    have h2 := bulk_encs l
    simp only [encs, bulkAs, sizes, h1, h2]
end
end GV
structure IsV (P : Program) (tV tL tI tS : TypeId) : Prop where
  fs : ∃ fs : Array Field, P.underlying tV = some (.struct fs) ∧ fs.toList.map (·.type) = [tI, tI, tS, tL]
  int : P.underlying tI = some (.int .i64)
  str : P.underlying tS = some .string
  list : P.underlying tL = some (.slice tV)
theorem field_ty {P : Program} {fs : Array Field} {ts : List TypeId} (h : fs.toList.map (·.type) = ts) {vs : List AV} (hv : ∀ (i : Nat) f x, fs.toList[i]? = some f → vs[i]? = some x → TyA P f.type x) {i : Nat} {t : TypeId} {x : AV} (ht : ts[i]? = some t) (hx : vs[i]? = some x) : TyA P t x := by
  rw [← h, List.getElem?_map] at ht
  obtain ⟨f, hf, rfl⟩ := Option.map_eq_some_iff.1 ht
  exact hv i f x hf hx
theorem TyA.asValue {P : Program} {tV tL tI tS : TypeId} (hV : IsV P tV tL tI tS) {t : TypeId} {x : AV} (h : TyA P t x) : (t = tV → ∃ v : GV, x = v.enc ∧ v.ok) ∧ (t = tL → ∃ l : List GV, x = .isl (GV.encs l) false ∧ GV.oks l) := by
  have e1 : IntKind.i64.min = -9223372036854775808 := by decide
  have e2 : IntKind.i64.max = 9223372036854775807 := by decide
  obtain ⟨fs0, hf0, hts⟩ := hV.fs
  induction h with
  | bool hu b => exact ⟨fun e => (by subst e; rw [hf0] at hu; cases hu), fun e => by subst e; rw [hV.list] at hu; cases hu⟩
  | int hu n hn => exact ⟨fun e => (by subst e; rw [hf0] at hu; cases hu), fun e => by subst e; rw [hV.list] at hu; cases hu⟩
  | str hu s => exact ⟨fun e => (by subst e; rw [hf0] at hu; cases hu), fun e => by subst e; rw [hV.list] at hu; cases hu⟩
  | array hu hl hv => exact ⟨fun e => (by subst e; rw [hf0] at hu; cases hu), fun e => by subst e; rw [hV.list] at hu; cases hu⟩
  | @slice t e es hu hes ih =>
    refine ⟨fun e' => (by subst e'; rw [hf0] at hu; cases hu), fun e' => ?_⟩
    subst e'; rw [hV.list] at hu; injection hu with hu; injection hu with hu; subst hu
    have : ∀ l : List AV, (∀ y ∈ l, ∃ v : GV, y = v.enc ∧ v.ok) → ∃ l' : List GV, l = GV.encs l' ∧ GV.oks l' := by
      intro l
      induction l with
      | nil => intro _; exact ⟨[], rfl, trivial⟩
      | cons y l ihl =>
        intro h
        obtain ⟨v, rfl, hv⟩ := h y (by simp)
        obtain ⟨l', rfl, hl'⟩ := ihl fun z hz => h z (by simp [hz])
        exact ⟨v :: l', rfl, hv, hl'⟩
    obtain ⟨l', rfl, hl'⟩ := this es fun y hy => (ih y hy).1 rfl
    exact ⟨l', rfl, hl'⟩
  | @struct t fs vs hu hl hv ih =>
    refine ⟨fun e' => ?_, fun e' => by subst e'; rw [hV.list] at hu; cases hu⟩
    subst e'; rw [hf0] at hu; injection hu with hu; injection hu with hu; subst hu
    have hlen : vs.length = 4 := by rw [hl, ← List.length_map (f := (·.type)), hts]; rfl
    match vs, hlen with
    | [x0, x1, x2, x3], _ =>
      obtain ⟨k, rfl, k1, k2⟩ := (field_ty hts hv (i := 0) rfl rfl).asInt hV.int
      obtain ⟨n, rfl, n1, n2⟩ := (field_ty hts hv (i := 1) rfl rfl).asInt hV.int
      obtain ⟨s, rfl⟩ := (field_ty hts hv (i := 2) rfl rfl).asStr hV.str
      have h3 : fs0.toList[3]?.map (·.type) = some tL := by rw [← List.getElem?_map, hts]; rfl
      obtain ⟨f3, hf3, hft⟩ := Option.map_eq_some_iff.1 h3
      obtain ⟨l, rfl, hok⟩ := (ih 3 f3 x3 hf3 rfl).2 hft
      rw [e1] at k1 n1; rw [e2] at k2 n2
      refine ⟨.mk k n s l, by simp [GV.enc, flat], ⟨⟨k1, k2⟩, ⟨n1, n2⟩, hok⟩⟩
end Go.Mach
end
section
namespace Go.Mach
@[simp] theorem hp_get0 (σ l : List AObj) : (σ ++ l)[σ.length]? = l[0]? := by rw [List.getElem?_append_right (Nat.le_refl _)]; simp
@[simp] theorem hp_get (σ l : List AObj) (k : Nat) : (σ ++ l)[σ.length + k]? = l[k]? := by rw [List.getElem?_append_right (by omega)]; simp
@[simp] theorem hp_set0 (σ l : List AObj) (x : AObj) : (σ ++ l).set σ.length x = σ ++ l.set 0 x := by rw [List.set_append_right _ _ (Nat.le_refl _)]; simp
@[simp] theorem hp_set (σ l : List AObj) (k : Nat) (x : AObj) : (σ ++ l).set (σ.length + k) x = σ ++ l.set k x := by rw [List.set_append_right _ _ (by omega)]; simp
end Go.Mach
namespace Go.Proofs.Ytddmjmkbnfoodaa
open Go.Mach
def cmpI (a b : Int) : Int := if a < b then -1 else if b < a then 1 else 0
mutual
def cmpV : GV → GV → Int
  | .mk k n t l, b => if cmpI k b.kind ≠ 0 then cmpI k b.kind else if k = 1 then cmpI n b.num else if k = 2 ∨ k = 3 then Lib.compareBytes t.data.toList b.text.data.toList else if k = 4 then cmpVs l b.items else 0
def cmpVs : List GV → List GV → Int
  | [], [] => 0
  | [], _ :: _ => -1
  | _ :: _, [] => 1
  | x :: xs, y :: ys => if cmpV x y ≠ 0 then cmpV x y else cmpVs xs ys
end
theorem cmp68 (a b : Int) : pureT T c45 [.int .i64 a, .int .i64 b] = some (.int .i64 (cmpI a b)) := by
  have h76 : ∀ (n : Int) bs σ, callT T 58 [.int .i64 n] bs σ = some (.bool false, σ) := fun n bs σ => call_clean rfl rfl rfl rfl (by
    apply pure_enter (by simp [c58])
    simp [c58])
  apply pure_enter (by simp [c45])
  by_cases h1 : a < b
  · simp [c45, h76, h1, cmpI]
  · by_cases h2 : b < a
    · simp [c45, h76, h1, h2, cmpI]
    · simp [c45, h76, h1, h2, cmpI]
theorem call68 (a b : Int) (bs : Nat) (σ : Heap) : callT T 45 [.int .i64 a, .int .i64 b] bs σ = some (.int .i64 (cmpI a b), σ) := call_clean rfl rfl rfl rfl (cmp68 a b)
theorem call73 (a b : ByteArray) (bs : Nat) (σ : Heap) : callT T 59 [.str a, .str b] bs σ = some (.int .i64 (Lib.compareBytes a.data.toList b.data.toList), σ) := callT_pr (p := cmpP) _ _ _ rfl _
theorem call56 (a b : ByteArray) (bs : Nat) (σ : Heap) : callT T 46 [.str a, .str b] bs σ = some (.int .i64 (Lib.compareBytes a.data.toList b.data.toList), σ) := call_clean rfl rfl rfl rfl (by
  apply pure_enter (by simp [c46])
  simp [c46, call73])
theorem cmpVs_nil (l : List GV) : cmpVs [] l = if l = [] then 0 else -1 := by cases l <;> simp [cmpVs]
theorem cmpFunc (l l2 : List GV) (hn : l.length ≤ 100000000000) (h : ∀ x ∈ l, ∀ y ∈ l2, ∀ bs σ, callT T 37 [x.enc, y.enc] bs σ = some (.int .i64 (cmpV x y), σ)) :
    pureT T c47 [.isl (GV.encs l) false, .isl (GV.encs l2) false, .func 37 []] = some (.int .i64 (cmpVs l l2)) := by
  apply pure_enter (by simp [c47])
  simp [c47]
  refine W_upto T 0 39 l.length (fun i f σ => f 11 = .isl (GV.encs l) false ∧ f 12 = .int .i64 (l.length : Int) ∧ f 13 = .int .i64 (i : Int) ∧ f 0 = .isl (GV.encs l) false ∧ f 1 = .isl (GV.encs l2) false ∧ f 2 = .func 37 [] ∧ i ≤ l2.length ∧ cmpVs l l2 = cmpVs (l.drop i) (l2.drop i)) ?_ _ _ ?_
  · rintro i f σ Q' hi ⟨h11, h12, h13, h0, h1, h2, hi2, hcmp⟩ hnx hx
    by_cases hlt : i < l.length
    · by_cases hlt2 : i < l2.length
      · have e1 : l[i]? = some l[i] := List.getElem?_eq_getElem hlt
        have e2 : l2[i]? = some l2[i] := List.getElem?_eq_getElem hlt2
        have hc := h l[i] (List.getElem_mem hlt) l2[i] (List.getElem_mem hlt2)
        have hd : l.drop i = l[i] :: l.drop (i + 1) := (List.drop_eq_getElem_cons hlt)
        have hd2 : l2.drop i = l2[i] :: l2.drop (i + 1) := (List.drop_eq_getElem_cons hlt2)
        by_cases hz : cmpV l[i] l2[i] = 0
        · simp [h11, h12, h13, h0, h1, h2, hlt, hlt2, Nat.not_le.2 hlt2, hc, hz]
          refine hnx _ _ hlt ⟨by simp [h11], by simp [h12], ?_, by simp [h0], by simp [h1], by simp [h2], hlt2, ?_⟩
          · simp; rw [wr64 (by omega) (by omega)]
          · rw [hcmp, hd, hd2, cmpVs]; simp [hz]
        · simp [h11, h12, h13, h0, h1, h2, hlt, hlt2, Nat.not_le.2 hlt2, hc, hz]
          refine hx _ _ _ (by simp) (contQ_ret T 0 39 ?_)
          rw [hcmp, hd, hd2, cmpVs]; simp [hz]
      · have e1 : l[i]? = some l[i] := List.getElem?_eq_getElem hlt
        have hd : l.drop i = l[i] :: l.drop (i + 1) := (List.drop_eq_getElem_cons hlt)
        have hd2 : l2.drop i = [] := List.drop_eq_nil_of_le (by omega)
        simp [h11, h12, h13, h0, h1, h2, hlt, Nat.not_lt.1 hlt2]
        refine hx _ _ _ (by simp) (contQ_ret T 0 39 ?_)
        rw [hcmp, hd, hd2, cmpVs]; simp
    · have he : i = l.length := by omega
      subst he
      simp [h12, h13]
      refine hx _ _ _ (by simp) (contQ_exit T 0 39 ?_)
      have hd : l.drop l.length = [] := List.drop_length
      rw [hcmp, hd, cmpVs_nil]
      by_cases hlt2 : l.length < l2.length
      · have hne : l2.drop l.length ≠ [] := by simp; omega
        simp [h0, h1, hlt2, hne]
      · have hne : l2.drop l.length = [] := by simp; omega
        simp [h0, h1, hlt2, hne]
  · simp
theorem sizes_mem {l : List GV} {x : GV} (h : x ∈ l) : x.size + 5 ≤ GV.sizes l + 5 ∧ l.length ≤ GV.sizes l := by
  induction l with
  | nil => cases h
  | cons y l ih =>
    have hy : 5 ≤ y.size := by cases y; simp [GV.size]
    rcases List.mem_cons.1 h with rfl | h
    · refine ⟨by simp [GV.sizes], ?_⟩
      have : ∀ l : List GV, l.length ≤ GV.sizes l := fun l => by
        induction l with
        | nil => simp [GV.sizes]
        | cons z l ih => have : 5 ≤ z.size := (by cases z; simp [GV.size]); simp [GV.sizes]; omega
      have := this l
      simp [GV.sizes]; omega
    · obtain ⟨h1, h2⟩ := ih h
      simp [GV.sizes]; omega
theorem len_sizes (l : List GV) : l.length ≤ GV.sizes l := by
  cases l with
  | nil => simp
  | cons x l => exact (sizes_mem (List.mem_cons_self (a := x) (l := l))).2
theorem cmp58 : ∀ (n : Nat) (a b : GV), a.size ≤ n → n ≤ 100000000000 → pureT T c37 [a.enc, b.enc] = some (.int .i64 (cmpV a b)) := by
  intro n
  induction n with
  | zero => intro a b h; cases a; simp [GV.size] at h
  | succ n ih =>
    intro a b hs hn
    obtain ⟨k, num, t, l⟩ := a
    obtain ⟨k2, num2, t2, l2⟩ := b
    have hl : GV.sizes l ≤ n := by simp [GV.size] at hs; omega
    have hcall : ∀ x ∈ l, ∀ y ∈ l2, ∀ bs σ, callT T 37 [x.enc, y.enc] bs σ = some (.int .i64 (cmpV x y), σ) := fun x hx y _ bs σ =>
      call_clean rfl rfl rfl (by simp) (ih x y (by have := (sizes_mem hx).1; omega) (by omega))
    have hf : ∀ bs σ, callT T 47 [.isl (GV.encs l) false, .isl (GV.encs l2) false, .func 37 []] bs σ = some (.int .i64 (cmpVs l l2), σ) := fun bs σ =>
      call_clean rfl rfl rfl rfl (cmpFunc l l2 (by have := len_sizes l; omega) hcall)
    apply pure_enter (by simp [c37])
    by_cases h0 : cmpI k k2 = 0
    · by_cases h1 : k = 1
      · subst h1; simp [c37, GV.enc_eq, GV.kind, GV.num, GV.text, GV.items, call68, h0, cmpV]
      · by_cases h2 : k = 2
        · subst h2; simp [c37, GV.enc_eq, GV.kind, GV.num, GV.text, GV.items, call68, call56, h0, cmpV]
        · by_cases h3 : k = 3
          · subst h3; simp [c37, GV.enc_eq, GV.kind, GV.num, GV.text, GV.items, call68, call56, h0, cmpV]
          · by_cases h4 : k = 4
            · subst h4; simp [c37, GV.enc_eq, GV.kind, GV.num, GV.text, GV.items, call68, hf, h0, cmpV]
            · simp [c37, GV.enc_eq, GV.kind, GV.num, GV.text, GV.items, call68, h0, h1, h2, h3, h4, cmpV]
    · simp [c37, GV.enc_eq, GV.kind, GV.num, GV.text, GV.items, call68, h0, cmpV]
end Go.Proofs.Ytddmjmkbnfoodaa
end
section
namespace Go.Proofs.Ytddmjmkbnfoodaa
open Go.Mach
def plainB (c : Nat) : Bool := decide (32 ≤ c) && decide (c ≤ 126) && !decide (c = 34) && !decide (c = 92)
def textOK (t : ByteArray) : Bool := t.data.toList.all (fun c => plainB c.toNat) && decide (t.size ≤ 32)
def letterB (c : Nat) : Bool := decide (97 ≤ c) && decide (c ≤ 122)
def innerB (c : Nat) : Bool := letterB c || decide (c = 95) || (decide (48 ≤ c) && decide (c ≤ 57))
def nameL : List UInt8 → Bool
  | [] => false
  | c :: l => letterB c.toNat && l.all (fun c => innerB c.toNat)
def nameOK (t : ByteArray) : Bool := nameL t.data.toList && decide (t.size ≤ 16)
def rightB (v : GV) (lst : Bool) : Bool :=
  if v.kind = 1 then decide (v.text = ⟨#[]⟩ ∧ v.items = [] ∧ v.num ≤ 2147483647 ∧ -2147483647 ≤ v.num)
  else if v.kind = 2 then decide (v.num = 0 ∧ v.items = [] ∧ textOK v.text = true)
  else if v.kind = 3 then decide (v.num = 0 ∧ v.items = [] ∧ nameOK v.text = true)
  else if v.kind = 4 then decide (v.num = 0 ∧ v.text = ⟨#[]⟩ ∧ lst = true)
  else false
def rightV : Nat → GV → Bool
  | 0, v => rightB v false
  | d + 1, v => rightB v (decide (v.items.length ≤ 16 ∧ v.items.all (rightV d) = true))
def bt (s : ByteArray) (i : Nat) : Nat := ((s.data.toList[i]?).getD 0).toNat
theorem bt_eq {s : ByteArray} {i : Nat} (h : i < s.size) : bt s i = (s.data.toList[i]'(by simpa using h)).toNat := by
  simp only [bt]; rw [List.getElem?_eq_getElem (by simpa using h)]; rfl
theorem all_bt (s : ByteArray) (p : Nat → Bool) : s.data.toList.all (fun c => p c.toNat) = true ↔ ∀ i, i < s.size → p (bt s i) = true := by
  rw [List.all_eq_true]
  constructor
  · intro h i hi
    rw [bt_eq hi]; exact h _ (List.getElem_mem _)
  · intro h c hc
    obtain ⟨i, hi, rfl⟩ := List.getElem_of_mem hc
    have hi' : i < s.size := by simpa using hi
    have := h i hi'
    rwa [bt_eq hi'] at this
theorem ba_empty (t : ByteArray) : t = ByteArray.empty ↔ t.size = 0 := ⟨fun h => by rw [h]; rfl, fun h => ByteArray.ext (Array.eq_empty_of_size_eq_zero h)⟩
theorem ba_nil (t : ByteArray) : t = ⟨#[]⟩ ↔ t.size = 0 := ⟨fun h => by rw [h]; rfl, fun h => ByteArray.ext (Array.eq_empty_of_size_eq_zero h)⟩
theorem ba_get {s : ByteArray} {i : Nat} (h : i < s.size) : s[i]'h = s.data.toList[i]'(by simpa using h) := by
  cases s; rfl
theorem dec_lo {s : ByteArray} {i : Nat} (h : i < s.size) (ha : bt s i < 128) : Utf8.decode s i = (bt s i, 1) := by
  rw [bt_eq h] at ha ⊢
  have := decode_ascii s i h (by rw [ba_get h]; exact ha)
  rw [this, ba_get h]
theorem dec_hi {s : ByteArray} {i : Nat} (h : i < s.size) (ha : 128 ≤ bt s i) : 128 ≤ (Utf8.decode s i).1 := by
  rw [bt_eq h] at ha
  exact (decode_high s i h (by rw [ba_get h]; exact ha)).1
theorem textOK_iff (t : ByteArray) : textOK t = true ↔ (∀ i, i < t.size → plainB (bt t i) = true) ∧ t.size ≤ 32 := by
  rw [textOK, Bool.and_eq_true, all_bt t plainB, decide_eq_true_eq]
theorem textOK_no {t : ByteArray} {i : Nat} (h : i < t.size) (hp : plainB (bt t i) = false) : textOK t = false := by
  rw [Bool.eq_false_iff, Ne, textOK_iff]; intro hh; rw [hh.1 i h] at hp; cases hp
theorem plain_ok (t : ByteArray) (ht : t.size ≤ 100000000000) : pureT T c67 [.str t] = some (.bool (textOK t)) := by
  apply pure_enter (by simp [c67])
  simp [c67]
  refine W_for T 0 27 t.size (fun i f σ => f 0 = .str t ∧ f 6 = .ptr 0 0 ∧ σ = [.iter t i] ∧ ∀ j, j < i → plainB (bt t j) = true) ?_ _ _ ?_
  · rintro i f σ hi ⟨h0, h6, rfl, hall⟩
    by_cases hlt : i < t.size
    · by_cases hlo : bt t i < 128
      · simp [h0, h6, hlt, dec_lo hlt hlo]
        have hno := @textOK_no t i hlt
        refine ⟨fun h => hno (by simp [plainB]; omega), fun h => ⟨fun h => hno (by simp [plainB]; omega), fun h => ⟨fun h => hno (by simp [plainB]; omega), fun h => ⟨fun h => hno (by simp [plainB]; omega), fun h j hj => ?_⟩⟩⟩⟩
        by_cases e : j = i
        · subst e; simp [plainB]; omega
        · exact hall j (by omega)
      · have := dec_hi hlt (by omega)
        simp [h0, h6, hlt]
        have hno := @textOK_no t i hlt
        refine ⟨fun h => by omega, fun h => ⟨fun h => hno (by simp [plainB]; omega), fun h => by omega⟩⟩
    · have he : i = t.size := by omega
      subst he
      simp [h0, h6]
      refine ⟨fun h => ?_, fun h => ?_⟩
      · exact (textOK_iff t).2 ⟨fun i hi => hall i hi, by omega⟩
      · refine Bool.eq_false_iff.2 fun hh => ?_
        have := ((textOK_iff t).1 hh).2
        omega
  · simp
def nameG (s : ByteArray) (i : Nat) : Bool := if i = 0 then letterB (bt s i) else innerB (bt s i)
theorem nameG_iff (s : ByteArray) (i : Nat) : nameG s i = true ↔ (97 ≤ bt s i ∧ bt s i ≤ 122) ∨ (i ≠ 0 ∧ (bt s i = 95 ∨ (48 ≤ bt s i ∧ bt s i ≤ 57))) := by
  unfold nameG
  split
  · simp [letterB]; omega
  · simp [letterB, innerB]; omega
theorem nameOK_iff (t : ByteArray) : nameOK t = true ↔ (∀ i, i < t.size → nameG t i = true) ∧ t.size ≠ 0 ∧ t.size ≤ 16 := by
  have hs : t.data.toList.length = t.size := by simp
  simp only [nameOK, Bool.and_eq_true, decide_eq_true_eq]
  match hl : t.data.toList with
  | [] =>
    rw [hl] at hs; simp at hs
    simp only [nameL, Bool.false_eq_true, false_and, false_iff]; omega
  | c :: l =>
    rw [hl] at hs; simp at hs
    have hb : ∀ i, bt t i = (((c :: l)[i]?).getD 0).toNat := fun i => by simp only [bt, hl]
    simp only [nameL, Bool.and_eq_true, List.all_eq_true]
    constructor
    · rintro ⟨⟨h1, h2⟩, h3⟩
      refine ⟨fun i hi => ?_, by omega, h3⟩
      unfold nameG
      cases i with
      | zero => simp [hb, h1]
      | succ i =>
        have hi' : i < l.length := by omega
        simp [hb, List.getElem?_eq_getElem hi', h2 l[i] (List.getElem_mem hi')]
    · rintro ⟨h1, h2, h3⟩
      refine ⟨⟨?_, fun x hx => ?_⟩, h3⟩
      · have := h1 0 (by omega)
        simpa [nameG, hb] using this
      · obtain ⟨i, hi, rfl⟩ := List.getElem_of_mem hx
        have := h1 (i + 1) (by omega)
        simpa [nameG, hb, List.getElem?_eq_getElem hi] using this
theorem nameOK_no {t : ByteArray} {i : Nat} (h : i < t.size) (hp : ¬ ((97 ≤ bt t i ∧ bt t i ≤ 122) ∨ (i ≠ 0 ∧ (bt t i = 95 ∨ (48 ≤ bt t i ∧ bt t i ≤ 57))))) : nameOK t = false := by
  rw [← nameG_iff] at hp
  rw [Bool.eq_false_iff, Ne, nameOK_iff]; intro hh; exact hp (hh.1 i h)
theorem name_ok (t : ByteArray) (ht : t.size ≤ 100000000000) : pureT T c68 [.str t] = some (.bool (nameOK t)) := by
  apply pure_enter (by simp [c68])
  simp [c68]
  refine W_for T 0 43 t.size (fun i f σ => f 0 = .str t ∧ f 7 = .ptr 0 0 ∧ σ = [.iter t i] ∧ ∀ j, j < i → nameG t j = true) ?_ _ _ ?_
  · rintro i f σ hi ⟨h0, h6, rfl, hall⟩
    by_cases hlt : i < t.size
    · have hno := @nameOK_no t i hlt
      have hyes : _ → ∀ j, j < i + 1 → nameG t j = true := fun h j hj => by
        by_cases e : j = i
        · subst e; exact (nameG_iff t j).2 h
        · exact hall j (by omega)
      by_cases hlo : bt t i < 128
      · simp [h0, h6, hlt, dec_lo hlt hlo]
        repeat' (first | apply And.intro | intro _)
        all_goals first | exact hno (by omega) | exact hyes (by omega) _ (by assumption)
      · have := dec_hi hlt (by omega)
        simp [h0, h6, hlt]
        repeat' (first | apply And.intro | intro _)
        all_goals first | exact hno (by omega) | omega
    · have he : i = t.size := by omega
      subst he
      have hb : (nameOK t = true) ↔ t.size ≠ 0 ∧ t.size ≤ 16 := by rw [nameOK_iff]; exact ⟨fun h => h.2, fun h => ⟨fun i hi => hall i hi, h⟩⟩
      simp [h0, h6, ba_empty, ba_nil, -ByteArray.size_eq_zero_iff]
      refine ⟨fun h => ⟨fun h2 => hb.2 ⟨h, by omega⟩, fun h2 => ?_⟩, fun h => ?_⟩
      all_goals (refine Bool.eq_false_iff.2 fun hh => ?_; have := hb.1 hh; omega)
  · simp
theorem empty_ok (k n : Int) (t : ByteArray) (es : List AV) : pureT T c66 [.agg [.int .i64 k, .int .i64 n, .str t, .isl es false]] = some (.bool (decide (k = 0) && decide (n = 0) && decide (t = ⟨#[]⟩) && decide (es = []))) := by
  apply pure_enter (by simp [c66])
  simp [c66]
  repeat' (first | apply And.intro | intro _)
  all_goals simp_all
theorem call_empty (k n : Int) (t : ByteArray) (es : List AV) (c : Bool) (bs : Nat) (σ : Heap) : callT T 66 [.agg [.int .i64 k, .int .i64 n, .str t, .isl es c]] bs σ = some (.bool (sym (decide (k = 0) && decide (n = 0) && decide (t = ⟨#[]⟩) && decide (es = []))), σ) :=
  call_scal rfl rfl rfl (empty_ok k n t es) rfl rfl rfl
def idxI (p : GV → Bool) (l : List GV) : Int := match l.findIdx? p with
  | some i => (i : Int)
  | none => -1
theorem findIdx_drop (p : GV → Bool) (l : List GV) (i : Nat) (hi : i < l.length) (h : ∀ j, (hj : j < l.length) → j < i → p l[j] = false) (hp : p l[i] = true) : l.findIdx? p = some i := by
  rw [List.findIdx?_eq_some_iff_getElem]
  exact ⟨hi, hp, fun j hj => by rw [h j (by omega) hj]; simp⟩
theorem index_ok (p : GV → Bool) (l : List GV) (g : Nat) (caps : List AV) (hl : l.length ≤ 100000000000) (hc : ∀ x ∈ l, ∀ bs σ, callT T g (x.enc :: caps) bs σ = some (.bool (p x), σ)) :
    pureT T c56 [.isl (GV.encs l) false, .func g caps] = some (.int .i64 (idxI p l)) := by
  apply pure_enter (by simp [c56])
  simp [c56]
  refine W_for T 0 19 l.length (fun i f σ => f 0 = .isl (GV.encs l) false ∧ f 1 = .func g caps ∧ f 7 = .int .i64 (l.length : Int) ∧ f 8 = .int .i64 (i : Int) ∧ ∀ j, (hj : j < l.length) → j < i → p l[j] = false) ?_ _ _ ?_
  · rintro i f σ hi ⟨h0, h1, h7, h8, hall⟩
    by_cases hlt : i < l.length
    · have e1 : l[i]? = some l[i] := List.getElem?_eq_getElem hlt
      have hcl := hc l[i] (List.getElem_mem hlt)
      cases hp : p l[i]
      · simp [h0, h1, h7, h8, hlt, hcl, hp]
        refine ⟨wr64 (by omega) (by omega), fun j hj hji => ?_⟩
        by_cases e : j = i
        · subst e; exact hp
        · exact hall j hj (by omega)
      · simp [h0, h1, h7, h8, hlt, hcl, hp]
        simp [idxI, findIdx_drop p l i hlt hall hp]
    · have he : i = l.length := by omega
      subst he
      have hn : l.findIdx? p = none := by
        rw [List.findIdx?_eq_none_iff]
        intro x hx
        obtain ⟨j, hj, rfl⟩ := List.getElem_of_mem hx
        exact hall j hj hj
      simp [h0, h1, h7, h8, idxI, hn]
  · simp
theorem contains_ok (p : GV → Bool) (l : List GV) (g : Nat) (caps : List AV) (hcl : caps.all AV.cleanC = true) (hl : l.length ≤ 100000000000) (hc : ∀ x ∈ l, ∀ bs σ, callT T g (x.enc :: caps) bs σ = some (.bool (p x), σ)) :
    pureT T c40 [.isl (GV.encs l) false, .func g caps] = some (.bool (l.any p)) := by
  have h1 : ∀ bs σ, callT T 56 [.isl (GV.encs l) false, .func g caps] bs σ = some (.int .i64 (idxI p l), σ) := fun bs σ => call_clean rfl rfl rfl (by simp [hcl]) (index_ok p l g caps hl hc)
  apply pure_enter (by simp [c40])
  have h2 : (0 ≤ idxI p l) ↔ l.any p = true := by
    unfold idxI
    cases h : l.findIdx? p with
    | none => rw [List.findIdx?_eq_none_iff] at h; simp only [List.any_eq_true]; exact ⟨fun h => by omega, fun ⟨x, hx, hp⟩ => by rw [h x hx] at hp; cases hp⟩
    | some i =>
      rw [List.findIdx?_eq_some_iff_getElem] at h
      obtain ⟨hi, hp, _⟩ := h
      exact ⟨fun _ => List.any_eq_true.2 ⟨_, List.getElem_mem hi, hp⟩, fun _ => by simp⟩
  simp [c40, h1]
  refine ⟨fun h => by simpa using h2.1 h, fun h => ?_⟩
  have : ¬ l.any p = true := fun hh => by have := h2.2 hh; omega
  simpa using this
theorem call_contains (p : GV → Bool) (l : List GV) (g : Nat) (caps : List AV) (hcl : caps.all AV.cleanC = true) (hl : l.length ≤ 100000000000) (hc : ∀ x ∈ l, ∀ bs σ, callT T g (x.enc :: caps) bs σ = some (.bool (p x), σ)) (bs : Nat) (σ : Heap) :
    callT T 40 [.isl (GV.encs l) false, .func g caps] bs σ = some (.bool (sym (l.any p)), σ) :=
  call_clean rfl rfl rfl (by simp [hcl]) (contains_ok p l g caps hcl hl hc)
theorem plain_call (t : ByteArray) (ht : t.size ≤ 100000000000) (bs : Nat) (σ : Heap) : callT T 67 [.str t] bs σ = some (.bool (sym (textOK t)), σ) := call_clean rfl rfl rfl rfl (plain_ok t ht)
theorem name_call (t : ByteArray) (ht : t.size ≤ 100000000000) (bs : Nat) (σ : Heap) : callT T 68 [.str t] bs σ = some (.bool (sym (nameOK t)), σ) := call_clean rfl rfl rfl rfl (name_ok t ht)
theorem encs_nil (l : List GV) : GV.encs l = [] ↔ l = [] := by cases l <;> simp [GV.encs]
theorem right_base (d : Nat) (lst : Bool) (k n : Int) (t : ByteArray) (l : List GV) (ht : t.size ≤ 100000000000) (hk : k ≠ 4) :
    pureT T c57 [(GV.mk k n t l).enc, .int .i64 d] = some (.bool (rightB (GV.mk k n t l) lst)) := by
  have hp := plain_call t ht
  have hn := name_call t ht
  apply pure_enter (by simp [c57])
  by_cases h1 : k = 1
  · subst h1; simp [c57, GV.enc_eq, GV.kind, GV.num, GV.text, GV.items, call_empty, rightB, setRun, encs_nil]
    repeat' (first | apply And.intro | intro _)
    all_goals grind
  by_cases h2 : k = 2
  · subst h2; simp [c57, GV.enc_eq, GV.kind, GV.num, GV.text, GV.items, call_empty, rightB, setRun, hp, encs_nil]
    repeat' (first | apply And.intro | intro _)
    all_goals grind
  by_cases h3 : k = 3
  · subst h3; simp [c57, GV.enc_eq, GV.kind, GV.num, GV.text, GV.items, call_empty, rightB, setRun, hn, encs_nil]
    repeat' (first | apply And.intro | intro _)
    all_goals grind
  simp [c57, GV.enc_eq, GV.kind, GV.num, GV.text, GV.items, call_empty, rightB, setRun, h1, h2, h3, hk]
theorem right_ok : ∀ (d : Nat) (v : GV), d ≤ 100 → v.size ≤ 100000000000 → pureT T c57 [v.enc, .int .i64 d] = some (.bool (rightV d v)) := by
  intro d
  induction d with
  | zero =>
    intro v hd hs
    obtain ⟨k, n, t, l⟩ := v
    simp only [GV.size] at hs
    by_cases h4 : k = 4
    · subst h4
      apply pure_enter (by simp [c57])
      simp [c57, GV.enc_eq, GV.kind, GV.num, GV.text, GV.items, call_empty, rightV, rightB, setRun]
    exact right_base 0 _ k n t l (by omega) h4
  | succ d ih =>
    intro v hd hs
    obtain ⟨k, n, t, l⟩ := v
    simp only [GV.size] at hs
    by_cases h4 : k = 4
    · subst h4
      have hw : IntKind.i64.wrap (d : Int) = (d : Int) := wr64 (by omega) (by omega)
      have hcl : ∀ x ∈ l, ∀ bs σ, callT T 69 [x.enc, .iptr [.int .i64 ((d : Int) + 1)] 0] bs σ = some (.bool (!rightV d x), σ) := fun x hx bs σ => by
        have hr : ∀ bs σ, callT T 57 [x.enc, .int .i64 d] bs σ = some (.bool (rightV d x), σ) := fun bs σ => call_clean rfl rfl rfl (by simp) (ih x (by omega) (by have := (sizes_mem hx).1; omega))
        refine call_clean rfl rfl rfl (by simp) (?_ : pureT T c69 [x.enc, .iptr [.int .i64 ((d : Int) + 1)] 0] = _)
        apply pure_enter (by simp [c69])
        simp [c69, hr, hw]
      have hlen := len_sizes l
      have hcont : ∀ bs A C, callT T 40 [.isl (GV.encs l) false, .func 69 [.ptr 1 0]] bs [A, .cells [.int .i64 ((d : Int) + 1)] 0 false, C] = some (.bool (sym (l.any fun x => !rightV d x)), [A, .cells [.int .i64 ((d : Int) + 1)] 0 false, C]) := fun bs A C =>
        call_scal rfl rfl rfl (contains_ok _ l 69 [.iptr [.int .i64 ((d : Int) + 1)] 0] (by simp) (by omega) hcl) rfl (by simp) (by simp [frz]; rfl)
      apply pure_enter (by simp [c57])
      simp [c57, GV.enc_eq, GV.kind, GV.num, GV.text, GV.items, call_empty, rightV, rightB, setRun, hcont, encs_nil]
      repeat' (first | apply And.intro | intro _)
      all_goals grind
    exact right_base _ _ k n t l (by omega) h4
end Go.Proofs.Ytddmjmkbnfoodaa
end
section
namespace Go.Proofs.Ytddmjmkbnfoodaa
open Go.Mach
abbrev rightT (v : GV) : Bool := rightV 4 v
theorem valRight_ok (v : GV) (hs : v.size ≤ 100000000000) : pureT T c42 [v.enc] = some (.bool (rightT v)) := by
  have hr : ∀ bs σ, callT T 57 [v.enc, .int .i64 4] bs σ = some (.bool (sym (rightT v)), σ) := fun bs σ => call_clean rfl rfl rfl (by simp) (right_ok 4 v (by omega) hs)
  apply pure_enter (by simp [c42])
  simp [c42, hr]
theorem valRight (v : GV) (hs : v.size ≤ 100000000000) (bs : Nat) (σ : Heap) : callT T 42 [v.enc] bs σ = some (.bool (sym (rightT v)), σ) := call_clean rfl rfl rfl (by simp) (valRight_ok v hs)
theorem valCmp (a b : GV) (hs : a.size ≤ 100000000000) (bs : Nat) (σ : Heap) : callT T 37 [a.enc, b.enc] bs σ = some (.int .i64 (cmpV a b), σ) := call_clean rfl rfl rfl (by simp) (cmp58 a.size a b (Nat.le_refl _) hs)
end Go.Proofs.Ytddmjmkbnfoodaa
end
section
namespace Go.Mach
def bv (l : List UInt8) : List AV := l.map fun b => .int .u8 (b.toNat : Int)
theorem u8s_bv (s : ByteArray) : u8s s = bv s.data.toList := rfl
@[simp] theorem bv_length (l : List UInt8) : (bv l).length = l.length := by simp [bv]
theorem bv_set (l : List UInt8) (i : Nat) (b : UInt8) : (bv l).set i (.int .u8 (b.toNat : Int)) = bv (l.set i b) := by simp [bv, List.map_set]
theorem bv_win {l : List UInt8} {i : Nat} (h : i < l.length) : window (bv l) i 1 = some [.int .u8 (l[i].toNat : Int)] := by
  unfold window
  rw [if_pos (by simp; omega)]
  congr 1
  apply List.ext_getElem?
  intro j
  rw [List.getElem?_take, List.getElem?_drop]
  cases j with
  | zero => simp [bv, h]
  | succ j => simp
theorem bv_all (l : List UInt8) : window (bv l) 0 l.length = some (bv l) := by
  unfold window
  rw [if_pos (by simp)]
  rw [List.drop_zero, List.take_of_length_le (by simp)]
theorem chunk_one : ∀ l : List AV, chunk 1 false l.length l = some l
  | [] => rfl
  | x :: l => by simp [chunk_one l]
theorem bytesA_bv (l : List UInt8) : bytesA (bv l) = some ⟨l.toArray⟩ := by
  have : (bv l).mapM ofU8 = some l := by
    induction l with
    | nil => rfl
    | cons b l ih =>
      show (AV.int .u8 (b.toNat : Int) :: bv l).mapM ofU8 = some (b :: l)
      rw [List.mapM_cons, ih]
      simp [ofU8]
  unfold bytesA; rw [this]; rfl
theorem elems_bv {σ : Heap} {id : Nat} {l : List UInt8} {fz : Nat} {ext : Bool} {n : Nat} (h : σ[id]? = some (.cells (bv l) fz ext)) (hn : n = l.length) : elemsA σ 1 false (.sl id 0 n 1 false) = some (bv l) := by
  subst hn
  simp only [elemsA, h, Nat.mul_one, bv_all, Option.bind_some]
  have := chunk_one (bv l)
  rwa [bv_length] at this
theorem b2s_bv {σ : Heap} {id : Nat} {l : List UInt8} {fz : Nat} {ext : Bool} {n : Nat} (h : σ[id]? = some (.cells (bv l) fz ext)) (hn : n = l.length) : b2sV σ (.sl id 0 n 1 false) = some (.str ⟨l.toArray⟩) := by
  simp [b2sV, isSl, elems_bv h hn, bytesA_bv]
theorem setRun_one (cs : List AV) (i : Nat) (v : AV) : setRun cs i [v] = cs.set i v := rfl
def mp {α : Type} (g : α → α) (l : List α) (i : Nat) : List α := (l.take i).map g ++ l.drop i
section
variable {α : Type} {g : α → α} {l : List α} {i : Nat}
@[simp] theorem mp_len : (mp g l i).length = l.length := by simp [mp]; omega
theorem mp_zero : mp g l 0 = l := by simp [mp]
theorem mp_all : mp g l l.length = l.map g := by simp [mp]
theorem mp_get (h : i < l.length) : (mp g l i)[i]'(by simpa using h) = l[i] := by
  simp only [mp]
  rw [List.getElem_append_right (by simp; omega)]
  simp [Nat.min_eq_left (Nat.le_of_lt h)]
theorem mp_set (h : i < l.length) : (mp g l i).set i (g l[i]) = mp g l (i + 1) := by
  simp only [mp]
  rw [List.set_append_right _ _ (by simp; omega)]
  have : i - ((l.take i).map g).length = 0 := by simp; omega
  rw [this, List.drop_eq_getElem_cons h, List.set_cons_zero, List.take_add_one, List.getElem?_eq_getElem h, List.map_append]
  simp
end
end Go.Mach
namespace Go.Proofs.Ytddmjmkbnfoodaa
open Go.Mach
def pickN (c : Int) (n : Nat) : Nat := ((if c < 0 then -(c + 1) else c).toNat) % n
theorem pickN_lt {c : Int} {n : Nat} (h : 0 < n) : pickN c n < n := Nat.mod_lt _ h
theorem pick_eq (c : Int) (n : Nat) (h : 0 < n) (h1 : -9223372036854775808 ≤ c) (h2 : c ≤ 9223372036854775807) :
    ((if c < 0 then IntKind.i64.wrap (0 - IntKind.i64.wrap (c + 1)) else c).tmod n) = (pickN c n : Int) := by
  by_cases hc : c < 0
  · rw [if_pos hc, wr64 (n := c + 1) (by omega) (by omega), wr64 (by omega) (by omega)]
    simp only [pickN, if_pos hc]
    have : (0 - (c + 1) : Int) = (((-(c + 1)).toNat : Nat) : Int) := by omega
    rw [this]; rfl
  · rw [if_neg hc]
    simp only [pickN, if_neg hc]
    have : c = ((c.toNat : Nat) : Int) := by omega
    rw [this, Int.toNat_natCast]; rfl
theorem pick1_ok (c n : Int) (h : n ≠ 0) : pureT T c38 [.int .i64 c, .int .i64 n] = some (.int .i64 ((if c < 0 then IntKind.i64.wrap (0 - IntKind.i64.wrap (c + 1)) else c).tmod n)) := by
  apply pure_enter (by simp [c38])
  by_cases hc : c < 0
  · simp [c38, hc, h]
  · simp [c38, hc, h]
theorem pick1 (c : Int) (n : Nat) (h : 0 < n) (h1 : GV.i64ok c) (bs : Nat) (σ : Heap) :
    callT T 38 [.int .i64 c, .int .i64 (n : Int)] bs σ = some (.int .i64 (pickN c n : Int), σ) := by
  refine call_clean rfl rfl rfl rfl ?_
  rw [pick1_ok c n (by omega), pick_eq c n h h1.1 h1.2]
theorem pick4 (c : Int) (h1 : GV.i64ok c) (bs : Nat) (σ : Heap) : callT T 38 [.int .i64 c, .int .i64 4] bs σ = some (.int .i64 (pickN c 4 : Int), σ) := pick1 c 4 (by omega) h1 bs σ
theorem pickM (c : Int) (h1 : GV.i64ok c) (bs : Nat) (σ : Heap) : callT T 38 [.int .i64 c, .int .i64 4294967295] bs σ = some (.int .i64 (pickN c 4294967295 : Int), σ) := pick1 c 4294967295 (by omega) h1 bs σ
def nameC (b : UInt8) : UInt8 := if b.toNat % 37 < 26 then UInt8.ofNat (97 + b.toNat % 37) else if b.toNat % 37 < 36 then UInt8.ofNat (22 + b.toNat % 37) else 95
def nameFit (s : ByteArray) : ByteArray := ⟨(110 :: (s.data.toList.take 15).map nameC).toArray⟩
theorem tm (n m : Nat) : ((n : Int)).tmod (m : Int) = ((n % m : Nat) : Int) := rfl
theorem u8of {n : Nat} (h : n < 256) : ((UInt8.ofNat n).toNat : Int) = (n : Int) := by rw [UInt8.toNat_ofNat', Nat.mod_eq_of_lt h]
theorem lawName_ok (s : ByteArray) (hs : s.size ≤ 100000000000) : pureT T c27 [.str s] = some (.str (nameFit s)) := by
  apply pure_enter (by simp [c27])
  obtain ⟨m, hm, hmin⟩ : ∃ m : Nat, m = min s.size 15 ∧ (if (15 : Int) < (s.size : Int) then (15 : Int) else (s.size : Int)) = (m : Int) := ⟨_, rfl, by split <;> omega⟩
  generalize hl : s.data.toList.take m = l
  have hll : l.length = m := by rw [← hl]; simp; omega
  have hcat : u8s (⟨#[110]⟩ ++ s.extract 0 m) = bv (110 :: l) := by
    rw [u8s_bv]; congr 1; rw [← hl]; simp [ByteArray.data_append, ByteArray.data_extract]
  have hsz : (⟨#[110]⟩ ++ s.extract 0 m : ByteArray).size = m + 1 := by
    have := congrArg List.length hcat
    rw [u8s_len] at this; rw [this]; simp [hll]
  have hle : m ≤ s.size := by omega
  have hadd : (1 : Int) + (m : Int) ≤ 9223372036854775807 := by omega
  have hone : (⟨#[110]⟩ : ByteArray).size = 1 := rfl
  have hfit : nameFit s = ⟨(110 :: l.map nameC).toArray⟩ := by
    simp only [nameFit]
    rw [← hl, hm]
    congr 3
    rcases Nat.lt_or_ge s.size 15 with h | h
    · rw [List.take_of_length_le (by simp; omega), List.take_of_length_le (by simp; omega)]
    · rw [Nat.min_eq_right h]
  simp [c27, hmin, hcat, hle, hadd, hsz, hone]
  subst hll
  refine W_for T 0 44 l.length (fun i f σ => f 3 = .sl 0 0 (l.length + 1) 1 false ∧ f 4 = .int .i64 ((i : Int) + 1) ∧ σ = [.cells (bv (110 :: mp nameC l i)) 0 true]) ?_ _ _ ?_
  · rintro i f σ hi ⟨h3, h4, rfl⟩
    by_cases hlt : i < l.length
    · have hw : IntKind.i64.wrap ((i : Int) + 1 + 1) = (i : Int) + 1 + 1 := wr64 (by omega) (by omega)
      have hc2 : (0 : Int) ≤ (i : Int) + 1 := by omega
      have hc3 : ((i : Int) + 1).toNat = i + 1 := by omega
      have hc4 : i + 1 ≤ l.length := hlt
      have hwin := bv_win (l := 110 :: mp nameC l i) (i := i + 1) (by simp; omega)
      simp [mp_get hlt] at hwin
      have htm : ((l[i].toNat : Int)).tmod 37 = ((l[i].toNat % 37 : Nat) : Int) := rfl
      have hfin : ∀ v : Int, v = ((nameC l[i]).toNat : Int) → (bv (110 :: mp nameC l i)).set (i + 1) (.int .u8 v) = bv (110 :: mp nameC l (i + 1)) := by
        rintro _ rfl; rw [bv_set, List.set_cons_succ, mp_set hlt]
      generalize hk : l[i].toNat % 37 = k at *
      have hk37 : k < 37 := by omega
      have hn : nameC l[i] = (if k < 26 then UInt8.ofNat (97 + k) else if k < 36 then UInt8.ofNat (22 + k) else 95) := by simp only [nameC, hk]
      simp [h3, h4, hc2, hc3, hc4, hw, hlt, hwin, htm, setRun_one]
      refine ⟨fun h => hfin _ ?_, fun h => ⟨fun h2 => hfin _ ?_, fun h2 => hfin _ ?_⟩⟩
      · rw [hn, if_pos (by omega), u8of (by omega), wru8 (by omega) (by omega)]; omega
      · rw [hn, if_neg (by omega), if_pos (by omega), u8of (by omega), wru8 (n := 48 + (k : Int)) (by omega) (by omega), wru8 (by omega) (by omega)]; omega
      · rw [hn, if_neg (by omega), if_neg (by omega)]; rfl
    · have he : i = l.length := by omega
      subst he
      have hel := b2s_bv (σ := [.cells (bv (110 :: mp nameC l l.length)) 0 true]) (id := 0) (l := 110 :: mp nameC l l.length) rfl (n := l.length + 1) (by simp)
      rw [mp_all] at hel
      simp [h3, h4, mp_all, hel, hfit]
  · simp [mp_zero]
theorem lawName (s : ByteArray) (hs : s.size ≤ 100000000000) (bs : Nat) (σ : Heap) : callT T 27 [.str s] bs σ = some (.str (nameFit s), σ) := call_clean rfl rfl rfl (by simp) (lawName_ok s hs)
def textC (b : UInt8) : UInt8 := if 32 + b.toNat % 95 = 34 ∨ 32 + b.toNat % 95 = 92 then 32 else UInt8.ofNat (32 + b.toNat % 95)
def textFit (s : ByteArray) : ByteArray := ⟨((s.data.toList.take 32).map textC).toArray⟩
def fitV : Nat → GV → GV
  | d, v =>
    if pickN v.kind 4 = 0 then .mk 1 ((pickN v.num 4294967295 : Int) - 2147483647) ⟨#[]⟩ []
    else if pickN v.kind 4 = 1 then .mk 2 0 (textFit v.text) []
    else if pickN v.kind 4 = 2 then .mk 3 0 (nameFit v.text) []
    else match d with
      | 0 => .mk 4 0 ⟨#[]⟩ []
      | d + 1 => .mk 4 0 ⟨#[]⟩ ((v.items.take 16).map fun x => fitV d (if d = 0 ∧ pickN x.kind 4 = 3 then .mk 0 x.num x.text x.items else x))
theorem fit_text (d : Int) (v : GV) (hv : v.ok) (hs : v.text.size ≤ 100000000000) (hk : pickN v.kind 4 = 1) : pureT T c28 [v.enc, .int .i64 d] = some (GV.mk 2 0 (textFit v.text) []).enc := by
  apply pure_enter (by simp [c28])
  obtain ⟨k, n, s, items⟩ := v
  simp only [GV.ok] at hv
  replace hk : pickN k 4 = 1 := hk
  replace hs : s.size ≤ 100000000000 := hs
  have hp := pick4 k hv.1
  rw [hk] at hp
  obtain ⟨m, hm, hmin⟩ : ∃ m : Nat, m = min s.size 32 ∧ (if (32 : Int) < (s.size : Int) then (32 : Int) else (s.size : Int)) = (m : Int) := ⟨_, rfl, by split <;> omega⟩
  generalize hl : s.data.toList.take m = l
  have hll : l.length = m := by rw [← hl]; simp; omega
  have hcat : u8s (s.extract 0 m) = bv l := by
    rw [u8s_bv]; congr 1; rw [← hl]; simp [ByteArray.data_append, ByteArray.data_extract]
  have hle : m ≤ s.size := by omega
  have hsz : (s.extract 0 m : ByteArray).size = m := by rw [ByteArray.size_extract]; omega
  have hfit : textFit s = ⟨(l.map textC).toArray⟩ := by
    simp only [textFit]
    rw [← hl, hm]
    congr 3
    rcases Nat.lt_or_ge s.size 32 with h | h
    · rw [List.take_of_length_le (by simp; omega), List.take_of_length_le (by simp; omega)]
    · rw [Nat.min_eq_right h]
  simp [c28, GV.enc_eq, GV.kind, GV.num, GV.text, GV.items, hp, hmin, hle, hcat, hsz]
  subst hll
  refine W_for T 0 107 l.length (fun i f σ => f 4 = .ptr 1 0 ∧ f 6 = .sl 2 0 l.length 1 false ∧ f 7 = .int .i64 (i : Int) ∧ ∃ A, σ = [A, .cells [.int .i64 0, .int .i64 0, .str ⟨#[]⟩, .isl [] true] 0 false, .cells (bv (mp textC l i)) 0 true]) ?_ _ _ ?_
  · rintro i f σ hi ⟨h4, h6, h7, A, rfl⟩
    by_cases hlt : i < l.length
    · have hw : IntKind.i64.wrap ((i : Int) + 1) = (i : Int) + 1 := wr64 (by omega) (by omega)
      have hc4 : i + 1 ≤ l.length := hlt
      have hwin := bv_win (l := mp textC l i) (i := i) (by simp; omega)
      simp [mp_get hlt] at hwin
      have htm : ((l[i].toNat : Int)).tmod 95 = ((l[i].toNat % 95 : Nat) : Int) := rfl
      generalize hk : l[i].toNat % 95 = k at *
      have hk37 : k < 95 := by omega
      obtain ⟨b, hb, hbn⟩ : ∃ b : UInt8, b = UInt8.ofNat (32 + k) ∧ b.toNat = 32 + k := ⟨_, rfl, by rw [UInt8.toNat_ofNat', Nat.mod_eq_of_lt (by omega)]⟩
      have hn : textC l[i] = (if b.toNat = 34 ∨ b.toNat = 92 then 32 else b) := by simp only [textC, hk, hbn]; rw [hb]
      have hv : IntKind.u8.wrap (32 + (k : Int)) = (b.toNat : Int) := by rw [wru8 (by omega) (by omega)]; omega
      have hst : (bv (mp textC l i)).set i (.int .u8 (b.toNat : Int)) = bv ((mp textC l i).set i b) := bv_set ..
      have hwin2 := bv_win (l := (mp textC l i).set i b) (i := i) (by simp; omega)
      rw [List.getElem_set_self] at hwin2
      have hst2 : (bv ((mp textC l i).set i b)).set i (.int .u8 32) = bv ((mp textC l i).set i 32) := by
        have := bv_set ((mp textC l i).set i b) i 32
        rw [List.set_set] at this; exact this
      have e1 : b.toNat = 34 ∨ b.toNat = 92 → (mp textC l i).set i 32 = mp textC l (i + 1) := fun h => by rw [← mp_set hlt, hn, if_pos h]
      have e2 : ¬ (b.toNat = 34 ∨ b.toNat = 92) → (mp textC l i).set i b = mp textC l (i + 1) := fun h => by rw [← mp_set hlt, hn, if_neg h]
      simp [h4, h6, h7, hc4, hw, hlt, hwin, htm, hv, setRun_one, hst, hwin2, hst2]
      refine ⟨fun h => by rw [e1 (by omega)], fun h => ⟨fun h => by rw [e1 (by omega)], fun h => by rw [e2 (by omega)]⟩⟩
    · have he : i = l.length := by omega
      subst he
      have hel := b2s_bv (σ := [A, .cells [.int .i64 0, .int .i64 0, .str ⟨#[]⟩, .isl [] true] 0 false, .cells (bv (mp textC l l.length)) 0 true]) (id := 2) (l := mp textC l l.length) rfl (n := l.length) (by simp)
      rw [mp_all] at hel
      simp [h4, h6, h7, mp_all, hel, hfit, setRun, GV.encs]
  · simp [mp_zero]
end Go.Proofs.Ytddmjmkbnfoodaa
end
