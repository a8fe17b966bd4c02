import Derived.Test.YtblbebnielfjoaaDoorC3
import Derived.Test.YtblbebnielfjoaaDoorChecked
import Derived.KernelRfl
import Derived.WalkKit
import Derived.Lib.Bytealg
import Derived.BigFrameIn
import Derived.Lib.Builder
import Derived.Lib.AppendStr
import Derived.Lib.UnsafeStr
import Derived.Lib.Walk
import Derived.BigRegion
import Derived.Laws.IdiomCopy
import Derived.Laws.Externs
import Derived.Shelf.Small.Strs
import Derived.Shelf.Strconv.Itoa0
import Derived.Shelf.Strconv.Itoa1
import Derived.Shelf.LaysM
import Derived.Shelf.Strconv.Itoa2
import Derived.Shelf.Strconv.Itoa3
import Derived.Test.YtblbebnielfjoaaDoorProg
import Derived.Lib.LaidTab
import Derived.Test.YtblbebnielfjoaaDoorRows
import Derived.Test.YtblbebnielfjoaaDoorTie
import Derived.ProofKit
import Derived.OpenShut
import Derived.Deep.DeepHandedRow
import Derived.Lib.ItoaNum
import Derived.Stop.LaidErr
section
/- The functions' codes, resolved: each is what the compiler makes of the given function (kernel-checked). -/
namespace Go.Proofs.YtblbebnielfjoaaDoor
open Go.Mach
/- beaconry/beaconrylaw01.ValueTells -/
def c3 : AFunc := ⟨76, [.tmp 8],
  .seq (.region [
    ⟨(some 4), .box (.t 0), none, []⟩,
    ⟨(some 5), .box (.t 1), none, []⟩,
    ⟨(some 8), .mv (.c (.bool false)), none, []⟩]) (
  .seq (.region [
    ⟨(some 12), .call 10 [], none, []⟩,
    ⟨(some 9), .mv (.t 12), none, []⟩]) (
  .seq (.region [
    ⟨(some 13), .mv (.t 2), none, []⟩,
    ⟨(some 15), .mv (.t 2), none, []⟩,
    ⟨(some 14), .call 12 [.t 13], none, []⟩,
    ⟨(some 16), .call 13 [.t 15], none, []⟩,
    ⟨(some 17), .call 11 [.t 14, .t 16], none, []⟩,
    ⟨(some 18), .mv (.t 17), none, []⟩,
    ⟨(some 19), .mv (.t 3), (some (18, true)), []⟩,
    ⟨(some 21), .mv (.t 3), (some (18, true)), []⟩,
    ⟨(some 20), .call 14 [.t 19], (some (18, true)), []⟩,
    ⟨(some 22), .call 15 [.t 21], (some (18, true)), []⟩,
    ⟨(some 23), .call 11 [.t 20, .t 22], (some (18, true)), []⟩,
    ⟨(some 24), .pick (.t 18) (.t 23) (.c (.bool false)), none, []⟩,
    ⟨(some 25), .mv (.t 24), none, []⟩,
    ⟨(some 26), .mv (.t 3), (some (25, true)), []⟩,
    ⟨(some 28), .mv (.t 3), (some (25, true)), []⟩,
    ⟨(some 27), .call 16 [.t 26], (some (25, true)), []⟩,
    ⟨(some 29), .call 17 [.t 28], (some (25, true)), []⟩,
    ⟨(some 30), .call 11 [.t 27, .t 29], (some (25, true)), []⟩,
    ⟨(some 31), .pick (.t 25) (.t 30) (.c (.bool false)), none, []⟩,
    ⟨(some 32), .mv (.t 31), none, []⟩,
    ⟨(some 33), .faddr 3 (.t 4), (some (32, true)), []⟩,
    ⟨(some 34), .load 1 false (.t 33), (some (32, true)), []⟩,
    ⟨(some 36), .faddr 3 (.t 4), (some (32, true)), []⟩,
    ⟨(some 37), .load 1 false (.t 36), (some (32, true)), []⟩,
    ⟨(some 35), .call 18 [.t 34], (some (32, true)), [.t 36]⟩,
    ⟨(some 38), .call 19 [.t 37], (some (32, true)), []⟩,
    ⟨(some 39), .call 11 [.t 35, .t 38], (some (32, true)), []⟩,
    ⟨(some 40), .pick (.t 32) (.t 39) (.c (.bool false)), none, []⟩,
    ⟨(some 10), .mv (.t 40), none, []⟩]) (
  .seq (.region [
    ⟨(some 41), .mv (.t 3), none, []⟩,
    ⟨(some 43), .mv (.t 3), none, []⟩,
    ⟨(some 42), .call 20 [.t 41], none, []⟩,
    ⟨(some 44), .call 21 [.t 43], none, []⟩,
    ⟨(some 45), .eqb false (.t 42) (.t 44), none, []⟩,
    ⟨(some 46), .mv (.t 45), none, []⟩,
    ⟨(some 47), .load 4 true (.t 4), (some (46, true)), []⟩,
    ⟨(some 49), .load 4 true (.t 4), (some (46, true)), []⟩,
    ⟨(some 48), .call 22 [.t 47], (some (46, true)), [.t 4]⟩,
    ⟨(some 50), .call 23 [.t 49], (some (46, true)), []⟩,
    ⟨(some 51), .eqb false (.t 48) (.t 50), (some (46, true)), []⟩,
    ⟨(some 52), .pick (.t 46) (.t 51) (.c (.bool false)), none, []⟩,
    ⟨(some 53), .mv (.t 52), none, []⟩,
    ⟨(some 54), .load 4 true (.t 4), (some (53, true)), []⟩,
    ⟨(some 55), .load 4 true (.t 5), (some (53, true)), []⟩,
    ⟨(some 57), .load 4 true (.t 4), (some (53, true)), []⟩,
    ⟨(some 58), .load 4 true (.t 5), (some (53, true)), []⟩,
    ⟨(some 56), .call 24 [.t 54, .t 55], (some (53, true)), [.t 4, .t 5]⟩,
    ⟨(some 59), .call 25 [.t 57, .t 58], (some (53, true)), []⟩,
    ⟨(some 60), .bin .eql (.t 56) (.t 59), (some (53, true)), []⟩,
    ⟨(some 61), .pick (.t 53) (.t 60) (.c (.bool false)), none, []⟩,
    ⟨(some 62), .mv (.t 61), none, []⟩,
    ⟨(some 63), .load 4 true (.t 4), (some (62, true)), []⟩,
    ⟨(some 65), .load 4 true (.t 4), (some (62, true)), []⟩,
    ⟨(some 64), .call 26 [.t 63], (some (62, true)), [.t 4]⟩,
    ⟨(some 66), .call 27 [.t 65], (some (62, true)), []⟩,
    ⟨(some 67), .bin .eql (.t 64) (.t 66), (some (62, true)), []⟩,
    ⟨(some 68), .pick (.t 62) (.t 67) (.c (.bool false)), none, []⟩,
    ⟨(some 11), .mv (.t 68), none, []⟩]) (
  .seq (.region [
    ⟨(some 69), .mv (.t 9), none, []⟩,
    ⟨(some 70), .mv (.t 69), none, []⟩,
    ⟨(some 71), .mv (.t 10), (some (70, true)), []⟩,
    ⟨(some 72), .pick (.t 70) (.t 71) (.c (.bool false)), none, []⟩,
    ⟨(some 73), .mv (.t 72), none, []⟩,
    ⟨(some 74), .mv (.t 11), (some (73, true)), []⟩,
    ⟨(some 75), .pick (.t 73) (.t 74) (.c (.bool false)), none, []⟩,
    ⟨(some 8), .mv (.t 75), none, []⟩]) (
  .ret))))),
  .pure, true, true⟩
theorem k3 : compF Tryd.prog { mt := false, mtAt := [], mode := .pure, clArgs := true, clRes := true } Tryd.f3 = some c3 := by kernel_rfl
/- beaconry/beaconrylaw01.ValueGoes -/
def c4 : AFunc := ⟨27, [.tmp 4],
  .seq (.region [
    ⟨(some 2), .box (.t 0), none, []⟩,
    ⟨(some 3), .box (.t 1), none, []⟩,
    ⟨(some 4), .mv (.c (.bool false)), none, []⟩]) (
  .seq (.region [
    ⟨(some 7), .load 4 true (.t 2), none, []⟩,
    ⟨(some 8), .call 28 [.t 7], none, []⟩,
    ⟨(some 5), .alloc [.int .i64 0, .int .i64 0, .str ⟨#[]⟩, .isl [] true], none, []⟩,
    ⟨none, .store 4 (.t 5) (.t 8), none, []⟩]) (
  .seq (.region [
    ⟨(some 9), .load 4 true (.t 3), none, []⟩,
    ⟨(some 10), .call 28 [.t 9], none, []⟩,
    ⟨(some 6), .alloc [.int .i64 0, .int .i64 0, .str ⟨#[]⟩, .isl [] true], none, []⟩,
    ⟨none, .store 4 (.t 6) (.t 10), none, []⟩]) (
  .seq (.region [
    ⟨(some 11), .load 4 true (.t 5), none, []⟩,
    ⟨(some 12), .load 4 true (.t 6), none, []⟩,
    ⟨(some 13), .faddr 1 (.t 5), none, []⟩,
    ⟨(some 14), .load 1 false (.t 13), none, []⟩,
    ⟨(some 15), .faddr 2 (.t 5), none, []⟩,
    ⟨(some 16), .load 1 false (.t 15), none, []⟩,
    ⟨(some 17), .call 3 [.t 11, .t 12, .t 14, .t 16], none, []⟩,
    ⟨(some 18), .mv (.t 17), none, []⟩,
    ⟨(some 19), .load 4 true (.t 5), (some (18, true)), []⟩,
    ⟨(some 20), .call 22 [.t 19], (some (18, true)), []⟩,
    ⟨(some 21), .pick (.t 18) (.t 20) (.c (.bool false)), none, []⟩,
    ⟨(some 22), .mv (.t 21), none, []⟩,
    ⟨(some 23), .load 4 true (.t 5), (some (22, true)), []⟩,
    ⟨(some 24), .call 26 [.t 23], (some (22, true)), []⟩,
    ⟨(some 25), .bin .neq (.t 24) (.c (.str ⟨#[]⟩)), (some (22, true)), []⟩,
    ⟨(some 26), .pick (.t 22) (.t 25) (.c (.bool false)), none, []⟩,
    ⟨(some 4), .mv (.t 26), none, []⟩]) (
  .ret)))),
  .pure, true, true⟩
theorem k4 : compF Tryd.prog { mt := false, mtAt := [], mode := .pure, clArgs := true, clRes := true } Tryd.f4 = some c4 := by kernel_rfl
/- beaconry/beaconrylaw01.ValueOrder -/
def c5 : AFunc := ⟨76, [.tmp 6],
  .seq (.region [
    ⟨(some 3), .box (.t 0), none, []⟩,
    ⟨(some 4), .box (.t 1), none, []⟩,
    ⟨(some 5), .box (.t 2), none, []⟩,
    ⟨(some 6), .mv (.c (.bool false)), none, []⟩]) (
  .seq (.region [
    ⟨(some 11), .call 10 [], none, []⟩,
    ⟨(some 7), .mv (.t 11), none, []⟩]) (
  .seq (.region [
    ⟨(some 12), .load 4 true (.t 3), none, []⟩,
    ⟨(some 13), .load 4 true (.t 4), none, []⟩,
    ⟨(some 14), .call 24 [.t 12, .t 13], none, []⟩,
    ⟨(some 8), .mv (.t 14), none, []⟩]) (
  .seq (.region [
    ⟨(some 15), .load 4 true (.t 4), none, []⟩,
    ⟨(some 16), .load 4 true (.t 5), none, []⟩,
    ⟨(some 17), .call 24 [.t 15, .t 16], none, []⟩,
    ⟨(some 9), .mv (.t 17), none, []⟩]) (
  .seq (.region [
    ⟨(some 18), .load 4 true (.t 3), none, []⟩,
    ⟨(some 19), .load 4 true (.t 5), none, []⟩,
    ⟨(some 20), .call 24 [.t 18, .t 19], none, []⟩,
    ⟨(some 10), .mv (.t 20), none, []⟩]) (
  .seq (.seq (.region [
    ⟨(some 21), .mv (.t 7), none, []⟩,
    ⟨(some 22), .un .not (.t 21), none, []⟩,
    ⟨(some 23), .mv (.t 22), none, []⟩,
    ⟨(some 24), .mv (.t 8), (some (23, false)), []⟩,
    ⟨(some 25), .bin .lss (.t 24) (.c (.int .i64 (-1))), (some (23, false)), []⟩,
    ⟨(some 26), .pick (.t 23) (.c (.bool true)) (.t 25), none, []⟩,
    ⟨(some 27), .mv (.t 26), none, []⟩,
    ⟨(some 28), .mv (.t 8), (some (27, false)), []⟩,
    ⟨(some 29), .bin .gtr (.t 28) (.c (.int .i64 1)), (some (27, false)), []⟩,
    ⟨(some 30), .pick (.t 27) (.c (.bool true)) (.t 29), none, []⟩,
    ⟨(some 31), .mv (.t 30), none, []⟩,
    ⟨(some 32), .load 4 true (.t 4), (some (31, false)), []⟩,
    ⟨(some 33), .load 4 true (.t 3), (some (31, false)), []⟩,
    ⟨(some 34), .call 24 [.t 32, .t 33], (some (31, false)), []⟩,
    ⟨(some 35), .mv (.t 8), (some (31, false)), []⟩,
    ⟨(some 36), .un .neg (.t 35), (some (31, false)), []⟩,
    ⟨(some 37), .bin .neq (.t 34) (.t 36), (some (31, false)), []⟩,
    ⟨(some 38), .pick (.t 31) (.c (.bool true)) (.t 37), none, []⟩,
    ⟨(some 39), .mv (.t 38), none, []⟩,
    ⟨(some 40), .load 4 true (.t 3), (some (39, false)), []⟩,
    ⟨(some 41), .load 4 true (.t 3), (some (39, false)), []⟩,
    ⟨(some 42), .call 24 [.t 40, .t 41], (some (39, false)), []⟩,
    ⟨(some 43), .bin .neq (.t 42) (.c (.int .i64 0)), (some (39, false)), []⟩,
    ⟨(some 44), .pick (.t 39) (.c (.bool true)) (.t 43), none, []⟩]) (
  .cond (.t 44) (
    .seq (.region [
      ⟨(some 6), .mv (.c (.bool false)), none, []⟩]) (
    .ret)) (
    .skip))) (
  .seq (.region [
    ⟨(some 45), .mv (.t 8), none, []⟩,
    ⟨(some 46), .bin .gtr (.t 45) (.c (.int .i64 0)), none, []⟩,
    ⟨(some 47), .mv (.t 46), none, []⟩,
    ⟨(some 48), .mv (.t 9), (some (47, false)), []⟩,
    ⟨(some 49), .bin .gtr (.t 48) (.c (.int .i64 0)), (some (47, false)), []⟩,
    ⟨(some 50), .pick (.t 47) (.c (.bool true)) (.t 49), none, []⟩,
    ⟨(some 51), .mv (.t 50), none, []⟩,
    ⟨(some 52), .mv (.t 10), (some (51, false)), []⟩,
    ⟨(some 53), .bin .leq (.t 52) (.c (.int .i64 0)), (some (51, false)), []⟩,
    ⟨(some 54), .pick (.t 51) (.c (.bool true)) (.t 53), none, []⟩,
    ⟨(some 55), .mv (.t 54), none, []⟩,
    ⟨(some 56), .mv (.t 8), (some (55, true)), []⟩,
    ⟨(some 57), .bin .lss (.t 56) (.c (.int .i64 0)), (some (55, true)), []⟩,
    ⟨(some 58), .mv (.t 57), (some (55, true)), []⟩,
    ⟨(some 59), .mv (.t 9), (some (58, false)), []⟩,
    ⟨(some 60), .bin .lss (.t 59) (.c (.int .i64 0)), (some (58, false)), []⟩,
    ⟨(some 61), .pick (.t 58) (.c (.bool true)) (.t 60), (some (55, true)), []⟩,
    ⟨(some 62), .mv (.t 61), (some (55, true)), []⟩,
    ⟨(some 63), .mv (.t 10), (some (62, false)), []⟩,
    ⟨(some 64), .bin .geq (.t 63) (.c (.int .i64 0)), (some (62, false)), []⟩,
    ⟨(some 65), .pick (.t 62) (.c (.bool true)) (.t 64), (some (55, true)), []⟩,
    ⟨(some 66), .pick (.t 55) (.t 65) (.c (.bool false)), none, []⟩,
    ⟨(some 67), .mv (.t 66), none, []⟩,
    ⟨(some 68), .mv (.t 8), (some (67, true)), []⟩,
    ⟨(some 69), .bin .neq (.t 68) (.c (.int .i64 0)), (some (67, true)), []⟩,
    ⟨(some 70), .mv (.t 69), (some (67, true)), []⟩,
    ⟨(some 71), .mv (.t 9), (some (70, false)), []⟩,
    ⟨(some 72), .mv (.t 10), (some (70, false)), []⟩,
    ⟨(some 73), .bin .eql (.t 71) (.t 72), (some (70, false)), []⟩,
    ⟨(some 74), .pick (.t 70) (.c (.bool true)) (.t 73), (some (67, true)), []⟩,
    ⟨(some 75), .pick (.t 67) (.t 74) (.c (.bool false)), none, []⟩,
    ⟨(some 6), .mv (.t 75), none, []⟩]) (
  .ret))))))),
  .pure, true, true⟩
theorem k5 : compF Tryd.prog { mt := false, mtAt := [], mode := .pure, clArgs := true, clRes := true } Tryd.f5 = some c5 := by kernel_rfl
/- beaconry/beaconrylaw01.ValueApart -/
def c6 : AFunc := ⟨35, [.tmp 4],
  .seq (.region [
    ⟨(some 2), .box (.t 0), none, []⟩,
    ⟨(some 3), .box (.t 1), none, []⟩,
    ⟨(some 4), .mv (.c (.bool false)), none, []⟩]) (
  .seq (.region [
    ⟨(some 9), .call 10 [], none, []⟩,
    ⟨(some 5), .mv (.t 9), none, []⟩]) (
  .seq (.region [
    ⟨(some 10), .load 4 true (.t 2), none, []⟩,
    ⟨(some 11), .call 28 [.t 10], none, []⟩,
    ⟨(some 6), .alloc [.int .i64 0, .int .i64 0, .str ⟨#[]⟩, .isl [] true], none, []⟩,
    ⟨none, .store 4 (.t 6) (.t 11), none, []⟩]) (
  .seq (.region [
    ⟨(some 12), .load 4 true (.t 3), none, []⟩,
    ⟨(some 13), .call 28 [.t 12], none, []⟩,
    ⟨(some 7), .alloc [.int .i64 0, .int .i64 0, .str ⟨#[]⟩, .isl [] true], none, []⟩,
    ⟨none, .store 4 (.t 7) (.t 13), none, []⟩]) (
  .seq (.region [
    ⟨(some 14), .load 4 true (.t 6), none, []⟩,
    ⟨(some 15), .load 4 true (.t 7), none, []⟩,
    ⟨(some 16), .call 11 [.t 14, .t 15], none, []⟩,
    ⟨(some 8), .mv (.t 16), none, []⟩]) (
  .seq (.region [
    ⟨(some 17), .mv (.t 5), none, []⟩,
    ⟨(some 18), .mv (.t 17), none, []⟩,
    ⟨(some 19), .load 4 true (.t 6), (some (18, true)), []⟩,
    ⟨(some 20), .load 4 true (.t 7), (some (18, true)), []⟩,
    ⟨(some 23), .mv (.t 8), (some (18, true)), []⟩,
    ⟨(some 21), .call 24 [.t 19, .t 20], (some (18, true)), []⟩,
    ⟨(some 22), .bin .eql (.t 21) (.c (.int .i64 0)), (some (18, true)), []⟩,
    ⟨(some 24), .eqb false (.t 22) (.t 23), (some (18, true)), []⟩,
    ⟨(some 25), .pick (.t 18) (.t 24) (.c (.bool false)), none, []⟩,
    ⟨(some 26), .mv (.t 25), none, []⟩,
    ⟨(some 27), .load 4 true (.t 6), (some (26, true)), []⟩,
    ⟨(some 29), .load 4 true (.t 7), (some (26, true)), []⟩,
    ⟨(some 32), .mv (.t 8), (some (26, true)), []⟩,
    ⟨(some 28), .call 26 [.t 27], (some (26, true)), [.t 7]⟩,
    ⟨(some 30), .call 26 [.t 29], (some (26, true)), []⟩,
    ⟨(some 31), .bin .eql (.t 28) (.t 30), (some (26, true)), []⟩,
    ⟨(some 33), .eqb false (.t 31) (.t 32), (some (26, true)), []⟩,
    ⟨(some 34), .pick (.t 26) (.t 33) (.c (.bool false)), none, []⟩,
    ⟨(some 4), .mv (.t 34), none, []⟩]) (
  .ret)))))),
  .pure, true, true⟩
theorem k6 : compF Tryd.prog { mt := false, mtAt := [], mode := .pure, clArgs := true, clRes := true } Tryd.f6 = some c6 := by kernel_rfl
/- beaconry/beaconrylaw01.ValueLists -/
def c7 : AFunc := ⟨81, [.tmp 8],
  .seq (.region [
    ⟨(some 5), .box (.t 1), none, []⟩,
    ⟨(some 6), .box (.t 2), none, []⟩,
    ⟨(some 8), .mv (.c (.bool false)), none, []⟩]) (
  .seq (.region [
    ⟨(some 16), .call 10 [], none, []⟩,
    ⟨(some 9), .mv (.t 16), none, []⟩]) (
  .seq (.region [
    ⟨(some 10), .mv (.c (.isl [] true)), none, []⟩]) (
  .seq (.seq (.region [
    ⟨(some 11), .mv (.c (.int .i64 0)), none, []⟩]) (
  .block 0 (
    .loop (
      .seq (.seq (.region [
        ⟨(some 17), .mv (.t 11), none, []⟩,
        ⟨(some 18), .mv (.t 0), none, []⟩,
        ⟨(some 19), .len false (.t 18), none, []⟩,
        ⟨(some 20), .bin .lss (.t 17) (.t 19), none, []⟩,
        ⟨(some 21), .mv (.t 20), none, []⟩,
        ⟨(some 22), .mv (.t 11), (some (21, true)), []⟩,
        ⟨(some 23), .bin .lss (.t 22) (.c (.int .i64 15)), (some (21, true)), []⟩,
        ⟨(some 24), .pick (.t 21) (.t 23) (.c (.bool false)), none, []⟩]) (
      .cond (.t 24) (
        .skip) (
        .exit 0))) (
      .seq (.block 1 (
        .region [
          ⟨(some 27), .mv (.t 10), none, []⟩,
          ⟨(some 28), .mv (.t 0), none, []⟩,
          ⟨(some 29), .mv (.t 11), none, []⟩,
          ⟨(some 30), .iaddrS 4 (.t 28) (.t 29), none, []⟩,
          ⟨(some 31), .load 4 true (.t 30), none, []⟩,
          ⟨(some 32), .call 29 [.t 31, .c (.int .i64 3)], none, []⟩,
          ⟨(some 33), .buildSl 1 4 true [.int .i64 0, .int .i64 0, .str ⟨#[]⟩, .isl [] true] [(0, 4, .t 32)], none, []⟩,
          ⟨(some 34), .append 4 true 56 false (.t 27) (.t 33), none, []⟩,
          ⟨(some 10), .mv (.t 34), none, []⟩])) (
      .region [
        ⟨(some 25), .mv (.t 11), none, []⟩,
        ⟨(some 26), .bin .add (.t 25) (.c (.int .i64 1)), none, []⟩,
        ⟨(some 11), .mv (.t 26), none, []⟩])))))) (
  .seq (.region [
    ⟨(some 35), .mv (.t 10), none, []⟩,
    ⟨(some 37), .load 4 true (.t 5), none, []⟩,
    ⟨(some 38), .buildSl 1 4 true [.int .i64 0, .int .i64 0, .str ⟨#[]⟩, .isl [] true] [(0, 4, .t 37)], none, []⟩,
    ⟨(some 12), .alloc [.int .i64 0, .int .i64 0, .str ⟨#[]⟩, .isl [] true], none, []⟩,
    ⟨(some 36), .append 4 true 56 false (.c (.isl [] true)) (.t 35), none, [.t 5, .t 38, .t 12]⟩,
    ⟨(some 39), .append 4 true 56 false (.t 36) (.t 38), none, [.t 12]⟩,
    ⟨(some 40), .call 18 [.t 39], none, [.t 12]⟩,
    ⟨none, .store 4 (.t 12) (.t 40), none, []⟩]) (
  .seq (.region [
    ⟨(some 41), .mv (.t 10), none, []⟩,
    ⟨(some 43), .load 4 true (.t 6), none, []⟩,
    ⟨(some 44), .buildSl 1 4 true [.int .i64 0, .int .i64 0, .str ⟨#[]⟩, .isl [] true] [(0, 4, .t 43)], none, []⟩,
    ⟨(some 45), .mv (.t 3), none, []⟩,
    ⟨(some 13), .alloc [.int .i64 0, .int .i64 0, .str ⟨#[]⟩, .isl [] true], none, []⟩,
    ⟨(some 42), .append 4 true 56 false (.c (.isl [] true)) (.t 41), none, [.t 6, .t 44, .t 13]⟩,
    ⟨(some 46), .append 4 true 56 false (.t 44) (.t 45), none, [.t 13]⟩,
    ⟨(some 47), .append 4 true 56 false (.t 42) (.t 46), none, [.t 13]⟩,
    ⟨(some 48), .call 18 [.t 47], none, [.t 13]⟩,
    ⟨none, .store 4 (.t 13) (.t 48), none, []⟩]) (
  .seq (.region [
    ⟨(some 49), .mv (.t 10), none, []⟩,
    ⟨(some 50), .call 18 [.t 49], none, []⟩,
    ⟨(some 14), .alloc [.int .i64 0, .int .i64 0, .str ⟨#[]⟩, .isl [] true], none, []⟩,
    ⟨none, .store 4 (.t 14) (.t 50), none, []⟩]) (
  .seq (.region [
    ⟨(some 51), .load 4 true (.t 5), none, []⟩,
    ⟨(some 52), .load 4 true (.t 6), none, []⟩,
    ⟨(some 53), .call 24 [.t 51, .t 52], none, []⟩,
    ⟨(some 15), .mv (.t 53), none, []⟩]) (
  .seq (.seq (.region [
    ⟨(some 54), .mv (.t 15), none, []⟩,
    ⟨(some 55), .bin .eql (.t 54) (.c (.int .i64 0)), none, []⟩,
    ⟨(some 56), .mv (.t 55), none, []⟩,
    ⟨(some 57), .mv (.t 3), (some (56, true)), []⟩,
    ⟨(some 58), .len false (.t 57), (some (56, true)), []⟩,
    ⟨(some 59), .bin .gtr (.t 58) (.c (.int .i64 0)), (some (56, true)), []⟩,
    ⟨(some 60), .pick (.t 56) (.t 59) (.c (.bool false)), none, []⟩]) (
  .cond (.t 60) (
    .region [
      ⟨(some 15), .mv (.c (.int .i64 (-1))), none, []⟩]) (
    .skip))) (
  .seq (.region [
    ⟨(some 61), .mv (.t 9), none, []⟩,
    ⟨(some 62), .mv (.t 61), none, []⟩,
    ⟨(some 63), .load 4 true (.t 12), (some (62, true)), []⟩,
    ⟨(some 64), .load 4 true (.t 13), (some (62, true)), []⟩,
    ⟨(some 65), .call 24 [.t 63, .t 64], (some (62, true)), []⟩,
    ⟨(some 66), .mv (.t 15), (some (62, true)), []⟩,
    ⟨(some 67), .bin .eql (.t 65) (.t 66), (some (62, true)), []⟩,
    ⟨(some 68), .pick (.t 62) (.t 67) (.c (.bool false)), none, []⟩,
    ⟨(some 69), .mv (.t 68), none, []⟩,
    ⟨(some 70), .load 4 true (.t 14), (some (69, true)), []⟩,
    ⟨(some 71), .load 4 true (.t 12), (some (69, true)), []⟩,
    ⟨(some 72), .call 24 [.t 70, .t 71], (some (69, true)), []⟩,
    ⟨(some 73), .bin .eql (.t 72) (.c (.int .i64 (-1))), (some (69, true)), []⟩,
    ⟨(some 74), .pick (.t 69) (.t 73) (.c (.bool false)), none, []⟩,
    ⟨(some 75), .mv (.t 74), none, []⟩,
    ⟨(some 76), .load 4 true (.t 13), (some (75, true)), []⟩,
    ⟨(some 77), .load 4 true (.t 14), (some (75, true)), []⟩,
    ⟨(some 78), .call 24 [.t 76, .t 77], (some (75, true)), []⟩,
    ⟨(some 79), .bin .eql (.t 78) (.c (.int .i64 1)), (some (75, true)), []⟩,
    ⟨(some 80), .pick (.t 75) (.t 79) (.c (.bool false)), none, []⟩,
    ⟨(some 8), .mv (.t 80), none, []⟩]) (
  .ret)))))))))),
  .pure, true, true⟩
theorem k7 : compF Tryd.prog { mt := false, mtAt := [], mode := .pure, clArgs := true, clRes := true } Tryd.f7 = some c7 := by kernel_rfl
/- beaconry/beaconrylaw01.ValueNames -/
def c8 : AFunc := ⟨83, [.tmp 8],
  .seq (.region [
    ⟨(some 8), .mv (.c (.bool false)), none, []⟩]) (
  .seq (.region [
    ⟨(some 15), .call 10 [], none, []⟩,
    ⟨(some 9), .mv (.t 15), none, []⟩]) (
  .seq (.region [
    ⟨(some 16), .mv (.t 0), none, []⟩,
    ⟨(some 17), .call 30 [.t 16], none, []⟩,
    ⟨(some 10), .mv (.t 17), none, []⟩]) (
  .seq (.region [
    ⟨(some 18), .mv (.t 1), none, []⟩,
    ⟨(some 19), .mv (.t 10), none, []⟩,
    ⟨(some 20), .len true (.t 19), none, []⟩,
    ⟨(some 21), .call 31 [.t 18, .t 20], none, []⟩,
    ⟨(some 11), .mv (.t 21), none, []⟩]) (
  .seq (.region [
    ⟨(some 22), .mv (.t 10), none, []⟩,
    ⟨(some 23), .s2b (.t 22), none, []⟩,
    ⟨(some 12), .mv (.t 23), none, []⟩]) (
  .seq (.region [
    ⟨(some 24), .mv (.t 12), none, []⟩,
    ⟨(some 25), .mv (.t 11), none, []⟩,
    ⟨(some 26), .mv (.t 2), none, []⟩,
    ⟨(some 27), .iaddrS 1 (.t 24) (.t 25), none, []⟩,
    ⟨none, .store 1 (.t 27) (.t 26), none, []⟩]) (
  .seq (.region [
    ⟨(some 28), .mv (.t 2), none, []⟩,
    ⟨(some 29), .bin .geq (.t 28) (.c (.int .u8 97)), none, []⟩,
    ⟨(some 30), .mv (.t 29), none, []⟩,
    ⟨(some 31), .mv (.t 2), (some (30, true)), []⟩,
    ⟨(some 32), .bin .leq (.t 31) (.c (.int .u8 122)), (some (30, true)), []⟩,
    ⟨(some 33), .pick (.t 30) (.t 32) (.c (.bool false)), none, []⟩,
    ⟨(some 13), .mv (.t 33), none, []⟩]) (
  .seq (.region [
    ⟨(some 34), .mv (.t 13), none, []⟩,
    ⟨(some 35), .mv (.t 34), none, []⟩,
    ⟨(some 36), .mv (.t 11), (some (35, false)), []⟩,
    ⟨(some 37), .bin .gtr (.t 36) (.c (.int .i64 0)), (some (35, false)), []⟩,
    ⟨(some 38), .mv (.t 37), (some (35, false)), []⟩,
    ⟨(some 39), .mv (.t 2), (some (38, true)), []⟩,
    ⟨(some 40), .bin .geq (.t 39) (.c (.int .u8 48)), (some (38, true)), []⟩,
    ⟨(some 41), .mv (.t 40), (some (38, true)), []⟩,
    ⟨(some 42), .mv (.t 2), (some (41, true)), []⟩,
    ⟨(some 43), .bin .leq (.t 42) (.c (.int .u8 57)), (some (41, true)), []⟩,
    ⟨(some 44), .pick (.t 41) (.t 43) (.c (.bool false)), (some (38, true)), []⟩,
    ⟨(some 45), .mv (.t 44), (some (38, true)), []⟩,
    ⟨(some 46), .mv (.t 2), (some (45, false)), []⟩,
    ⟨(some 47), .bin .eql (.t 46) (.c (.int .u8 95)), (some (45, false)), []⟩,
    ⟨(some 48), .pick (.t 45) (.c (.bool true)) (.t 47), (some (38, true)), []⟩,
    ⟨(some 49), .pick (.t 38) (.t 48) (.c (.bool false)), (some (35, false)), []⟩,
    ⟨(some 50), .pick (.t 35) (.c (.bool true)) (.t 49), none, []⟩,
    ⟨(some 14), .mv (.t 50), none, []⟩]) (
  .seq (.region [
    ⟨(some 51), .mv (.t 9), none, []⟩,
    ⟨(some 52), .mv (.t 51), none, []⟩,
    ⟨(some 53), .mv (.t 10), (some (52, true)), []⟩,
    ⟨(some 54), .call 20 [.t 53], (some (52, true)), []⟩,
    ⟨(some 55), .pick (.t 52) (.t 54) (.c (.bool false)), none, []⟩,
    ⟨(some 56), .mv (.t 55), none, []⟩,
    ⟨(some 57), .mv (.t 12), (some (56, true)), []⟩,
    ⟨(some 58), .b2s (.t 57), (some (56, true)), []⟩,
    ⟨(some 59), .call 20 [.t 58], (some (56, true)), []⟩,
    ⟨(some 60), .mv (.t 14), (some (56, true)), []⟩,
    ⟨(some 61), .eqb false (.t 59) (.t 60), (some (56, true)), []⟩,
    ⟨(some 62), .pick (.t 56) (.t 61) (.c (.bool false)), none, []⟩,
    ⟨(some 63), .mv (.t 62), none, []⟩,
    ⟨(some 64), .call 20 [.c (.str ⟨#[]⟩)], (some (63, true)), []⟩,
    ⟨(some 65), .un .not (.t 64), (some (63, true)), []⟩,
    ⟨(some 66), .pick (.t 63) (.t 65) (.c (.bool false)), none, []⟩,
    ⟨(some 67), .mv (.t 66), none, []⟩,
    ⟨(some 68), .mv (.t 10), (some (67, true)), []⟩,
    ⟨(some 69), .bin .add (.t 68) (.c (.str ⟨#[97, 97, 97, 97, 97, 97, 97, 97, 97, 97, 97, 97, 97, 97, 97, 97]⟩)), (some (67, true)), []⟩,
    ⟨(some 70), .call 20 [.t 69], (some (67, true)), []⟩,
    ⟨(some 71), .un .not (.t 70), (some (67, true)), []⟩,
    ⟨(some 72), .pick (.t 67) (.t 71) (.c (.bool false)), none, []⟩,
    ⟨(some 73), .mv (.t 72), none, []⟩,
    ⟨(some 74), .mv (.t 10), (some (73, true)), []⟩,
    ⟨(some 75), .mv (.t 3), (some (73, true)), []⟩,
    ⟨(some 76), .bin .add (.t 74) (.t 75), (some (73, true)), []⟩,
    ⟨(some 77), .call 20 [.t 76], (some (73, true)), []⟩,
    ⟨(some 78), .mv (.t 77), (some (73, true)), []⟩,
    ⟨(some 79), .mv (.t 3), (some (78, false)), []⟩,
    ⟨(some 80), .bin .neq (.t 79) (.c (.str ⟨#[]⟩)), (some (78, false)), []⟩,
    ⟨(some 81), .pick (.t 78) (.c (.bool true)) (.t 80), (some (73, true)), []⟩,
    ⟨(some 82), .pick (.t 73) (.t 81) (.c (.bool false)), none, []⟩,
    ⟨(some 8), .mv (.t 82), none, []⟩]) (
  .ret))))))))),
  .pure, true, true⟩
theorem k8 : compF Tryd.prog { mt := false, mtAt := [], mode := .pure, clArgs := true, clRes := true } Tryd.f8 = some c8 := by kernel_rfl
/- beaconry/beaconrylaw01.ValueDeep -/
def c9 : AFunc := ⟨61, [.tmp 4],
  .seq (.region [
    ⟨(some 4), .mv (.c (.bool false)), none, []⟩]) (
  .seq (.region [
    ⟨(some 12), .call 10 [], none, []⟩,
    ⟨(some 5), .mv (.t 12), none, []⟩]) (
  .seq (.region [
    ⟨(some 13), .call 18 [.c (.isl [] true)], none, []⟩,
    ⟨(some 6), .alloc [.int .i64 0, .int .i64 0, .str ⟨#[]⟩, .isl [] true], none, []⟩,
    ⟨none, .store 4 (.t 6) (.t 13), none, []⟩]) (
  .seq (.region [
    ⟨(some 14), .mv (.t 0), none, []⟩,
    ⟨(some 15), .call 31 [.t 14, .c (.int .i64 7)], none, []⟩,
    ⟨(some 16), .bin .add (.c (.int .i64 1)) (.t 15), none, []⟩,
    ⟨(some 7), .mv (.t 16), none, []⟩]) (
  .seq (.seq (.region [
    ⟨(some 8), .mv (.c (.int .i64 1)), none, []⟩]) (
  .block 0 (
    .loop (
      .seq (.seq (.region [
        ⟨(some 17), .mv (.t 8), none, []⟩,
        ⟨(some 18), .mv (.t 7), none, []⟩,
        ⟨(some 19), .bin .lss (.t 17) (.t 18), none, []⟩]) (
      .cond (.t 19) (
        .skip) (
        .exit 0))) (
      .seq (.block 1 (
        .region [
          ⟨(some 22), .load 4 true (.t 6), none, []⟩,
          ⟨(some 23), .buildSl 1 4 true [.int .i64 0, .int .i64 0, .str ⟨#[]⟩, .isl [] true] [(0, 4, .t 22)], none, []⟩,
          ⟨(some 24), .call 18 [.t 23], none, []⟩,
          ⟨none, .store 4 (.t 6) (.t 24), none, []⟩])) (
      .region [
        ⟨(some 20), .mv (.t 8), none, []⟩,
        ⟨(some 21), .bin .add (.t 20) (.c (.int .i64 1)), none, []⟩,
        ⟨(some 8), .mv (.t 21), none, []⟩])))))) (
  .seq (.region [
    ⟨(some 9), .mv (.c (.isl [] true)), none, []⟩]) (
  .seq (.region [
    ⟨(some 25), .mv (.t 1), none, []⟩,
    ⟨(some 26), .call 31 [.t 25, .c (.int .i64 21)], none, []⟩,
    ⟨(some 10), .mv (.t 26), none, []⟩]) (
  .seq (.seq (.region [
    ⟨(some 11), .mv (.c (.int .i64 0)), none, []⟩]) (
  .block 2 (
    .loop (
      .seq (.seq (.region [
        ⟨(some 27), .mv (.t 11), none, []⟩,
        ⟨(some 28), .mv (.t 10), none, []⟩,
        ⟨(some 29), .bin .lss (.t 27) (.t 28), none, []⟩]) (
      .cond (.t 29) (
        .skip) (
        .exit 2))) (
      .seq (.block 3 (
        .region [
          ⟨(some 32), .mv (.t 9), none, []⟩,
          ⟨(some 33), .mv (.t 11), none, []⟩,
          ⟨(some 34), .call 12 [.t 33], none, []⟩,
          ⟨(some 35), .buildSl 1 4 true [.int .i64 0, .int .i64 0, .str ⟨#[]⟩, .isl [] true] [(0, 4, .t 34)], none, []⟩,
          ⟨(some 36), .append 4 true 56 false (.t 32) (.t 35), none, []⟩,
          ⟨(some 9), .mv (.t 36), none, []⟩])) (
      .region [
        ⟨(some 30), .mv (.t 11), none, []⟩,
        ⟨(some 31), .bin .add (.t 30) (.c (.int .i64 1)), none, []⟩,
        ⟨(some 11), .mv (.t 31), none, []⟩])))))) (
  .seq (.region [
    ⟨(some 37), .mv (.t 5), none, []⟩,
    ⟨(some 38), .mv (.t 37), none, []⟩,
    ⟨(some 39), .load 4 true (.t 6), (some (38, true)), []⟩,
    ⟨(some 40), .call 22 [.t 39], (some (38, true)), []⟩,
    ⟨(some 41), .mv (.t 7), (some (38, true)), []⟩,
    ⟨(some 42), .bin .leq (.t 41) (.c (.int .i64 4)), (some (38, true)), []⟩,
    ⟨(some 43), .eqb false (.t 40) (.t 42), (some (38, true)), []⟩,
    ⟨(some 44), .pick (.t 38) (.t 43) (.c (.bool false)), none, []⟩,
    ⟨(some 45), .mv (.t 44), none, []⟩,
    ⟨(some 46), .load 4 true (.t 6), (some (45, true)), []⟩,
    ⟨(some 47), .call 26 [.t 46], (some (45, true)), []⟩,
    ⟨(some 48), .bin .neq (.t 47) (.c (.str ⟨#[]⟩)), (some (45, true)), []⟩,
    ⟨(some 49), .mv (.t 7), (some (45, true)), []⟩,
    ⟨(some 50), .bin .leq (.t 49) (.c (.int .i64 4)), (some (45, true)), []⟩,
    ⟨(some 51), .eqb false (.t 48) (.t 50), (some (45, true)), []⟩,
    ⟨(some 52), .pick (.t 45) (.t 51) (.c (.bool false)), none, []⟩,
    ⟨(some 53), .mv (.t 52), none, []⟩,
    ⟨(some 54), .mv (.t 9), (some (53, true)), []⟩,
    ⟨(some 55), .call 18 [.t 54], (some (53, true)), []⟩,
    ⟨(some 56), .call 22 [.t 55], (some (53, true)), []⟩,
    ⟨(some 57), .mv (.t 10), (some (53, true)), []⟩,
    ⟨(some 58), .bin .leq (.t 57) (.c (.int .i64 16)), (some (53, true)), []⟩,
    ⟨(some 59), .eqb false (.t 56) (.t 58), (some (53, true)), []⟩,
    ⟨(some 60), .pick (.t 53) (.t 59) (.c (.bool false)), none, []⟩,
    ⟨(some 4), .mv (.t 60), none, []⟩]) (
  .ret))))))))),
  .pure, true, true⟩
theorem k9 : compF Tryd.prog { mt := false, mtAt := [], mode := .pure, clArgs := true, clRes := true } Tryd.f9 = some c9 := by kernel_rfl
/- beaconry/beaconrylaw01.awake -/
def c10 : AFunc := ⟨32, [.tmp 0],
  .seq (.region [
    ⟨(some 0), .mv (.c (.bool false)), none, []⟩]) (
  .seq (.region [
    ⟨(some 2), .call 12 [.c (.int .i64 3)], none, []⟩,
    ⟨(some 3), .call 14 [.c (.str ⟨#[97, 98]⟩)], none, []⟩,
    ⟨(some 4), .call 16 [.c (.str ⟨#[110, 49]⟩)], none, []⟩,
    ⟨(some 5), .buildSl 3 4 true [.int .i64 0, .int .i64 0, .str ⟨#[]⟩, .isl [] true, .int .i64 0, .int .i64 0, .str ⟨#[]⟩, .isl [] true, .int .i64 0, .int .i64 0, .str ⟨#[]⟩, .isl [] true] [(0, 4, .t 2), (4, 4, .t 3), (8, 4, .t 4)], none, []⟩,
    ⟨(some 6), .call 18 [.t 5], none, []⟩,
    ⟨(some 1), .alloc [.int .i64 0, .int .i64 0, .str ⟨#[]⟩, .isl [] true], none, []⟩,
    ⟨none, .store 4 (.t 1) (.t 6), none, []⟩]) (
  .seq (.region [
    ⟨(some 7), .load 4 true (.t 1), none, []⟩,
    ⟨(some 8), .call 26 [.t 7], none, []⟩,
    ⟨(some 9), .bin .eql (.t 8) (.c (.str ⟨#[91, 51, 44, 34, 97, 98, 34, 44, 110, 49, 93]⟩)), none, []⟩,
    ⟨(some 10), .mv (.t 9), none, []⟩,
    ⟨(some 11), .call 12 [.c (.int .i64 3)], (some (10, true)), []⟩,
    ⟨(some 12), .call 14 [.c (.str ⟨#[]⟩)], (some (10, true)), []⟩,
    ⟨(some 13), .call 24 [.t 11, .t 12], (some (10, true)), []⟩,
    ⟨(some 14), .bin .eql (.t 13) (.c (.int .i64 (-1))), (some (10, true)), []⟩,
    ⟨(some 15), .pick (.t 10) (.t 14) (.c (.bool false)), none, []⟩,
    ⟨(some 16), .mv (.t 15), none, []⟩,
    ⟨(some 17), .load 4 true (.t 1), (some (16, true)), []⟩,
    ⟨(some 18), .call 22 [.t 17], (some (16, true)), []⟩,
    ⟨(some 19), .pick (.t 16) (.t 18) (.c (.bool false)), none, []⟩,
    ⟨(some 20), .mv (.t 19), none, []⟩,
    ⟨(some 21), .call 20 [.c (.str ⟨#[110, 49]⟩)], (some (20, true)), []⟩,
    ⟨(some 22), .pick (.t 20) (.t 21) (.c (.bool false)), none, []⟩,
    ⟨(some 23), .mv (.t 22), none, []⟩,
    ⟨(some 24), .call 20 [.c (.str ⟨#[49, 110]⟩)], (some (23, true)), []⟩,
    ⟨(some 25), .un .not (.t 24), (some (23, true)), []⟩,
    ⟨(some 26), .pick (.t 23) (.t 25) (.c (.bool false)), none, []⟩,
    ⟨(some 27), .mv (.t 26), none, []⟩,
    ⟨(some 28), .call 18 [.c (.isl [] true)], (some (27, true)), []⟩,
    ⟨(some 29), .call 26 [.t 28], (some (27, true)), []⟩,
    ⟨(some 30), .bin .eql (.t 29) (.c (.str ⟨#[91, 93]⟩)), (some (27, true)), []⟩,
    ⟨(some 31), .pick (.t 27) (.t 30) (.c (.bool false)), none, []⟩,
    ⟨(some 0), .mv (.t 31), none, []⟩]) (
  .ret))),
  .pure, true, true⟩
theorem k10 : compF Tryd.prog { mt := false, mtAt := [], mode := .pure, clArgs := true, clRes := true } Tryd.f10 = some c10 := by kernel_rfl
/- beaconry/beaconrylaw01.Same -/
def c11 : AFunc := ⟨31, [.tmp 4],
  .seq (.region [
    ⟨(some 2), .box (.t 0), none, []⟩,
    ⟨(some 3), .box (.t 1), none, []⟩,
    ⟨(some 4), .mv (.c (.bool false)), none, []⟩]) (
  .seq (.region [
    ⟨(some 5), .faddr 0 (.t 2), none, []⟩,
    ⟨(some 6), .load 1 false (.t 5), none, []⟩,
    ⟨(some 7), .faddr 0 (.t 3), none, []⟩,
    ⟨(some 8), .load 1 false (.t 7), none, []⟩,
    ⟨(some 9), .bin .eql (.t 6) (.t 8), none, []⟩,
    ⟨(some 10), .mv (.t 9), none, []⟩,
    ⟨(some 11), .faddr 1 (.t 2), (some (10, true)), []⟩,
    ⟨(some 12), .load 1 false (.t 11), (some (10, true)), []⟩,
    ⟨(some 13), .faddr 1 (.t 3), (some (10, true)), []⟩,
    ⟨(some 14), .load 1 false (.t 13), (some (10, true)), []⟩,
    ⟨(some 15), .bin .eql (.t 12) (.t 14), (some (10, true)), []⟩,
    ⟨(some 16), .pick (.t 10) (.t 15) (.c (.bool false)), none, []⟩,
    ⟨(some 17), .mv (.t 16), none, []⟩,
    ⟨(some 18), .faddr 2 (.t 2), (some (17, true)), []⟩,
    ⟨(some 19), .load 1 false (.t 18), (some (17, true)), []⟩,
    ⟨(some 20), .faddr 2 (.t 3), (some (17, true)), []⟩,
    ⟨(some 21), .load 1 false (.t 20), (some (17, true)), []⟩,
    ⟨(some 22), .bin .eql (.t 19) (.t 21), (some (17, true)), []⟩,
    ⟨(some 23), .pick (.t 17) (.t 22) (.c (.bool false)), none, []⟩,
    ⟨(some 24), .mv (.t 23), none, []⟩,
    ⟨(some 25), .faddr 3 (.t 2), (some (24, true)), []⟩,
    ⟨(some 26), .load 1 false (.t 25), (some (24, true)), []⟩,
    ⟨(some 27), .faddr 3 (.t 3), (some (24, true)), []⟩,
    ⟨(some 28), .load 1 false (.t 27), (some (24, true)), []⟩,
    ⟨(some 29), .call 32 [.t 26, .t 28], (some (24, true)), []⟩,
    ⟨(some 30), .pick (.t 24) (.t 29) (.c (.bool false)), none, []⟩,
    ⟨(some 4), .mv (.t 30), none, []⟩]) (
  .ret)),
  .pure, true, true⟩
theorem k11 : compF Tryd.prog { mt := false, mtAt := [], mode := .pure, clArgs := true, clRes := true } Tryd.f11 = some c11 := by kernel_rfl
/- beaconry/value.Number -/
def c12 : AFunc := ⟨5, [.cell 2 4 true],
  .seq (.region [
    ⟨(some 2), .alloc [.int .i64 0, .int .i64 0, .str ⟨#[]⟩, .isl [] true], none, []⟩]) (
  .seq (.region [
    ⟨(some 3), .mv (.t 0), none, []⟩,
    ⟨(some 4), .build [.int .i64 0, .int .i64 0, .str ⟨#[]⟩, .isl [] true] [(0, 1, .c (.int .i64 1)), (1, 1, .t 3)], none, []⟩,
    ⟨none, .store 4 (.t 2) (.t 4), none, []⟩]) (
  .ret)),
  .pure, true, true⟩
theorem k12 : compF Tryd.prog { mt := false, mtAt := [], mode := .pure, clArgs := true, clRes := true } Tryd.f12 = some c12 := by kernel_rfl
/- beaconry/beaconryref01.Number -/
def c13 : AFunc := ⟨5, [.cell 2 4 true],
  .seq (.region [
    ⟨(some 2), .alloc [.int .i64 0, .int .i64 0, .str ⟨#[]⟩, .isl [] true], none, []⟩]) (
  .seq (.region [
    ⟨(some 3), .mv (.t 0), none, []⟩,
    ⟨(some 4), .build [.int .i64 0, .int .i64 0, .str ⟨#[]⟩, .isl [] true] [(0, 1, .c (.int .i64 1)), (1, 1, .t 3)], none, []⟩,
    ⟨none, .store 4 (.t 2) (.t 4), none, []⟩]) (
  .ret)),
  .pure, true, true⟩
theorem k13 : compF Tryd.prog { mt := false, mtAt := [], mode := .pure, clArgs := true, clRes := true } Tryd.f13 = some c13 := by kernel_rfl
/- beaconry/value.Text -/
def c14 : AFunc := ⟨5, [.cell 2 4 true],
  .seq (.region [
    ⟨(some 2), .alloc [.int .i64 0, .int .i64 0, .str ⟨#[]⟩, .isl [] true], none, []⟩]) (
  .seq (.region [
    ⟨(some 3), .mv (.t 0), none, []⟩,
    ⟨(some 4), .build [.int .i64 0, .int .i64 0, .str ⟨#[]⟩, .isl [] true] [(0, 1, .c (.int .i64 2)), (2, 1, .t 3)], none, []⟩,
    ⟨none, .store 4 (.t 2) (.t 4), none, []⟩]) (
  .ret)),
  .pure, true, true⟩
theorem k14 : compF Tryd.prog { mt := false, mtAt := [], mode := .pure, clArgs := true, clRes := true } Tryd.f14 = some c14 := by kernel_rfl
/- beaconry/beaconryref01.Text -/
def c15 : AFunc := ⟨5, [.cell 2 4 true],
  .seq (.region [
    ⟨(some 2), .alloc [.int .i64 0, .int .i64 0, .str ⟨#[]⟩, .isl [] true], none, []⟩]) (
  .seq (.region [
    ⟨(some 3), .mv (.t 0), none, []⟩,
    ⟨(some 4), .build [.int .i64 0, .int .i64 0, .str ⟨#[]⟩, .isl [] true] [(0, 1, .c (.int .i64 2)), (2, 1, .t 3)], none, []⟩,
    ⟨none, .store 4 (.t 2) (.t 4), none, []⟩]) (
  .ret)),
  .pure, true, true⟩
theorem k15 : compF Tryd.prog { mt := false, mtAt := [], mode := .pure, clArgs := true, clRes := true } Tryd.f15 = some c15 := by kernel_rfl
/- beaconry/value.Addr -/
def c16 : AFunc := ⟨5, [.cell 2 4 true],
  .seq (.region [
    ⟨(some 2), .alloc [.int .i64 0, .int .i64 0, .str ⟨#[]⟩, .isl [] true], none, []⟩]) (
  .seq (.region [
    ⟨(some 3), .mv (.t 0), none, []⟩,
    ⟨(some 4), .build [.int .i64 0, .int .i64 0, .str ⟨#[]⟩, .isl [] true] [(0, 1, .c (.int .i64 3)), (2, 1, .t 3)], none, []⟩,
    ⟨none, .store 4 (.t 2) (.t 4), none, []⟩]) (
  .ret)),
  .pure, true, true⟩
theorem k16 : compF Tryd.prog { mt := false, mtAt := [], mode := .pure, clArgs := true, clRes := true } Tryd.f16 = some c16 := by kernel_rfl
/- beaconry/beaconryref01.Addr -/
def c17 : AFunc := ⟨5, [.cell 2 4 true],
  .seq (.region [
    ⟨(some 2), .alloc [.int .i64 0, .int .i64 0, .str ⟨#[]⟩, .isl [] true], none, []⟩]) (
  .seq (.region [
    ⟨(some 3), .mv (.t 0), none, []⟩,
    ⟨(some 4), .build [.int .i64 0, .int .i64 0, .str ⟨#[]⟩, .isl [] true] [(0, 1, .c (.int .i64 3)), (2, 1, .t 3)], none, []⟩,
    ⟨none, .store 4 (.t 2) (.t 4), none, []⟩]) (
  .ret)),
  .pure, true, true⟩
theorem k17 : compF Tryd.prog { mt := false, mtAt := [], mode := .pure, clArgs := true, clRes := true } Tryd.f17 = some c17 := by kernel_rfl
/- beaconry/value.List -/
def c18 : AFunc := ⟨6, [.cell 2 4 true],
  .seq (.region [
    ⟨(some 2), .alloc [.int .i64 0, .int .i64 0, .str ⟨#[]⟩, .isl [] true], none, []⟩]) (
  .seq (.region [
    ⟨(some 3), .mv (.t 0), none, []⟩,
    ⟨(some 4), .call 33 [.t 3], none, []⟩,
    ⟨(some 5), .build [.int .i64 0, .int .i64 0, .str ⟨#[]⟩, .isl [] true] [(0, 1, .c (.int .i64 4)), (3, 1, .t 4)], none, []⟩,
    ⟨none, .store 4 (.t 2) (.t 5), none, []⟩]) (
  .ret)),
  .pure, true, true⟩
theorem k18 : compF Tryd.prog { mt := false, mtAt := [], mode := .pure, clArgs := true, clRes := true } Tryd.f18 = some c18 := by kernel_rfl
/- beaconry/beaconryref01.List -/
def c19 : AFunc := ⟨6, [.cell 2 4 true],
  .seq (.region [
    ⟨(some 2), .alloc [.int .i64 0, .int .i64 0, .str ⟨#[]⟩, .isl [] true], none, []⟩]) (
  .seq (.region [
    ⟨(some 3), .mv (.t 0), none, []⟩,
    ⟨(some 4), .append 4 true 56 false (.c (.isl [] true)) (.t 3), none, []⟩,
    ⟨(some 5), .build [.int .i64 0, .int .i64 0, .str ⟨#[]⟩, .isl [] true] [(0, 1, .c (.int .i64 4)), (3, 1, .t 4)], none, []⟩,
    ⟨none, .store 4 (.t 2) (.t 5), none, []⟩]) (
  .ret)),
  .pure, true, true⟩
theorem k19 : compF Tryd.prog { mt := false, mtAt := [], mode := .pure, clArgs := true, clRes := true } Tryd.f19 = some c19 := by kernel_rfl
/- beaconry/value.Name -/
def c20 : AFunc := ⟨43, [.tmp 2],
  .seq (.region [
    ⟨(some 2), .mv (.c (.bool false)), none, []⟩]) (
  .seq (.seq (.region [
    ⟨(some 6), .mv (.t 0), none, []⟩,
    ⟨(some 7), .rng (.t 6), none, []⟩]) (
  .block 0 (
    .loop (
      .seq (.region [
        ⟨(some 8), .nxt (.t 7), none, []⟩,
        ⟨(some 9), .extract 0 (.t 8), none, []⟩]) (
      .seq (.cond (.t 9) (
        .skip) (
        .exit 0)) (
      .block 1 (
        .seq (.region [
          ⟨(some 10), .extract 1 (.t 8), none, []⟩,
          ⟨(some 11), .extract 2 (.t 8), none, []⟩,
          ⟨(some 3), .mv (.t 10), none, []⟩,
          ⟨(some 4), .mv (.t 11), none, []⟩]) (
        .seq (.region [
          ⟨(some 12), .mv (.t 4), none, []⟩,
          ⟨(some 13), .bin .geq (.t 12) (.c (.int .i32 97)), none, []⟩,
          ⟨(some 14), .mv (.t 13), none, []⟩,
          ⟨(some 15), .mv (.t 4), (some (14, true)), []⟩,
          ⟨(some 16), .bin .leq (.t 15) (.c (.int .i32 122)), (some (14, true)), []⟩,
          ⟨(some 17), .pick (.t 14) (.t 16) (.c (.bool false)), none, []⟩,
          ⟨(some 5), .mv (.t 17), none, []⟩]) (
        .seq (.region [
          ⟨(some 18), .mv (.t 5), none, []⟩,
          ⟨(some 19), .un .not (.t 18), none, []⟩,
          ⟨(some 20), .mv (.t 19), none, []⟩,
          ⟨(some 21), .mv (.t 3), (some (20, true)), []⟩,
          ⟨(some 22), .bin .eql (.t 21) (.c (.int .i64 0)), (some (20, true)), []⟩,
          ⟨(some 23), .mv (.t 22), (some (20, true)), []⟩,
          ⟨(some 24), .mv (.t 4), (some (23, false)), []⟩,
          ⟨(some 25), .bin .neq (.t 24) (.c (.int .i32 95)), (some (23, false)), []⟩,
          ⟨(some 26), .mv (.t 25), (some (23, false)), []⟩,
          ⟨(some 27), .mv (.t 4), (some (26, true)), []⟩,
          ⟨(some 28), .bin .lss (.t 27) (.c (.int .i32 48)), (some (26, true)), []⟩,
          ⟨(some 29), .mv (.t 28), (some (26, true)), []⟩,
          ⟨(some 30), .mv (.t 4), (some (29, false)), []⟩,
          ⟨(some 31), .bin .gtr (.t 30) (.c (.int .i32 57)), (some (29, false)), []⟩,
          ⟨(some 32), .pick (.t 29) (.c (.bool true)) (.t 31), (some (26, true)), []⟩,
          ⟨(some 33), .pick (.t 26) (.t 32) (.c (.bool false)), (some (23, false)), []⟩,
          ⟨(some 34), .pick (.t 23) (.c (.bool true)) (.t 33), (some (20, true)), []⟩,
          ⟨(some 35), .pick (.t 20) (.t 34) (.c (.bool false)), none, []⟩]) (
        .cond (.t 35) (
          .seq (.region [
            ⟨(some 2), .mv (.c (.bool false)), none, []⟩]) (
          .ret)) (
          .skip))))))))))) (
  .seq (.region [
    ⟨(some 36), .mv (.t 0), none, []⟩,
    ⟨(some 37), .bin .neq (.t 36) (.c (.str ⟨#[]⟩)), none, []⟩,
    ⟨(some 38), .mv (.t 37), none, []⟩,
    ⟨(some 39), .mv (.t 0), (some (38, true)), []⟩,
    ⟨(some 40), .len true (.t 39), (some (38, true)), []⟩,
    ⟨(some 41), .bin .leq (.t 40) (.c (.int .i64 16)), (some (38, true)), []⟩,
    ⟨(some 42), .pick (.t 38) (.t 41) (.c (.bool false)), none, []⟩,
    ⟨(some 2), .mv (.t 42), none, []⟩]) (
  .ret))),
  .pure, true, true⟩
theorem k20 : compF Tryd.prog { mt := false, mtAt := [], mode := .pure, clArgs := true, clRes := true } Tryd.f20 = some c20 := by kernel_rfl
/- beaconry/beaconryref01.Name -/
def c21 : AFunc := ⟨51, [.tmp 2],
  .seq (.region [
    ⟨(some 2), .mv (.c (.bool false)), none, []⟩]) (
  .seq (.seq (.region [
    ⟨(some 5), .mv (.t 0), none, []⟩,
    ⟨(some 6), .len true (.t 5), none, []⟩,
    ⟨(some 7), .bin .lss (.t 6) (.c (.int .i64 1)), none, []⟩,
    ⟨(some 8), .mv (.t 7), none, []⟩,
    ⟨(some 9), .mv (.t 0), (some (8, false)), []⟩,
    ⟨(some 10), .len true (.t 9), (some (8, false)), []⟩,
    ⟨(some 11), .bin .gtr (.t 10) (.c (.int .i64 16)), (some (8, false)), []⟩,
    ⟨(some 12), .pick (.t 8) (.c (.bool true)) (.t 11), none, []⟩,
    ⟨(some 13), .mv (.t 12), none, []⟩,
    ⟨(some 14), .mv (.t 0), (some (13, false)), []⟩,
    ⟨(some 15), .idxStr (.t 14) (.c (.int .i64 0)), (some (13, false)), []⟩,
    ⟨(some 16), .bin .lss (.t 15) (.c (.int .u8 97)), (some (13, false)), []⟩,
    ⟨(some 17), .pick (.t 13) (.c (.bool true)) (.t 16), none, []⟩,
    ⟨(some 18), .mv (.t 17), none, []⟩,
    ⟨(some 19), .mv (.t 0), (some (18, false)), []⟩,
    ⟨(some 20), .idxStr (.t 19) (.c (.int .i64 0)), (some (18, false)), []⟩,
    ⟨(some 21), .bin .gtr (.t 20) (.c (.int .u8 122)), (some (18, false)), []⟩,
    ⟨(some 22), .pick (.t 18) (.c (.bool true)) (.t 21), none, []⟩]) (
  .cond (.t 22) (
    .seq (.region [
      ⟨(some 2), .mv (.c (.bool false)), none, []⟩]) (
    .ret)) (
    .skip))) (
  .seq (.seq (.region [
    ⟨(some 3), .mv (.c (.int .i64 1)), none, []⟩]) (
  .block 0 (
    .loop (
      .seq (.seq (.region [
        ⟨(some 23), .mv (.t 3), none, []⟩,
        ⟨(some 24), .mv (.t 0), none, []⟩,
        ⟨(some 25), .len true (.t 24), none, []⟩,
        ⟨(some 26), .bin .lss (.t 23) (.t 25), none, []⟩]) (
      .cond (.t 26) (
        .skip) (
        .exit 0))) (
      .seq (.block 1 (
        .seq (.region [
          ⟨(some 29), .mv (.t 0), none, []⟩,
          ⟨(some 30), .mv (.t 3), none, []⟩,
          ⟨(some 31), .idxStr (.t 29) (.t 30), none, []⟩,
          ⟨(some 4), .mv (.t 31), none, []⟩]) (
        .seq (.region [
          ⟨(some 32), .mv (.t 4), none, []⟩,
          ⟨(some 33), .bin .geq (.t 32) (.c (.int .u8 97)), none, []⟩,
          ⟨(some 34), .mv (.t 33), none, []⟩,
          ⟨(some 35), .mv (.t 4), (some (34, true)), []⟩,
          ⟨(some 36), .bin .leq (.t 35) (.c (.int .u8 122)), (some (34, true)), []⟩,
          ⟨(some 37), .pick (.t 34) (.t 36) (.c (.bool false)), none, []⟩,
          ⟨(some 38), .mv (.t 37), none, []⟩,
          ⟨(some 39), .mv (.t 4), (some (38, false)), []⟩,
          ⟨(some 40), .bin .geq (.t 39) (.c (.int .u8 48)), (some (38, false)), []⟩,
          ⟨(some 41), .mv (.t 40), (some (38, false)), []⟩,
          ⟨(some 42), .mv (.t 4), (some (41, true)), []⟩,
          ⟨(some 43), .bin .leq (.t 42) (.c (.int .u8 57)), (some (41, true)), []⟩,
          ⟨(some 44), .pick (.t 41) (.t 43) (.c (.bool false)), (some (38, false)), []⟩,
          ⟨(some 45), .pick (.t 38) (.c (.bool true)) (.t 44), none, []⟩,
          ⟨(some 46), .mv (.t 45), none, []⟩,
          ⟨(some 47), .mv (.t 4), (some (46, false)), []⟩,
          ⟨(some 48), .bin .eql (.t 47) (.c (.int .u8 95)), (some (46, false)), []⟩,
          ⟨(some 49), .pick (.t 46) (.c (.bool true)) (.t 48), none, []⟩,
          ⟨(some 50), .un .not (.t 49), none, []⟩]) (
        .cond (.t 50) (
          .seq (.region [
            ⟨(some 2), .mv (.c (.bool false)), none, []⟩]) (
          .ret)) (
          .skip))))) (
      .region [
        ⟨(some 27), .mv (.t 3), none, []⟩,
        ⟨(some 28), .bin .add (.t 27) (.c (.int .i64 1)), none, []⟩,
        ⟨(some 3), .mv (.t 28), none, []⟩])))))) (
  .seq (.region [
    ⟨(some 2), .mv (.c (.bool true)), none, []⟩]) (
  .ret)))),
  .pure, true, true⟩
theorem k21 : compF Tryd.prog { mt := false, mtAt := [], mode := .pure, clArgs := true, clRes := true } Tryd.f21 = some c21 := by kernel_rfl
/- beaconry/value.Right -/
def c22 : AFunc := ⟨5, [.tmp 2],
  .seq (.region [
    ⟨(some 1), .box (.t 0), none, []⟩,
    ⟨(some 2), .mv (.c (.bool false)), none, []⟩]) (
  .seq (.region [
    ⟨(some 3), .load 4 true (.t 1), none, []⟩,
    ⟨(some 4), .call 34 [.t 3, .c (.int .i64 4)], none, []⟩,
    ⟨(some 2), .mv (.t 4), none, []⟩]) (
  .ret)),
  .pure, true, true⟩
theorem k22 : compF Tryd.prog { mt := false, mtAt := [], mode := .pure, clArgs := true, clRes := true } Tryd.f22 = some c22 := by kernel_rfl
/- beaconry/beaconryref01.Right -/
def c23 : AFunc := ⟨5, [.tmp 2],
  .seq (.region [
    ⟨(some 1), .box (.t 0), none, []⟩,
    ⟨(some 2), .mv (.c (.bool false)), none, []⟩]) (
  .seq (.region [
    ⟨(some 3), .load 4 true (.t 1), none, []⟩,
    ⟨(some 4), .call 35 [.t 3, .c (.int .i64 4)], none, []⟩,
    ⟨(some 2), .mv (.t 4), none, []⟩]) (
  .ret)),
  .pure, true, true⟩
theorem k23 : compF Tryd.prog { mt := false, mtAt := [], mode := .pure, clArgs := true, clRes := true } Tryd.f23 = some c23 := by kernel_rfl
/- beaconry/value.Compare -/
def c24 : AFunc := ⟨38, [.tmp 4],
  .seq (.region [
    ⟨(some 2), .box (.t 0), none, []⟩,
    ⟨(some 3), .box (.t 1), none, []⟩,
    ⟨(some 4), .mv (.c (.int .i64 0)), none, []⟩]) (
  .seq (.seq (.region [
    ⟨(some 6), .faddr 0 (.t 2), none, []⟩,
    ⟨(some 7), .load 1 false (.t 6), none, []⟩,
    ⟨(some 8), .faddr 0 (.t 3), none, []⟩,
    ⟨(some 9), .load 1 false (.t 8), none, []⟩,
    ⟨(some 10), .call 36 [.t 7, .t 9], none, []⟩,
    ⟨(some 5), .mv (.t 10), none, []⟩]) (
  .seq (.region [
    ⟨(some 11), .mv (.t 5), none, []⟩,
    ⟨(some 12), .bin .neq (.t 11) (.c (.int .i64 0)), none, []⟩]) (
  .cond (.t 12) (
    .seq (.region [
      ⟨(some 13), .mv (.t 5), none, []⟩,
      ⟨(some 4), .mv (.t 13), none, []⟩]) (
    .ret)) (
    .skip)))) (
  .seq (.seq (.region [
    ⟨(some 14), .faddr 0 (.t 2), none, []⟩,
    ⟨(some 15), .load 1 false (.t 14), none, []⟩]) (
  .block 0 (
    .seq (.region [
      ⟨(some 17), .bin .eql (.t 15) (.c (.int .i64 1)), none, []⟩,
      ⟨(some 16), .mv (.t 17), none, []⟩]) (
    .cond (.t 16) (
      .seq (.region [
        ⟨(some 18), .faddr 1 (.t 2), none, []⟩,
        ⟨(some 19), .load 1 false (.t 18), none, []⟩,
        ⟨(some 20), .faddr 1 (.t 3), none, []⟩,
        ⟨(some 21), .load 1 false (.t 20), none, []⟩,
        ⟨(some 22), .call 36 [.t 19, .t 21], none, []⟩,
        ⟨(some 4), .mv (.t 22), none, []⟩]) (
      .ret)) (
      .seq (.seq (.region [
        ⟨(some 24), .bin .eql (.t 15) (.c (.int .i64 2)), none, []⟩,
        ⟨(some 23), .mv (.t 24), none, []⟩]) (
      .cond (.t 23) (
        .skip) (
        .region [
          ⟨(some 25), .bin .eql (.t 15) (.c (.int .i64 3)), none, []⟩,
          ⟨(some 23), .mv (.t 25), none, []⟩]))) (
      .cond (.t 23) (
        .seq (.region [
          ⟨(some 26), .faddr 2 (.t 2), none, []⟩,
          ⟨(some 27), .load 1 false (.t 26), none, []⟩,
          ⟨(some 28), .faddr 2 (.t 3), none, []⟩,
          ⟨(some 29), .load 1 false (.t 28), none, []⟩,
          ⟨(some 30), .call 37 [.t 27, .t 29], none, []⟩,
          ⟨(some 4), .mv (.t 30), none, []⟩]) (
        .ret)) (
        .seq (.region [
          ⟨(some 32), .bin .eql (.t 15) (.c (.int .i64 4)), none, []⟩,
          ⟨(some 31), .mv (.t 32), none, []⟩]) (
        .cond (.t 31) (
          .seq (.region [
            ⟨(some 33), .faddr 3 (.t 2), none, []⟩,
            ⟨(some 34), .load 1 false (.t 33), none, []⟩,
            ⟨(some 35), .faddr 3 (.t 3), none, []⟩,
            ⟨(some 36), .load 1 false (.t 35), none, []⟩,
            ⟨(some 37), .call 38 [.t 34, .t 36, .f 24], none, []⟩,
            ⟨(some 4), .mv (.t 37), none, []⟩]) (
          .ret)) (
          .skip))))))))) (
  .seq (.region [
    ⟨(some 4), .mv (.c (.int .i64 0)), none, []⟩]) (
  .ret)))),
  .pure, true, true⟩
theorem k24 : compF Tryd.prog { mt := false, mtAt := [], mode := .pure, clArgs := true, clRes := true } Tryd.f24 = some c24 := by kernel_rfl
/- beaconry/beaconryref01.Compare -/
def c25 : AFunc := ⟨92, [.tmp 4],
  .seq (.region [
    ⟨(some 2), .box (.t 0), none, []⟩,
    ⟨(some 3), .box (.t 1), none, []⟩,
    ⟨(some 4), .mv (.c (.int .i64 0)), none, []⟩]) (
  .seq (.seq (.region [
    ⟨(some 7), .faddr 0 (.t 2), none, []⟩,
    ⟨(some 8), .load 1 false (.t 7), none, []⟩,
    ⟨(some 9), .faddr 0 (.t 3), none, []⟩,
    ⟨(some 10), .load 1 false (.t 9), none, []⟩,
    ⟨(some 11), .bin .neq (.t 8) (.t 10), none, []⟩]) (
  .cond (.t 11) (
    .seq (.region [
      ⟨(some 12), .faddr 0 (.t 2), none, []⟩,
      ⟨(some 13), .load 1 false (.t 12), none, []⟩,
      ⟨(some 14), .faddr 0 (.t 3), none, []⟩,
      ⟨(some 15), .load 1 false (.t 14), none, []⟩,
      ⟨(some 16), .bin .lss (.t 13) (.t 15), none, []⟩,
      ⟨(some 17), .call 39 [.t 16, .c (.bool true)], none, []⟩,
      ⟨(some 4), .mv (.t 17), none, []⟩]) (
    .ret)) (
    .skip))) (
  .seq (.seq (.region [
    ⟨(some 18), .faddr 0 (.t 2), none, []⟩,
    ⟨(some 19), .load 1 false (.t 18), none, []⟩]) (
  .block 0 (
    .seq (.region [
      ⟨(some 21), .bin .eql (.t 19) (.c (.int .i64 1)), none, []⟩,
      ⟨(some 20), .mv (.t 21), none, []⟩]) (
    .cond (.t 20) (
      .seq (.region [
        ⟨(some 22), .faddr 1 (.t 2), none, []⟩,
        ⟨(some 23), .load 1 false (.t 22), none, []⟩,
        ⟨(some 24), .faddr 1 (.t 3), none, []⟩,
        ⟨(some 25), .load 1 false (.t 24), none, []⟩,
        ⟨(some 26), .bin .lss (.t 23) (.t 25), none, []⟩,
        ⟨(some 27), .faddr 1 (.t 2), none, []⟩,
        ⟨(some 28), .load 1 false (.t 27), none, []⟩,
        ⟨(some 29), .faddr 1 (.t 3), none, []⟩,
        ⟨(some 30), .load 1 false (.t 29), none, []⟩,
        ⟨(some 31), .bin .gtr (.t 28) (.t 30), none, []⟩,
        ⟨(some 32), .call 39 [.t 26, .t 31], none, []⟩,
        ⟨(some 4), .mv (.t 32), none, []⟩]) (
      .ret)) (
      .seq (.seq (.region [
        ⟨(some 34), .bin .eql (.t 19) (.c (.int .i64 2)), none, []⟩,
        ⟨(some 33), .mv (.t 34), none, []⟩]) (
      .cond (.t 33) (
        .skip) (
        .region [
          ⟨(some 35), .bin .eql (.t 19) (.c (.int .i64 3)), none, []⟩,
          ⟨(some 33), .mv (.t 35), none, []⟩]))) (
      .cond (.t 33) (
        .seq (.region [
          ⟨(some 36), .faddr 2 (.t 2), none, []⟩,
          ⟨(some 37), .load 1 false (.t 36), none, []⟩,
          ⟨(some 38), .faddr 2 (.t 3), none, []⟩,
          ⟨(some 39), .load 1 false (.t 38), none, []⟩,
          ⟨(some 40), .bin .lss (.t 37) (.t 39), none, []⟩,
          ⟨(some 41), .faddr 2 (.t 2), none, []⟩,
          ⟨(some 42), .load 1 false (.t 41), none, []⟩,
          ⟨(some 43), .faddr 2 (.t 3), none, []⟩,
          ⟨(some 44), .load 1 false (.t 43), none, []⟩,
          ⟨(some 45), .bin .gtr (.t 42) (.t 44), none, []⟩,
          ⟨(some 46), .call 39 [.t 40, .t 45], none, []⟩,
          ⟨(some 4), .mv (.t 46), none, []⟩]) (
        .ret)) (
        .seq (.region [
          ⟨(some 48), .bin .eql (.t 19) (.c (.int .i64 4)), none, []⟩,
          ⟨(some 47), .mv (.t 48), none, []⟩]) (
        .cond (.t 47) (
          .seq (.seq (.region [
            ⟨(some 5), .mv (.c (.int .i64 0)), none, []⟩]) (
          .block 1 (
            .loop (
              .seq (.seq (.region [
                ⟨(some 49), .mv (.t 5), none, []⟩,
                ⟨(some 50), .faddr 3 (.t 2), none, []⟩,
                ⟨(some 51), .load 1 false (.t 50), none, []⟩,
                ⟨(some 52), .len false (.t 51), none, []⟩,
                ⟨(some 53), .bin .lss (.t 49) (.t 52), none, []⟩,
                ⟨(some 54), .mv (.t 53), none, []⟩,
                ⟨(some 55), .mv (.t 5), (some (54, true)), []⟩,
                ⟨(some 56), .faddr 3 (.t 3), (some (54, true)), []⟩,
                ⟨(some 57), .load 1 false (.t 56), (some (54, true)), []⟩,
                ⟨(some 58), .len false (.t 57), (some (54, true)), []⟩,
                ⟨(some 59), .bin .lss (.t 55) (.t 58), (some (54, true)), []⟩,
                ⟨(some 60), .pick (.t 54) (.t 59) (.c (.bool false)), none, []⟩]) (
              .cond (.t 60) (
                .skip) (
                .exit 1))) (
              .seq (.block 2 (
                .seq (.region [
                  ⟨(some 63), .faddr 3 (.t 2), none, []⟩,
                  ⟨(some 64), .load 1 false (.t 63), none, []⟩,
                  ⟨(some 65), .mv (.t 5), none, []⟩,
                  ⟨(some 66), .iaddrS 4 (.t 64) (.t 65), none, []⟩,
                  ⟨(some 67), .load 4 true (.t 66), none, []⟩,
                  ⟨(some 68), .faddr 3 (.t 3), none, []⟩,
                  ⟨(some 69), .load 1 false (.t 68), none, []⟩,
                  ⟨(some 70), .mv (.t 5), none, []⟩,
                  ⟨(some 71), .iaddrS 4 (.t 69) (.t 70), none, []⟩,
                  ⟨(some 72), .load 4 true (.t 71), none, []⟩,
                  ⟨(some 73), .call 25 [.t 67, .t 72], none, []⟩,
                  ⟨(some 6), .mv (.t 73), none, []⟩]) (
                .seq (.region [
                  ⟨(some 74), .mv (.t 6), none, []⟩,
                  ⟨(some 75), .bin .neq (.t 74) (.c (.int .i64 0)), none, []⟩]) (
                .cond (.t 75) (
                  .seq (.region [
                    ⟨(some 76), .mv (.t 6), none, []⟩,
                    ⟨(some 4), .mv (.t 76), none, []⟩]) (
                  .ret)) (
                  .skip))))) (
              .region [
                ⟨(some 61), .mv (.t 5), none, []⟩,
                ⟨(some 62), .bin .add (.t 61) (.c (.int .i64 1)), none, []⟩,
                ⟨(some 5), .mv (.t 62), none, []⟩])))))) (
          .seq (.region [
            ⟨(some 77), .faddr 3 (.t 2), none, []⟩,
            ⟨(some 78), .load 1 false (.t 77), none, []⟩,
            ⟨(some 79), .len false (.t 78), none, []⟩,
            ⟨(some 80), .faddr 3 (.t 3), none, []⟩,
            ⟨(some 81), .load 1 false (.t 80), none, []⟩,
            ⟨(some 82), .len false (.t 81), none, []⟩,
            ⟨(some 83), .bin .lss (.t 79) (.t 82), none, []⟩,
            ⟨(some 84), .faddr 3 (.t 2), none, []⟩,
            ⟨(some 85), .load 1 false (.t 84), none, []⟩,
            ⟨(some 86), .len false (.t 85), none, []⟩,
            ⟨(some 87), .faddr 3 (.t 3), none, []⟩,
            ⟨(some 88), .load 1 false (.t 87), none, []⟩,
            ⟨(some 89), .len false (.t 88), none, []⟩,
            ⟨(some 90), .bin .gtr (.t 86) (.t 89), none, []⟩,
            ⟨(some 91), .call 39 [.t 83, .t 90], none, []⟩,
            ⟨(some 4), .mv (.t 91), none, []⟩]) (
          .ret))) (
          .skip))))))))) (
  .seq (.region [
    ⟨(some 4), .mv (.c (.int .i64 0)), none, []⟩]) (
  .ret)))),
  .pure, true, true⟩
theorem k25 : compF Tryd.prog { mt := false, mtAt := [], mode := .pure, clArgs := true, clRes := true } Tryd.f25 = some c25 := by kernel_rfl
/- beaconry/value.Print -/
def c26 : AFunc := ⟨10, [.tmp 2],
  .seq (.region [
    ⟨(some 1), .box (.t 0), none, []⟩,
    ⟨(some 2), .mv (.c (.str ⟨#[]⟩)), none, []⟩]) (
  .seq (.seq (.region [
    ⟨(some 4), .load 4 true (.t 1), none, []⟩,
    ⟨(some 5), .call 22 [.t 4], none, []⟩,
    ⟨(some 6), .un .not (.t 5), none, []⟩]) (
  .cond (.t 6) (
    .seq (.region [
      ⟨(some 2), .mv (.c (.str ⟨#[]⟩)), none, []⟩]) (
    .ret)) (
    .skip))) (
  .seq (.region [
    ⟨(some 3), .allocB 52 5, none, []⟩]) (
  .seq (.region [
    ⟨(some 7), .load 4 true (.t 1), none, []⟩,
    ⟨(some 8), .call 40 [.t 3, .t 7], none, []⟩]) (
  .seq (.region [
    ⟨(some 9), .call 41 [.t 3], none, []⟩,
    ⟨(some 2), .mv (.t 9), none, []⟩]) (
  .ret))))),
  .pure, true, true⟩
theorem k26 : compF Tryd.prog { mt := false, mtAt := [], mode := .pure, clArgs := true, clRes := true } Tryd.f26 = some c26 := by kernel_rfl
/- beaconry/beaconryref01.Print -/
def c27 : AFunc := ⟨48, [.tmp 2],
  .seq (.region [
    ⟨(some 1), .box (.t 0), none, []⟩,
    ⟨(some 2), .mv (.c (.str ⟨#[]⟩)), none, []⟩]) (
  .seq (.region [
    ⟨(some 6), .load 4 true (.t 1), none, []⟩,
    ⟨(some 7), .call 23 [.t 6], none, []⟩,
    ⟨(some 3), .mv (.t 7), none, []⟩]) (
  .seq (.seq (.region [
    ⟨(some 8), .mv (.t 3), none, []⟩,
    ⟨(some 9), .un .not (.t 8), none, []⟩]) (
  .cond (.t 9) (
    .seq (.region [
      ⟨(some 2), .mv (.c (.str ⟨#[]⟩)), none, []⟩]) (
    .ret)) (
    .skip))) (
  .seq (.seq (.region [
    ⟨(some 10), .faddr 0 (.t 1), none, []⟩,
    ⟨(some 11), .load 1 false (.t 10), none, []⟩]) (
  .block 0 (
    .seq (.region [
      ⟨(some 13), .bin .eql (.t 11) (.c (.int .i64 1)), none, []⟩,
      ⟨(some 12), .mv (.t 13), none, []⟩]) (
    .cond (.t 12) (
      .seq (.region [
        ⟨(some 14), .faddr 1 (.t 1), none, []⟩,
        ⟨(some 15), .load 1 false (.t 14), none, []⟩,
        ⟨(some 16), .call 42 [.t 15], none, []⟩,
        ⟨(some 2), .mv (.t 16), none, []⟩]) (
      .ret)) (
      .seq (.region [
        ⟨(some 18), .bin .eql (.t 11) (.c (.int .i64 2)), none, []⟩,
        ⟨(some 17), .mv (.t 18), none, []⟩]) (
      .cond (.t 17) (
        .seq (.region [
          ⟨(some 19), .faddr 2 (.t 1), none, []⟩,
          ⟨(some 20), .load 1 false (.t 19), none, []⟩,
          ⟨(some 21), .bin .add (.c (.str ⟨#[34]⟩)) (.t 20), none, []⟩,
          ⟨(some 22), .bin .add (.t 21) (.c (.str ⟨#[34]⟩)), none, []⟩,
          ⟨(some 2), .mv (.t 22), none, []⟩]) (
        .ret)) (
        .seq (.region [
          ⟨(some 24), .bin .eql (.t 11) (.c (.int .i64 3)), none, []⟩,
          ⟨(some 23), .mv (.t 24), none, []⟩]) (
        .cond (.t 23) (
          .seq (.region [
            ⟨(some 25), .faddr 2 (.t 1), none, []⟩,
            ⟨(some 26), .load 1 false (.t 25), none, []⟩,
            ⟨(some 2), .mv (.t 26), none, []⟩]) (
          .ret)) (
          .skip))))))))) (
  .seq (.region [
    ⟨(some 4), .mv (.c (.str ⟨#[91]⟩)), none, []⟩]) (
  .seq (.seq (.region [
    ⟨(some 5), .mv (.c (.int .i64 0)), none, []⟩]) (
  .block 1 (
    .loop (
      .seq (.seq (.region [
        ⟨(some 27), .mv (.t 5), none, []⟩,
        ⟨(some 28), .faddr 3 (.t 1), none, []⟩,
        ⟨(some 29), .load 1 false (.t 28), none, []⟩,
        ⟨(some 30), .len false (.t 29), none, []⟩,
        ⟨(some 31), .bin .lss (.t 27) (.t 30), none, []⟩]) (
      .cond (.t 31) (
        .skip) (
        .exit 1))) (
      .seq (.block 2 (
        .seq (.seq (.region [
          ⟨(some 34), .mv (.t 5), none, []⟩,
          ⟨(some 35), .bin .gtr (.t 34) (.c (.int .i64 0)), none, []⟩]) (
        .cond (.t 35) (
          .region [
            ⟨(some 36), .mv (.t 4), none, []⟩,
            ⟨(some 37), .bin .add (.t 36) (.c (.str ⟨#[44]⟩)), none, []⟩,
            ⟨(some 4), .mv (.t 37), none, []⟩]) (
          .skip))) (
        .region [
          ⟨(some 38), .mv (.t 4), none, []⟩,
          ⟨(some 39), .faddr 3 (.t 1), none, []⟩,
          ⟨(some 40), .load 1 false (.t 39), none, []⟩,
          ⟨(some 41), .mv (.t 5), none, []⟩,
          ⟨(some 42), .iaddrS 4 (.t 40) (.t 41), none, []⟩,
          ⟨(some 43), .load 4 true (.t 42), none, []⟩,
          ⟨(some 44), .call 27 [.t 43], none, []⟩,
          ⟨(some 45), .bin .add (.t 38) (.t 44), none, []⟩,
          ⟨(some 4), .mv (.t 45), none, []⟩]))) (
      .region [
        ⟨(some 32), .mv (.t 5), none, []⟩,
        ⟨(some 33), .bin .add (.t 32) (.c (.int .i64 1)), none, []⟩,
        ⟨(some 5), .mv (.t 33), none, []⟩])))))) (
  .seq (.region [
    ⟨(some 46), .mv (.t 4), none, []⟩,
    ⟨(some 47), .bin .add (.t 46) (.c (.str ⟨#[93]⟩)), none, []⟩,
    ⟨(some 2), .mv (.t 47), none, []⟩]) (
  .ret))))))),
  .pure, true, true⟩
theorem k27 : compF Tryd.prog { mt := false, mtAt := [], mode := .pure, clArgs := true, clRes := true } Tryd.f27 = some c27 := by kernel_rfl
/- beaconry/beaconrylaw01.Fit -/
def c28 : AFunc := ⟨5, [.cell 2 4 true],
  .seq (.region [
    ⟨(some 1), .box (.t 0), none, []⟩,
    ⟨(some 2), .alloc [.int .i64 0, .int .i64 0, .str ⟨#[]⟩, .isl [] true], none, []⟩]) (
  .seq (.region [
    ⟨(some 3), .load 4 true (.t 1), none, []⟩,
    ⟨(some 4), .call 29 [.t 3, .c (.int .i64 4)], none, []⟩,
    ⟨none, .store 4 (.t 2) (.t 4), none, []⟩]) (
  .ret)),
  .pure, true, true⟩
theorem k28 : compF Tryd.prog { mt := false, mtAt := [], mode := .pure, clArgs := true, clRes := true } Tryd.f28 = some c28 := by kernel_rfl
/- beaconry/beaconrylaw01.fit -/
def c29 : AFunc := ⟨107, [.cell 4 4 true],
  .seq (.region [
    ⟨(some 2), .box (.t 0), none, []⟩,
    ⟨(some 4), .alloc [.int .i64 0, .int .i64 0, .str ⟨#[]⟩, .isl [] true], none, []⟩]) (
  .seq (.seq (.region [
    ⟨(some 11), .faddr 0 (.t 2), none, []⟩,
    ⟨(some 12), .load 1 false (.t 11), none, []⟩,
    ⟨(some 13), .call 31 [.t 12, .c (.int .i64 4)], none, []⟩]) (
  .block 0 (
    .seq (.region [
      ⟨(some 15), .bin .eql (.t 13) (.c (.int .i64 0)), none, []⟩,
      ⟨(some 14), .mv (.t 15), none, []⟩]) (
    .cond (.t 14) (
      .seq (.region [
        ⟨(some 16), .faddr 1 (.t 2), none, []⟩,
        ⟨(some 17), .load 1 false (.t 16), none, []⟩,
        ⟨(some 18), .call 31 [.t 17, .c (.int .i64 4294967295)], none, []⟩,
        ⟨(some 19), .bin .sub (.t 18) (.c (.int .i64 2147483647)), none, []⟩,
        ⟨(some 5), .mv (.t 19), none, []⟩]) (
      .seq (.region [
        ⟨(some 20), .mv (.t 5), none, []⟩,
        ⟨(some 21), .build [.int .i64 0, .int .i64 0, .str ⟨#[]⟩, .isl [] true] [(0, 1, .c (.int .i64 1)), (1, 1, .t 20)], none, []⟩,
        ⟨none, .store 4 (.t 4) (.t 21), none, []⟩]) (
      .ret))) (
      .seq (.region [
        ⟨(some 23), .bin .eql (.t 13) (.c (.int .i64 1)), none, []⟩,
        ⟨(some 22), .mv (.t 23), none, []⟩]) (
      .cond (.t 22) (
        .seq (.region [
          ⟨(some 24), .faddr 2 (.t 2), none, []⟩,
          ⟨(some 25), .load 1 false (.t 24), none, []⟩,
          ⟨(some 26), .faddr 2 (.t 2), none, []⟩,
          ⟨(some 27), .load 1 false (.t 26), none, []⟩,
          ⟨(some 28), .len true (.t 27), none, []⟩,
          ⟨(some 29), .min2 (.t 28) (.c (.int .i64 32)), none, []⟩,
          ⟨(some 30), .strSl (.t 25) none (some (.t 29)), none, []⟩,
          ⟨(some 31), .s2b (.t 30), none, []⟩,
          ⟨(some 6), .mv (.t 31), none, []⟩]) (
        .seq (.seq (.region [
          ⟨(some 7), .mv (.c (.int .i64 0)), none, []⟩]) (
        .block 1 (
          .loop (
            .seq (.seq (.region [
              ⟨(some 32), .mv (.t 7), none, []⟩,
              ⟨(some 33), .mv (.t 6), none, []⟩,
              ⟨(some 34), .len false (.t 33), none, []⟩,
              ⟨(some 35), .bin .lss (.t 32) (.t 34), none, []⟩]) (
            .cond (.t 35) (
              .skip) (
              .exit 1))) (
            .seq (.block 2 (
              .seq (.region [
                ⟨(some 38), .mv (.t 6), none, []⟩,
                ⟨(some 39), .mv (.t 7), none, []⟩,
                ⟨(some 40), .mv (.t 6), none, []⟩,
                ⟨(some 41), .mv (.t 7), none, []⟩,
                ⟨(some 42), .iaddrS 1 (.t 40) (.t 41), none, []⟩,
                ⟨(some 43), .load 1 false (.t 42), none, []⟩,
                ⟨(some 44), .bin .rem (.t 43) (.c (.int .u8 95)), none, []⟩,
                ⟨(some 45), .bin .add (.c (.int .u8 32)) (.t 44), none, []⟩,
                ⟨(some 46), .iaddrS 1 (.t 38) (.t 39), none, []⟩,
                ⟨none, .store 1 (.t 46) (.t 45), none, []⟩]) (
              .seq (.region [
                ⟨(some 47), .mv (.t 6), none, []⟩,
                ⟨(some 48), .mv (.t 7), none, []⟩,
                ⟨(some 49), .iaddrS 1 (.t 47) (.t 48), none, []⟩,
                ⟨(some 50), .load 1 false (.t 49), none, []⟩,
                ⟨(some 51), .bin .eql (.t 50) (.c (.int .u8 34)), none, []⟩,
                ⟨(some 52), .mv (.t 51), none, []⟩,
                ⟨(some 53), .mv (.t 6), (some (52, false)), []⟩,
                ⟨(some 54), .mv (.t 7), (some (52, false)), []⟩,
                ⟨(some 55), .iaddrS 1 (.t 53) (.t 54), (some (52, false)), []⟩,
                ⟨(some 56), .load 1 false (.t 55), (some (52, false)), []⟩,
                ⟨(some 57), .bin .eql (.t 56) (.c (.int .u8 92)), (some (52, false)), []⟩,
                ⟨(some 58), .pick (.t 52) (.c (.bool true)) (.t 57), none, []⟩]) (
              .cond (.t 58) (
                .region [
                  ⟨(some 59), .mv (.t 6), none, []⟩,
                  ⟨(some 60), .mv (.t 7), none, []⟩,
                  ⟨(some 61), .iaddrS 1 (.t 59) (.t 60), none, []⟩,
                  ⟨none, .store 1 (.t 61) (.c (.int .u8 32)), none, []⟩]) (
                .skip))))) (
            .region [
              ⟨(some 36), .mv (.t 7), none, []⟩,
              ⟨(some 37), .bin .add (.t 36) (.c (.int .i64 1)), none, []⟩,
              ⟨(some 7), .mv (.t 37), none, []⟩])))))) (
        .seq (.region [
          ⟨(some 62), .mv (.t 6), none, []⟩,
          ⟨(some 63), .b2s (.t 62), none, []⟩,
          ⟨(some 64), .build [.int .i64 0, .int .i64 0, .str ⟨#[]⟩, .isl [] true] [(0, 1, .c (.int .i64 2)), (2, 1, .t 63)], none, []⟩,
          ⟨none, .store 4 (.t 4) (.t 64), none, []⟩]) (
        .ret)))) (
        .seq (.region [
          ⟨(some 66), .bin .eql (.t 13) (.c (.int .i64 2)), none, []⟩,
          ⟨(some 65), .mv (.t 66), none, []⟩]) (
        .cond (.t 65) (
          .seq (.region [
            ⟨(some 67), .faddr 2 (.t 2), none, []⟩,
            ⟨(some 68), .load 1 false (.t 67), none, []⟩,
            ⟨(some 69), .call 30 [.t 68], none, []⟩,
            ⟨(some 70), .build [.int .i64 0, .int .i64 0, .str ⟨#[]⟩, .isl [] true] [(0, 1, .c (.int .i64 3)), (2, 1, .t 69)], none, []⟩,
            ⟨none, .store 4 (.t 4) (.t 70), none, []⟩]) (
          .ret)) (
          .skip))))))))) (
  .seq (.region [
    ⟨(some 71), .build [.int .i64 0, .int .i64 0, .str ⟨#[]⟩, .isl [] true] [(0, 1, .c (.int .i64 4))], none, []⟩,
    ⟨(some 8), .alloc [.int .i64 0, .int .i64 0, .str ⟨#[]⟩, .isl [] true], none, []⟩,
    ⟨none, .store 4 (.t 8) (.t 71), none, []⟩]) (
  .seq (.seq (.region [
    ⟨(some 9), .mv (.c (.int .i64 0)), none, []⟩]) (
  .block 3 (
    .loop (
      .seq (.seq (.region [
        ⟨(some 72), .mv (.t 9), none, []⟩,
        ⟨(some 73), .faddr 3 (.t 2), none, []⟩,
        ⟨(some 74), .load 1 false (.t 73), none, []⟩,
        ⟨(some 75), .len false (.t 74), none, []⟩,
        ⟨(some 76), .bin .lss (.t 72) (.t 75), none, []⟩,
        ⟨(some 77), .mv (.t 76), none, []⟩,
        ⟨(some 78), .mv (.t 9), (some (77, true)), []⟩,
        ⟨(some 79), .bin .lss (.t 78) (.c (.int .i64 16)), (some (77, true)), []⟩,
        ⟨(some 80), .pick (.t 77) (.t 79) (.c (.bool false)), none, []⟩]) (
      .cond (.t 80) (
        .skip) (
        .exit 3))) (
      .seq (.block 4 (
        .seq (.region [
          ⟨(some 83), .faddr 3 (.t 2), none, []⟩,
          ⟨(some 84), .load 1 false (.t 83), none, []⟩,
          ⟨(some 85), .mv (.t 9), none, []⟩,
          ⟨(some 86), .iaddrS 4 (.t 84) (.t 85), none, []⟩,
          ⟨(some 87), .load 4 true (.t 86), none, []⟩,
          ⟨(some 10), .alloc [.int .i64 0, .int .i64 0, .str ⟨#[]⟩, .isl [] true], none, []⟩,
          ⟨none, .store 4 (.t 10) (.t 87), none, []⟩]) (
        .seq (.seq (.region [
          ⟨(some 88), .mv (.t 1), none, []⟩,
          ⟨(some 89), .bin .leq (.t 88) (.c (.int .i64 1)), none, []⟩,
          ⟨(some 90), .mv (.t 89), none, []⟩,
          ⟨(some 91), .faddr 0 (.t 10), (some (90, true)), []⟩,
          ⟨(some 92), .load 1 false (.t 91), (some (90, true)), []⟩,
          ⟨(some 93), .call 31 [.t 92, .c (.int .i64 4)], (some (90, true)), []⟩,
          ⟨(some 94), .bin .eql (.t 93) (.c (.int .i64 3)), (some (90, true)), []⟩,
          ⟨(some 95), .pick (.t 90) (.t 94) (.c (.bool false)), none, []⟩]) (
        .cond (.t 95) (
          .region [
            ⟨(some 96), .faddr 0 (.t 10), none, []⟩,
            ⟨none, .store 1 (.t 96) (.c (.int .i64 0)), none, []⟩]) (
          .skip))) (
        .region [
          ⟨(some 97), .faddr 3 (.t 8), none, []⟩,
          ⟨(some 98), .load 1 false (.t 97), none, []⟩,
          ⟨(some 99), .load 4 true (.t 10), none, []⟩,
          ⟨(some 100), .mv (.t 1), none, []⟩,
          ⟨(some 101), .bin .sub (.t 100) (.c (.int .i64 1)), none, []⟩,
          ⟨(some 102), .call 29 [.t 99, .t 101], none, [.t 97]⟩,
          ⟨(some 103), .buildSl 1 4 true [.int .i64 0, .int .i64 0, .str ⟨#[]⟩, .isl [] true] [(0, 4, .t 102)], none, []⟩,
          ⟨(some 104), .append 4 true 56 false (.t 98) (.t 103), none, []⟩,
          ⟨(some 105), .faddr 3 (.t 8), none, []⟩,
          ⟨none, .store 1 (.t 105) (.t 104), none, []⟩])))) (
      .region [
        ⟨(some 81), .mv (.t 9), none, []⟩,
        ⟨(some 82), .bin .add (.t 81) (.c (.int .i64 1)), none, []⟩,
        ⟨(some 9), .mv (.t 82), none, []⟩])))))) (
  .seq (.region [
    ⟨(some 106), .load 4 true (.t 8), none, []⟩,
    ⟨none, .store 4 (.t 4) (.t 106), none, []⟩]) (
  .ret))))),
  .pure, true, true⟩
theorem k29 : compF Tryd.prog { mt := false, mtAt := [], mode := .pure, clArgs := true, clRes := true } Tryd.f29 = some c29 := by kernel_rfl
/- beaconry/beaconrylaw01.Name -/
def c30 : AFunc := ⟨44, [.tmp 2],
  .seq (.region [
    ⟨(some 2), .mv (.c (.str ⟨#[]⟩)), none, []⟩]) (
  .seq (.region [
    ⟨(some 6), .mv (.t 0), none, []⟩,
    ⟨(some 7), .mv (.t 0), none, []⟩,
    ⟨(some 8), .len true (.t 7), none, []⟩,
    ⟨(some 9), .min2 (.t 8) (.c (.int .i64 15)), none, []⟩,
    ⟨(some 10), .strSl (.t 6) none (some (.t 9)), none, []⟩,
    ⟨(some 11), .bin .add (.c (.str ⟨#[110]⟩)) (.t 10), none, []⟩,
    ⟨(some 12), .s2b (.t 11), none, []⟩,
    ⟨(some 3), .mv (.t 12), none, []⟩]) (
  .seq (.seq (.region [
    ⟨(some 4), .mv (.c (.int .i64 1)), none, []⟩]) (
  .block 0 (
    .loop (
      .seq (.seq (.region [
        ⟨(some 13), .mv (.t 4), none, []⟩,
        ⟨(some 14), .mv (.t 3), none, []⟩,
        ⟨(some 15), .len false (.t 14), none, []⟩,
        ⟨(some 16), .bin .lss (.t 13) (.t 15), none, []⟩]) (
      .cond (.t 16) (
        .skip) (
        .exit 0))) (
      .seq (.block 1 (
        .seq (.region [
          ⟨(some 19), .mv (.t 3), none, []⟩,
          ⟨(some 20), .mv (.t 4), none, []⟩,
          ⟨(some 21), .iaddrS 1 (.t 19) (.t 20), none, []⟩,
          ⟨(some 22), .load 1 false (.t 21), none, []⟩,
          ⟨(some 23), .bin .rem (.t 22) (.c (.int .u8 37)), none, []⟩,
          ⟨(some 5), .mv (.t 23), none, []⟩]) (
        .seq (.region [
          ⟨(some 24), .mv (.t 5), none, []⟩,
          ⟨(some 25), .bin .lss (.t 24) (.c (.int .u8 26)), none, []⟩]) (
        .cond (.t 25) (
          .region [
            ⟨(some 26), .mv (.t 3), none, []⟩,
            ⟨(some 27), .mv (.t 4), none, []⟩,
            ⟨(some 28), .mv (.t 5), none, []⟩,
            ⟨(some 29), .bin .add (.c (.int .u8 97)) (.t 28), none, []⟩,
            ⟨(some 30), .iaddrS 1 (.t 26) (.t 27), none, []⟩,
            ⟨none, .store 1 (.t 30) (.t 29), none, []⟩]) (
          .seq (.region [
            ⟨(some 31), .mv (.t 5), none, []⟩,
            ⟨(some 32), .bin .lss (.t 31) (.c (.int .u8 36)), none, []⟩]) (
          .cond (.t 32) (
            .region [
              ⟨(some 33), .mv (.t 3), none, []⟩,
              ⟨(some 34), .mv (.t 4), none, []⟩,
              ⟨(some 35), .mv (.t 5), none, []⟩,
              ⟨(some 36), .bin .add (.c (.int .u8 48)) (.t 35), none, []⟩,
              ⟨(some 37), .bin .sub (.t 36) (.c (.int .u8 26)), none, []⟩,
              ⟨(some 38), .iaddrS 1 (.t 33) (.t 34), none, []⟩,
              ⟨none, .store 1 (.t 38) (.t 37), none, []⟩]) (
            .region [
              ⟨(some 39), .mv (.t 3), none, []⟩,
              ⟨(some 40), .mv (.t 4), none, []⟩,
              ⟨(some 41), .iaddrS 1 (.t 39) (.t 40), none, []⟩,
              ⟨none, .store 1 (.t 41) (.c (.int .u8 95)), none, []⟩]))))))) (
      .region [
        ⟨(some 17), .mv (.t 4), none, []⟩,
        ⟨(some 18), .bin .add (.t 17) (.c (.int .i64 1)), none, []⟩,
        ⟨(some 4), .mv (.t 18), none, []⟩])))))) (
  .seq (.region [
    ⟨(some 42), .mv (.t 3), none, []⟩,
    ⟨(some 43), .b2s (.t 42), none, []⟩,
    ⟨(some 2), .mv (.t 43), none, []⟩]) (
  .ret)))),
  .pure, true, true⟩
theorem k30 : compF Tryd.prog { mt := false, mtAt := [], mode := .pure, clArgs := true, clRes := true } Tryd.f30 = some c30 := by kernel_rfl
/- beaconry/beaconrylaw01.pick -/
def c31 : AFunc := ⟨13, [.tmp 4],
  .seq (.region [
    ⟨(some 4), .mv (.c (.int .i64 0)), none, []⟩]) (
  .seq (.seq (.region [
    ⟨(some 5), .mv (.t 0), none, []⟩,
    ⟨(some 6), .bin .lss (.t 5) (.c (.int .i64 0)), none, []⟩]) (
  .cond (.t 6) (
    .region [
      ⟨(some 7), .mv (.t 0), none, []⟩,
      ⟨(some 8), .bin .add (.t 7) (.c (.int .i64 1)), none, []⟩,
      ⟨(some 9), .un .neg (.t 8), none, []⟩,
      ⟨(some 0), .mv (.t 9), none, []⟩]) (
    .skip))) (
  .seq (.region [
    ⟨(some 10), .mv (.t 0), none, []⟩,
    ⟨(some 11), .mv (.t 1), none, []⟩,
    ⟨(some 12), .bin .rem (.t 10) (.t 11), none, []⟩,
    ⟨(some 4), .mv (.t 12), none, []⟩]) (
  .ret))),
  .pure, true, true⟩
theorem k31 : compF Tryd.prog { mt := false, mtAt := [], mode := .pure, clArgs := true, clRes := true } Tryd.f31 = some c31 := by kernel_rfl
/- beaconry/beaconrylaw01.Values -/
def c32 : AFunc := ⟨29, [.tmp 4],
  .seq (.region [
    ⟨(some 4), .mv (.c (.bool false)), none, []⟩]) (
  .seq (.seq (.region [
    ⟨(some 7), .mv (.t 0), none, []⟩,
    ⟨(some 8), .len false (.t 7), none, []⟩,
    ⟨(some 9), .mv (.t 1), none, []⟩,
    ⟨(some 10), .len false (.t 9), none, []⟩,
    ⟨(some 11), .bin .neq (.t 8) (.t 10), none, []⟩]) (
  .cond (.t 11) (
    .seq (.region [
      ⟨(some 4), .mv (.c (.bool false)), none, []⟩]) (
    .ret)) (
    .skip))) (
  .seq (.seq (.region [
    ⟨(some 5), .mv (.c (.int .i64 0)), none, []⟩]) (
  .block 0 (
    .loop (
      .seq (.seq (.region [
        ⟨(some 12), .mv (.t 5), none, []⟩,
        ⟨(some 13), .mv (.t 0), none, []⟩,
        ⟨(some 14), .len false (.t 13), none, []⟩,
        ⟨(some 15), .bin .lss (.t 12) (.t 14), none, []⟩]) (
      .cond (.t 15) (
        .skip) (
        .exit 0))) (
      .seq (.block 1 (
        .seq (.region [
          ⟨(some 18), .mv (.t 0), none, []⟩,
          ⟨(some 19), .mv (.t 5), none, []⟩,
          ⟨(some 20), .iaddrS 4 (.t 18) (.t 19), none, []⟩,
          ⟨(some 21), .load 4 true (.t 20), none, []⟩,
          ⟨(some 22), .mv (.t 1), none, []⟩,
          ⟨(some 23), .mv (.t 5), none, []⟩,
          ⟨(some 24), .iaddrS 4 (.t 22) (.t 23), none, []⟩,
          ⟨(some 25), .load 4 true (.t 24), none, []⟩,
          ⟨(some 26), .call 11 [.t 21, .t 25], none, []⟩,
          ⟨(some 6), .mv (.t 26), none, []⟩]) (
        .seq (.region [
          ⟨(some 27), .mv (.t 6), none, []⟩,
          ⟨(some 28), .un .not (.t 27), none, []⟩]) (
        .cond (.t 28) (
          .seq (.region [
            ⟨(some 4), .mv (.c (.bool false)), none, []⟩]) (
          .ret)) (
          .skip))))) (
      .region [
        ⟨(some 16), .mv (.t 5), none, []⟩,
        ⟨(some 17), .bin .add (.t 16) (.c (.int .i64 1)), none, []⟩,
        ⟨(some 5), .mv (.t 17), none, []⟩])))))) (
  .seq (.region [
    ⟨(some 4), .mv (.c (.bool true)), none, []⟩]) (
  .ret)))),
  .pure, true, true⟩
theorem k32 : compF Tryd.prog { mt := false, mtAt := [], mode := .pure, clArgs := true, clRes := true } Tryd.f32 = some c32 := by kernel_rfl
/- 33 slices.Clone[[]beaconry/api.Value,beaconry/api.Value]: told elsewhere -/
/- beaconry/value.right -/
def c34 : AFunc := ⟨67, [.tmp 4],
  .seq (.region [
    ⟨(some 2), .box (.t 0), none, []⟩,
    ⟨(some 3), .box (.t 1), none, []⟩,
    ⟨(some 4), .mv (.c (.bool false)), none, []⟩]) (
  .seq (.region [
    ⟨(some 6), .load 4 true (.t 2), none, []⟩,
    ⟨(some 5), .alloc [.int .i64 0, .int .i64 0, .str ⟨#[]⟩, .isl [] true], none, []⟩,
    ⟨none, .store 4 (.t 5) (.t 6), none, []⟩]) (
  .seq (.region [
    ⟨(some 7), .faddr 0 (.t 5), none, []⟩,
    ⟨none, .store 1 (.t 7) (.c (.int .i64 0)), none, []⟩]) (
  .seq (.seq (.region [
    ⟨(some 8), .faddr 0 (.t 2), none, []⟩,
    ⟨(some 9), .load 1 false (.t 8), none, []⟩]) (
  .block 0 (
    .seq (.region [
      ⟨(some 11), .bin .eql (.t 9) (.c (.int .i64 1)), none, []⟩,
      ⟨(some 10), .mv (.t 11), none, []⟩]) (
    .cond (.t 10) (
      .seq (.region [
        ⟨(some 12), .faddr 1 (.t 5), none, []⟩,
        ⟨none, .store 1 (.t 12) (.c (.int .i64 0)), none, []⟩]) (
      .seq (.region [
        ⟨(some 13), .load 4 true (.t 5), none, []⟩,
        ⟨(some 14), .call 43 [.t 13], none, []⟩,
        ⟨(some 15), .mv (.t 14), none, []⟩,
        ⟨(some 16), .faddr 1 (.t 2), (some (15, true)), []⟩,
        ⟨(some 17), .load 1 false (.t 16), (some (15, true)), []⟩,
        ⟨(some 18), .bin .leq (.t 17) (.c (.int .i64 2147483647)), (some (15, true)), []⟩,
        ⟨(some 19), .pick (.t 15) (.t 18) (.c (.bool false)), none, []⟩,
        ⟨(some 20), .mv (.t 19), none, []⟩,
        ⟨(some 21), .faddr 1 (.t 2), (some (20, true)), []⟩,
        ⟨(some 22), .load 1 false (.t 21), (some (20, true)), []⟩,
        ⟨(some 23), .bin .geq (.t 22) (.c (.int .i64 (-2147483647))), (some (20, true)), []⟩,
        ⟨(some 24), .pick (.t 20) (.t 23) (.c (.bool false)), none, []⟩,
        ⟨(some 4), .mv (.t 24), none, []⟩]) (
      .ret))) (
      .seq (.region [
        ⟨(some 26), .bin .eql (.t 9) (.c (.int .i64 2)), none, []⟩,
        ⟨(some 25), .mv (.t 26), none, []⟩]) (
      .cond (.t 25) (
        .seq (.region [
          ⟨(some 27), .faddr 2 (.t 5), none, []⟩,
          ⟨none, .store 1 (.t 27) (.c (.str ⟨#[]⟩)), none, []⟩]) (
        .seq (.region [
          ⟨(some 28), .load 4 true (.t 5), none, []⟩,
          ⟨(some 29), .call 43 [.t 28], none, []⟩,
          ⟨(some 30), .mv (.t 29), none, []⟩,
          ⟨(some 31), .faddr 2 (.t 2), (some (30, true)), []⟩,
          ⟨(some 32), .load 1 false (.t 31), (some (30, true)), []⟩,
          ⟨(some 33), .call 44 [.t 32], (some (30, true)), []⟩,
          ⟨(some 34), .pick (.t 30) (.t 33) (.c (.bool false)), none, []⟩,
          ⟨(some 4), .mv (.t 34), none, []⟩]) (
        .ret))) (
        .seq (.region [
          ⟨(some 36), .bin .eql (.t 9) (.c (.int .i64 3)), none, []⟩,
          ⟨(some 35), .mv (.t 36), none, []⟩]) (
        .cond (.t 35) (
          .seq (.region [
            ⟨(some 37), .faddr 2 (.t 5), none, []⟩,
            ⟨none, .store 1 (.t 37) (.c (.str ⟨#[]⟩)), none, []⟩]) (
          .seq (.region [
            ⟨(some 38), .load 4 true (.t 5), none, []⟩,
            ⟨(some 39), .call 43 [.t 38], none, []⟩,
            ⟨(some 40), .mv (.t 39), none, []⟩,
            ⟨(some 41), .faddr 2 (.t 2), (some (40, true)), []⟩,
            ⟨(some 42), .load 1 false (.t 41), (some (40, true)), []⟩,
            ⟨(some 43), .call 20 [.t 42], (some (40, true)), []⟩,
            ⟨(some 44), .pick (.t 40) (.t 43) (.c (.bool false)), none, []⟩,
            ⟨(some 4), .mv (.t 44), none, []⟩]) (
          .ret))) (
          .seq (.region [
            ⟨(some 46), .bin .eql (.t 9) (.c (.int .i64 4)), none, []⟩,
            ⟨(some 45), .mv (.t 46), none, []⟩]) (
          .cond (.t 45) (
            .seq (.region [
              ⟨(some 47), .faddr 3 (.t 5), none, []⟩,
              ⟨none, .store 1 (.t 47) (.c (.isl [] true)), none, []⟩]) (
            .seq (.region [
              ⟨(some 48), .load 4 true (.t 5), none, []⟩,
              ⟨(some 49), .call 43 [.t 48], none, []⟩,
              ⟨(some 50), .mv (.t 49), none, []⟩,
              ⟨(some 51), .load 1 false (.t 3), (some (50, true)), []⟩,
              ⟨(some 52), .bin .gtr (.t 51) (.c (.int .i64 0)), (some (50, true)), []⟩,
              ⟨(some 53), .pick (.t 50) (.t 52) (.c (.bool false)), none, []⟩,
              ⟨(some 54), .mv (.t 53), none, []⟩,
              ⟨(some 55), .faddr 3 (.t 2), (some (54, true)), []⟩,
              ⟨(some 56), .load 1 false (.t 55), (some (54, true)), []⟩,
              ⟨(some 57), .len false (.t 56), (some (54, true)), []⟩,
              ⟨(some 58), .bin .leq (.t 57) (.c (.int .i64 16)), (some (54, true)), []⟩,
              ⟨(some 59), .pick (.t 54) (.t 58) (.c (.bool false)), none, []⟩,
              ⟨(some 60), .mv (.t 59), none, []⟩,
              ⟨(some 61), .faddr 3 (.t 2), (some (60, true)), []⟩,
              ⟨(some 62), .load 1 false (.t 61), (some (60, true)), []⟩,
              ⟨(some 63), .mkfn 46 [.t 3], (some (60, true)), []⟩,
              ⟨(some 64), .call 45 [.t 62, .t 63], (some (60, true)), []⟩,
              ⟨(some 65), .un .not (.t 64), (some (60, true)), []⟩,
              ⟨(some 66), .pick (.t 60) (.t 65) (.c (.bool false)), none, []⟩,
              ⟨(some 4), .mv (.t 66), none, []⟩]) (
            .ret))) (
            .skip))))))))))) (
  .seq (.region [
    ⟨(some 4), .mv (.c (.bool false)), none, []⟩]) (
  .ret))))),
  .pure, true, true⟩
theorem k34 : compF Tryd.prog { mt := false, mtAt := [], mode := .pure, clArgs := true, clRes := true } Tryd.f34 = some c34 := by kernel_rfl
/- beaconry/beaconryref01.deep -/
def c35 : AFunc := ⟨125, [.tmp 4],
  .seq (.region [
    ⟨(some 2), .box (.t 0), none, []⟩,
    ⟨(some 4), .mv (.c (.bool false)), none, []⟩]) (
  .seq (.seq (.region [
    ⟨(some 9), .faddr 0 (.t 2), none, []⟩,
    ⟨(some 10), .load 1 false (.t 9), none, []⟩,
    ⟨(some 11), .bin .eql (.t 10) (.c (.int .i64 1)), none, []⟩]) (
  .cond (.t 11) (
    .seq (.region [
      ⟨(some 12), .faddr 2 (.t 2), none, []⟩,
      ⟨(some 13), .load 1 false (.t 12), none, []⟩,
      ⟨(some 14), .bin .eql (.t 13) (.c (.str ⟨#[]⟩)), none, []⟩,
      ⟨(some 15), .mv (.t 14), none, []⟩,
      ⟨(some 16), .faddr 3 (.t 2), (some (15, true)), []⟩,
      ⟨(some 17), .load 1 false (.t 16), (some (15, true)), []⟩,
      ⟨(some 18), .len false (.t 17), (some (15, true)), []⟩,
      ⟨(some 19), .bin .eql (.t 18) (.c (.int .i64 0)), (some (15, true)), []⟩,
      ⟨(some 20), .pick (.t 15) (.t 19) (.c (.bool false)), none, []⟩,
      ⟨(some 21), .mv (.t 20), none, []⟩,
      ⟨(some 22), .faddr 1 (.t 2), (some (21, true)), []⟩,
      ⟨(some 23), .load 1 false (.t 22), (some (21, true)), []⟩,
      ⟨(some 24), .bin .leq (.t 23) (.c (.int .i64 2147483647)), (some (21, true)), []⟩,
      ⟨(some 25), .pick (.t 21) (.t 24) (.c (.bool false)), none, []⟩,
      ⟨(some 26), .mv (.t 25), none, []⟩,
      ⟨(some 27), .faddr 1 (.t 2), (some (26, true)), []⟩,
      ⟨(some 28), .load 1 false (.t 27), (some (26, true)), []⟩,
      ⟨(some 29), .bin .geq (.t 28) (.c (.int .i64 (-2147483647))), (some (26, true)), []⟩,
      ⟨(some 30), .pick (.t 26) (.t 29) (.c (.bool false)), none, []⟩,
      ⟨(some 4), .mv (.t 30), none, []⟩]) (
    .ret)) (
    .skip))) (
  .seq (.seq (.region [
    ⟨(some 31), .faddr 1 (.t 2), none, []⟩,
    ⟨(some 32), .load 1 false (.t 31), none, []⟩,
    ⟨(some 33), .bin .neq (.t 32) (.c (.int .i64 0)), none, []⟩]) (
  .cond (.t 33) (
    .seq (.region [
      ⟨(some 4), .mv (.c (.bool false)), none, []⟩]) (
    .ret)) (
    .skip))) (
  .seq (.seq (.region [
    ⟨(some 34), .faddr 0 (.t 2), none, []⟩,
    ⟨(some 35), .load 1 false (.t 34), none, []⟩]) (
  .block 0 (
    .seq (.region [
      ⟨(some 37), .bin .eql (.t 35) (.c (.int .i64 2)), none, []⟩,
      ⟨(some 36), .mv (.t 37), none, []⟩]) (
    .cond (.t 36) (
      .seq (.seq (.region [
        ⟨(some 5), .mv (.c (.int .i64 0)), none, []⟩]) (
      .block 1 (
        .loop (
          .seq (.seq (.region [
            ⟨(some 38), .mv (.t 5), none, []⟩,
            ⟨(some 39), .faddr 2 (.t 2), none, []⟩,
            ⟨(some 40), .load 1 false (.t 39), none, []⟩,
            ⟨(some 41), .len true (.t 40), none, []⟩,
            ⟨(some 42), .bin .lss (.t 38) (.t 41), none, []⟩]) (
          .cond (.t 42) (
            .skip) (
            .exit 1))) (
          .seq (.block 2 (
            .seq (.region [
              ⟨(some 45), .faddr 2 (.t 2), none, []⟩,
              ⟨(some 46), .load 1 false (.t 45), none, []⟩,
              ⟨(some 47), .mv (.t 5), none, []⟩,
              ⟨(some 48), .idxStr (.t 46) (.t 47), none, []⟩,
              ⟨(some 49), .bin .lss (.t 48) (.c (.int .u8 32)), none, []⟩,
              ⟨(some 50), .mv (.t 49), none, []⟩,
              ⟨(some 51), .faddr 2 (.t 2), (some (50, false)), []⟩,
              ⟨(some 52), .load 1 false (.t 51), (some (50, false)), []⟩,
              ⟨(some 53), .mv (.t 5), (some (50, false)), []⟩,
              ⟨(some 54), .idxStr (.t 52) (.t 53), (some (50, false)), []⟩,
              ⟨(some 55), .bin .gtr (.t 54) (.c (.int .u8 126)), (some (50, false)), []⟩,
              ⟨(some 56), .pick (.t 50) (.c (.bool true)) (.t 55), none, []⟩,
              ⟨(some 57), .mv (.t 56), none, []⟩,
              ⟨(some 58), .faddr 2 (.t 2), (some (57, false)), []⟩,
              ⟨(some 59), .load 1 false (.t 58), (some (57, false)), []⟩,
              ⟨(some 60), .mv (.t 5), (some (57, false)), []⟩,
              ⟨(some 61), .idxStr (.t 59) (.t 60), (some (57, false)), []⟩,
              ⟨(some 62), .bin .eql (.t 61) (.c (.int .u8 34)), (some (57, false)), []⟩,
              ⟨(some 63), .pick (.t 57) (.c (.bool true)) (.t 62), none, []⟩,
              ⟨(some 64), .mv (.t 63), none, []⟩,
              ⟨(some 65), .faddr 2 (.t 2), (some (64, false)), []⟩,
              ⟨(some 66), .load 1 false (.t 65), (some (64, false)), []⟩,
              ⟨(some 67), .mv (.t 5), (some (64, false)), []⟩,
              ⟨(some 68), .idxStr (.t 66) (.t 67), (some (64, false)), []⟩,
              ⟨(some 69), .bin .eql (.t 68) (.c (.int .u8 92)), (some (64, false)), []⟩,
              ⟨(some 70), .pick (.t 64) (.c (.bool true)) (.t 69), none, []⟩]) (
            .cond (.t 70) (
              .seq (.region [
                ⟨(some 4), .mv (.c (.bool false)), none, []⟩]) (
              .ret)) (
              .skip)))) (
          .region [
            ⟨(some 43), .mv (.t 5), none, []⟩,
            ⟨(some 44), .bin .add (.t 43) (.c (.int .i64 1)), none, []⟩,
            ⟨(some 5), .mv (.t 44), none, []⟩])))))) (
      .seq (.region [
        ⟨(some 71), .faddr 2 (.t 2), none, []⟩,
        ⟨(some 72), .load 1 false (.t 71), none, []⟩,
        ⟨(some 73), .len true (.t 72), none, []⟩,
        ⟨(some 74), .bin .leq (.t 73) (.c (.int .i64 32)), none, []⟩,
        ⟨(some 75), .mv (.t 74), none, []⟩,
        ⟨(some 76), .faddr 3 (.t 2), (some (75, true)), []⟩,
        ⟨(some 77), .load 1 false (.t 76), (some (75, true)), []⟩,
        ⟨(some 78), .len false (.t 77), (some (75, true)), []⟩,
        ⟨(some 79), .bin .eql (.t 78) (.c (.int .i64 0)), (some (75, true)), []⟩,
        ⟨(some 80), .pick (.t 75) (.t 79) (.c (.bool false)), none, []⟩,
        ⟨(some 4), .mv (.t 80), none, []⟩]) (
      .ret))) (
      .seq (.region [
        ⟨(some 82), .bin .eql (.t 35) (.c (.int .i64 3)), none, []⟩,
        ⟨(some 81), .mv (.t 82), none, []⟩]) (
      .cond (.t 81) (
        .seq (.region [
          ⟨(some 83), .faddr 2 (.t 2), none, []⟩,
          ⟨(some 84), .load 1 false (.t 83), none, []⟩,
          ⟨(some 85), .call 21 [.t 84], none, []⟩,
          ⟨(some 6), .mv (.t 85), none, []⟩]) (
        .seq (.region [
          ⟨(some 86), .mv (.t 6), none, []⟩,
          ⟨(some 87), .mv (.t 86), none, []⟩,
          ⟨(some 88), .faddr 3 (.t 2), (some (87, true)), []⟩,
          ⟨(some 89), .load 1 false (.t 88), (some (87, true)), []⟩,
          ⟨(some 90), .len false (.t 89), (some (87, true)), []⟩,
          ⟨(some 91), .bin .eql (.t 90) (.c (.int .i64 0)), (some (87, true)), []⟩,
          ⟨(some 92), .pick (.t 87) (.t 91) (.c (.bool false)), none, []⟩,
          ⟨(some 4), .mv (.t 92), none, []⟩]) (
        .ret))) (
        .seq (.region [
          ⟨(some 94), .bin .eql (.t 35) (.c (.int .i64 4)), none, []⟩,
          ⟨(some 93), .mv (.t 94), none, []⟩]) (
        .cond (.t 93) (
          .seq (.seq (.region [
            ⟨(some 95), .faddr 2 (.t 2), none, []⟩,
            ⟨(some 96), .load 1 false (.t 95), none, []⟩,
            ⟨(some 97), .bin .neq (.t 96) (.c (.str ⟨#[]⟩)), none, []⟩,
            ⟨(some 98), .mv (.t 97), none, []⟩,
            ⟨(some 99), .faddr 3 (.t 2), (some (98, false)), []⟩,
            ⟨(some 100), .load 1 false (.t 99), (some (98, false)), []⟩,
            ⟨(some 101), .len false (.t 100), (some (98, false)), []⟩,
            ⟨(some 102), .bin .gtr (.t 101) (.c (.int .i64 16)), (some (98, false)), []⟩,
            ⟨(some 103), .pick (.t 98) (.c (.bool true)) (.t 102), none, []⟩,
            ⟨(some 104), .mv (.t 103), none, []⟩,
            ⟨(some 105), .mv (.t 1), (some (104, false)), []⟩,
            ⟨(some 106), .bin .lss (.t 105) (.c (.int .i64 1)), (some (104, false)), []⟩,
            ⟨(some 107), .pick (.t 104) (.c (.bool true)) (.t 106), none, []⟩]) (
          .cond (.t 107) (
            .seq (.region [
              ⟨(some 4), .mv (.c (.bool false)), none, []⟩]) (
            .ret)) (
            .skip))) (
          .seq (.seq (.region [
            ⟨(some 7), .mv (.c (.int .i64 0)), none, []⟩]) (
          .block 3 (
            .loop (
              .seq (.seq (.region [
                ⟨(some 108), .mv (.t 7), none, []⟩,
                ⟨(some 109), .faddr 3 (.t 2), none, []⟩,
                ⟨(some 110), .load 1 false (.t 109), none, []⟩,
                ⟨(some 111), .len false (.t 110), none, []⟩,
                ⟨(some 112), .bin .lss (.t 108) (.t 111), none, []⟩]) (
              .cond (.t 112) (
                .skip) (
                .exit 3))) (
              .seq (.block 4 (
                .seq (.region [
                  ⟨(some 115), .faddr 3 (.t 2), none, []⟩,
                  ⟨(some 116), .load 1 false (.t 115), none, []⟩,
                  ⟨(some 117), .mv (.t 7), none, []⟩,
                  ⟨(some 118), .iaddrS 4 (.t 116) (.t 117), none, []⟩,
                  ⟨(some 119), .load 4 true (.t 118), none, []⟩,
                  ⟨(some 120), .mv (.t 1), none, []⟩,
                  ⟨(some 121), .bin .sub (.t 120) (.c (.int .i64 1)), none, []⟩,
                  ⟨(some 122), .call 35 [.t 119, .t 121], none, []⟩,
                  ⟨(some 8), .mv (.t 122), none, []⟩]) (
                .seq (.region [
                  ⟨(some 123), .mv (.t 8), none, []⟩,
                  ⟨(some 124), .un .not (.t 123), none, []⟩]) (
                .cond (.t 124) (
                  .seq (.region [
                    ⟨(some 4), .mv (.c (.bool false)), none, []⟩]) (
                  .ret)) (
                  .skip))))) (
              .region [
                ⟨(some 113), .mv (.t 7), none, []⟩,
                ⟨(some 114), .bin .add (.t 113) (.c (.int .i64 1)), none, []⟩,
                ⟨(some 7), .mv (.t 114), none, []⟩])))))) (
          .seq (.region [
            ⟨(some 4), .mv (.c (.bool true)), none, []⟩]) (
          .ret)))) (
          .skip))))))))) (
  .seq (.region [
    ⟨(some 4), .mv (.c (.bool false)), none, []⟩]) (
  .ret))))),
  .pure, true, true⟩
theorem k35 : compF Tryd.prog { mt := false, mtAt := [], mode := .pure, clArgs := true, clRes := true } Tryd.f35 = some c35 := by kernel_rfl
/- cmp.Compare[int] -/
def c36 : AFunc := ⟨20, [.tmp 4],
  .seq (.region [
    ⟨(some 4), .mv (.c (.int .i64 0)), none, []⟩]) (
  .seq (.region [
    ⟨(some 7), .mv (.t 0), none, []⟩,
    ⟨(some 8), .call 47 [.t 7], none, []⟩,
    ⟨(some 5), .mv (.t 8), none, []⟩]) (
  .seq (.region [
    ⟨(some 9), .mv (.t 1), none, []⟩,
    ⟨(some 10), .call 47 [.t 9], none, []⟩,
    ⟨(some 6), .mv (.t 10), none, []⟩]) (
  .seq (.seq (.region [
    ⟨(some 11), .mv (.t 5), none, []⟩]) (
  .cond (.t 11) (
    .seq (.seq (.region [
      ⟨(some 12), .mv (.t 6), none, []⟩]) (
    .cond (.t 12) (
      .seq (.region [
        ⟨(some 4), .mv (.c (.int .i64 0)), none, []⟩]) (
      .ret)) (
      .skip))) (
    .seq (.region [
      ⟨(some 4), .mv (.c (.int .i64 (-1))), none, []⟩]) (
    .ret))) (
    .skip))) (
  .seq (.seq (.region [
    ⟨(some 13), .mv (.t 6), none, []⟩]) (
  .cond (.t 13) (
    .seq (.region [
      ⟨(some 4), .mv (.c (.int .i64 1)), none, []⟩]) (
    .ret)) (
    .skip))) (
  .seq (.seq (.region [
    ⟨(some 14), .mv (.t 0), none, []⟩,
    ⟨(some 15), .mv (.t 1), none, []⟩,
    ⟨(some 16), .bin .lss (.t 14) (.t 15), none, []⟩]) (
  .cond (.t 16) (
    .seq (.region [
      ⟨(some 4), .mv (.c (.int .i64 (-1))), none, []⟩]) (
    .ret)) (
    .skip))) (
  .seq (.seq (.region [
    ⟨(some 17), .mv (.t 0), none, []⟩,
    ⟨(some 18), .mv (.t 1), none, []⟩,
    ⟨(some 19), .bin .gtr (.t 17) (.t 18), none, []⟩]) (
  .cond (.t 19) (
    .seq (.region [
      ⟨(some 4), .mv (.c (.int .i64 1)), none, []⟩]) (
    .ret)) (
    .skip))) (
  .seq (.region [
    ⟨(some 4), .mv (.c (.int .i64 0)), none, []⟩]) (
  .ret)))))))),
  .pure, true, true⟩
theorem k36 : compF Tryd.prog { mt := false, mtAt := [], mode := .pure, clArgs := true, clRes := true } Tryd.f36 = some c36 := by kernel_rfl
/- strings.Compare -/
def c37 : AFunc := ⟨8, [.tmp 4],
  .seq (.region [
    ⟨(some 4), .mv (.c (.int .i64 0)), none, []⟩]) (
  .seq (.region [
    ⟨(some 5), .mv (.t 0), none, []⟩,
    ⟨(some 6), .mv (.t 1), none, []⟩,
    ⟨(some 7), .call 48 [.t 5, .t 6], none, []⟩,
    ⟨(some 4), .mv (.t 7), none, []⟩]) (
  .ret)),
  .pure, true, true⟩
theorem k37 : compF Tryd.prog { mt := false, mtAt := [], mode := .pure, clArgs := true, clRes := true } Tryd.f37 = some c37 := by kernel_rfl
/- slices.CompareFunc[[]beaconry/api.Value,[]beaconry/api.Value,beaconry/api.Value,beaconry/api.Value] -/
def c38 : AFunc := ⟨39, [.tmp 6],
  .seq (.region [
    ⟨(some 6), .mv (.c (.int .i64 0)), none, []⟩]) (
  .seq (.seq (.region [
    ⟨(some 11), .mv (.t 0), none, []⟩,
    ⟨(some 12), .len false (.t 11), none, []⟩,
    ⟨(some 13), .mv (.c (.int .i64 0)), none, []⟩]) (
  .block 0 (
    .loop (
      .seq (.region [
        ⟨(some 14), .bin .lss (.t 13) (.t 12), none, []⟩]) (
      .seq (.cond (.t 14) (
        .skip) (
        .exit 0)) (
      .seq (.block 1 (
        .seq (.region [
          ⟨(some 15), .mv (.t 13), none, []⟩,
          ⟨(some 16), .iaddrS 4 (.t 11) (.t 13), none, []⟩,
          ⟨(some 17), .load 4 true (.t 16), none, []⟩,
          ⟨(some 8), .alloc [.int .i64 0, .int .i64 0, .str ⟨#[]⟩, .isl [] true], none, []⟩,
          ⟨(some 7), .mv (.t 15), none, []⟩,
          ⟨none, .store 4 (.t 8) (.t 17), none, []⟩]) (
        .seq (.seq (.region [
          ⟨(some 18), .mv (.t 7), none, []⟩,
          ⟨(some 19), .mv (.t 1), none, []⟩,
          ⟨(some 20), .len false (.t 19), none, []⟩,
          ⟨(some 21), .bin .geq (.t 18) (.t 20), none, []⟩]) (
        .cond (.t 21) (
          .seq (.region [
            ⟨(some 6), .mv (.c (.int .i64 1)), none, []⟩]) (
          .ret)) (
          .skip))) (
        .seq (.region [
          ⟨(some 22), .mv (.t 1), none, []⟩,
          ⟨(some 23), .mv (.t 7), none, []⟩,
          ⟨(some 24), .iaddrS 4 (.t 22) (.t 23), none, []⟩,
          ⟨(some 25), .load 4 true (.t 24), none, []⟩,
          ⟨(some 9), .alloc [.int .i64 0, .int .i64 0, .str ⟨#[]⟩, .isl [] true], none, []⟩,
          ⟨none, .store 4 (.t 9) (.t 25), none, []⟩]) (
        .seq (.region [
          ⟨(some 26), .mv (.t 2), none, []⟩,
          ⟨(some 27), .load 4 true (.t 8), none, []⟩,
          ⟨(some 28), .load 4 true (.t 9), none, []⟩,
          ⟨(some 29), .callv (.t 26) [.t 27, .t 28], none, []⟩,
          ⟨(some 10), .mv (.t 29), none, []⟩]) (
        .seq (.region [
          ⟨(some 30), .mv (.t 10), none, []⟩,
          ⟨(some 31), .bin .neq (.t 30) (.c (.int .i64 0)), none, []⟩]) (
        .cond (.t 31) (
          .seq (.region [
            ⟨(some 32), .mv (.t 10), none, []⟩,
            ⟨(some 6), .mv (.t 32), none, []⟩]) (
          .ret)) (
          .skip)))))))) (
      .region [
        ⟨(some 33), .bin .add (.t 13) (.c (.int .i64 1)), none, []⟩,
        ⟨(some 13), .mv (.t 33), none, []⟩]))))))) (
  .seq (.seq (.region [
    ⟨(some 34), .mv (.t 0), none, []⟩,
    ⟨(some 35), .len false (.t 34), none, []⟩,
    ⟨(some 36), .mv (.t 1), none, []⟩,
    ⟨(some 37), .len false (.t 36), none, []⟩,
    ⟨(some 38), .bin .lss (.t 35) (.t 37), none, []⟩]) (
  .cond (.t 38) (
    .seq (.region [
      ⟨(some 6), .mv (.c (.int .i64 (-1))), none, []⟩]) (
    .ret)) (
    .skip))) (
  .seq (.region [
    ⟨(some 6), .mv (.c (.int .i64 0)), none, []⟩]) (
  .ret)))),
  .pure, true, true⟩
theorem k38 : compF Tryd.prog { mt := false, mtAt := [], mode := .pure, clArgs := true, clRes := true } Tryd.f38 = some c38 := by kernel_rfl
/- beaconry/beaconryref01.sign -/
def c39 : AFunc := ⟨7, [.tmp 4],
  .seq (.region [
    ⟨(some 4), .mv (.c (.int .i64 0)), none, []⟩]) (
  .seq (.seq (.region [
    ⟨(some 5), .mv (.t 0), none, []⟩]) (
  .cond (.t 5) (
    .seq (.region [
      ⟨(some 4), .mv (.c (.int .i64 (-1))), none, []⟩]) (
    .ret)) (
    .skip))) (
  .seq (.seq (.region [
    ⟨(some 6), .mv (.t 1), none, []⟩]) (
  .cond (.t 6) (
    .seq (.region [
      ⟨(some 4), .mv (.c (.int .i64 1)), none, []⟩]) (
    .ret)) (
    .skip))) (
  .seq (.region [
    ⟨(some 4), .mv (.c (.int .i64 0)), none, []⟩]) (
  .ret)))),
  .pure, true, true⟩
theorem k39 : compF Tryd.prog { mt := false, mtAt := [], mode := .pure, clArgs := true, clRes := true } Tryd.f39 = some c39 := by kernel_rfl
/- beaconry/value.write -/
def c40 : AFunc := ⟨55, [],
  .seq (.region [
    ⟨(some 3), .box (.t 1), none, []⟩]) (
  .seq (.region [
    ⟨(some 6), .faddr 0 (.t 3), none, []⟩,
    ⟨(some 7), .load 1 false (.t 6), none, []⟩]) (
  .block 0 (
    .seq (.region [
      ⟨(some 9), .bin .eql (.t 7) (.c (.int .i64 1)), none, []⟩,
      ⟨(some 8), .mv (.t 9), none, []⟩]) (
    .cond (.t 8) (
      .region [
        ⟨(some 10), .mv (.t 0), none, []⟩,
        ⟨(some 11), .faddr 1 (.t 3), none, []⟩,
        ⟨(some 12), .load 1 false (.t 11), none, []⟩,
        ⟨(some 13), .call 50 [.t 12], none, []⟩,
        ⟨(some 14), .call 49 [.t 10, .t 13], none, []⟩]) (
      .seq (.region [
        ⟨(some 16), .bin .eql (.t 7) (.c (.int .i64 2)), none, []⟩,
        ⟨(some 15), .mv (.t 16), none, []⟩]) (
      .cond (.t 15) (
        .region [
          ⟨(some 17), .mv (.t 0), none, []⟩,
          ⟨(some 18), .faddr 2 (.t 3), none, []⟩,
          ⟨(some 19), .load 1 false (.t 18), none, []⟩,
          ⟨(some 20), .bin .add (.c (.str ⟨#[34]⟩)) (.t 19), none, []⟩,
          ⟨(some 21), .bin .add (.t 20) (.c (.str ⟨#[34]⟩)), none, []⟩,
          ⟨(some 22), .call 49 [.t 17, .t 21], none, []⟩]) (
        .seq (.region [
          ⟨(some 24), .bin .eql (.t 7) (.c (.int .i64 3)), none, []⟩,
          ⟨(some 23), .mv (.t 24), none, []⟩]) (
        .cond (.t 23) (
          .region [
            ⟨(some 25), .mv (.t 0), none, []⟩,
            ⟨(some 26), .faddr 2 (.t 3), none, []⟩,
            ⟨(some 27), .load 1 false (.t 26), none, []⟩,
            ⟨(some 28), .call 49 [.t 25, .t 27], none, []⟩]) (
          .seq (.region [
            ⟨(some 30), .bin .eql (.t 7) (.c (.int .i64 4)), none, []⟩,
            ⟨(some 29), .mv (.t 30), none, []⟩]) (
          .cond (.t 29) (
            .seq (.seq (.region [
              ⟨(some 31), .faddr 3 (.t 3), none, []⟩,
              ⟨(some 32), .load 1 false (.t 31), none, []⟩,
              ⟨(some 33), .len false (.t 32), none, []⟩,
              ⟨(some 34), .mv (.c (.int .i64 0)), none, []⟩]) (
            .block 1 (
              .loop (
                .seq (.region [
                  ⟨(some 35), .bin .lss (.t 34) (.t 33), none, []⟩]) (
                .seq (.cond (.t 35) (
                  .skip) (
                  .exit 1)) (
                .seq (.block 2 (
                  .seq (.region [
                    ⟨(some 36), .mv (.t 34), none, []⟩,
                    ⟨(some 37), .iaddrS 4 (.t 32) (.t 34), none, []⟩,
                    ⟨(some 38), .load 4 true (.t 37), none, []⟩,
                    ⟨(some 5), .alloc [.int .i64 0, .int .i64 0, .str ⟨#[]⟩, .isl [] true], none, []⟩,
                    ⟨(some 4), .mv (.t 36), none, []⟩,
                    ⟨none, .store 4 (.t 5) (.t 38), none, []⟩]) (
                  .seq (.region [
                    ⟨(some 39), .mv (.t 0), none, []⟩,
                    ⟨(some 40), .mv (.t 4), none, []⟩,
                    ⟨(some 41), .min2 (.t 40) (.c (.int .i64 1)), none, []⟩,
                    ⟨(some 42), .idxStr (.c (.str ⟨#[91, 44]⟩)) (.t 41), none, []⟩,
                    ⟨(some 43), .call 51 [.t 39, .t 42], none, []⟩]) (
                  .region [
                    ⟨(some 44), .mv (.t 0), none, []⟩,
                    ⟨(some 45), .load 4 true (.t 5), none, []⟩,
                    ⟨(some 46), .call 40 [.t 44, .t 45], none, []⟩])))) (
                .region [
                  ⟨(some 47), .bin .add (.t 34) (.c (.int .i64 1)), none, []⟩,
                  ⟨(some 34), .mv (.t 47), none, []⟩]))))))) (
            .region [
              ⟨(some 48), .mv (.t 0), none, []⟩,
              ⟨(some 49), .faddr 3 (.t 3), none, []⟩,
              ⟨(some 50), .load 1 false (.t 49), none, []⟩,
              ⟨(some 51), .len false (.t 50), none, []⟩,
              ⟨(some 52), .min2 (.t 51) (.c (.int .i64 1)), none, []⟩,
              ⟨(some 53), .strSl (.c (.str ⟨#[91, 93]⟩)) (some (.t 52)) none, none, []⟩,
              ⟨(some 54), .call 49 [.t 48, .t 53], none, []⟩])) (
            .skip))))))))))),
  .gc, false, true⟩
theorem k40 : compF Tryd.prog { mt := false, mtAt := [], mode := .gc, clArgs := false, clRes := true } Tryd.f40 = some c40 := by kernel_rfl
/- 41 (*strings.Builder).String: told elsewhere -/
/- beaconry/beaconryref01.digits -/
def c42 : AFunc := ⟨24, [.tmp 2],
  .seq (.region [
    ⟨(some 2), .mv (.c (.str ⟨#[]⟩)), none, []⟩]) (
  .seq (.seq (.region [
    ⟨(some 4), .mv (.t 0), none, []⟩,
    ⟨(some 5), .bin .lss (.t 4) (.c (.int .i64 0)), none, []⟩]) (
  .cond (.t 5) (
    .seq (.region [
      ⟨(some 6), .mv (.t 0), none, []⟩,
      ⟨(some 7), .un .neg (.t 6), none, []⟩,
      ⟨(some 8), .call 42 [.t 7], none, []⟩,
      ⟨(some 9), .bin .add (.c (.str ⟨#[45]⟩)) (.t 8), none, []⟩,
      ⟨(some 2), .mv (.t 9), none, []⟩]) (
    .ret)) (
    .skip))) (
  .seq (.region [
    ⟨(some 10), .mv (.t 0), none, []⟩,
    ⟨(some 11), .bin .rem (.t 10) (.c (.int .i64 10)), none, []⟩,
    ⟨(some 12), .bin .add (.c (.int .i64 48)) (.t 11), none, []⟩,
    ⟨(some 13), .conv .u8 (.t 12), none, []⟩,
    ⟨(some 14), .buildSl 1 1 false [.int .u8 0] [(0, 1, .t 13)], none, []⟩,
    ⟨(some 15), .b2s (.t 14), none, []⟩,
    ⟨(some 3), .mv (.t 15), none, []⟩]) (
  .seq (.seq (.region [
    ⟨(some 16), .mv (.t 0), none, []⟩,
    ⟨(some 17), .bin .geq (.t 16) (.c (.int .i64 10)), none, []⟩]) (
  .cond (.t 17) (
    .seq (.region [
      ⟨(some 18), .mv (.t 0), none, []⟩,
      ⟨(some 19), .bin .quo (.t 18) (.c (.int .i64 10)), none, []⟩,
      ⟨(some 20), .call 42 [.t 19], none, []⟩,
      ⟨(some 21), .mv (.t 3), none, []⟩,
      ⟨(some 22), .bin .add (.t 20) (.t 21), none, []⟩,
      ⟨(some 2), .mv (.t 22), none, []⟩]) (
    .ret)) (
    .skip))) (
  .seq (.region [
    ⟨(some 23), .mv (.t 3), none, []⟩,
    ⟨(some 2), .mv (.t 23), none, []⟩]) (
  .ret))))),
  .pure, true, true⟩
theorem k42 : compF Tryd.prog { mt := false, mtAt := [], mode := .pure, clArgs := true, clRes := true } Tryd.f42 = some c42 := by kernel_rfl
/- beaconry/value.empty -/
def c43 : AFunc := ⟨22, [.tmp 2],
  .seq (.region [
    ⟨(some 1), .box (.t 0), none, []⟩,
    ⟨(some 2), .mv (.c (.bool false)), none, []⟩]) (
  .seq (.region [
    ⟨(some 3), .faddr 0 (.t 1), none, []⟩,
    ⟨(some 4), .load 1 false (.t 3), none, []⟩,
    ⟨(some 5), .bin .eql (.t 4) (.c (.int .i64 0)), none, []⟩,
    ⟨(some 6), .mv (.t 5), none, []⟩,
    ⟨(some 7), .faddr 1 (.t 1), (some (6, true)), []⟩,
    ⟨(some 8), .load 1 false (.t 7), (some (6, true)), []⟩,
    ⟨(some 9), .bin .eql (.t 8) (.c (.int .i64 0)), (some (6, true)), []⟩,
    ⟨(some 10), .pick (.t 6) (.t 9) (.c (.bool false)), none, []⟩,
    ⟨(some 11), .mv (.t 10), none, []⟩,
    ⟨(some 12), .faddr 2 (.t 1), (some (11, true)), []⟩,
    ⟨(some 13), .load 1 false (.t 12), (some (11, true)), []⟩,
    ⟨(some 14), .bin .eql (.t 13) (.c (.str ⟨#[]⟩)), (some (11, true)), []⟩,
    ⟨(some 15), .pick (.t 11) (.t 14) (.c (.bool false)), none, []⟩,
    ⟨(some 16), .mv (.t 15), none, []⟩,
    ⟨(some 17), .faddr 3 (.t 1), (some (16, true)), []⟩,
    ⟨(some 18), .load 1 false (.t 17), (some (16, true)), []⟩,
    ⟨(some 19), .len false (.t 18), (some (16, true)), []⟩,
    ⟨(some 20), .bin .eql (.t 19) (.c (.int .i64 0)), (some (16, true)), []⟩,
    ⟨(some 21), .pick (.t 16) (.t 20) (.c (.bool false)), none, []⟩,
    ⟨(some 2), .mv (.t 21), none, []⟩]) (
  .ret)),
  .pure, true, true⟩
theorem k43 : compF Tryd.prog { mt := false, mtAt := [], mode := .pure, clArgs := true, clRes := true } Tryd.f43 = some c43 := by kernel_rfl
/- beaconry/value.plain -/
def c44 : AFunc := ⟨27, [.tmp 2],
  .seq (.region [
    ⟨(some 2), .mv (.c (.bool false)), none, []⟩]) (
  .seq (.seq (.region [
    ⟨(some 5), .mv (.t 0), none, []⟩,
    ⟨(some 6), .rng (.t 5), none, []⟩]) (
  .block 0 (
    .loop (
      .seq (.region [
        ⟨(some 7), .nxt (.t 6), none, []⟩,
        ⟨(some 8), .extract 0 (.t 7), none, []⟩]) (
      .seq (.cond (.t 8) (
        .skip) (
        .exit 0)) (
      .block 1 (
        .seq (.region [
          ⟨(some 9), .extract 2 (.t 7), none, []⟩,
          ⟨(some 4), .mv (.t 9), none, []⟩]) (
        .seq (.region [
          ⟨(some 10), .mv (.t 4), none, []⟩,
          ⟨(some 11), .bin .lss (.t 10) (.c (.int .i32 32)), none, []⟩,
          ⟨(some 12), .mv (.t 11), none, []⟩,
          ⟨(some 13), .mv (.t 4), (some (12, false)), []⟩,
          ⟨(some 14), .bin .gtr (.t 13) (.c (.int .i32 126)), (some (12, false)), []⟩,
          ⟨(some 15), .pick (.t 12) (.c (.bool true)) (.t 14), none, []⟩,
          ⟨(some 16), .mv (.t 15), none, []⟩,
          ⟨(some 17), .mv (.t 4), (some (16, false)), []⟩,
          ⟨(some 18), .bin .eql (.t 17) (.c (.int .i32 34)), (some (16, false)), []⟩,
          ⟨(some 19), .pick (.t 16) (.c (.bool true)) (.t 18), none, []⟩,
          ⟨(some 20), .mv (.t 19), none, []⟩,
          ⟨(some 21), .mv (.t 4), (some (20, false)), []⟩,
          ⟨(some 22), .bin .eql (.t 21) (.c (.int .i32 92)), (some (20, false)), []⟩,
          ⟨(some 23), .pick (.t 20) (.c (.bool true)) (.t 22), none, []⟩]) (
        .cond (.t 23) (
          .seq (.region [
            ⟨(some 2), .mv (.c (.bool false)), none, []⟩]) (
          .ret)) (
          .skip)))))))))) (
  .seq (.region [
    ⟨(some 24), .mv (.t 0), none, []⟩,
    ⟨(some 25), .len true (.t 24), none, []⟩,
    ⟨(some 26), .bin .leq (.t 25) (.c (.int .i64 32)), none, []⟩,
    ⟨(some 2), .mv (.t 26), none, []⟩]) (
  .ret))),
  .pure, true, true⟩
theorem k44 : compF Tryd.prog { mt := false, mtAt := [], mode := .pure, clArgs := true, clRes := true } Tryd.f44 = some c44 := by kernel_rfl
/- slices.ContainsFunc[[]beaconry/api.Value,beaconry/api.Value] -/
def c45 : AFunc := ⟨9, [.tmp 4],
  .seq (.region [
    ⟨(some 4), .mv (.c (.bool false)), none, []⟩]) (
  .seq (.region [
    ⟨(some 5), .mv (.t 0), none, []⟩,
    ⟨(some 6), .mv (.t 1), none, []⟩,
    ⟨(some 7), .call 52 [.t 5, .t 6], none, []⟩,
    ⟨(some 8), .bin .geq (.t 7) (.c (.int .i64 0)), none, []⟩,
    ⟨(some 4), .mv (.t 8), none, []⟩]) (
  .ret)),
  .pure, true, true⟩
theorem k45 : compF Tryd.prog { mt := false, mtAt := [], mode := .pure, clArgs := true, clRes := true } Tryd.f45 = some c45 := by kernel_rfl
/- beaconry/value.right$1 -/
def c46 : AFunc := ⟨9, [.tmp 3],
  .seq (.region [
    ⟨(some 2), .box (.t 0), none, []⟩,
    ⟨(some 3), .mv (.c (.bool false)), none, []⟩]) (
  .seq (.region [
    ⟨(some 4), .load 4 true (.t 2), none, []⟩,
    ⟨(some 5), .load 1 false (.t 1), none, []⟩,
    ⟨(some 6), .bin .sub (.t 5) (.c (.int .i64 1)), none, []⟩,
    ⟨(some 7), .call 34 [.t 4, .t 6], none, []⟩,
    ⟨(some 8), .un .not (.t 7), none, []⟩,
    ⟨(some 3), .mv (.t 8), none, []⟩]) (
  .ret)),
  .pure, true, true⟩
theorem k46 : compF Tryd.prog { mt := false, mtAt := [], mode := .pure, clArgs := true, clRes := true } Tryd.f46 = some c46 := by kernel_rfl
/- cmp.isNaN[int] -/
def c47 : AFunc := ⟨6, [.tmp 2],
  .seq (.region [
    ⟨(some 2), .mv (.c (.bool false)), none, []⟩]) (
  .seq (.region [
    ⟨(some 3), .mv (.t 0), none, []⟩,
    ⟨(some 4), .mv (.t 0), none, []⟩,
    ⟨(some 5), .bin .neq (.t 3) (.t 4), none, []⟩,
    ⟨(some 2), .mv (.t 5), none, []⟩]) (
  .ret)),
  .pure, true, true⟩
theorem k47 : compF Tryd.prog { mt := false, mtAt := [], mode := .pure, clArgs := true, clRes := true } Tryd.f47 = some c47 := by kernel_rfl
/- 48 internal/bytealg.CompareString: told elsewhere -/
/- 49 (*strings.Builder).WriteString: told elsewhere -/
/- 50 strconv.Itoa: told elsewhere -/
/- 51 (*strings.Builder).WriteByte: told elsewhere -/
/- slices.IndexFunc[[]beaconry/api.Value,beaconry/api.Value] -/
def c52 : AFunc := ⟨19, [.tmp 4],
  .seq (.region [
    ⟨(some 4), .mv (.c (.int .i64 0)), none, []⟩]) (
  .seq (.seq (.region [
    ⟨(some 6), .mv (.t 0), none, []⟩,
    ⟨(some 7), .len false (.t 6), none, []⟩,
    ⟨(some 8), .mv (.c (.int .i64 0)), none, []⟩]) (
  .block 0 (
    .loop (
      .seq (.region [
        ⟨(some 9), .bin .lss (.t 8) (.t 7), none, []⟩]) (
      .seq (.cond (.t 9) (
        .skip) (
        .exit 0)) (
      .seq (.block 1 (
        .seq (.region [
          ⟨(some 10), .mv (.t 8), none, []⟩,
          ⟨(some 5), .mv (.t 10), none, []⟩]) (
        .seq (.region [
          ⟨(some 11), .mv (.t 1), none, []⟩,
          ⟨(some 12), .mv (.t 0), none, []⟩,
          ⟨(some 13), .mv (.t 5), none, []⟩,
          ⟨(some 14), .iaddrS 4 (.t 12) (.t 13), none, []⟩,
          ⟨(some 15), .load 4 true (.t 14), none, []⟩,
          ⟨(some 16), .callv (.t 11) [.t 15], none, []⟩]) (
        .cond (.t 16) (
          .seq (.region [
            ⟨(some 17), .mv (.t 5), none, []⟩,
            ⟨(some 4), .mv (.t 17), none, []⟩]) (
          .ret)) (
          .skip))))) (
      .region [
        ⟨(some 18), .bin .add (.t 8) (.c (.int .i64 1)), none, []⟩,
        ⟨(some 8), .mv (.t 18), none, []⟩]))))))) (
  .seq (.region [
    ⟨(some 4), .mv (.c (.int .i64 (-1))), none, []⟩]) (
  .ret))),
  .pure, true, true⟩
theorem k52 : compF Tryd.prog { mt := false, mtAt := [], mode := .pure, clArgs := true, clRes := true } Tryd.f52 = some c52 := by kernel_rfl
/- slices.Clone[[]beaconry/api.Value,beaconry/api.Value] -/
def x33 : AFunc := ⟨8, [.tmp 2],
  .seq (.region [
    ⟨(some 2), .mv (.c (.isl [] true)), none, []⟩]) (
  .seq (.seq (.region [
    ⟨(some 3), .mv (.t 0), none, []⟩,
    ⟨(some 4), .eqnil false (.t 3), none, []⟩]) (
  .cond (.t 4) (
    .seq (.region [
      ⟨(some 2), .mv (.c (.isl [] true)), none, []⟩]) (
    .ret)) (
    .skip))) (
  .seq (.region [
    ⟨(some 5), .buildSl 0 4 true [] [], none, []⟩,
    ⟨(some 6), .mv (.t 0), none, []⟩,
    ⟨(some 7), .append 4 true 56 true (.t 5) (.t 6), none, []⟩,
    ⟨(some 2), .mv (.t 7), none, []⟩]) (
  .ret))),
  .raw, false, false⟩
theorem kx33 : compF Tryd.prog { mt := true, mtAt := [], mode := .raw, clArgs := false, clRes := false } Tryd.f33 = some x33 := by kernel_rfl
def fns : List (Nat × AFunc) := [(3, c3), (4, c4), (5, c5), (6, c6), (7, c7), (8, c8), (9, c9), (10, c10), (11, c11), (12, c12), (13, c13), (14, c14), (15, c15), (16, c16), (17, c17), (18, c18), (19, c19), (20, c20), (21, c21), (22, c22), (23, c23), (24, c24), (25, c25), (26, c26), (27, c27), (28, c28), (29, c29), (30, c30), (31, c31), (32, c32), (34, c34), (35, c35), (36, c36), (37, c37), (38, c38), (39, c39), (40, c40), (42, c42), (43, c43), (44, c44), (45, c45), (46, c46), (47, c47), (52, c52)]
theorem fns_ok : ∀ p ∈ fns, ∃ fn pol, Tryd.prog.funcs[p.1]? = some fn ∧ compF Tryd.prog pol fn = some p.2 := by
  simp only [fns, List.forall_mem_cons]
  exact ⟨⟨_, _, Tryd.func3, k3⟩, ⟨_, _, Tryd.func4, k4⟩, ⟨_, _, Tryd.func5, k5⟩, ⟨_, _, Tryd.func6, k6⟩, ⟨_, _, Tryd.func7, k7⟩, ⟨_, _, Tryd.func8, k8⟩, ⟨_, _, Tryd.func9, k9⟩, ⟨_, _, Tryd.func10, k10⟩, ⟨_, _, Tryd.func11, k11⟩, ⟨_, _, Tryd.func12, k12⟩, ⟨_, _, Tryd.func13, k13⟩, ⟨_, _, Tryd.func14, k14⟩, ⟨_, _, Tryd.func15, k15⟩, ⟨_, _, Tryd.func16, k16⟩, ⟨_, _, Tryd.func17, k17⟩, ⟨_, _, Tryd.func18, k18⟩, ⟨_, _, Tryd.func19, k19⟩, ⟨_, _, Tryd.func20, k20⟩, ⟨_, _, Tryd.func21, k21⟩, ⟨_, _, Tryd.func22, k22⟩, ⟨_, _, Tryd.func23, k23⟩, ⟨_, _, Tryd.func24, k24⟩, ⟨_, _, Tryd.func25, k25⟩, ⟨_, _, Tryd.func26, k26⟩, ⟨_, _, Tryd.func27, k27⟩, ⟨_, _, Tryd.func28, k28⟩, ⟨_, _, Tryd.func29, k29⟩, ⟨_, _, Tryd.func30, k30⟩, ⟨_, _, Tryd.func31, k31⟩, ⟨_, _, Tryd.func32, k32⟩, ⟨_, _, Tryd.func34, k34⟩, ⟨_, _, Tryd.func35, k35⟩, ⟨_, _, Tryd.func36, k36⟩, ⟨_, _, Tryd.func37, k37⟩, ⟨_, _, Tryd.func38, k38⟩, ⟨_, _, Tryd.func39, k39⟩, ⟨_, _, Tryd.func40, k40⟩, ⟨_, _, Tryd.func42, k42⟩, ⟨_, _, Tryd.func43, k43⟩, ⟨_, _, Tryd.func44, k44⟩, ⟨_, _, Tryd.func45, k45⟩, ⟨_, _, Tryd.func46, k46⟩, ⟨_, _, Tryd.func47, k47⟩, ⟨_, _, Tryd.func52, k52⟩, fun _ h => by cases h⟩
end Go.Proofs.YtblbebnielfjoaaDoor
end
section
set_option linter.unusedVariables false
set_option linter.unusedSimpArgs false
set_option linter.unnecessarySimpa false
namespace Go.Proofs.YtblbebnielfjoaaDoor
open Go.RowKit Go.Mach

set_option maxHeartbeats 1000000 in
/-- internal/bytealg.CompareString. -/
theorem cmp_calls (a b : ByteArray) (w : World) :
    Calls Tryd.prog 48 #[.string a, .string b] w fun e w' => e = .returned (.int .i64 (Lib.compareBytes a.data.toList b.data.toList)) ∧ w' = w := by
  go_enter Tryd.func48, Tryd.ntmps48
  go_wp2
  rw [run_callFunc_extern Tryd.func53 (by kernel_rfl) (by kernel_rfl) (by kernel_rfl) (e := Extern.BytealgCompare.compare) (by kernel_rfl), Lib.run_compareString]
  simp only [Result.andThen]
  rw [Oper.upon_value]
  go_wp2
  go_ret
  exact ⟨rfl, rfl⟩
def cmpP (args : List AV) (_ : Nat) (σ : Heap) : Option (AV × Heap) := match args with
  | [.str a, .str b] => some (.int .i64 (Lib.compareBytes a.data.toList b.data.toList), σ)
  | _ => none
theorem args1 {g : Gh} {x : AV} {cargs : Array Value} (hA : Args g [x] cargs) : ∃ c, cargs = #[c] ∧ VR g x c := by
  have h0 := hA.len
  match hcl : cargs.toList, (show cargs.toList.length = 1 by simpa using h0.symm) with
  | [c], _ => exact ⟨c, by rw [← Array.toArray_toList (xs := cargs), hcl], hA.val 0 _ c rfl (by rw [← Array.getElem?_toList, hcl]; rfl)⟩
theorem args2 {g : Gh} {x y : AV} {cargs : Array Value} (hA : Args g [x, y] cargs) : ∃ c d, cargs = #[c, d] ∧ VR g x c ∧ VR g y d := by
  have h0 := hA.len
  match hcl : cargs.toList, (show cargs.toList.length = 2 by simpa using h0.symm) with
  | [c, d], _ =>
    exact ⟨c, d, by rw [← Array.toArray_toList (xs := cargs), hcl], hA.val 0 _ c rfl (by rw [← Array.getElem?_toList, hcl]; rfl), hA.val 1 _ d rfl (by rw [← Array.getElem?_toList, hcl]; rfl)⟩
theorem cmp_ok : PrimOK Tryd.prog 48 cmpP := by
  intro args bs σ v σ' h hbs
  unfold cmpP at h
  split at h
  · rename_i a b
    injection h with h; injection h with e1 e2; subst e1 e2
    refine ⟨⟨_, Tryd.func48, by kernel_rfl, by kernel_rfl⟩, fun g ow w cargs hH hA => ?_⟩
    obtain ⟨c, d, rfl, hx, hy⟩ := args2 hA
    rw [hx.strv, hy.strv]
    refine (cmp_calls a b w).mono ?_
    rintro e w' ⟨rfl, rfl⟩
    exact ⟨_, g, ow, rfl, .int _ _, hH, .refl ..⟩
  · cases h
theorem eq_nil {P : Program} {t e : TypeId} (ht : P.underlying t = some (.slice e)) (a : Option Addr) (c : Nat) (w : World) : Sem.run P (binOp .eql t (.slice a 0 c) (.slice none 0 0)) w = .ok (.bool a.isNone) w := by
  have heq : (Op.equal t (.slice a 0 c) (.slice none 0 0)).run P w = .ok a.isNone w := by
    have hd : ∀ d, (Op.equalIn (d + 1) t (.slice a 0 c) (.slice none 0 0)).run P w = .ok a.isNone w := fun d => by cases a <;> simp [Op.equalIn, run_und ht]
    exact hd 9999
  simp [binOp, heq]
set_option maxRecDepth 100000 in
set_option maxHeartbeats 1000000 in
theorem cloneV_nil (a : Option Addr) (c : Nat) (w : World) :
    Calls Tryd.prog 33 #[.slice a 0 c] w fun e w' => ∃ a', e = .returned (.slice a' 0 0) ∧ Same w w' ∧ w.heap.size ≤ w'.heap.size ∧ ∀ b, b < w.heap.size → w'.heap[b]? = w.heap[b]? := by
  go_enter Tryd.func33, Tryd.ntmps33
  have hu : Tryd.prog.underlying 22 = some (.slice 24) := by kernel_rfl
  cases a with
  | none =>
    have hb : ∀ w, Sem.run Tryd.prog (binOp .eql 22 (.slice none 0 c) (.slice none 0 0)) w = .ok (.bool true) w := fun w => eq_nil hu none c w
    go_wp2
    go_ret
    exact ⟨_, rfl, ⟨rfl, rfl, rfl⟩, Nat.le_refl _, fun _ _ => rfl⟩
  | some a =>
    have hb : ∀ w, Sem.run Tryd.prog (binOp .eql 22 (.slice (some a) 0 c) (.slice none 0 0)) w = .ok (.bool false) w := fun w => eq_nil hu (some a) c w
    go_wp2
    go_ret
    have hal : ∀ o, (w.alloc o).heap = w.heap.push o := fun _ => rfl
    exact ⟨_, rfl, ⟨rfl, rfl, rfl⟩, by rw [hal, Array.size_push]; exact Nat.le_succ _, fun b hb => by rw [hal, Array.getElem?_push, if_neg (Nat.ne_of_lt hb)]⟩
end Go.Proofs.YtblbebnielfjoaaDoor
end
section
set_option linter.unusedVariables false
set_option linter.unusedSimpArgs false
set_option linter.unnecessarySimpa false
namespace Go.Proofs.YtblbebnielfjoaaDoor
open Go.RowKit Go.Mach

/-! ### slices.Clone -/
def TV : Tab := ⟨fun f => if f = 33 then some x33 else none, fun _ => none⟩
theorem TV_ok : TabOK Tryd.prog TV where
  mixed := by kernel_rfl
  fn f af h := by
    simp only [TV] at h
    split at h
    · rename_i e; injection h with h; subst h e; exact ⟨_, _, Tryd.func33, kx33⟩
    · cases h
  pr f p h := by cases h
theorem cloneV_run (es : List AV) (c : Bool) (bs : Nat) (σ : Heap) (hne : es ≠ []) (hf : (flat es).length = es.length * 4) (hl : es.length ≤ 10000000000) :
    evalFn TV 3 33 [.isl es c] bs σ = some (.sl (σ.length + 1) 0 es.length 4 true, σ ++ [.cells [] 0 false, .cells (flat es) 0 true]) := by
  have hnn : notNil (.isl es c) = true := by cases es with
    | nil => exact absurd rfl hne
    | cons x l => rfl
  have he0 : elemsA (σ ++ [.cells [] 0 false]) 4 true (.sl σ.length 0 0 4 true) = some [] := by
    simp [elemsA, window, chunk]
  have he1 : elemsN (σ ++ [.cells [] 0 false]) 4 true (.isl es c) = some es := rfl
  have hap : appendA (σ ++ [.cells [] 0 false]) 4 true 56 true (.sl σ.length 0 0 4 true) (.isl es c) = some (.sl (σ.length + 1) 0 es.length 4 true, σ ++ [.cells [] 0 false, .cells (flat es) 0 true]) := by
    have h1 : ¬ ((4 : Nat) = 0 ∨ (0 + es.length) * 56 > 70368744177664 ∨ 0 + es.length > 70368744177664) := by omega
    simp only [appendA, he0, he1, Option.bind_some, isSl, if_neg hne, List.length_nil, if_neg h1]
    simp [hf]
    simp [flat]
  simp [evalFn, TV, x33, exec, runOps, startA, stepAll, stepOp, ev, hnn, onNormal, finA, resA, res1, closeRes, closeArgs, dropA, baseA, guardA, chkO, setDst, fillA, hap]
def cloneVP (args : List AV) (bs : Nat) (σ : Heap) : Option (AV × Heap) := match args with
  | [.isl es c] => if es = [] then some (.isl [] true, σ) else if (flat es).length = es.length * 4 ∧ es.length ≤ 10000000000 then some (.sl (σ.length + 1) 0 es.length 4 true, σ ++ [.cells [] 0 false, .cells (flat es) 0 true]) else none
  | _ => none
theorem cloneV_ok : PrimOK Tryd.prog 33 cloneVP := by
  intro args bs σ v σ' h hbs
  unfold cloneVP at h
  split at h
  · rename_i es c
    split at h
    · rename_i he; subst he
      injection h with h; injection h with e1 e2; subst e1 e2
      refine ⟨⟨_, Tryd.func33, by kernel_rfl, by kernel_rfl⟩, fun g ow w cargs hH hA => ?_⟩
      obtain ⟨cc, rfl, hx⟩ := args1 hA
      obtain ⟨ad, cap, rfl⟩ : ∃ ad cap, cc = .slice ad 0 cap := by
        cases hx with
        | @isl _ _ ad c0 _ _ _ vs hc hs ha hcap hn hM hV => exact ⟨_, _, rfl⟩
      refine (cloneV_nil ad cap w).mono ?_
      rintro e w' ⟨a', rfl, hs, hsz, hheap⟩
      obtain ⟨h1, h2⟩ := hH.more (bs := bs) hsz hheap hs.os hs.tape hs.output
      exact ⟨_, g, ow, rfl, isl_VR (es := []) (b := 0) (p := 0) (s := 1) (a := a') (c := 0) (by simp) (by omega) (.inl rfl) (fun _ => rfl) (Nat.zero_le _) (by simp [flat]), h1, h2⟩
    · rename_i hne
      split at h
      · rename_i hc
        injection h with h; injection h with e1 e2; subst e1 e2
        exact eval_sound TV_ok 3 _ _ _ _ _ _ (cloneV_run es c bs σ hne hc.1 hc.2) hbs
      · cases h
  · cases h
end Go.Proofs.YtblbebnielfjoaaDoor
end
section
set_option linter.unusedVariables false
set_option linter.unusedSimpArgs false
set_option linter.unnecessarySimpa false
namespace Go.Proofs.YtblbebnielfjoaaDoor
open Go.RowKit Go.Mach

/-! ### strings.Builder -/
/-- Nothing but block b has turned. -/
structure Only (w w' : World) (b : Nat) : Prop where
  same : Same w w'
  size : w'.heap.size = w.heap.size
  block : ∀ k, k ≠ b → w'.heap[k]? = w.heap[k]?
set_option maxHeartbeats 1000000 in
set_option maxRecDepth 100000 in
theorem copyCheck_used (b : Nat) (w : World) (h0 : w.cell? ⟨b, 0, none⟩ = some (.pointer (some ⟨b, 0, none⟩))) :
    Calls Tryd.prog 54 #[.pointer (some ⟨b, 0, none⟩)] w fun e w' => e = .returned (.tuple #[]) ∧ w' = w := by
  have hp : Tryd.prog.underlying 50 = some (.pointer 52) := by kernel_rfl
  obtain ⟨j, hj, _⟩ := Option.map_eq_some_iff.1 (show (Tryd.prog.info? 52).map (·.size) = some 2 by kernel_rfl)
  go_enter Tryd.func54, Tryd.ntmps54
  go_wp2
  rw [Lib.run_neq_ptr_same w _ hp hj]
  go_wp2
  go_end0
  exact ⟨rfl, rfl⟩
set_option maxHeartbeats 1000000 in
set_option maxRecDepth 100000 in
theorem copyCheck_fresh (b t : Nat) (w : World) (h0 : w.cell? ⟨b, 0, none⟩ = some (.pointer none)) (hsh : w.shape? b = some (t, 2)) (hfz : w.frozen? ⟨b, 0, none⟩ = false) (hl : liesAt Tryd.prog Tryd.prog.depth t (2 / Tryd.prog.cellsOf t) 0 52 1 = true) :
    Calls Tryd.prog 54 #[.pointer (some ⟨b, 0, none⟩)] w fun e w' => e = .returned (.tuple #[]) ∧ w' = w.setCell ⟨b, 0, none⟩ (.pointer (some ⟨b, 0, none⟩)) := by
  have hp : Tryd.prog.underlying 50 = some (.pointer 52) := by kernel_rfl
  have hu : Tryd.prog.underlying 65 = some .unsafePointer := by kernel_rfl
  obtain ⟨j, hj, hjs⟩ := Option.map_eq_some_iff.1 (show (Tryd.prog.info? 52).map (·.size) = some 2 by kernel_rfl)
  go_enter Tryd.func54, Tryd.ntmps54
  go_wp2
  rw [Lib.run_to_unsafe w ⟨b, 0, none⟩ hp hu hj (by rw [hjs]; decide) hsh (Nat.zero_lt_succ 1)]
  simp only [Result.andThen]
  rw [Oper.upon_value]
  go_wp2
  rw [run_callFunc_extern Tryd.func56 (by kernel_rfl) (by kernel_rfl) (by kernel_rfl) (e := Extern.AbiNoEscape.same) (by kernel_rfl)]
  rw [Lib.run_noEscape]
  simp only [Result.andThen]
  rw [Oper.upon_value]
  go_wp2
  rw [Lib.run_from_unsafe w ⟨b, 0, none⟩ hu hp hj hsh hl]
  simp only [Result.andThen]
  rw [Oper.upon_value]
  go_wp2
  go_end0
  exact ⟨rfl, rfl⟩
/-- A slice over a row of bytes of its own. -/
def OwnR (w : World) (e : TypeId) (v : Value) (l : List UInt8) : Prop :=
  (v = .slice none 0 0 ∧ l = []) ∨ ∃ gb cap cur, v = .slice (some ⟨gb, 0, none⟩) l.length cap ∧ w.heap[gb]? = some (.cells cur e (0, 0)) ∧ l.length ≤ cap ∧ cur.size = cap ∧ cur.toList.take l.length = Lib.byteCells l
theorem OwnR.kept {w w' : World} {e : TypeId} {v : Value} {l : List UInt8} (h : OwnR w e v l) (hk : ∀ k, v.ownBlock = some k → k < w.heap.size → w'.heap[k]? = w.heap[k]?) : OwnR w' e v l := by
  rcases h with h | ⟨gb, cap, cur, rfl, h2, h3, h4, h5⟩
  · exact .inl h
  · exact .inr ⟨gb, cap, cur, rfl, (hk gb rfl (Array.getElem?_eq_some_iff.1 h2).1).trans h2, h3, h4, h5⟩
theorem OwnR.lt {w : World} {e : TypeId} {v : Value} {l : List UInt8} (h : OwnR w e v l) {k : Nat} (hk : v.ownBlock = some k) : k < w.heap.size := by
  rcases h with ⟨rfl, _⟩ | ⟨gb, cap, cur, rfl, h2, _⟩
  · cases hk
  · injection hk with hk; subst hk; exact (Array.getElem?_eq_some_iff.1 h2).1
theorem byteCells_one (l : List UInt8) : ∀ u ∈ Lib.byteCells l, u.oneCell' = true := fun u hu => by
  obtain ⟨b, _, rfl⟩ := List.mem_map.1 hu; rfl
/-- An append of bytes to such a slice. -/
theorem app_row {P : Program} {t u ty e : TypeId} {i : TypeInfo} (ht : P.underlying t = some (.slice e)) (hu : P.underlying u = some .string ∨ ∃ e', P.underlying u = some (.slice e')) (hi : P.info? e = some i)
    (hz0 : i.zero = some (.int .u8 0)) (hz1 : i.size = 1) (hz2 : i.bytes = 1) {w : World} {v cx : Value} {l k : List UInt8} (hv : OwnR w e v l) (hn : Src P w cx 1 k.length (Lib.byteCells k)) (hlen : l.length + k.length ≤ 70368744177664) :
    ∃ v' w', (Builtin.append_ #[t, u] ty #[v, cx]).run P w = .ok v' w' ∧ OwnR w' e v' (l ++ k) ∧ Same w w' ∧ w.heap.size ≤ w'.heap.size ∧ (∀ q, q < w.heap.size → some q ≠ v.ownBlock → w'.heap[q]? = w.heap[q]?) ∧ (v'.ownBlock = v.ownBlock ∨ v'.ownBlock = some w.heap.size) := by
  have hzv : ∀ w, (zeroValue e).run P w = .ok (.int .u8 0) w := fun w => by simp [zeroValue, typeInfo, hi, hz0]
  rw [← hz1] at hn
  -- the row anew
  have grow : ∀ ad n c, v = .slice ad n c → n = l.length → Src P w (.slice ad n c) i.size n (Lib.byteCells l) → c < n + k.length →
      ∃ v' w', (Builtin.append_ #[t, u] ty #[v, cx]).run P w = .ok v' w' ∧ OwnR w' e v' (l ++ k) ∧ Same w w' ∧ w.heap.size ≤ w'.heap.size ∧ (∀ q, q < w.heap.size → some q ≠ v.ownBlock → w'.heap[q]? = w.heap[q]?) ∧ (v'.ownBlock = v.ownBlock ∨ v'.ownBlock = some w.heap.size) := by
    rintro ad n c rfl rfl ho hg
    obtain ⟨cap, w1, hcap, hr, hw, hs⟩ := run_app_grow (ty := ty) ht hu hi hzv ho hn hg ⟨by rw [hz2]; omega, hlen⟩
    refine ⟨_, w1, hr, .inr ⟨w.heap.size, cap, (Lib.byteCells l).toArray ++ (Lib.byteCells k).toArray ++ Builtin.zeroCells (Value.int .u8 0).cells (cap - (l.length + k.length)), by simp, by rw [hw, Array.getElem?_push, if_pos rfl], by simpa using hcap, ?_, ?_⟩, hs, by rw [hw]; simp, fun q hq _ => by rw [hw, Array.getElem?_push]; simp [Nat.ne_of_lt hq], .inr rfl⟩
    · have e1 : (Value.int .u8 0).cells.size = 1 := rfl
      simp [Builtin.zeroCells, Lib.byteCells, e1]; omega
    · rw [Array.toList_append, Array.toList_append, List.toList_toArray, List.toList_toArray, List.take_append_of_le_length (by simp [Lib.byteCells]), List.take_of_length_le (by simp [Lib.byteCells]), Lib.byteCells_append]
  rcases hv with ⟨rfl, rfl⟩ | ⟨gb, cap, cur, rfl, h2, h3, h4, h5⟩
  · by_cases hk : k.length = 0
    · have hk0 : k = [] := List.eq_nil_of_length_eq_zero hk
      subst hk0
      have hrun := run_app_fits (P := P) (ty := ty) ht hu hi (ad := none) (n := 0) (c := 0) hn (by simp)
      exact ⟨_, w, hrun, .inl ⟨rfl, rfl⟩, .refl w, Nat.le_refl _, fun _ _ _ => rfl, .inl rfl⟩
    · exact grow none 0 0 rfl rfl ⟨fun w' => by simp [Builtin.lenOf], fun w' _ => by simp [Builtin.firstCells, Lib.byteCells], by simp [Lib.byteCells]⟩ (by omega)
  · have hcell : ∀ j u, (Lib.byteCells l)[j]? = some u → cur[j]? = some u := fun j u hu => by
      rw [← h5, List.getElem?_take] at hu
      split at hu
      · simpa using hu
      · cases hu
    have ho : Src P w (.slice (some ⟨gb, 0, none⟩) l.length cap) i.size l.length (Lib.byteCells l) := by
      refine ⟨fun w' => by simp [Builtin.lenOf], fun w' hw => run_firstCells_some w' i.size l.length ⟨gb, 0, none⟩ l.length cap _ (by rw [hz1]; simp [Lib.byteCells]) fun j u hu => ?_, by rw [hz1]; simp [Lib.byteCells]⟩
      rw [addr_add, Nat.zero_add, cell_heap (by rw [hw]; exact h2)]
      exact hcell j u hu
    rcases Nat.lt_or_ge cap (l.length + k.length) with hg | hg
    · exact grow _ _ _ rfl rfl ho hg
    · have hrun := run_app_fits (P := P) (ty := ty) ht hu hi (ad := some ⟨gb, 0, none⟩) (n := l.length) (c := cap) hn hg
      obtain ⟨w', hsr, hh, hsm⟩ := run_storeCells (P := P) gb (0 + l.length * i.size) e (0, 0) (Lib.byteCells k) 0 cur w h2 (byteCells_one k) (by rw [hz1]; simp [Lib.byteCells]; omega) (fun j hj1 hj2 => by omega)
      rw [Nat.add_zero] at hh
      simp only [addr_add, hsr, Result.andThen_ok] at hrun
      have hgl : gb < w.heap.size := (Array.getElem?_eq_some_iff.1 h2).1
      refine ⟨_, w', hrun, .inr ⟨gb, cap, setRunA cur (0 + l.length * i.size) (Lib.byteCells k), by simp, heap_set_at hh hgl, by simpa using hg, by rw [setRunA_size]; exact h4, ?_⟩, hsm, by rw [hh]; simp, fun q _ hq => heap_set hh q (fun e => hq (by rw [e]; rfl)), .inl rfl⟩
      have hget : ∀ j, (setRunA cur (0 + l.length * i.size) (Lib.byteCells k))[j]? = if 0 + l.length * i.size ≤ j ∧ j < 0 + l.length * i.size + (Lib.byteCells k).length then (Lib.byteCells k)[j - (0 + l.length * i.size)]? else cur[j]? := fun j => setRunA_get _ _ _ _ (by rw [hz1]; simp [Lib.byteCells]; omega)
      apply List.ext_getElem?
      intro j
      rw [List.getElem?_take, Lib.byteCells_append]
      have hbl : (Lib.byteCells l).length = l.length := by simp [Lib.byteCells]
      have hbk : (Lib.byteCells k).length = k.length := by simp [Lib.byteCells]
      rw [hz1] at hget
      simp only [hz1]
      split
      · rename_i hj
        rw [List.length_append] at hj
        rw [Array.getElem?_toList, hget]
        rcases Nat.lt_or_ge j l.length with hjl | hjl
        · rw [if_neg (by omega), List.getElem?_append_left (by omega)]
          have := List.getElem?_eq_getElem (l := Lib.byteCells l) (i := j) (by omega)
          rw [this]; exact hcell _ _ this
        · rw [if_pos (by omega), List.getElem?_append_right (by omega)]
          congr 1; omega
      · rename_i hj
        rw [List.length_append] at hj
        rw [List.getElem?_eq_none (by simp [Lib.byteCells]; omega)]
theorem wpList_app_row {P : Program} {ops : Array Oper} {rest : List Oper} {o : Oper} {a : Act} {Q : Exit → Act → World → Prop} (hgd : o.guard = none) (s x : Operand) (t u : TypeId)
    (ho : o.op = .call { callee := .builtin .append, args := #[s, x], argTypes := #[t, u] }) {e : TypeId} {i : TypeInfo} (ht : P.underlying t = some (.slice e)) (hu : P.underlying u = some .string ∨ ∃ e', P.underlying u = some (.slice e')) (hi : P.info? e = some i)
    (hz0 : i.zero = some (.int .u8 0)) (hz1 : i.size = 1) (hz2 : i.bytes = 1) {w : World} {v cx : Value} {l k : List UInt8} (hs : a.eval s = v) (hx : a.eval x = cx) (hv : OwnR w e v l) (hn : Src P w cx 1 k.length (Lib.byteCells k)) (hlen : l.length + k.length ≤ 70368744177664)
    (h : ∀ v' w', OwnR w' e v' (l ++ k) → Same w w' → w.heap.size ≤ w'.heap.size → (∀ q, q < w.heap.size → some q ≠ v.ownBlock → w'.heap[q]? = w.heap[q]?) → (v'.ownBlock = v.ownBlock ∨ v'.ownBlock = some w.heap.size) → wpList P ops Q rest (a.put o.dst v') w') : wpList P ops Q (o :: rest) a w := by
  refine wpList_plain hgd fun K hK => ?_
  obtain ⟨v', w', hr, h1, h2, h3, h4, h5⟩ := app_row (P := P) (ty := o.type) ht hu hi hz0 hz1 hz2 hv hn hlen
  unfold Oper.wp execOp
  simp only [ho, resolve, invoke, builtin, Sem.run_bind, Sem.run_pure, Result.andThen_ok, List.map_toArray, List.map_cons, List.map_nil, hs, hx, hr]
  exact hK _ _ (h v' w' h1 h2 h3 h4 h5)
/-- A builder's block: what holds its bytes. -/
def RowAt (w : World) (b t e : Nat) (l : List UInt8) (p v : Value) : Prop :=
  w.heap[b]? = some (.cells #[p, v] t (0, 0)) ∧ OwnR w e v l ∧ v.ownBlock ≠ some b
theorem RowAt.cell0 {w : World} {b t e : Nat} {l : List UInt8} {p v : Value} (h : RowAt w b t e l p v) : w.cell? ⟨b, 0, none⟩ = some p := by simp [World.cell?, h.1]
theorem RowAt.cell1 {w : World} {b t e : Nat} {l : List UInt8} {p v : Value} (h : RowAt w b t e l p v) : w.cell? ⟨b, 1, none⟩ = some v := by simp [World.cell?, h.1]
theorem RowAt.lt {w : World} {b t e : Nat} {l : List UInt8} {p v : Value} (h : RowAt w b t e l p v) : b < w.heap.size := (Array.getElem?_eq_some_iff.1 h.1).1
theorem Only.refl (w : World) (b : Nat) : Only w w b := ⟨⟨rfl, rfl, rfl⟩, rfl, fun _ _ => rfl⟩
theorem copyCheck_calls (b t e : Nat) (l : List UInt8) (p v : Value) (w : World) (h : RowAt w b t e l p v) (hp : p = .pointer none ∨ p = .pointer (some ⟨b, 0, none⟩)) (hl : liesAt Tryd.prog Tryd.prog.depth t (2 / Tryd.prog.cellsOf t) 0 52 1 = true) :
    Calls Tryd.prog 54 #[.pointer (some ⟨b, 0, none⟩)] w fun ex w' => ex = .returned (.tuple #[]) ∧ RowAt w' b t e l (.pointer (some ⟨b, 0, none⟩)) v ∧ Only w w' b := by
  rcases hp with rfl | rfl
  · refine (copyCheck_fresh b t w h.cell0 (by simp [World.shape?, h.1]) (by simp [World.frozen?, h.1]) hl).mono ?_
    rintro ex w' ⟨rfl, rfl⟩
    have hb : ∀ k, k ≠ b → (w.setCell ⟨b, 0, none⟩ (.pointer (some ⟨b, 0, none⟩))).heap[k]? = w.heap[k]? := fun k hk => Below.heap_setCell _ _ _ _ hk
    refine ⟨rfl, ⟨?_, h.2.1.kept fun k hk _ => hb k (fun e => h.2.2 (by rw [hk, e])), h.2.2⟩, ⟨rfl, rfl, rfl⟩, by simp [World.setCell], hb⟩
    simp [World.setCell, Array.getElem?_modify, h.1]
  · refine (copyCheck_used b w h.cell0).mono ?_
    rintro ex w' ⟨rfl, rfl⟩
    exact ⟨rfl, h, .refl _ _⟩
/-- Nothing but a builder's blocks has turned. -/
structure OnlyB (w w' : World) (b : Nat) (v v' : Value) : Prop where
  same : Same w w'
  size : w.heap.size ≤ w'.heap.size
  block : ∀ k, k < w.heap.size → k ≠ b → some k ≠ v.ownBlock → w'.heap[k]? = w.heap[k]?
  own : v'.ownBlock = v.ownBlock ∨ ∀ k, v'.ownBlock = some k → w.heap.size ≤ k
set_option maxHeartbeats 2000000 in
set_option maxRecDepth 100000 in
theorem ws_calls (b t : Nat) (l : List UInt8) (p v : Value) (s : ByteArray) (w : World) (h : RowAt w b t 5 l p v) (hp : p = .pointer none ∨ p = .pointer (some ⟨b, 0, none⟩)) (hl : liesAt Tryd.prog Tryd.prog.depth t (2 / Tryd.prog.cellsOf t) 0 52 1 = true)
    (hlen : l.length + s.size ≤ 70368744177664) :
    Calls Tryd.prog 49 #[.pointer (some ⟨b, 0, none⟩), .string s] w fun ex w' => ∃ cv v', ex = .returned cv ∧ RowAt w' b t 5 (l ++ s.data.toList) (.pointer (some ⟨b, 0, none⟩)) v' ∧ OnlyB w w' b v v' := by
  have hs41 : Tryd.prog.underlying 41 = some (.slice 5) := by kernel_rfl
  have hs9 : Tryd.prog.underlying 9 = some .string := by kernel_rfl
  obtain ⟨i0, hi, hz⟩ := Option.map_eq_some_iff.1 (show (Tryd.prog.info? 5).map (fun i => (i.zero, i.size, i.bytes)) = some (some (.int .u8 0), 1, 1) by kernel_rfl)
  injection hz with hz0 hz; injection hz with hz1 hz2
  have hsl : s.data.toList.length = s.size := by simp
  have hlen2 : l.length + s.data.toList.length ≤ 70368744177664 := by omega
  have hsrc : ∀ w, Src Tryd.prog w (.string s) 1 s.data.toList.length (Lib.byteCells s.data.toList) := fun w => by rw [hsl]; exact str_src rfl
  go_enter Tryd.func49, Tryd.ntmps49
  go_wp2_with (go_at_call 54; refine (copyCheck_calls b t 5 l p v _ h hp hl).mono ?_)
  rintro ex w1 ⟨rfl, h1, hb1⟩
  have c0 := h1.cell0
  have c1 := h1.cell1
  have hne := h1.2.2
  go_wp2_with (at_builtin; refine wpList_app_row (v := v) (cx := .string s) (l := l) (k := s.data.toList) rfl _ _ 41 9 rfl hs41 (.inl hs9) hi hz0 hz1 hz2 rfl rfl h1.2.1 (hsrc _) hlen2 ?_)
  intro v' w2 hown' hsm hsz hfr hblk
  have hb2 : w2.heap[b]? = some (.cells #[.pointer (some ⟨b, 0, none⟩), v] t (0, 0)) := by
    rw [hfr b h1.lt (fun e => hne e.symm)]
    exact h1.1
  have hvb : v'.ownBlock ≠ some b := by
    rcases hblk with e | e
    · rw [e]; exact hne
    · rw [e]; intro e2; injection e2 with e2; have := h1.lt; omega
  have d0 : w2.cell? ⟨b, 0, none⟩ = some (.pointer (some ⟨b, 0, none⟩)) := by rw [Lib.cell_of_heap hb2]; rfl
  have d1 : w2.cell? ⟨b, 1, none⟩ = some v := by rw [Lib.cell_of_heap hb2]; rfl
  have f1 : w2.frozen? ⟨b, 1, none⟩ = false := Lib.frozen_of_heap hb2 1
  obtain ⟨ao, n', cap, rfl⟩ : ∃ ao n' cap, v' = .slice ao n' cap := by
    rcases hown' with ⟨hv, _⟩ | ⟨g, cap, cur, hv, _⟩
    · exact ⟨_, _, _, hv⟩
    · exact ⟨_, _, _, hv⟩
  go_wp2
  go_ret2
  have hset : ∀ k, k ≠ b → (w2.setCell ⟨b, 1, none⟩ (.slice ao n' cap)).heap[k]? = w2.heap[k]? := fun k hk => Below.heap_setCell _ _ _ _ hk
  refine ⟨_, .slice ao n' cap, rfl, ⟨?_, hown'.kept fun k hk _ => hset k (fun e => hvb (by rw [hk, e])), hvb⟩, ⟨hsm.os.trans hb1.same.os, hsm.tape.trans hb1.same.tape, hsm.output.trans hb1.same.output⟩, ?_, fun k hk hkb hkv => ?_, ?_⟩
  · simp [World.setCell, Array.getElem?_modify, hb2]
  · have := hb1.size; simp [World.setCell]; omega
  · rw [hset k hkb, hfr k (by rw [hb1.size]; exact hk) hkv, hb1.block k hkb]
  · rcases hblk with e | e
    · exact .inl e
    · refine .inr fun k hk => ?_
      rw [e] at hk; injection hk with hk; rw [← hk, hb1.size]; exact Nat.le_refl _
set_option maxHeartbeats 2000000 in
set_option maxRecDepth 100000 in
theorem wb_calls (b t : Nat) (l : List UInt8) (p v : Value) (c : UInt8) (w : World) (h : RowAt w b t 5 l p v) (hp : p = .pointer none ∨ p = .pointer (some ⟨b, 0, none⟩)) (hl : liesAt Tryd.prog Tryd.prog.depth t (2 / Tryd.prog.cellsOf t) 0 52 1 = true)
    (hlen : l.length + 1 ≤ 70368744177664) :
    Calls Tryd.prog 51 #[.pointer (some ⟨b, 0, none⟩), .int .u8 (c.toNat : Int)] w fun ex w' => ∃ cv v', ex = .returned cv ∧ RowAt w' b t 5 (l ++ [c]) (.pointer (some ⟨b, 0, none⟩)) v' ∧ OnlyB w w' b v v' := by
  have hs41 : Tryd.prog.underlying 41 = some (.slice 5) := by kernel_rfl
  obtain ⟨i0, hi, hz⟩ := Option.map_eq_some_iff.1 (show (Tryd.prog.info? 5).map (fun i => (i.zero, i.size, i.bytes)) = some (some (.int .u8 0), 1, 1) by kernel_rfl)
  injection hz with hz0 hz; injection hz with hz1 hz2
  go_enter Tryd.func51, Tryd.ntmps51
  go_wp2_with (go_at_call 54; refine (copyCheck_calls b t 5 l p v _ h hp hl).mono ?_)
  rintro ex w1 ⟨rfl, h1, hb1⟩
  have c0 := h1.cell0
  have c1 := h1.cell1
  have hne := h1.2.2
  have h1a : RowAt (w1.alloc (.cells #[.int .u8 (c.toNat : Int)] 5)) b t 5 l (.pointer (some ⟨b, 0, none⟩)) v :=
    ⟨by rw [show (w1.alloc (.cells #[.int .u8 (c.toNat : Int)] 5)).heap = w1.heap.push _ from rfl, Array.getElem?_push, if_neg (Nat.ne_of_lt h1.lt)]; exact h1.1, h1.2.1.kept fun k _ hk => by rw [show (w1.alloc (.cells #[.int .u8 (c.toNat : Int)] 5)).heap = w1.heap.push _ from rfl, Array.getElem?_push, if_neg (Nat.ne_of_lt hk)], h1.2.2⟩
  have hsrc : Src Tryd.prog (w1.alloc (.cells #[.int .u8 (c.toNat : Int)] 5)) (.slice (some ⟨w1.heap.size, 0, none⟩) 1 1) 1 [c].length (Lib.byteCells [c]) := by
    refine ⟨fun w' => by simp [Builtin.lenOf], fun w' hw => run_firstCells_some w' 1 1 ⟨w1.heap.size, 0, none⟩ 1 1 _ (by simp [Lib.byteCells]) fun j u hu => ?_, by simp [Lib.byteCells]⟩
    rw [addr_add, Nat.zero_add, cell_heap (cv := #[.int .u8 (c.toNat : Int)]) (tag := 5) (fr := (0, 0)) (by rw [hw, show (w1.alloc (.cells #[.int .u8 (c.toNat : Int)] 5)).heap = w1.heap.push _ from rfl, Array.getElem?_push, if_pos rfl])]
    match j, hu with
    | 0, hu => simpa [Lib.byteCells] using hu
    | j + 1, hu => simp [Lib.byteCells] at hu
  go_wp2_with (at_builtin; refine wpList_app_row (v := v) (cx := .slice (some ⟨w1.heap.size, 0, none⟩) 1 1) (l := l) (k := [c]) rfl _ _ 41 41 rfl hs41 (.inr ⟨_, hs41⟩) hi hz0 hz1 hz2 rfl rfl h1a.2.1 hsrc hlen ?_)
  intro v' w2 hown' hsm hsz hfr hblk
  have hal : (w1.alloc (.cells #[.int .u8 (c.toNat : Int)] 5)).heap.size = w1.heap.size + 1 := by simp
  have hao : ∀ k, k < w1.heap.size → (w1.alloc (.cells #[.int .u8 (c.toNat : Int)] 5)).heap[k]? = w1.heap[k]? := fun k hk => by rw [show (w1.alloc (.cells #[.int .u8 (c.toNat : Int)] 5)).heap = w1.heap.push _ from rfl, Array.getElem?_push, if_neg (Nat.ne_of_lt hk)]
  have hb2 : w2.heap[b]? = some (.cells #[.pointer (some ⟨b, 0, none⟩), v] t (0, 0)) := by
    rw [hfr b (by have := h1.lt; omega) (fun e => hne e.symm)]
    exact h1a.1
  have hvb : v'.ownBlock ≠ some b := by
    rcases hblk with e | e
    · rw [e]; exact hne
    · rw [e]; intro e2; injection e2 with e2; have := h1.lt; omega
  have d0 : w2.cell? ⟨b, 0, none⟩ = some (.pointer (some ⟨b, 0, none⟩)) := by rw [Lib.cell_of_heap hb2]; rfl
  have d1 : w2.cell? ⟨b, 1, none⟩ = some v := by rw [Lib.cell_of_heap hb2]; rfl
  have f1 : w2.frozen? ⟨b, 1, none⟩ = false := Lib.frozen_of_heap hb2 1
  obtain ⟨ao, n', cap, rfl⟩ : ∃ ao n' cap, v' = .slice ao n' cap := by
    rcases hown' with ⟨hv, _⟩ | ⟨g, cap, cur, hv, _⟩
    · exact ⟨_, _, _, hv⟩
    · exact ⟨_, _, _, hv⟩
  go_wp2
  go_ret
  have hset : ∀ k, k ≠ b → (w2.setCell ⟨b, 1, none⟩ (.slice ao n' cap)).heap[k]? = w2.heap[k]? := fun k hk => Below.heap_setCell _ _ _ _ hk
  refine ⟨_, .slice ao n' cap, rfl, ⟨?_, hown'.kept fun k hk _ => hset k (fun e => hvb (by rw [hk, e])), hvb⟩, ⟨hsm.os.trans hb1.same.os, hsm.tape.trans hb1.same.tape, hsm.output.trans hb1.same.output⟩, ?_, fun k hk hkb hkv => ?_, ?_⟩
  · simp [World.setCell, Array.getElem?_modify, hb2]
  · have := hb1.size; simp [World.setCell]; omega
  · rw [hset k hkb, hfr k (by rw [hb1.size]; omega) hkv, hao k (by rw [hb1.size]; exact hk), hb1.block k hkb]
  · rcases hblk with e | e
    · exact .inl e
    · refine .inr fun k hk => ?_
      rw [e] at hk; injection hk with hk; rw [← hk, hb1.size]; omega
/-- Nothing but a builder's bytes has turned. -/
structure OnlyG (w w' : World) (v : Value) : Prop where
  same : Same w w'
  size : w.heap.size ≤ w'.heap.size
  block : ∀ k, k < w.heap.size → some k ≠ v.ownBlock → w'.heap[k]? = w.heap[k]?
theorem OnlyG.drew (w : World) (v : Value) : OnlyG w w.drew v := ⟨⟨rfl, rfl, rfl⟩, Nat.le_refl _, fun _ _ _ => rfl⟩
theorem OnlyG.freeze (w : World) (v : Value) (g n : Nat) (h : v.ownBlock = some g) : OnlyG w (w.drew.freeze ⟨g, 0, none⟩ n) v := by
  unfold World.freeze
  split
  · exact .drew w v
  · refine ⟨⟨rfl, rfl, rfl⟩, by simp, fun k hk hv => ?_⟩
    simp only [Array.getElem?_modify]
    rw [if_neg (fun e => hv (by rw [h]; exact congrArg some e.symm))]; rfl
theorem OnlyG.alloc (w : World) (v : Value) (o : Obj) : OnlyG w (w.drew.alloc o) v := by
  refine ⟨⟨rfl, rfl, rfl⟩, ?_, fun k hk _ => ?_⟩
  · rw [show (w.drew.alloc o).heap = w.heap.push o from rfl, Array.size_push]; exact Nat.le_succ _
  · rw [show (w.drew.alloc o).heap = w.heap.push o from rfl, Array.getElem?_push, if_neg (Nat.ne_of_lt hk)]
set_option maxHeartbeats 2000000 in
set_option maxRecDepth 100000 in
theorem str_calls (b t : Nat) (l : List UInt8) (p v : Value) (w : World) (h : RowAt w b t 5 l p v) (hlen : l.length ≤ 70368744177664) :
    Calls Tryd.prog 41 #[.pointer (some ⟨b, 0, none⟩)] w fun ex w' => ex = .returned (.string ⟨l.toArray⟩) ∧ OnlyG w w' v := by
  have hp : Tryd.prog.underlying 63 = some (.pointer 5) := by kernel_rfl
  have hc : Tryd.prog.cellsOf 5 = 1 := by kernel_rfl
  have hlt := h.lt
  have hbk := h.1
  rcases h.2.1 with ⟨rfl, rfl⟩ | ⟨g, cap, cur, rfl, hg, hnc, hcs, htake⟩
  · have hUS : ∀ W : World, ∀ q, (Builtin.unsafeString_ #[63, 3] 9 #[.pointer q, .int .i64 0]).run Tryd.prog W = .ok (.string .empty) W := fun W q => Lib.run_unsafeString_none W _ _ _ q
    have c1 : w.drew.cell? ⟨b, 1, none⟩ = some (.slice none 0 0) := by
      have : w.drew.heap[b]? = _ := hbk
      rw [Lib.cell_of_heap this]; rfl
    have hSD : (Builtin.unsafeSliceData_ #[41] 63 #[.slice none 0 0]).run Tryd.prog w.drew = .ok (.pointer none) w.drew := rfl
    go_enter Tryd.func41, Tryd.ntmps41
    go_wp2
    go_region
    all_goals (go_wp2; go_ret; exact ⟨rfl, .drew w _⟩)
  · cases l with
    | nil =>
      have hUS : ∀ W : World, ∀ q, (Builtin.unsafeString_ #[63, 3] 9 #[.pointer q, .int .i64 0]).run Tryd.prog W = .ok (.string .empty) W := fun W q => Lib.run_unsafeString_none W _ _ _ q
      by_cases hc0 : cap = 0
      · subst hc0
        have c1 : w.drew.cell? ⟨b, 1, none⟩ = some (.slice (some ⟨g, 0, none⟩) 0 0) := by
          have : w.drew.heap[b]? = _ := hbk
          rw [Lib.cell_of_heap this]; rfl
        have hSD : (Builtin.unsafeSliceData_ #[41] 63 #[.slice (some ⟨g, 0, none⟩) 0 0]).run Tryd.prog w.drew = .ok (.pointer (some ⟨w.drew.heap.size, 0, none⟩)) (w.drew.alloc (.view ⟨g, 0, none⟩ 5)) :=
          Lib.run_unsafeSliceData_zero w.drew _ _ 5 hp ⟨g, 0, none⟩ 0 (5, cur.size) (by have hg' : w.drew.heap[g]? = _ := hg; simp [World.shape?, hg'])
        have c2 : (w.drew.alloc (.view ⟨g, 0, none⟩ 5)).cell? ⟨b, 1, none⟩ = some (.slice (some ⟨g, 0, none⟩) 0 0) := by
          have : (w.drew.alloc (.view ⟨g, 0, none⟩ 5)).heap[b]? = _ := (Lib.alloc_old w.drew _ b hlt).trans hbk
          rw [Lib.cell_of_heap this]; rfl
        have c3 : (w.alloc (.view ⟨g, 0, none⟩ 5)).drew.cell? ⟨b, 1, none⟩ = some (.slice (some ⟨g, 0, none⟩) 0 0) := c2
        have c0 : w.cell? ⟨b, 1, none⟩ = some (.slice (some ⟨g, 0, none⟩) 0 0) := c1
        go_enter Tryd.func41, Tryd.ntmps41
        go_wp2
        go_region
        all_goals (go_wp2; go_ret; exact ⟨rfl, .alloc w _ _⟩)
      · have c1 : w.drew.cell? ⟨b, 1, none⟩ = some (.slice (some ⟨g, 0, none⟩) 0 cap) := by
          have : w.drew.heap[b]? = _ := hbk
          rw [Lib.cell_of_heap this]; rfl
        have hSD : (Builtin.unsafeSliceData_ #[41] 63 #[.slice (some ⟨g, 0, none⟩) 0 cap]).run Tryd.prog w.drew = .ok (.pointer (some ⟨g, 0, none⟩)) w.drew :=
          Lib.run_unsafeSliceData_row _ _ _ _ _ _ hc0
        clear hc0
        go_enter Tryd.func41, Tryd.ntmps41
        go_wp2
        go_region
        all_goals (go_wp2; go_ret; exact ⟨rfl, .drew w _⟩)
    | cons x r =>
      have h0 : (x :: r) ≠ [] := by simp
      generalize hlr : x :: r = l at *
      have hl0 : l.length ≠ 0 := by simpa using h0
      have c1 : w.drew.cell? ⟨b, 1, none⟩ = some (.slice (some ⟨g, 0, none⟩) l.length cap) := by
        have : w.drew.heap[b]? = _ := hbk
        rw [Lib.cell_of_heap this]; rfl
      have hSD : (Builtin.unsafeSliceData_ #[41] 63 #[.slice (some ⟨g, 0, none⟩) l.length cap]).run Tryd.prog w.drew = .ok (.pointer (some ⟨g, 0, none⟩)) w.drew :=
        Lib.run_unsafeSliceData_row _ _ _ _ _ _ (by omega)
      have hUS : (Builtin.unsafeString_ #[63, 3] 9 #[.pointer (some ⟨g, 0, none⟩), .int .i64 l.length]).run Tryd.prog w.drew = .ok (.string ⟨l.toArray⟩) (w.drew.freeze ⟨g, 0, none⟩ l.length) := by
        refine Lib.run_unsafeString_row w.drew 63 3 9 5 hp hc g cur.size (by have hg' : w.drew.heap[g]? = _ := hg; simp [World.shape?, hg']) l h0 (by omega) (by omega) ?_
        intro j x hx
        have hg' : w.drew.heap[g]? = _ := hg
        rw [addr_add, Nat.zero_add, cell_heap hg']
        have := congrArg (fun l => l[j]?) htake
        simp only [List.getElem?_take, Lib.byteCells, List.getElem?_map, hx, Option.map_some] at this
        rw [if_pos (List.getElem?_eq_some_iff.1 hx).1] at this
        simpa using this
      go_enter Tryd.func41, Tryd.ntmps41
      go_wp2
      go_region
      all_goals (go_wp2; go_ret; exact ⟨rfl, .freeze w _ g _ rfl⟩)
/-! The primitives. -/
def bldTs : List Nat := [52]
theorem bldTs_ok : ∀ t ∈ bldTs, liesAt Tryd.prog Tryd.prog.depth t (2 / Tryd.prog.cellsOf t) 0 52 1 = true := by
  simp only [bldTs, List.forall_mem_cons]
  exact ⟨by kernel_rfl, fun _ h => by cases h⟩
theorem bld_row {g : Gh} {ow : Nat → Option Nat} {id b t e : Nat} {l : List UInt8} {w : World} (h : BldAt g ow id b t e l w) :
    ∃ p v, RowAt w b t e l p v ∧ (p = .pointer none ∨ p = .pointer (some ⟨b, 0, none⟩)) ∧ ow b = some id ∧ (∀ i, g.M b i = none) ∧ ∀ k, v.ownBlock = some k → ow k = some id ∧ ∀ i, g.M k i = none := by
  obtain ⟨p, v, h1, h2, h3, h4, h5⟩ := h
  rcases h5 with ⟨rfl, rfl⟩ | ⟨gb, cap, cur, rfl, m2, m3, m5, m6, m7, m8, m9⟩
  · exact ⟨p, _, ⟨h1, .inl ⟨rfl, rfl⟩, by simp [Value.ownBlock]⟩, h2, h3, h4, fun k hk => by simp [Value.ownBlock] at hk⟩
  · refine ⟨p, _, ⟨h1, .inr ⟨gb, cap, cur, rfl, m2, m3, m5, m6⟩, fun e => by injection e with e; exact m8 e⟩, h2, h3, h4, fun k hk => ?_⟩
    injection hk with hk; subst hk; exact ⟨m7, m9⟩
theorem row_bld {g : Gh} {ow : Nat → Option Nat} {id b t e : Nat} {l : List UInt8} {w : World} {p v : Value} (h : RowAt w b t e l p v) (hp : p = .pointer none ∨ p = .pointer (some ⟨b, 0, none⟩)) (ho : ow b = some id) (hM : ∀ i, g.M b i = none) (hk : ∀ k, v.ownBlock = some k → ow k = some id ∧ ∀ i, g.M k i = none) :
    BldAt g ow id b t e l w := by
  refine ⟨p, v, h.1, hp, ho, hM, ?_⟩
  rcases h.2.1 with ⟨rfl, rfl⟩ | ⟨gb, cap, cur, rfl, m2, m3, m5, m6⟩
  · exact .inl ⟨rfl, rfl⟩
  · obtain ⟨k1, k2⟩ := hk gb rfl
    exact .inr ⟨gb, cap, cur, rfl, m2, m3, m5, m6, k1, fun e => h.2.2 (by rw [e]; rfl), k2⟩
/-- What a write leaves. -/
theorem wrote {bs : Nat} {g : Gh} {ow : Nat → Option Nat} {σ : Heap} {w w' : World} (h : HR g ow σ w) {id t e b c : Nat} {l l' : List UInt8} {p v v' : Value} (hσ : σ[id]? = some (.bld t e l)) (hp : g.φ id = some (b, c))
    (hob : ow b = some id) (hMb : ∀ i, g.M b i = none) (hog : ∀ k, v.ownBlock = some k → ow k = some id ∧ ∀ i, g.M k i = none)
    (hR : RowAt w b t e l p v) (hR' : RowAt w' b t e l' (.pointer (some ⟨b, 0, none⟩)) v') (hO : OnlyB w w' b v v') :
    ∃ ow', HR g ow' (σ.set id (.bld t e l')) w' ∧ St bs g ow σ w g ow' (σ.set id (.bld t e l')) w' := by
  have hMn : ∀ k, w.heap.size ≤ k → ∀ i, g.M k i = none := fun k hk i => by
    cases hm : g.M k i with
    | none => rfl
    | some u => have := h.lt hm; omega
  refine ⟨fun k => if some k = v'.ownBlock ∧ w.heap.size ≤ k then some id else ow k, h.bldTo (v := v) hσ hp hob hMb hog hO.same hO.size (fun k hk h1 h2 => hO.block k hk h1 h2) (fun k hk => by rw [if_neg (by omega)]) _ (.inr ⟨l', rfl, row_bld hR' (.inr rfl) ?_ hMb fun k hk => ?_⟩)⟩
  · rw [if_neg (by have := hR.lt; omega)]; exact hob
  · rcases hO.own with e | e
    · rw [e] at hk
      obtain ⟨k1, k2⟩ := hog k hk
      refine ⟨?_, k2⟩
      rw [if_neg (by have := hR.2.1.lt hk; omega)]; exact k1
    · have hge := e k hk
      exact ⟨by rw [if_pos ⟨hk.symm, hge⟩], hMn k hge⟩
def wsP (args : List AV) (_ : Nat) (σ : Heap) : Option (AV × Heap) := match args with
  | [.ptr id 0, .str s] => match σ[id]? with
    | some (.bld t e l) => if t ∈ bldTs ∧ e = 5 ∧ l.length + s.size ≤ 70368744177664 then some (.undef, σ.set id (.bld t e (l ++ s.data.toList))) else none
    | _ => none
  | _ => none
theorem ws_ok : PrimOK Tryd.prog 49 wsP := by
  intro args bs σ v σ' h hbs
  unfold wsP at h
  split at h
  · rename_i id s
    split at h
    · rename_i t e l hσ
      split at h
      · rename_i hc
        obtain ⟨ht, rfl, hlen⟩ := hc
        injection h with h; injection h with e1 e2; subst e1 e2
        refine ⟨⟨_, Tryd.func49, by kernel_rfl, by kernel_rfl⟩, fun g ow w cargs hH hA => ?_⟩
        obtain ⟨c, d, rfl, hx, hy⟩ := args2 hA
        rw [hy.strv]
        cases hx with
        | @ptr _ _ b cc hp =>
          obtain ⟨p, v, hR, hpp, hob, hMb, hog⟩ := bld_row (hH.bd id t _ l hσ b cc hp)
          refine (ws_calls b t l p v s w hR hpp (bldTs_ok t ht) hlen).mono ?_
          rintro ex w' ⟨cv, v', rfl, hR', hO⟩
          obtain ⟨ow', h1, h2⟩ := wrote (bs := bs) hH hσ hp hob hMb hog hR hR' hO
          exact ⟨cv, g, ow', rfl, .undef _, h1, h2⟩
      · cases h
    · cases h
  · cases h
def wbP (args : List AV) (_ : Nat) (σ : Heap) : Option (AV × Heap) := match args with
  | [.ptr id 0, .int .u8 n] => match σ[id]? with
    | some (.bld t e l) => if t ∈ bldTs ∧ e = 5 ∧ l.length + 1 ≤ 70368744177664 ∧ 0 ≤ n ∧ n < 256 then some (.undef, σ.set id (.bld t e (l ++ [UInt8.ofNat n.toNat]))) else none
    | _ => none
  | _ => none
theorem wb_ok : PrimOK Tryd.prog 51 wbP := by
  intro args bs σ v σ' h hbs
  unfold wbP at h
  split at h
  · rename_i id n
    split at h
    · rename_i t e l hσ
      split at h
      · rename_i hc
        obtain ⟨ht, rfl, hlen, hn0, hn1⟩ := hc
        injection h with h; injection h with e1 e2; subst e1 e2
        refine ⟨⟨_, Tryd.func51, by kernel_rfl, by kernel_rfl⟩, fun g ow w cargs hH hA => ?_⟩
        obtain ⟨c, d, rfl, hx, hy⟩ := args2 hA
        have hd : d = .int .u8 ((UInt8.ofNat n.toNat).toNat : Int) := by
          have e : ((UInt8.ofNat n.toNat).toNat : Int) = n := by
            rw [UInt8.toNat_ofNat']; omega
          rw [e]; cases hy; rfl
        subst hd
        cases hx with
        | @ptr _ _ b cc hp =>
          obtain ⟨p, v, hR, hpp, hob, hMb, hog⟩ := bld_row (hH.bd id t _ l hσ b cc hp)
          refine (wb_calls b t l p v (UInt8.ofNat n.toNat) w hR hpp (bldTs_ok t ht) hlen).mono ?_
          rintro ex w' ⟨cv, v', rfl, hR', hO⟩
          obtain ⟨ow', h1, h2⟩ := wrote (bs := bs) hH hσ hp hob hMb hog hR hR' hO
          exact ⟨cv, g, ow', rfl, .undef _, h1, h2⟩
      · cases h
    · cases h
  · cases h
def strP (args : List AV) (_ : Nat) (σ : Heap) : Option (AV × Heap) := match args with
  | [.ptr id 0] => match σ[id]? with
    | some (.bld t e l) => if e = 5 ∧ l.length ≤ 70368744177664 then some (.str ⟨l.toArray⟩, σ.set id .dead) else none
    | _ => none
  | _ => none
theorem str_ok : PrimOK Tryd.prog 41 strP := by
  intro args bs σ v σ' h hbs
  unfold strP at h
  split at h
  · rename_i id
    split at h
    · rename_i t e l hσ
      split at h
      · rename_i hc
        obtain ⟨rfl, hlen⟩ := hc
        injection h with h; injection h with e1 e2; subst e1 e2
        refine ⟨⟨_, Tryd.func41, by kernel_rfl, by kernel_rfl⟩, fun g ow w cargs hH hA => ?_⟩
        obtain ⟨c, rfl, hx⟩ := args1 hA
        cases hx with
        | @ptr _ _ b cc hp =>
          obtain ⟨p, v, hR, hpp, hob, hMb, hog⟩ := bld_row (hH.bd id t _ l hσ b cc hp)
          refine (str_calls b t l p v w hR hlen).mono ?_
          rintro ex w' ⟨rfl, hO⟩
          obtain ⟨h1, h2⟩ := hH.bldTo (bs := bs) (ow' := ow) (v := v) hσ hp hob hMb hog hO.same hO.size (fun k hk _ hv => hO.block k hk hv) (fun _ _ => rfl) .dead (.inl rfl)
          exact ⟨_, g, ow, rfl, .str _, h1, h2⟩
      · cases h
    · cases h
  · cases h
end Go.Proofs.YtblbebnielfjoaaDoor
end
section
/-
  DERIVED: THE SHELF's CONTRACTS AT THIS DUMP, IN PLAIN WORDS (tools/lay-plain.mjs out of 'YtblbebnielfjoaaDoorShelf.lean', which tools/lay-shelf.mjs wrote): THE SAME DECLARATIONS UNDER THE SAME NAMES: 'import', 'namespace', 'open', 'def', 'theorem' AND NOTHING ELSE: no command of the shelf's: FOR A HAND-IN. Each laying: the table of numbers ('.._ren') and one theorem, a field a fact of the dump's own or the kernel's comparison; each contract: ONE APPLICATION.
-/
namespace Go.Proofs
open Go.Shelf
def Tryd.laysM171_ren : Go.Shelf.Ren := ⟨fun | 171 => 50 | 243 => 55 | 246 => 57 | 283 => 58 | 284 => 59 | 285 => 60 | 286 => 61 | 129 => 63 | 317 => 62 | 318 => 64 | 319 => 65 | 320 => 66 | 337 => 67 | 338 => 68 | n => n, fun | 3 => 3 | 9 => 9 | 2 => 2 | 4 => 4 | 171 => 68 | 0 => 0 | 53 => 69 | 37 => 41 | 5 => 5 | 173 => 72 | 212 => 76 | 51 => 77 | 20 => 20 | 213 => 78 | 46 => 79 | 232 => 82 | 233 => 83 | n => n, fun | 17 => 1 | 18 => 2 | 19 => 3 | n => n⟩
theorem Tryd.laysM171 : Go.Proofs.LaysM.n171 Tryd.prog Tryd.laysM171_ren := {
  mixed := by kernel_rfl
  f129 := Tryd.func63.trans (congrArg some (by kernel_rfl))
  f171 := Tryd.func50.trans (congrArg some (by kernel_rfl))
  f243 := Tryd.func55.trans (congrArg some (by kernel_rfl))
  f246 := Tryd.func57.trans (congrArg some (by kernel_rfl))
  f283 := Tryd.func58.trans (congrArg some (by kernel_rfl))
  f284 := Tryd.func59.trans (congrArg some (by kernel_rfl))
  f285 := Tryd.func60.trans (congrArg some (by kernel_rfl))
  f286 := Tryd.func61.trans (congrArg some (by kernel_rfl))
  f317 := Tryd.func62.trans (congrArg some (by kernel_rfl))
  f318 := Tryd.func64.trans (congrArg some (by kernel_rfl))
  f319 := Tryd.func65.trans (congrArg some (by kernel_rfl))
  f320 := Tryd.func66.trans (congrArg some (by kernel_rfl))
  f337 := Tryd.func67.trans (congrArg some (by kernel_rfl))
  f338 := Tryd.func68.trans (congrArg some (by kernel_rfl))
  t0 := Tryd.underlying0
  a0 := Tryd.isAgg0
  z0 := Tryd.sizeOf0
  v0 := Tryd.zeroValue0
  t2 := Tryd.underlying2
  a2 := Tryd.isAgg2
  z2 := Tryd.sizeOf2
  v2 := Tryd.zeroValue2
  t3 := Tryd.underlying3
  a3 := Tryd.isAgg3
  z3 := Tryd.sizeOf3
  v3 := Tryd.zeroValue3
  t4 := Tryd.underlying4
  a4 := Tryd.isAgg4
  z4 := Tryd.sizeOf4
  v4 := Tryd.zeroValue4
  t5 := Tryd.underlying5
  a5 := Tryd.isAgg5
  z5 := Tryd.sizeOf5
  v5 := Tryd.zeroValue5
  t9 := Tryd.underlying9
  a9 := Tryd.isAgg9
  z9 := Tryd.sizeOf9
  v9 := Tryd.zeroValue9
  t20 := Tryd.underlying20
  a20 := Tryd.isAgg20
  z20 := Tryd.sizeOf20
  v20 := Tryd.zeroValue20
  t37 := Tryd.underlying41
  a37 := Tryd.isAgg41
  z37 := Tryd.sizeOf41
  v37 := Tryd.zeroValue41
  t46 := Tryd.underlying79
  a46 := Tryd.isAgg79
  z46 := Tryd.sizeOf79
  v46 := Tryd.zeroValue79
  t51 := Tryd.underlying77
  a51 := Tryd.isAgg77
  z51 := Tryd.sizeOf77
  v51 := Tryd.zeroValue77
  t53 := Tryd.underlying69
  a53 := Tryd.isAgg69
  z53 := Tryd.sizeOf69
  v53 := Tryd.zeroValue69
  t171 := Tryd.underlying68
  a171 := Tryd.isAgg68
  z171 := Tryd.sizeOf68
  v171 := Tryd.zeroValue68
  t173 := Tryd.underlying72
  a173 := Tryd.isAgg72
  z173 := Tryd.sizeOf72
  v173 := Tryd.zeroValue72
  t212 := Tryd.underlying76
  a212 := Tryd.isAgg76
  z212 := Tryd.sizeOf76
  v212 := Tryd.zeroValue76
  t213 := Tryd.underlying78
  a213 := Tryd.isAgg78
  z213 := Tryd.sizeOf78
  t232 := Tryd.underlying82
  a232 := Tryd.isAgg82
  z232 := Tryd.sizeOf82
  v232 := Tryd.zeroValue82
  t233 := Tryd.underlying83
  a233 := Tryd.isAgg83
  z233 := Tryd.sizeOf83
  v233 := Tryd.zeroValue83
  g17 := by kernel_rfl
  g18 := by kernel_rfl
  g19 := by kernel_rfl
  i0 := by kernel_rfl
  i2 := by kernel_rfl
  i3 := by kernel_rfl
  i4 := by kernel_rfl
  i5 := by kernel_rfl
  i9 := by kernel_rfl
  i20 := by kernel_rfl
  i37 := by kernel_rfl
  i46 := by kernel_rfl
  i51 := by kernel_rfl
  i53 := by kernel_rfl
  i171 := by kernel_rfl
  i173 := by kernel_rfl
  i212 := by kernel_rfl
  i232 := by kernel_rfl
  i233 := by kernel_rfl
  m17 := by kernel_rfl
  m18 := by kernel_rfl
  m19 := by kernel_rfl }
open Go.RowKit Go.Sort Go.Lib in
/-- strconv.Itoa: "Itoa is equivalent to FormatInt(int64(i), 10).": i's DECIMAL NUMERAL ('Lib.itoa': a '-' where i is negative, then the digits), FOR EVERY int. The world behind the call: the world before it, new blocks behind the heap (the library's 'var a [24]byte'), draws. (LAID: no walk: one application.) -/
theorem Tryd.strconv_Itoa (n : Int) (h0 : -9223372036854775808 ≤ n) (h1 : n ≤ 9223372036854775807) (w : World) (htab : Lib.TabIs Tryd.prog w "internal/strconv.uint64pow10" .u64 Lib.pow10Tab) :
    Calls Tryd.prog 50 #[.int .i64 n] w fun e w' => e = .returned (.string ⟨(Lib.itoa n).toArray⟩) ∧ ∃ k os, w' = grow (w.drewN k) os := Any.strconv_Itoa Tryd.laysM171 n h0 h1 w htab
end Go.Proofs
end
section
set_option linter.unusedVariables false
set_option linter.unusedSimpArgs false
set_option linter.unnecessarySimpa false
namespace Go.Proofs.YtblbebnielfjoaaDoor
open Go.RowKit Go.Mach Go.Sort

/-! ### strconv.Itoa -/
theorem pow10_pin : (1, (((List.range 20).map fun i => ((10 ^ i : Nat) : Int)).map fun z => Value.int .u64 z).toArray) ∈ pinned := by simp [pinned]
def itoaP (args : List AV) (_ : Nat) (σ : Heap) : Option (AV × Heap) := match args with
  | [.int .i64 n] => if -9223372036854775808 ≤ n ∧ n ≤ 9223372036854775807 then some (.str ⟨(Lib.itoa n).toArray⟩, σ) else none
  | _ => none
theorem itoa_ok : PrimOK Tryd.prog 50 itoaP := by
  intro args bs σ v σ' h hbs
  unfold itoaP at h
  split at h
  · rename_i n
    split at h
    · rename_i hc
      injection h with h; injection h with e1 e2; subst e1 e2
      refine ⟨⟨_, Tryd.func50, by kernel_rfl, by kernel_rfl⟩, fun g ow w cargs hH hA => ?_⟩
      obtain ⟨c, rfl, hx⟩ := args1 hA
      have hx : c = .int .i64 n := by cases hx; rfl
      subst hx
      obtain ⟨⟨t, fr, hp⟩, _⟩ := hH.pin _ pow10_pin
      have htab : Lib.TabIs Tryd.prog w "internal/strconv.uint64pow10" .u64 Lib.pow10Tab := by
        unfold Lib.TabIs World.var?
        rw [show Tryd.prog.globalNamed "internal/strconv.uint64pow10" = some 1 by kernel_rfl]
        simp only [Option.bind_some, hp]; rfl
      refine (Tryd.strconv_Itoa n hc.1 hc.2 w htab).mono ?_
      rintro e w' ⟨rfl, k, os, rfl⟩
      obtain ⟨h1, h2⟩ := hH.more (bs := bs) (w' := grow (w.drewN k) os) (by show w.heap.size ≤ (w.heap ++ os).size; rw [Array.size_append]; omega)
        (fun b hb => by show (w.heap ++ os)[b]? = w.heap[b]?; exact Array.getElem?_append_left hb) rfl rfl rfl
      exact ⟨_, g, ow, rfl, .str _, h1, h2⟩
    · cases h
  · cases h
end Go.Proofs.YtblbebnielfjoaaDoor
end
section
set_option linter.unusedVariables false
namespace Go.Proofs.YtblbebnielfjoaaDoor
open Go.ChangeShapes Go.WideShapes Go.ChangeAt Go.RowKit Go.Mach
/-- A world whose listed variables hold what their initialisers lay. -/
noncomputable def laidWorld (os : Os) : World :=
  { World.holding Tryd.prog os ⟨#[], #[], []⟩ with heap := ((((World.holding Tryd.prog os ⟨#[], #[], []⟩).heap
    |>.modify 2 (fun o => match o with | .cells _ t frozen => .cells #[.int .u8 0, .int .u8 1, .int .u8 28, .int .u8 2, .int .u8 29, .int .u8 14, .int .u8 24, .int .u8 3, .int .u8 30, .int .u8 22, .int .u8 20, .int .u8 15, .int .u8 25, .int .u8 17, .int .u8 4, .int .u8 8, .int .u8 31, .int .u8 27, .int .u8 13, .int .u8 23, .int .u8 21, .int .u8 19, .int .u8 16, .int .u8 7, .int .u8 26, .int .u8 12, .int .u8 18, .int .u8 6, .int .u8 11, .int .u8 5, .int .u8 10, .int .u8 9] t frozen | o => o))
    |>.modify 3 (fun o => match o with | .cells _ t frozen => .cells #[.int .u8 0, .int .u8 1, .int .u8 56, .int .u8 2, .int .u8 57, .int .u8 49, .int .u8 28, .int .u8 3, .int .u8 61, .int .u8 58, .int .u8 42, .int .u8 50, .int .u8 38, .int .u8 29, .int .u8 17, .int .u8 4, .int .u8 62, .int .u8 47, .int .u8 59, .int .u8 36, .int .u8 45, .int .u8 43, .int .u8 51, .int .u8 22, .int .u8 53, .int .u8 39, .int .u8 33, .int .u8 30, .int .u8 24, .int .u8 18, .int .u8 12, .int .u8 5, .int .u8 63, .int .u8 55, .int .u8 48, .int .u8 27, .int .u8 60, .int .u8 41, .int .u8 37, .int .u8 16, .int .u8 46, .int .u8 35, .int .u8 44, .int .u8 21, .int .u8 52, .int .u8 32, .int .u8 23, .int .u8 11, .int .u8 54, .int .u8 26, .int .u8 40, .int .u8 15, .int .u8 34, .int .u8 20, .int .u8 31, .int .u8 10, .int .u8 25, .int .u8 14, .int .u8 19, .int .u8 9, .int .u8 13, .int .u8 8, .int .u8 7, .int .u8 6] t frozen | o => o))
    |>.modify 1 (fun o => match o with | .cells _ t frozen => .cells #[.int .u64 1, .int .u64 10, .int .u64 100, .int .u64 1000, .int .u64 10000, .int .u64 100000, .int .u64 1000000, .int .u64 10000000, .int .u64 100000000, .int .u64 1000000000, .int .u64 10000000000, .int .u64 100000000000, .int .u64 1000000000000, .int .u64 10000000000000, .int .u64 100000000000000, .int .u64 1000000000000000, .int .u64 10000000000000000, .int .u64 100000000000000000, .int .u64 1000000000000000000, .int .u64 10000000000000000000] t frozen | o => o)) }
def laidList : List (String × DataW Unit) := Rows.valueTellsRow.laid
theorem pins_of {W : World} (h : laidMetH Tryd.prog laidList W) : Pins (fun _ => none) W := by
  have ht : Lib.TabIs Tryd.prog W "internal/strconv.uint64pow10" .u64 Lib.pow10Tab :=
    Lib.tabIs_of_head (zs := Lib.pow10Tab) (rest := [])
      (g := 1) (by kernel_rfl) (t := 76) (by kernel_rfl) Tryd.underlying76 (e := 69) Tryd.underlying69 (by kernel_rfl) (by kernel_rfl) (h : laidMet Tryd.prog laidList W).tail.tail
  intro p hp
  simp only [pinned, List.mem_cons, List.not_mem_nil, or_false] at hp
  subst hp
  unfold Lib.TabIs World.var? at ht
  rw [show Tryd.prog.globalNamed "internal/strconv.uint64pow10" = some 1 by kernel_rfl] at ht
  simp only [Option.bind_some] at ht
  split at ht
  · rename_i cs t fr hh
    injection ht with ht
    exact ⟨⟨t, fr, by rw [hh, ht]; rfl⟩, rfl⟩
  · cases ht
end Go.Proofs.YtblbebnielfjoaaDoor
end
section
set_option linter.unusedVariables false
set_option linter.unusedSimpArgs false
set_option linter.unnecessarySimpa false
namespace Go.Proofs.YtblbebnielfjoaaDoor
open Go.Mach

/-! ### The table -/
def prims : List (Nat × (List AV → Nat → Heap → Option (AV × Heap))) := [
  (48, cmpP),
  (33, cloneVP),
  (49, wsP),
  (51, wbP),
  (41, strP),
  (50, itoaP),
  (1000000, fun _ _ _ => none)]
def T : Tab := ⟨fun f => (fns.find? (·.1 == f)).map (·.2), fun f => (prims.find? (·.1 == f)).map (·.2)⟩
theorem prims_ok : ∀ p ∈ prims, PrimOK Tryd.prog p.1 p.2 := by
  simp only [prims, List.forall_mem_cons]
  exact ⟨
    cmp_ok,
    cloneV_ok,
    ws_ok, wb_ok, str_ok,
    itoa_ok,
    (fun _ _ _ _ _ h => by cases h), fun _ h => by cases h⟩
theorem T_ok : TabOK Tryd.prog T where
  mixed := by kernel_rfl
  fn f af h := by
    obtain ⟨p, hp, rfl⟩ := Option.map_eq_some_iff.1 h
    have h1 := List.find?_some hp
    have h2 := fns_ok p (List.mem_of_find?_eq_some hp)
    have : p.1 = f := by simpa using h1
    rw [← this]; exact h2
  pr f p h := by
    obtain ⟨q, hq, rfl⟩ := Option.map_eq_some_iff.1 h
    have h1 := List.find?_some hq
    have h2 := prims_ok q (List.mem_of_find?_eq_some hq)
    have : q.1 = f := by simpa using h1
    rw [← this]; exact h2
end Go.Proofs.YtblbebnielfjoaaDoor
end
section
set_option linter.unusedVariables false
set_option linter.unusedSimpArgs false
namespace Go.Mach

/-! ### Values of the language of rules -/
inductive GV where
  | mk (kind num : Int) (text : ByteArray) (items : List GV)
  deriving Inhabited
namespace GV
abbrev kind : GV → Int | .mk k _ _ _ => k
abbrev num : GV → Int | .mk _ n _ _ => n
abbrev text : GV → ByteArray | .mk _ _ t _ => t
abbrev items : GV → List GV | .mk _ _ _ l => l
mutual
def enc : GV → AV
  | .mk k n t l => .agg [.int .i64 k, .int .i64 n, .str t, .isl (encs l) false]
def encs : List GV → List AV
  | [] => []
  | v :: l => enc v :: encs l
end
theorem encs_map : ∀ l : List GV, encs l = l.map enc
  | [] => rfl
  | v :: l => by simp only [encs, List.map_cons, encs_map l]
@[simp] theorem encs_length (l : List GV) : (encs l).length = l.length := by simp [encs_map]
@[simp] theorem encs_get (l : List GV) (i : Nat) : (encs l)[i]? = l[i]?.map enc := by simp [encs_map]
@[simp] theorem encs_getE (l : List GV) (i : Nat) (h : i < (encs l).length) : (encs l)[i] = (l[i]'(by simpa using h)).enc := by simp [encs_map]
theorem enc_eq (v : GV) : v.enc = .agg [.int .i64 v.kind, .int .i64 v.num, .str v.text, .isl (encs v.items) false] := by cases v; simp only [enc, kind, num, text, items]
@[simp] theorem enc_fold (v : GV) : AV.agg [.int .i64 v.kind, .int .i64 v.num, .str v.text, .isl (encs v.items) false] = v.enc := (enc_eq v).symm
@[simp] theorem enc_cells (v : GV) : v.enc.cells = [.int .i64 v.kind, .int .i64 v.num, .str v.text, .isl (encs v.items) false] := by rw [enc_eq]; rfl
@[simp] theorem enc_solid (v : GV) : v.enc.solid = true := by rw [enc_eq]; rfl
@[simp] theorem enc_clean (v : GV) : v.enc.clean = true := by rw [enc_eq]; rfl
@[simp] theorem enc_closeA (σ : Heap) (v : GV) : closeA σ v.enc = some (v.enc, σ) := (clean_close (by simp)).1
@[simp] theorem enc_closeR (σ : Heap) (v : GV) : closeR σ v.enc = some (v.enc, σ) := by rw [enc_eq]; rfl
@[simp] theorem enc_datR (v : GV) : v.enc.datR = true := by rw [enc_eq]; rfl
@[simp] theorem enc_dat1 (v : GV) : v.enc.clo1 = false := by rw [enc_eq]; rfl
@[simp] theorem enc_dat (v : GV) : v.enc.dat = true := by rw [enc_eq]; rfl
@[simp] theorem enc_clo (v : GV) : v.enc.clo = true := by rw [enc_eq]; rfl
/-- Numbers in range, all the way down. -/
def i64ok (n : Int) : Prop := -9223372036854775808 ≤ n ∧ n ≤ 9223372036854775807
mutual
def ok : GV → Prop
  | .mk k n _ l => i64ok k ∧ i64ok n ∧ oks l
def oks : List GV → Prop
  | [] => True
  | v :: l => ok v ∧ oks l
end
theorem oks_iff : ∀ l : List GV, oks l ↔ ∀ v ∈ l, ok v
  | [] => by simp [oks]
  | v :: l => by simp [oks, oks_iff l]
mutual
def size : GV → Nat
  | .mk _ _ t l => t.size + sizes l + 5
def sizes : List GV → Nat
  | [] => 0
  | v :: l => size v + sizes l
end
mutual
theorem bulk_enc : ∀ v : GV, bulkA v.enc = v.size
  | .mk k n t l => by
    have h := bulk_encs l
    simp only [enc, bulkA, bulkAs, size, h]; omega
theorem bulk_encs : ∀ l : List GV, bulkAs (encs l) = sizes l
  | [] => by simp [encs, bulkAs, sizes]
  | v :: l => by
    have h1 := bulk_enc v
    have h2 := bulk_encs l
    simp only [encs, bulkAs, sizes, h1, h2]
end
end GV
/-- The type of values, in the program's table. -/
structure IsV (P : Program) (tV tL tI tS : TypeId) : Prop where
  fs : ∃ fs : Array Field, P.underlying tV = some (.struct fs) ∧ fs.toList.map (·.type) = [tI, tI, tS, tL]
  int : P.underlying tI = some (.int .i64)
  str : P.underlying tS = some .string
  list : P.underlying tL = some (.slice tV)
theorem field_ty {P : Program} {fs : Array Field} {ts : List TypeId} (h : fs.toList.map (·.type) = ts) {vs : List AV} (hv : ∀ (i : Nat) f x, fs.toList[i]? = some f → vs[i]? = some x → TyA P f.type x) {i : Nat} {t : TypeId} {x : AV} (ht : ts[i]? = some t) (hx : vs[i]? = some x) : TyA P t x := by
  rw [← h, List.getElem?_map] at ht
  obtain ⟨f, hf, rfl⟩ := Option.map_eq_some_iff.1 ht
  exact hv i f x hf hx
theorem TyA.asValue {P : Program} {tV tL tI tS : TypeId} (hV : IsV P tV tL tI tS) {t : TypeId} {x : AV} (h : TyA P t x) : (t = tV → ∃ v : GV, x = v.enc ∧ v.ok) ∧ (t = tL → ∃ l : List GV, x = .isl (GV.encs l) false ∧ GV.oks l) := by
  have e1 : IntKind.i64.min = -9223372036854775808 := by decide
  have e2 : IntKind.i64.max = 9223372036854775807 := by decide
  obtain ⟨fs0, hf0, hts⟩ := hV.fs
  induction h with
  | bool hu b => exact ⟨fun e => (by subst e; rw [hf0] at hu; cases hu), fun e => by subst e; rw [hV.list] at hu; cases hu⟩
  | int hu n hn => exact ⟨fun e => (by subst e; rw [hf0] at hu; cases hu), fun e => by subst e; rw [hV.list] at hu; cases hu⟩
  | str hu s => exact ⟨fun e => (by subst e; rw [hf0] at hu; cases hu), fun e => by subst e; rw [hV.list] at hu; cases hu⟩
  | @slice t e es hu hes ih =>
    refine ⟨fun e' => (by subst e'; rw [hf0] at hu; cases hu), fun e' => ?_⟩
    subst e'; rw [hV.list] at hu; injection hu with hu; injection hu with hu; subst hu
    have : ∀ l : List AV, (∀ y ∈ l, ∃ v : GV, y = v.enc ∧ v.ok) → ∃ l' : List GV, l = GV.encs l' ∧ GV.oks l' := by
      intro l
      induction l with
      | nil => intro _; exact ⟨[], rfl, trivial⟩
      | cons y l ihl =>
        intro h
        obtain ⟨v, rfl, hv⟩ := h y (by simp)
        obtain ⟨l', rfl, hl'⟩ := ihl fun z hz => h z (by simp [hz])
        exact ⟨v :: l', rfl, hv, hl'⟩
    obtain ⟨l', rfl, hl'⟩ := this es fun y hy => (ih y hy).1 rfl
    exact ⟨l', rfl, hl'⟩
  | @struct t fs vs hu hl hv ih =>
    refine ⟨fun e' => ?_, fun e' => by subst e'; rw [hV.list] at hu; cases hu⟩
    subst e'; rw [hf0] at hu; injection hu with hu; injection hu with hu; subst hu
    have hlen : vs.length = 4 := by rw [hl, ← List.length_map (f := (·.type)), hts]; rfl
    match vs, hlen with
    | [x0, x1, x2, x3], _ =>
      obtain ⟨k, rfl, k1, k2⟩ := (field_ty hts hv (i := 0) rfl rfl).asInt hV.int
      obtain ⟨n, rfl, n1, n2⟩ := (field_ty hts hv (i := 1) rfl rfl).asInt hV.int
      obtain ⟨s, rfl⟩ := (field_ty hts hv (i := 2) rfl rfl).asStr hV.str
      have h3 : fs0.toList[3]?.map (·.type) = some tL := by rw [← List.getElem?_map, hts]; rfl
      obtain ⟨f3, hf3, hft⟩ := Option.map_eq_some_iff.1 h3
      obtain ⟨l, rfl, hok⟩ := (ih 3 f3 x3 hf3 rfl).2 hft
      rw [e1] at k1 n1; rw [e2] at k2 n2
      refine ⟨.mk k n s l, by simp [GV.enc, flat], ⟨⟨k1, k2⟩, ⟨n1, n2⟩, hok⟩⟩
end Go.Mach
end
section
set_option linter.unusedVariables false
set_option linter.unusedSimpArgs false
namespace Go.Mach
@[simp] theorem hp_get0 (σ l : List AObj) : (σ ++ l)[σ.length]? = l[0]? := by rw [List.getElem?_append_right (Nat.le_refl _)]; simp
@[simp] theorem hp_get (σ l : List AObj) (k : Nat) : (σ ++ l)[σ.length + k]? = l[k]? := by rw [List.getElem?_append_right (by omega)]; simp
@[simp] theorem hp_set0 (σ l : List AObj) (x : AObj) : (σ ++ l).set σ.length x = σ ++ l.set 0 x := by rw [List.set_append_right _ _ (Nat.le_refl _)]; simp
@[simp] theorem hp_set (σ l : List AObj) (k : Nat) (x : AObj) : (σ ++ l).set (σ.length + k) x = σ ++ l.set k x := by rw [List.set_append_right _ _ (by omega)]; simp
end Go.Mach
namespace Go.Proofs.YtblbebnielfjoaaDoor
open Go.Mach

/-! ### Which of two values comes first -/
def cmpI (a b : Int) : Int := if a < b then -1 else if b < a then 1 else 0
mutual
def cmpV : GV → GV → Int
  | .mk k n t l, b => if cmpI k b.kind ≠ 0 then cmpI k b.kind else if k = 1 then cmpI n b.num else if k = 2 ∨ k = 3 then Lib.compareBytes t.data.toList b.text.data.toList else if k = 4 then cmpVs l b.items else 0
def cmpVs : List GV → List GV → Int
  | [], [] => 0
  | [], _ :: _ => -1
  | _ :: _, [] => 1
  | x :: xs, y :: ys => if cmpV x y ≠ 0 then cmpV x y else cmpVs xs ys
end
theorem cmp68 (a b : Int) : pureT T c36 [.int .i64 a, .int .i64 b] = some (.int .i64 (cmpI a b)) := by
  have h76 : ∀ (n : Int) bs σ, callT T 47 [.int .i64 n] bs σ = some (.bool false, σ) := fun n bs σ => call_clean rfl rfl rfl rfl (by
    apply pure_enter (by simp [c47])
    simp [c47])
  apply pure_enter (by simp [c36])
  by_cases h1 : a < b
  · simp [c36, h76, h1, cmpI]
  · by_cases h2 : b < a
    · simp [c36, h76, h1, h2, cmpI]
    · simp [c36, h76, h1, h2, cmpI]
theorem call68 (a b : Int) (bs : Nat) (σ : Heap) : callT T 36 [.int .i64 a, .int .i64 b] bs σ = some (.int .i64 (cmpI a b), σ) := call_clean rfl rfl rfl rfl (cmp68 a b)
theorem call73 (a b : ByteArray) (bs : Nat) (σ : Heap) : callT T 48 [.str a, .str b] bs σ = some (.int .i64 (Lib.compareBytes a.data.toList b.data.toList), σ) := callT_pr (p := cmpP) _ _ _ rfl _
theorem call56 (a b : ByteArray) (bs : Nat) (σ : Heap) : callT T 37 [.str a, .str b] bs σ = some (.int .i64 (Lib.compareBytes a.data.toList b.data.toList), σ) := call_clean rfl rfl rfl rfl (by
  apply pure_enter (by simp [c37])
  simp [c37, call73])
theorem cmpVs_nil (l : List GV) : cmpVs [] l = if l = [] then 0 else -1 := by cases l <;> simp [cmpVs]
theorem cmpVs_nil2 (l : List GV) (h : l ≠ []) : cmpVs l [] = 1 := by cases l with
  | nil => exact absurd rfl h
  | cons x l => rfl
theorem cmpFunc (l l2 : List GV) (hn : l.length ≤ 100000000000) (h : ∀ x ∈ l, ∀ y ∈ l2, ∀ bs σ, callT T 24 [x.enc, y.enc] bs σ = some (.int .i64 (cmpV x y), σ)) :
    pureT T c38 [.isl (GV.encs l) false, .isl (GV.encs l2) false, .func 24 []] = some (.int .i64 (cmpVs l l2)) := by
  apply pure_enter (by simp [c38])
  simp [c38]
  refine W_upto T 0 39 l.length (fun i f σ => f 11 = .isl (GV.encs l) false ∧ f 12 = .int .i64 (l.length : Int) ∧ f 13 = .int .i64 (i : Int) ∧ f 0 = .isl (GV.encs l) false ∧ f 1 = .isl (GV.encs l2) false ∧ f 2 = .func 24 [] ∧ i ≤ l2.length ∧ cmpVs l l2 = cmpVs (l.drop i) (l2.drop i)) ?_ _ _ ?_
  · rintro i f σ Q' hi ⟨h11, h12, h13, h0, h1, h2, hi2, hcmp⟩ hnx hx
    by_cases hlt : i < l.length
    · by_cases hlt2 : i < l2.length
      · have e1 : l[i]? = some l[i] := List.getElem?_eq_getElem hlt
        have e2 : l2[i]? = some l2[i] := List.getElem?_eq_getElem hlt2
        have hc := h l[i] (List.getElem_mem hlt) l2[i] (List.getElem_mem hlt2)
        have hd : l.drop i = l[i] :: l.drop (i + 1) := (List.drop_eq_getElem_cons hlt)
        have hd2 : l2.drop i = l2[i] :: l2.drop (i + 1) := (List.drop_eq_getElem_cons hlt2)
        by_cases hz : cmpV l[i] l2[i] = 0
        · simp [h11, h12, h13, h0, h1, h2, hlt, hlt2, Nat.not_le.2 hlt2, hc, hz]
          refine hnx _ _ hlt ⟨by simp [h11], by simp [h12], ?_, by simp [h0], by simp [h1], by simp [h2], hlt2, ?_⟩
          · simp; rw [wr64 (by omega) (by omega)]
          · rw [hcmp, hd, hd2, cmpVs]; simp [hz]
        · simp [h11, h12, h13, h0, h1, h2, hlt, hlt2, Nat.not_le.2 hlt2, hc, hz]
          refine hx _ _ _ (by simp) (contQ_ret T 0 39 ?_)
          rw [hcmp, hd, hd2, cmpVs]; simp [hz]
      · have e1 : l[i]? = some l[i] := List.getElem?_eq_getElem hlt
        have hd : l.drop i = l[i] :: l.drop (i + 1) := (List.drop_eq_getElem_cons hlt)
        have hd2 : l2.drop i = [] := List.drop_eq_nil_of_le (by omega)
        simp [h11, h12, h13, h0, h1, h2, hlt, Nat.not_lt.1 hlt2]
        refine hx _ _ _ (by simp) (contQ_ret T 0 39 ?_)
        rw [hcmp, hd, hd2, cmpVs]; simp
    · have he : i = l.length := by omega
      subst he
      simp [h12, h13]
      refine hx _ _ _ (by simp) (contQ_exit T 0 39 ?_)
      have hd : l.drop l.length = [] := List.drop_length
      rw [hcmp, hd, cmpVs_nil]
      by_cases hlt2 : l.length < l2.length
      · have hne : l2.drop l.length ≠ [] := by simp; omega
        simp [h0, h1, hlt2, hne]
      · have hne : l2.drop l.length = [] := by simp; omega
        simp [h0, h1, hlt2, hne]
  · simp
theorem sizes_mem {l : List GV} {x : GV} (h : x ∈ l) : x.size + 5 ≤ GV.sizes l + 5 ∧ l.length ≤ GV.sizes l := by
  induction l with
  | nil => cases h
  | cons y l ih =>
    have hy : 5 ≤ y.size := by cases y; simp [GV.size]
    rcases List.mem_cons.1 h with rfl | h
    · refine ⟨by simp [GV.sizes], ?_⟩
      have : ∀ l : List GV, l.length ≤ GV.sizes l := fun l => by
        induction l with
        | nil => simp [GV.sizes]
        | cons z l ih => have : 5 ≤ z.size := (by cases z; simp [GV.size]); simp [GV.sizes]; omega
      have := this l
      simp [GV.sizes]; omega
    · obtain ⟨h1, h2⟩ := ih h
      simp [GV.sizes]; omega
theorem len_sizes (l : List GV) : l.length ≤ GV.sizes l := by
  cases l with
  | nil => simp
  | cons x l => exact (sizes_mem (List.mem_cons_self (a := x) (l := l))).2
theorem cmp58 : ∀ (n : Nat) (a b : GV), a.size ≤ n → n ≤ 100000000000 → pureT T c24 [a.enc, b.enc] = some (.int .i64 (cmpV a b)) := by
  intro n
  induction n with
  | zero => intro a b h; cases a; simp [GV.size] at h
  | succ n ih =>
    intro a b hs hn
    obtain ⟨k, num, t, l⟩ := a
    obtain ⟨k2, num2, t2, l2⟩ := b
    have hl : GV.sizes l ≤ n := by simp [GV.size] at hs; omega
    have hcall : ∀ x ∈ l, ∀ y ∈ l2, ∀ bs σ, callT T 24 [x.enc, y.enc] bs σ = some (.int .i64 (cmpV x y), σ) := fun x hx y _ bs σ =>
      call_clean rfl rfl rfl (by simp) (ih x y (by have := (sizes_mem hx).1; omega) (by omega))
    have hf : ∀ bs σ, callT T 38 [.isl (GV.encs l) false, .isl (GV.encs l2) false, .func 24 []] bs σ = some (.int .i64 (cmpVs l l2), σ) := fun bs σ =>
      call_clean rfl rfl rfl rfl (cmpFunc l l2 (by have := len_sizes l; omega) hcall)
    apply pure_enter (by simp [c24])
    by_cases h0 : cmpI k k2 = 0
    · by_cases h1 : k = 1
      · subst h1; simp [c24, GV.enc_eq, GV.kind, GV.num, GV.text, GV.items, call68, h0, cmpV]
      · by_cases h2 : k = 2
        · subst h2; simp [c24, GV.enc_eq, GV.kind, GV.num, GV.text, GV.items, call68, call56, h0, cmpV]
        · by_cases h3 : k = 3
          · subst h3; simp [c24, GV.enc_eq, GV.kind, GV.num, GV.text, GV.items, call68, call56, h0, cmpV]
          · by_cases h4 : k = 4
            · subst h4; simp [c24, GV.enc_eq, GV.kind, GV.num, GV.text, GV.items, call68, hf, h0, cmpV]
            · simp [c24, GV.enc_eq, GV.kind, GV.num, GV.text, GV.items, call68, h0, h1, h2, h3, h4, cmpV]
    · simp [c24, GV.enc_eq, GV.kind, GV.num, GV.text, GV.items, call68, h0, cmpV]
end Go.Proofs.YtblbebnielfjoaaDoor
end
