import Derived.Test.YtpkfkipbemdhmaaGreatDoorC3
import Derived.Test.YtpkfkipbemdhmaaGreatDoorChecked
import Derived.KernelRfl
section
/- The functions' codes, resolved: each is what the compiler makes of the given function (kernel-checked). -/
namespace Go.Proofs.YtpkfkipbemdhmaaGreatDoor
open Go.Mach
/- beaconry/beaconrylaw04.PrinterApart -/
def c3 : AFunc := ⟨33, [.tmp 4],
  .seq (.region [
    ⟨(some 2), .box (.t 0), none, []⟩,
    ⟨(some 3), .box (.t 1), none, []⟩,
    ⟨(some 4), .mv (.c (.bool false)), none, []⟩]) (
  .seq (.region [
    ⟨(some 8), .call 9 [], none, []⟩,
    ⟨(some 5), .mv (.t 8), none, []⟩]) (
  .seq (.region [
    ⟨(some 9), .load 3 true (.t 2), none, []⟩,
    ⟨(some 10), .call 10 [.t 9], none, []⟩,
    ⟨(some 6), .alloc [.isl [] true, .isl [] true, .isl [] true], none, []⟩,
    ⟨none, .store 3 (.t 6) (.t 10), none, []⟩]) (
  .seq (.region [
    ⟨(some 11), .load 3 true (.t 3), none, []⟩,
    ⟨(some 12), .call 10 [.t 11], none, []⟩,
    ⟨(some 7), .alloc [.isl [] true, .isl [] true, .isl [] true], none, []⟩,
    ⟨none, .store 3 (.t 7) (.t 12), none, []⟩]) (
  .seq (.region [
    ⟨(some 13), .mv (.t 5), none, []⟩,
    ⟨(some 14), .mv (.t 13), none, []⟩,
    ⟨(some 15), .load 3 true (.t 6), (some (14, true)), []⟩,
    ⟨(some 16), .call 11 [.t 15], (some (14, true)), []⟩,
    ⟨(some 17), .pick (.t 14) (.t 16) (.c (.bool false)), none, []⟩,
    ⟨(some 18), .mv (.t 17), none, []⟩,
    ⟨(some 19), .load 3 true (.t 7), (some (18, true)), []⟩,
    ⟨(some 20), .call 11 [.t 19], (some (18, true)), []⟩,
    ⟨(some 21), .pick (.t 18) (.t 20) (.c (.bool false)), none, []⟩,
    ⟨(some 22), .mv (.t 21), none, []⟩,
    ⟨(some 23), .load 3 true (.t 6), (some (22, true)), []⟩,
    ⟨(some 25), .load 3 true (.t 7), (some (22, true)), []⟩,
    ⟨(some 28), .load 3 true (.t 6), (some (22, true)), []⟩,
    ⟨(some 29), .load 3 true (.t 7), (some (22, true)), []⟩,
    ⟨(some 24), .call 12 [.t 23], (some (22, true)), [.t 7, .t 6, .t 7]⟩,
    ⟨(some 26), .call 12 [.t 25], (some (22, true)), [.t 6, .t 7]⟩,
    ⟨(some 27), .bin .eql (.t 24) (.t 26), (some (22, true)), []⟩,
    ⟨(some 30), .call 13 [.t 28, .t 29], (some (22, true)), []⟩,
    ⟨(some 31), .eqb false (.t 27) (.t 30), (some (22, true)), []⟩,
    ⟨(some 32), .pick (.t 22) (.t 31) (.c (.bool false)), none, []⟩,
    ⟨(some 4), .mv (.t 32), none, []⟩]) (
  .ret))))),
  .pure, true, true⟩
theorem k3 : compF Tryz.prog { mt := false, mtAt := [], mode := .pure, clArgs := true, clRes := true } Tryz.f3 = some c3 := by kernel_rfl
/- beaconry/beaconrylaw04.PrinterTerms -/
def c4 : AFunc := ⟨64, [.tmp 8],
  .seq (.region [
    ⟨(some 4), .box (.t 0), none, []⟩,
    ⟨(some 5), .box (.t 1), none, []⟩,
    ⟨(some 6), .box (.t 2), none, []⟩,
    ⟨(some 7), .box (.t 3), none, []⟩,
    ⟨(some 8), .mv (.c (.bool false)), none, []⟩]) (
  .seq (.region [
    ⟨(some 16), .call 9 [], none, []⟩,
    ⟨(some 9), .mv (.t 16), none, []⟩]) (
  .seq (.region [
    ⟨(some 17), .load 7 true (.t 4), none, []⟩,
    ⟨(some 18), .call 14 [.t 17, .c (.int .i64 8)], none, []⟩,
    ⟨(some 10), .alloc [.int .i64 0, .str ⟨#[]⟩, .int .i64 0, .int .i64 0, .str ⟨#[]⟩, .isl [] true, .isl [] true], none, []⟩,
    ⟨none, .store 7 (.t 10) (.t 18), none, []⟩]) (
  .seq (.region [
    ⟨(some 19), .load 7 true (.t 5), none, []⟩,
    ⟨(some 20), .call 14 [.t 19, .c (.int .i64 8)], none, []⟩,
    ⟨(some 11), .alloc [.int .i64 0, .str ⟨#[]⟩, .int .i64 0, .int .i64 0, .str ⟨#[]⟩, .isl [] true, .isl [] true], none, []⟩,
    ⟨none, .store 7 (.t 11) (.t 20), none, []⟩]) (
  .seq (.region [
    ⟨(some 21), .load 3 true (.t 6), none, []⟩,
    ⟨(some 22), .call 15 [.t 21], none, []⟩,
    ⟨(some 12), .alloc [.int .i64 0, .str ⟨#[]⟩, .isl [] true], none, []⟩,
    ⟨none, .store 3 (.t 12) (.t 22), none, []⟩]) (
  .seq (.region [
    ⟨(some 23), .load 3 true (.t 7), none, []⟩,
    ⟨(some 24), .call 15 [.t 23], none, []⟩,
    ⟨(some 13), .alloc [.int .i64 0, .str ⟨#[]⟩, .isl [] true], none, []⟩,
    ⟨none, .store 3 (.t 13) (.t 24), none, []⟩]) (
  .seq (.region [
    ⟨(some 25), .load 7 true (.t 10), none, []⟩,
    ⟨(some 27), .load 7 true (.t 11), none, []⟩,
    ⟨(some 30), .load 7 true (.t 10), none, []⟩,
    ⟨(some 31), .buildSl 1 7 true [.int .i64 0, .str ⟨#[]⟩, .int .i64 0, .int .i64 0, .str ⟨#[]⟩, .isl [] true, .isl [] true] [(0, 7, .t 30)], none, []⟩,
    ⟨(some 32), .load 7 true (.t 11), none, []⟩,
    ⟨(some 33), .buildSl 1 7 true [.int .i64 0, .str ⟨#[]⟩, .int .i64 0, .int .i64 0, .str ⟨#[]⟩, .isl [] true, .isl [] true] [(0, 7, .t 32)], none, []⟩,
    ⟨(some 26), .call 16 [.t 25], none, [.t 11, .t 10, .t 31, .t 11, .t 33]⟩,
    ⟨(some 28), .call 16 [.t 27], none, [.t 10, .t 31, .t 11, .t 33]⟩,
    ⟨(some 29), .bin .eql (.t 26) (.t 28), none, []⟩,
    ⟨(some 34), .call 17 [.t 31, .t 33], none, []⟩,
    ⟨(some 35), .eqb false (.t 29) (.t 34), none, []⟩,
    ⟨(some 36), .mv (.t 35), none, []⟩,
    ⟨(some 37), .load 7 true (.t 10), (some (36, true)), []⟩,
    ⟨(some 38), .call 16 [.t 37], (some (36, true)), []⟩,
    ⟨(some 39), .bin .neq (.t 38) (.c (.str ⟨#[]⟩)), (some (36, true)), []⟩,
    ⟨(some 40), .pick (.t 36) (.t 39) (.c (.bool false)), none, []⟩,
    ⟨(some 14), .mv (.t 40), none, []⟩]) (
  .seq (.region [
    ⟨(some 41), .load 3 true (.t 12), none, []⟩,
    ⟨(some 43), .load 3 true (.t 13), none, []⟩,
    ⟨(some 46), .load 3 true (.t 12), none, []⟩,
    ⟨(some 47), .buildSl 1 3 true [.int .i64 0, .str ⟨#[]⟩, .isl [] true] [(0, 3, .t 46)], none, []⟩,
    ⟨(some 48), .load 3 true (.t 13), none, []⟩,
    ⟨(some 49), .buildSl 1 3 true [.int .i64 0, .str ⟨#[]⟩, .isl [] true] [(0, 3, .t 48)], none, []⟩,
    ⟨(some 42), .call 18 [.t 41], none, [.t 13, .t 12, .t 47, .t 13, .t 49]⟩,
    ⟨(some 44), .call 18 [.t 43], none, [.t 12, .t 47, .t 13, .t 49]⟩,
    ⟨(some 45), .bin .eql (.t 42) (.t 44), none, []⟩,
    ⟨(some 50), .call 19 [.t 47, .t 49], none, []⟩,
    ⟨(some 51), .eqb false (.t 45) (.t 50), none, []⟩,
    ⟨(some 52), .mv (.t 51), none, []⟩,
    ⟨(some 53), .load 3 true (.t 12), (some (52, true)), []⟩,
    ⟨(some 54), .call 18 [.t 53], (some (52, true)), []⟩,
    ⟨(some 55), .bin .neq (.t 54) (.c (.str ⟨#[]⟩)), (some (52, true)), []⟩,
    ⟨(some 56), .pick (.t 52) (.t 55) (.c (.bool false)), none, []⟩,
    ⟨(some 15), .mv (.t 56), none, []⟩]) (
  .seq (.region [
    ⟨(some 57), .mv (.t 9), none, []⟩,
    ⟨(some 58), .mv (.t 57), none, []⟩,
    ⟨(some 59), .mv (.t 14), (some (58, true)), []⟩,
    ⟨(some 60), .pick (.t 58) (.t 59) (.c (.bool false)), none, []⟩,
    ⟨(some 61), .mv (.t 60), none, []⟩,
    ⟨(some 62), .mv (.t 15), (some (61, true)), []⟩,
    ⟨(some 63), .pick (.t 61) (.t 62) (.c (.bool false)), none, []⟩,
    ⟨(some 8), .mv (.t 63), none, []⟩]) (
  .ret))))))))),
  .pure, true, true⟩
theorem k4 : compF Tryz.prog { mt := false, mtAt := [], mode := .pure, clArgs := true, clRes := true } Tryz.f4 = some c4 := by kernel_rfl
/- beaconry/beaconrylaw04.PrinterWrong -/
def c5 : AFunc := ⟨77, [.tmp 6],
  .seq (.region [
    ⟨(some 3), .box (.t 0), none, []⟩,
    ⟨(some 6), .mv (.c (.bool false)), none, []⟩]) (
  .seq (.region [
    ⟨(some 11), .call 9 [], none, []⟩,
    ⟨(some 7), .mv (.t 11), none, []⟩]) (
  .seq (.region [
    ⟨(some 12), .load 3 true (.t 3), none, []⟩,
    ⟨(some 13), .call 10 [.t 12], none, []⟩,
    ⟨(some 8), .alloc [.isl [] true, .isl [] true, .isl [] true], none, []⟩,
    ⟨none, .store 3 (.t 8) (.t 13), none, []⟩]) (
  .seq (.seq (.region [
    ⟨(some 14), .faddr 2 (.t 8), none, []⟩,
    ⟨(some 15), .load 1 false (.t 14), none, []⟩,
    ⟨(some 16), .len false (.t 15), none, []⟩,
    ⟨(some 17), .bin .eql (.t 16) (.c (.int .i64 0)), none, []⟩]) (
  .cond (.t 17) (
    .seq (.region [
      ⟨(some 18), .mv (.t 7), none, []⟩,
      ⟨(some 6), .mv (.t 18), none, []⟩]) (
    .ret)) (
    .skip))) (
  .seq (.region [
    ⟨(some 19), .mv (.t 2), none, []⟩,
    ⟨(some 20), .faddr 2 (.t 8), none, []⟩,
    ⟨(some 21), .load 1 false (.t 20), none, []⟩,
    ⟨(some 22), .len false (.t 21), none, []⟩,
    ⟨(some 23), .call 20 [.t 19, .t 22], none, []⟩,
    ⟨(some 9), .mv (.t 23), none, []⟩]) (
  .seq (.region [
    ⟨(some 24), .faddr 2 (.t 8), none, []⟩,
    ⟨(some 25), .load 1 false (.t 24), none, []⟩,
    ⟨(some 26), .mv (.t 9), none, []⟩,
    ⟨(some 27), .iaddrS 6 (.t 25) (.t 26), none, []⟩,
    ⟨(some 28), .load 6 true (.t 27), none, []⟩,
    ⟨(some 10), .alloc [.str ⟨#[]⟩, .str ⟨#[]⟩, .isl [] true, .str ⟨#[]⟩, .int .i64 0, .isl [] true], none, []⟩,
    ⟨none, .store 6 (.t 10) (.t 28), none, []⟩]) (
  .seq (.seq (.region [
    ⟨(some 29), .mv (.t 1), none, []⟩,
    ⟨(some 30), .call 20 [.t 29, .c (.int .i64 6)], none, []⟩]) (
  .block 0 (
    .seq (.region [
      ⟨(some 33), .bin .eql (.t 30) (.c (.int .i64 0)), none, []⟩,
      ⟨(some 32), .mv (.t 33), none, []⟩]) (
    .cond (.t 32) (
      .region [
        ⟨(some 34), .faddr 3 (.t 10), none, []⟩,
        ⟨none, .store 1 (.t 34) (.c (.str ⟨#[115, 117, 109]⟩)), none, []⟩]) (
      .seq (.region [
        ⟨(some 36), .bin .eql (.t 30) (.c (.int .i64 1)), none, []⟩,
        ⟨(some 35), .mv (.t 36), none, []⟩]) (
      .cond (.t 35) (
        .seq (.region [
          ⟨(some 37), .faddr 3 (.t 10), none, []⟩,
          ⟨none, .store 1 (.t 37) (.c (.str ⟨#[109, 105, 110]⟩)), none, []⟩]) (
        .region [
          ⟨(some 38), .faddr 2 (.t 10), none, []⟩,
          ⟨(some 39), .load 1 false (.t 38), none, []⟩,
          ⟨(some 40), .len false (.t 39), none, []⟩,
          ⟨(some 41), .faddr 4 (.t 10), none, []⟩,
          ⟨none, .store 1 (.t 41) (.t 40), none, []⟩])) (
        .seq (.region [
          ⟨(some 43), .bin .eql (.t 30) (.c (.int .i64 2)), none, []⟩,
          ⟨(some 42), .mv (.t 43), none, []⟩]) (
        .cond (.t 42) (
          .seq (.region [
            ⟨(some 44), .faddr 3 (.t 10), none, []⟩,
            ⟨none, .store 1 (.t 44) (.c (.str ⟨#[109, 105, 110]⟩)), none, []⟩]) (
          .region [
            ⟨(some 45), .faddr 4 (.t 10), none, []⟩,
            ⟨none, .store 1 (.t 45) (.c (.int .i64 0)), none, []⟩])) (
          .seq (.region [
            ⟨(some 47), .bin .eql (.t 30) (.c (.int .i64 3)), none, []⟩,
            ⟨(some 46), .mv (.t 47), none, []⟩]) (
          .cond (.t 46) (
            .region [
              ⟨(some 48), .faddr 5 (.t 10), none, []⟩,
              ⟨none, .store 1 (.t 48) (.c (.isl [] true)), none, []⟩]) (
            .seq (.region [
              ⟨(some 50), .bin .eql (.t 30) (.c (.int .i64 4)), none, []⟩,
              ⟨(some 49), .mv (.t 50), none, []⟩]) (
            .cond (.t 49) (
              .region [
                ⟨(some 51), .faddr 1 (.t 10), none, []⟩,
                ⟨none, .store 1 (.t 51) (.c (.str ⟨#[102, 95, 99, 111, 110, 115]⟩)), none, []⟩]) (
              .region [
                ⟨(some 31), .faddr 2 (.t 10), none, []⟩,
                ⟨none, .store 1 (.t 31) (.c (.isl [] true)), none, []⟩]))))))))))))) (
  .seq (.region [
    ⟨(some 52), .faddr 2 (.t 8), none, []⟩,
    ⟨(some 53), .load 1 false (.t 52), none, []⟩,
    ⟨(some 54), .append 6 true 104 false (.c (.isl [] true)) (.t 53), none, []⟩,
    ⟨(some 55), .faddr 2 (.t 8), none, []⟩,
    ⟨none, .store 1 (.t 55) (.t 54), none, []⟩]) (
  .seq (.region [
    ⟨(some 56), .faddr 2 (.t 8), none, []⟩,
    ⟨(some 57), .load 1 false (.t 56), none, []⟩,
    ⟨(some 58), .mv (.t 9), none, []⟩,
    ⟨(some 59), .load 6 true (.t 10), none, []⟩,
    ⟨(some 60), .iaddrS 6 (.t 57) (.t 58), none, []⟩,
    ⟨none, .store 6 (.t 60) (.t 59), none, []⟩]) (
  .seq (.region [
    ⟨(some 61), .mv (.t 7), none, []⟩,
    ⟨(some 62), .mv (.t 61), none, []⟩,
    ⟨(some 63), .load 3 true (.t 8), (some (62, true)), []⟩,
    ⟨(some 64), .call 11 [.t 63], (some (62, true)), []⟩,
    ⟨(some 65), .un .not (.t 64), (some (62, true)), []⟩,
    ⟨(some 66), .pick (.t 62) (.t 65) (.c (.bool false)), none, []⟩,
    ⟨(some 67), .mv (.t 66), none, []⟩,
    ⟨(some 68), .load 3 true (.t 8), (some (67, true)), []⟩,
    ⟨(some 69), .call 12 [.t 68], (some (67, true)), []⟩,
    ⟨(some 70), .bin .eql (.t 69) (.c (.str ⟨#[]⟩)), (some (67, true)), []⟩,
    ⟨(some 71), .pick (.t 67) (.t 70) (.c (.bool false)), none, []⟩,
    ⟨(some 72), .mv (.t 71), none, []⟩,
    ⟨(some 73), .load 6 true (.t 10), (some (72, true)), []⟩,
    ⟨(some 74), .call 21 [.t 73], (some (72, true)), []⟩,
    ⟨(some 75), .bin .eql (.t 74) (.c (.str ⟨#[]⟩)), (some (72, true)), []⟩,
    ⟨(some 76), .pick (.t 72) (.t 75) (.c (.bool false)), none, []⟩,
    ⟨(some 6), .mv (.t 76), none, []⟩]) (
  .ret)))))))))),
  .pure, true, true⟩
theorem k5 : compF Tryz.prog { mt := false, mtAt := [], mode := .pure, clArgs := true, clRes := true } Tryz.f5 = some c5 := by kernel_rfl
/- beaconry/beaconrylaw04.PrinterJoins -/
def c6 : AFunc := ⟨54, [.tmp 2],
  .seq (.region [
    ⟨(some 1), .box (.t 0), none, []⟩,
    ⟨(some 2), .mv (.c (.bool false)), none, []⟩]) (
  .seq (.region [
    ⟨(some 8), .call 9 [], none, []⟩,
    ⟨(some 3), .mv (.t 8), none, []⟩]) (
  .seq (.region [
    ⟨(some 9), .load 3 true (.t 1), none, []⟩,
    ⟨(some 10), .call 10 [.t 9], none, []⟩,
    ⟨(some 4), .alloc [.isl [] true, .isl [] true, .isl [] true], none, []⟩,
    ⟨none, .store 3 (.t 4) (.t 10), none, []⟩]) (
  .seq (.region [
    ⟨(some 11), .faddr 0 (.t 4), none, []⟩,
    ⟨(some 12), .load 1 false (.t 11), none, []⟩,
    ⟨(some 13), .build [.isl [] true, .isl [] true, .isl [] true] [(0, 1, .t 12)], none, []⟩,
    ⟨(some 14), .call 12 [.t 13], none, []⟩,
    ⟨(some 5), .mv (.t 14), none, []⟩]) (
  .seq (.seq (.region [
    ⟨(some 6), .mv (.c (.int .i64 0)), none, []⟩]) (
  .block 0 (
    .loop (
      .seq (.seq (.region [
        ⟨(some 15), .mv (.t 6), none, []⟩,
        ⟨(some 16), .faddr 1 (.t 4), none, []⟩,
        ⟨(some 17), .load 1 false (.t 16), none, []⟩,
        ⟨(some 18), .len false (.t 17), none, []⟩,
        ⟨(some 19), .bin .lss (.t 15) (.t 18), none, []⟩]) (
      .cond (.t 19) (
        .skip) (
        .exit 0))) (
      .seq (.block 1 (
        .region [
          ⟨(some 22), .mv (.t 5), none, []⟩,
          ⟨(some 23), .faddr 1 (.t 4), none, []⟩,
          ⟨(some 24), .load 1 false (.t 23), none, []⟩,
          ⟨(some 25), .mv (.t 6), none, []⟩,
          ⟨(some 26), .iaddrS 2 (.t 24) (.t 25), none, []⟩,
          ⟨(some 27), .load 2 true (.t 26), none, []⟩,
          ⟨(some 28), .call 22 [.t 27], none, []⟩,
          ⟨(some 29), .bin .add (.t 22) (.t 28), none, []⟩,
          ⟨(some 30), .bin .add (.t 29) (.c (.str ⟨#[10]⟩)), none, []⟩,
          ⟨(some 5), .mv (.t 30), none, []⟩])) (
      .region [
        ⟨(some 20), .mv (.t 6), none, []⟩,
        ⟨(some 21), .bin .add (.t 20) (.c (.int .i64 1)), none, []⟩,
        ⟨(some 6), .mv (.t 21), none, []⟩])))))) (
  .seq (.seq (.region [
    ⟨(some 7), .mv (.c (.int .i64 0)), none, []⟩]) (
  .block 2 (
    .loop (
      .seq (.seq (.region [
        ⟨(some 31), .mv (.t 7), none, []⟩,
        ⟨(some 32), .faddr 2 (.t 4), none, []⟩,
        ⟨(some 33), .load 1 false (.t 32), none, []⟩,
        ⟨(some 34), .len false (.t 33), none, []⟩,
        ⟨(some 35), .bin .lss (.t 31) (.t 34), none, []⟩]) (
      .cond (.t 35) (
        .skip) (
        .exit 2))) (
      .seq (.block 3 (
        .region [
          ⟨(some 38), .mv (.t 5), none, []⟩,
          ⟨(some 39), .faddr 2 (.t 4), none, []⟩,
          ⟨(some 40), .load 1 false (.t 39), none, []⟩,
          ⟨(some 41), .mv (.t 7), none, []⟩,
          ⟨(some 42), .iaddrS 6 (.t 40) (.t 41), none, []⟩,
          ⟨(some 43), .load 6 true (.t 42), none, []⟩,
          ⟨(some 44), .call 21 [.t 43], none, []⟩,
          ⟨(some 45), .bin .add (.t 38) (.t 44), none, []⟩,
          ⟨(some 46), .bin .add (.t 45) (.c (.str ⟨#[10]⟩)), none, []⟩,
          ⟨(some 5), .mv (.t 46), none, []⟩])) (
      .region [
        ⟨(some 36), .mv (.t 7), none, []⟩,
        ⟨(some 37), .bin .add (.t 36) (.c (.int .i64 1)), none, []⟩,
        ⟨(some 7), .mv (.t 37), none, []⟩])))))) (
  .seq (.region [
    ⟨(some 47), .mv (.t 3), none, []⟩,
    ⟨(some 48), .mv (.t 47), none, []⟩,
    ⟨(some 49), .load 3 true (.t 4), (some (48, true)), []⟩,
    ⟨(some 50), .call 12 [.t 49], (some (48, true)), []⟩,
    ⟨(some 51), .mv (.t 5), (some (48, true)), []⟩,
    ⟨(some 52), .bin .eql (.t 50) (.t 51), (some (48, true)), []⟩,
    ⟨(some 53), .pick (.t 48) (.t 52) (.c (.bool false)), none, []⟩,
    ⟨(some 2), .mv (.t 53), none, []⟩]) (
  .ret))))))),
  .pure, true, true⟩
theorem k6 : compF Tryz.prog { mt := false, mtAt := [], mode := .pure, clArgs := true, clRes := true } Tryz.f6 = some c6 := by kernel_rfl
/- beaconry/beaconrylaw04.PrinterTells -/
def c7 : AFunc := ⟨119, [.tmp 2],
  .seq (.region [
    ⟨(some 1), .box (.t 0), none, []⟩,
    ⟨(some 2), .mv (.c (.bool false)), none, []⟩]) (
  .seq (.region [
    ⟨(some 9), .call 9 [], none, []⟩,
    ⟨(some 3), .mv (.t 9), none, []⟩]) (
  .seq (.seq (.region [
    ⟨(some 10), .mv (.t 3), none, []⟩,
    ⟨(some 11), .un .not (.t 10), none, []⟩,
    ⟨(some 12), .mv (.t 11), none, []⟩,
    ⟨(some 13), .load 3 true (.t 1), (some (12, false)), []⟩,
    ⟨(some 15), .load 3 true (.t 1), (some (12, false)), []⟩,
    ⟨(some 14), .call 11 [.t 13], (some (12, false)), [.t 1]⟩,
    ⟨(some 16), .call 23 [.t 15], (some (12, false)), []⟩,
    ⟨(some 17), .eqb true (.t 14) (.t 16), (some (12, false)), []⟩,
    ⟨(some 18), .pick (.t 12) (.c (.bool true)) (.t 17), none, []⟩,
    ⟨(some 19), .mv (.t 18), none, []⟩,
    ⟨(some 20), .load 3 true (.t 1), (some (19, false)), []⟩,
    ⟨(some 22), .load 3 true (.t 1), (some (19, false)), []⟩,
    ⟨(some 21), .call 12 [.t 20], (some (19, false)), [.t 1]⟩,
    ⟨(some 23), .call 24 [.t 22], (some (19, false)), []⟩,
    ⟨(some 24), .bin .neq (.t 21) (.t 23), (some (19, false)), []⟩,
    ⟨(some 25), .pick (.t 19) (.c (.bool true)) (.t 24), none, []⟩]) (
  .cond (.t 25) (
    .seq (.region [
      ⟨(some 2), .mv (.c (.bool false)), none, []⟩]) (
    .ret)) (
    .skip))) (
  .seq (.seq (.region [
    ⟨(some 4), .mv (.c (.int .i64 0)), none, []⟩]) (
  .block 0 (
    .loop (
      .seq (.seq (.region [
        ⟨(some 26), .mv (.t 4), none, []⟩,
        ⟨(some 27), .faddr 1 (.t 1), none, []⟩,
        ⟨(some 28), .load 1 false (.t 27), none, []⟩,
        ⟨(some 29), .len false (.t 28), none, []⟩,
        ⟨(some 30), .bin .lss (.t 26) (.t 29), none, []⟩,
        ⟨(some 31), .mv (.t 30), none, []⟩,
        ⟨(some 32), .mv (.t 4), (some (31, true)), []⟩,
        ⟨(some 33), .bin .lss (.t 32) (.c (.int .i64 64)), (some (31, true)), []⟩,
        ⟨(some 34), .pick (.t 31) (.t 33) (.c (.bool false)), none, []⟩]) (
      .cond (.t 34) (
        .skip) (
        .exit 0))) (
      .seq (.block 1 (
        .seq (.region [
          ⟨(some 37), .faddr 1 (.t 1), none, []⟩,
          ⟨(some 38), .load 1 false (.t 37), none, []⟩,
          ⟨(some 39), .mv (.t 4), none, []⟩,
          ⟨(some 40), .iaddrS 2 (.t 38) (.t 39), none, []⟩,
          ⟨(some 41), .load 2 true (.t 40), none, []⟩,
          ⟨(some 43), .faddr 1 (.t 1), none, []⟩,
          ⟨(some 44), .load 1 false (.t 43), none, []⟩,
          ⟨(some 45), .mv (.t 4), none, []⟩,
          ⟨(some 46), .iaddrS 2 (.t 44) (.t 45), none, []⟩,
          ⟨(some 47), .load 2 true (.t 46), none, []⟩,
          ⟨(some 42), .call 22 [.t 41], none, [.t 43, .t 46]⟩,
          ⟨(some 48), .call 25 [.t 47], none, []⟩,
          ⟨(some 49), .bin .neq (.t 42) (.t 48), none, []⟩]) (
        .cond (.t 49) (
          .seq (.region [
            ⟨(some 2), .mv (.c (.bool false)), none, []⟩]) (
          .ret)) (
          .skip)))) (
      .region [
        ⟨(some 35), .mv (.t 4), none, []⟩,
        ⟨(some 36), .bin .add (.t 35) (.c (.int .i64 1)), none, []⟩,
        ⟨(some 4), .mv (.t 36), none, []⟩])))))) (
  .seq (.seq (.region [
    ⟨(some 5), .mv (.c (.int .i64 0)), none, []⟩]) (
  .block 2 (
    .loop (
      .seq (.seq (.region [
        ⟨(some 50), .mv (.t 5), none, []⟩,
        ⟨(some 51), .faddr 2 (.t 1), none, []⟩,
        ⟨(some 52), .load 1 false (.t 51), none, []⟩,
        ⟨(some 53), .len false (.t 52), none, []⟩,
        ⟨(some 54), .bin .lss (.t 50) (.t 53), none, []⟩,
        ⟨(some 55), .mv (.t 54), none, []⟩,
        ⟨(some 56), .mv (.t 5), (some (55, true)), []⟩,
        ⟨(some 57), .bin .lss (.t 56) (.c (.int .i64 64)), (some (55, true)), []⟩,
        ⟨(some 58), .pick (.t 55) (.t 57) (.c (.bool false)), none, []⟩]) (
      .cond (.t 58) (
        .skip) (
        .exit 2))) (
      .seq (.block 3 (
        .seq (.region [
          ⟨(some 61), .faddr 2 (.t 1), none, []⟩,
          ⟨(some 62), .load 1 false (.t 61), none, []⟩,
          ⟨(some 63), .mv (.t 5), none, []⟩,
          ⟨(some 64), .iaddrS 6 (.t 62) (.t 63), none, []⟩,
          ⟨(some 65), .load 6 true (.t 64), none, []⟩,
          ⟨(some 6), .alloc [.str ⟨#[]⟩, .str ⟨#[]⟩, .isl [] true, .str ⟨#[]⟩, .int .i64 0, .isl [] true], none, []⟩,
          ⟨none, .store 6 (.t 6) (.t 65), none, []⟩]) (
        .seq (.seq (.region [
          ⟨(some 66), .load 6 true (.t 6), none, []⟩,
          ⟨(some 68), .load 6 true (.t 6), none, []⟩,
          ⟨(some 67), .call 21 [.t 66], none, [.t 6]⟩,
          ⟨(some 69), .call 26 [.t 68], none, []⟩,
          ⟨(some 70), .bin .neq (.t 67) (.t 69), none, []⟩]) (
        .cond (.t 70) (
          .seq (.region [
            ⟨(some 2), .mv (.c (.bool false)), none, []⟩]) (
          .ret)) (
          .skip))) (
        .seq (.seq (.region [
          ⟨(some 7), .mv (.c (.int .i64 0)), none, []⟩]) (
        .block 4 (
          .loop (
            .seq (.seq (.region [
              ⟨(some 71), .mv (.t 7), none, []⟩,
              ⟨(some 72), .faddr 5 (.t 6), none, []⟩,
              ⟨(some 73), .load 1 false (.t 72), none, []⟩,
              ⟨(some 74), .len false (.t 73), none, []⟩,
              ⟨(some 75), .bin .lss (.t 71) (.t 74), none, []⟩,
              ⟨(some 76), .mv (.t 75), none, []⟩,
              ⟨(some 77), .mv (.t 7), (some (76, true)), []⟩,
              ⟨(some 78), .bin .lss (.t 77) (.c (.int .i64 9)), (some (76, true)), []⟩,
              ⟨(some 79), .pick (.t 76) (.t 78) (.c (.bool false)), none, []⟩]) (
            .cond (.t 79) (
              .skip) (
              .exit 4))) (
            .seq (.block 5 (
              .seq (.region [
                ⟨(some 82), .faddr 5 (.t 6), none, []⟩,
                ⟨(some 83), .load 1 false (.t 82), none, []⟩,
                ⟨(some 84), .mv (.t 7), none, []⟩,
                ⟨(some 85), .iaddrS 3 (.t 83) (.t 84), none, []⟩,
                ⟨(some 86), .load 3 true (.t 85), none, []⟩,
                ⟨(some 88), .faddr 5 (.t 6), none, []⟩,
                ⟨(some 89), .load 1 false (.t 88), none, []⟩,
                ⟨(some 90), .mv (.t 7), none, []⟩,
                ⟨(some 91), .iaddrS 3 (.t 89) (.t 90), none, []⟩,
                ⟨(some 92), .load 3 true (.t 91), none, []⟩,
                ⟨(some 87), .call 18 [.t 86], none, [.t 88, .t 91]⟩,
                ⟨(some 93), .call 27 [.t 92], none, []⟩,
                ⟨(some 94), .bin .neq (.t 87) (.t 93), none, []⟩]) (
              .cond (.t 94) (
                .seq (.region [
                  ⟨(some 2), .mv (.c (.bool false)), none, []⟩]) (
                .ret)) (
                .skip)))) (
            .region [
              ⟨(some 80), .mv (.t 7), none, []⟩,
              ⟨(some 81), .bin .add (.t 80) (.c (.int .i64 1)), none, []⟩,
              ⟨(some 7), .mv (.t 81), none, []⟩])))))) (
        .seq (.region [
          ⟨(some 8), .mv (.c (.int .i64 0)), none, []⟩]) (
        .block 6 (
          .loop (
            .seq (.seq (.region [
              ⟨(some 95), .mv (.t 8), none, []⟩,
              ⟨(some 96), .faddr 2 (.t 6), none, []⟩,
              ⟨(some 97), .load 1 false (.t 96), none, []⟩,
              ⟨(some 98), .len false (.t 97), none, []⟩,
              ⟨(some 99), .bin .lss (.t 95) (.t 98), none, []⟩,
              ⟨(some 100), .mv (.t 99), none, []⟩,
              ⟨(some 101), .mv (.t 8), (some (100, true)), []⟩,
              ⟨(some 102), .bin .lss (.t 101) (.c (.int .i64 9)), (some (100, true)), []⟩,
              ⟨(some 103), .pick (.t 100) (.t 102) (.c (.bool false)), none, []⟩]) (
            .cond (.t 103) (
              .skip) (
              .exit 6))) (
            .seq (.block 7 (
              .seq (.region [
                ⟨(some 106), .faddr 2 (.t 6), none, []⟩,
                ⟨(some 107), .load 1 false (.t 106), none, []⟩,
                ⟨(some 108), .mv (.t 8), none, []⟩,
                ⟨(some 109), .iaddrS 7 (.t 107) (.t 108), none, []⟩,
                ⟨(some 110), .load 7 true (.t 109), none, []⟩,
                ⟨(some 112), .faddr 2 (.t 6), none, []⟩,
                ⟨(some 113), .load 1 false (.t 112), none, []⟩,
                ⟨(some 114), .mv (.t 8), none, []⟩,
                ⟨(some 115), .iaddrS 7 (.t 113) (.t 114), none, []⟩,
                ⟨(some 116), .load 7 true (.t 115), none, []⟩,
                ⟨(some 111), .call 16 [.t 110], none, [.t 112, .t 115]⟩,
                ⟨(some 117), .call 28 [.t 116], none, []⟩,
                ⟨(some 118), .bin .neq (.t 111) (.t 117), none, []⟩]) (
              .cond (.t 118) (
                .seq (.region [
                  ⟨(some 2), .mv (.c (.bool false)), none, []⟩]) (
                .ret)) (
                .skip)))) (
            .region [
              ⟨(some 104), .mv (.t 8), none, []⟩,
              ⟨(some 105), .bin .add (.t 104) (.c (.int .i64 1)), none, []⟩,
              ⟨(some 8), .mv (.t 105), none, []⟩])))))))))) (
      .region [
        ⟨(some 59), .mv (.t 5), none, []⟩,
        ⟨(some 60), .bin .add (.t 59) (.c (.int .i64 1)), none, []⟩,
        ⟨(some 5), .mv (.t 60), none, []⟩])))))) (
  .seq (.region [
    ⟨(some 2), .mv (.c (.bool true)), none, []⟩]) (
  .ret)))))),
  .pure, true, true⟩
theorem k7 : compF Tryz.prog { mt := false, mtAt := [], mode := .pure, clArgs := true, clRes := true } Tryz.f7 = some c7 := by kernel_rfl
/- beaconry/beaconrylaw04.PrinterGoes -/
def c8 : AFunc := ⟨44, [.tmp 2],
  .seq (.region [
    ⟨(some 1), .box (.t 0), none, []⟩,
    ⟨(some 2), .mv (.c (.bool false)), none, []⟩]) (
  .seq (.region [
    ⟨(some 7), .load 3 true (.t 1), none, []⟩,
    ⟨(some 8), .call 10 [.t 7], none, []⟩,
    ⟨(some 3), .alloc [.isl [] true, .isl [] true, .isl [] true], none, []⟩,
    ⟨none, .store 3 (.t 3) (.t 8), none, []⟩]) (
  .seq (.region [
    ⟨(some 9), .load 3 true (.t 3), none, []⟩,
    ⟨(some 10), .call 12 [.t 9], none, []⟩,
    ⟨(some 4), .mv (.t 10), none, []⟩]) (
  .seq (.region [
    ⟨(some 5), .mv (.c (.int .i64 0)), none, []⟩]) (
  .seq (.seq (.region [
    ⟨(some 6), .mv (.c (.int .i64 0)), none, []⟩]) (
  .block 0 (
    .loop (
      .seq (.seq (.region [
        ⟨(some 11), .mv (.t 6), none, []⟩,
        ⟨(some 12), .mv (.t 4), none, []⟩,
        ⟨(some 13), .len true (.t 12), none, []⟩,
        ⟨(some 14), .bin .lss (.t 11) (.t 13), none, []⟩]) (
      .cond (.t 14) (
        .skip) (
        .exit 0))) (
      .seq (.block 1 (
        .seq (.region [
          ⟨(some 17), .mv (.t 4), none, []⟩,
          ⟨(some 18), .mv (.t 6), none, []⟩,
          ⟨(some 19), .idxStr (.t 17) (.t 18), none, []⟩,
          ⟨(some 20), .bin .eql (.t 19) (.c (.int .u8 10)), none, []⟩]) (
        .cond (.t 20) (
          .region [
            ⟨(some 21), .mv (.t 5), none, []⟩,
            ⟨(some 22), .bin .add (.t 21) (.c (.int .i64 1)), none, []⟩,
            ⟨(some 5), .mv (.t 22), none, []⟩]) (
          .skip)))) (
      .region [
        ⟨(some 15), .mv (.t 6), none, []⟩,
        ⟨(some 16), .bin .add (.t 15) (.c (.int .i64 1)), none, []⟩,
        ⟨(some 6), .mv (.t 16), none, []⟩])))))) (
  .seq (.region [
    ⟨(some 23), .load 3 true (.t 3), none, []⟩,
    ⟨(some 24), .call 7 [.t 23], none, []⟩,
    ⟨(some 25), .mv (.t 24), none, []⟩,
    ⟨(some 26), .load 3 true (.t 3), (some (25, true)), []⟩,
    ⟨(some 27), .call 11 [.t 26], (some (25, true)), []⟩,
    ⟨(some 28), .pick (.t 25) (.t 27) (.c (.bool false)), none, []⟩,
    ⟨(some 29), .mv (.t 28), none, []⟩,
    ⟨(some 30), .mv (.t 5), (some (29, true)), []⟩,
    ⟨(some 31), .faddr 0 (.t 3), (some (29, true)), []⟩,
    ⟨(some 32), .load 1 false (.t 31), (some (29, true)), []⟩,
    ⟨(some 33), .len false (.t 32), (some (29, true)), []⟩,
    ⟨(some 34), .faddr 1 (.t 3), (some (29, true)), []⟩,
    ⟨(some 35), .load 1 false (.t 34), (some (29, true)), []⟩,
    ⟨(some 36), .len false (.t 35), (some (29, true)), []⟩,
    ⟨(some 37), .bin .add (.t 33) (.t 36), (some (29, true)), []⟩,
    ⟨(some 38), .faddr 2 (.t 3), (some (29, true)), []⟩,
    ⟨(some 39), .load 1 false (.t 38), (some (29, true)), []⟩,
    ⟨(some 40), .len false (.t 39), (some (29, true)), []⟩,
    ⟨(some 41), .bin .add (.t 37) (.t 40), (some (29, true)), []⟩,
    ⟨(some 42), .bin .eql (.t 30) (.t 41), (some (29, true)), []⟩,
    ⟨(some 43), .pick (.t 29) (.t 42) (.c (.bool false)), none, []⟩,
    ⟨(some 2), .mv (.t 43), none, []⟩]) (
  .ret)))))),
  .pure, true, true⟩
theorem k8 : compF Tryz.prog { mt := false, mtAt := [], mode := .pure, clArgs := true, clRes := true } Tryz.f8 = some c8 := by kernel_rfl
/- beaconry/beaconrylaw04.awake -/
def c9 : AFunc := ⟨48, [.tmp 0],
  .seq (.region [
    ⟨(some 0), .mv (.c (.bool false)), none, []⟩]) (
  .seq (.region [
    ⟨(some 6), .build [.int .i64 0, .str ⟨#[]⟩, .int .i64 0, .int .i64 0, .str ⟨#[]⟩, .isl [] true, .isl [] true] [(0, 1, .c (.int .i64 1)), (1, 1, .c (.str ⟨#[83]⟩))], none, []⟩,
    ⟨(some 1), .alloc [.int .i64 0, .str ⟨#[]⟩, .int .i64 0, .int .i64 0, .str ⟨#[]⟩, .isl [] true, .isl [] true], none, []⟩,
    ⟨none, .store 7 (.t 1) (.t 6), none, []⟩]) (
  .seq (.region [
    ⟨(some 7), .build [.int .i64 0, .str ⟨#[]⟩, .int .i64 0, .int .i64 0, .str ⟨#[]⟩, .isl [] true, .isl [] true] [(0, 1, .c (.int .i64 1)), (1, 1, .c (.str ⟨#[67]⟩))], none, []⟩,
    ⟨(some 2), .alloc [.int .i64 0, .str ⟨#[]⟩, .int .i64 0, .int .i64 0, .str ⟨#[]⟩, .isl [] true, .isl [] true], none, []⟩,
    ⟨none, .store 7 (.t 2) (.t 7), none, []⟩]) (
  .seq (.region [
    ⟨(some 8), .build [.int .i64 0, .int .i64 0, .str ⟨#[]⟩, .isl [] true] [(0, 1, .c (.int .i64 1)), (1, 1, .c (.int .i64 1))], none, []⟩,
    ⟨(some 9), .build [.int .i64 0, .str ⟨#[]⟩, .int .i64 0, .int .i64 0, .str ⟨#[]⟩, .isl [] true, .isl [] true] [(0, 1, .c (.int .i64 2)), (2, 4, .t 8)], none, []⟩,
    ⟨(some 3), .alloc [.int .i64 0, .str ⟨#[]⟩, .int .i64 0, .int .i64 0, .str ⟨#[]⟩, .isl [] true, .isl [] true], none, []⟩,
    ⟨none, .store 7 (.t 3) (.t 9), none, []⟩]) (
  .seq (.region [
    ⟨(some 10), .load 7 true (.t 1), none, []⟩,
    ⟨(some 11), .load 7 true (.t 2), none, []⟩,
    ⟨(some 12), .buildSl 2 7 true [.int .i64 0, .str ⟨#[]⟩, .int .i64 0, .int .i64 0, .str ⟨#[]⟩, .isl [] true, .isl [] true, .int .i64 0, .str ⟨#[]⟩, .int .i64 0, .int .i64 0, .str ⟨#[]⟩, .isl [] true, .isl [] true] [(0, 7, .t 10), (7, 7, .t 11)], none, []⟩,
    ⟨(some 13), .load 7 true (.t 1), none, []⟩,
    ⟨(some 14), .load 7 true (.t 2), none, []⟩,
    ⟨(some 15), .buildSl 2 7 true [.int .i64 0, .str ⟨#[]⟩, .int .i64 0, .int .i64 0, .str ⟨#[]⟩, .isl [] true, .isl [] true, .int .i64 0, .str ⟨#[]⟩, .int .i64 0, .int .i64 0, .str ⟨#[]⟩, .isl [] true, .isl [] true] [(0, 7, .t 13), (7, 7, .t 14)], none, []⟩,
    ⟨(some 16), .build [.int .i64 0, .str ⟨#[]⟩, .isl [] true] [(0, 1, .c (.int .i64 1)), (1, 1, .c (.str ⟨#[108]⟩)), (2, 1, .t 15)], none, []⟩,
    ⟨(some 17), .load 7 true (.t 2), none, []⟩,
    ⟨(some 18), .load 7 true (.t 3), none, []⟩,
    ⟨(some 19), .buildSl 2 7 true [.int .i64 0, .str ⟨#[]⟩, .int .i64 0, .int .i64 0, .str ⟨#[]⟩, .isl [] true, .isl [] true, .int .i64 0, .str ⟨#[]⟩, .int .i64 0, .int .i64 0, .str ⟨#[]⟩, .isl [] true, .isl [] true] [(0, 7, .t 17), (7, 7, .t 18)], none, []⟩,
    ⟨(some 20), .build [.int .i64 0, .str ⟨#[]⟩, .int .i64 0, .int .i64 0, .str ⟨#[]⟩, .isl [] true, .isl [] true] [(0, 1, .c (.int .i64 4)), (1, 1, .c (.str ⟨#[43]⟩)), (6, 1, .t 19)], none, []⟩,
    ⟨(some 21), .load 7 true (.t 3), none, []⟩,
    ⟨(some 22), .buildSl 2 7 true [.int .i64 0, .str ⟨#[]⟩, .int .i64 0, .int .i64 0, .str ⟨#[]⟩, .isl [] true, .isl [] true, .int .i64 0, .str ⟨#[]⟩, .int .i64 0, .int .i64 0, .str ⟨#[]⟩, .isl [] true, .isl [] true] [(0, 7, .t 20), (7, 7, .t 21)], none, []⟩,
    ⟨(some 23), .build [.int .i64 0, .str ⟨#[]⟩, .isl [] true] [(0, 1, .c (.int .i64 3)), (1, 1, .c (.str ⟨#[60]⟩)), (2, 1, .t 22)], none, []⟩,
    ⟨(some 24), .buildSl 2 3 true [.int .i64 0, .str ⟨#[]⟩, .isl [] true, .int .i64 0, .str ⟨#[]⟩, .isl [] true] [(0, 3, .t 16), (3, 3, .t 23)], none, []⟩,
    ⟨(some 25), .build [.str ⟨#[]⟩, .str ⟨#[]⟩, .isl [] true, .str ⟨#[]⟩, .int .i64 0, .isl [] true] [(0, 1, .c (.str ⟨#[114, 49]⟩)), (1, 1, .c (.str ⟨#[112]⟩)), (2, 1, .t 12), (3, 1, .c (.str ⟨#[109, 105, 110]⟩)), (4, 1, .c (.int .i64 1)), (5, 1, .t 24)], none, []⟩,
    ⟨(some 4), .alloc [.str ⟨#[]⟩, .str ⟨#[]⟩, .isl [] true, .str ⟨#[]⟩, .int .i64 0, .isl [] true], none, []⟩,
    ⟨none, .store 6 (.t 4) (.t 25), none, []⟩]) (
  .seq (.region [
    ⟨(some 26), .build [.str ⟨#[]⟩, .int .i64 0] [(0, 1, .c (.str ⟨#[108]⟩)), (1, 1, .c (.int .i64 2))], none, []⟩,
    ⟨(some 27), .buildSl 1 2 true [.str ⟨#[]⟩, .int .i64 0] [(0, 2, .t 26)], none, []⟩,
    ⟨(some 28), .load 6 true (.t 4), none, []⟩,
    ⟨(some 29), .buildSl 1 6 true [.str ⟨#[]⟩, .str ⟨#[]⟩, .isl [] true, .str ⟨#[]⟩, .int .i64 0, .isl [] true] [(0, 6, .t 28)], none, []⟩,
    ⟨(some 30), .build [.isl [] true, .isl [] true, .isl [] true] [(0, 1, .t 27), (2, 1, .t 29)], none, []⟩,
    ⟨(some 5), .alloc [.isl [] true, .isl [] true, .isl [] true], none, []⟩,
    ⟨none, .store 3 (.t 5) (.t 30), none, []⟩]) (
  .seq (.region [
    ⟨(some 31), .load 3 true (.t 5), none, []⟩,
    ⟨(some 32), .call 11 [.t 31], none, []⟩,
    ⟨(some 33), .mv (.t 32), none, []⟩,
    ⟨(some 34), .load 3 true (.t 5), (some (33, true)), []⟩,
    ⟨(some 35), .call 12 [.t 34], (some (33, true)), []⟩,
    ⟨(some 36), .bin .eql (.t 35) (.c (.str ⟨#[109, 97, 116, 101, 114, 105, 97, 108, 105, 122, 101, 40, 108, 44, 50, 41, 46, 10, 114, 49, 32, 112, 40, 64, 83, 44, 109, 105, 110, 60, 67, 62, 41, 32, 58, 45, 32, 108, 40, 64, 83, 44, 67, 41, 44, 32, 40, 67, 43, 49, 41, 32, 60, 32, 49, 46, 10]⟩)), (some (33, true)), []⟩,
    ⟨(some 37), .pick (.t 33) (.t 36) (.c (.bool false)), none, []⟩,
    ⟨(some 38), .mv (.t 37), none, []⟩,
    ⟨(some 39), .load 7 true (.t 2), (some (38, true)), []⟩,
    ⟨(some 40), .call 16 [.t 39], (some (38, true)), []⟩,
    ⟨(some 41), .bin .eql (.t 40) (.c (.str ⟨#[67]⟩)), (some (38, true)), []⟩,
    ⟨(some 42), .pick (.t 38) (.t 41) (.c (.bool false)), none, []⟩,
    ⟨(some 43), .mv (.t 42), none, []⟩,
    ⟨(some 44), .build [.int .i64 0, .str ⟨#[]⟩, .int .i64 0, .int .i64 0, .str ⟨#[]⟩, .isl [] true, .isl [] true] [], (some (43, true)), []⟩,
    ⟨(some 45), .call 16 [.t 44], (some (43, true)), []⟩,
    ⟨(some 46), .bin .eql (.t 45) (.c (.str ⟨#[]⟩)), (some (43, true)), []⟩,
    ⟨(some 47), .pick (.t 43) (.t 46) (.c (.bool false)), none, []⟩,
    ⟨(some 0), .mv (.t 47), none, []⟩]) (
  .ret))))))),
  .pure, true, true⟩
theorem k9 : compF Tryz.prog { mt := false, mtAt := [], mode := .pure, clArgs := true, clRes := true } Tryz.f9 = some c9 := by kernel_rfl
/- beaconry/beaconrylaw04.Fit -/
def c10 : AFunc := ⟨202, [.cell 2 3 true],
  .seq (.region [
    ⟨(some 1), .box (.t 0), none, []⟩,
    ⟨(some 2), .alloc [.isl [] true, .isl [] true, .isl [] true], none, []⟩]) (
  .seq (.region [
    ⟨(some 3), .alloc [.isl [] true, .isl [] true, .isl [] true], none, []⟩]) (
  .seq (.seq (.region [
    ⟨(some 4), .mv (.c (.int .i64 0)), none, []⟩]) (
  .block 0 (
    .loop (
      .seq (.seq (.region [
        ⟨(some 12), .mv (.t 4), none, []⟩,
        ⟨(some 13), .faddr 0 (.t 1), none, []⟩,
        ⟨(some 14), .load 1 false (.t 13), none, []⟩,
        ⟨(some 15), .len false (.t 14), none, []⟩,
        ⟨(some 16), .bin .lss (.t 12) (.t 15), none, []⟩,
        ⟨(some 17), .mv (.t 16), none, []⟩,
        ⟨(some 18), .mv (.t 4), (some (17, true)), []⟩,
        ⟨(some 19), .bin .lss (.t 18) (.c (.int .i64 64)), (some (17, true)), []⟩,
        ⟨(some 20), .pick (.t 17) (.t 19) (.c (.bool false)), none, []⟩]) (
      .cond (.t 20) (
        .skip) (
        .exit 0))) (
      .seq (.block 1 (
        .region [
          ⟨(some 23), .faddr 0 (.t 3), none, []⟩,
          ⟨(some 24), .load 1 false (.t 23), none, []⟩,
          ⟨(some 25), .faddr 0 (.t 1), none, []⟩,
          ⟨(some 26), .load 1 false (.t 25), none, []⟩,
          ⟨(some 27), .mv (.t 4), none, []⟩,
          ⟨(some 28), .iaddrS 2 (.t 26) (.t 27), none, []⟩,
          ⟨(some 29), .faddr 0 (.t 28), none, []⟩,
          ⟨(some 30), .load 1 false (.t 29), none, []⟩,
          ⟨(some 32), .faddr 0 (.t 1), none, []⟩,
          ⟨(some 33), .load 1 false (.t 32), none, []⟩,
          ⟨(some 34), .mv (.t 4), none, []⟩,
          ⟨(some 35), .iaddrS 2 (.t 33) (.t 34), none, []⟩,
          ⟨(some 36), .faddr 1 (.t 35), none, []⟩,
          ⟨(some 37), .load 1 false (.t 36), none, []⟩,
          ⟨(some 31), .call 29 [.t 30], none, [.t 23, .t 32, .t 36]⟩,
          ⟨(some 38), .call 20 [.t 37, .c (.int .i64 8)], none, [.t 23]⟩,
          ⟨(some 39), .bin .add (.c (.int .i64 1)) (.t 38), none, []⟩,
          ⟨(some 40), .build [.str ⟨#[]⟩, .int .i64 0] [(0, 1, .t 31), (1, 1, .t 39)], none, []⟩,
          ⟨(some 41), .buildSl 1 2 true [.str ⟨#[]⟩, .int .i64 0] [(0, 2, .t 40)], none, []⟩,
          ⟨(some 42), .append 2 true 24 false (.t 24) (.t 41), none, []⟩,
          ⟨(some 43), .faddr 0 (.t 3), none, []⟩,
          ⟨none, .store 1 (.t 43) (.t 42), none, []⟩])) (
      .region [
        ⟨(some 21), .mv (.t 4), none, []⟩,
        ⟨(some 22), .bin .add (.t 21) (.c (.int .i64 1)), none, []⟩,
        ⟨(some 4), .mv (.t 22), none, []⟩])))))) (
  .seq (.seq (.region [
    ⟨(some 5), .mv (.c (.int .i64 0)), none, []⟩]) (
  .block 2 (
    .loop (
      .seq (.seq (.region [
        ⟨(some 44), .mv (.t 5), none, []⟩,
        ⟨(some 45), .faddr 1 (.t 1), none, []⟩,
        ⟨(some 46), .load 1 false (.t 45), none, []⟩,
        ⟨(some 47), .len false (.t 46), none, []⟩,
        ⟨(some 48), .bin .lss (.t 44) (.t 47), none, []⟩,
        ⟨(some 49), .mv (.t 48), none, []⟩,
        ⟨(some 50), .mv (.t 5), (some (49, true)), []⟩,
        ⟨(some 51), .bin .lss (.t 50) (.c (.int .i64 64)), (some (49, true)), []⟩,
        ⟨(some 52), .pick (.t 49) (.t 51) (.c (.bool false)), none, []⟩]) (
      .cond (.t 52) (
        .skip) (
        .exit 2))) (
      .seq (.block 3 (
        .seq (.region [
          ⟨(some 55), .faddr 1 (.t 1), none, []⟩,
          ⟨(some 56), .load 1 false (.t 55), none, []⟩,
          ⟨(some 57), .mv (.t 5), none, []⟩,
          ⟨(some 58), .iaddrS 2 (.t 56) (.t 57), none, []⟩,
          ⟨(some 59), .faddr 0 (.t 58), none, []⟩,
          ⟨(some 60), .load 1 false (.t 59), none, []⟩,
          ⟨(some 61), .call 29 [.t 60], none, []⟩,
          ⟨(some 62), .build [.int .i64 0, .int .i64 0, .str ⟨#[]⟩, .isl [] true] [(0, 1, .c (.int .i64 3)), (2, 1, .c (.str ⟨#[97]⟩))], none, []⟩,
          ⟨(some 63), .buildSl 1 4 true [.int .i64 0, .int .i64 0, .str ⟨#[]⟩, .isl [] true] [(0, 4, .t 62)], none, []⟩,
          ⟨(some 64), .build [.str ⟨#[]⟩, .isl [] true] [(0, 1, .t 61), (1, 1, .t 63)], none, []⟩,
          ⟨(some 6), .alloc [.str ⟨#[]⟩, .isl [] true], none, []⟩,
          ⟨none, .store 2 (.t 6) (.t 64), none, []⟩]) (
        .seq (.seq (.region [
          ⟨(some 7), .mv (.c (.int .i64 0)), none, []⟩]) (
        .block 4 (
          .loop (
            .seq (.seq (.region [
              ⟨(some 65), .mv (.t 7), none, []⟩,
              ⟨(some 66), .faddr 1 (.t 1), none, []⟩,
              ⟨(some 67), .load 1 false (.t 66), none, []⟩,
              ⟨(some 68), .mv (.t 5), none, []⟩,
              ⟨(some 69), .iaddrS 2 (.t 67) (.t 68), none, []⟩,
              ⟨(some 70), .faddr 1 (.t 69), none, []⟩,
              ⟨(some 71), .load 1 false (.t 70), none, []⟩,
              ⟨(some 72), .len false (.t 71), none, []⟩,
              ⟨(some 73), .bin .lss (.t 65) (.t 72), none, []⟩,
              ⟨(some 74), .mv (.t 73), none, []⟩,
              ⟨(some 75), .mv (.t 7), (some (74, true)), []⟩,
              ⟨(some 76), .bin .lss (.t 75) (.c (.int .i64 7)), (some (74, true)), []⟩,
              ⟨(some 77), .pick (.t 74) (.t 76) (.c (.bool false)), none, []⟩]) (
            .cond (.t 77) (
              .skip) (
              .exit 4))) (
            .seq (.block 5 (
              .region [
                ⟨(some 80), .faddr 1 (.t 6), none, []⟩,
                ⟨(some 81), .load 1 false (.t 80), none, []⟩,
                ⟨(some 82), .faddr 1 (.t 1), none, []⟩,
                ⟨(some 83), .load 1 false (.t 82), none, []⟩,
                ⟨(some 84), .mv (.t 5), none, []⟩,
                ⟨(some 85), .iaddrS 2 (.t 83) (.t 84), none, []⟩,
                ⟨(some 86), .faddr 1 (.t 85), none, []⟩,
                ⟨(some 87), .load 1 false (.t 86), none, []⟩,
                ⟨(some 88), .mv (.t 7), none, []⟩,
                ⟨(some 89), .iaddrS 4 (.t 87) (.t 88), none, []⟩,
                ⟨(some 90), .load 4 true (.t 89), none, []⟩,
                ⟨(some 91), .call 30 [.t 90], none, [.t 80]⟩,
                ⟨(some 92), .buildSl 1 4 true [.int .i64 0, .int .i64 0, .str ⟨#[]⟩, .isl [] true] [(0, 4, .t 91)], none, []⟩,
                ⟨(some 93), .append 4 true 56 false (.t 81) (.t 92), none, []⟩,
                ⟨(some 94), .faddr 1 (.t 6), none, []⟩,
                ⟨none, .store 1 (.t 94) (.t 93), none, []⟩])) (
            .region [
              ⟨(some 78), .mv (.t 7), none, []⟩,
              ⟨(some 79), .bin .add (.t 78) (.c (.int .i64 1)), none, []⟩,
              ⟨(some 7), .mv (.t 79), none, []⟩])))))) (
        .region [
          ⟨(some 95), .faddr 1 (.t 3), none, []⟩,
          ⟨(some 96), .load 1 false (.t 95), none, []⟩,
          ⟨(some 97), .load 2 true (.t 6), none, []⟩,
          ⟨(some 98), .buildSl 1 2 true [.str ⟨#[]⟩, .isl [] true] [(0, 2, .t 97)], none, []⟩,
          ⟨(some 99), .append 2 true 40 false (.t 96) (.t 98), none, []⟩,
          ⟨(some 100), .faddr 1 (.t 3), none, []⟩,
          ⟨none, .store 1 (.t 100) (.t 99), none, []⟩])))) (
      .region [
        ⟨(some 53), .mv (.t 5), none, []⟩,
        ⟨(some 54), .bin .add (.t 53) (.c (.int .i64 1)), none, []⟩,
        ⟨(some 5), .mv (.t 54), none, []⟩])))))) (
  .seq (.seq (.region [
    ⟨(some 8), .mv (.c (.int .i64 0)), none, []⟩]) (
  .block 6 (
    .loop (
      .seq (.seq (.region [
        ⟨(some 101), .mv (.t 8), none, []⟩,
        ⟨(some 102), .faddr 2 (.t 1), none, []⟩,
        ⟨(some 103), .load 1 false (.t 102), none, []⟩,
        ⟨(some 104), .len false (.t 103), none, []⟩,
        ⟨(some 105), .bin .lss (.t 101) (.t 104), none, []⟩,
        ⟨(some 106), .mv (.t 105), none, []⟩,
        ⟨(some 107), .mv (.t 8), (some (106, true)), []⟩,
        ⟨(some 108), .bin .lss (.t 107) (.c (.int .i64 64)), (some (106, true)), []⟩,
        ⟨(some 109), .pick (.t 106) (.t 108) (.c (.bool false)), none, []⟩]) (
      .cond (.t 109) (
        .skip) (
        .exit 6))) (
      .seq (.block 7 (
        .seq (.region [
          ⟨(some 112), .faddr 2 (.t 1), none, []⟩,
          ⟨(some 113), .load 1 false (.t 112), none, []⟩,
          ⟨(some 114), .mv (.t 8), none, []⟩,
          ⟨(some 115), .iaddrS 6 (.t 113) (.t 114), none, []⟩,
          ⟨(some 116), .load 6 true (.t 115), none, []⟩,
          ⟨(some 9), .alloc [.str ⟨#[]⟩, .str ⟨#[]⟩, .isl [] true, .str ⟨#[]⟩, .int .i64 0, .isl [] true], none, []⟩,
          ⟨none, .store 6 (.t 9) (.t 116), none, []⟩]) (
        .seq (.region [
          ⟨(some 117), .faddr 0 (.t 9), none, []⟩,
          ⟨(some 118), .load 1 false (.t 117), none, []⟩,
          ⟨(some 120), .faddr 1 (.t 9), none, []⟩,
          ⟨(some 121), .load 1 false (.t 120), none, []⟩,
          ⟨(some 123), .faddr 2 (.t 9), none, []⟩,
          ⟨(some 124), .load 1 false (.t 123), none, []⟩,
          ⟨(some 10), .alloc [.str ⟨#[]⟩, .str ⟨#[]⟩, .isl [] true, .str ⟨#[]⟩, .int .i64 0, .isl [] true], none, []⟩,
          ⟨(some 119), .call 29 [.t 118], none, [.t 120, .t 123, .t 10]⟩,
          ⟨(some 122), .call 29 [.t 121], none, [.t 123, .t 10]⟩,
          ⟨(some 125), .call 31 [.t 124], none, [.t 10]⟩,
          ⟨(some 126), .build [.str ⟨#[]⟩, .str ⟨#[]⟩, .isl [] true, .str ⟨#[]⟩, .int .i64 0, .isl [] true] [(0, 1, .t 119), (1, 1, .t 122), (2, 1, .t 125)], none, []⟩,
          ⟨none, .store 6 (.t 10) (.t 126), none, []⟩]) (
        .seq (.seq (.region [
          ⟨(some 11), .mv (.c (.int .i64 0)), none, []⟩]) (
        .block 8 (
          .loop (
            .seq (.seq (.region [
              ⟨(some 127), .mv (.t 11), none, []⟩,
              ⟨(some 128), .faddr 5 (.t 9), none, []⟩,
              ⟨(some 129), .load 1 false (.t 128), none, []⟩,
              ⟨(some 130), .len false (.t 129), none, []⟩,
              ⟨(some 131), .bin .lss (.t 127) (.t 130), none, []⟩,
              ⟨(some 132), .mv (.t 131), none, []⟩,
              ⟨(some 133), .mv (.t 11), (some (132, true)), []⟩,
              ⟨(some 134), .bin .lss (.t 133) (.c (.int .i64 8)), (some (132, true)), []⟩,
              ⟨(some 135), .pick (.t 132) (.t 134) (.c (.bool false)), none, []⟩]) (
            .cond (.t 135) (
              .skip) (
              .exit 8))) (
            .seq (.block 9 (
              .region [
                ⟨(some 138), .faddr 5 (.t 10), none, []⟩,
                ⟨(some 139), .load 1 false (.t 138), none, []⟩,
                ⟨(some 140), .faddr 5 (.t 9), none, []⟩,
                ⟨(some 141), .load 1 false (.t 140), none, []⟩,
                ⟨(some 142), .mv (.t 11), none, []⟩,
                ⟨(some 143), .iaddrS 3 (.t 141) (.t 142), none, []⟩,
                ⟨(some 144), .load 3 true (.t 143), none, []⟩,
                ⟨(some 145), .call 15 [.t 144], none, [.t 138]⟩,
                ⟨(some 146), .buildSl 1 3 true [.int .i64 0, .str ⟨#[]⟩, .isl [] true] [(0, 3, .t 145)], none, []⟩,
                ⟨(some 147), .append 3 true 48 false (.t 139) (.t 146), none, []⟩,
                ⟨(some 148), .faddr 5 (.t 10), none, []⟩,
                ⟨none, .store 1 (.t 148) (.t 147), none, []⟩])) (
            .region [
              ⟨(some 136), .mv (.t 11), none, []⟩,
              ⟨(some 137), .bin .add (.t 136) (.c (.int .i64 1)), none, []⟩,
              ⟨(some 11), .mv (.t 137), none, []⟩])))))) (
        .seq (.seq (.region [
          ⟨(some 149), .faddr 5 (.t 10), none, []⟩,
          ⟨(some 150), .load 1 false (.t 149), none, []⟩,
          ⟨(some 151), .len false (.t 150), none, []⟩,
          ⟨(some 152), .bin .eql (.t 151) (.c (.int .i64 0)), none, []⟩]) (
        .cond (.t 152) (
          .region [
            ⟨(some 153), .faddr 5 (.t 10), none, []⟩,
            ⟨(some 154), .load 1 false (.t 153), none, []⟩,
            ⟨(some 155), .build [.int .i64 0, .str ⟨#[]⟩, .isl [] true] [], none, []⟩,
            ⟨(some 156), .call 15 [.t 155], none, [.t 153]⟩,
            ⟨(some 157), .buildSl 1 3 true [.int .i64 0, .str ⟨#[]⟩, .isl [] true] [(0, 3, .t 156)], none, []⟩,
            ⟨(some 158), .append 3 true 48 false (.t 154) (.t 157), none, []⟩,
            ⟨(some 159), .faddr 5 (.t 10), none, []⟩,
            ⟨none, .store 1 (.t 159) (.t 158), none, []⟩]) (
          .skip))) (
        .seq (.seq (.region [
          ⟨(some 160), .faddr 2 (.t 10), none, []⟩,
          ⟨(some 161), .load 1 false (.t 160), none, []⟩,
          ⟨(some 162), .len false (.t 161), none, []⟩,
          ⟨(some 163), .bin .gtr (.t 162) (.c (.int .i64 1)), none, []⟩,
          ⟨(some 164), .mv (.t 163), none, []⟩,
          ⟨(some 165), .faddr 4 (.t 9), (some (164, true)), []⟩,
          ⟨(some 166), .load 1 false (.t 165), (some (164, true)), []⟩,
          ⟨(some 167), .call 20 [.t 166, .c (.int .i64 2)], (some (164, true)), []⟩,
          ⟨(some 168), .bin .eql (.t 167) (.c (.int .i64 1)), (some (164, true)), []⟩,
          ⟨(some 169), .pick (.t 164) (.t 168) (.c (.bool false)), none, []⟩]) (
        .cond (.t 169) (
          .seq (.region [
            ⟨(some 170), .buildSl 3 1 false [.str ⟨#[]⟩, .str ⟨#[]⟩, .str ⟨#[]⟩] [(0, 1, .c (.str ⟨#[109, 105, 110]⟩)), (1, 1, .c (.str ⟨#[109, 97, 120]⟩)), (2, 1, .c (.str ⟨#[99, 111, 117, 110, 116]⟩))], none, []⟩,
            ⟨(some 171), .faddr 4 (.t 9), none, []⟩,
            ⟨(some 172), .load 1 false (.t 171), none, []⟩,
            ⟨(some 173), .call 20 [.t 172, .c (.int .i64 3)], none, []⟩,
            ⟨(some 174), .iaddrS 1 (.t 170) (.t 173), none, []⟩,
            ⟨(some 175), .load 1 false (.t 174), none, []⟩,
            ⟨(some 176), .faddr 3 (.t 10), none, []⟩,
            ⟨none, .store 1 (.t 176) (.t 175), none, []⟩]) (
          .seq (.region [
            ⟨(some 177), .faddr 4 (.t 9), none, []⟩,
            ⟨(some 178), .load 1 false (.t 177), none, []⟩,
            ⟨(some 179), .faddr 2 (.t 10), none, []⟩,
            ⟨(some 180), .load 1 false (.t 179), none, []⟩,
            ⟨(some 181), .len false (.t 180), none, []⟩,
            ⟨(some 182), .bin .sub (.t 181) (.c (.int .i64 1)), none, []⟩,
            ⟨(some 183), .call 20 [.t 178, .t 182], none, []⟩,
            ⟨(some 184), .bin .add (.c (.int .i64 1)) (.t 183), none, []⟩,
            ⟨(some 185), .faddr 4 (.t 10), none, []⟩,
            ⟨none, .store 1 (.t 185) (.t 184), none, []⟩]) (
          .region [
            ⟨(some 186), .faddr 2 (.t 10), none, []⟩,
            ⟨(some 187), .load 1 false (.t 186), none, []⟩,
            ⟨(some 188), .faddr 4 (.t 10), none, []⟩,
            ⟨(some 189), .load 1 false (.t 188), none, []⟩,
            ⟨(some 190), .faddr 3 (.t 9), none, []⟩,
            ⟨(some 191), .load 1 false (.t 190), none, []⟩,
            ⟨(some 192), .call 32 [.t 191], none, [.t 186, .t 188]⟩,
            ⟨(some 193), .build [.int .i64 0, .str ⟨#[]⟩, .int .i64 0, .int .i64 0, .str ⟨#[]⟩, .isl [] true, .isl [] true] [(0, 1, .c (.int .i64 1)), (1, 1, .t 192)], none, []⟩,
            ⟨(some 194), .iaddrS 7 (.t 187) (.t 189), none, []⟩,
            ⟨none, .store 7 (.t 194) (.t 193), none, []⟩]))) (
          .skip))) (
        .region [
          ⟨(some 195), .faddr 2 (.t 3), none, []⟩,
          ⟨(some 196), .load 1 false (.t 195), none, []⟩,
          ⟨(some 197), .load 6 true (.t 10), none, []⟩,
          ⟨(some 198), .buildSl 1 6 true [.str ⟨#[]⟩, .str ⟨#[]⟩, .isl [] true, .str ⟨#[]⟩, .int .i64 0, .isl [] true] [(0, 6, .t 197)], none, []⟩,
          ⟨(some 199), .append 6 true 104 false (.t 196) (.t 198), none, []⟩,
          ⟨(some 200), .faddr 2 (.t 3), none, []⟩,
          ⟨none, .store 1 (.t 200) (.t 199), none, []⟩]))))))) (
      .region [
        ⟨(some 110), .mv (.t 8), none, []⟩,
        ⟨(some 111), .bin .add (.t 110) (.c (.int .i64 1)), none, []⟩,
        ⟨(some 8), .mv (.t 111), none, []⟩])))))) (
  .seq (.region [
    ⟨(some 201), .load 3 true (.t 3), none, []⟩,
    ⟨none, .store 3 (.t 2) (.t 201), none, []⟩]) (
  .ret)))))),
  .pure, true, true⟩
theorem k10 : compF Tryz.prog { mt := false, mtAt := [], mode := .pure, clArgs := true, clRes := true } Tryz.f10 = some c10 := by kernel_rfl
/- beaconry/printer.Right -/
def c11 : AFunc := ⟨29, [.tmp 2],
  .seq (.region [
    ⟨(some 1), .box (.t 0), none, []⟩,
    ⟨(some 2), .mv (.c (.bool false)), none, []⟩]) (
  .seq (.region [
    ⟨(some 3), .faddr 0 (.t 1), none, []⟩,
    ⟨(some 4), .load 1 false (.t 3), none, []⟩,
    ⟨(some 5), .len false (.t 4), none, []⟩,
    ⟨(some 6), .faddr 1 (.t 1), none, []⟩,
    ⟨(some 7), .load 1 false (.t 6), none, []⟩,
    ⟨(some 8), .len false (.t 7), none, []⟩,
    ⟨(some 9), .faddr 2 (.t 1), none, []⟩,
    ⟨(some 10), .load 1 false (.t 9), none, []⟩,
    ⟨(some 11), .len false (.t 10), none, []⟩,
    ⟨(some 12), .max [.t 5, .t 8, .t 11], none, []⟩,
    ⟨(some 13), .bin .leq (.t 12) (.c (.int .i64 64)), none, []⟩,
    ⟨(some 14), .mv (.t 13), none, []⟩,
    ⟨(some 15), .faddr 1 (.t 1), (some (14, true)), []⟩,
    ⟨(some 16), .load 1 false (.t 15), (some (14, true)), []⟩,
    ⟨(some 17), .call 33 [.t 16, .f 34], (some (14, true)), []⟩,
    ⟨(some 18), .pick (.t 14) (.t 17) (.c (.bool false)), none, []⟩,
    ⟨(some 19), .mv (.t 18), none, []⟩,
    ⟨(some 20), .faddr 2 (.t 1), (some (19, true)), []⟩,
    ⟨(some 21), .load 1 false (.t 20), (some (19, true)), []⟩,
    ⟨(some 22), .call 35 [.t 21, .f 36], (some (19, true)), []⟩,
    ⟨(some 23), .pick (.t 19) (.t 22) (.c (.bool false)), none, []⟩,
    ⟨(some 24), .mv (.t 23), none, []⟩,
    ⟨(some 25), .faddr 0 (.t 1), (some (24, true)), []⟩,
    ⟨(some 26), .load 1 false (.t 25), (some (24, true)), []⟩,
    ⟨(some 27), .call 37 [.t 26, .f 38], (some (24, true)), []⟩,
    ⟨(some 28), .pick (.t 24) (.t 27) (.c (.bool false)), none, []⟩,
    ⟨(some 2), .mv (.t 28), none, []⟩]) (
  .ret)),
  .pure, true, true⟩
theorem k11 : compF Tryz.prog { mt := false, mtAt := [], mode := .pure, clArgs := true, clRes := true } Tryz.f11 = some c11 := by kernel_rfl
/- beaconry/printer.Print -/
def c12 : AFunc := ⟨7, [.tmp 2],
  .seq (.region [
    ⟨(some 1), .box (.t 0), none, []⟩,
    ⟨(some 2), .mv (.c (.str ⟨#[]⟩)), none, []⟩]) (
  .seq (.region [
    ⟨(some 3), .load 3 true (.t 1), none, []⟩,
    ⟨(some 5), .load 3 true (.t 1), none, []⟩,
    ⟨(some 4), .call 11 [.t 3], none, [.t 1]⟩,
    ⟨(some 6), .call 40 [.t 4, .t 5, .f 41], none, []⟩,
    ⟨(some 2), .mv (.t 6), none, []⟩]) (
  .ret)),
  .pure, true, true⟩
theorem k12 : compF Tryz.prog { mt := false, mtAt := [], mode := .pure, clArgs := true, clRes := true } Tryz.f12 = some c12 := by kernel_rfl
/- beaconry/beaconrylaw04.Same -/
def c13 : AFunc := ⟨89, [.tmp 4],
  .seq (.region [
    ⟨(some 2), .box (.t 0), none, []⟩,
    ⟨(some 3), .box (.t 1), none, []⟩,
    ⟨(some 4), .mv (.c (.bool false)), none, []⟩]) (
  .seq (.seq (.region [
    ⟨(some 8), .faddr 0 (.t 2), none, []⟩,
    ⟨(some 9), .load 1 false (.t 8), none, []⟩,
    ⟨(some 10), .len false (.t 9), none, []⟩,
    ⟨(some 11), .faddr 0 (.t 3), none, []⟩,
    ⟨(some 12), .load 1 false (.t 11), none, []⟩,
    ⟨(some 13), .len false (.t 12), none, []⟩,
    ⟨(some 14), .bin .neq (.t 10) (.t 13), none, []⟩,
    ⟨(some 15), .mv (.t 14), none, []⟩,
    ⟨(some 16), .faddr 1 (.t 2), (some (15, false)), []⟩,
    ⟨(some 17), .load 1 false (.t 16), (some (15, false)), []⟩,
    ⟨(some 18), .len false (.t 17), (some (15, false)), []⟩,
    ⟨(some 19), .faddr 1 (.t 3), (some (15, false)), []⟩,
    ⟨(some 20), .load 1 false (.t 19), (some (15, false)), []⟩,
    ⟨(some 21), .len false (.t 20), (some (15, false)), []⟩,
    ⟨(some 22), .bin .neq (.t 18) (.t 21), (some (15, false)), []⟩,
    ⟨(some 23), .pick (.t 15) (.c (.bool true)) (.t 22), none, []⟩,
    ⟨(some 24), .mv (.t 23), none, []⟩,
    ⟨(some 25), .faddr 2 (.t 2), (some (24, false)), []⟩,
    ⟨(some 26), .load 1 false (.t 25), (some (24, false)), []⟩,
    ⟨(some 27), .len false (.t 26), (some (24, false)), []⟩,
    ⟨(some 28), .faddr 2 (.t 3), (some (24, false)), []⟩,
    ⟨(some 29), .load 1 false (.t 28), (some (24, false)), []⟩,
    ⟨(some 30), .len false (.t 29), (some (24, false)), []⟩,
    ⟨(some 31), .bin .neq (.t 27) (.t 30), (some (24, false)), []⟩,
    ⟨(some 32), .pick (.t 24) (.c (.bool true)) (.t 31), none, []⟩]) (
  .cond (.t 32) (
    .seq (.region [
      ⟨(some 4), .mv (.c (.bool false)), none, []⟩]) (
    .ret)) (
    .skip))) (
  .seq (.seq (.region [
    ⟨(some 5), .mv (.c (.int .i64 0)), none, []⟩]) (
  .block 0 (
    .loop (
      .seq (.seq (.region [
        ⟨(some 33), .mv (.t 5), none, []⟩,
        ⟨(some 34), .faddr 0 (.t 2), none, []⟩,
        ⟨(some 35), .load 1 false (.t 34), none, []⟩,
        ⟨(some 36), .len false (.t 35), none, []⟩,
        ⟨(some 37), .bin .lss (.t 33) (.t 36), none, []⟩]) (
      .cond (.t 37) (
        .skip) (
        .exit 0))) (
      .seq (.block 1 (
        .seq (.cond (.c (.nilptr)) (
          .skip) (
          .skip)) (
        .cond (.t 50) (
          .seq (.region [
            ⟨(some 4), .mv (.c (.bool false)), none, []⟩]) (
          .ret)) (
          .skip)))) (
      .region [
        ⟨(some 38), .mv (.t 5), none, []⟩,
        ⟨(some 39), .bin .add (.t 38) (.c (.int .i64 1)), none, []⟩,
        ⟨(some 5), .mv (.t 39), none, []⟩])))))) (
  .seq (.seq (.region [
    ⟨(some 6), .mv (.c (.int .i64 0)), none, []⟩]) (
  .block 2 (
    .loop (
      .seq (.seq (.region [
        ⟨(some 51), .mv (.t 6), none, []⟩,
        ⟨(some 52), .faddr 1 (.t 2), none, []⟩,
        ⟨(some 53), .load 1 false (.t 52), none, []⟩,
        ⟨(some 54), .len false (.t 53), none, []⟩,
        ⟨(some 55), .bin .lss (.t 51) (.t 54), none, []⟩]) (
      .cond (.t 55) (
        .skip) (
        .exit 2))) (
      .seq (.block 3 (
        .seq (.region [
          ⟨(some 58), .faddr 1 (.t 2), none, []⟩,
          ⟨(some 59), .load 1 false (.t 58), none, []⟩,
          ⟨(some 60), .mv (.t 6), none, []⟩,
          ⟨(some 61), .iaddrS 2 (.t 59) (.t 60), none, []⟩,
          ⟨(some 62), .load 2 true (.t 61), none, []⟩,
          ⟨(some 63), .faddr 1 (.t 3), none, []⟩,
          ⟨(some 64), .load 1 false (.t 63), none, []⟩,
          ⟨(some 65), .mv (.t 6), none, []⟩,
          ⟨(some 66), .iaddrS 2 (.t 64) (.t 65), none, []⟩,
          ⟨(some 67), .load 2 true (.t 66), none, []⟩,
          ⟨(some 68), .call 47 [.t 62, .t 67], none, []⟩,
          ⟨(some 69), .un .not (.t 68), none, []⟩]) (
        .cond (.t 69) (
          .seq (.region [
            ⟨(some 4), .mv (.c (.bool false)), none, []⟩]) (
          .ret)) (
          .skip)))) (
      .region [
        ⟨(some 56), .mv (.t 6), none, []⟩,
        ⟨(some 57), .bin .add (.t 56) (.c (.int .i64 1)), none, []⟩,
        ⟨(some 6), .mv (.t 57), none, []⟩])))))) (
  .seq (.seq (.region [
    ⟨(some 7), .mv (.c (.int .i64 0)), none, []⟩]) (
  .block 4 (
    .loop (
      .seq (.seq (.region [
        ⟨(some 70), .mv (.t 7), none, []⟩,
        ⟨(some 71), .faddr 2 (.t 2), none, []⟩,
        ⟨(some 72), .load 1 false (.t 71), none, []⟩,
        ⟨(some 73), .len false (.t 72), none, []⟩,
        ⟨(some 74), .bin .lss (.t 70) (.t 73), none, []⟩]) (
      .cond (.t 74) (
        .skip) (
        .exit 4))) (
      .seq (.block 5 (
        .seq (.region [
          ⟨(some 77), .faddr 2 (.t 2), none, []⟩,
          ⟨(some 78), .load 1 false (.t 77), none, []⟩,
          ⟨(some 79), .mv (.t 7), none, []⟩,
          ⟨(some 80), .iaddrS 6 (.t 78) (.t 79), none, []⟩,
          ⟨(some 81), .load 6 true (.t 80), none, []⟩,
          ⟨(some 82), .faddr 2 (.t 3), none, []⟩,
          ⟨(some 83), .load 1 false (.t 82), none, []⟩,
          ⟨(some 84), .mv (.t 7), none, []⟩,
          ⟨(some 85), .iaddrS 6 (.t 83) (.t 84), none, []⟩,
          ⟨(some 86), .load 6 true (.t 85), none, []⟩,
          ⟨(some 87), .call 48 [.t 81, .t 86], none, []⟩,
          ⟨(some 88), .un .not (.t 87), none, []⟩]) (
        .cond (.t 88) (
          .seq (.region [
            ⟨(some 4), .mv (.c (.bool false)), none, []⟩]) (
          .ret)) (
          .skip)))) (
      .region [
        ⟨(some 75), .mv (.t 7), none, []⟩,
        ⟨(some 76), .bin .add (.t 75) (.c (.int .i64 1)), none, []⟩,
        ⟨(some 7), .mv (.t 76), none, []⟩])))))) (
  .seq (.region [
    ⟨(some 4), .mv (.c (.bool true)), none, []⟩]) (
  .ret)))))),
  .pure, true, true⟩
theorem k13 : compF Tryz.prog { mt := false, mtAt := [], mode := .pure, clArgs := true, clRes := true } Tryz.f13 = some c13 := by kernel_rfl
/- beaconry/beaconrylaw04.Term -/
def c14 : AFunc := ⟨103, [.cell 4 7 true],
  .seq (.region [
    ⟨(some 2), .box (.t 0), none, []⟩,
    ⟨(some 4), .alloc [.int .i64 0, .str ⟨#[]⟩, .int .i64 0, .int .i64 0, .str ⟨#[]⟩, .isl [] true, .isl [] true], none, []⟩]) (
  .seq (.region [
    ⟨(some 11), .faddr 0 (.t 2), none, []⟩,
    ⟨(some 12), .load 1 false (.t 11), none, []⟩,
    ⟨(some 13), .call 20 [.t 12, .c (.int .i64 4)], none, []⟩,
    ⟨(some 5), .mv (.t 13), none, []⟩]) (
  .seq (.seq (.region [
    ⟨(some 14), .mv (.t 1), none, []⟩,
    ⟨(some 15), .bin .leq (.t 14) (.c (.int .i64 1)), none, []⟩,
    ⟨(some 16), .mv (.t 15), none, []⟩,
    ⟨(some 17), .faddr 6 (.t 2), (some (16, false)), []⟩,
    ⟨(some 18), .load 1 false (.t 17), (some (16, false)), []⟩,
    ⟨(some 19), .len false (.t 18), (some (16, false)), []⟩,
    ⟨(some 20), .bin .lss (.t 19) (.c (.int .i64 2)), (some (16, false)), []⟩,
    ⟨(some 21), .pick (.t 16) (.c (.bool true)) (.t 20), none, []⟩]) (
  .cond (.t 21) (
    .region [
      ⟨(some 22), .mv (.t 5), none, []⟩,
      ⟨(some 23), .bin .rem (.t 22) (.c (.int .i64 2)), none, []⟩,
      ⟨(some 5), .mv (.t 23), none, []⟩]) (
    .skip))) (
  .seq (.seq (.region [
    ⟨(some 24), .mv (.t 5), none, []⟩]) (
  .block 0 (
    .seq (.region [
      ⟨(some 26), .bin .eql (.t 24) (.c (.int .i64 0)), none, []⟩,
      ⟨(some 25), .mv (.t 26), none, []⟩]) (
    .cond (.t 25) (
      .seq (.region [
        ⟨(some 27), .faddr 1 (.t 2), none, []⟩,
        ⟨(some 28), .load 1 false (.t 27), none, []⟩,
        ⟨(some 29), .call 32 [.t 28], none, []⟩,
        ⟨(some 30), .build [.int .i64 0, .str ⟨#[]⟩, .int .i64 0, .int .i64 0, .str ⟨#[]⟩, .isl [] true, .isl [] true] [(0, 1, .c (.int .i64 1)), (1, 1, .t 29)], none, []⟩,
        ⟨none, .store 7 (.t 4) (.t 30), none, []⟩]) (
      .ret)) (
      .seq (.region [
        ⟨(some 32), .bin .eql (.t 24) (.c (.int .i64 1)), none, []⟩,
        ⟨(some 31), .mv (.t 32), none, []⟩]) (
      .cond (.t 31) (
        .seq (.region [
          ⟨(some 33), .faddr 2 (.t 2), none, []⟩,
          ⟨(some 34), .load 4 true (.t 33), none, []⟩,
          ⟨(some 35), .call 30 [.t 34], none, []⟩,
          ⟨(some 6), .alloc [.int .i64 0, .int .i64 0, .str ⟨#[]⟩, .isl [] true], none, []⟩,
          ⟨none, .store 4 (.t 6) (.t 35), none, []⟩]) (
        .seq (.seq (.region [
          ⟨(some 36), .faddr 0 (.t 6), none, []⟩,
          ⟨(some 37), .load 1 false (.t 36), none, []⟩,
          ⟨(some 38), .bin .eql (.t 37) (.c (.int .i64 3)), none, []⟩]) (
        .cond (.t 38) (
          .region [
            ⟨(some 39), .faddr 2 (.t 6), none, []⟩,
            ⟨(some 40), .load 1 false (.t 39), none, []⟩,
            ⟨(some 41), .call 29 [.t 40], none, []⟩,
            ⟨(some 42), .faddr 2 (.t 6), none, []⟩,
            ⟨none, .store 1 (.t 42) (.t 41), none, []⟩]) (
          .skip))) (
        .seq (.region [
          ⟨(some 43), .load 4 true (.t 6), none, []⟩,
          ⟨(some 44), .build [.int .i64 0, .str ⟨#[]⟩, .int .i64 0, .int .i64 0, .str ⟨#[]⟩, .isl [] true, .isl [] true] [(0, 1, .c (.int .i64 2)), (2, 4, .t 43)], none, []⟩,
          ⟨none, .store 7 (.t 4) (.t 44), none, []⟩]) (
        .ret)))) (
        .seq (.region [
          ⟨(some 46), .bin .eql (.t 24) (.c (.int .i64 2)), none, []⟩,
          ⟨(some 45), .mv (.t 46), none, []⟩]) (
        .cond (.t 45) (
          .seq (.region [
            ⟨(some 47), .buildSl 6 1 false [.str ⟨#[]⟩, .str ⟨#[]⟩, .str ⟨#[]⟩, .str ⟨#[]⟩, .str ⟨#[]⟩, .str ⟨#[]⟩] [(0, 1, .c (.str ⟨#[102, 95, 99, 111, 110, 115]⟩)), (1, 1, .c (.str ⟨#[102, 95, 115, 105, 122, 101]⟩)), (2, 1, .c (.str ⟨#[102, 95, 109, 101, 109, 98, 101, 114]⟩)), (3, 1, .c (.str ⟨#[102, 95, 102, 105, 114, 115, 116]⟩)), (4, 1, .c (.str ⟨#[102, 95, 114, 101, 118, 101, 114, 115, 101]⟩)), (5, 1, .c (.str ⟨#[102, 95, 99, 111, 110, 99, 97, 116]⟩))], none, []⟩,
            ⟨(some 48), .faddr 1 (.t 2), none, []⟩,
            ⟨(some 49), .load 1 false (.t 48), none, []⟩,
            ⟨(some 50), .len true (.t 49), none, []⟩,
            ⟨(some 51), .faddr 0 (.t 2), none, []⟩,
            ⟨(some 52), .load 1 false (.t 51), none, []⟩,
            ⟨(some 53), .bin .add (.t 50) (.t 52), none, []⟩,
            ⟨(some 54), .call 20 [.t 53, .c (.int .i64 6)], none, []⟩,
            ⟨(some 55), .iaddrS 1 (.t 47) (.t 54), none, []⟩,
            ⟨(some 56), .load 1 false (.t 55), none, []⟩,
            ⟨(some 7), .mv (.t 56), none, []⟩]) (
          .seq (.region [
            ⟨(some 57), .mv (.t 7), none, []⟩,
            ⟨(some 58), .build [.int .i64 0, .str ⟨#[]⟩, .int .i64 0, .int .i64 0, .str ⟨#[]⟩, .isl [] true, .isl [] true] [(0, 1, .c (.int .i64 3)), (1, 1, .t 57)], none, []⟩,
            ⟨(some 8), .alloc [.int .i64 0, .str ⟨#[]⟩, .int .i64 0, .int .i64 0, .str ⟨#[]⟩, .isl [] true, .isl [] true], none, []⟩,
            ⟨none, .store 7 (.t 8) (.t 58), none, []⟩]) (
          .seq (.seq (.region [
            ⟨(some 9), .mv (.c (.int .i64 0)), none, []⟩]) (
          .block 1 (
            .loop (
              .seq (.seq (.region [
                ⟨(some 59), .mv (.t 9), none, []⟩,
                ⟨(some 60), .mv (.t 7), none, []⟩,
                ⟨(some 61), .call 49 [.t 60], none, []⟩,
                ⟨(some 62), .bin .lss (.t 59) (.t 61), none, []⟩]) (
              .cond (.t 62) (
                .skip) (
                .exit 1))) (
              .seq (.block 2 (
                .region [
                  ⟨(some 65), .faddr 6 (.t 8), none, []⟩,
                  ⟨(some 66), .load 1 false (.t 65), none, []⟩,
                  ⟨(some 67), .faddr 6 (.t 2), none, []⟩,
                  ⟨(some 68), .load 1 false (.t 67), none, []⟩,
                  ⟨(some 69), .mv (.t 9), none, []⟩,
                  ⟨(some 70), .iaddrS 7 (.t 68) (.t 69), none, []⟩,
                  ⟨(some 71), .load 7 true (.t 70), none, []⟩,
                  ⟨(some 72), .mv (.t 1), none, []⟩,
                  ⟨(some 73), .bin .sub (.t 72) (.c (.int .i64 1)), none, []⟩,
                  ⟨(some 74), .call 14 [.t 71, .t 73], none, [.t 65]⟩,
                  ⟨(some 75), .buildSl 1 7 true [.int .i64 0, .str ⟨#[]⟩, .int .i64 0, .int .i64 0, .str ⟨#[]⟩, .isl [] true, .isl [] true] [(0, 7, .t 74)], none, []⟩,
                  ⟨(some 76), .append 7 true 104 false (.t 66) (.t 75), none, []⟩,
                  ⟨(some 77), .faddr 6 (.t 8), none, []⟩,
                  ⟨none, .store 1 (.t 77) (.t 76), none, []⟩])) (
              .region [
                ⟨(some 63), .mv (.t 9), none, []⟩,
                ⟨(some 64), .bin .add (.t 63) (.c (.int .i64 1)), none, []⟩,
                ⟨(some 9), .mv (.t 64), none, []⟩])))))) (
          .seq (.region [
            ⟨(some 78), .load 7 true (.t 8), none, []⟩,
            ⟨none, .store 7 (.t 4) (.t 78), none, []⟩]) (
          .ret))))) (
          .skip))))))))) (
  .seq (.region [
    ⟨(some 79), .buildSl 3 1 false [.str ⟨#[]⟩, .str ⟨#[]⟩, .str ⟨#[]⟩] [(0, 1, .c (.str ⟨#[43]⟩)), (1, 1, .c (.str ⟨#[45]⟩)), (2, 1, .c (.str ⟨#[42]⟩))], none, []⟩,
    ⟨(some 80), .faddr 1 (.t 2), none, []⟩,
    ⟨(some 81), .load 1 false (.t 80), none, []⟩,
    ⟨(some 82), .len true (.t 81), none, []⟩,
    ⟨(some 83), .call 20 [.t 82, .c (.int .i64 3)], none, []⟩,
    ⟨(some 84), .iaddrS 1 (.t 79) (.t 83), none, []⟩,
    ⟨(some 85), .load 1 false (.t 84), none, []⟩,
    ⟨(some 10), .mv (.t 85), none, []⟩]) (
  .seq (.region [
    ⟨(some 86), .mv (.t 10), none, []⟩,
    ⟨(some 87), .faddr 6 (.t 2), none, []⟩,
    ⟨(some 88), .load 1 false (.t 87), none, []⟩,
    ⟨(some 89), .iaddrS 7 (.t 88) (.c (.int .i64 0)), none, []⟩,
    ⟨(some 90), .load 7 true (.t 89), none, []⟩,
    ⟨(some 91), .mv (.t 1), none, []⟩,
    ⟨(some 92), .bin .sub (.t 91) (.c (.int .i64 1)), none, []⟩,
    ⟨(some 94), .faddr 6 (.t 2), none, []⟩,
    ⟨(some 95), .load 1 false (.t 94), none, []⟩,
    ⟨(some 96), .iaddrS 7 (.t 95) (.c (.int .i64 1)), none, []⟩,
    ⟨(some 97), .load 7 true (.t 96), none, []⟩,
    ⟨(some 98), .mv (.t 1), none, []⟩,
    ⟨(some 99), .bin .sub (.t 98) (.c (.int .i64 1)), none, []⟩,
    ⟨(some 93), .call 14 [.t 90, .t 92], none, [.t 94, .t 96]⟩,
    ⟨(some 100), .call 14 [.t 97, .t 99], none, []⟩,
    ⟨(some 101), .buildSl 2 7 true [.int .i64 0, .str ⟨#[]⟩, .int .i64 0, .int .i64 0, .str ⟨#[]⟩, .isl [] true, .isl [] true, .int .i64 0, .str ⟨#[]⟩, .int .i64 0, .int .i64 0, .str ⟨#[]⟩, .isl [] true, .isl [] true] [(0, 7, .t 93), (7, 7, .t 100)], none, []⟩,
    ⟨(some 102), .build [.int .i64 0, .str ⟨#[]⟩, .int .i64 0, .int .i64 0, .str ⟨#[]⟩, .isl [] true, .isl [] true] [(0, 1, .c (.int .i64 4)), (1, 1, .t 86), (6, 1, .t 101)], none, []⟩,
    ⟨none, .store 7 (.t 4) (.t 102), none, []⟩]) (
  .ret)))))),
  .pure, true, true⟩
theorem k14 : compF Tryz.prog { mt := false, mtAt := [], mode := .pure, clArgs := true, clRes := true } Tryz.f14 = some c14 := by kernel_rfl
/- beaconry/beaconrylaw04.Literal -/
def c15 : AFunc := ⟨51, [.cell 2 3 true],
  .seq (.region [
    ⟨(some 1), .box (.t 0), none, []⟩,
    ⟨(some 2), .alloc [.int .i64 0, .str ⟨#[]⟩, .isl [] true], none, []⟩]) (
  .seq (.seq (.region [
    ⟨(some 4), .faddr 0 (.t 1), none, []⟩,
    ⟨(some 5), .load 1 false (.t 4), none, []⟩,
    ⟨(some 6), .call 20 [.t 5, .c (.int .i64 4)], none, []⟩]) (
  .block 0 (
    .seq (.region [
      ⟨(some 8), .bin .eql (.t 6) (.c (.int .i64 0)), none, []⟩,
      ⟨(some 7), .mv (.t 8), none, []⟩]) (
    .cond (.t 7) (
      .seq (.region [
        ⟨(some 9), .faddr 1 (.t 1), none, []⟩,
        ⟨(some 10), .load 1 false (.t 9), none, []⟩,
        ⟨(some 12), .faddr 2 (.t 1), none, []⟩,
        ⟨(some 13), .load 1 false (.t 12), none, []⟩,
        ⟨(some 11), .call 29 [.t 10], none, [.t 12]⟩,
        ⟨(some 14), .call 31 [.t 13], none, []⟩,
        ⟨(some 15), .build [.int .i64 0, .str ⟨#[]⟩, .isl [] true] [(0, 1, .c (.int .i64 1)), (1, 1, .t 11), (2, 1, .t 14)], none, []⟩,
        ⟨none, .store 3 (.t 2) (.t 15), none, []⟩]) (
      .ret)) (
      .seq (.region [
        ⟨(some 17), .bin .eql (.t 6) (.c (.int .i64 1)), none, []⟩,
        ⟨(some 16), .mv (.t 17), none, []⟩]) (
      .cond (.t 16) (
        .seq (.region [
          ⟨(some 18), .faddr 1 (.t 1), none, []⟩,
          ⟨(some 19), .load 1 false (.t 18), none, []⟩,
          ⟨(some 21), .faddr 2 (.t 1), none, []⟩,
          ⟨(some 22), .load 1 false (.t 21), none, []⟩,
          ⟨(some 20), .call 29 [.t 19], none, [.t 21]⟩,
          ⟨(some 23), .call 31 [.t 22], none, []⟩,
          ⟨(some 24), .build [.int .i64 0, .str ⟨#[]⟩, .isl [] true] [(0, 1, .c (.int .i64 2)), (1, 1, .t 20), (2, 1, .t 23)], none, []⟩,
          ⟨none, .store 3 (.t 2) (.t 24), none, []⟩]) (
        .ret)) (
        .seq (.region [
          ⟨(some 26), .bin .eql (.t 6) (.c (.int .i64 2)), none, []⟩,
          ⟨(some 25), .mv (.t 26), none, []⟩]) (
        .cond (.t 25) (
          .seq (.region [
            ⟨(some 27), .buildSl 6 1 false [.str ⟨#[]⟩, .str ⟨#[]⟩, .str ⟨#[]⟩, .str ⟨#[]⟩, .str ⟨#[]⟩, .str ⟨#[]⟩] [(0, 1, .c (.str ⟨#[61, 61]⟩)), (1, 1, .c (.str ⟨#[33, 61]⟩)), (2, 1, .c (.str ⟨#[60]⟩)), (3, 1, .c (.str ⟨#[60, 61]⟩)), (4, 1, .c (.str ⟨#[62]⟩)), (5, 1, .c (.str ⟨#[62, 61]⟩))], none, []⟩,
            ⟨(some 28), .faddr 1 (.t 1), none, []⟩,
            ⟨(some 29), .load 1 false (.t 28), none, []⟩,
            ⟨(some 30), .len true (.t 29), none, []⟩,
            ⟨(some 31), .call 20 [.t 30, .c (.int .i64 6)], none, []⟩,
            ⟨(some 32), .iaddrS 1 (.t 27) (.t 31), none, []⟩,
            ⟨(some 33), .load 1 false (.t 32), none, []⟩,
            ⟨(some 3), .mv (.t 33), none, []⟩]) (
          .seq (.region [
            ⟨(some 34), .mv (.t 3), none, []⟩,
            ⟨(some 35), .faddr 2 (.t 1), none, []⟩,
            ⟨(some 36), .load 1 false (.t 35), none, []⟩,
            ⟨(some 38), .faddr 2 (.t 1), none, []⟩,
            ⟨(some 39), .load 1 false (.t 38), none, []⟩,
            ⟨(some 37), .call 50 [.t 36, .c (.int .i64 0)], none, [.t 38]⟩,
            ⟨(some 40), .call 50 [.t 39, .c (.int .i64 1)], none, []⟩,
            ⟨(some 41), .buildSl 2 7 true [.int .i64 0, .str ⟨#[]⟩, .int .i64 0, .int .i64 0, .str ⟨#[]⟩, .isl [] true, .isl [] true, .int .i64 0, .str ⟨#[]⟩, .int .i64 0, .int .i64 0, .str ⟨#[]⟩, .isl [] true, .isl [] true] [(0, 7, .t 37), (7, 7, .t 40)], none, []⟩,
            ⟨(some 42), .build [.int .i64 0, .str ⟨#[]⟩, .isl [] true] [(0, 1, .c (.int .i64 3)), (1, 1, .t 34), (2, 1, .t 41)], none, []⟩,
            ⟨none, .store 3 (.t 2) (.t 42), none, []⟩]) (
          .ret))) (
          .skip))))))))) (
  .seq (.region [
    ⟨(some 43), .faddr 1 (.t 1), none, []⟩,
    ⟨(some 44), .load 1 false (.t 43), none, []⟩,
    ⟨(some 46), .faddr 2 (.t 1), none, []⟩,
    ⟨(some 47), .load 1 false (.t 46), none, []⟩,
    ⟨(some 45), .call 32 [.t 44], none, [.t 46]⟩,
    ⟨(some 48), .call 50 [.t 47, .c (.int .i64 0)], none, []⟩,
    ⟨(some 49), .buildSl 1 7 true [.int .i64 0, .str ⟨#[]⟩, .int .i64 0, .int .i64 0, .str ⟨#[]⟩, .isl [] true, .isl [] true] [(0, 7, .t 48)], none, []⟩,
    ⟨(some 50), .build [.int .i64 0, .str ⟨#[]⟩, .isl [] true] [(0, 1, .c (.int .i64 4)), (1, 1, .t 45), (2, 1, .t 49)], none, []⟩,
    ⟨none, .store 3 (.t 2) (.t 50), none, []⟩]) (
  .ret))),
  .pure, true, true⟩
theorem k15 : compF Tryz.prog { mt := false, mtAt := [], mode := .pure, clArgs := true, clRes := true } Tryz.f15 = some c15 := by kernel_rfl
/- beaconry/printer.Term -/
def c16 : AFunc := ⟨7, [.tmp 2],
  .seq (.region [
    ⟨(some 1), .box (.t 0), none, []⟩,
    ⟨(some 2), .mv (.c (.str ⟨#[]⟩)), none, []⟩]) (
  .seq (.region [
    ⟨(some 3), .load 7 true (.t 1), none, []⟩,
    ⟨(some 5), .load 7 true (.t 1), none, []⟩,
    ⟨(some 4), .call 52 [.t 3], none, [.t 1]⟩,
    ⟨(some 6), .call 51 [.t 4, .t 5, .f 53], none, []⟩,
    ⟨(some 2), .mv (.t 6), none, []⟩]) (
  .ret)),
  .pure, true, true⟩
theorem k16 : compF Tryz.prog { mt := false, mtAt := [], mode := .pure, clArgs := true, clRes := true } Tryz.f16 = some c16 := by kernel_rfl
/- beaconry/beaconrylaw04.SameTerms -/
def c17 : AFunc := ⟨73, [.tmp 4],
  .seq (.region [
    ⟨(some 4), .mv (.c (.bool false)), none, []⟩]) (
  .seq (.seq (.region [
    ⟨(some 8), .mv (.t 0), none, []⟩,
    ⟨(some 9), .len false (.t 8), none, []⟩,
    ⟨(some 10), .mv (.t 1), none, []⟩,
    ⟨(some 11), .len false (.t 10), none, []⟩,
    ⟨(some 12), .bin .neq (.t 9) (.t 11), none, []⟩]) (
  .cond (.t 12) (
    .seq (.region [
      ⟨(some 4), .mv (.c (.bool false)), none, []⟩]) (
    .ret)) (
    .skip))) (
  .seq (.seq (.region [
    ⟨(some 5), .mv (.c (.int .i64 0)), none, []⟩]) (
  .block 0 (
    .loop (
      .seq (.seq (.region [
        ⟨(some 13), .mv (.t 5), none, []⟩,
        ⟨(some 14), .mv (.t 0), none, []⟩,
        ⟨(some 15), .len false (.t 14), none, []⟩,
        ⟨(some 16), .bin .lss (.t 13) (.t 15), none, []⟩]) (
      .cond (.t 16) (
        .skip) (
        .exit 0))) (
      .seq (.block 1 (
        .seq (.region [
          ⟨(some 19), .mv (.t 0), none, []⟩,
          ⟨(some 20), .mv (.t 5), none, []⟩,
          ⟨(some 21), .iaddrS 7 (.t 19) (.t 20), none, []⟩,
          ⟨(some 22), .faddr 0 (.t 21), none, []⟩,
          ⟨(some 23), .load 1 false (.t 22), none, []⟩,
          ⟨(some 24), .mv (.t 1), none, []⟩,
          ⟨(some 25), .mv (.t 5), none, []⟩,
          ⟨(some 26), .iaddrS 7 (.t 24) (.t 25), none, []⟩,
          ⟨(some 27), .faddr 0 (.t 26), none, []⟩,
          ⟨(some 28), .load 1 false (.t 27), none, []⟩,
          ⟨(some 29), .bin .eql (.t 23) (.t 28), none, []⟩,
          ⟨(some 30), .mv (.t 29), none, []⟩,
          ⟨(some 31), .mv (.t 0), (some (30, true)), []⟩,
          ⟨(some 32), .mv (.t 5), (some (30, true)), []⟩,
          ⟨(some 33), .iaddrS 7 (.t 31) (.t 32), (some (30, true)), []⟩,
          ⟨(some 34), .faddr 1 (.t 33), (some (30, true)), []⟩,
          ⟨(some 35), .load 1 false (.t 34), (some (30, true)), []⟩,
          ⟨(some 36), .mv (.t 1), (some (30, true)), []⟩,
          ⟨(some 37), .mv (.t 5), (some (30, true)), []⟩,
          ⟨(some 38), .iaddrS 7 (.t 36) (.t 37), (some (30, true)), []⟩,
          ⟨(some 39), .faddr 1 (.t 38), (some (30, true)), []⟩,
          ⟨(some 40), .load 1 false (.t 39), (some (30, true)), []⟩,
          ⟨(some 41), .bin .eql (.t 35) (.t 40), (some (30, true)), []⟩,
          ⟨(some 42), .pick (.t 30) (.t 41) (.c (.bool false)), none, []⟩,
          ⟨(some 43), .mv (.t 42), none, []⟩,
          ⟨(some 44), .mv (.t 0), (some (43, true)), []⟩,
          ⟨(some 45), .mv (.t 5), (some (43, true)), []⟩,
          ⟨(some 46), .iaddrS 7 (.t 44) (.t 45), (some (43, true)), []⟩,
          ⟨(some 47), .faddr 2 (.t 46), (some (43, true)), []⟩,
          ⟨(some 48), .load 4 true (.t 47), (some (43, true)), []⟩,
          ⟨(some 49), .mv (.t 1), (some (43, true)), []⟩,
          ⟨(some 50), .mv (.t 5), (some (43, true)), []⟩,
          ⟨(some 51), .iaddrS 7 (.t 49) (.t 50), (some (43, true)), []⟩,
          ⟨(some 52), .faddr 2 (.t 51), (some (43, true)), []⟩,
          ⟨(some 53), .load 4 true (.t 52), (some (43, true)), []⟩,
          ⟨(some 54), .call 54 [.t 48, .t 53], (some (43, true)), []⟩,
          ⟨(some 55), .pick (.t 43) (.t 54) (.c (.bool false)), none, []⟩,
          ⟨(some 6), .mv (.t 55), none, []⟩]) (
        .seq (.region [
          ⟨(some 56), .mv (.t 0), none, []⟩,
          ⟨(some 57), .mv (.t 5), none, []⟩,
          ⟨(some 58), .iaddrS 7 (.t 56) (.t 57), none, []⟩,
          ⟨(some 59), .faddr 6 (.t 58), none, []⟩,
          ⟨(some 60), .load 1 false (.t 59), none, []⟩,
          ⟨(some 61), .mv (.t 1), none, []⟩,
          ⟨(some 62), .mv (.t 5), none, []⟩,
          ⟨(some 63), .iaddrS 7 (.t 61) (.t 62), none, []⟩,
          ⟨(some 64), .faddr 6 (.t 63), none, []⟩,
          ⟨(some 65), .load 1 false (.t 64), none, []⟩,
          ⟨(some 66), .call 17 [.t 60, .t 65], none, []⟩,
          ⟨(some 7), .mv (.t 66), none, []⟩]) (
        .seq (.region [
          ⟨(some 67), .mv (.t 6), none, []⟩,
          ⟨(some 68), .un .not (.t 67), none, []⟩,
          ⟨(some 69), .mv (.t 68), none, []⟩,
          ⟨(some 70), .mv (.t 7), (some (69, false)), []⟩,
          ⟨(some 71), .un .not (.t 70), (some (69, false)), []⟩,
          ⟨(some 72), .pick (.t 69) (.c (.bool true)) (.t 71), none, []⟩]) (
        .cond (.t 72) (
          .seq (.region [
            ⟨(some 4), .mv (.c (.bool false)), none, []⟩]) (
          .ret)) (
          .skip)))))) (
      .region [
        ⟨(some 17), .mv (.t 5), none, []⟩,
        ⟨(some 18), .bin .add (.t 17) (.c (.int .i64 1)), none, []⟩,
        ⟨(some 5), .mv (.t 18), none, []⟩])))))) (
  .seq (.region [
    ⟨(some 4), .mv (.c (.bool true)), none, []⟩]) (
  .ret)))),
  .pure, true, true⟩
theorem k17 : compF Tryz.prog { mt := false, mtAt := [], mode := .pure, clArgs := true, clRes := true } Tryz.f17 = some c17 := by kernel_rfl
/- beaconry/printer.Literal -/
def c18 : AFunc := ⟨7, [.tmp 2],
  .seq (.region [
    ⟨(some 1), .box (.t 0), none, []⟩,
    ⟨(some 2), .mv (.c (.str ⟨#[]⟩)), none, []⟩]) (
  .seq (.region [
    ⟨(some 3), .load 3 true (.t 1), none, []⟩,
    ⟨(some 5), .load 3 true (.t 1), none, []⟩,
    ⟨(some 4), .call 56 [.t 3], none, [.t 1]⟩,
    ⟨(some 6), .call 55 [.t 4, .t 5, .f 57], none, []⟩,
    ⟨(some 2), .mv (.t 6), none, []⟩]) (
  .ret)),
  .pure, true, true⟩
theorem k18 : compF Tryz.prog { mt := false, mtAt := [], mode := .pure, clArgs := true, clRes := true } Tryz.f18 = some c18 := by kernel_rfl
/- beaconry/beaconrylaw04.SameLiterals -/
def c19 : AFunc := ⟨55, [.tmp 4],
  .seq (.region [
    ⟨(some 4), .mv (.c (.bool false)), none, []⟩]) (
  .seq (.seq (.region [
    ⟨(some 6), .mv (.t 0), none, []⟩,
    ⟨(some 7), .len false (.t 6), none, []⟩,
    ⟨(some 8), .mv (.t 1), none, []⟩,
    ⟨(some 9), .len false (.t 8), none, []⟩,
    ⟨(some 10), .bin .neq (.t 7) (.t 9), none, []⟩]) (
  .cond (.t 10) (
    .seq (.region [
      ⟨(some 4), .mv (.c (.bool false)), none, []⟩]) (
    .ret)) (
    .skip))) (
  .seq (.seq (.region [
    ⟨(some 5), .mv (.c (.int .i64 0)), none, []⟩]) (
  .block 0 (
    .loop (
      .seq (.seq (.region [
        ⟨(some 11), .mv (.t 5), none, []⟩,
        ⟨(some 12), .mv (.t 0), none, []⟩,
        ⟨(some 13), .len false (.t 12), none, []⟩,
        ⟨(some 14), .bin .lss (.t 11) (.t 13), none, []⟩]) (
      .cond (.t 14) (
        .skip) (
        .exit 0))) (
      .seq (.block 1 (
        .seq (.region [
          ⟨(some 17), .mv (.t 0), none, []⟩,
          ⟨(some 18), .mv (.t 5), none, []⟩,
          ⟨(some 19), .iaddrS 3 (.t 17) (.t 18), none, []⟩,
          ⟨(some 20), .faddr 0 (.t 19), none, []⟩,
          ⟨(some 21), .load 1 false (.t 20), none, []⟩,
          ⟨(some 22), .mv (.t 1), none, []⟩,
          ⟨(some 23), .mv (.t 5), none, []⟩,
          ⟨(some 24), .iaddrS 3 (.t 22) (.t 23), none, []⟩,
          ⟨(some 25), .faddr 0 (.t 24), none, []⟩,
          ⟨(some 26), .load 1 false (.t 25), none, []⟩,
          ⟨(some 27), .bin .neq (.t 21) (.t 26), none, []⟩,
          ⟨(some 28), .mv (.t 27), none, []⟩,
          ⟨(some 29), .mv (.t 0), (some (28, false)), []⟩,
          ⟨(some 30), .mv (.t 5), (some (28, false)), []⟩,
          ⟨(some 31), .iaddrS 3 (.t 29) (.t 30), (some (28, false)), []⟩,
          ⟨(some 32), .faddr 1 (.t 31), (some (28, false)), []⟩,
          ⟨(some 33), .load 1 false (.t 32), (some (28, false)), []⟩,
          ⟨(some 34), .mv (.t 1), (some (28, false)), []⟩,
          ⟨(some 35), .mv (.t 5), (some (28, false)), []⟩,
          ⟨(some 36), .iaddrS 3 (.t 34) (.t 35), (some (28, false)), []⟩,
          ⟨(some 37), .faddr 1 (.t 36), (some (28, false)), []⟩,
          ⟨(some 38), .load 1 false (.t 37), (some (28, false)), []⟩,
          ⟨(some 39), .bin .neq (.t 33) (.t 38), (some (28, false)), []⟩,
          ⟨(some 40), .pick (.t 28) (.c (.bool true)) (.t 39), none, []⟩,
          ⟨(some 41), .mv (.t 40), none, []⟩,
          ⟨(some 42), .mv (.t 0), (some (41, false)), []⟩,
          ⟨(some 43), .mv (.t 5), (some (41, false)), []⟩,
          ⟨(some 44), .iaddrS 3 (.t 42) (.t 43), (some (41, false)), []⟩,
          ⟨(some 45), .faddr 2 (.t 44), (some (41, false)), []⟩,
          ⟨(some 46), .load 1 false (.t 45), (some (41, false)), []⟩,
          ⟨(some 47), .mv (.t 1), (some (41, false)), []⟩,
          ⟨(some 48), .mv (.t 5), (some (41, false)), []⟩,
          ⟨(some 49), .iaddrS 3 (.t 47) (.t 48), (some (41, false)), []⟩,
          ⟨(some 50), .faddr 2 (.t 49), (some (41, false)), []⟩,
          ⟨(some 51), .load 1 false (.t 50), (some (41, false)), []⟩,
          ⟨(some 52), .call 17 [.t 46, .t 51], (some (41, false)), []⟩,
          ⟨(some 53), .un .not (.t 52), (some (41, false)), []⟩,
          ⟨(some 54), .pick (.t 41) (.c (.bool true)) (.t 53), none, []⟩]) (
        .cond (.t 54) (
          .seq (.region [
            ⟨(some 4), .mv (.c (.bool false)), none, []⟩]) (
          .ret)) (
          .skip)))) (
      .region [
        ⟨(some 15), .mv (.t 5), none, []⟩,
        ⟨(some 16), .bin .add (.t 15) (.c (.int .i64 1)), none, []⟩,
        ⟨(some 5), .mv (.t 16), none, []⟩])))))) (
  .seq (.region [
    ⟨(some 4), .mv (.c (.bool true)), none, []⟩]) (
  .ret)))),
  .pure, true, true⟩
theorem k19 : compF Tryz.prog { mt := false, mtAt := [], mode := .pure, clArgs := true, clRes := true } Tryz.f19 = some c19 := by kernel_rfl
/- beaconry/beaconrylaw04.pick -/
def c20 : AFunc := ⟨13, [.tmp 4],
  .seq (.region [
    ⟨(some 4), .mv (.c (.int .i64 0)), none, []⟩]) (
  .seq (.seq (.region [
    ⟨(some 5), .mv (.t 0), none, []⟩,
    ⟨(some 6), .bin .lss (.t 5) (.c (.int .i64 0)), none, []⟩]) (
  .cond (.t 6) (
    .region [
      ⟨(some 7), .mv (.t 0), none, []⟩,
      ⟨(some 8), .bin .add (.t 7) (.c (.int .i64 1)), none, []⟩,
      ⟨(some 9), .un .neg (.t 8), none, []⟩,
      ⟨(some 0), .mv (.t 9), none, []⟩]) (
    .skip))) (
  .seq (.region [
    ⟨(some 10), .mv (.t 0), none, []⟩,
    ⟨(some 11), .mv (.t 1), none, []⟩,
    ⟨(some 12), .bin .rem (.t 10) (.t 11), none, []⟩,
    ⟨(some 4), .mv (.t 12), none, []⟩]) (
  .ret))),
  .pure, true, true⟩
theorem k20 : compF Tryz.prog { mt := false, mtAt := [], mode := .pure, clArgs := true, clRes := true } Tryz.f20 = some c20 := by kernel_rfl
/- beaconry/printer.Rule -/
def c21 : AFunc := ⟨7, [.tmp 2],
  .seq (.region [
    ⟨(some 1), .box (.t 0), none, []⟩,
    ⟨(some 2), .mv (.c (.str ⟨#[]⟩)), none, []⟩]) (
  .seq (.region [
    ⟨(some 3), .load 6 true (.t 1), none, []⟩,
    ⟨(some 5), .load 6 true (.t 1), none, []⟩,
    ⟨(some 4), .call 36 [.t 3], none, [.t 1]⟩,
    ⟨(some 6), .call 58 [.t 4, .t 5, .f 46], none, []⟩,
    ⟨(some 2), .mv (.t 6), none, []⟩]) (
  .ret)),
  .pure, true, true⟩
theorem k21 : compF Tryz.prog { mt := false, mtAt := [], mode := .pure, clArgs := true, clRes := true } Tryz.f21 = some c21 := by kernel_rfl
/- beaconry/printer.Tuple -/
def c22 : AFunc := ⟨7, [.tmp 2],
  .seq (.region [
    ⟨(some 1), .box (.t 0), none, []⟩,
    ⟨(some 2), .mv (.c (.str ⟨#[]⟩)), none, []⟩]) (
  .seq (.region [
    ⟨(some 3), .load 2 true (.t 1), none, []⟩,
    ⟨(some 5), .load 2 true (.t 1), none, []⟩,
    ⟨(some 4), .call 34 [.t 3], none, [.t 1]⟩,
    ⟨(some 6), .call 59 [.t 4, .t 5, .f 44], none, []⟩,
    ⟨(some 2), .mv (.t 6), none, []⟩]) (
  .ret)),
  .pure, true, true⟩
theorem k22 : compF Tryz.prog { mt := false, mtAt := [], mode := .pure, clArgs := true, clRes := true } Tryz.f22 = some c22 := by kernel_rfl
/- beaconry/beaconryref04.Right -/
def c23 : AFunc := ⟨89, [.tmp 2],
  .seq (.region [
    ⟨(some 1), .box (.t 0), none, []⟩,
    ⟨(some 2), .mv (.c (.bool false)), none, []⟩]) (
  .seq (.seq (.region [
    ⟨(some 9), .faddr 0 (.t 1), none, []⟩,
    ⟨(some 10), .load 1 false (.t 9), none, []⟩,
    ⟨(some 11), .len false (.t 10), none, []⟩,
    ⟨(some 12), .bin .gtr (.t 11) (.c (.int .i64 64)), none, []⟩,
    ⟨(some 13), .mv (.t 12), none, []⟩,
    ⟨(some 14), .faddr 1 (.t 1), (some (13, false)), []⟩,
    ⟨(some 15), .load 1 false (.t 14), (some (13, false)), []⟩,
    ⟨(some 16), .len false (.t 15), (some (13, false)), []⟩,
    ⟨(some 17), .bin .gtr (.t 16) (.c (.int .i64 64)), (some (13, false)), []⟩,
    ⟨(some 18), .pick (.t 13) (.c (.bool true)) (.t 17), none, []⟩,
    ⟨(some 19), .mv (.t 18), none, []⟩,
    ⟨(some 20), .faddr 2 (.t 1), (some (19, false)), []⟩,
    ⟨(some 21), .load 1 false (.t 20), (some (19, false)), []⟩,
    ⟨(some 22), .len false (.t 21), (some (19, false)), []⟩,
    ⟨(some 23), .bin .gtr (.t 22) (.c (.int .i64 64)), (some (19, false)), []⟩,
    ⟨(some 24), .pick (.t 19) (.c (.bool true)) (.t 23), none, []⟩]) (
  .cond (.t 24) (
    .seq (.region [
      ⟨(some 2), .mv (.c (.bool false)), none, []⟩]) (
    .ret)) (
    .skip))) (
  .seq (.seq (.region [
    ⟨(some 3), .mv (.c (.int .i64 0)), none, []⟩]) (
  .block 0 (
    .loop (
      .seq (.seq (.region [
        ⟨(some 25), .mv (.t 3), none, []⟩,
        ⟨(some 26), .faddr 0 (.t 1), none, []⟩,
        ⟨(some 27), .load 1 false (.t 26), none, []⟩,
        ⟨(some 28), .len false (.t 27), none, []⟩,
        ⟨(some 29), .bin .lss (.t 25) (.t 28), none, []⟩]) (
      .cond (.t 29) (
        .skip) (
        .exit 0))) (
      .seq (.block 1 (
        .seq (.region [
          ⟨(some 32), .faddr 0 (.t 1), none, []⟩,
          ⟨(some 33), .load 1 false (.t 32), none, []⟩,
          ⟨(some 34), .mv (.t 3), none, []⟩,
          ⟨(some 35), .iaddrS 2 (.t 33) (.t 34), none, []⟩,
          ⟨(some 36), .faddr 0 (.t 35), none, []⟩,
          ⟨(some 37), .load 1 false (.t 36), none, []⟩,
          ⟨(some 38), .call 60 [.t 37], none, []⟩,
          ⟨(some 4), .mv (.t 38), none, []⟩]) (
        .seq (.region [
          ⟨(some 39), .mv (.t 4), none, []⟩,
          ⟨(some 40), .un .not (.t 39), none, []⟩,
          ⟨(some 41), .mv (.t 40), none, []⟩,
          ⟨(some 42), .faddr 0 (.t 1), (some (41, false)), []⟩,
          ⟨(some 43), .load 1 false (.t 42), (some (41, false)), []⟩,
          ⟨(some 44), .mv (.t 3), (some (41, false)), []⟩,
          ⟨(some 45), .iaddrS 2 (.t 43) (.t 44), (some (41, false)), []⟩,
          ⟨(some 46), .faddr 1 (.t 45), (some (41, false)), []⟩,
          ⟨(some 47), .load 1 false (.t 46), (some (41, false)), []⟩,
          ⟨(some 48), .bin .lss (.t 47) (.c (.int .i64 1)), (some (41, false)), []⟩,
          ⟨(some 49), .pick (.t 41) (.c (.bool true)) (.t 48), none, []⟩,
          ⟨(some 50), .mv (.t 49), none, []⟩,
          ⟨(some 51), .faddr 0 (.t 1), (some (50, false)), []⟩,
          ⟨(some 52), .load 1 false (.t 51), (some (50, false)), []⟩,
          ⟨(some 53), .mv (.t 3), (some (50, false)), []⟩,
          ⟨(some 54), .iaddrS 2 (.t 52) (.t 53), (some (50, false)), []⟩,
          ⟨(some 55), .faddr 1 (.t 54), (some (50, false)), []⟩,
          ⟨(some 56), .load 1 false (.t 55), (some (50, false)), []⟩,
          ⟨(some 57), .bin .gtr (.t 56) (.c (.int .i64 8)), (some (50, false)), []⟩,
          ⟨(some 58), .pick (.t 50) (.c (.bool true)) (.t 57), none, []⟩]) (
        .cond (.t 58) (
          .seq (.region [
            ⟨(some 2), .mv (.c (.bool false)), none, []⟩]) (
          .ret)) (
          .skip))))) (
      .region [
        ⟨(some 30), .mv (.t 3), none, []⟩,
        ⟨(some 31), .bin .add (.t 30) (.c (.int .i64 1)), none, []⟩,
        ⟨(some 3), .mv (.t 31), none, []⟩])))))) (
  .seq (.seq (.region [
    ⟨(some 5), .mv (.c (.int .i64 0)), none, []⟩]) (
  .block 2 (
    .loop (
      .seq (.seq (.region [
        ⟨(some 59), .mv (.t 5), none, []⟩,
        ⟨(some 60), .faddr 1 (.t 1), none, []⟩,
        ⟨(some 61), .load 1 false (.t 60), none, []⟩,
        ⟨(some 62), .len false (.t 61), none, []⟩,
        ⟨(some 63), .bin .lss (.t 59) (.t 62), none, []⟩]) (
      .cond (.t 63) (
        .skip) (
        .exit 2))) (
      .seq (.block 3 (
        .seq (.region [
          ⟨(some 66), .faddr 1 (.t 1), none, []⟩,
          ⟨(some 67), .load 1 false (.t 66), none, []⟩,
          ⟨(some 68), .mv (.t 5), none, []⟩,
          ⟨(some 69), .iaddrS 2 (.t 67) (.t 68), none, []⟩,
          ⟨(some 70), .load 2 true (.t 69), none, []⟩,
          ⟨(some 71), .call 61 [.t 70], none, []⟩,
          ⟨(some 6), .mv (.t 71), none, []⟩]) (
        .seq (.region [
          ⟨(some 72), .mv (.t 6), none, []⟩,
          ⟨(some 73), .un .not (.t 72), none, []⟩]) (
        .cond (.t 73) (
          .seq (.region [
            ⟨(some 2), .mv (.c (.bool false)), none, []⟩]) (
          .ret)) (
          .skip))))) (
      .region [
        ⟨(some 64), .mv (.t 5), none, []⟩,
        ⟨(some 65), .bin .add (.t 64) (.c (.int .i64 1)), none, []⟩,
        ⟨(some 5), .mv (.t 65), none, []⟩])))))) (
  .seq (.seq (.region [
    ⟨(some 7), .mv (.c (.int .i64 0)), none, []⟩]) (
  .block 4 (
    .loop (
      .seq (.seq (.region [
        ⟨(some 74), .mv (.t 7), none, []⟩,
        ⟨(some 75), .faddr 2 (.t 1), none, []⟩,
        ⟨(some 76), .load 1 false (.t 75), none, []⟩,
        ⟨(some 77), .len false (.t 76), none, []⟩,
        ⟨(some 78), .bin .lss (.t 74) (.t 77), none, []⟩]) (
      .cond (.t 78) (
        .skip) (
        .exit 4))) (
      .seq (.block 5 (
        .seq (.region [
          ⟨(some 81), .faddr 2 (.t 1), none, []⟩,
          ⟨(some 82), .load 1 false (.t 81), none, []⟩,
          ⟨(some 83), .mv (.t 7), none, []⟩,
          ⟨(some 84), .iaddrS 6 (.t 82) (.t 83), none, []⟩,
          ⟨(some 85), .load 6 true (.t 84), none, []⟩,
          ⟨(some 86), .call 62 [.t 85], none, []⟩,
          ⟨(some 8), .mv (.t 86), none, []⟩]) (
        .seq (.region [
          ⟨(some 87), .mv (.t 8), none, []⟩,
          ⟨(some 88), .un .not (.t 87), none, []⟩]) (
        .cond (.t 88) (
          .seq (.region [
            ⟨(some 2), .mv (.c (.bool false)), none, []⟩]) (
          .ret)) (
          .skip))))) (
      .region [
        ⟨(some 79), .mv (.t 7), none, []⟩,
        ⟨(some 80), .bin .add (.t 79) (.c (.int .i64 1)), none, []⟩,
        ⟨(some 7), .mv (.t 80), none, []⟩])))))) (
  .seq (.region [
    ⟨(some 2), .mv (.c (.bool true)), none, []⟩]) (
  .ret)))))),
  .pure, true, true⟩
theorem k23 : compF Tryz.prog { mt := false, mtAt := [], mode := .pure, clArgs := true, clRes := true } Tryz.f23 = some c23 := by kernel_rfl
/- beaconry/beaconryref04.Print -/
def c24 : AFunc := ⟨72, [.tmp 2],
  .seq (.region [
    ⟨(some 1), .box (.t 0), none, []⟩,
    ⟨(some 2), .mv (.c (.str ⟨#[]⟩)), none, []⟩]) (
  .seq (.region [
    ⟨(some 8), .load 3 true (.t 1), none, []⟩,
    ⟨(some 9), .call 23 [.t 8], none, []⟩,
    ⟨(some 3), .mv (.t 9), none, []⟩]) (
  .seq (.seq (.region [
    ⟨(some 10), .mv (.t 3), none, []⟩,
    ⟨(some 11), .un .not (.t 10), none, []⟩]) (
  .cond (.t 11) (
    .seq (.region [
      ⟨(some 2), .mv (.c (.str ⟨#[]⟩)), none, []⟩]) (
    .ret)) (
    .skip))) (
  .seq (.region [
    ⟨(some 4), .mv (.c (.str ⟨#[]⟩)), none, []⟩]) (
  .seq (.seq (.region [
    ⟨(some 5), .mv (.c (.int .i64 0)), none, []⟩]) (
  .block 0 (
    .loop (
      .seq (.seq (.region [
        ⟨(some 12), .mv (.t 5), none, []⟩,
        ⟨(some 13), .faddr 0 (.t 1), none, []⟩,
        ⟨(some 14), .load 1 false (.t 13), none, []⟩,
        ⟨(some 15), .len false (.t 14), none, []⟩,
        ⟨(some 16), .bin .lss (.t 12) (.t 15), none, []⟩]) (
      .cond (.t 16) (
        .skip) (
        .exit 0))) (
      .seq (.block 1 (
        .region [
          ⟨(some 19), .mv (.t 4), none, []⟩,
          ⟨(some 20), .bin .add (.t 19) (.c (.str ⟨#[109, 97, 116, 101, 114, 105, 97, 108, 105, 122, 101, 40]⟩)), none, []⟩,
          ⟨(some 21), .faddr 0 (.t 1), none, []⟩,
          ⟨(some 22), .load 1 false (.t 21), none, []⟩,
          ⟨(some 23), .mv (.t 5), none, []⟩,
          ⟨(some 24), .iaddrS 2 (.t 22) (.t 23), none, []⟩,
          ⟨(some 25), .faddr 0 (.t 24), none, []⟩,
          ⟨(some 26), .load 1 false (.t 25), none, []⟩,
          ⟨(some 27), .bin .add (.t 20) (.t 26), none, []⟩,
          ⟨(some 28), .bin .add (.t 27) (.c (.str ⟨#[44]⟩)), none, []⟩,
          ⟨(some 29), .faddr 0 (.t 1), none, []⟩,
          ⟨(some 30), .load 1 false (.t 29), none, []⟩,
          ⟨(some 31), .mv (.t 5), none, []⟩,
          ⟨(some 32), .iaddrS 2 (.t 30) (.t 31), none, []⟩,
          ⟨(some 33), .faddr 1 (.t 32), none, []⟩,
          ⟨(some 34), .load 1 false (.t 33), none, []⟩,
          ⟨(some 35), .call 64 [.t 34], none, [.t 21, .t 25]⟩,
          ⟨(some 36), .call 63 [.t 35], none, [.t 21, .t 25]⟩,
          ⟨(some 37), .bin .add (.t 28) (.t 36), none, []⟩,
          ⟨(some 38), .bin .add (.t 37) (.c (.str ⟨#[41, 46, 10]⟩)), none, []⟩,
          ⟨(some 4), .mv (.t 38), none, []⟩])) (
      .region [
        ⟨(some 17), .mv (.t 5), none, []⟩,
        ⟨(some 18), .bin .add (.t 17) (.c (.int .i64 1)), none, []⟩,
        ⟨(some 5), .mv (.t 18), none, []⟩])))))) (
  .seq (.seq (.region [
    ⟨(some 6), .mv (.c (.int .i64 0)), none, []⟩]) (
  .block 2 (
    .loop (
      .seq (.seq (.region [
        ⟨(some 39), .mv (.t 6), none, []⟩,
        ⟨(some 40), .faddr 1 (.t 1), none, []⟩,
        ⟨(some 41), .load 1 false (.t 40), none, []⟩,
        ⟨(some 42), .len false (.t 41), none, []⟩,
        ⟨(some 43), .bin .lss (.t 39) (.t 42), none, []⟩]) (
      .cond (.t 43) (
        .skip) (
        .exit 2))) (
      .seq (.block 3 (
        .region [
          ⟨(some 46), .mv (.t 4), none, []⟩,
          ⟨(some 47), .faddr 1 (.t 1), none, []⟩,
          ⟨(some 48), .load 1 false (.t 47), none, []⟩,
          ⟨(some 49), .mv (.t 6), none, []⟩,
          ⟨(some 50), .iaddrS 2 (.t 48) (.t 49), none, []⟩,
          ⟨(some 51), .load 2 true (.t 50), none, []⟩,
          ⟨(some 52), .call 25 [.t 51], none, []⟩,
          ⟨(some 53), .bin .add (.t 46) (.t 52), none, []⟩,
          ⟨(some 54), .bin .add (.t 53) (.c (.str ⟨#[10]⟩)), none, []⟩,
          ⟨(some 4), .mv (.t 54), none, []⟩])) (
      .region [
        ⟨(some 44), .mv (.t 6), none, []⟩,
        ⟨(some 45), .bin .add (.t 44) (.c (.int .i64 1)), none, []⟩,
        ⟨(some 6), .mv (.t 45), none, []⟩])))))) (
  .seq (.seq (.region [
    ⟨(some 7), .mv (.c (.int .i64 0)), none, []⟩]) (
  .block 4 (
    .loop (
      .seq (.seq (.region [
        ⟨(some 55), .mv (.t 7), none, []⟩,
        ⟨(some 56), .faddr 2 (.t 1), none, []⟩,
        ⟨(some 57), .load 1 false (.t 56), none, []⟩,
        ⟨(some 58), .len false (.t 57), none, []⟩,
        ⟨(some 59), .bin .lss (.t 55) (.t 58), none, []⟩]) (
      .cond (.t 59) (
        .skip) (
        .exit 4))) (
      .seq (.block 5 (
        .region [
          ⟨(some 62), .mv (.t 4), none, []⟩,
          ⟨(some 63), .faddr 2 (.t 1), none, []⟩,
          ⟨(some 64), .load 1 false (.t 63), none, []⟩,
          ⟨(some 65), .mv (.t 7), none, []⟩,
          ⟨(some 66), .iaddrS 6 (.t 64) (.t 65), none, []⟩,
          ⟨(some 67), .load 6 true (.t 66), none, []⟩,
          ⟨(some 68), .call 26 [.t 67], none, []⟩,
          ⟨(some 69), .bin .add (.t 62) (.t 68), none, []⟩,
          ⟨(some 70), .bin .add (.t 69) (.c (.str ⟨#[10]⟩)), none, []⟩,
          ⟨(some 4), .mv (.t 70), none, []⟩])) (
      .region [
        ⟨(some 60), .mv (.t 7), none, []⟩,
        ⟨(some 61), .bin .add (.t 60) (.c (.int .i64 1)), none, []⟩,
        ⟨(some 7), .mv (.t 61), none, []⟩])))))) (
  .seq (.region [
    ⟨(some 71), .mv (.t 4), none, []⟩,
    ⟨(some 2), .mv (.t 71), none, []⟩]) (
  .ret)))))))),
  .pure, true, true⟩
theorem k24 : compF Tryz.prog { mt := false, mtAt := [], mode := .pure, clArgs := true, clRes := true } Tryz.f24 = some c24 := by kernel_rfl
/- beaconry/beaconryref04.Tuple -/
def c25 : AFunc := ⟨33, [.tmp 2],
  .seq (.region [
    ⟨(some 1), .box (.t 0), none, []⟩,
    ⟨(some 2), .mv (.c (.str ⟨#[]⟩)), none, []⟩]) (
  .seq (.region [
    ⟨(some 6), .load 2 true (.t 1), none, []⟩,
    ⟨(some 7), .call 61 [.t 6], none, []⟩,
    ⟨(some 3), .mv (.t 7), none, []⟩]) (
  .seq (.seq (.region [
    ⟨(some 8), .mv (.t 3), none, []⟩,
    ⟨(some 9), .un .not (.t 8), none, []⟩]) (
  .cond (.t 9) (
    .seq (.region [
      ⟨(some 2), .mv (.c (.str ⟨#[]⟩)), none, []⟩]) (
    .ret)) (
    .skip))) (
  .seq (.region [
    ⟨(some 4), .mv (.c (.isl [] true)), none, []⟩]) (
  .seq (.seq (.region [
    ⟨(some 5), .mv (.c (.int .i64 0)), none, []⟩]) (
  .block 0 (
    .loop (
      .seq (.seq (.region [
        ⟨(some 10), .mv (.t 5), none, []⟩,
        ⟨(some 11), .faddr 1 (.t 1), none, []⟩,
        ⟨(some 12), .load 1 false (.t 11), none, []⟩,
        ⟨(some 13), .len false (.t 12), none, []⟩,
        ⟨(some 14), .bin .lss (.t 10) (.t 13), none, []⟩]) (
      .cond (.t 14) (
        .skip) (
        .exit 0))) (
      .seq (.block 1 (
        .region [
          ⟨(some 17), .mv (.t 4), none, []⟩,
          ⟨(some 18), .faddr 1 (.t 1), none, []⟩,
          ⟨(some 19), .load 1 false (.t 18), none, []⟩,
          ⟨(some 20), .mv (.t 5), none, []⟩,
          ⟨(some 21), .iaddrS 4 (.t 19) (.t 20), none, []⟩,
          ⟨(some 22), .load 4 true (.t 21), none, []⟩,
          ⟨(some 23), .call 63 [.t 22], none, []⟩,
          ⟨(some 24), .buildSl 1 1 false [.str ⟨#[]⟩] [(0, 1, .t 23)], none, []⟩,
          ⟨(some 25), .append 1 false 16 false (.t 17) (.t 24), none, []⟩,
          ⟨(some 4), .mv (.t 25), none, []⟩])) (
      .region [
        ⟨(some 15), .mv (.t 5), none, []⟩,
        ⟨(some 16), .bin .add (.t 15) (.c (.int .i64 1)), none, []⟩,
        ⟨(some 5), .mv (.t 16), none, []⟩])))))) (
  .seq (.region [
    ⟨(some 26), .faddr 0 (.t 1), none, []⟩,
    ⟨(some 27), .load 1 false (.t 26), none, []⟩,
    ⟨(some 28), .bin .add (.t 27) (.c (.str ⟨#[40, 64]⟩)), none, []⟩,
    ⟨(some 29), .mv (.t 4), none, []⟩,
    ⟨(some 30), .call 65 [.t 29, .c (.str ⟨#[44]⟩)], none, [.t 26]⟩,
    ⟨(some 31), .bin .add (.t 28) (.t 30), none, []⟩,
    ⟨(some 32), .bin .add (.t 31) (.c (.str ⟨#[41, 46]⟩)), none, []⟩,
    ⟨(some 2), .mv (.t 32), none, []⟩]) (
  .ret)))))),
  .pure, true, true⟩
theorem k25 : compF Tryz.prog { mt := false, mtAt := [], mode := .pure, clArgs := true, clRes := true } Tryz.f25 = some c25 := by kernel_rfl
/- beaconry/beaconryref04.Rule -/
def c26 : AFunc := ⟨62, [.tmp 2],
  .seq (.region [
    ⟨(some 1), .box (.t 0), none, []⟩,
    ⟨(some 2), .mv (.c (.str ⟨#[]⟩)), none, []⟩]) (
  .seq (.region [
    ⟨(some 7), .load 6 true (.t 1), none, []⟩,
    ⟨(some 8), .call 62 [.t 7], none, []⟩,
    ⟨(some 3), .mv (.t 8), none, []⟩]) (
  .seq (.seq (.region [
    ⟨(some 9), .mv (.t 3), none, []⟩,
    ⟨(some 10), .un .not (.t 9), none, []⟩]) (
  .cond (.t 10) (
    .seq (.region [
      ⟨(some 2), .mv (.c (.str ⟨#[]⟩)), none, []⟩]) (
    .ret)) (
    .skip))) (
  .seq (.region [
    ⟨(some 11), .faddr 2 (.t 1), none, []⟩,
    ⟨(some 12), .load 1 false (.t 11), none, []⟩,
    ⟨(some 13), .call 66 [.t 12], none, []⟩,
    ⟨(some 4), .mv (.t 13), none, []⟩]) (
  .seq (.seq (.region [
    ⟨(some 14), .faddr 3 (.t 1), none, []⟩,
    ⟨(some 15), .load 1 false (.t 14), none, []⟩,
    ⟨(some 16), .bin .neq (.t 15) (.c (.str ⟨#[]⟩)), none, []⟩]) (
  .cond (.t 16) (
    .region [
      ⟨(some 17), .mv (.t 4), none, []⟩,
      ⟨(some 18), .faddr 4 (.t 1), none, []⟩,
      ⟨(some 19), .load 1 false (.t 18), none, []⟩,
      ⟨(some 20), .faddr 3 (.t 1), none, []⟩,
      ⟨(some 21), .load 1 false (.t 20), none, []⟩,
      ⟨(some 22), .bin .add (.t 21) (.c (.str ⟨#[60]⟩)), none, []⟩,
      ⟨(some 23), .mv (.t 4), none, []⟩,
      ⟨(some 24), .faddr 4 (.t 1), none, []⟩,
      ⟨(some 25), .load 1 false (.t 24), none, []⟩,
      ⟨(some 26), .iaddrS 1 (.t 23) (.t 25), none, []⟩,
      ⟨(some 27), .load 1 false (.t 26), none, []⟩,
      ⟨(some 28), .bin .add (.t 22) (.t 27), none, []⟩,
      ⟨(some 29), .bin .add (.t 28) (.c (.str ⟨#[62]⟩)), none, []⟩,
      ⟨(some 30), .iaddrS 1 (.t 17) (.t 19), none, []⟩,
      ⟨none, .store 1 (.t 30) (.t 29), none, []⟩]) (
    .skip))) (
  .seq (.region [
    ⟨(some 5), .mv (.c (.isl [] true)), none, []⟩]) (
  .seq (.seq (.region [
    ⟨(some 6), .mv (.c (.int .i64 0)), none, []⟩]) (
  .block 0 (
    .loop (
      .seq (.seq (.region [
        ⟨(some 31), .mv (.t 6), none, []⟩,
        ⟨(some 32), .faddr 5 (.t 1), none, []⟩,
        ⟨(some 33), .load 1 false (.t 32), none, []⟩,
        ⟨(some 34), .len false (.t 33), none, []⟩,
        ⟨(some 35), .bin .lss (.t 31) (.t 34), none, []⟩]) (
      .cond (.t 35) (
        .skip) (
        .exit 0))) (
      .seq (.block 1 (
        .region [
          ⟨(some 38), .mv (.t 5), none, []⟩,
          ⟨(some 39), .faddr 5 (.t 1), none, []⟩,
          ⟨(some 40), .load 1 false (.t 39), none, []⟩,
          ⟨(some 41), .mv (.t 6), none, []⟩,
          ⟨(some 42), .iaddrS 3 (.t 40) (.t 41), none, []⟩,
          ⟨(some 43), .load 3 true (.t 42), none, []⟩,
          ⟨(some 44), .call 27 [.t 43], none, []⟩,
          ⟨(some 45), .buildSl 1 1 false [.str ⟨#[]⟩] [(0, 1, .t 44)], none, []⟩,
          ⟨(some 46), .append 1 false 16 false (.t 38) (.t 45), none, []⟩,
          ⟨(some 5), .mv (.t 46), none, []⟩])) (
      .region [
        ⟨(some 36), .mv (.t 6), none, []⟩,
        ⟨(some 37), .bin .add (.t 36) (.c (.int .i64 1)), none, []⟩,
        ⟨(some 6), .mv (.t 37), none, []⟩])))))) (
  .seq (.region [
    ⟨(some 47), .faddr 0 (.t 1), none, []⟩,
    ⟨(some 48), .load 1 false (.t 47), none, []⟩,
    ⟨(some 49), .bin .add (.t 48) (.c (.str ⟨#[32]⟩)), none, []⟩,
    ⟨(some 50), .faddr 1 (.t 1), none, []⟩,
    ⟨(some 51), .load 1 false (.t 50), none, []⟩,
    ⟨(some 52), .bin .add (.t 49) (.t 51), none, []⟩,
    ⟨(some 53), .bin .add (.t 52) (.c (.str ⟨#[40, 64]⟩)), none, []⟩,
    ⟨(some 54), .mv (.t 4), none, []⟩,
    ⟨(some 58), .mv (.t 5), none, []⟩,
    ⟨(some 55), .call 65 [.t 54, .c (.str ⟨#[44]⟩)], none, [.t 47, .t 50]⟩,
    ⟨(some 56), .bin .add (.t 53) (.t 55), none, []⟩,
    ⟨(some 57), .bin .add (.t 56) (.c (.str ⟨#[41, 32, 58, 45, 32]⟩)), none, []⟩,
    ⟨(some 59), .call 65 [.t 58, .c (.str ⟨#[44, 32]⟩)], none, [.t 47, .t 50]⟩,
    ⟨(some 60), .bin .add (.t 57) (.t 59), none, []⟩,
    ⟨(some 61), .bin .add (.t 60) (.c (.str ⟨#[46]⟩)), none, []⟩,
    ⟨(some 2), .mv (.t 61), none, []⟩]) (
  .ret)))))))),
  .pure, true, true⟩
theorem k26 : compF Tryz.prog { mt := false, mtAt := [], mode := .pure, clArgs := true, clRes := true } Tryz.f26 = some c26 := by kernel_rfl
/- beaconry/beaconryref04.Literal -/
def c27 : AFunc := ⟨48, [.tmp 2],
  .seq (.region [
    ⟨(some 1), .box (.t 0), none, []⟩,
    ⟨(some 2), .mv (.c (.str ⟨#[]⟩)), none, []⟩]) (
  .seq (.region [
    ⟨(some 5), .load 3 true (.t 1), none, []⟩,
    ⟨(some 6), .call 67 [.t 5], none, []⟩,
    ⟨(some 3), .mv (.t 6), none, []⟩]) (
  .seq (.seq (.region [
    ⟨(some 7), .mv (.t 3), none, []⟩,
    ⟨(some 8), .un .not (.t 7), none, []⟩]) (
  .cond (.t 8) (
    .seq (.region [
      ⟨(some 2), .mv (.c (.str ⟨#[]⟩)), none, []⟩]) (
    .ret)) (
    .skip))) (
  .seq (.region [
    ⟨(some 9), .faddr 2 (.t 1), none, []⟩,
    ⟨(some 10), .load 1 false (.t 9), none, []⟩,
    ⟨(some 11), .call 66 [.t 10], none, []⟩,
    ⟨(some 4), .mv (.t 11), none, []⟩]) (
  .seq (.seq (.region [
    ⟨(some 12), .faddr 0 (.t 1), none, []⟩,
    ⟨(some 13), .load 1 false (.t 12), none, []⟩]) (
  .block 0 (
    .seq (.region [
      ⟨(some 15), .bin .eql (.t 13) (.c (.int .i64 1)), none, []⟩,
      ⟨(some 14), .mv (.t 15), none, []⟩]) (
    .cond (.t 14) (
      .seq (.region [
        ⟨(some 16), .faddr 1 (.t 1), none, []⟩,
        ⟨(some 17), .load 1 false (.t 16), none, []⟩,
        ⟨(some 18), .bin .add (.t 17) (.c (.str ⟨#[40, 64]⟩)), none, []⟩,
        ⟨(some 19), .mv (.t 4), none, []⟩,
        ⟨(some 20), .call 65 [.t 19, .c (.str ⟨#[44]⟩)], none, [.t 16]⟩,
        ⟨(some 21), .bin .add (.t 18) (.t 20), none, []⟩,
        ⟨(some 22), .bin .add (.t 21) (.c (.str ⟨#[41]⟩)), none, []⟩,
        ⟨(some 2), .mv (.t 22), none, []⟩]) (
      .ret)) (
      .seq (.region [
        ⟨(some 24), .bin .eql (.t 13) (.c (.int .i64 2)), none, []⟩,
        ⟨(some 23), .mv (.t 24), none, []⟩]) (
      .cond (.t 23) (
        .seq (.region [
          ⟨(some 25), .faddr 1 (.t 1), none, []⟩,
          ⟨(some 26), .load 1 false (.t 25), none, []⟩,
          ⟨(some 27), .bin .add (.c (.str ⟨#[33]⟩)) (.t 26), none, []⟩,
          ⟨(some 28), .bin .add (.t 27) (.c (.str ⟨#[40, 64]⟩)), none, []⟩,
          ⟨(some 29), .mv (.t 4), none, []⟩,
          ⟨(some 30), .call 65 [.t 29, .c (.str ⟨#[44]⟩)], none, [.t 25]⟩,
          ⟨(some 31), .bin .add (.t 28) (.t 30), none, []⟩,
          ⟨(some 32), .bin .add (.t 31) (.c (.str ⟨#[41]⟩)), none, []⟩,
          ⟨(some 2), .mv (.t 32), none, []⟩]) (
        .ret)) (
        .seq (.region [
          ⟨(some 34), .bin .eql (.t 13) (.c (.int .i64 3)), none, []⟩,
          ⟨(some 33), .mv (.t 34), none, []⟩]) (
        .cond (.t 33) (
          .seq (.region [
            ⟨(some 35), .mv (.t 4), none, []⟩,
            ⟨(some 36), .faddr 1 (.t 1), none, []⟩,
            ⟨(some 37), .load 1 false (.t 36), none, []⟩,
            ⟨(some 38), .bin .add (.c (.str ⟨#[32]⟩)) (.t 37), none, []⟩,
            ⟨(some 39), .bin .add (.t 38) (.c (.str ⟨#[32]⟩)), none, []⟩,
            ⟨(some 40), .call 65 [.t 35, .t 39], none, []⟩,
            ⟨(some 2), .mv (.t 40), none, []⟩]) (
          .ret)) (
          .skip))))))))) (
  .seq (.region [
    ⟨(some 41), .faddr 1 (.t 1), none, []⟩,
    ⟨(some 42), .load 1 false (.t 41), none, []⟩,
    ⟨(some 43), .bin .add (.t 42) (.c (.str ⟨#[32, 58, 61, 32]⟩)), none, []⟩,
    ⟨(some 44), .mv (.t 4), none, []⟩,
    ⟨(some 45), .iaddrS 1 (.t 44) (.c (.int .i64 0)), none, []⟩,
    ⟨(some 46), .load 1 false (.t 45), none, []⟩,
    ⟨(some 47), .bin .add (.t 43) (.t 46), none, []⟩,
    ⟨(some 2), .mv (.t 47), none, []⟩]) (
  .ret)))))),
  .pure, true, true⟩
theorem k27 : compF Tryz.prog { mt := false, mtAt := [], mode := .pure, clArgs := true, clRes := true } Tryz.f27 = some c27 := by kernel_rfl
/- beaconry/beaconryref04.Term -/
def c28 : AFunc := ⟨10, [.tmp 2],
  .seq (.region [
    ⟨(some 1), .box (.t 0), none, []⟩,
    ⟨(some 2), .mv (.c (.str ⟨#[]⟩)), none, []⟩]) (
  .seq (.region [
    ⟨(some 4), .load 7 true (.t 1), none, []⟩,
    ⟨(some 5), .call 68 [.t 4, .c (.int .i64 8)], none, []⟩,
    ⟨(some 3), .mv (.t 5), none, []⟩]) (
  .seq (.seq (.region [
    ⟨(some 6), .mv (.t 3), none, []⟩,
    ⟨(some 7), .un .not (.t 6), none, []⟩]) (
  .cond (.t 7) (
    .seq (.region [
      ⟨(some 2), .mv (.c (.str ⟨#[]⟩)), none, []⟩]) (
    .ret)) (
    .skip))) (
  .seq (.region [
    ⟨(some 8), .load 7 true (.t 1), none, []⟩,
    ⟨(some 9), .call 69 [.t 8], none, []⟩,
    ⟨(some 2), .mv (.t 9), none, []⟩]) (
  .ret)))),
  .pure, true, true⟩
theorem k28 : compF Tryz.prog { mt := false, mtAt := [], mode := .pure, clArgs := true, clRes := true } Tryz.f28 = some c28 := by kernel_rfl
/- beaconry/beaconrylaw04.Relation -/
def c29 : AFunc := ⟨14, [.tmp 2],
  .seq (.region [
    ⟨(some 2), .mv (.c (.str ⟨#[]⟩)), none, []⟩]) (
  .seq (.region [
    ⟨(some 4), .mv (.t 0), none, []⟩,
    ⟨(some 5), .call 70 [.t 4], none, []⟩,
    ⟨(some 3), .mv (.t 5), none, []⟩]) (
  .seq (.seq (.region [
    ⟨(some 6), .mv (.t 3), none, []⟩,
    ⟨(some 7), .call 49 [.t 6], none, []⟩,
    ⟨(some 8), .bin .geq (.t 7) (.c (.int .i64 0)), none, []⟩,
    ⟨(some 9), .mv (.t 8), none, []⟩,
    ⟨(some 10), .mv (.t 3), (some (9, false)), []⟩,
    ⟨(some 11), .bin .eql (.t 10) (.c (.str ⟨#[109, 97, 116, 101, 114, 105, 97, 108, 105, 122, 101]⟩)), (some (9, false)), []⟩,
    ⟨(some 12), .pick (.t 9) (.c (.bool true)) (.t 11), none, []⟩]) (
  .cond (.t 12) (
    .seq (.region [
      ⟨(some 2), .mv (.c (.str ⟨#[110]⟩)), none, []⟩]) (
    .ret)) (
    .skip))) (
  .seq (.region [
    ⟨(some 13), .mv (.t 3), none, []⟩,
    ⟨(some 2), .mv (.t 13), none, []⟩]) (
  .ret)))),
  .pure, true, true⟩
theorem k29 : compF Tryz.prog { mt := false, mtAt := [], mode := .pure, clArgs := true, clRes := true } Tryz.f29 = some c29 := by kernel_rfl
/- beaconry/beaconrylaw01.Fit -/
def c30 : AFunc := ⟨5, [.cell 2 4 true],
  .seq (.region [
    ⟨(some 1), .box (.t 0), none, []⟩,
    ⟨(some 2), .alloc [.int .i64 0, .int .i64 0, .str ⟨#[]⟩, .isl [] true], none, []⟩]) (
  .seq (.region [
    ⟨(some 3), .load 4 true (.t 1), none, []⟩,
    ⟨(some 4), .call 71 [.t 3, .c (.int .i64 4)], none, []⟩,
    ⟨none, .store 4 (.t 2) (.t 4), none, []⟩]) (
  .ret)),
  .pure, true, true⟩
theorem k30 : compF Tryz.prog { mt := false, mtAt := [], mode := .pure, clArgs := true, clRes := true } Tryz.f30 = some c30 := by kernel_rfl
/- beaconry/beaconrylaw04.args -/
def c31 : AFunc := ⟨46, [.tmp 2],
  .seq (.region [
    ⟨(some 2), .mv (.c (.isl [] true)), none, []⟩]) (
  .seq (.region [
    ⟨(some 5), .build [.int .i64 0, .str ⟨#[]⟩, .int .i64 0, .int .i64 0, .str ⟨#[]⟩, .isl [] true, .isl [] true] [(0, 1, .c (.int .i64 1)), (1, 1, .c (.str ⟨#[83]⟩))], none, []⟩,
    ⟨(some 6), .buildSl 1 7 true [.int .i64 0, .str ⟨#[]⟩, .int .i64 0, .int .i64 0, .str ⟨#[]⟩, .isl [] true, .isl [] true] [(0, 7, .t 5)], none, []⟩,
    ⟨(some 3), .mv (.t 6), none, []⟩]) (
  .seq (.seq (.region [
    ⟨(some 7), .mv (.t 0), none, []⟩,
    ⟨(some 8), .len false (.t 7), none, []⟩,
    ⟨(some 9), .bin .gtr (.t 8) (.c (.int .i64 0)), none, []⟩,
    ⟨(some 10), .mv (.t 9), none, []⟩,
    ⟨(some 11), .mv (.t 0), (some (10, true)), []⟩,
    ⟨(some 12), .iaddrS 7 (.t 11) (.c (.int .i64 0)), (some (10, true)), []⟩,
    ⟨(some 13), .faddr 0 (.t 12), (some (10, true)), []⟩,
    ⟨(some 14), .load 1 false (.t 13), (some (10, true)), []⟩,
    ⟨(some 15), .call 20 [.t 14, .c (.int .i64 4)], (some (10, true)), []⟩,
    ⟨(some 16), .bin .eql (.t 15) (.c (.int .i64 1)), (some (10, true)), []⟩,
    ⟨(some 17), .pick (.t 10) (.t 16) (.c (.bool false)), none, []⟩]) (
  .cond (.t 17) (
    .region [
      ⟨(some 18), .mv (.t 3), none, []⟩,
      ⟨(some 19), .mv (.t 0), none, []⟩,
      ⟨(some 20), .iaddrS 7 (.t 19) (.c (.int .i64 0)), none, []⟩,
      ⟨(some 21), .faddr 1 (.t 20), none, []⟩,
      ⟨(some 22), .load 1 false (.t 21), none, []⟩,
      ⟨(some 23), .call 29 [.t 22], none, []⟩,
      ⟨(some 24), .build [.int .i64 0, .int .i64 0, .str ⟨#[]⟩, .isl [] true] [(0, 1, .c (.int .i64 3)), (2, 1, .t 23)], none, []⟩,
      ⟨(some 25), .build [.int .i64 0, .str ⟨#[]⟩, .int .i64 0, .int .i64 0, .str ⟨#[]⟩, .isl [] true, .isl [] true] [(0, 1, .c (.int .i64 2)), (2, 4, .t 24)], none, []⟩,
      ⟨(some 26), .iaddrS 7 (.t 18) (.c (.int .i64 0)), none, []⟩,
      ⟨none, .store 7 (.t 26) (.t 25), none, []⟩]) (
    .skip))) (
  .seq (.seq (.region [
    ⟨(some 4), .mv (.c (.int .i64 1)), none, []⟩]) (
  .block 0 (
    .loop (
      .seq (.seq (.region [
        ⟨(some 27), .mv (.t 4), none, []⟩,
        ⟨(some 28), .mv (.t 0), none, []⟩,
        ⟨(some 29), .len false (.t 28), none, []⟩,
        ⟨(some 30), .bin .lss (.t 27) (.t 29), none, []⟩,
        ⟨(some 31), .mv (.t 30), none, []⟩,
        ⟨(some 32), .mv (.t 4), (some (31, true)), []⟩,
        ⟨(some 33), .bin .lss (.t 32) (.c (.int .i64 8)), (some (31, true)), []⟩,
        ⟨(some 34), .pick (.t 31) (.t 33) (.c (.bool false)), none, []⟩]) (
      .cond (.t 34) (
        .skip) (
        .exit 0))) (
      .seq (.block 1 (
        .region [
          ⟨(some 37), .mv (.t 3), none, []⟩,
          ⟨(some 38), .mv (.t 0), none, []⟩,
          ⟨(some 39), .mv (.t 4), none, []⟩,
          ⟨(some 40), .iaddrS 7 (.t 38) (.t 39), none, []⟩,
          ⟨(some 41), .load 7 true (.t 40), none, []⟩,
          ⟨(some 42), .call 14 [.t 41, .c (.int .i64 8)], none, []⟩,
          ⟨(some 43), .buildSl 1 7 true [.int .i64 0, .str ⟨#[]⟩, .int .i64 0, .int .i64 0, .str ⟨#[]⟩, .isl [] true, .isl [] true] [(0, 7, .t 42)], none, []⟩,
          ⟨(some 44), .append 7 true 104 true (.t 37) (.t 43), none, []⟩,
          ⟨(some 3), .mv (.t 44), none, []⟩])) (
      .region [
        ⟨(some 35), .mv (.t 4), none, []⟩,
        ⟨(some 36), .bin .add (.t 35) (.c (.int .i64 1)), none, []⟩,
        ⟨(some 4), .mv (.t 36), none, []⟩])))))) (
  .seq (.region [
    ⟨(some 45), .mv (.t 3), none, []⟩,
    ⟨(some 2), .mv (.t 45), none, []⟩]) (
  .ret))))),
  .pure, true, true⟩
theorem k31 : compF Tryz.prog { mt := true, mtAt := [], mode := .pure, clArgs := true, clRes := true } Tryz.f31 = some c31 := by kernel_rfl
/- beaconry/beaconrylaw04.Variable -/
def c32 : AFunc := ⟨7, [.tmp 2],
  .seq (.region [
    ⟨(some 2), .mv (.c (.str ⟨#[]⟩)), none, []⟩]) (
  .seq (.region [
    ⟨(some 3), .mv (.t 0), none, []⟩,
    ⟨(some 4), .call 70 [.t 3], none, []⟩,
    ⟨(some 5), .strSl (.t 4) (some (.c (.int .i64 1))) none, none, []⟩,
    ⟨(some 6), .bin .add (.c (.str ⟨#[86]⟩)) (.t 5), none, []⟩,
    ⟨(some 2), .mv (.t 6), none, []⟩]) (
  .ret)),
  .pure, true, true⟩
theorem k32 : compF Tryz.prog { mt := false, mtAt := [], mode := .pure, clArgs := true, clRes := true } Tryz.f32 = some c32 := by kernel_rfl
/- beaconry/printer.all[beaconry/api.Tuple] -/
def c33 : AFunc := ⟨9, [.tmp 4],
  .seq (.region [
    ⟨(some 3), .box (.t 1), none, []⟩,
    ⟨(some 4), .mv (.c (.bool false)), none, []⟩]) (
  .seq (.region [
    ⟨(some 5), .mv (.t 0), none, []⟩,
    ⟨(some 6), .mkfn 73 [.t 3], none, []⟩,
    ⟨(some 7), .call 72 [.t 5, .t 6], none, []⟩,
    ⟨(some 8), .un .not (.t 7), none, []⟩,
    ⟨(some 4), .mv (.t 8), none, []⟩]) (
  .ret)),
  .gc, false, false⟩
theorem k33 : compF Tryz.prog { mt := false, mtAt := [], mode := .gc, clArgs := false, clRes := false } Tryz.f33 = some c33 := by kernel_rfl
/- beaconry/printer.tuple -/
def c34 : AFunc := ⟨31, [.tmp 2],
  .seq (.region [
    ⟨(some 1), .box (.t 0), none, []⟩,
    ⟨(some 2), .mv (.c (.bool false)), none, []⟩]) (
  .seq (.region [
    ⟨(some 4), .faddr 1 (.t 1), none, []⟩,
    ⟨(some 5), .load 1 false (.t 4), none, []⟩,
    ⟨(some 6), .len false (.t 5), none, []⟩,
    ⟨(some 3), .mv (.t 6), none, []⟩]) (
  .seq (.region [
    ⟨(some 7), .faddr 0 (.t 1), none, []⟩,
    ⟨(some 8), .load 1 false (.t 7), none, []⟩,
    ⟨(some 9), .call 39 [.t 8], none, []⟩,
    ⟨(some 10), .mv (.t 9), none, []⟩,
    ⟨(some 11), .mv (.t 3), (some (10, true)), []⟩,
    ⟨(some 12), .bin .geq (.t 11) (.c (.int .i64 1)), (some (10, true)), []⟩,
    ⟨(some 13), .pick (.t 10) (.t 12) (.c (.bool false)), none, []⟩,
    ⟨(some 14), .mv (.t 13), none, []⟩,
    ⟨(some 15), .mv (.t 3), (some (14, true)), []⟩,
    ⟨(some 16), .bin .leq (.t 15) (.c (.int .i64 8)), (some (14, true)), []⟩,
    ⟨(some 17), .pick (.t 14) (.t 16) (.c (.bool false)), none, []⟩,
    ⟨(some 18), .mv (.t 17), none, []⟩,
    ⟨(some 19), .faddr 1 (.t 1), (some (18, true)), []⟩,
    ⟨(some 20), .load 1 false (.t 19), (some (18, true)), []⟩,
    ⟨(some 21), .iaddrS 4 (.t 20) (.c (.int .i64 0)), (some (18, true)), []⟩,
    ⟨(some 22), .faddr 0 (.t 21), (some (18, true)), []⟩,
    ⟨(some 23), .load 1 false (.t 22), (some (18, true)), []⟩,
    ⟨(some 24), .bin .eql (.t 23) (.c (.int .i64 3)), (some (18, true)), []⟩,
    ⟨(some 25), .pick (.t 18) (.t 24) (.c (.bool false)), none, []⟩,
    ⟨(some 26), .mv (.t 25), none, []⟩,
    ⟨(some 27), .faddr 1 (.t 1), (some (26, true)), []⟩,
    ⟨(some 28), .load 1 false (.t 27), (some (26, true)), []⟩,
    ⟨(some 29), .call 74 [.t 28, .f 75], (some (26, true)), []⟩,
    ⟨(some 30), .pick (.t 26) (.t 29) (.c (.bool false)), none, []⟩,
    ⟨(some 2), .mv (.t 30), none, []⟩]) (
  .ret))),
  .pure, true, true⟩
theorem k34 : compF Tryz.prog { mt := false, mtAt := [], mode := .pure, clArgs := true, clRes := true } Tryz.f34 = some c34 := by kernel_rfl
/- beaconry/printer.all[beaconry/api.Rule] -/
def c35 : AFunc := ⟨9, [.tmp 4],
  .seq (.region [
    ⟨(some 3), .box (.t 1), none, []⟩,
    ⟨(some 4), .mv (.c (.bool false)), none, []⟩]) (
  .seq (.region [
    ⟨(some 5), .mv (.t 0), none, []⟩,
    ⟨(some 6), .mkfn 77 [.t 3], none, []⟩,
    ⟨(some 7), .call 76 [.t 5, .t 6], none, []⟩,
    ⟨(some 8), .un .not (.t 7), none, []⟩,
    ⟨(some 4), .mv (.t 8), none, []⟩]) (
  .ret)),
  .gc, false, false⟩
theorem k35 : compF Tryz.prog { mt := false, mtAt := [], mode := .gc, clArgs := false, clRes := false } Tryz.f35 = some c35 := by kernel_rfl
/- beaconry/printer.rule -/
def c36 : AFunc := ⟨69, [.tmp 2],
  .seq (.region [
    ⟨(some 1), .box (.t 0), none, []⟩,
    ⟨(some 2), .mv (.c (.bool false)), none, []⟩]) (
  .seq (.seq (.region [
    ⟨(some 3), .faddr 0 (.t 1), none, []⟩,
    ⟨(some 4), .load 1 false (.t 3), none, []⟩,
    ⟨(some 5), .call 39 [.t 4], none, []⟩,
    ⟨(some 6), .un .not (.t 5), none, []⟩,
    ⟨(some 7), .mv (.t 6), none, []⟩,
    ⟨(some 8), .faddr 1 (.t 1), (some (7, false)), []⟩,
    ⟨(some 9), .load 1 false (.t 8), (some (7, false)), []⟩,
    ⟨(some 10), .call 39 [.t 9], (some (7, false)), []⟩,
    ⟨(some 11), .un .not (.t 10), (some (7, false)), []⟩,
    ⟨(some 12), .pick (.t 7) (.c (.bool true)) (.t 11), none, []⟩,
    ⟨(some 13), .mv (.t 12), none, []⟩,
    ⟨(some 14), .faddr 2 (.t 1), (some (13, false)), []⟩,
    ⟨(some 15), .load 1 false (.t 14), (some (13, false)), []⟩,
    ⟨(some 16), .call 78 [.t 15], (some (13, false)), []⟩,
    ⟨(some 17), .un .not (.t 16), (some (13, false)), []⟩,
    ⟨(some 18), .pick (.t 13) (.c (.bool true)) (.t 17), none, []⟩,
    ⟨(some 19), .mv (.t 18), none, []⟩,
    ⟨(some 20), .faddr 5 (.t 1), (some (19, false)), []⟩,
    ⟨(some 21), .load 1 false (.t 20), (some (19, false)), []⟩,
    ⟨(some 22), .len false (.t 21), (some (19, false)), []⟩,
    ⟨(some 23), .bin .lss (.t 22) (.c (.int .i64 1)), (some (19, false)), []⟩,
    ⟨(some 24), .pick (.t 19) (.c (.bool true)) (.t 23), none, []⟩,
    ⟨(some 25), .mv (.t 24), none, []⟩,
    ⟨(some 26), .faddr 5 (.t 1), (some (25, false)), []⟩,
    ⟨(some 27), .load 1 false (.t 26), (some (25, false)), []⟩,
    ⟨(some 28), .len false (.t 27), (some (25, false)), []⟩,
    ⟨(some 29), .bin .gtr (.t 28) (.c (.int .i64 8)), (some (25, false)), []⟩,
    ⟨(some 30), .pick (.t 25) (.c (.bool true)) (.t 29), none, []⟩,
    ⟨(some 31), .mv (.t 30), none, []⟩,
    ⟨(some 32), .faddr 5 (.t 1), (some (31, false)), []⟩,
    ⟨(some 33), .load 1 false (.t 32), (some (31, false)), []⟩,
    ⟨(some 34), .call 79 [.t 33, .f 56], (some (31, false)), []⟩,
    ⟨(some 35), .un .not (.t 34), (some (31, false)), []⟩,
    ⟨(some 36), .pick (.t 31) (.c (.bool true)) (.t 35), none, []⟩]) (
  .cond (.t 36) (
    .seq (.region [
      ⟨(some 2), .mv (.c (.bool false)), none, []⟩]) (
    .ret)) (
    .skip))) (
  .seq (.seq (.region [
    ⟨(some 37), .faddr 3 (.t 1), none, []⟩,
    ⟨(some 38), .load 1 false (.t 37), none, []⟩]) (
  .block 0 (
    .seq (.region [
      ⟨(some 40), .bin .eql (.t 38) (.c (.str ⟨#[]⟩)), none, []⟩,
      ⟨(some 39), .mv (.t 40), none, []⟩]) (
    .cond (.t 39) (
      .seq (.region [
        ⟨(some 41), .faddr 4 (.t 1), none, []⟩,
        ⟨(some 42), .load 1 false (.t 41), none, []⟩,
        ⟨(some 43), .bin .eql (.t 42) (.c (.int .i64 0)), none, []⟩,
        ⟨(some 2), .mv (.t 43), none, []⟩]) (
      .ret)) (
      .seq (.seq (.region [
        ⟨(some 45), .bin .eql (.t 38) (.c (.str ⟨#[109, 105, 110]⟩)), none, []⟩,
        ⟨(some 44), .mv (.t 45), none, []⟩]) (
      .cond (.t 44) (
        .skip) (
        .seq (.region [
          ⟨(some 46), .bin .eql (.t 38) (.c (.str ⟨#[109, 97, 120]⟩)), none, []⟩,
          ⟨(some 44), .mv (.t 46), none, []⟩]) (
        .cond (.t 44) (
          .skip) (
          .region [
            ⟨(some 47), .bin .eql (.t 38) (.c (.str ⟨#[99, 111, 117, 110, 116]⟩)), none, []⟩,
            ⟨(some 44), .mv (.t 47), none, []⟩]))))) (
      .cond (.t 44) (
        .seq (.region [
          ⟨(some 48), .faddr 4 (.t 1), none, []⟩,
          ⟨(some 49), .load 1 false (.t 48), none, []⟩,
          ⟨(some 50), .bin .geq (.t 49) (.c (.int .i64 1)), none, []⟩,
          ⟨(some 51), .mv (.t 50), none, []⟩,
          ⟨(some 52), .faddr 4 (.t 1), (some (51, true)), []⟩,
          ⟨(some 53), .load 1 false (.t 52), (some (51, true)), []⟩,
          ⟨(some 54), .faddr 2 (.t 1), (some (51, true)), []⟩,
          ⟨(some 55), .load 1 false (.t 54), (some (51, true)), []⟩,
          ⟨(some 56), .len false (.t 55), (some (51, true)), []⟩,
          ⟨(some 57), .bin .lss (.t 53) (.t 56), (some (51, true)), []⟩,
          ⟨(some 58), .pick (.t 51) (.t 57) (.c (.bool false)), none, []⟩,
          ⟨(some 59), .mv (.t 58), none, []⟩,
          ⟨(some 60), .faddr 2 (.t 1), (some (59, true)), []⟩,
          ⟨(some 61), .load 1 false (.t 60), (some (59, true)), []⟩,
          ⟨(some 62), .faddr 4 (.t 1), (some (59, true)), []⟩,
          ⟨(some 63), .load 1 false (.t 62), (some (59, true)), []⟩,
          ⟨(some 64), .iaddrS 7 (.t 61) (.t 63), (some (59, true)), []⟩,
          ⟨(some 65), .faddr 0 (.t 64), (some (59, true)), []⟩,
          ⟨(some 66), .load 1 false (.t 65), (some (59, true)), []⟩,
          ⟨(some 67), .bin .eql (.t 66) (.c (.int .i64 1)), (some (59, true)), []⟩,
          ⟨(some 68), .pick (.t 59) (.t 67) (.c (.bool false)), none, []⟩,
          ⟨(some 2), .mv (.t 68), none, []⟩]) (
        .ret)) (
        .skip))))))) (
  .seq (.region [
    ⟨(some 2), .mv (.c (.bool false)), none, []⟩]) (
  .ret)))),
  .pure, true, true⟩
theorem k36 : compF Tryz.prog { mt := false, mtAt := [], mode := .pure, clArgs := true, clRes := true } Tryz.f36 = some c36 := by kernel_rfl
/- beaconry/printer.all[beaconry/api.Decl] -/
def c37 : AFunc := ⟨9, [.tmp 4],
  .seq (.region [
    ⟨(some 3), .box (.t 1), none, []⟩,
    ⟨(some 4), .mv (.c (.bool false)), none, []⟩]) (
  .seq (.region [
    ⟨(some 5), .mv (.t 0), none, []⟩,
    ⟨(some 6), .mkfn 81 [.t 3], none, []⟩,
    ⟨(some 7), .call 80 [.t 5, .t 6], none, []⟩,
    ⟨(some 8), .un .not (.t 7), none, []⟩,
    ⟨(some 4), .mv (.t 8), none, []⟩]) (
  .ret)),
  .gc, false, false⟩
theorem k37 : compF Tryz.prog { mt := false, mtAt := [], mode := .gc, clArgs := false, clRes := false } Tryz.f37 = some c37 := by kernel_rfl
/- beaconry/printer.Right$1 -/
def c38 : AFunc := ⟨16, [.tmp 2],
  .seq (.region [
    ⟨(some 1), .box (.t 0), none, []⟩,
    ⟨(some 2), .mv (.c (.bool false)), none, []⟩]) (
  .seq (.region [
    ⟨(some 3), .faddr 0 (.t 1), none, []⟩,
    ⟨(some 4), .load 1 false (.t 3), none, []⟩,
    ⟨(some 5), .call 39 [.t 4], none, []⟩,
    ⟨(some 6), .mv (.t 5), none, []⟩,
    ⟨(some 7), .faddr 1 (.t 1), (some (6, true)), []⟩,
    ⟨(some 8), .load 1 false (.t 7), (some (6, true)), []⟩,
    ⟨(some 9), .bin .geq (.t 8) (.c (.int .i64 1)), (some (6, true)), []⟩,
    ⟨(some 10), .pick (.t 6) (.t 9) (.c (.bool false)), none, []⟩,
    ⟨(some 11), .mv (.t 10), none, []⟩,
    ⟨(some 12), .faddr 1 (.t 1), (some (11, true)), []⟩,
    ⟨(some 13), .load 1 false (.t 12), (some (11, true)), []⟩,
    ⟨(some 14), .bin .leq (.t 13) (.c (.int .i64 8)), (some (11, true)), []⟩,
    ⟨(some 15), .pick (.t 11) (.t 14) (.c (.bool false)), none, []⟩,
    ⟨(some 2), .mv (.t 15), none, []⟩]) (
  .ret)),
  .pure, true, true⟩
theorem k38 : compF Tryz.prog { mt := false, mtAt := [], mode := .pure, clArgs := true, clRes := true } Tryz.f38 = some c38 := by kernel_rfl
/- beaconry/printer.relation -/
def c39 : AFunc := ⟨14, [.tmp 2],
  .seq (.region [
    ⟨(some 2), .mv (.c (.bool false)), none, []⟩]) (
  .seq (.region [
    ⟨(some 3), .mv (.t 0), none, []⟩,
    ⟨(some 4), .call 82 [.t 3], none, []⟩,
    ⟨(some 5), .mv (.t 4), none, []⟩,
    ⟨(some 6), .mv (.t 0), (some (5, true)), []⟩,
    ⟨(some 7), .call 83 [.t 6], (some (5, true)), []⟩,
    ⟨(some 8), .bin .lss (.t 7) (.c (.int .i64 0)), (some (5, true)), []⟩,
    ⟨(some 9), .pick (.t 5) (.t 8) (.c (.bool false)), none, []⟩,
    ⟨(some 10), .mv (.t 9), none, []⟩,
    ⟨(some 11), .mv (.t 0), (some (10, true)), []⟩,
    ⟨(some 12), .bin .neq (.t 11) (.c (.str ⟨#[109, 97, 116, 101, 114, 105, 97, 108, 105, 122, 101]⟩)), (some (10, true)), []⟩,
    ⟨(some 13), .pick (.t 10) (.t 12) (.c (.bool false)), none, []⟩,
    ⟨(some 2), .mv (.t 13), none, []⟩]) (
  .ret)),
  .pure, true, true⟩
theorem k39 : compF Tryz.prog { mt := false, mtAt := [], mode := .pure, clArgs := true, clRes := true } Tryz.f39 = some c39 := by kernel_rfl
/- beaconry/printer.text[beaconry/api.Program] -/
def c40 : AFunc := ⟨15, [.tmp 6],
  .seq (.region [
    ⟨(some 4), .box (.t 1), none, []⟩,
    ⟨(some 6), .mv (.c (.str ⟨#[]⟩)), none, []⟩]) (
  .seq (.seq (.region [
    ⟨(some 8), .mv (.t 0), none, []⟩,
    ⟨(some 9), .un .not (.t 8), none, []⟩]) (
  .cond (.t 9) (
    .seq (.region [
      ⟨(some 6), .mv (.c (.str ⟨#[]⟩)), none, []⟩]) (
    .ret)) (
    .skip))) (
  .seq (.region [
    ⟨(some 7), .allocB 80 5, none, []⟩]) (
  .seq (.region [
    ⟨(some 10), .mv (.t 2), none, []⟩,
    ⟨(some 11), .load 3 true (.t 4), none, []⟩,
    ⟨(some 12), .callv (.t 10) [.t 7, .t 11], none, []⟩]) (
  .seq (.region [
    ⟨(some 13), .faddr 0 (.t 7), none, []⟩,
    ⟨(some 14), .call 84 [.t 13], none, []⟩,
    ⟨(some 6), .mv (.t 14), none, []⟩]) (
  .ret))))),
  .pure, true, true⟩
theorem k40 : compF Tryz.prog { mt := false, mtAt := [], mode := .pure, clArgs := true, clRes := true } Tryz.f40 = some c40 := by kernel_rfl
/- beaconry/printer.Print$1 -/
def c41 : AFunc := ⟨61, [],
  .seq (.region [
    ⟨(some 3), .box (.t 1), none, []⟩]) (
  .seq (.seq (.region [
    ⟨(some 10), .faddr 0 (.t 3), none, []⟩,
    ⟨(some 11), .load 1 false (.t 10), none, []⟩,
    ⟨(some 12), .len false (.t 11), none, []⟩,
    ⟨(some 13), .mv (.c (.int .i64 0)), none, []⟩]) (
  .block 0 (
    .loop (
      .seq (.region [
        ⟨(some 14), .bin .lss (.t 13) (.t 12), none, []⟩]) (
      .seq (.cond (.t 14) (
        .skip) (
        .exit 0)) (
      .seq (.block 1 (
        .seq (.region [
          ⟨(some 15), .iaddrS 2 (.t 11) (.t 13), none, []⟩,
          ⟨(some 16), .load 2 true (.t 15), none, []⟩,
          ⟨(some 5), .alloc [.str ⟨#[]⟩, .int .i64 0], none, []⟩,
          ⟨none, .store 2 (.t 5) (.t 16), none, []⟩]) (
        .region [
          ⟨(some 17), .mv (.t 0), none, []⟩,
          ⟨(some 18), .nilck (.t 17), none, []⟩,
          ⟨(some 19), .faddr 0 (.t 18), none, []⟩,
          ⟨(some 20), .faddr 0 (.t 5), none, []⟩,
          ⟨(some 21), .load 1 false (.t 20), none, []⟩,
          ⟨(some 22), .bin .add (.c (.str ⟨#[109, 97, 116, 101, 114, 105, 97, 108, 105, 122, 101, 40]⟩)) (.t 21), none, []⟩,
          ⟨(some 23), .bin .add (.t 22) (.c (.str ⟨#[44]⟩)), none, []⟩,
          ⟨(some 24), .faddr 1 (.t 5), none, []⟩,
          ⟨(some 25), .load 1 false (.t 24), none, []⟩,
          ⟨(some 26), .call 43 [.t 25], none, [.t 20]⟩,
          ⟨(some 27), .bin .add (.t 23) (.t 26), none, []⟩,
          ⟨(some 28), .bin .add (.t 27) (.c (.str ⟨#[41, 46, 10]⟩)), none, []⟩,
          ⟨(some 29), .call 42 [.t 19, .t 28], none, []⟩]))) (
      .region [
        ⟨(some 30), .bin .add (.t 13) (.c (.int .i64 1)), none, []⟩,
        ⟨(some 13), .mv (.t 30), none, []⟩]))))))) (
  .seq (.seq (.region [
    ⟨(some 31), .faddr 1 (.t 3), none, []⟩,
    ⟨(some 32), .load 1 false (.t 31), none, []⟩,
    ⟨(some 33), .len false (.t 32), none, []⟩,
    ⟨(some 34), .mv (.c (.int .i64 0)), none, []⟩]) (
  .block 2 (
    .loop (
      .seq (.region [
        ⟨(some 35), .bin .lss (.t 34) (.t 33), none, []⟩]) (
      .seq (.cond (.t 35) (
        .skip) (
        .exit 2)) (
      .seq (.block 3 (
        .seq (.region [
          ⟨(some 36), .iaddrS 2 (.t 32) (.t 34), none, []⟩,
          ⟨(some 37), .load 2 true (.t 36), none, []⟩,
          ⟨(some 7), .alloc [.str ⟨#[]⟩, .isl [] true], none, []⟩,
          ⟨none, .store 2 (.t 7) (.t 37), none, []⟩]) (
        .seq (.region [
          ⟨(some 38), .mv (.t 0), none, []⟩,
          ⟨(some 39), .load 2 true (.t 7), none, []⟩,
          ⟨(some 40), .call 44 [.t 38, .t 39], none, []⟩]) (
        .region [
          ⟨(some 41), .mv (.t 0), none, []⟩,
          ⟨(some 42), .nilck (.t 41), none, []⟩,
          ⟨(some 43), .faddr 0 (.t 42), none, []⟩,
          ⟨(some 44), .call 45 [.t 43, .c (.int .u8 10)], none, []⟩])))) (
      .region [
        ⟨(some 45), .bin .add (.t 34) (.c (.int .i64 1)), none, []⟩,
        ⟨(some 34), .mv (.t 45), none, []⟩]))))))) (
  .seq (.region [
    ⟨(some 46), .faddr 2 (.t 3), none, []⟩,
    ⟨(some 47), .load 1 false (.t 46), none, []⟩,
    ⟨(some 48), .len false (.t 47), none, []⟩,
    ⟨(some 49), .mv (.c (.int .i64 0)), none, []⟩]) (
  .block 4 (
    .loop (
      .seq (.region [
        ⟨(some 50), .bin .lss (.t 49) (.t 48), none, []⟩]) (
      .seq (.cond (.t 50) (
        .skip) (
        .exit 4)) (
      .seq (.block 5 (
        .seq (.region [
          ⟨(some 51), .iaddrS 6 (.t 47) (.t 49), none, []⟩,
          ⟨(some 52), .load 6 true (.t 51), none, []⟩,
          ⟨(some 9), .alloc [.str ⟨#[]⟩, .str ⟨#[]⟩, .isl [] true, .str ⟨#[]⟩, .int .i64 0, .isl [] true], none, []⟩,
          ⟨none, .store 6 (.t 9) (.t 52), none, []⟩]) (
        .seq (.region [
          ⟨(some 53), .mv (.t 0), none, []⟩,
          ⟨(some 54), .load 6 true (.t 9), none, []⟩,
          ⟨(some 55), .call 46 [.t 53, .t 54], none, []⟩]) (
        .region [
          ⟨(some 56), .mv (.t 0), none, []⟩,
          ⟨(some 57), .nilck (.t 56), none, []⟩,
          ⟨(some 58), .faddr 0 (.t 57), none, []⟩,
          ⟨(some 59), .call 45 [.t 58, .c (.int .u8 10)], none, []⟩])))) (
      .region [
        ⟨(some 60), .bin .add (.t 49) (.c (.int .i64 1)), none, []⟩,
        ⟨(some 49), .mv (.t 60), none, []⟩]))))))))),
  .gc, false, false⟩
theorem k41 : compF Tryz.prog { mt := false, mtAt := [], mode := .gc, clArgs := false, clRes := false } Tryz.f41 = some c41 := by kernel_rfl
/- 42 (*strings.Builder).WriteString: told elsewhere -/
/- 43 strconv.Itoa: told elsewhere -/
/- (*beaconry/printer.writer).tuple -/
def c44 : AFunc := ⟨20, [],
  .seq (.region [
    ⟨(some 2), .box (.t 0), none, []⟩,
    ⟨(some 3), .box (.t 1), none, []⟩]) (
  .seq (.region [
    ⟨(some 4), .load 1 false (.t 2), none, []⟩,
    ⟨(some 5), .nilck (.t 4), none, []⟩,
    ⟨(some 6), .faddr 0 (.t 5), none, []⟩,
    ⟨(some 7), .faddr 0 (.t 3), none, []⟩,
    ⟨(some 8), .load 1 false (.t 7), none, []⟩,
    ⟨(some 9), .bin .add (.t 8) (.c (.str ⟨#[40, 64]⟩)), none, []⟩,
    ⟨(some 10), .call 42 [.t 6, .t 9], none, []⟩]) (
  .seq (.region [
    ⟨(some 11), .load 1 false (.t 2), none, []⟩,
    ⟨(some 12), .faddr 1 (.t 3), none, []⟩,
    ⟨(some 13), .load 1 false (.t 12), none, []⟩,
    ⟨(some 14), .mkfn 88 [.t 2], none, []⟩,
    ⟨(some 15), .call 87 [.t 11, .t 13, .c (.str ⟨#[44]⟩), .t 14], none, []⟩]) (
  .region [
    ⟨(some 16), .load 1 false (.t 2), none, []⟩,
    ⟨(some 17), .nilck (.t 16), none, []⟩,
    ⟨(some 18), .faddr 0 (.t 17), none, []⟩,
    ⟨(some 19), .call 42 [.t 18, .c (.str ⟨#[41, 46]⟩)], none, []⟩]))),
  .gc, false, false⟩
theorem k44 : compF Tryz.prog { mt := false, mtAt := [], mode := .gc, clArgs := false, clRes := false } Tryz.f44 = some c44 := by kernel_rfl
/- 45 (*strings.Builder).WriteByte: told elsewhere -/
/- (*beaconry/printer.writer).rule -/
def c46 : AFunc := ⟨34, [],
  .seq (.region [
    ⟨(some 2), .box (.t 0), none, []⟩,
    ⟨(some 3), .box (.t 1), none, []⟩]) (
  .seq (.region [
    ⟨(some 4), .load 1 false (.t 2), none, []⟩,
    ⟨(some 5), .nilck (.t 4), none, []⟩,
    ⟨(some 6), .faddr 0 (.t 5), none, []⟩,
    ⟨(some 7), .faddr 0 (.t 3), none, []⟩,
    ⟨(some 8), .load 1 false (.t 7), none, []⟩,
    ⟨(some 9), .bin .add (.t 8) (.c (.str ⟨#[32]⟩)), none, []⟩,
    ⟨(some 10), .call 42 [.t 6, .t 9], none, []⟩]) (
  .seq (.region [
    ⟨(some 11), .load 1 false (.t 2), none, []⟩,
    ⟨(some 12), .faddr 1 (.t 3), none, []⟩,
    ⟨(some 13), .load 1 false (.t 12), none, []⟩,
    ⟨(some 14), .faddr 2 (.t 3), none, []⟩,
    ⟨(some 15), .load 1 false (.t 14), none, []⟩,
    ⟨(some 16), .faddr 3 (.t 3), none, []⟩,
    ⟨(some 17), .load 1 false (.t 16), none, []⟩,
    ⟨(some 18), .faddr 4 (.t 3), none, []⟩,
    ⟨(some 19), .load 1 false (.t 18), none, []⟩,
    ⟨(some 20), .call 90 [.t 11, .t 13, .t 15, .t 17, .t 19], none, []⟩]) (
  .seq (.region [
    ⟨(some 21), .load 1 false (.t 2), none, []⟩,
    ⟨(some 22), .nilck (.t 21), none, []⟩,
    ⟨(some 23), .faddr 0 (.t 22), none, []⟩,
    ⟨(some 24), .call 42 [.t 23, .c (.str ⟨#[32, 58, 45, 32]⟩)], none, []⟩]) (
  .seq (.region [
    ⟨(some 25), .load 1 false (.t 2), none, []⟩,
    ⟨(some 26), .faddr 5 (.t 3), none, []⟩,
    ⟨(some 27), .load 1 false (.t 26), none, []⟩,
    ⟨(some 28), .mkfn 92 [.t 2], none, []⟩,
    ⟨(some 29), .call 91 [.t 25, .t 27, .c (.str ⟨#[44, 32]⟩), .t 28], none, []⟩]) (
  .region [
    ⟨(some 30), .load 1 false (.t 2), none, []⟩,
    ⟨(some 31), .nilck (.t 30), none, []⟩,
    ⟨(some 32), .faddr 0 (.t 31), none, []⟩,
    ⟨(some 33), .call 45 [.t 32, .c (.int .u8 46)], none, []⟩]))))),
  .gc, false, false⟩
theorem k46 : compF Tryz.prog { mt := false, mtAt := [], mode := .gc, clArgs := false, clRes := false } Tryz.f46 = some c46 := by kernel_rfl
/- beaconry/beaconrylaw04.SameTuple -/
def c47 : AFunc := ⟨17, [.tmp 4],
  .seq (.region [
    ⟨(some 2), .box (.t 0), none, []⟩,
    ⟨(some 3), .box (.t 1), none, []⟩,
    ⟨(some 4), .mv (.c (.bool false)), none, []⟩]) (
  .seq (.region [
    ⟨(some 5), .faddr 0 (.t 2), none, []⟩,
    ⟨(some 6), .load 1 false (.t 5), none, []⟩,
    ⟨(some 7), .faddr 0 (.t 3), none, []⟩,
    ⟨(some 8), .load 1 false (.t 7), none, []⟩,
    ⟨(some 9), .bin .eql (.t 6) (.t 8), none, []⟩,
    ⟨(some 10), .mv (.t 9), none, []⟩,
    ⟨(some 11), .faddr 1 (.t 2), (some (10, true)), []⟩,
    ⟨(some 12), .load 1 false (.t 11), (some (10, true)), []⟩,
    ⟨(some 13), .faddr 1 (.t 3), (some (10, true)), []⟩,
    ⟨(some 14), .load 1 false (.t 13), (some (10, true)), []⟩,
    ⟨(some 15), .call 93 [.t 12, .t 14], (some (10, true)), []⟩,
    ⟨(some 16), .pick (.t 10) (.t 15) (.c (.bool false)), none, []⟩,
    ⟨(some 4), .mv (.t 16), none, []⟩]) (
  .ret)),
  .pure, true, true⟩
theorem k47 : compF Tryz.prog { mt := false, mtAt := [], mode := .pure, clArgs := true, clRes := true } Tryz.f47 = some c47 := by kernel_rfl
/- beaconry/beaconrylaw04.SameRule -/
def c48 : AFunc := ⟨45, [.tmp 4],
  .seq (.region [
    ⟨(some 2), .box (.t 0), none, []⟩,
    ⟨(some 3), .box (.t 1), none, []⟩,
    ⟨(some 4), .mv (.c (.bool false)), none, []⟩]) (
  .seq (.region [
    ⟨(some 5), .faddr 0 (.t 2), none, []⟩,
    ⟨(some 6), .load 1 false (.t 5), none, []⟩,
    ⟨(some 7), .faddr 0 (.t 3), none, []⟩,
    ⟨(some 8), .load 1 false (.t 7), none, []⟩,
    ⟨(some 9), .bin .eql (.t 6) (.t 8), none, []⟩,
    ⟨(some 10), .mv (.t 9), none, []⟩,
    ⟨(some 11), .faddr 1 (.t 2), (some (10, true)), []⟩,
    ⟨(some 12), .load 1 false (.t 11), (some (10, true)), []⟩,
    ⟨(some 13), .faddr 1 (.t 3), (some (10, true)), []⟩,
    ⟨(some 14), .load 1 false (.t 13), (some (10, true)), []⟩,
    ⟨(some 15), .bin .eql (.t 12) (.t 14), (some (10, true)), []⟩,
    ⟨(some 16), .pick (.t 10) (.t 15) (.c (.bool false)), none, []⟩,
    ⟨(some 17), .mv (.t 16), none, []⟩,
    ⟨(some 18), .faddr 3 (.t 2), (some (17, true)), []⟩,
    ⟨(some 19), .load 1 false (.t 18), (some (17, true)), []⟩,
    ⟨(some 20), .faddr 3 (.t 3), (some (17, true)), []⟩,
    ⟨(some 21), .load 1 false (.t 20), (some (17, true)), []⟩,
    ⟨(some 22), .bin .eql (.t 19) (.t 21), (some (17, true)), []⟩,
    ⟨(some 23), .pick (.t 17) (.t 22) (.c (.bool false)), none, []⟩,
    ⟨(some 24), .mv (.t 23), none, []⟩,
    ⟨(some 25), .faddr 4 (.t 2), (some (24, true)), []⟩,
    ⟨(some 26), .load 1 false (.t 25), (some (24, true)), []⟩,
    ⟨(some 27), .faddr 4 (.t 3), (some (24, true)), []⟩,
    ⟨(some 28), .load 1 false (.t 27), (some (24, true)), []⟩,
    ⟨(some 29), .bin .eql (.t 26) (.t 28), (some (24, true)), []⟩,
    ⟨(some 30), .pick (.t 24) (.t 29) (.c (.bool false)), none, []⟩,
    ⟨(some 31), .mv (.t 30), none, []⟩,
    ⟨(some 32), .faddr 2 (.t 2), (some (31, true)), []⟩,
    ⟨(some 33), .load 1 false (.t 32), (some (31, true)), []⟩,
    ⟨(some 34), .faddr 2 (.t 3), (some (31, true)), []⟩,
    ⟨(some 35), .load 1 false (.t 34), (some (31, true)), []⟩,
    ⟨(some 36), .call 17 [.t 33, .t 35], (some (31, true)), []⟩,
    ⟨(some 37), .pick (.t 31) (.t 36) (.c (.bool false)), none, []⟩,
    ⟨(some 38), .mv (.t 37), none, []⟩,
    ⟨(some 39), .faddr 5 (.t 2), (some (38, true)), []⟩,
    ⟨(some 40), .load 1 false (.t 39), (some (38, true)), []⟩,
    ⟨(some 41), .faddr 5 (.t 3), (some (38, true)), []⟩,
    ⟨(some 42), .load 1 false (.t 41), (some (38, true)), []⟩,
    ⟨(some 43), .call 19 [.t 40, .t 42], (some (38, true)), []⟩,
    ⟨(some 44), .pick (.t 38) (.t 43) (.c (.bool false)), none, []⟩,
    ⟨(some 4), .mv (.t 44), none, []⟩]) (
  .ret)),
  .pure, true, true⟩
theorem k48 : compF Tryz.prog { mt := false, mtAt := [], mode := .pure, clArgs := true, clRes := true } Tryz.f48 = some c48 := by kernel_rfl
/- beaconry/beaconryref02.Arity -/
def c49 : AFunc := ⟨15, [.tmp 2],
  .seq (.region [
    ⟨(some 2), .mv (.c (.int .i64 0)), none, []⟩]) (
  .seq (.seq (.region [
    ⟨(some 3), .mv (.t 0), none, []⟩]) (
  .block 0 (
    .seq (.seq (.region [
      ⟨(some 5), .bin .eql (.t 3) (.c (.str ⟨#[102, 95, 99, 111, 110, 115]⟩)), none, []⟩,
      ⟨(some 4), .mv (.t 5), none, []⟩]) (
    .cond (.t 4) (
      .skip) (
      .seq (.region [
        ⟨(some 6), .bin .eql (.t 3) (.c (.str ⟨#[102, 95, 97, 112, 112, 101, 110, 100]⟩)), none, []⟩,
        ⟨(some 4), .mv (.t 6), none, []⟩]) (
      .cond (.t 4) (
        .skip) (
        .seq (.region [
          ⟨(some 7), .bin .eql (.t 3) (.c (.str ⟨#[102, 95, 99, 111, 110, 99, 97, 116]⟩)), none, []⟩,
          ⟨(some 4), .mv (.t 7), none, []⟩]) (
        .cond (.t 4) (
          .skip) (
          .region [
            ⟨(some 8), .bin .eql (.t 3) (.c (.str ⟨#[102, 95, 109, 101, 109, 98, 101, 114]⟩)), none, []⟩,
            ⟨(some 4), .mv (.t 8), none, []⟩]))))))) (
    .cond (.t 4) (
      .seq (.region [
        ⟨(some 2), .mv (.c (.int .i64 2)), none, []⟩]) (
      .ret)) (
      .seq (.seq (.region [
        ⟨(some 10), .bin .eql (.t 3) (.c (.str ⟨#[102, 95, 115, 105, 122, 101]⟩)), none, []⟩,
        ⟨(some 9), .mv (.t 10), none, []⟩]) (
      .cond (.t 9) (
        .skip) (
        .seq (.region [
          ⟨(some 11), .bin .eql (.t 3) (.c (.str ⟨#[102, 95, 102, 105, 114, 115, 116]⟩)), none, []⟩,
          ⟨(some 9), .mv (.t 11), none, []⟩]) (
        .cond (.t 9) (
          .skip) (
          .seq (.region [
            ⟨(some 12), .bin .eql (.t 3) (.c (.str ⟨#[102, 95, 108, 97, 115, 116]⟩)), none, []⟩,
            ⟨(some 9), .mv (.t 12), none, []⟩]) (
          .cond (.t 9) (
            .skip) (
            .seq (.region [
              ⟨(some 13), .bin .eql (.t 3) (.c (.str ⟨#[102, 95, 114, 101, 115, 116]⟩)), none, []⟩,
              ⟨(some 9), .mv (.t 13), none, []⟩]) (
            .cond (.t 9) (
              .skip) (
              .region [
                ⟨(some 14), .bin .eql (.t 3) (.c (.str ⟨#[102, 95, 114, 101, 118, 101, 114, 115, 101]⟩)), none, []⟩,
                ⟨(some 9), .mv (.t 14), none, []⟩]))))))))) (
      .cond (.t 9) (
        .seq (.region [
          ⟨(some 2), .mv (.c (.int .i64 1)), none, []⟩]) (
        .ret)) (
        .skip))))))) (
  .seq (.region [
    ⟨(some 2), .mv (.c (.int .i64 (-1))), none, []⟩]) (
  .ret))),
  .pure, true, true⟩
theorem k49 : compF Tryz.prog { mt := false, mtAt := [], mode := .pure, clArgs := true, clRes := true } Tryz.f49 = some c49 := by kernel_rfl
/- beaconry/beaconrylaw04.term -/
def c50 : AFunc := ⟨15, [.cell 4 7 true],
  .seq (.region [
    ⟨(some 4), .alloc [.int .i64 0, .str ⟨#[]⟩, .int .i64 0, .int .i64 0, .str ⟨#[]⟩, .isl [] true, .isl [] true], none, []⟩]) (
  .seq (.seq (.region [
    ⟨(some 5), .mv (.t 1), none, []⟩,
    ⟨(some 6), .mv (.t 0), none, []⟩,
    ⟨(some 7), .len false (.t 6), none, []⟩,
    ⟨(some 8), .bin .lss (.t 5) (.t 7), none, []⟩]) (
  .cond (.t 8) (
    .seq (.region [
      ⟨(some 9), .mv (.t 0), none, []⟩,
      ⟨(some 10), .mv (.t 1), none, []⟩,
      ⟨(some 11), .iaddrS 7 (.t 9) (.t 10), none, []⟩,
      ⟨(some 12), .load 7 true (.t 11), none, []⟩,
      ⟨(some 13), .call 14 [.t 12, .c (.int .i64 8)], none, []⟩,
      ⟨none, .store 7 (.t 4) (.t 13), none, []⟩]) (
    .ret)) (
    .skip))) (
  .seq (.region [
    ⟨(some 14), .build [.int .i64 0, .str ⟨#[]⟩, .int .i64 0, .int .i64 0, .str ⟨#[]⟩, .isl [] true, .isl [] true] [(0, 1, .c (.int .i64 1)), (1, 1, .c (.str ⟨#[88]⟩))], none, []⟩,
    ⟨none, .store 7 (.t 4) (.t 14), none, []⟩]) (
  .ret))),
  .pure, true, true⟩
theorem k50 : compF Tryz.prog { mt := false, mtAt := [], mode := .pure, clArgs := true, clRes := true } Tryz.f50 = some c50 := by kernel_rfl
/- beaconry/printer.text[beaconry/api.Term] -/
def c51 : AFunc := ⟨15, [.tmp 6],
  .seq (.region [
    ⟨(some 4), .box (.t 1), none, []⟩,
    ⟨(some 6), .mv (.c (.str ⟨#[]⟩)), none, []⟩]) (
  .seq (.seq (.region [
    ⟨(some 8), .mv (.t 0), none, []⟩,
    ⟨(some 9), .un .not (.t 8), none, []⟩]) (
  .cond (.t 9) (
    .seq (.region [
      ⟨(some 6), .mv (.c (.str ⟨#[]⟩)), none, []⟩]) (
    .ret)) (
    .skip))) (
  .seq (.region [
    ⟨(some 7), .allocB 80 5, none, []⟩]) (
  .seq (.region [
    ⟨(some 10), .mv (.t 2), none, []⟩,
    ⟨(some 11), .load 7 true (.t 4), none, []⟩,
    ⟨(some 12), .callv (.t 10) [.t 7, .t 11], none, []⟩]) (
  .seq (.region [
    ⟨(some 13), .faddr 0 (.t 7), none, []⟩,
    ⟨(some 14), .call 84 [.t 13], none, []⟩,
    ⟨(some 6), .mv (.t 14), none, []⟩]) (
  .ret))))),
  .pure, true, true⟩
theorem k51 : compF Tryz.prog { mt := false, mtAt := [], mode := .pure, clArgs := true, clRes := true } Tryz.f51 = some c51 := by kernel_rfl
/- beaconry/printer.fine -/
def c52 : AFunc := ⟨5, [.tmp 2],
  .seq (.region [
    ⟨(some 1), .box (.t 0), none, []⟩,
    ⟨(some 2), .mv (.c (.bool false)), none, []⟩]) (
  .seq (.region [
    ⟨(some 3), .load 7 true (.t 1), none, []⟩,
    ⟨(some 4), .call 94 [.t 3, .c (.int .i64 8)], none, []⟩,
    ⟨(some 2), .mv (.t 4), none, []⟩]) (
  .ret)),
  .pure, true, true⟩
theorem k52 : compF Tryz.prog { mt := false, mtAt := [], mode := .pure, clArgs := true, clRes := true } Tryz.f52 = some c52 := by kernel_rfl
/- (*beaconry/printer.writer).term -/
def c53 : AFunc := ⟨48, [],
  .seq (.region [
    ⟨(some 2), .box (.t 0), none, []⟩,
    ⟨(some 3), .box (.t 1), none, []⟩]) (
  .seq (.region [
    ⟨(some 4), .mv (.c (.str ⟨#[44]⟩)), none, []⟩]) (
  .seq (.seq (.region [
    ⟨(some 5), .faddr 0 (.t 3), none, []⟩,
    ⟨(some 6), .load 1 false (.t 5), none, []⟩]) (
  .block 0 (
    .seq (.region [
      ⟨(some 10), .bin .eql (.t 6) (.c (.int .i64 1)), none, []⟩,
      ⟨(some 9), .mv (.t 10), none, []⟩]) (
    .cond (.t 9) (
      .seq (.region [
        ⟨(some 11), .load 1 false (.t 2), none, []⟩,
        ⟨(some 12), .nilck (.t 11), none, []⟩,
        ⟨(some 13), .faddr 0 (.t 12), none, []⟩,
        ⟨(some 14), .faddr 1 (.t 3), none, []⟩,
        ⟨(some 15), .load 1 false (.t 14), none, []⟩,
        ⟨(some 16), .call 42 [.t 13, .t 15], none, []⟩]) (
      .ret)) (
      .seq (.region [
        ⟨(some 18), .bin .eql (.t 6) (.c (.int .i64 2)), none, []⟩,
        ⟨(some 17), .mv (.t 18), none, []⟩]) (
      .cond (.t 17) (
        .seq (.region [
          ⟨(some 19), .load 1 false (.t 2), none, []⟩,
          ⟨(some 20), .nilck (.t 19), none, []⟩,
          ⟨(some 21), .faddr 0 (.t 20), none, []⟩,
          ⟨(some 22), .faddr 2 (.t 3), none, []⟩,
          ⟨(some 23), .load 4 true (.t 22), none, []⟩,
          ⟨(some 24), .call 89 [.t 23], none, [.t 2]⟩,
          ⟨(some 25), .call 42 [.t 21, .t 24], none, []⟩]) (
        .ret)) (
        .seq (.region [
          ⟨(some 27), .bin .eql (.t 6) (.c (.int .i64 3)), none, []⟩,
          ⟨(some 26), .mv (.t 27), none, []⟩]) (
        .cond (.t 26) (
          .region [
            ⟨(some 28), .load 1 false (.t 2), none, []⟩,
            ⟨(some 29), .nilck (.t 28), none, []⟩,
            ⟨(some 30), .faddr 0 (.t 29), none, []⟩,
            ⟨(some 31), .faddr 1 (.t 3), none, []⟩,
            ⟨(some 32), .load 1 false (.t 31), none, []⟩,
            ⟨(some 33), .call 42 [.t 30, .t 32], none, []⟩]) (
          .region [
            ⟨(some 7), .faddr 1 (.t 3), none, []⟩,
            ⟨(some 8), .load 1 false (.t 7), none, []⟩,
            ⟨(some 4), .mv (.t 8), none, []⟩]))))))))) (
  .seq (.region [
    ⟨(some 34), .load 1 false (.t 2), none, []⟩,
    ⟨(some 35), .nilck (.t 34), none, []⟩,
    ⟨(some 36), .faddr 0 (.t 35), none, []⟩,
    ⟨(some 37), .call 45 [.t 36, .c (.int .u8 40)], none, []⟩]) (
  .seq (.region [
    ⟨(some 38), .load 1 false (.t 2), none, []⟩,
    ⟨(some 39), .faddr 6 (.t 3), none, []⟩,
    ⟨(some 40), .load 1 false (.t 39), none, []⟩,
    ⟨(some 41), .mv (.t 4), none, []⟩,
    ⟨(some 42), .mkfn 96 [.t 2], none, []⟩,
    ⟨(some 43), .call 95 [.t 38, .t 40, .t 41, .t 42], none, []⟩]) (
  .region [
    ⟨(some 44), .load 1 false (.t 2), none, []⟩,
    ⟨(some 45), .nilck (.t 44), none, []⟩,
    ⟨(some 46), .faddr 0 (.t 45), none, []⟩,
    ⟨(some 47), .call 45 [.t 46, .c (.int .u8 41)], none, []⟩]))))),
  .gc, false, false⟩
theorem k53 : compF Tryz.prog { mt := false, mtAt := [], mode := .gc, clArgs := false, clRes := false } Tryz.f53 = some c53 := by kernel_rfl
/- beaconry/beaconrylaw01.Same -/
def c54 : AFunc := ⟨31, [.tmp 4],
  .seq (.region [
    ⟨(some 2), .box (.t 0), none, []⟩,
    ⟨(some 3), .box (.t 1), none, []⟩,
    ⟨(some 4), .mv (.c (.bool false)), none, []⟩]) (
  .seq (.region [
    ⟨(some 5), .faddr 0 (.t 2), none, []⟩,
    ⟨(some 6), .load 1 false (.t 5), none, []⟩,
    ⟨(some 7), .faddr 0 (.t 3), none, []⟩,
    ⟨(some 8), .load 1 false (.t 7), none, []⟩,
    ⟨(some 9), .bin .eql (.t 6) (.t 8), none, []⟩,
    ⟨(some 10), .mv (.t 9), none, []⟩,
    ⟨(some 11), .faddr 1 (.t 2), (some (10, true)), []⟩,
    ⟨(some 12), .load 1 false (.t 11), (some (10, true)), []⟩,
    ⟨(some 13), .faddr 1 (.t 3), (some (10, true)), []⟩,
    ⟨(some 14), .load 1 false (.t 13), (some (10, true)), []⟩,
    ⟨(some 15), .bin .eql (.t 12) (.t 14), (some (10, true)), []⟩,
    ⟨(some 16), .pick (.t 10) (.t 15) (.c (.bool false)), none, []⟩,
    ⟨(some 17), .mv (.t 16), none, []⟩,
    ⟨(some 18), .faddr 2 (.t 2), (some (17, true)), []⟩,
    ⟨(some 19), .load 1 false (.t 18), (some (17, true)), []⟩,
    ⟨(some 20), .faddr 2 (.t 3), (some (17, true)), []⟩,
    ⟨(some 21), .load 1 false (.t 20), (some (17, true)), []⟩,
    ⟨(some 22), .bin .eql (.t 19) (.t 21), (some (17, true)), []⟩,
    ⟨(some 23), .pick (.t 17) (.t 22) (.c (.bool false)), none, []⟩,
    ⟨(some 24), .mv (.t 23), none, []⟩,
    ⟨(some 25), .faddr 3 (.t 2), (some (24, true)), []⟩,
    ⟨(some 26), .load 1 false (.t 25), (some (24, true)), []⟩,
    ⟨(some 27), .faddr 3 (.t 3), (some (24, true)), []⟩,
    ⟨(some 28), .load 1 false (.t 27), (some (24, true)), []⟩,
    ⟨(some 29), .call 93 [.t 26, .t 28], (some (24, true)), []⟩,
    ⟨(some 30), .pick (.t 24) (.t 29) (.c (.bool false)), none, []⟩,
    ⟨(some 4), .mv (.t 30), none, []⟩]) (
  .ret)),
  .pure, true, true⟩
theorem k54 : compF Tryz.prog { mt := false, mtAt := [], mode := .pure, clArgs := true, clRes := true } Tryz.f54 = some c54 := by kernel_rfl
/- beaconry/printer.text[beaconry/api.Literal] -/
def c55 : AFunc := ⟨15, [.tmp 6],
  .seq (.region [
    ⟨(some 4), .box (.t 1), none, []⟩,
    ⟨(some 6), .mv (.c (.str ⟨#[]⟩)), none, []⟩]) (
  .seq (.seq (.region [
    ⟨(some 8), .mv (.t 0), none, []⟩,
    ⟨(some 9), .un .not (.t 8), none, []⟩]) (
  .cond (.t 9) (
    .seq (.region [
      ⟨(some 6), .mv (.c (.str ⟨#[]⟩)), none, []⟩]) (
    .ret)) (
    .skip))) (
  .seq (.region [
    ⟨(some 7), .allocB 80 5, none, []⟩]) (
  .seq (.region [
    ⟨(some 10), .mv (.t 2), none, []⟩,
    ⟨(some 11), .load 3 true (.t 4), none, []⟩,
    ⟨(some 12), .callv (.t 10) [.t 7, .t 11], none, []⟩]) (
  .seq (.region [
    ⟨(some 13), .faddr 0 (.t 7), none, []⟩,
    ⟨(some 14), .call 84 [.t 13], none, []⟩,
    ⟨(some 6), .mv (.t 14), none, []⟩]) (
  .ret))))),
  .pure, true, true⟩
theorem k55 : compF Tryz.prog { mt := false, mtAt := [], mode := .pure, clArgs := true, clRes := true } Tryz.f55 = some c55 := by kernel_rfl
/- beaconry/printer.literal -/
def c56 : AFunc := ⟨49, [.tmp 2],
  .seq (.region [
    ⟨(some 1), .box (.t 0), none, []⟩,
    ⟨(some 2), .mv (.c (.bool false)), none, []⟩]) (
  .seq (.seq (.region [
    ⟨(some 3), .faddr 0 (.t 1), none, []⟩,
    ⟨(some 4), .load 1 false (.t 3), none, []⟩]) (
  .block 0 (
    .seq (.seq (.region [
      ⟨(some 6), .bin .eql (.t 4) (.c (.int .i64 1)), none, []⟩,
      ⟨(some 5), .mv (.t 6), none, []⟩]) (
    .cond (.t 5) (
      .skip) (
      .region [
        ⟨(some 7), .bin .eql (.t 4) (.c (.int .i64 2)), none, []⟩,
        ⟨(some 5), .mv (.t 7), none, []⟩]))) (
    .cond (.t 5) (
      .seq (.region [
        ⟨(some 8), .faddr 1 (.t 1), none, []⟩,
        ⟨(some 9), .load 1 false (.t 8), none, []⟩,
        ⟨(some 10), .call 39 [.t 9], none, []⟩,
        ⟨(some 11), .mv (.t 10), none, []⟩,
        ⟨(some 12), .faddr 2 (.t 1), (some (11, true)), []⟩,
        ⟨(some 13), .load 1 false (.t 12), (some (11, true)), []⟩,
        ⟨(some 14), .call 78 [.t 13], (some (11, true)), []⟩,
        ⟨(some 15), .pick (.t 11) (.t 14) (.c (.bool false)), none, []⟩,
        ⟨(some 2), .mv (.t 15), none, []⟩]) (
      .ret)) (
      .seq (.region [
        ⟨(some 17), .bin .eql (.t 4) (.c (.int .i64 3)), none, []⟩,
        ⟨(some 16), .mv (.t 17), none, []⟩]) (
      .cond (.t 16) (
        .seq (.region [
          ⟨(some 18), .buildSl 6 1 false [.str ⟨#[]⟩, .str ⟨#[]⟩, .str ⟨#[]⟩, .str ⟨#[]⟩, .str ⟨#[]⟩, .str ⟨#[]⟩] [(0, 1, .c (.str ⟨#[61, 61]⟩)), (1, 1, .c (.str ⟨#[33, 61]⟩)), (2, 1, .c (.str ⟨#[60]⟩)), (3, 1, .c (.str ⟨#[60, 61]⟩)), (4, 1, .c (.str ⟨#[62]⟩)), (5, 1, .c (.str ⟨#[62, 61]⟩))], none, []⟩,
          ⟨(some 19), .faddr 1 (.t 1), none, []⟩,
          ⟨(some 20), .load 1 false (.t 19), none, []⟩,
          ⟨(some 21), .call 97 [.t 18, .t 20], none, []⟩,
          ⟨(some 22), .mv (.t 21), none, []⟩,
          ⟨(some 23), .faddr 2 (.t 1), (some (22, true)), []⟩,
          ⟨(some 24), .load 1 false (.t 23), (some (22, true)), []⟩,
          ⟨(some 25), .len false (.t 24), (some (22, true)), []⟩,
          ⟨(some 26), .bin .eql (.t 25) (.c (.int .i64 2)), (some (22, true)), []⟩,
          ⟨(some 27), .pick (.t 22) (.t 26) (.c (.bool false)), none, []⟩,
          ⟨(some 28), .mv (.t 27), none, []⟩,
          ⟨(some 29), .faddr 2 (.t 1), (some (28, true)), []⟩,
          ⟨(some 30), .load 1 false (.t 29), (some (28, true)), []⟩,
          ⟨(some 31), .call 98 [.t 30, .f 52], (some (28, true)), []⟩,
          ⟨(some 32), .pick (.t 28) (.t 31) (.c (.bool false)), none, []⟩,
          ⟨(some 2), .mv (.t 32), none, []⟩]) (
        .ret)) (
        .seq (.region [
          ⟨(some 34), .bin .eql (.t 4) (.c (.int .i64 4)), none, []⟩,
          ⟨(some 33), .mv (.t 34), none, []⟩]) (
        .cond (.t 33) (
          .seq (.region [
            ⟨(some 35), .faddr 1 (.t 1), none, []⟩,
            ⟨(some 36), .load 1 false (.t 35), none, []⟩,
            ⟨(some 37), .call 99 [.t 36], none, []⟩,
            ⟨(some 38), .mv (.t 37), none, []⟩,
            ⟨(some 39), .faddr 2 (.t 1), (some (38, true)), []⟩,
            ⟨(some 40), .load 1 false (.t 39), (some (38, true)), []⟩,
            ⟨(some 41), .len false (.t 40), (some (38, true)), []⟩,
            ⟨(some 42), .bin .eql (.t 41) (.c (.int .i64 1)), (some (38, true)), []⟩,
            ⟨(some 43), .pick (.t 38) (.t 42) (.c (.bool false)), none, []⟩,
            ⟨(some 44), .mv (.t 43), none, []⟩,
            ⟨(some 45), .faddr 2 (.t 1), (some (44, true)), []⟩,
            ⟨(some 46), .load 1 false (.t 45), (some (44, true)), []⟩,
            ⟨(some 47), .call 98 [.t 46, .f 52], (some (44, true)), []⟩,
            ⟨(some 48), .pick (.t 44) (.t 47) (.c (.bool false)), none, []⟩,
            ⟨(some 2), .mv (.t 48), none, []⟩]) (
          .ret)) (
          .skip))))))))) (
  .seq (.region [
    ⟨(some 2), .mv (.c (.bool false)), none, []⟩]) (
  .ret))),
  .pure, true, true⟩
theorem k56 : compF Tryz.prog { mt := false, mtAt := [], mode := .pure, clArgs := true, clRes := true } Tryz.f56 = some c56 := by kernel_rfl
/- (*beaconry/printer.writer).literal -/
def c57 : AFunc := ⟨44, [],
  .seq (.region [
    ⟨(some 2), .box (.t 0), none, []⟩,
    ⟨(some 3), .box (.t 1), none, []⟩]) (
  .seq (.seq (.region [
    ⟨(some 4), .faddr 0 (.t 3), none, []⟩,
    ⟨(some 5), .load 1 false (.t 4), none, []⟩]) (
  .block 0 (
    .seq (.region [
      ⟨(some 7), .bin .eql (.t 5) (.c (.int .i64 3)), none, []⟩,
      ⟨(some 6), .mv (.t 7), none, []⟩]) (
    .cond (.t 6) (
      .seq (.region [
        ⟨(some 8), .load 1 false (.t 2), none, []⟩,
        ⟨(some 9), .faddr 2 (.t 3), none, []⟩,
        ⟨(some 10), .load 1 false (.t 9), none, []⟩,
        ⟨(some 11), .faddr 1 (.t 3), none, []⟩,
        ⟨(some 12), .load 1 false (.t 11), none, []⟩,
        ⟨(some 13), .bin .add (.c (.str ⟨#[32]⟩)) (.t 12), none, []⟩,
        ⟨(some 14), .bin .add (.t 13) (.c (.str ⟨#[32]⟩)), none, []⟩,
        ⟨(some 15), .mkfn 100 [.t 2], none, []⟩,
        ⟨(some 16), .call 95 [.t 8, .t 10, .t 14, .t 15], none, []⟩]) (
      .ret)) (
      .seq (.region [
        ⟨(some 18), .bin .eql (.t 5) (.c (.int .i64 4)), none, []⟩,
        ⟨(some 17), .mv (.t 18), none, []⟩]) (
      .cond (.t 17) (
        .seq (.region [
          ⟨(some 19), .load 1 false (.t 2), none, []⟩,
          ⟨(some 20), .nilck (.t 19), none, []⟩,
          ⟨(some 21), .faddr 0 (.t 20), none, []⟩,
          ⟨(some 22), .faddr 1 (.t 3), none, []⟩,
          ⟨(some 23), .load 1 false (.t 22), none, []⟩,
          ⟨(some 24), .bin .add (.t 23) (.c (.str ⟨#[32, 58, 61, 32]⟩)), none, []⟩,
          ⟨(some 25), .call 42 [.t 21, .t 24], none, []⟩]) (
        .seq (.region [
          ⟨(some 26), .load 1 false (.t 2), none, []⟩,
          ⟨(some 27), .faddr 2 (.t 3), none, []⟩,
          ⟨(some 28), .load 1 false (.t 27), none, []⟩,
          ⟨(some 29), .iaddrS 7 (.t 28) (.c (.int .i64 0)), none, []⟩,
          ⟨(some 30), .load 7 true (.t 29), none, []⟩,
          ⟨(some 31), .call 53 [.t 26, .t 30], none, []⟩]) (
        .ret))) (
        .seq (.region [
          ⟨(some 33), .bin .eql (.t 5) (.c (.int .i64 2)), none, []⟩,
          ⟨(some 32), .mv (.t 33), none, []⟩]) (
        .cond (.t 32) (
          .region [
            ⟨(some 34), .load 1 false (.t 2), none, []⟩,
            ⟨(some 35), .nilck (.t 34), none, []⟩,
            ⟨(some 36), .faddr 0 (.t 35), none, []⟩,
            ⟨(some 37), .call 45 [.t 36, .c (.int .u8 33)], none, []⟩]) (
          .skip))))))))) (
  .region [
    ⟨(some 38), .load 1 false (.t 2), none, []⟩,
    ⟨(some 39), .faddr 1 (.t 3), none, []⟩,
    ⟨(some 40), .load 1 false (.t 39), none, []⟩,
    ⟨(some 41), .faddr 2 (.t 3), none, []⟩,
    ⟨(some 42), .load 1 false (.t 41), none, []⟩,
    ⟨(some 43), .call 90 [.t 38, .t 40, .t 42, .c (.str ⟨#[]⟩), .c (.int .i64 0)], none, []⟩])),
  .gc, false, false⟩
theorem k57 : compF Tryz.prog { mt := false, mtAt := [], mode := .gc, clArgs := false, clRes := false } Tryz.f57 = some c57 := by kernel_rfl
/- beaconry/printer.text[beaconry/api.Rule] -/
def c58 : AFunc := ⟨15, [.tmp 6],
  .seq (.region [
    ⟨(some 4), .box (.t 1), none, []⟩,
    ⟨(some 6), .mv (.c (.str ⟨#[]⟩)), none, []⟩]) (
  .seq (.seq (.region [
    ⟨(some 8), .mv (.t 0), none, []⟩,
    ⟨(some 9), .un .not (.t 8), none, []⟩]) (
  .cond (.t 9) (
    .seq (.region [
      ⟨(some 6), .mv (.c (.str ⟨#[]⟩)), none, []⟩]) (
    .ret)) (
    .skip))) (
  .seq (.region [
    ⟨(some 7), .allocB 80 5, none, []⟩]) (
  .seq (.region [
    ⟨(some 10), .mv (.t 2), none, []⟩,
    ⟨(some 11), .load 6 true (.t 4), none, []⟩,
    ⟨(some 12), .callv (.t 10) [.t 7, .t 11], none, []⟩]) (
  .seq (.region [
    ⟨(some 13), .faddr 0 (.t 7), none, []⟩,
    ⟨(some 14), .call 84 [.t 13], none, []⟩,
    ⟨(some 6), .mv (.t 14), none, []⟩]) (
  .ret))))),
  .pure, true, true⟩
theorem k58 : compF Tryz.prog { mt := false, mtAt := [], mode := .pure, clArgs := true, clRes := true } Tryz.f58 = some c58 := by kernel_rfl
/- beaconry/printer.text[beaconry/api.Tuple] -/
def c59 : AFunc := ⟨15, [.tmp 6],
  .seq (.region [
    ⟨(some 4), .box (.t 1), none, []⟩,
    ⟨(some 6), .mv (.c (.str ⟨#[]⟩)), none, []⟩]) (
  .seq (.seq (.region [
    ⟨(some 8), .mv (.t 0), none, []⟩,
    ⟨(some 9), .un .not (.t 8), none, []⟩]) (
  .cond (.t 9) (
    .seq (.region [
      ⟨(some 6), .mv (.c (.str ⟨#[]⟩)), none, []⟩]) (
    .ret)) (
    .skip))) (
  .seq (.region [
    ⟨(some 7), .allocB 80 5, none, []⟩]) (
  .seq (.region [
    ⟨(some 10), .mv (.t 2), none, []⟩,
    ⟨(some 11), .load 2 true (.t 4), none, []⟩,
    ⟨(some 12), .callv (.t 10) [.t 7, .t 11], none, []⟩]) (
  .seq (.region [
    ⟨(some 13), .faddr 0 (.t 7), none, []⟩,
    ⟨(some 14), .call 84 [.t 13], none, []⟩,
    ⟨(some 6), .mv (.t 14), none, []⟩]) (
  .ret))))),
  .pure, true, true⟩
theorem k59 : compF Tryz.prog { mt := false, mtAt := [], mode := .pure, clArgs := true, clRes := true } Tryz.f59 = some c59 := by kernel_rfl
/- beaconry/beaconryref04.relation -/
def c60 : AFunc := ⟨16, [.tmp 2],
  .seq (.region [
    ⟨(some 2), .mv (.c (.bool false)), none, []⟩]) (
  .seq (.region [
    ⟨(some 4), .mv (.t 0), none, []⟩,
    ⟨(some 5), .call 101 [.t 4], none, []⟩,
    ⟨(some 3), .mv (.t 5), none, []⟩]) (
  .seq (.region [
    ⟨(some 6), .mv (.t 3), none, []⟩,
    ⟨(some 7), .mv (.t 6), none, []⟩,
    ⟨(some 8), .mv (.t 0), (some (7, true)), []⟩,
    ⟨(some 9), .call 49 [.t 8], (some (7, true)), []⟩,
    ⟨(some 10), .bin .lss (.t 9) (.c (.int .i64 0)), (some (7, true)), []⟩,
    ⟨(some 11), .pick (.t 7) (.t 10) (.c (.bool false)), none, []⟩,
    ⟨(some 12), .mv (.t 11), none, []⟩,
    ⟨(some 13), .mv (.t 0), (some (12, true)), []⟩,
    ⟨(some 14), .bin .neq (.t 13) (.c (.str ⟨#[109, 97, 116, 101, 114, 105, 97, 108, 105, 122, 101]⟩)), (some (12, true)), []⟩,
    ⟨(some 15), .pick (.t 12) (.t 14) (.c (.bool false)), none, []⟩,
    ⟨(some 2), .mv (.t 15), none, []⟩]) (
  .ret))),
  .pure, true, true⟩
theorem k60 : compF Tryz.prog { mt := false, mtAt := [], mode := .pure, clArgs := true, clRes := true } Tryz.f60 = some c60 := by kernel_rfl
/- beaconry/beaconryref04.tuple -/
def c61 : AFunc := ⟨46, [.tmp 2],
  .seq (.region [
    ⟨(some 1), .box (.t 0), none, []⟩,
    ⟨(some 2), .mv (.c (.bool false)), none, []⟩]) (
  .seq (.region [
    ⟨(some 6), .faddr 0 (.t 1), none, []⟩,
    ⟨(some 7), .load 1 false (.t 6), none, []⟩,
    ⟨(some 8), .call 60 [.t 7], none, []⟩,
    ⟨(some 3), .mv (.t 8), none, []⟩]) (
  .seq (.seq (.region [
    ⟨(some 9), .mv (.t 3), none, []⟩,
    ⟨(some 10), .un .not (.t 9), none, []⟩,
    ⟨(some 11), .mv (.t 10), none, []⟩,
    ⟨(some 12), .faddr 1 (.t 1), (some (11, false)), []⟩,
    ⟨(some 13), .load 1 false (.t 12), (some (11, false)), []⟩,
    ⟨(some 14), .len false (.t 13), (some (11, false)), []⟩,
    ⟨(some 15), .bin .lss (.t 14) (.c (.int .i64 1)), (some (11, false)), []⟩,
    ⟨(some 16), .pick (.t 11) (.c (.bool true)) (.t 15), none, []⟩,
    ⟨(some 17), .mv (.t 16), none, []⟩,
    ⟨(some 18), .faddr 1 (.t 1), (some (17, false)), []⟩,
    ⟨(some 19), .load 1 false (.t 18), (some (17, false)), []⟩,
    ⟨(some 20), .len false (.t 19), (some (17, false)), []⟩,
    ⟨(some 21), .bin .gtr (.t 20) (.c (.int .i64 8)), (some (17, false)), []⟩,
    ⟨(some 22), .pick (.t 17) (.c (.bool true)) (.t 21), none, []⟩,
    ⟨(some 23), .mv (.t 22), none, []⟩,
    ⟨(some 24), .faddr 1 (.t 1), (some (23, false)), []⟩,
    ⟨(some 25), .load 1 false (.t 24), (some (23, false)), []⟩,
    ⟨(some 26), .iaddrS 4 (.t 25) (.c (.int .i64 0)), (some (23, false)), []⟩,
    ⟨(some 27), .faddr 0 (.t 26), (some (23, false)), []⟩,
    ⟨(some 28), .load 1 false (.t 27), (some (23, false)), []⟩,
    ⟨(some 29), .bin .neq (.t 28) (.c (.int .i64 3)), (some (23, false)), []⟩,
    ⟨(some 30), .pick (.t 23) (.c (.bool true)) (.t 29), none, []⟩]) (
  .cond (.t 30) (
    .seq (.region [
      ⟨(some 2), .mv (.c (.bool false)), none, []⟩]) (
    .ret)) (
    .skip))) (
  .seq (.seq (.region [
    ⟨(some 4), .mv (.c (.int .i64 0)), none, []⟩]) (
  .block 0 (
    .loop (
      .seq (.seq (.region [
        ⟨(some 31), .mv (.t 4), none, []⟩,
        ⟨(some 32), .faddr 1 (.t 1), none, []⟩,
        ⟨(some 33), .load 1 false (.t 32), none, []⟩,
        ⟨(some 34), .len false (.t 33), none, []⟩,
        ⟨(some 35), .bin .lss (.t 31) (.t 34), none, []⟩]) (
      .cond (.t 35) (
        .skip) (
        .exit 0))) (
      .seq (.block 1 (
        .seq (.region [
          ⟨(some 38), .faddr 1 (.t 1), none, []⟩,
          ⟨(some 39), .load 1 false (.t 38), none, []⟩,
          ⟨(some 40), .mv (.t 4), none, []⟩,
          ⟨(some 41), .iaddrS 4 (.t 39) (.t 40), none, []⟩,
          ⟨(some 42), .load 4 true (.t 41), none, []⟩,
          ⟨(some 43), .call 102 [.t 42], none, []⟩,
          ⟨(some 5), .mv (.t 43), none, []⟩]) (
        .seq (.region [
          ⟨(some 44), .mv (.t 5), none, []⟩,
          ⟨(some 45), .un .not (.t 44), none, []⟩]) (
        .cond (.t 45) (
          .seq (.region [
            ⟨(some 2), .mv (.c (.bool false)), none, []⟩]) (
          .ret)) (
          .skip))))) (
      .region [
        ⟨(some 36), .mv (.t 4), none, []⟩,
        ⟨(some 37), .bin .add (.t 36) (.c (.int .i64 1)), none, []⟩,
        ⟨(some 4), .mv (.t 37), none, []⟩])))))) (
  .seq (.region [
    ⟨(some 2), .mv (.c (.bool true)), none, []⟩]) (
  .ret))))),
  .pure, true, true⟩
theorem k61 : compF Tryz.prog { mt := false, mtAt := [], mode := .pure, clArgs := true, clRes := true } Tryz.f61 = some c61 := by kernel_rfl
/- beaconry/beaconryref04.rule -/
def c62 : AFunc := ⟨89, [.tmp 2],
  .seq (.region [
    ⟨(some 1), .box (.t 0), none, []⟩,
    ⟨(some 2), .mv (.c (.bool false)), none, []⟩]) (
  .seq (.region [
    ⟨(some 9), .faddr 0 (.t 1), none, []⟩,
    ⟨(some 10), .load 1 false (.t 9), none, []⟩,
    ⟨(some 11), .call 60 [.t 10], none, []⟩,
    ⟨(some 3), .mv (.t 11), none, []⟩]) (
  .seq (.region [
    ⟨(some 12), .faddr 1 (.t 1), none, []⟩,
    ⟨(some 13), .load 1 false (.t 12), none, []⟩,
    ⟨(some 14), .call 60 [.t 13], none, []⟩,
    ⟨(some 4), .mv (.t 14), none, []⟩]) (
  .seq (.region [
    ⟨(some 15), .faddr 2 (.t 1), none, []⟩,
    ⟨(some 16), .load 1 false (.t 15), none, []⟩,
    ⟨(some 17), .call 103 [.t 16], none, []⟩,
    ⟨(some 5), .mv (.t 17), none, []⟩]) (
  .seq (.seq (.region [
    ⟨(some 18), .mv (.t 3), none, []⟩,
    ⟨(some 19), .un .not (.t 18), none, []⟩,
    ⟨(some 20), .mv (.t 19), none, []⟩,
    ⟨(some 21), .mv (.t 4), (some (20, false)), []⟩,
    ⟨(some 22), .un .not (.t 21), (some (20, false)), []⟩,
    ⟨(some 23), .pick (.t 20) (.c (.bool true)) (.t 22), none, []⟩,
    ⟨(some 24), .mv (.t 23), none, []⟩,
    ⟨(some 25), .mv (.t 5), (some (24, false)), []⟩,
    ⟨(some 26), .un .not (.t 25), (some (24, false)), []⟩,
    ⟨(some 27), .pick (.t 24) (.c (.bool true)) (.t 26), none, []⟩,
    ⟨(some 28), .mv (.t 27), none, []⟩,
    ⟨(some 29), .faddr 5 (.t 1), (some (28, false)), []⟩,
    ⟨(some 30), .load 1 false (.t 29), (some (28, false)), []⟩,
    ⟨(some 31), .len false (.t 30), (some (28, false)), []⟩,
    ⟨(some 32), .bin .lss (.t 31) (.c (.int .i64 1)), (some (28, false)), []⟩,
    ⟨(some 33), .pick (.t 28) (.c (.bool true)) (.t 32), none, []⟩,
    ⟨(some 34), .mv (.t 33), none, []⟩,
    ⟨(some 35), .faddr 5 (.t 1), (some (34, false)), []⟩,
    ⟨(some 36), .load 1 false (.t 35), (some (34, false)), []⟩,
    ⟨(some 37), .len false (.t 36), (some (34, false)), []⟩,
    ⟨(some 38), .bin .gtr (.t 37) (.c (.int .i64 8)), (some (34, false)), []⟩,
    ⟨(some 39), .pick (.t 34) (.c (.bool true)) (.t 38), none, []⟩]) (
  .cond (.t 39) (
    .seq (.region [
      ⟨(some 2), .mv (.c (.bool false)), none, []⟩]) (
    .ret)) (
    .skip))) (
  .seq (.seq (.region [
    ⟨(some 6), .mv (.c (.int .i64 0)), none, []⟩]) (
  .block 0 (
    .loop (
      .seq (.seq (.region [
        ⟨(some 40), .mv (.t 6), none, []⟩,
        ⟨(some 41), .faddr 5 (.t 1), none, []⟩,
        ⟨(some 42), .load 1 false (.t 41), none, []⟩,
        ⟨(some 43), .len false (.t 42), none, []⟩,
        ⟨(some 44), .bin .lss (.t 40) (.t 43), none, []⟩]) (
      .cond (.t 44) (
        .skip) (
        .exit 0))) (
      .seq (.block 1 (
        .seq (.region [
          ⟨(some 47), .faddr 5 (.t 1), none, []⟩,
          ⟨(some 48), .load 1 false (.t 47), none, []⟩,
          ⟨(some 49), .mv (.t 6), none, []⟩,
          ⟨(some 50), .iaddrS 3 (.t 48) (.t 49), none, []⟩,
          ⟨(some 51), .load 3 true (.t 50), none, []⟩,
          ⟨(some 52), .call 67 [.t 51], none, []⟩,
          ⟨(some 7), .mv (.t 52), none, []⟩]) (
        .seq (.region [
          ⟨(some 53), .mv (.t 7), none, []⟩,
          ⟨(some 54), .un .not (.t 53), none, []⟩]) (
        .cond (.t 54) (
          .seq (.region [
            ⟨(some 2), .mv (.c (.bool false)), none, []⟩]) (
          .ret)) (
          .skip))))) (
      .region [
        ⟨(some 45), .mv (.t 6), none, []⟩,
        ⟨(some 46), .bin .add (.t 45) (.c (.int .i64 1)), none, []⟩,
        ⟨(some 6), .mv (.t 46), none, []⟩])))))) (
  .seq (.seq (.region [
    ⟨(some 55), .faddr 3 (.t 1), none, []⟩,
    ⟨(some 56), .load 1 false (.t 55), none, []⟩,
    ⟨(some 57), .bin .eql (.t 56) (.c (.str ⟨#[]⟩)), none, []⟩]) (
  .cond (.t 57) (
    .seq (.region [
      ⟨(some 58), .faddr 4 (.t 1), none, []⟩,
      ⟨(some 59), .load 1 false (.t 58), none, []⟩,
      ⟨(some 60), .bin .eql (.t 59) (.c (.int .i64 0)), none, []⟩,
      ⟨(some 2), .mv (.t 60), none, []⟩]) (
    .ret)) (
    .skip))) (
  .seq (.region [
    ⟨(some 61), .buildSl 3 1 false [.str ⟨#[]⟩, .str ⟨#[]⟩, .str ⟨#[]⟩] [(0, 1, .c (.str ⟨#[109, 105, 110]⟩)), (1, 1, .c (.str ⟨#[109, 97, 120]⟩)), (2, 1, .c (.str ⟨#[99, 111, 117, 110, 116]⟩))], none, []⟩,
    ⟨(some 62), .faddr 3 (.t 1), none, []⟩,
    ⟨(some 63), .load 1 false (.t 62), none, []⟩,
    ⟨(some 64), .call 104 [.t 61, .t 63], none, []⟩,
    ⟨(some 8), .mv (.t 64), none, []⟩]) (
  .seq (.region [
    ⟨(some 65), .mv (.t 8), none, []⟩,
    ⟨(some 66), .mv (.t 65), none, []⟩,
    ⟨(some 67), .faddr 4 (.t 1), (some (66, true)), []⟩,
    ⟨(some 68), .load 1 false (.t 67), (some (66, true)), []⟩,
    ⟨(some 69), .bin .geq (.t 68) (.c (.int .i64 1)), (some (66, true)), []⟩,
    ⟨(some 70), .pick (.t 66) (.t 69) (.c (.bool false)), none, []⟩,
    ⟨(some 71), .mv (.t 70), none, []⟩,
    ⟨(some 72), .faddr 4 (.t 1), (some (71, true)), []⟩,
    ⟨(some 73), .load 1 false (.t 72), (some (71, true)), []⟩,
    ⟨(some 74), .faddr 2 (.t 1), (some (71, true)), []⟩,
    ⟨(some 75), .load 1 false (.t 74), (some (71, true)), []⟩,
    ⟨(some 76), .len false (.t 75), (some (71, true)), []⟩,
    ⟨(some 77), .bin .lss (.t 73) (.t 76), (some (71, true)), []⟩,
    ⟨(some 78), .pick (.t 71) (.t 77) (.c (.bool false)), none, []⟩,
    ⟨(some 79), .mv (.t 78), none, []⟩,
    ⟨(some 80), .faddr 2 (.t 1), (some (79, true)), []⟩,
    ⟨(some 81), .load 1 false (.t 80), (some (79, true)), []⟩,
    ⟨(some 82), .faddr 4 (.t 1), (some (79, true)), []⟩,
    ⟨(some 83), .load 1 false (.t 82), (some (79, true)), []⟩,
    ⟨(some 84), .iaddrS 7 (.t 81) (.t 83), (some (79, true)), []⟩,
    ⟨(some 85), .faddr 0 (.t 84), (some (79, true)), []⟩,
    ⟨(some 86), .load 1 false (.t 85), (some (79, true)), []⟩,
    ⟨(some 87), .bin .eql (.t 86) (.c (.int .i64 1)), (some (79, true)), []⟩,
    ⟨(some 88), .pick (.t 79) (.t 87) (.c (.bool false)), none, []⟩,
    ⟨(some 2), .mv (.t 88), none, []⟩]) (
  .ret))))))))),
  .pure, true, true⟩
theorem k62 : compF Tryz.prog { mt := false, mtAt := [], mode := .pure, clArgs := true, clRes := true } Tryz.f62 = some c62 := by kernel_rfl
/- beaconry/beaconryref01.Print -/
def c63 : AFunc := ⟨48, [.tmp 2],
  .seq (.region [
    ⟨(some 1), .box (.t 0), none, []⟩,
    ⟨(some 2), .mv (.c (.str ⟨#[]⟩)), none, []⟩]) (
  .seq (.region [
    ⟨(some 6), .load 4 true (.t 1), none, []⟩,
    ⟨(some 7), .call 102 [.t 6], none, []⟩,
    ⟨(some 3), .mv (.t 7), none, []⟩]) (
  .seq (.seq (.region [
    ⟨(some 8), .mv (.t 3), none, []⟩,
    ⟨(some 9), .un .not (.t 8), none, []⟩]) (
  .cond (.t 9) (
    .seq (.region [
      ⟨(some 2), .mv (.c (.str ⟨#[]⟩)), none, []⟩]) (
    .ret)) (
    .skip))) (
  .seq (.seq (.region [
    ⟨(some 10), .faddr 0 (.t 1), none, []⟩,
    ⟨(some 11), .load 1 false (.t 10), none, []⟩]) (
  .block 0 (
    .seq (.region [
      ⟨(some 13), .bin .eql (.t 11) (.c (.int .i64 1)), none, []⟩,
      ⟨(some 12), .mv (.t 13), none, []⟩]) (
    .cond (.t 12) (
      .seq (.region [
        ⟨(some 14), .faddr 1 (.t 1), none, []⟩,
        ⟨(some 15), .load 1 false (.t 14), none, []⟩,
        ⟨(some 16), .call 105 [.t 15], none, []⟩,
        ⟨(some 2), .mv (.t 16), none, []⟩]) (
      .ret)) (
      .seq (.region [
        ⟨(some 18), .bin .eql (.t 11) (.c (.int .i64 2)), none, []⟩,
        ⟨(some 17), .mv (.t 18), none, []⟩]) (
      .cond (.t 17) (
        .seq (.region [
          ⟨(some 19), .faddr 2 (.t 1), none, []⟩,
          ⟨(some 20), .load 1 false (.t 19), none, []⟩,
          ⟨(some 21), .bin .add (.c (.str ⟨#[34]⟩)) (.t 20), none, []⟩,
          ⟨(some 22), .bin .add (.t 21) (.c (.str ⟨#[34]⟩)), none, []⟩,
          ⟨(some 2), .mv (.t 22), none, []⟩]) (
        .ret)) (
        .seq (.region [
          ⟨(some 24), .bin .eql (.t 11) (.c (.int .i64 3)), none, []⟩,
          ⟨(some 23), .mv (.t 24), none, []⟩]) (
        .cond (.t 23) (
          .seq (.region [
            ⟨(some 25), .faddr 2 (.t 1), none, []⟩,
            ⟨(some 26), .load 1 false (.t 25), none, []⟩,
            ⟨(some 2), .mv (.t 26), none, []⟩]) (
          .ret)) (
          .skip))))))))) (
  .seq (.region [
    ⟨(some 4), .mv (.c (.str ⟨#[91]⟩)), none, []⟩]) (
  .seq (.seq (.region [
    ⟨(some 5), .mv (.c (.int .i64 0)), none, []⟩]) (
  .block 1 (
    .loop (
      .seq (.seq (.region [
        ⟨(some 27), .mv (.t 5), none, []⟩,
        ⟨(some 28), .faddr 3 (.t 1), none, []⟩,
        ⟨(some 29), .load 1 false (.t 28), none, []⟩,
        ⟨(some 30), .len false (.t 29), none, []⟩,
        ⟨(some 31), .bin .lss (.t 27) (.t 30), none, []⟩]) (
      .cond (.t 31) (
        .skip) (
        .exit 1))) (
      .seq (.block 2 (
        .seq (.seq (.region [
          ⟨(some 34), .mv (.t 5), none, []⟩,
          ⟨(some 35), .bin .gtr (.t 34) (.c (.int .i64 0)), none, []⟩]) (
        .cond (.t 35) (
          .region [
            ⟨(some 36), .mv (.t 4), none, []⟩,
            ⟨(some 37), .bin .add (.t 36) (.c (.str ⟨#[44]⟩)), none, []⟩,
            ⟨(some 4), .mv (.t 37), none, []⟩]) (
          .skip))) (
        .region [
          ⟨(some 38), .mv (.t 4), none, []⟩,
          ⟨(some 39), .faddr 3 (.t 1), none, []⟩,
          ⟨(some 40), .load 1 false (.t 39), none, []⟩,
          ⟨(some 41), .mv (.t 5), none, []⟩,
          ⟨(some 42), .iaddrS 4 (.t 40) (.t 41), none, []⟩,
          ⟨(some 43), .load 4 true (.t 42), none, []⟩,
          ⟨(some 44), .call 63 [.t 43], none, []⟩,
          ⟨(some 45), .bin .add (.t 38) (.t 44), none, []⟩,
          ⟨(some 4), .mv (.t 45), none, []⟩]))) (
      .region [
        ⟨(some 32), .mv (.t 5), none, []⟩,
        ⟨(some 33), .bin .add (.t 32) (.c (.int .i64 1)), none, []⟩,
        ⟨(some 5), .mv (.t 33), none, []⟩])))))) (
  .seq (.region [
    ⟨(some 46), .mv (.t 4), none, []⟩,
    ⟨(some 47), .bin .add (.t 46) (.c (.str ⟨#[93]⟩)), none, []⟩,
    ⟨(some 2), .mv (.t 47), none, []⟩]) (
  .ret))))))),
  .pure, true, true⟩
theorem k63 : compF Tryz.prog { mt := false, mtAt := [], mode := .pure, clArgs := true, clRes := true } Tryz.f63 = some c63 := by kernel_rfl
end Go.Proofs.YtpkfkipbemdhmaaGreatDoor
end
