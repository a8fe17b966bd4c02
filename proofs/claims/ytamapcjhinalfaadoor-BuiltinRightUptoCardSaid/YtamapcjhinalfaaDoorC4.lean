import Derived.Test.YtamapcjhinalfaaDoorC3
import Derived.Test.YtamapcjhinalfaaDoorChecked
import Derived.KernelRfl
section
/- The functions' codes, resolved: each is what the compiler makes of the given function (kernel-checked). -/
namespace Go.Proofs.YtamapcjhinalfaaDoor
open Go.Mach
/- beaconry/beaconrylaw02.BuiltinTells -/
def c3 : AFunc := ⟨149, [.tmp 14],
  .seq (.region [
    ⟨(some 10), .box (.t 3), none, []⟩,
    ⟨(some 11), .box (.t 4), none, []⟩,
    ⟨(some 14), .mv (.c (.bool false)), none, []⟩]) (
  .seq (.region [
    ⟨(some 29), .call 10 [], none, []⟩,
    ⟨(some 15), .mv (.t 29), none, []⟩]) (
  .seq (.region [
    ⟨(some 31), .mv (.t 0), none, []⟩,
    ⟨(some 32), .mv (.t 1), none, []⟩,
    ⟨(some 33), .call 11 [.t 31, .t 32], none, []⟩,
    ⟨(some 30), .mv (.t 33), none, []⟩,
    ⟨(some 34), .extract 0 (.t 30), none, []⟩,
    ⟨(some 35), .extract 1 (.t 30), none, []⟩,
    ⟨(some 16), .alloc [.int .i64 0, .int .i64 0, .str ⟨#[]⟩, .isl [] true], none, []⟩,
    ⟨none, .store 4 (.t 16) (.t 34), none, []⟩,
    ⟨(some 17), .mv (.t 35), none, []⟩]) (
  .seq (.region [
    ⟨(some 37), .mv (.t 0), none, []⟩,
    ⟨(some 38), .mv (.t 1), none, []⟩,
    ⟨(some 39), .call 12 [.t 37, .t 38], none, []⟩,
    ⟨(some 36), .mv (.t 39), none, []⟩,
    ⟨(some 40), .extract 0 (.t 36), none, []⟩,
    ⟨(some 41), .extract 1 (.t 36), none, []⟩,
    ⟨(some 18), .alloc [.int .i64 0, .int .i64 0, .str ⟨#[]⟩, .isl [] true], none, []⟩,
    ⟨none, .store 4 (.t 18) (.t 40), none, []⟩,
    ⟨(some 19), .mv (.t 41), none, []⟩]) (
  .seq (.region [
    ⟨(some 43), .mv (.t 2), none, []⟩,
    ⟨(some 44), .load 4 true (.t 10), none, []⟩,
    ⟨(some 45), .load 4 true (.t 11), none, []⟩,
    ⟨(some 46), .call 13 [.t 43, .t 44, .t 45], none, []⟩,
    ⟨(some 42), .mv (.t 46), none, []⟩,
    ⟨(some 47), .extract 0 (.t 42), none, []⟩,
    ⟨(some 48), .extract 1 (.t 42), none, []⟩,
    ⟨(some 20), .alloc [.int .i64 0, .int .i64 0, .str ⟨#[]⟩, .isl [] true], none, []⟩,
    ⟨none, .store 4 (.t 20) (.t 47), none, []⟩,
    ⟨(some 21), .mv (.t 48), none, []⟩]) (
  .seq (.region [
    ⟨(some 50), .mv (.t 2), none, []⟩,
    ⟨(some 51), .load 4 true (.t 10), none, []⟩,
    ⟨(some 52), .load 4 true (.t 11), none, []⟩,
    ⟨(some 53), .call 14 [.t 50, .t 51, .t 52], none, []⟩,
    ⟨(some 49), .mv (.t 53), none, []⟩,
    ⟨(some 54), .extract 0 (.t 49), none, []⟩,
    ⟨(some 55), .extract 1 (.t 49), none, []⟩,
    ⟨(some 22), .alloc [.int .i64 0, .int .i64 0, .str ⟨#[]⟩, .isl [] true], none, []⟩,
    ⟨none, .store 4 (.t 22) (.t 54), none, []⟩,
    ⟨(some 23), .mv (.t 55), none, []⟩]) (
  .seq (.seq (.region [
    ⟨(some 56), .mv (.t 15), none, []⟩,
    ⟨(some 57), .un .not (.t 56), none, []⟩,
    ⟨(some 58), .mv (.t 57), none, []⟩,
    ⟨(some 59), .mv (.t 0), (some (58, false)), []⟩,
    ⟨(some 61), .mv (.t 0), (some (58, false)), []⟩,
    ⟨(some 60), .call 15 [.t 59], (some (58, false)), []⟩,
    ⟨(some 62), .call 16 [.t 61], (some (58, false)), []⟩,
    ⟨(some 63), .bin .neq (.t 60) (.t 62), (some (58, false)), []⟩,
    ⟨(some 64), .pick (.t 58) (.c (.bool true)) (.t 63), none, []⟩,
    ⟨(some 65), .mv (.t 64), none, []⟩,
    ⟨(some 66), .load 4 true (.t 16), (some (65, false)), []⟩,
    ⟨(some 67), .load 4 true (.t 18), (some (65, false)), []⟩,
    ⟨(some 68), .call 17 [.t 66, .t 67], (some (65, false)), []⟩,
    ⟨(some 69), .un .not (.t 68), (some (65, false)), []⟩,
    ⟨(some 70), .pick (.t 65) (.c (.bool true)) (.t 69), none, []⟩,
    ⟨(some 71), .mv (.t 70), none, []⟩,
    ⟨(some 72), .mv (.t 17), (some (71, false)), []⟩,
    ⟨(some 73), .mv (.t 19), (some (71, false)), []⟩,
    ⟨(some 74), .eqb true (.t 72) (.t 73), (some (71, false)), []⟩,
    ⟨(some 75), .pick (.t 71) (.c (.bool true)) (.t 74), none, []⟩,
    ⟨(some 76), .mv (.t 75), none, []⟩,
    ⟨(some 77), .load 4 true (.t 20), (some (76, false)), []⟩,
    ⟨(some 78), .load 4 true (.t 22), (some (76, false)), []⟩,
    ⟨(some 79), .call 17 [.t 77, .t 78], (some (76, false)), []⟩,
    ⟨(some 80), .un .not (.t 79), (some (76, false)), []⟩,
    ⟨(some 81), .pick (.t 76) (.c (.bool true)) (.t 80), none, []⟩,
    ⟨(some 82), .mv (.t 81), none, []⟩,
    ⟨(some 83), .mv (.t 21), (some (82, false)), []⟩,
    ⟨(some 84), .mv (.t 23), (some (82, false)), []⟩,
    ⟨(some 85), .eqb true (.t 83) (.t 84), (some (82, false)), []⟩,
    ⟨(some 86), .pick (.t 82) (.c (.bool true)) (.t 85), none, []⟩,
    ⟨(some 87), .mv (.t 86), none, []⟩,
    ⟨(some 88), .mv (.t 2), (some (87, false)), []⟩,
    ⟨(some 89), .load 4 true (.t 10), (some (87, false)), []⟩,
    ⟨(some 90), .load 4 true (.t 11), (some (87, false)), []⟩,
    ⟨(some 92), .mv (.t 2), (some (87, false)), []⟩,
    ⟨(some 93), .load 4 true (.t 10), (some (87, false)), []⟩,
    ⟨(some 94), .load 4 true (.t 11), (some (87, false)), []⟩,
    ⟨(some 91), .call 18 [.t 88, .t 89, .t 90], (some (87, false)), [.t 10, .t 11]⟩,
    ⟨(some 95), .call 19 [.t 92, .t 93, .t 94], (some (87, false)), []⟩,
    ⟨(some 96), .eqb true (.t 91) (.t 95), (some (87, false)), []⟩,
    ⟨(some 97), .pick (.t 87) (.c (.bool true)) (.t 96), none, []⟩]) (
  .cond (.t 97) (
    .seq (.region [
      ⟨(some 14), .mv (.c (.bool false)), none, []⟩]) (
    .ret)) (
    .skip))) (
  .seq (.region [
    ⟨(some 98), .call 20 [], none, []⟩,
    ⟨(some 99), .mv (.t 6), none, []⟩,
    ⟨(some 100), .call 21 [.t 99, .c (.int .i64 9)], none, []⟩,
    ⟨(some 101), .iaddrS 1 (.t 98) (.t 100), none, []⟩,
    ⟨(some 102), .load 1 false (.t 101), none, []⟩,
    ⟨(some 24), .mv (.t 102), none, []⟩]) (
  .seq (.region [
    ⟨(some 103), .mv (.t 5), none, []⟩,
    ⟨(some 104), .call 22 [.t 103, .c (.int .i64 16)], none, []⟩,
    ⟨(some 25), .alloc [.int .i64 0, .int .i64 0, .str ⟨#[]⟩, .isl [] true], none, []⟩,
    ⟨none, .store 4 (.t 25) (.t 104), none, []⟩]) (
  .seq (.region [
    ⟨(some 105), .load 4 true (.t 10), none, []⟩,
    ⟨(some 106), .call 23 [.t 105], none, []⟩,
    ⟨(some 26), .alloc [.int .i64 0, .int .i64 0, .str ⟨#[]⟩, .isl [] true], none, []⟩,
    ⟨none, .store 4 (.t 26) (.t 106), none, []⟩]) (
  .seq (.seq (.region [
    ⟨(some 107), .load 4 true (.t 25), none, []⟩,
    ⟨(some 108), .buildSl 1 4 true [.int .i64 0, .int .i64 0, .str ⟨#[]⟩, .isl [] true] [(0, 4, .t 107)], none, []⟩,
    ⟨(some 109), .load 4 true (.t 25), none, []⟩,
    ⟨(some 110), .load 4 true (.t 26), none, []⟩,
    ⟨(some 111), .buildSl 2 4 true [.int .i64 0, .int .i64 0, .str ⟨#[]⟩, .isl [] true, .int .i64 0, .int .i64 0, .str ⟨#[]⟩, .isl [] true] [(0, 4, .t 109), (4, 4, .t 110)], none, []⟩,
    ⟨(some 112), .load 4 true (.t 26), none, []⟩,
    ⟨(some 113), .load 4 true (.t 25), none, []⟩,
    ⟨(some 114), .buildSl 2 4 true [.int .i64 0, .int .i64 0, .str ⟨#[]⟩, .isl [] true, .int .i64 0, .int .i64 0, .str ⟨#[]⟩, .isl [] true] [(0, 4, .t 112), (4, 4, .t 113)], none, []⟩,
    ⟨(some 115), .load 4 true (.t 25), none, []⟩,
    ⟨(some 116), .mv (.t 1), none, []⟩,
    ⟨(some 119), .load 4 true (.t 26), none, []⟩,
    ⟨(some 120), .buildSl 1 4 true [.int .i64 0, .int .i64 0, .str ⟨#[]⟩, .isl [] true] [(0, 4, .t 119)], none, []⟩,
    ⟨(some 123), .mv (.c (.int .i64 0)), none, []⟩,
    ⟨(some 117), .call 22 [.t 116, .c (.int .i64 16)], none, [.t 25, .t 108, .t 25, .t 26, .t 111, .t 26, .t 25, .t 114, .t 25, .t 26, .t 120]⟩,
    ⟨(some 118), .buildSl 2 4 true [.int .i64 0, .int .i64 0, .str ⟨#[]⟩, .isl [] true, .int .i64 0, .int .i64 0, .str ⟨#[]⟩, .isl [] true] [(0, 4, .t 115), (4, 4, .t 117)], none, []⟩,
    ⟨(some 121), .buildSl 5 1 false [.isl [] true, .isl [] true, .isl [] true, .isl [] true, .isl [] true] [(0, 1, .t 108), (1, 1, .t 111), (2, 1, .t 114), (3, 1, .t 118), (4, 1, .t 120)], none, []⟩,
    ⟨(some 122), .len false (.t 121), none, []⟩]) (
  .block 0 (
    .loop (
      .seq (.region [
        ⟨(some 124), .bin .lss (.t 123) (.t 122), none, []⟩]) (
      .seq (.cond (.t 124) (
        .skip) (
        .exit 0)) (
      .seq (.block 1 (
        .seq (.region [
          ⟨(some 125), .iaddrS 1 (.t 121) (.t 123), none, []⟩,
          ⟨(some 126), .load 1 false (.t 125), none, []⟩,
          ⟨(some 28), .mv (.t 126), none, []⟩]) (
        .seq (.region [
          ⟨(some 128), .mv (.t 24), none, []⟩,
          ⟨(some 129), .mv (.t 28), none, []⟩,
          ⟨(some 130), .call 11 [.t 128, .t 129], none, []⟩,
          ⟨(some 127), .mv (.t 130), none, []⟩,
          ⟨(some 131), .extract 0 (.t 127), none, []⟩,
          ⟨(some 132), .extract 1 (.t 127), none, []⟩,
          ⟨none, .store 4 (.t 16) (.t 131), none, []⟩,
          ⟨(some 17), .mv (.t 132), none, []⟩]) (
        .seq (.region [
          ⟨(some 134), .mv (.t 24), none, []⟩,
          ⟨(some 135), .mv (.t 28), none, []⟩,
          ⟨(some 136), .call 12 [.t 134, .t 135], none, []⟩,
          ⟨(some 133), .mv (.t 136), none, []⟩,
          ⟨(some 137), .extract 0 (.t 133), none, []⟩,
          ⟨(some 138), .extract 1 (.t 133), none, []⟩,
          ⟨none, .store 4 (.t 18) (.t 137), none, []⟩,
          ⟨(some 19), .mv (.t 138), none, []⟩]) (
        .seq (.region [
          ⟨(some 139), .load 4 true (.t 16), none, []⟩,
          ⟨(some 140), .load 4 true (.t 18), none, []⟩,
          ⟨(some 141), .call 17 [.t 139, .t 140], none, []⟩,
          ⟨(some 142), .un .not (.t 141), none, []⟩,
          ⟨(some 143), .mv (.t 142), none, []⟩,
          ⟨(some 144), .mv (.t 17), (some (143, false)), []⟩,
          ⟨(some 145), .mv (.t 19), (some (143, false)), []⟩,
          ⟨(some 146), .eqb true (.t 144) (.t 145), (some (143, false)), []⟩,
          ⟨(some 147), .pick (.t 143) (.c (.bool true)) (.t 146), none, []⟩]) (
        .cond (.t 147) (
          .seq (.region [
            ⟨(some 14), .mv (.c (.bool false)), none, []⟩]) (
          .ret)) (
          .skip))))))) (
      .region [
        ⟨(some 148), .bin .add (.t 123) (.c (.int .i64 1)), none, []⟩,
        ⟨(some 123), .mv (.t 148), none, []⟩]))))))) (
  .seq (.region [
    ⟨(some 14), .mv (.c (.bool true)), none, []⟩]) (
  .ret)))))))))))),
  .pure, true, true⟩
theorem k3 : compF Tryd.prog { mt := false, mtAt := [], mode := .pure, clArgs := true, clRes := true } Tryd.f3 = some c3 := by kernel_rfl
/- beaconry/beaconrylaw02.BuiltinRight -/
def c4 : AFunc := ⟨128, [.tmp 6],
  .seq (.region [
    ⟨(some 4), .box (.t 1), none, []⟩,
    ⟨(some 5), .box (.t 2), none, []⟩,
    ⟨(some 6), .mv (.c (.bool false)), none, []⟩]) (
  .seq (.region [
    ⟨(some 18), .call 10 [], none, []⟩,
    ⟨(some 7), .mv (.t 18), none, []⟩]) (
  .seq (.region [
    ⟨(some 19), .call 20 [], none, []⟩,
    ⟨(some 20), .mv (.t 0), none, []⟩,
    ⟨(some 21), .call 21 [.t 20, .c (.int .i64 9)], none, []⟩,
    ⟨(some 22), .iaddrS 1 (.t 19) (.t 21), none, []⟩,
    ⟨(some 23), .load 1 false (.t 22), none, []⟩,
    ⟨(some 8), .mv (.t 23), none, []⟩]) (
  .seq (.region [
    ⟨(some 24), .buildSl 3 1 false [.str ⟨#[]⟩, .str ⟨#[]⟩, .str ⟨#[]⟩] [(0, 1, .c (.str ⟨#[43]⟩)), (1, 1, .c (.str ⟨#[45]⟩)), (2, 1, .c (.str ⟨#[42]⟩))], none, []⟩,
    ⟨(some 25), .mv (.t 0), none, []⟩,
    ⟨(some 26), .call 21 [.t 25, .c (.int .i64 3)], none, []⟩,
    ⟨(some 27), .iaddrS 1 (.t 24) (.t 26), none, []⟩,
    ⟨(some 28), .load 1 false (.t 27), none, []⟩,
    ⟨(some 9), .mv (.t 28), none, []⟩]) (
  .seq (.region [
    ⟨(some 29), .load 4 true (.t 4), none, []⟩,
    ⟨(some 30), .call 24 [.t 29], none, []⟩,
    ⟨(some 31), .mv (.t 30), none, []⟩,
    ⟨(some 32), .load 4 true (.t 5), (some (31, true)), []⟩,
    ⟨(some 33), .call 24 [.t 32], (some (31, true)), []⟩,
    ⟨(some 34), .pick (.t 31) (.t 33) (.c (.bool false)), none, []⟩,
    ⟨(some 10), .mv (.t 34), none, []⟩]) (
  .seq (.seq (.region [
    ⟨(some 35), .load 4 true (.t 4), none, []⟩,
    ⟨(some 36), .buildSl 1 4 true [.int .i64 0, .int .i64 0, .str ⟨#[]⟩, .isl [] true] [(0, 4, .t 35)], none, []⟩,
    ⟨(some 37), .load 4 true (.t 4), none, []⟩,
    ⟨(some 38), .load 4 true (.t 5), none, []⟩,
    ⟨(some 39), .buildSl 2 4 true [.int .i64 0, .int .i64 0, .str ⟨#[]⟩, .isl [] true, .int .i64 0, .int .i64 0, .str ⟨#[]⟩, .isl [] true] [(0, 4, .t 37), (4, 4, .t 38)], none, []⟩,
    ⟨(some 40), .load 4 true (.t 5), none, []⟩,
    ⟨(some 41), .load 4 true (.t 4), none, []⟩,
    ⟨(some 42), .buildSl 2 4 true [.int .i64 0, .int .i64 0, .str ⟨#[]⟩, .isl [] true, .int .i64 0, .int .i64 0, .str ⟨#[]⟩, .isl [] true] [(0, 4, .t 40), (4, 4, .t 41)], none, []⟩,
    ⟨(some 43), .buildSl 3 1 false [.isl [] true, .isl [] true, .isl [] true] [(0, 1, .t 36), (1, 1, .t 39), (2, 1, .t 42)], none, []⟩,
    ⟨(some 44), .len false (.t 43), none, []⟩,
    ⟨(some 45), .mv (.c (.int .i64 0)), none, []⟩]) (
  .block 0 (
    .loop (
      .seq (.region [
        ⟨(some 46), .bin .lss (.t 45) (.t 44), none, []⟩]) (
      .seq (.cond (.t 46) (
        .skip) (
        .exit 0)) (
      .seq (.block 1 (
        .seq (.region [
          ⟨(some 47), .iaddrS 1 (.t 43) (.t 45), none, []⟩,
          ⟨(some 48), .load 1 false (.t 47), none, []⟩,
          ⟨(some 12), .mv (.t 48), none, []⟩]) (
        .seq (.region [
          ⟨(some 50), .mv (.t 8), none, []⟩,
          ⟨(some 51), .mv (.t 12), none, []⟩,
          ⟨(some 52), .call 11 [.t 50, .t 51], none, []⟩,
          ⟨(some 49), .mv (.t 52), none, []⟩,
          ⟨(some 53), .extract 0 (.t 49), none, []⟩,
          ⟨(some 54), .extract 1 (.t 49), none, []⟩,
          ⟨(some 13), .alloc [.int .i64 0, .int .i64 0, .str ⟨#[]⟩, .isl [] true], none, []⟩,
          ⟨none, .store 4 (.t 13) (.t 53), none, []⟩,
          ⟨(some 14), .mv (.t 54), none, []⟩]) (
        .seq (.region [
          ⟨(some 55), .mv (.t 12), none, []⟩,
          ⟨(some 56), .iaddrS 4 (.t 55) (.c (.int .i64 0)), none, []⟩,
          ⟨(some 57), .load 4 true (.t 56), none, []⟩,
          ⟨(some 58), .call 24 [.t 57], none, []⟩,
          ⟨(some 59), .un .not (.t 58), none, []⟩,
          ⟨(some 60), .mv (.t 59), none, []⟩,
          ⟨(some 61), .mv (.t 12), (some (60, false)), []⟩,
          ⟨(some 62), .len false (.t 61), (some (60, false)), []⟩,
          ⟨(some 63), .bin .gtr (.t 62) (.c (.int .i64 1)), (some (60, false)), []⟩,
          ⟨(some 64), .mv (.t 63), (some (60, false)), []⟩,
          ⟨(some 65), .mv (.t 10), (some (64, true)), []⟩,
          ⟨(some 66), .un .not (.t 65), (some (64, true)), []⟩,
          ⟨(some 67), .pick (.t 64) (.t 66) (.c (.bool false)), (some (60, false)), []⟩,
          ⟨(some 68), .pick (.t 60) (.c (.bool true)) (.t 67), none, []⟩,
          ⟨(some 15), .mv (.t 68), none, []⟩]) (
        .seq (.region [
          ⟨(some 69), .mv (.t 14), none, []⟩,
          ⟨(some 70), .mv (.t 69), none, []⟩,
          ⟨(some 71), .load 4 true (.t 13), (some (70, true)), []⟩,
          ⟨(some 72), .call 24 [.t 71], (some (70, true)), []⟩,
          ⟨(some 73), .un .not (.t 72), (some (70, true)), []⟩,
          ⟨(some 74), .mv (.t 73), (some (70, true)), []⟩,
          ⟨(some 75), .mv (.t 15), (some (74, false)), []⟩,
          ⟨(some 76), .pick (.t 74) (.c (.bool true)) (.t 75), (some (70, true)), []⟩,
          ⟨(some 77), .mv (.t 76), (some (70, true)), []⟩,
          ⟨(some 78), .mv (.t 12), (some (77, false)), []⟩,
          ⟨(some 79), .len false (.t 78), (some (77, false)), []⟩,
          ⟨(some 80), .mv (.t 8), (some (77, false)), []⟩,
          ⟨(some 81), .call 15 [.t 80], (some (77, false)), []⟩,
          ⟨(some 82), .bin .neq (.t 79) (.t 81), (some (77, false)), []⟩,
          ⟨(some 83), .pick (.t 77) (.c (.bool true)) (.t 82), (some (70, true)), []⟩,
          ⟨(some 84), .pick (.t 70) (.t 83) (.c (.bool false)), none, []⟩,
          ⟨(some 85), .mv (.t 84), none, []⟩,
          ⟨(some 86), .mv (.t 14), (some (85, false)), []⟩,
          ⟨(some 87), .un .not (.t 86), (some (85, false)), []⟩,
          ⟨(some 88), .mv (.t 87), (some (85, false)), []⟩,
          ⟨(some 89), .load 4 true (.t 13), (some (88, true)), []⟩,
          ⟨(some 90), .build [.int .i64 0, .int .i64 0, .str ⟨#[]⟩, .isl [] true] [], (some (88, true)), []⟩,
          ⟨(some 91), .call 17 [.t 89, .t 90], (some (88, true)), []⟩,
          ⟨(some 92), .un .not (.t 91), (some (88, true)), []⟩,
          ⟨(some 93), .pick (.t 88) (.t 92) (.c (.bool false)), (some (85, false)), []⟩,
          ⟨(some 94), .pick (.t 85) (.c (.bool true)) (.t 93), none, []⟩]) (
        .cond (.t 94) (
          .seq (.region [
            ⟨(some 6), .mv (.c (.bool false)), none, []⟩]) (
          .ret)) (
          .skip))))))) (
      .region [
        ⟨(some 95), .bin .add (.t 45) (.c (.int .i64 1)), none, []⟩,
        ⟨(some 45), .mv (.t 95), none, []⟩]))))))) (
  .seq (.region [
    ⟨(some 97), .mv (.t 9), none, []⟩,
    ⟨(some 98), .load 4 true (.t 4), none, []⟩,
    ⟨(some 99), .load 4 true (.t 5), none, []⟩,
    ⟨(some 100), .call 13 [.t 97, .t 98, .t 99], none, []⟩,
    ⟨(some 96), .mv (.t 100), none, []⟩,
    ⟨(some 101), .extract 0 (.t 96), none, []⟩,
    ⟨(some 102), .extract 1 (.t 96), none, []⟩,
    ⟨(some 16), .alloc [.int .i64 0, .int .i64 0, .str ⟨#[]⟩, .isl [] true], none, []⟩,
    ⟨none, .store 4 (.t 16) (.t 101), none, []⟩,
    ⟨(some 17), .mv (.t 102), none, []⟩]) (
  .seq (.region [
    ⟨(some 103), .mv (.t 7), none, []⟩,
    ⟨(some 104), .mv (.t 103), none, []⟩,
    ⟨(some 105), .mv (.t 17), (some (104, true)), []⟩,
    ⟨(some 106), .un .not (.t 105), (some (104, true)), []⟩,
    ⟨(some 107), .mv (.t 106), (some (104, true)), []⟩,
    ⟨(some 108), .load 4 true (.t 16), (some (107, false)), []⟩,
    ⟨(some 109), .call 24 [.t 108], (some (107, false)), []⟩,
    ⟨(some 110), .mv (.t 109), (some (107, false)), []⟩,
    ⟨(some 111), .faddr 0 (.t 16), (some (110, true)), []⟩,
    ⟨(some 112), .load 1 false (.t 111), (some (110, true)), []⟩,
    ⟨(some 113), .bin .eql (.t 112) (.c (.int .i64 1)), (some (110, true)), []⟩,
    ⟨(some 114), .pick (.t 110) (.t 113) (.c (.bool false)), (some (107, false)), []⟩,
    ⟨(some 115), .mv (.t 114), (some (107, false)), []⟩,
    ⟨(some 116), .mv (.t 10), (some (115, true)), []⟩,
    ⟨(some 117), .pick (.t 115) (.t 116) (.c (.bool false)), (some (107, false)), []⟩,
    ⟨(some 118), .pick (.t 107) (.c (.bool true)) (.t 117), (some (104, true)), []⟩,
    ⟨(some 119), .pick (.t 104) (.t 118) (.c (.bool false)), none, []⟩,
    ⟨(some 120), .mv (.t 119), none, []⟩,
    ⟨(some 121), .mv (.t 17), (some (120, true)), []⟩,
    ⟨(some 122), .mv (.t 121), (some (120, true)), []⟩,
    ⟨(some 123), .load 4 true (.t 16), (some (122, false)), []⟩,
    ⟨(some 124), .build [.int .i64 0, .int .i64 0, .str ⟨#[]⟩, .isl [] true] [], (some (122, false)), []⟩,
    ⟨(some 125), .call 17 [.t 123, .t 124], (some (122, false)), []⟩,
    ⟨(some 126), .pick (.t 122) (.c (.bool true)) (.t 125), (some (120, true)), []⟩,
    ⟨(some 127), .pick (.t 120) (.t 126) (.c (.bool false)), none, []⟩,
    ⟨(some 6), .mv (.t 127), none, []⟩]) (
  .ret)))))))),
  .pure, true, true⟩
theorem k4 : compF Tryd.prog { mt := false, mtAt := [], mode := .pure, clArgs := true, clRes := true } Tryd.f4 = some c4 := by kernel_rfl
/- beaconry/beaconrylaw02.BuiltinLists -/
def c5 : AFunc := ⟨135, [.tmp 4],
  .seq (.region [
    ⟨(some 3), .box (.t 1), none, []⟩,
    ⟨(some 4), .mv (.c (.bool false)), none, []⟩]) (
  .seq (.region [
    ⟨(some 25), .call 10 [], none, []⟩,
    ⟨(some 5), .mv (.t 25), none, []⟩]) (
  .seq (.region [
    ⟨(some 26), .mv (.t 0), none, []⟩,
    ⟨(some 27), .call 22 [.t 26, .c (.int .i64 15)], none, []⟩,
    ⟨(some 6), .alloc [.int .i64 0, .int .i64 0, .str ⟨#[]⟩, .isl [] true], none, []⟩,
    ⟨none, .store 4 (.t 6) (.t 27), none, []⟩]) (
  .seq (.region [
    ⟨(some 28), .load 4 true (.t 3), none, []⟩,
    ⟨(some 29), .buildSl 1 4 true [.int .i64 0, .int .i64 0, .str ⟨#[]⟩, .isl [] true] [(0, 4, .t 28)], none, []⟩,
    ⟨(some 30), .call 22 [.t 29, .c (.int .i64 1)], none, []⟩,
    ⟨(some 31), .field 3 1 false (.t 30), none, []⟩,
    ⟨(some 32), .iaddrS 4 (.t 31) (.c (.int .i64 0)), none, []⟩,
    ⟨(some 33), .load 4 true (.t 32), none, []⟩,
    ⟨(some 7), .alloc [.int .i64 0, .int .i64 0, .str ⟨#[]⟩, .isl [] true], none, []⟩,
    ⟨none, .store 4 (.t 7) (.t 33), none, []⟩]) (
  .seq (.region [
    ⟨(some 35), .load 4 true (.t 7), none, []⟩,
    ⟨(some 36), .load 4 true (.t 6), none, []⟩,
    ⟨(some 37), .buildSl 2 4 true [.int .i64 0, .int .i64 0, .str ⟨#[]⟩, .isl [] true, .int .i64 0, .int .i64 0, .str ⟨#[]⟩, .isl [] true] [(0, 4, .t 35), (4, 4, .t 36)], none, []⟩,
    ⟨(some 38), .call 11 [.c (.str ⟨#[102, 95, 99, 111, 110, 115]⟩), .t 37], none, []⟩,
    ⟨(some 34), .mv (.t 38), none, []⟩,
    ⟨(some 39), .extract 0 (.t 34), none, []⟩,
    ⟨(some 40), .extract 1 (.t 34), none, []⟩,
    ⟨(some 8), .alloc [.int .i64 0, .int .i64 0, .str ⟨#[]⟩, .isl [] true], none, []⟩,
    ⟨none, .store 4 (.t 8) (.t 39), none, []⟩,
    ⟨(some 9), .mv (.t 40), none, []⟩]) (
  .seq (.region [
    ⟨(some 42), .load 4 true (.t 8), none, []⟩,
    ⟨(some 43), .buildSl 1 4 true [.int .i64 0, .int .i64 0, .str ⟨#[]⟩, .isl [] true] [(0, 4, .t 42)], none, []⟩,
    ⟨(some 44), .call 11 [.c (.str ⟨#[102, 95, 102, 105, 114, 115, 116]⟩), .t 43], none, []⟩,
    ⟨(some 41), .mv (.t 44), none, []⟩,
    ⟨(some 45), .extract 0 (.t 41), none, []⟩,
    ⟨(some 46), .extract 1 (.t 41), none, []⟩,
    ⟨(some 10), .alloc [.int .i64 0, .int .i64 0, .str ⟨#[]⟩, .isl [] true], none, []⟩,
    ⟨none, .store 4 (.t 10) (.t 45), none, []⟩,
    ⟨(some 11), .mv (.t 46), none, []⟩]) (
  .seq (.region [
    ⟨(some 48), .load 4 true (.t 8), none, []⟩,
    ⟨(some 49), .buildSl 1 4 true [.int .i64 0, .int .i64 0, .str ⟨#[]⟩, .isl [] true] [(0, 4, .t 48)], none, []⟩,
    ⟨(some 50), .call 11 [.c (.str ⟨#[102, 95, 114, 101, 115, 116]⟩), .t 49], none, []⟩,
    ⟨(some 47), .mv (.t 50), none, []⟩,
    ⟨(some 51), .extract 0 (.t 47), none, []⟩,
    ⟨(some 52), .extract 1 (.t 47), none, []⟩,
    ⟨(some 12), .alloc [.int .i64 0, .int .i64 0, .str ⟨#[]⟩, .isl [] true], none, []⟩,
    ⟨none, .store 4 (.t 12) (.t 51), none, []⟩,
    ⟨(some 13), .mv (.t 52), none, []⟩]) (
  .seq (.region [
    ⟨(some 54), .load 4 true (.t 6), none, []⟩,
    ⟨(some 55), .load 4 true (.t 7), none, []⟩,
    ⟨(some 56), .buildSl 2 4 true [.int .i64 0, .int .i64 0, .str ⟨#[]⟩, .isl [] true, .int .i64 0, .int .i64 0, .str ⟨#[]⟩, .isl [] true] [(0, 4, .t 54), (4, 4, .t 55)], none, []⟩,
    ⟨(some 57), .call 11 [.c (.str ⟨#[102, 95, 97, 112, 112, 101, 110, 100]⟩), .t 56], none, []⟩,
    ⟨(some 53), .mv (.t 57), none, []⟩,
    ⟨(some 58), .extract 0 (.t 53), none, []⟩,
    ⟨(some 59), .extract 1 (.t 53), none, []⟩,
    ⟨(some 14), .alloc [.int .i64 0, .int .i64 0, .str ⟨#[]⟩, .isl [] true], none, []⟩,
    ⟨none, .store 4 (.t 14) (.t 58), none, []⟩,
    ⟨(some 15), .mv (.t 59), none, []⟩]) (
  .seq (.region [
    ⟨(some 61), .load 4 true (.t 14), none, []⟩,
    ⟨(some 62), .buildSl 1 4 true [.int .i64 0, .int .i64 0, .str ⟨#[]⟩, .isl [] true] [(0, 4, .t 61)], none, []⟩,
    ⟨(some 63), .call 11 [.c (.str ⟨#[102, 95, 108, 97, 115, 116]⟩), .t 62], none, []⟩,
    ⟨(some 60), .mv (.t 63), none, []⟩,
    ⟨(some 64), .extract 0 (.t 60), none, []⟩,
    ⟨(some 65), .extract 1 (.t 60), none, []⟩,
    ⟨(some 16), .alloc [.int .i64 0, .int .i64 0, .str ⟨#[]⟩, .isl [] true], none, []⟩,
    ⟨none, .store 4 (.t 16) (.t 64), none, []⟩,
    ⟨(some 17), .mv (.t 65), none, []⟩]) (
  .seq (.region [
    ⟨(some 67), .load 4 true (.t 14), none, []⟩,
    ⟨(some 68), .buildSl 1 4 true [.int .i64 0, .int .i64 0, .str ⟨#[]⟩, .isl [] true] [(0, 4, .t 67)], none, []⟩,
    ⟨(some 69), .call 11 [.c (.str ⟨#[102, 95, 114, 101, 118, 101, 114, 115, 101]⟩), .t 68], none, []⟩,
    ⟨(some 66), .mv (.t 69), none, []⟩,
    ⟨(some 70), .extract 0 (.t 66), none, []⟩,
    ⟨(some 71), .extract 1 (.t 66), none, []⟩,
    ⟨(some 18), .alloc [.int .i64 0, .int .i64 0, .str ⟨#[]⟩, .isl [] true], none, []⟩,
    ⟨none, .store 4 (.t 18) (.t 70), none, []⟩,
    ⟨(some 19), .mv (.t 71), none, []⟩]) (
  .seq (.region [
    ⟨(some 73), .load 4 true (.t 18), none, []⟩,
    ⟨(some 74), .buildSl 1 4 true [.int .i64 0, .int .i64 0, .str ⟨#[]⟩, .isl [] true] [(0, 4, .t 73)], none, []⟩,
    ⟨(some 75), .call 11 [.c (.str ⟨#[102, 95, 114, 101, 118, 101, 114, 115, 101]⟩), .t 74], none, []⟩,
    ⟨(some 72), .mv (.t 75), none, []⟩,
    ⟨(some 76), .extract 0 (.t 72), none, []⟩,
    ⟨(some 77), .extract 1 (.t 72), none, []⟩,
    ⟨(some 20), .alloc [.int .i64 0, .int .i64 0, .str ⟨#[]⟩, .isl [] true], none, []⟩,
    ⟨none, .store 4 (.t 20) (.t 76), none, []⟩,
    ⟨(some 21), .mv (.t 77), none, []⟩]) (
  .seq (.region [
    ⟨(some 78), .mv (.t 9), none, []⟩,
    ⟨(some 79), .mv (.t 78), none, []⟩,
    ⟨(some 80), .mv (.t 11), (some (79, true)), []⟩,
    ⟨(some 81), .pick (.t 79) (.t 80) (.c (.bool false)), none, []⟩,
    ⟨(some 82), .mv (.t 81), none, []⟩,
    ⟨(some 83), .mv (.t 13), (some (82, true)), []⟩,
    ⟨(some 84), .pick (.t 82) (.t 83) (.c (.bool false)), none, []⟩,
    ⟨(some 85), .mv (.t 84), none, []⟩,
    ⟨(some 86), .mv (.t 15), (some (85, true)), []⟩,
    ⟨(some 87), .pick (.t 85) (.t 86) (.c (.bool false)), none, []⟩,
    ⟨(some 88), .mv (.t 87), none, []⟩,
    ⟨(some 89), .mv (.t 17), (some (88, true)), []⟩,
    ⟨(some 90), .pick (.t 88) (.t 89) (.c (.bool false)), none, []⟩,
    ⟨(some 91), .mv (.t 90), none, []⟩,
    ⟨(some 92), .mv (.t 19), (some (91, true)), []⟩,
    ⟨(some 93), .pick (.t 91) (.t 92) (.c (.bool false)), none, []⟩,
    ⟨(some 94), .mv (.t 93), none, []⟩,
    ⟨(some 95), .mv (.t 21), (some (94, true)), []⟩,
    ⟨(some 96), .pick (.t 94) (.t 95) (.c (.bool false)), none, []⟩,
    ⟨(some 97), .mv (.t 96), none, []⟩,
    ⟨(some 98), .load 4 true (.t 10), (some (97, true)), []⟩,
    ⟨(some 99), .load 4 true (.t 7), (some (97, true)), []⟩,
    ⟨(some 100), .call 17 [.t 98, .t 99], (some (97, true)), []⟩,
    ⟨(some 101), .pick (.t 97) (.t 100) (.c (.bool false)), none, []⟩,
    ⟨(some 102), .mv (.t 101), none, []⟩,
    ⟨(some 103), .load 4 true (.t 12), (some (102, true)), []⟩,
    ⟨(some 104), .load 4 true (.t 6), (some (102, true)), []⟩,
    ⟨(some 105), .call 17 [.t 103, .t 104], (some (102, true)), []⟩,
    ⟨(some 106), .pick (.t 102) (.t 105) (.c (.bool false)), none, []⟩,
    ⟨(some 107), .mv (.t 106), none, []⟩,
    ⟨(some 108), .load 4 true (.t 16), (some (107, true)), []⟩,
    ⟨(some 109), .load 4 true (.t 7), (some (107, true)), []⟩,
    ⟨(some 110), .call 17 [.t 108, .t 109], (some (107, true)), []⟩,
    ⟨(some 111), .pick (.t 107) (.t 110) (.c (.bool false)), none, []⟩,
    ⟨(some 112), .mv (.t 111), none, []⟩,
    ⟨(some 113), .load 4 true (.t 20), (some (112, true)), []⟩,
    ⟨(some 114), .load 4 true (.t 14), (some (112, true)), []⟩,
    ⟨(some 115), .call 17 [.t 113, .t 114], (some (112, true)), []⟩,
    ⟨(some 116), .pick (.t 112) (.t 115) (.c (.bool false)), none, []⟩,
    ⟨(some 22), .mv (.t 116), none, []⟩]) (
  .seq (.region [
    ⟨(some 118), .load 4 true (.t 18), none, []⟩,
    ⟨(some 119), .buildSl 1 4 true [.int .i64 0, .int .i64 0, .str ⟨#[]⟩, .isl [] true] [(0, 4, .t 118)], none, []⟩,
    ⟨(some 120), .call 11 [.c (.str ⟨#[102, 95, 102, 105, 114, 115, 116]⟩), .t 119], none, []⟩,
    ⟨(some 117), .mv (.t 120), none, []⟩,
    ⟨(some 121), .extract 0 (.t 117), none, []⟩,
    ⟨(some 122), .extract 1 (.t 117), none, []⟩,
    ⟨(some 23), .alloc [.int .i64 0, .int .i64 0, .str ⟨#[]⟩, .isl [] true], none, []⟩,
    ⟨none, .store 4 (.t 23) (.t 121), none, []⟩,
    ⟨(some 24), .mv (.t 122), none, []⟩]) (
  .seq (.region [
    ⟨(some 123), .mv (.t 5), none, []⟩,
    ⟨(some 124), .mv (.t 123), none, []⟩,
    ⟨(some 125), .mv (.t 22), (some (124, true)), []⟩,
    ⟨(some 126), .pick (.t 124) (.t 125) (.c (.bool false)), none, []⟩,
    ⟨(some 127), .mv (.t 126), none, []⟩,
    ⟨(some 128), .mv (.t 24), (some (127, true)), []⟩,
    ⟨(some 129), .pick (.t 127) (.t 128) (.c (.bool false)), none, []⟩,
    ⟨(some 130), .mv (.t 129), none, []⟩,
    ⟨(some 131), .load 4 true (.t 23), (some (130, true)), []⟩,
    ⟨(some 132), .load 4 true (.t 7), (some (130, true)), []⟩,
    ⟨(some 133), .call 17 [.t 131, .t 132], (some (130, true)), []⟩,
    ⟨(some 134), .pick (.t 130) (.t 133) (.c (.bool false)), none, []⟩,
    ⟨(some 4), .mv (.t 134), none, []⟩]) (
  .ret)))))))))))))),
  .pure, true, true⟩
theorem k5 : compF Tryd.prog { mt := false, mtAt := [], mode := .pure, clArgs := true, clRes := true } Tryd.f5 = some c5 := by kernel_rfl
/- beaconry/beaconrylaw02.BuiltinConcat -/
def c6 : AFunc := ⟨114, [.tmp 6],
  .seq (.region [
    ⟨(some 5), .box (.t 2), none, []⟩,
    ⟨(some 6), .mv (.c (.bool false)), none, []⟩]) (
  .seq (.region [
    ⟨(some 21), .call 10 [], none, []⟩,
    ⟨(some 7), .mv (.t 21), none, []⟩]) (
  .seq (.region [
    ⟨(some 22), .mv (.t 0), none, []⟩,
    ⟨(some 23), .call 22 [.t 22, .c (.int .i64 16)], none, []⟩,
    ⟨(some 8), .alloc [.int .i64 0, .int .i64 0, .str ⟨#[]⟩, .isl [] true], none, []⟩,
    ⟨none, .store 4 (.t 8) (.t 23), none, []⟩]) (
  .seq (.region [
    ⟨(some 24), .mv (.t 1), none, []⟩,
    ⟨(some 25), .call 22 [.t 24, .c (.int .i64 16)], none, []⟩,
    ⟨(some 9), .alloc [.int .i64 0, .int .i64 0, .str ⟨#[]⟩, .isl [] true], none, []⟩,
    ⟨none, .store 4 (.t 9) (.t 25), none, []⟩]) (
  .seq (.region [
    ⟨(some 26), .load 4 true (.t 5), none, []⟩,
    ⟨(some 27), .buildSl 1 4 true [.int .i64 0, .int .i64 0, .str ⟨#[]⟩, .isl [] true] [(0, 4, .t 26)], none, []⟩,
    ⟨(some 28), .call 22 [.t 27, .c (.int .i64 1)], none, []⟩,
    ⟨(some 29), .field 3 1 false (.t 28), none, []⟩,
    ⟨(some 30), .iaddrS 4 (.t 29) (.c (.int .i64 0)), none, []⟩,
    ⟨(some 31), .load 4 true (.t 30), none, []⟩,
    ⟨(some 10), .alloc [.int .i64 0, .int .i64 0, .str ⟨#[]⟩, .isl [] true], none, []⟩,
    ⟨none, .store 4 (.t 10) (.t 31), none, []⟩]) (
  .seq (.region [
    ⟨(some 33), .load 4 true (.t 8), none, []⟩,
    ⟨(some 34), .load 4 true (.t 9), none, []⟩,
    ⟨(some 35), .buildSl 2 4 true [.int .i64 0, .int .i64 0, .str ⟨#[]⟩, .isl [] true, .int .i64 0, .int .i64 0, .str ⟨#[]⟩, .isl [] true] [(0, 4, .t 33), (4, 4, .t 34)], none, []⟩,
    ⟨(some 36), .call 11 [.c (.str ⟨#[102, 95, 99, 111, 110, 99, 97, 116]⟩), .t 35], none, []⟩,
    ⟨(some 32), .mv (.t 36), none, []⟩,
    ⟨(some 37), .extract 0 (.t 32), none, []⟩,
    ⟨(some 38), .extract 1 (.t 32), none, []⟩,
    ⟨(some 11), .alloc [.int .i64 0, .int .i64 0, .str ⟨#[]⟩, .isl [] true], none, []⟩,
    ⟨none, .store 4 (.t 11) (.t 37), none, []⟩,
    ⟨(some 12), .mv (.t 38), none, []⟩]) (
  .seq (.seq (.region [
    ⟨(some 39), .mv (.t 7), none, []⟩,
    ⟨(some 40), .un .not (.t 39), none, []⟩,
    ⟨(some 41), .mv (.t 40), none, []⟩,
    ⟨(some 42), .mv (.t 12), (some (41, false)), []⟩,
    ⟨(some 43), .faddr 3 (.t 8), (some (41, false)), []⟩,
    ⟨(some 44), .load 1 false (.t 43), (some (41, false)), []⟩,
    ⟨(some 45), .len false (.t 44), (some (41, false)), []⟩,
    ⟨(some 46), .faddr 3 (.t 9), (some (41, false)), []⟩,
    ⟨(some 47), .load 1 false (.t 46), (some (41, false)), []⟩,
    ⟨(some 48), .len false (.t 47), (some (41, false)), []⟩,
    ⟨(some 49), .bin .add (.t 45) (.t 48), (some (41, false)), []⟩,
    ⟨(some 50), .bin .leq (.t 49) (.c (.int .i64 16)), (some (41, false)), []⟩,
    ⟨(some 51), .eqb true (.t 42) (.t 50), (some (41, false)), []⟩,
    ⟨(some 52), .pick (.t 41) (.c (.bool true)) (.t 51), none, []⟩]) (
  .cond (.t 52) (
    .seq (.region [
      ⟨(some 6), .mv (.c (.bool false)), none, []⟩]) (
    .ret)) (
    .skip))) (
  .seq (.seq (.region [
    ⟨(some 53), .mv (.t 12), none, []⟩,
    ⟨(some 54), .un .not (.t 53), none, []⟩]) (
  .cond (.t 54) (
    .seq (.region [
      ⟨(some 6), .mv (.c (.bool true)), none, []⟩]) (
    .ret)) (
    .skip))) (
  .seq (.region [
    ⟨(some 56), .load 4 true (.t 11), none, []⟩,
    ⟨(some 57), .buildSl 1 4 true [.int .i64 0, .int .i64 0, .str ⟨#[]⟩, .isl [] true] [(0, 4, .t 56)], none, []⟩,
    ⟨(some 58), .call 11 [.c (.str ⟨#[102, 95, 115, 105, 122, 101]⟩), .t 57], none, []⟩,
    ⟨(some 55), .mv (.t 58), none, []⟩,
    ⟨(some 59), .extract 0 (.t 55), none, []⟩,
    ⟨(some 60), .extract 1 (.t 55), none, []⟩,
    ⟨(some 13), .alloc [.int .i64 0, .int .i64 0, .str ⟨#[]⟩, .isl [] true], none, []⟩,
    ⟨none, .store 4 (.t 13) (.t 59), none, []⟩,
    ⟨(some 14), .mv (.t 60), none, []⟩]) (
  .seq (.region [
    ⟨(some 62), .load 4 true (.t 11), none, []⟩,
    ⟨(some 63), .load 4 true (.t 10), none, []⟩,
    ⟨(some 64), .buildSl 2 4 true [.int .i64 0, .int .i64 0, .str ⟨#[]⟩, .isl [] true, .int .i64 0, .int .i64 0, .str ⟨#[]⟩, .isl [] true] [(0, 4, .t 62), (4, 4, .t 63)], none, []⟩,
    ⟨(some 65), .call 11 [.c (.str ⟨#[102, 95, 109, 101, 109, 98, 101, 114]⟩), .t 64], none, []⟩,
    ⟨(some 61), .mv (.t 65), none, []⟩,
    ⟨(some 66), .extract 0 (.t 61), none, []⟩,
    ⟨(some 67), .extract 1 (.t 61), none, []⟩,
    ⟨(some 15), .alloc [.int .i64 0, .int .i64 0, .str ⟨#[]⟩, .isl [] true], none, []⟩,
    ⟨none, .store 4 (.t 15) (.t 66), none, []⟩,
    ⟨(some 16), .mv (.t 67), none, []⟩]) (
  .seq (.region [
    ⟨(some 69), .load 4 true (.t 8), none, []⟩,
    ⟨(some 70), .load 4 true (.t 10), none, []⟩,
    ⟨(some 71), .buildSl 2 4 true [.int .i64 0, .int .i64 0, .str ⟨#[]⟩, .isl [] true, .int .i64 0, .int .i64 0, .str ⟨#[]⟩, .isl [] true] [(0, 4, .t 69), (4, 4, .t 70)], none, []⟩,
    ⟨(some 72), .call 11 [.c (.str ⟨#[102, 95, 109, 101, 109, 98, 101, 114]⟩), .t 71], none, []⟩,
    ⟨(some 68), .mv (.t 72), none, []⟩,
    ⟨(some 73), .extract 0 (.t 68), none, []⟩,
    ⟨(some 74), .extract 1 (.t 68), none, []⟩,
    ⟨(some 17), .alloc [.int .i64 0, .int .i64 0, .str ⟨#[]⟩, .isl [] true], none, []⟩,
    ⟨none, .store 4 (.t 17) (.t 73), none, []⟩,
    ⟨(some 18), .mv (.t 74), none, []⟩]) (
  .seq (.region [
    ⟨(some 76), .load 4 true (.t 9), none, []⟩,
    ⟨(some 77), .load 4 true (.t 10), none, []⟩,
    ⟨(some 78), .buildSl 2 4 true [.int .i64 0, .int .i64 0, .str ⟨#[]⟩, .isl [] true, .int .i64 0, .int .i64 0, .str ⟨#[]⟩, .isl [] true] [(0, 4, .t 76), (4, 4, .t 77)], none, []⟩,
    ⟨(some 79), .call 11 [.c (.str ⟨#[102, 95, 109, 101, 109, 98, 101, 114]⟩), .t 78], none, []⟩,
    ⟨(some 75), .mv (.t 79), none, []⟩,
    ⟨(some 80), .extract 0 (.t 75), none, []⟩,
    ⟨(some 81), .extract 1 (.t 75), none, []⟩,
    ⟨(some 19), .alloc [.int .i64 0, .int .i64 0, .str ⟨#[]⟩, .isl [] true], none, []⟩,
    ⟨none, .store 4 (.t 19) (.t 80), none, []⟩,
    ⟨(some 20), .mv (.t 81), none, []⟩]) (
  .seq (.region [
    ⟨(some 82), .mv (.t 14), none, []⟩,
    ⟨(some 83), .mv (.t 82), none, []⟩,
    ⟨(some 84), .mv (.t 16), (some (83, true)), []⟩,
    ⟨(some 85), .pick (.t 83) (.t 84) (.c (.bool false)), none, []⟩,
    ⟨(some 86), .mv (.t 85), none, []⟩,
    ⟨(some 87), .mv (.t 18), (some (86, true)), []⟩,
    ⟨(some 88), .pick (.t 86) (.t 87) (.c (.bool false)), none, []⟩,
    ⟨(some 89), .mv (.t 88), none, []⟩,
    ⟨(some 90), .mv (.t 20), (some (89, true)), []⟩,
    ⟨(some 91), .pick (.t 89) (.t 90) (.c (.bool false)), none, []⟩,
    ⟨(some 92), .mv (.t 91), none, []⟩,
    ⟨(some 93), .faddr 1 (.t 13), (some (92, true)), []⟩,
    ⟨(some 94), .load 1 false (.t 93), (some (92, true)), []⟩,
    ⟨(some 95), .faddr 3 (.t 8), (some (92, true)), []⟩,
    ⟨(some 96), .load 1 false (.t 95), (some (92, true)), []⟩,
    ⟨(some 97), .len false (.t 96), (some (92, true)), []⟩,
    ⟨(some 98), .faddr 3 (.t 9), (some (92, true)), []⟩,
    ⟨(some 99), .load 1 false (.t 98), (some (92, true)), []⟩,
    ⟨(some 100), .len false (.t 99), (some (92, true)), []⟩,
    ⟨(some 101), .bin .add (.t 97) (.t 100), (some (92, true)), []⟩,
    ⟨(some 102), .bin .eql (.t 94) (.t 101), (some (92, true)), []⟩,
    ⟨(some 103), .pick (.t 92) (.t 102) (.c (.bool false)), none, []⟩,
    ⟨(some 104), .mv (.t 103), none, []⟩,
    ⟨(some 105), .faddr 1 (.t 15), (some (104, true)), []⟩,
    ⟨(some 106), .load 1 false (.t 105), (some (104, true)), []⟩,
    ⟨(some 107), .faddr 1 (.t 17), (some (104, true)), []⟩,
    ⟨(some 108), .load 1 false (.t 107), (some (104, true)), []⟩,
    ⟨(some 109), .faddr 1 (.t 19), (some (104, true)), []⟩,
    ⟨(some 110), .load 1 false (.t 109), (some (104, true)), []⟩,
    ⟨(some 111), .max [.t 108, .t 110], (some (104, true)), []⟩,
    ⟨(some 112), .bin .eql (.t 106) (.t 111), (some (104, true)), []⟩,
    ⟨(some 113), .pick (.t 104) (.t 112) (.c (.bool false)), none, []⟩,
    ⟨(some 6), .mv (.t 113), none, []⟩]) (
  .ret))))))))))))),
  .pure, true, true⟩
theorem k6 : compF Tryd.prog { mt := false, mtAt := [], mode := .pure, clArgs := true, clRes := true } Tryd.f6 = some c6 := by kernel_rfl
/- beaconry/beaconrylaw02.BuiltinSums -/
def c7 : AFunc := ⟨143, [.tmp 4],
  .seq (.region [
    ⟨(some 4), .mv (.c (.bool false)), none, []⟩]) (
  .seq (.region [
    ⟨(some 20), .call 10 [], none, []⟩,
    ⟨(some 5), .mv (.t 20), none, []⟩]) (
  .seq (.region [
    ⟨(some 21), .mv (.t 0), none, []⟩,
    ⟨(some 22), .call 21 [.t 21, .c (.int .i64 4294967295)], none, []⟩,
    ⟨(some 23), .bin .sub (.t 22) (.c (.int .i64 2147483647)), none, []⟩,
    ⟨(some 24), .call 25 [.t 23], none, []⟩,
    ⟨(some 6), .alloc [.int .i64 0, .int .i64 0, .str ⟨#[]⟩, .isl [] true], none, []⟩,
    ⟨none, .store 4 (.t 6) (.t 24), none, []⟩]) (
  .seq (.region [
    ⟨(some 25), .mv (.t 1), none, []⟩,
    ⟨(some 26), .call 21 [.t 25, .c (.int .i64 4294967295)], none, []⟩,
    ⟨(some 27), .bin .sub (.t 26) (.c (.int .i64 2147483647)), none, []⟩,
    ⟨(some 28), .call 25 [.t 27], none, []⟩,
    ⟨(some 7), .alloc [.int .i64 0, .int .i64 0, .str ⟨#[]⟩, .isl [] true], none, []⟩,
    ⟨none, .store 4 (.t 7) (.t 28), none, []⟩]) (
  .seq (.region [
    ⟨(some 30), .load 4 true (.t 6), none, []⟩,
    ⟨(some 31), .load 4 true (.t 7), none, []⟩,
    ⟨(some 32), .call 13 [.c (.str ⟨#[43]⟩), .t 30, .t 31], none, []⟩,
    ⟨(some 29), .mv (.t 32), none, []⟩,
    ⟨(some 33), .extract 0 (.t 29), none, []⟩,
    ⟨(some 34), .extract 1 (.t 29), none, []⟩,
    ⟨(some 8), .alloc [.int .i64 0, .int .i64 0, .str ⟨#[]⟩, .isl [] true], none, []⟩,
    ⟨none, .store 4 (.t 8) (.t 33), none, []⟩,
    ⟨(some 9), .mv (.t 34), none, []⟩]) (
  .seq (.region [
    ⟨(some 36), .load 4 true (.t 7), none, []⟩,
    ⟨(some 37), .load 4 true (.t 6), none, []⟩,
    ⟨(some 38), .call 13 [.c (.str ⟨#[43]⟩), .t 36, .t 37], none, []⟩,
    ⟨(some 35), .mv (.t 38), none, []⟩,
    ⟨(some 39), .extract 0 (.t 35), none, []⟩,
    ⟨(some 40), .extract 1 (.t 35), none, []⟩,
    ⟨(some 10), .alloc [.int .i64 0, .int .i64 0, .str ⟨#[]⟩, .isl [] true], none, []⟩,
    ⟨none, .store 4 (.t 10) (.t 39), none, []⟩,
    ⟨(some 11), .mv (.t 40), none, []⟩]) (
  .seq (.region [
    ⟨(some 42), .load 4 true (.t 6), none, []⟩,
    ⟨(some 43), .load 4 true (.t 7), none, []⟩,
    ⟨(some 44), .call 13 [.c (.str ⟨#[45]⟩), .t 42, .t 43], none, []⟩,
    ⟨(some 41), .mv (.t 44), none, []⟩,
    ⟨(some 45), .extract 0 (.t 41), none, []⟩,
    ⟨(some 46), .extract 1 (.t 41), none, []⟩,
    ⟨(some 12), .alloc [.int .i64 0, .int .i64 0, .str ⟨#[]⟩, .isl [] true], none, []⟩,
    ⟨none, .store 4 (.t 12) (.t 45), none, []⟩,
    ⟨(some 13), .mv (.t 46), none, []⟩]) (
  .seq (.region [
    ⟨(some 48), .load 4 true (.t 6), none, []⟩,
    ⟨(some 49), .load 4 true (.t 7), none, []⟩,
    ⟨(some 50), .call 13 [.c (.str ⟨#[42]⟩), .t 48, .t 49], none, []⟩,
    ⟨(some 47), .mv (.t 50), none, []⟩,
    ⟨(some 51), .extract 0 (.t 47), none, []⟩,
    ⟨(some 52), .extract 1 (.t 47), none, []⟩,
    ⟨(some 14), .alloc [.int .i64 0, .int .i64 0, .str ⟨#[]⟩, .isl [] true], none, []⟩,
    ⟨none, .store 4 (.t 14) (.t 51), none, []⟩,
    ⟨(some 15), .mv (.t 52), none, []⟩]) (
  .seq (.seq (.region [
    ⟨(some 53), .mv (.t 5), none, []⟩,
    ⟨(some 54), .un .not (.t 53), none, []⟩,
    ⟨(some 55), .mv (.t 54), none, []⟩,
    ⟨(some 56), .mv (.t 9), (some (55, false)), []⟩,
    ⟨(some 57), .mv (.t 11), (some (55, false)), []⟩,
    ⟨(some 58), .eqb true (.t 56) (.t 57), (some (55, false)), []⟩,
    ⟨(some 59), .pick (.t 55) (.c (.bool true)) (.t 58), none, []⟩,
    ⟨(some 60), .mv (.t 59), none, []⟩,
    ⟨(some 61), .load 4 true (.t 8), (some (60, false)), []⟩,
    ⟨(some 62), .load 4 true (.t 10), (some (60, false)), []⟩,
    ⟨(some 63), .call 17 [.t 61, .t 62], (some (60, false)), []⟩,
    ⟨(some 64), .un .not (.t 63), (some (60, false)), []⟩,
    ⟨(some 65), .pick (.t 60) (.c (.bool true)) (.t 64), none, []⟩,
    ⟨(some 66), .mv (.t 65), none, []⟩,
    ⟨(some 67), .mv (.t 9), (some (66, false)), []⟩,
    ⟨(some 68), .faddr 1 (.t 6), (some (66, false)), []⟩,
    ⟨(some 69), .load 1 false (.t 68), (some (66, false)), []⟩,
    ⟨(some 70), .faddr 1 (.t 7), (some (66, false)), []⟩,
    ⟨(some 71), .load 1 false (.t 70), (some (66, false)), []⟩,
    ⟨(some 72), .bin .add (.t 69) (.t 71), (some (66, false)), []⟩,
    ⟨(some 73), .bin .leq (.t 72) (.c (.int .i64 2147483647)), (some (66, false)), []⟩,
    ⟨(some 74), .mv (.t 73), (some (66, false)), []⟩,
    ⟨(some 75), .faddr 1 (.t 6), (some (74, true)), []⟩,
    ⟨(some 76), .load 1 false (.t 75), (some (74, true)), []⟩,
    ⟨(some 77), .faddr 1 (.t 7), (some (74, true)), []⟩,
    ⟨(some 78), .load 1 false (.t 77), (some (74, true)), []⟩,
    ⟨(some 79), .bin .add (.t 76) (.t 78), (some (74, true)), []⟩,
    ⟨(some 80), .bin .geq (.t 79) (.c (.int .i64 (-2147483647))), (some (74, true)), []⟩,
    ⟨(some 81), .pick (.t 74) (.t 80) (.c (.bool false)), (some (66, false)), []⟩,
    ⟨(some 82), .eqb true (.t 67) (.t 81), (some (66, false)), []⟩,
    ⟨(some 83), .pick (.t 66) (.c (.bool true)) (.t 82), none, []⟩,
    ⟨(some 84), .mv (.t 83), none, []⟩,
    ⟨(some 85), .mv (.t 15), (some (84, false)), []⟩,
    ⟨(some 86), .faddr 1 (.t 6), (some (84, false)), []⟩,
    ⟨(some 87), .load 1 false (.t 86), (some (84, false)), []⟩,
    ⟨(some 88), .faddr 1 (.t 7), (some (84, false)), []⟩,
    ⟨(some 89), .load 1 false (.t 88), (some (84, false)), []⟩,
    ⟨(some 90), .bin .mul (.t 87) (.t 89), (some (84, false)), []⟩,
    ⟨(some 91), .bin .leq (.t 90) (.c (.int .i64 2147483647)), (some (84, false)), []⟩,
    ⟨(some 92), .mv (.t 91), (some (84, false)), []⟩,
    ⟨(some 93), .faddr 1 (.t 6), (some (92, true)), []⟩,
    ⟨(some 94), .load 1 false (.t 93), (some (92, true)), []⟩,
    ⟨(some 95), .faddr 1 (.t 7), (some (92, true)), []⟩,
    ⟨(some 96), .load 1 false (.t 95), (some (92, true)), []⟩,
    ⟨(some 97), .bin .mul (.t 94) (.t 96), (some (92, true)), []⟩,
    ⟨(some 98), .bin .geq (.t 97) (.c (.int .i64 (-2147483647))), (some (92, true)), []⟩,
    ⟨(some 99), .pick (.t 92) (.t 98) (.c (.bool false)), (some (84, false)), []⟩,
    ⟨(some 100), .eqb true (.t 85) (.t 99), (some (84, false)), []⟩,
    ⟨(some 101), .pick (.t 84) (.c (.bool true)) (.t 100), none, []⟩,
    ⟨(some 102), .mv (.t 101), none, []⟩,
    ⟨(some 103), .mv (.t 15), (some (102, false)), []⟩,
    ⟨(some 104), .mv (.t 103), (some (102, false)), []⟩,
    ⟨(some 105), .faddr 1 (.t 14), (some (104, true)), []⟩,
    ⟨(some 106), .load 1 false (.t 105), (some (104, true)), []⟩,
    ⟨(some 107), .faddr 1 (.t 6), (some (104, true)), []⟩,
    ⟨(some 108), .load 1 false (.t 107), (some (104, true)), []⟩,
    ⟨(some 109), .faddr 1 (.t 7), (some (104, true)), []⟩,
    ⟨(some 110), .load 1 false (.t 109), (some (104, true)), []⟩,
    ⟨(some 111), .bin .mul (.t 108) (.t 110), (some (104, true)), []⟩,
    ⟨(some 112), .bin .neq (.t 106) (.t 111), (some (104, true)), []⟩,
    ⟨(some 113), .pick (.t 104) (.t 112) (.c (.bool false)), (some (102, false)), []⟩,
    ⟨(some 114), .pick (.t 102) (.c (.bool true)) (.t 113), none, []⟩]) (
  .cond (.t 114) (
    .seq (.region [
      ⟨(some 4), .mv (.c (.bool false)), none, []⟩]) (
    .ret)) (
    .skip))) (
  .seq (.seq (.region [
    ⟨(some 115), .mv (.t 9), none, []⟩]) (
  .cond (.t 115) (
    .seq (.region [
      ⟨(some 117), .load 4 true (.t 8), none, []⟩,
      ⟨(some 118), .load 4 true (.t 7), none, []⟩,
      ⟨(some 119), .call 13 [.c (.str ⟨#[45]⟩), .t 117, .t 118], none, []⟩,
      ⟨(some 116), .mv (.t 119), none, []⟩,
      ⟨(some 120), .extract 0 (.t 116), none, []⟩,
      ⟨(some 121), .extract 1 (.t 116), none, []⟩,
      ⟨(some 16), .alloc [.int .i64 0, .int .i64 0, .str ⟨#[]⟩, .isl [] true], none, []⟩,
      ⟨none, .store 4 (.t 16) (.t 120), none, []⟩,
      ⟨(some 17), .mv (.t 121), none, []⟩]) (
    .seq (.region [
      ⟨(some 122), .mv (.t 17), none, []⟩,
      ⟨(some 123), .un .not (.t 122), none, []⟩,
      ⟨(some 124), .mv (.t 123), none, []⟩,
      ⟨(some 125), .load 4 true (.t 16), (some (124, false)), []⟩,
      ⟨(some 126), .load 4 true (.t 6), (some (124, false)), []⟩,
      ⟨(some 127), .call 17 [.t 125, .t 126], (some (124, false)), []⟩,
      ⟨(some 128), .un .not (.t 127), (some (124, false)), []⟩,
      ⟨(some 129), .pick (.t 124) (.c (.bool true)) (.t 128), none, []⟩]) (
    .cond (.t 129) (
      .seq (.region [
        ⟨(some 4), .mv (.c (.bool false)), none, []⟩]) (
      .ret)) (
      .skip)))) (
    .skip))) (
  .seq (.seq (.region [
    ⟨(some 130), .mv (.t 13), none, []⟩]) (
  .cond (.t 130) (
    .seq (.region [
      ⟨(some 132), .load 4 true (.t 12), none, []⟩,
      ⟨(some 133), .load 4 true (.t 7), none, []⟩,
      ⟨(some 134), .call 13 [.c (.str ⟨#[43]⟩), .t 132, .t 133], none, []⟩,
      ⟨(some 131), .mv (.t 134), none, []⟩,
      ⟨(some 135), .extract 0 (.t 131), none, []⟩,
      ⟨(some 136), .extract 1 (.t 131), none, []⟩,
      ⟨(some 18), .alloc [.int .i64 0, .int .i64 0, .str ⟨#[]⟩, .isl [] true], none, []⟩,
      ⟨none, .store 4 (.t 18) (.t 135), none, []⟩,
      ⟨(some 19), .mv (.t 136), none, []⟩]) (
    .seq (.region [
      ⟨(some 137), .mv (.t 19), none, []⟩,
      ⟨(some 138), .mv (.t 137), none, []⟩,
      ⟨(some 139), .load 4 true (.t 18), (some (138, true)), []⟩,
      ⟨(some 140), .load 4 true (.t 6), (some (138, true)), []⟩,
      ⟨(some 141), .call 17 [.t 139, .t 140], (some (138, true)), []⟩,
      ⟨(some 142), .pick (.t 138) (.t 141) (.c (.bool false)), none, []⟩,
      ⟨(some 4), .mv (.t 142), none, []⟩]) (
    .ret))) (
    .skip))) (
  .seq (.region [
    ⟨(some 4), .mv (.c (.bool true)), none, []⟩]) (
  .ret)))))))))))),
  .pure, true, true⟩
theorem k7 : compF Tryd.prog { mt := false, mtAt := [], mode := .pure, clArgs := true, clRes := true } Tryd.f7 = some c7 := by kernel_rfl
/- beaconry/beaconrylaw02.BuiltinTests -/
def c8 : AFunc := ⟨102, [.tmp 4],
  .seq (.region [
    ⟨(some 2), .box (.t 0), none, []⟩,
    ⟨(some 3), .box (.t 1), none, []⟩,
    ⟨(some 4), .mv (.c (.bool false)), none, []⟩]) (
  .seq (.region [
    ⟨(some 12), .call 10 [], none, []⟩,
    ⟨(some 5), .mv (.t 12), none, []⟩]) (
  .seq (.region [
    ⟨(some 13), .load 4 true (.t 2), none, []⟩,
    ⟨(some 14), .call 23 [.t 13], none, []⟩,
    ⟨(some 6), .alloc [.int .i64 0, .int .i64 0, .str ⟨#[]⟩, .isl [] true], none, []⟩,
    ⟨none, .store 4 (.t 6) (.t 14), none, []⟩]) (
  .seq (.region [
    ⟨(some 15), .load 4 true (.t 3), none, []⟩,
    ⟨(some 16), .call 23 [.t 15], none, []⟩,
    ⟨(some 7), .alloc [.int .i64 0, .int .i64 0, .str ⟨#[]⟩, .isl [] true], none, []⟩,
    ⟨none, .store 4 (.t 7) (.t 16), none, []⟩]) (
  .seq (.region [
    ⟨(some 17), .load 4 true (.t 6), none, []⟩,
    ⟨(some 18), .load 4 true (.t 7), none, []⟩,
    ⟨(some 19), .call 18 [.c (.str ⟨#[61, 61]⟩), .t 17, .t 18], none, []⟩,
    ⟨(some 8), .mv (.t 19), none, []⟩]) (
  .seq (.region [
    ⟨(some 20), .load 4 true (.t 6), none, []⟩,
    ⟨(some 21), .load 4 true (.t 7), none, []⟩,
    ⟨(some 22), .call 18 [.c (.str ⟨#[60]⟩), .t 20, .t 21], none, []⟩,
    ⟨(some 9), .mv (.t 22), none, []⟩]) (
  .seq (.region [
    ⟨(some 23), .load 4 true (.t 6), none, []⟩,
    ⟨(some 24), .load 4 true (.t 7), none, []⟩,
    ⟨(some 25), .call 18 [.c (.str ⟨#[62]⟩), .t 23, .t 24], none, []⟩,
    ⟨(some 10), .mv (.t 25), none, []⟩]) (
  .seq (.region [
    ⟨(some 26), .mv (.t 8), none, []⟩,
    ⟨(some 27), .mv (.t 26), none, []⟩,
    ⟨(some 28), .mv (.t 9), (some (27, true)), []⟩,
    ⟨(some 29), .un .not (.t 28), (some (27, true)), []⟩,
    ⟨(some 30), .pick (.t 27) (.t 29) (.c (.bool false)), none, []⟩,
    ⟨(some 31), .mv (.t 30), none, []⟩,
    ⟨(some 32), .mv (.t 10), (some (31, true)), []⟩,
    ⟨(some 33), .un .not (.t 32), (some (31, true)), []⟩,
    ⟨(some 34), .pick (.t 31) (.t 33) (.c (.bool false)), none, []⟩,
    ⟨(some 35), .mv (.t 34), none, []⟩,
    ⟨(some 36), .mv (.t 8), (some (35, false)), []⟩,
    ⟨(some 37), .un .not (.t 36), (some (35, false)), []⟩,
    ⟨(some 38), .mv (.t 37), (some (35, false)), []⟩,
    ⟨(some 39), .mv (.t 9), (some (38, true)), []⟩,
    ⟨(some 40), .pick (.t 38) (.t 39) (.c (.bool false)), (some (35, false)), []⟩,
    ⟨(some 41), .mv (.t 40), (some (35, false)), []⟩,
    ⟨(some 42), .mv (.t 10), (some (41, true)), []⟩,
    ⟨(some 43), .un .not (.t 42), (some (41, true)), []⟩,
    ⟨(some 44), .pick (.t 41) (.t 43) (.c (.bool false)), (some (35, false)), []⟩,
    ⟨(some 45), .pick (.t 35) (.c (.bool true)) (.t 44), none, []⟩,
    ⟨(some 46), .mv (.t 45), none, []⟩,
    ⟨(some 47), .mv (.t 8), (some (46, false)), []⟩,
    ⟨(some 48), .un .not (.t 47), (some (46, false)), []⟩,
    ⟨(some 49), .mv (.t 48), (some (46, false)), []⟩,
    ⟨(some 50), .mv (.t 9), (some (49, true)), []⟩,
    ⟨(some 51), .un .not (.t 50), (some (49, true)), []⟩,
    ⟨(some 52), .pick (.t 49) (.t 51) (.c (.bool false)), (some (46, false)), []⟩,
    ⟨(some 53), .mv (.t 52), (some (46, false)), []⟩,
    ⟨(some 54), .mv (.t 10), (some (53, true)), []⟩,
    ⟨(some 55), .pick (.t 53) (.t 54) (.c (.bool false)), (some (46, false)), []⟩,
    ⟨(some 56), .pick (.t 46) (.c (.bool true)) (.t 55), none, []⟩,
    ⟨(some 11), .mv (.t 56), none, []⟩]) (
  .seq (.region [
    ⟨(some 57), .mv (.t 5), none, []⟩,
    ⟨(some 58), .mv (.t 57), none, []⟩,
    ⟨(some 59), .mv (.t 11), (some (58, true)), []⟩,
    ⟨(some 60), .pick (.t 58) (.t 59) (.c (.bool false)), none, []⟩,
    ⟨(some 61), .mv (.t 60), none, []⟩,
    ⟨(some 62), .load 4 true (.t 6), (some (61, true)), []⟩,
    ⟨(some 63), .load 4 true (.t 7), (some (61, true)), []⟩,
    ⟨(some 64), .call 18 [.c (.str ⟨#[33, 61]⟩), .t 62, .t 63], (some (61, true)), []⟩,
    ⟨(some 65), .mv (.t 8), (some (61, true)), []⟩,
    ⟨(some 66), .un .not (.t 65), (some (61, true)), []⟩,
    ⟨(some 67), .eqb false (.t 64) (.t 66), (some (61, true)), []⟩,
    ⟨(some 68), .pick (.t 61) (.t 67) (.c (.bool false)), none, []⟩,
    ⟨(some 69), .mv (.t 68), none, []⟩,
    ⟨(some 70), .load 4 true (.t 6), (some (69, true)), []⟩,
    ⟨(some 71), .load 4 true (.t 7), (some (69, true)), []⟩,
    ⟨(some 72), .call 18 [.c (.str ⟨#[60, 61]⟩), .t 70, .t 71], (some (69, true)), []⟩,
    ⟨(some 73), .mv (.t 9), (some (69, true)), []⟩,
    ⟨(some 74), .mv (.t 73), (some (69, true)), []⟩,
    ⟨(some 75), .mv (.t 8), (some (74, false)), []⟩,
    ⟨(some 76), .pick (.t 74) (.c (.bool true)) (.t 75), (some (69, true)), []⟩,
    ⟨(some 77), .eqb false (.t 72) (.t 76), (some (69, true)), []⟩,
    ⟨(some 78), .pick (.t 69) (.t 77) (.c (.bool false)), none, []⟩,
    ⟨(some 79), .mv (.t 78), none, []⟩,
    ⟨(some 80), .load 4 true (.t 6), (some (79, true)), []⟩,
    ⟨(some 81), .load 4 true (.t 7), (some (79, true)), []⟩,
    ⟨(some 82), .call 18 [.c (.str ⟨#[62, 61]⟩), .t 80, .t 81], (some (79, true)), []⟩,
    ⟨(some 83), .mv (.t 10), (some (79, true)), []⟩,
    ⟨(some 84), .mv (.t 83), (some (79, true)), []⟩,
    ⟨(some 85), .mv (.t 8), (some (84, false)), []⟩,
    ⟨(some 86), .pick (.t 84) (.c (.bool true)) (.t 85), (some (79, true)), []⟩,
    ⟨(some 87), .eqb false (.t 82) (.t 86), (some (79, true)), []⟩,
    ⟨(some 88), .pick (.t 79) (.t 87) (.c (.bool false)), none, []⟩,
    ⟨(some 89), .mv (.t 88), none, []⟩,
    ⟨(some 90), .load 4 true (.t 7), (some (89, true)), []⟩,
    ⟨(some 91), .load 4 true (.t 6), (some (89, true)), []⟩,
    ⟨(some 92), .call 18 [.c (.str ⟨#[62]⟩), .t 90, .t 91], (some (89, true)), []⟩,
    ⟨(some 93), .mv (.t 9), (some (89, true)), []⟩,
    ⟨(some 94), .eqb false (.t 92) (.t 93), (some (89, true)), []⟩,
    ⟨(some 95), .pick (.t 89) (.t 94) (.c (.bool false)), none, []⟩,
    ⟨(some 96), .mv (.t 95), none, []⟩,
    ⟨(some 97), .load 4 true (.t 6), (some (96, true)), []⟩,
    ⟨(some 98), .load 4 true (.t 7), (some (96, true)), []⟩,
    ⟨(some 99), .call 18 [.c (.str ⟨#[61]⟩), .t 97, .t 98], (some (96, true)), []⟩,
    ⟨(some 100), .un .not (.t 99), (some (96, true)), []⟩,
    ⟨(some 101), .pick (.t 96) (.t 100) (.c (.bool false)), none, []⟩,
    ⟨(some 4), .mv (.t 101), none, []⟩]) (
  .ret))))))))),
  .pure, true, true⟩
theorem k8 : compF Tryd.prog { mt := false, mtAt := [], mode := .pure, clArgs := true, clRes := true } Tryd.f8 = some c8 := by kernel_rfl
/- beaconry/beaconrylaw02.BuiltinSizes -/
def c9 : AFunc := ⟨132, [.tmp 4],
  .seq (.region [
    ⟨(some 3), .box (.t 1), none, []⟩,
    ⟨(some 4), .mv (.c (.bool false)), none, []⟩]) (
  .seq (.region [
    ⟨(some 20), .call 10 [], none, []⟩,
    ⟨(some 5), .mv (.t 20), none, []⟩]) (
  .seq (.region [
    ⟨(some 21), .mv (.t 0), none, []⟩,
    ⟨(some 22), .call 22 [.t 21, .c (.int .i64 15)], none, []⟩,
    ⟨(some 6), .alloc [.int .i64 0, .int .i64 0, .str ⟨#[]⟩, .isl [] true], none, []⟩,
    ⟨none, .store 4 (.t 6) (.t 22), none, []⟩]) (
  .seq (.region [
    ⟨(some 23), .load 4 true (.t 3), none, []⟩,
    ⟨(some 24), .buildSl 1 4 true [.int .i64 0, .int .i64 0, .str ⟨#[]⟩, .isl [] true] [(0, 4, .t 23)], none, []⟩,
    ⟨(some 25), .call 22 [.t 24, .c (.int .i64 1)], none, []⟩,
    ⟨(some 26), .field 3 1 false (.t 25), none, []⟩,
    ⟨(some 27), .iaddrS 4 (.t 26) (.c (.int .i64 0)), none, []⟩,
    ⟨(some 28), .load 4 true (.t 27), none, []⟩,
    ⟨(some 7), .alloc [.int .i64 0, .int .i64 0, .str ⟨#[]⟩, .isl [] true], none, []⟩,
    ⟨none, .store 4 (.t 7) (.t 28), none, []⟩]) (
  .seq (.region [
    ⟨(some 29), .faddr 3 (.t 6), none, []⟩,
    ⟨(some 30), .load 1 false (.t 29), none, []⟩,
    ⟨(some 31), .len false (.t 30), none, []⟩,
    ⟨(some 8), .mv (.t 31), none, []⟩]) (
  .seq (.region [
    ⟨(some 33), .load 4 true (.t 7), none, []⟩,
    ⟨(some 34), .load 4 true (.t 6), none, []⟩,
    ⟨(some 35), .buildSl 2 4 true [.int .i64 0, .int .i64 0, .str ⟨#[]⟩, .isl [] true, .int .i64 0, .int .i64 0, .str ⟨#[]⟩, .isl [] true] [(0, 4, .t 33), (4, 4, .t 34)], none, []⟩,
    ⟨(some 36), .call 11 [.c (.str ⟨#[102, 95, 99, 111, 110, 115]⟩), .t 35], none, []⟩,
    ⟨(some 32), .mv (.t 36), none, []⟩,
    ⟨(some 37), .extract 0 (.t 32), none, []⟩,
    ⟨(some 38), .extract 1 (.t 32), none, []⟩,
    ⟨(some 9), .alloc [.int .i64 0, .int .i64 0, .str ⟨#[]⟩, .isl [] true], none, []⟩,
    ⟨none, .store 4 (.t 9) (.t 37), none, []⟩,
    ⟨(some 10), .mv (.t 38), none, []⟩]) (
  .seq (.region [
    ⟨(some 40), .load 4 true (.t 6), none, []⟩,
    ⟨(some 41), .load 4 true (.t 7), none, []⟩,
    ⟨(some 42), .buildSl 2 4 true [.int .i64 0, .int .i64 0, .str ⟨#[]⟩, .isl [] true, .int .i64 0, .int .i64 0, .str ⟨#[]⟩, .isl [] true] [(0, 4, .t 40), (4, 4, .t 41)], none, []⟩,
    ⟨(some 43), .call 11 [.c (.str ⟨#[102, 95, 97, 112, 112, 101, 110, 100]⟩), .t 42], none, []⟩,
    ⟨(some 39), .mv (.t 43), none, []⟩,
    ⟨(some 44), .extract 0 (.t 39), none, []⟩,
    ⟨(some 45), .extract 1 (.t 39), none, []⟩,
    ⟨(some 11), .alloc [.int .i64 0, .int .i64 0, .str ⟨#[]⟩, .isl [] true], none, []⟩,
    ⟨none, .store 4 (.t 11) (.t 44), none, []⟩,
    ⟨(some 12), .mv (.t 45), none, []⟩]) (
  .seq (.region [
    ⟨(some 47), .load 4 true (.t 6), none, []⟩,
    ⟨(some 48), .buildSl 1 4 true [.int .i64 0, .int .i64 0, .str ⟨#[]⟩, .isl [] true] [(0, 4, .t 47)], none, []⟩,
    ⟨(some 49), .call 11 [.c (.str ⟨#[102, 95, 114, 101, 115, 116]⟩), .t 48], none, []⟩,
    ⟨(some 46), .mv (.t 49), none, []⟩,
    ⟨(some 50), .extract 0 (.t 46), none, []⟩,
    ⟨(some 51), .extract 1 (.t 46), none, []⟩,
    ⟨(some 13), .alloc [.int .i64 0, .int .i64 0, .str ⟨#[]⟩, .isl [] true], none, []⟩,
    ⟨none, .store 4 (.t 13) (.t 50), none, []⟩,
    ⟨(some 14), .mv (.t 51), none, []⟩]) (
  .seq (.region [
    ⟨(some 53), .load 4 true (.t 6), none, []⟩,
    ⟨(some 54), .buildSl 1 4 true [.int .i64 0, .int .i64 0, .str ⟨#[]⟩, .isl [] true] [(0, 4, .t 53)], none, []⟩,
    ⟨(some 55), .call 11 [.c (.str ⟨#[102, 95, 114, 101, 118, 101, 114, 115, 101]⟩), .t 54], none, []⟩,
    ⟨(some 52), .mv (.t 55), none, []⟩,
    ⟨(some 56), .extract 0 (.t 52), none, []⟩,
    ⟨(some 57), .extract 1 (.t 52), none, []⟩,
    ⟨(some 15), .alloc [.int .i64 0, .int .i64 0, .str ⟨#[]⟩, .isl [] true], none, []⟩,
    ⟨none, .store 4 (.t 15) (.t 56), none, []⟩,
    ⟨(some 16), .mv (.t 57), none, []⟩]) (
  .seq (.seq (.region [
    ⟨(some 17), .mv (.c (.int .i64 0)), none, []⟩]) (
  .block 0 (
    .loop (
      .seq (.seq (.region [
        ⟨(some 58), .mv (.t 17), none, []⟩,
        ⟨(some 59), .mv (.t 8), none, []⟩,
        ⟨(some 60), .bin .lss (.t 58) (.t 59), none, []⟩]) (
      .cond (.t 60) (
        .skip) (
        .exit 0))) (
      .seq (.block 1 (
        .seq (.region [
          ⟨(some 64), .load 4 true (.t 6), none, []⟩,
          ⟨(some 65), .faddr 3 (.t 6), none, []⟩,
          ⟨(some 66), .load 1 false (.t 65), none, []⟩,
          ⟨(some 67), .mv (.t 17), none, []⟩,
          ⟨(some 68), .iaddrS 4 (.t 66) (.t 67), none, []⟩,
          ⟨(some 69), .load 4 true (.t 68), none, []⟩,
          ⟨(some 70), .buildSl 2 4 true [.int .i64 0, .int .i64 0, .str ⟨#[]⟩, .isl [] true, .int .i64 0, .int .i64 0, .str ⟨#[]⟩, .isl [] true] [(0, 4, .t 64), (4, 4, .t 69)], none, []⟩,
          ⟨(some 18), .alloc [.int .i64 0, .int .i64 0, .str ⟨#[]⟩, .isl [] true], none, []⟩,
          ⟨(some 71), .call 11 [.c (.str ⟨#[102, 95, 109, 101, 109, 98, 101, 114]⟩), .t 70], none, [.t 18]⟩,
          ⟨(some 63), .mv (.t 71), none, []⟩,
          ⟨(some 72), .extract 0 (.t 63), none, []⟩,
          ⟨(some 73), .extract 1 (.t 63), none, []⟩,
          ⟨none, .store 4 (.t 18) (.t 72), none, []⟩,
          ⟨(some 19), .mv (.t 73), none, []⟩]) (
        .seq (.region [
          ⟨(some 74), .mv (.t 19), none, []⟩,
          ⟨(some 75), .un .not (.t 74), none, []⟩,
          ⟨(some 76), .mv (.t 75), none, []⟩,
          ⟨(some 77), .faddr 1 (.t 18), (some (76, false)), []⟩,
          ⟨(some 78), .load 1 false (.t 77), (some (76, false)), []⟩,
          ⟨(some 79), .bin .neq (.t 78) (.c (.int .i64 1)), (some (76, false)), []⟩,
          ⟨(some 80), .pick (.t 76) (.c (.bool true)) (.t 79), none, []⟩]) (
        .cond (.t 80) (
          .seq (.region [
            ⟨(some 4), .mv (.c (.bool false)), none, []⟩]) (
          .ret)) (
          .skip))))) (
      .region [
        ⟨(some 61), .mv (.t 17), none, []⟩,
        ⟨(some 62), .bin .add (.t 61) (.c (.int .i64 1)), none, []⟩,
        ⟨(some 17), .mv (.t 62), none, []⟩])))))) (
  .seq (.region [
    ⟨(some 81), .mv (.t 5), none, []⟩,
    ⟨(some 82), .mv (.t 81), none, []⟩,
    ⟨(some 83), .mv (.t 10), (some (82, true)), []⟩,
    ⟨(some 84), .pick (.t 82) (.t 83) (.c (.bool false)), none, []⟩,
    ⟨(some 85), .mv (.t 84), none, []⟩,
    ⟨(some 86), .mv (.t 12), (some (85, true)), []⟩,
    ⟨(some 87), .pick (.t 85) (.t 86) (.c (.bool false)), none, []⟩,
    ⟨(some 88), .mv (.t 87), none, []⟩,
    ⟨(some 89), .mv (.t 16), (some (88, true)), []⟩,
    ⟨(some 90), .pick (.t 88) (.t 89) (.c (.bool false)), none, []⟩,
    ⟨(some 91), .mv (.t 90), none, []⟩,
    ⟨(some 92), .mv (.t 14), (some (91, true)), []⟩,
    ⟨(some 93), .mv (.t 8), (some (91, true)), []⟩,
    ⟨(some 94), .bin .gtr (.t 93) (.c (.int .i64 0)), (some (91, true)), []⟩,
    ⟨(some 95), .eqb false (.t 92) (.t 94), (some (91, true)), []⟩,
    ⟨(some 96), .pick (.t 91) (.t 95) (.c (.bool false)), none, []⟩,
    ⟨(some 97), .mv (.t 96), none, []⟩,
    ⟨(some 98), .faddr 3 (.t 9), (some (97, true)), []⟩,
    ⟨(some 99), .load 1 false (.t 98), (some (97, true)), []⟩,
    ⟨(some 100), .len false (.t 99), (some (97, true)), []⟩,
    ⟨(some 101), .mv (.t 8), (some (97, true)), []⟩,
    ⟨(some 102), .bin .add (.t 101) (.c (.int .i64 1)), (some (97, true)), []⟩,
    ⟨(some 103), .bin .eql (.t 100) (.t 102), (some (97, true)), []⟩,
    ⟨(some 104), .pick (.t 97) (.t 103) (.c (.bool false)), none, []⟩,
    ⟨(some 105), .mv (.t 104), none, []⟩,
    ⟨(some 106), .faddr 3 (.t 11), (some (105, true)), []⟩,
    ⟨(some 107), .load 1 false (.t 106), (some (105, true)), []⟩,
    ⟨(some 108), .len false (.t 107), (some (105, true)), []⟩,
    ⟨(some 109), .mv (.t 8), (some (105, true)), []⟩,
    ⟨(some 110), .bin .add (.t 109) (.c (.int .i64 1)), (some (105, true)), []⟩,
    ⟨(some 111), .bin .eql (.t 108) (.t 110), (some (105, true)), []⟩,
    ⟨(some 112), .pick (.t 105) (.t 111) (.c (.bool false)), none, []⟩,
    ⟨(some 113), .mv (.t 112), none, []⟩,
    ⟨(some 114), .faddr 3 (.t 15), (some (113, true)), []⟩,
    ⟨(some 115), .load 1 false (.t 114), (some (113, true)), []⟩,
    ⟨(some 116), .len false (.t 115), (some (113, true)), []⟩,
    ⟨(some 117), .mv (.t 8), (some (113, true)), []⟩,
    ⟨(some 118), .bin .eql (.t 116) (.t 117), (some (113, true)), []⟩,
    ⟨(some 119), .pick (.t 113) (.t 118) (.c (.bool false)), none, []⟩,
    ⟨(some 120), .mv (.t 119), none, []⟩,
    ⟨(some 121), .mv (.t 14), (some (120, true)), []⟩,
    ⟨(some 122), .un .not (.t 121), (some (120, true)), []⟩,
    ⟨(some 123), .mv (.t 122), (some (120, true)), []⟩,
    ⟨(some 124), .faddr 3 (.t 13), (some (123, false)), []⟩,
    ⟨(some 125), .load 1 false (.t 124), (some (123, false)), []⟩,
    ⟨(some 126), .len false (.t 125), (some (123, false)), []⟩,
    ⟨(some 127), .mv (.t 8), (some (123, false)), []⟩,
    ⟨(some 128), .bin .sub (.t 127) (.c (.int .i64 1)), (some (123, false)), []⟩,
    ⟨(some 129), .bin .eql (.t 126) (.t 128), (some (123, false)), []⟩,
    ⟨(some 130), .pick (.t 123) (.c (.bool true)) (.t 129), (some (120, true)), []⟩,
    ⟨(some 131), .pick (.t 120) (.t 130) (.c (.bool false)), none, []⟩,
    ⟨(some 4), .mv (.t 131), none, []⟩]) (
  .ret))))))))))),
  .pure, true, true⟩
theorem k9 : compF Tryd.prog { mt := false, mtAt := [], mode := .pure, clArgs := true, clRes := true } Tryd.f9 = some c9 := by kernel_rfl
/- beaconry/beaconrylaw02.awake -/
def c10 : AFunc := ⟨58, [.tmp 0],
  .seq (.region [
    ⟨(some 0), .mv (.c (.bool false)), none, []⟩]) (
  .seq (.region [
    ⟨(some 8), .call 25 [.c (.int .i64 1)], none, []⟩,
    ⟨(some 1), .alloc [.int .i64 0, .int .i64 0, .str ⟨#[]⟩, .isl [] true], none, []⟩,
    ⟨none, .store 4 (.t 1) (.t 8), none, []⟩]) (
  .seq (.region [
    ⟨(some 10), .load 4 true (.t 1), none, []⟩,
    ⟨(some 2), .alloc [.int .i64 0, .int .i64 0, .str ⟨#[]⟩, .isl [] true], none, []⟩,
    ⟨(some 11), .call 25 [.c (.int .i64 2)], none, [.t 1, .t 2]⟩,
    ⟨(some 12), .buildSl 1 4 true [.int .i64 0, .int .i64 0, .str ⟨#[]⟩, .isl [] true] [(0, 4, .t 11)], none, []⟩,
    ⟨(some 13), .call 26 [.t 12], none, [.t 1, .t 2]⟩,
    ⟨(some 14), .buildSl 2 4 true [.int .i64 0, .int .i64 0, .str ⟨#[]⟩, .isl [] true, .int .i64 0, .int .i64 0, .str ⟨#[]⟩, .isl [] true] [(0, 4, .t 10), (4, 4, .t 13)], none, []⟩,
    ⟨(some 15), .call 11 [.c (.str ⟨#[102, 95, 99, 111, 110, 115]⟩), .t 14], none, [.t 2]⟩,
    ⟨(some 9), .mv (.t 15), none, []⟩,
    ⟨(some 16), .extract 0 (.t 9), none, []⟩,
    ⟨(some 17), .extract 1 (.t 9), none, []⟩,
    ⟨none, .store 4 (.t 2) (.t 16), none, []⟩,
    ⟨(some 3), .mv (.t 17), none, []⟩]) (
  .seq (.region [
    ⟨(some 19), .load 4 true (.t 2), none, []⟩,
    ⟨(some 4), .alloc [.int .i64 0, .int .i64 0, .str ⟨#[]⟩, .isl [] true], none, []⟩,
    ⟨(some 20), .call 25 [.c (.int .i64 3)], none, [.t 2, .t 4]⟩,
    ⟨(some 21), .buildSl 2 4 true [.int .i64 0, .int .i64 0, .str ⟨#[]⟩, .isl [] true, .int .i64 0, .int .i64 0, .str ⟨#[]⟩, .isl [] true] [(0, 4, .t 19), (4, 4, .t 20)], none, []⟩,
    ⟨(some 22), .call 11 [.c (.str ⟨#[102, 95, 109, 101, 109, 98, 101, 114]⟩), .t 21], none, [.t 4]⟩,
    ⟨(some 18), .mv (.t 22), none, []⟩,
    ⟨(some 23), .extract 0 (.t 18), none, []⟩,
    ⟨(some 24), .extract 1 (.t 18), none, []⟩,
    ⟨none, .store 4 (.t 4) (.t 23), none, []⟩,
    ⟨(some 5), .mv (.t 24), none, []⟩]) (
  .seq (.region [
    ⟨(some 27), .load 4 true (.t 1), none, []⟩,
    ⟨(some 6), .alloc [.int .i64 0, .int .i64 0, .str ⟨#[]⟩, .isl [] true], none, []⟩,
    ⟨(some 26), .call 25 [.c (.int .i64 2147483647)], none, [.t 1, .t 6]⟩,
    ⟨(some 28), .call 13 [.c (.str ⟨#[43]⟩), .t 26, .t 27], none, [.t 6]⟩,
    ⟨(some 25), .mv (.t 28), none, []⟩,
    ⟨(some 29), .extract 0 (.t 25), none, []⟩,
    ⟨(some 30), .extract 1 (.t 25), none, []⟩,
    ⟨none, .store 4 (.t 6) (.t 29), none, []⟩,
    ⟨(some 7), .mv (.t 30), none, []⟩]) (
  .seq (.region [
    ⟨(some 31), .mv (.t 3), none, []⟩,
    ⟨(some 32), .mv (.t 31), none, []⟩,
    ⟨(some 33), .load 4 true (.t 2), (some (32, true)), []⟩,
    ⟨(some 34), .call 27 [.t 33], (some (32, true)), []⟩,
    ⟨(some 35), .bin .eql (.t 34) (.c (.str ⟨#[91, 49, 44, 50, 93]⟩)), (some (32, true)), []⟩,
    ⟨(some 36), .pick (.t 32) (.t 35) (.c (.bool false)), none, []⟩,
    ⟨(some 37), .mv (.t 36), none, []⟩,
    ⟨(some 38), .mv (.t 5), (some (37, true)), []⟩,
    ⟨(some 39), .pick (.t 37) (.t 38) (.c (.bool false)), none, []⟩,
    ⟨(some 40), .mv (.t 39), none, []⟩,
    ⟨(some 41), .load 4 true (.t 4), (some (40, true)), []⟩,
    ⟨(some 42), .call 27 [.t 41], (some (40, true)), []⟩,
    ⟨(some 43), .bin .eql (.t 42) (.c (.str ⟨#[48]⟩)), (some (40, true)), []⟩,
    ⟨(some 44), .pick (.t 40) (.t 43) (.c (.bool false)), none, []⟩,
    ⟨(some 45), .mv (.t 44), none, []⟩,
    ⟨(some 46), .mv (.t 7), (some (45, true)), []⟩,
    ⟨(some 47), .un .not (.t 46), (some (45, true)), []⟩,
    ⟨(some 48), .pick (.t 45) (.t 47) (.c (.bool false)), none, []⟩,
    ⟨(some 49), .mv (.t 48), none, []⟩,
    ⟨(some 50), .call 15 [.c (.str ⟨#[102, 95, 99, 111, 110, 115]⟩)], (some (49, true)), []⟩,
    ⟨(some 51), .bin .eql (.t 50) (.c (.int .i64 2)), (some (49, true)), []⟩,
    ⟨(some 52), .pick (.t 49) (.t 51) (.c (.bool false)), none, []⟩,
    ⟨(some 53), .mv (.t 52), none, []⟩,
    ⟨(some 54), .load 4 true (.t 1), (some (53, true)), []⟩,
    ⟨(some 55), .call 25 [.c (.int .i64 2)], (some (53, true)), [.t 1]⟩,
    ⟨(some 56), .call 18 [.c (.str ⟨#[60]⟩), .t 54, .t 55], (some (53, true)), []⟩,
    ⟨(some 57), .pick (.t 53) (.t 56) (.c (.bool false)), none, []⟩,
    ⟨(some 0), .mv (.t 57), none, []⟩]) (
  .ret)))))),
  .pure, true, true⟩
theorem k10 : compF Tryd.prog { mt := false, mtAt := [], mode := .pure, clArgs := true, clRes := true } Tryd.f10 = some c10 := by kernel_rfl
/- beaconry/builtin.Call -/
def c11 : AFunc := ⟨46, [.cell 4 4 true, .tmp 5],
  .seq (.region [
    ⟨(some 4), .alloc [.int .i64 0, .int .i64 0, .str ⟨#[]⟩, .isl [] true], none, []⟩,
    ⟨(some 5), .mv (.c (.bool false)), none, []⟩]) (
  .seq (.region [
    ⟨(some 9), .mv (.t 0), none, []⟩,
    ⟨(some 10), .call 28 [.t 9], none, []⟩,
    ⟨(some 6), .alloc [.int .i64 0, .int .i64 0, .nilfunc], none, []⟩,
    ⟨none, .store 3 (.t 6) (.t 10), none, []⟩]) (
  .seq (.seq (.region [
    ⟨(some 11), .faddr 0 (.t 6), none, []⟩,
    ⟨(some 12), .load 1 false (.t 11), none, []⟩,
    ⟨(some 13), .mv (.t 1), none, []⟩,
    ⟨(some 14), .len false (.t 13), none, []⟩,
    ⟨(some 15), .bin .neq (.t 12) (.t 14), none, []⟩,
    ⟨(some 16), .mv (.t 15), none, []⟩,
    ⟨(some 17), .mv (.t 1), (some (16, false)), []⟩,
    ⟨(some 18), .call 29 [.t 17, .f 30], (some (16, false)), []⟩,
    ⟨(some 19), .pick (.t 16) (.c (.bool true)) (.t 18), none, []⟩,
    ⟨(some 20), .mv (.t 19), none, []⟩,
    ⟨(some 21), .mv (.t 1), (some (20, false)), []⟩,
    ⟨(some 22), .faddr 1 (.t 6), (some (20, false)), []⟩,
    ⟨(some 23), .load 1 false (.t 22), (some (20, false)), []⟩,
    ⟨(some 24), .iaddrS 4 (.t 21) (.t 23), (some (20, false)), []⟩,
    ⟨(some 25), .faddr 0 (.t 24), (some (20, false)), []⟩,
    ⟨(some 26), .load 1 false (.t 25), (some (20, false)), []⟩,
    ⟨(some 27), .bin .neq (.t 26) (.c (.int .i64 4)), (some (20, false)), []⟩,
    ⟨(some 28), .pick (.t 20) (.c (.bool true)) (.t 27), none, []⟩]) (
  .cond (.t 28) (
    .seq (.region [
      ⟨(some 29), .build [.int .i64 0, .int .i64 0, .str ⟨#[]⟩, .isl [] true] [], none, []⟩,
      ⟨none, .store 4 (.t 4) (.t 29), none, []⟩,
      ⟨(some 5), .mv (.c (.bool false)), none, []⟩]) (
    .ret)) (
    .skip))) (
  .seq (.region [
    ⟨(some 31), .faddr 2 (.t 6), none, []⟩,
    ⟨(some 32), .load 1 false (.t 31), none, []⟩,
    ⟨(some 33), .mv (.t 1), none, []⟩,
    ⟨(some 34), .faddr 1 (.t 6), none, []⟩,
    ⟨(some 35), .load 1 false (.t 34), none, []⟩,
    ⟨(some 36), .iaddrS 4 (.t 33) (.t 35), none, []⟩,
    ⟨(some 37), .faddr 3 (.t 36), none, []⟩,
    ⟨(some 38), .load 1 false (.t 37), none, []⟩,
    ⟨(some 39), .mv (.t 1), none, []⟩,
    ⟨(some 7), .alloc [.int .i64 0, .int .i64 0, .str ⟨#[]⟩, .isl [] true], none, []⟩,
    ⟨(some 40), .callv (.t 32) [.t 38, .t 39], none, [.t 7]⟩,
    ⟨(some 30), .mv (.t 40), none, []⟩,
    ⟨(some 41), .extract 0 (.t 30), none, []⟩,
    ⟨(some 42), .extract 1 (.t 30), none, []⟩,
    ⟨none, .store 4 (.t 7) (.t 41), none, []⟩,
    ⟨(some 8), .mv (.t 42), none, []⟩]) (
  .seq (.region [
    ⟨(some 43), .load 4 true (.t 7), none, []⟩,
    ⟨(some 44), .call 31 [.t 43], none, []⟩,
    ⟨(some 45), .mv (.t 8), none, []⟩,
    ⟨none, .store 4 (.t 4) (.t 44), none, []⟩,
    ⟨(some 5), .mv (.t 45), none, []⟩]) (
  .ret))))),
  .pure, true, true⟩
theorem k11 : compF Tryd.prog { mt := false, mtAt := [], mode := .pure, clArgs := true, clRes := true } Tryd.f11 = some c11 := by kernel_rfl
/- beaconry/beaconryref02.Call -/
def c12 : AFunc := ⟨155, [.cell 4 4 true, .tmp 5],
  .seq (.region [
    ⟨(some 4), .alloc [.int .i64 0, .int .i64 0, .str ⟨#[]⟩, .isl [] true], none, []⟩,
    ⟨(some 5), .mv (.c (.bool false)), none, []⟩]) (
  .seq (.seq (.region [
    ⟨(some 13), .mv (.t 0), none, []⟩,
    ⟨(some 14), .call 16 [.t 13], none, []⟩,
    ⟨(some 15), .mv (.t 1), none, []⟩,
    ⟨(some 16), .len false (.t 15), none, []⟩,
    ⟨(some 17), .bin .neq (.t 14) (.t 16), none, []⟩]) (
  .cond (.t 17) (
    .seq (.region [
      ⟨(some 18), .build [.int .i64 0, .int .i64 0, .str ⟨#[]⟩, .isl [] true] [], none, []⟩,
      ⟨none, .store 4 (.t 4) (.t 18), none, []⟩,
      ⟨(some 5), .mv (.c (.bool false)), none, []⟩]) (
    .ret)) (
    .skip))) (
  .seq (.seq (.region [
    ⟨(some 6), .mv (.c (.int .i64 0)), none, []⟩]) (
  .block 0 (
    .loop (
      .seq (.seq (.region [
        ⟨(some 19), .mv (.t 6), none, []⟩,
        ⟨(some 20), .mv (.t 1), none, []⟩,
        ⟨(some 21), .len false (.t 20), none, []⟩,
        ⟨(some 22), .bin .lss (.t 19) (.t 21), none, []⟩]) (
      .cond (.t 22) (
        .skip) (
        .exit 0))) (
      .seq (.block 1 (
        .seq (.region [
          ⟨(some 25), .mv (.t 1), none, []⟩,
          ⟨(some 26), .mv (.t 6), none, []⟩,
          ⟨(some 27), .iaddrS 4 (.t 25) (.t 26), none, []⟩,
          ⟨(some 28), .load 4 true (.t 27), none, []⟩,
          ⟨(some 29), .call 32 [.t 28], none, []⟩,
          ⟨(some 7), .mv (.t 29), none, []⟩]) (
        .seq (.region [
          ⟨(some 30), .mv (.t 7), none, []⟩,
          ⟨(some 31), .un .not (.t 30), none, []⟩]) (
        .cond (.t 31) (
          .seq (.region [
            ⟨(some 32), .build [.int .i64 0, .int .i64 0, .str ⟨#[]⟩, .isl [] true] [], none, []⟩,
            ⟨none, .store 4 (.t 4) (.t 32), none, []⟩,
            ⟨(some 5), .mv (.c (.bool false)), none, []⟩]) (
          .ret)) (
          .skip))))) (
      .region [
        ⟨(some 23), .mv (.t 6), none, []⟩,
        ⟨(some 24), .bin .add (.t 23) (.c (.int .i64 1)), none, []⟩,
        ⟨(some 6), .mv (.t 24), none, []⟩])))))) (
  .seq (.region [
    ⟨(some 33), .mv (.t 1), none, []⟩,
    ⟨(some 34), .iaddrS 4 (.t 33) (.c (.int .i64 0)), none, []⟩,
    ⟨(some 35), .load 4 true (.t 34), none, []⟩,
    ⟨(some 8), .alloc [.int .i64 0, .int .i64 0, .str ⟨#[]⟩, .isl [] true], none, []⟩,
    ⟨none, .store 4 (.t 8) (.t 35), none, []⟩]) (
  .seq (.seq (.region [
    ⟨(some 36), .mv (.t 0), none, []⟩,
    ⟨(some 37), .bin .eql (.t 36) (.c (.str ⟨#[102, 95, 99, 111, 110, 115]⟩)), none, []⟩]) (
  .cond (.t 37) (
    .region [
      ⟨(some 38), .mv (.t 1), none, []⟩,
      ⟨(some 39), .iaddrS 4 (.t 38) (.c (.int .i64 1)), none, []⟩,
      ⟨(some 40), .load 4 true (.t 39), none, []⟩,
      ⟨none, .store 4 (.t 8) (.t 40), none, []⟩]) (
    .skip))) (
  .seq (.seq (.region [
    ⟨(some 41), .faddr 0 (.t 8), none, []⟩,
    ⟨(some 42), .load 1 false (.t 41), none, []⟩,
    ⟨(some 43), .bin .neq (.t 42) (.c (.int .i64 4)), none, []⟩]) (
  .cond (.t 43) (
    .seq (.region [
      ⟨(some 44), .build [.int .i64 0, .int .i64 0, .str ⟨#[]⟩, .isl [] true] [], none, []⟩,
      ⟨none, .store 4 (.t 4) (.t 44), none, []⟩,
      ⟨(some 5), .mv (.c (.bool false)), none, []⟩]) (
    .ret)) (
    .skip))) (
  .seq (.region [
    ⟨(some 45), .faddr 3 (.t 8), none, []⟩,
    ⟨(some 46), .load 1 false (.t 45), none, []⟩,
    ⟨(some 47), .len false (.t 46), none, []⟩,
    ⟨(some 9), .mv (.t 47), none, []⟩]) (
  .seq (.seq (.region [
    ⟨(some 48), .mv (.t 0), none, []⟩]) (
  .block 2 (
    .seq (.region [
      ⟨(some 50), .bin .eql (.t 48) (.c (.str ⟨#[102, 95, 99, 111, 110, 115]⟩)), none, []⟩,
      ⟨(some 49), .mv (.t 50), none, []⟩]) (
    .cond (.t 49) (
      .seq (.region [
        ⟨(some 51), .mv (.t 1), none, []⟩,
        ⟨(some 52), .slSl 4 (.t 51) none (some (.c (.int .i64 1))), none, []⟩,
        ⟨(some 53), .faddr 3 (.t 8), none, []⟩,
        ⟨(some 54), .load 1 false (.t 53), none, []⟩,
        ⟨(some 55), .buildSl 2 1 false [.isl [] true, .isl [] true] [(0, 1, .t 52), (1, 1, .t 54)], none, []⟩,
        ⟨(some 56), .call 33 [.t 55], none, []⟩,
        ⟨(some 57), .extract 0 (.t 56), none, []⟩,
        ⟨(some 58), .extract 1 (.t 56), none, []⟩,
        ⟨none, .store 4 (.t 4) (.t 57), none, []⟩,
        ⟨(some 5), .mv (.t 58), none, []⟩]) (
      .ret)) (
      .seq (.region [
        ⟨(some 60), .bin .eql (.t 48) (.c (.str ⟨#[102, 95, 97, 112, 112, 101, 110, 100]⟩)), none, []⟩,
        ⟨(some 59), .mv (.t 60), none, []⟩]) (
      .cond (.t 59) (
        .seq (.region [
          ⟨(some 61), .faddr 3 (.t 8), none, []⟩,
          ⟨(some 62), .load 1 false (.t 61), none, []⟩,
          ⟨(some 63), .mv (.t 1), none, []⟩,
          ⟨(some 64), .slSl 4 (.t 63) (some (.c (.int .i64 1))) none, none, []⟩,
          ⟨(some 65), .buildSl 2 1 false [.isl [] true, .isl [] true] [(0, 1, .t 62), (1, 1, .t 64)], none, []⟩,
          ⟨(some 66), .call 33 [.t 65], none, []⟩,
          ⟨(some 67), .extract 0 (.t 66), none, []⟩,
          ⟨(some 68), .extract 1 (.t 66), none, []⟩,
          ⟨none, .store 4 (.t 4) (.t 67), none, []⟩,
          ⟨(some 5), .mv (.t 68), none, []⟩]) (
        .ret)) (
        .seq (.region [
          ⟨(some 70), .bin .eql (.t 48) (.c (.str ⟨#[102, 95, 99, 111, 110, 99, 97, 116]⟩)), none, []⟩,
          ⟨(some 69), .mv (.t 70), none, []⟩]) (
        .cond (.t 69) (
          .seq (.seq (.region [
            ⟨(some 71), .mv (.t 1), none, []⟩,
            ⟨(some 72), .iaddrS 4 (.t 71) (.c (.int .i64 1)), none, []⟩,
            ⟨(some 73), .faddr 0 (.t 72), none, []⟩,
            ⟨(some 74), .load 1 false (.t 73), none, []⟩,
            ⟨(some 75), .bin .neq (.t 74) (.c (.int .i64 4)), none, []⟩]) (
          .cond (.t 75) (
            .seq (.region [
              ⟨(some 76), .build [.int .i64 0, .int .i64 0, .str ⟨#[]⟩, .isl [] true] [], none, []⟩,
              ⟨none, .store 4 (.t 4) (.t 76), none, []⟩,
              ⟨(some 5), .mv (.c (.bool false)), none, []⟩]) (
            .ret)) (
            .skip))) (
          .seq (.region [
            ⟨(some 77), .faddr 3 (.t 8), none, []⟩,
            ⟨(some 78), .load 1 false (.t 77), none, []⟩,
            ⟨(some 79), .mv (.t 1), none, []⟩,
            ⟨(some 80), .iaddrS 4 (.t 79) (.c (.int .i64 1)), none, []⟩,
            ⟨(some 81), .faddr 3 (.t 80), none, []⟩,
            ⟨(some 82), .load 1 false (.t 81), none, []⟩,
            ⟨(some 83), .buildSl 2 1 false [.isl [] true, .isl [] true] [(0, 1, .t 78), (1, 1, .t 82)], none, []⟩,
            ⟨(some 84), .call 33 [.t 83], none, []⟩,
            ⟨(some 85), .extract 0 (.t 84), none, []⟩,
            ⟨(some 86), .extract 1 (.t 84), none, []⟩,
            ⟨none, .store 4 (.t 4) (.t 85), none, []⟩,
            ⟨(some 5), .mv (.t 86), none, []⟩]) (
          .ret))) (
          .seq (.region [
            ⟨(some 88), .bin .eql (.t 48) (.c (.str ⟨#[102, 95, 109, 101, 109, 98, 101, 114]⟩)), none, []⟩,
            ⟨(some 87), .mv (.t 88), none, []⟩]) (
          .cond (.t 87) (
            .seq (.seq (.region [
              ⟨(some 10), .mv (.c (.int .i64 0)), none, []⟩]) (
            .block 3 (
              .loop (
                .seq (.seq (.region [
                  ⟨(some 89), .mv (.t 10), none, []⟩,
                  ⟨(some 90), .mv (.t 9), none, []⟩,
                  ⟨(some 91), .bin .lss (.t 89) (.t 90), none, []⟩]) (
                .cond (.t 91) (
                  .skip) (
                  .exit 3))) (
                .seq (.block 4 (
                  .seq (.region [
                    ⟨(some 94), .faddr 3 (.t 8), none, []⟩,
                    ⟨(some 95), .load 1 false (.t 94), none, []⟩,
                    ⟨(some 96), .mv (.t 10), none, []⟩,
                    ⟨(some 97), .iaddrS 4 (.t 95) (.t 96), none, []⟩,
                    ⟨(some 98), .load 4 true (.t 97), none, []⟩,
                    ⟨(some 99), .mv (.t 1), none, []⟩,
                    ⟨(some 100), .iaddrS 4 (.t 99) (.c (.int .i64 1)), none, []⟩,
                    ⟨(some 101), .load 4 true (.t 100), none, []⟩,
                    ⟨(some 102), .call 34 [.t 98, .t 101], none, []⟩,
                    ⟨(some 103), .bin .eql (.t 102) (.c (.int .i64 0)), none, []⟩]) (
                  .cond (.t 103) (
                    .seq (.region [
                      ⟨(some 104), .call 35 [.c (.int .i64 1)], none, []⟩,
                      ⟨none, .store 4 (.t 4) (.t 104), none, []⟩,
                      ⟨(some 5), .mv (.c (.bool true)), none, []⟩]) (
                    .ret)) (
                    .skip)))) (
                .region [
                  ⟨(some 92), .mv (.t 10), none, []⟩,
                  ⟨(some 93), .bin .add (.t 92) (.c (.int .i64 1)), none, []⟩,
                  ⟨(some 10), .mv (.t 93), none, []⟩])))))) (
            .seq (.region [
              ⟨(some 105), .call 35 [.c (.int .i64 0)], none, []⟩,
              ⟨none, .store 4 (.t 4) (.t 105), none, []⟩,
              ⟨(some 5), .mv (.c (.bool true)), none, []⟩]) (
            .ret))) (
            .seq (.region [
              ⟨(some 107), .bin .eql (.t 48) (.c (.str ⟨#[102, 95, 115, 105, 122, 101]⟩)), none, []⟩,
              ⟨(some 106), .mv (.t 107), none, []⟩]) (
            .cond (.t 106) (
              .seq (.region [
                ⟨(some 108), .mv (.t 9), none, []⟩,
                ⟨(some 109), .call 35 [.t 108], none, []⟩,
                ⟨none, .store 4 (.t 4) (.t 109), none, []⟩,
                ⟨(some 5), .mv (.c (.bool true)), none, []⟩]) (
              .ret)) (
              .seq (.region [
                ⟨(some 111), .bin .eql (.t 48) (.c (.str ⟨#[102, 95, 114, 101, 118, 101, 114, 115, 101]⟩)), none, []⟩,
                ⟨(some 110), .mv (.t 111), none, []⟩]) (
              .cond (.t 110) (
                .seq (.region [
                  ⟨(some 112), .build [.int .i64 0, .int .i64 0, .str ⟨#[]⟩, .isl [] true] [(0, 1, .c (.int .i64 4))], none, []⟩,
                  ⟨(some 11), .alloc [.int .i64 0, .int .i64 0, .str ⟨#[]⟩, .isl [] true], none, []⟩,
                  ⟨none, .store 4 (.t 11) (.t 112), none, []⟩]) (
                .seq (.seq (.region [
                  ⟨(some 113), .mv (.t 9), none, []⟩,
                  ⟨(some 114), .bin .sub (.t 113) (.c (.int .i64 1)), none, []⟩,
                  ⟨(some 12), .mv (.t 114), none, []⟩]) (
                .block 5 (
                  .loop (
                    .seq (.seq (.region [
                      ⟨(some 115), .mv (.t 12), none, []⟩,
                      ⟨(some 116), .bin .geq (.t 115) (.c (.int .i64 0)), none, []⟩]) (
                    .cond (.t 116) (
                      .skip) (
                      .exit 5))) (
                    .seq (.block 6 (
                      .region [
                        ⟨(some 119), .faddr 3 (.t 11), none, []⟩,
                        ⟨(some 120), .load 1 false (.t 119), none, []⟩,
                        ⟨(some 121), .faddr 3 (.t 8), none, []⟩,
                        ⟨(some 122), .load 1 false (.t 121), none, []⟩,
                        ⟨(some 123), .mv (.t 12), none, []⟩,
                        ⟨(some 124), .iaddrS 4 (.t 122) (.t 123), none, []⟩,
                        ⟨(some 125), .load 4 true (.t 124), none, []⟩,
                        ⟨(some 126), .buildSl 1 4 true [.int .i64 0, .int .i64 0, .str ⟨#[]⟩, .isl [] true] [(0, 4, .t 125)], none, []⟩,
                        ⟨(some 127), .append 4 true 56 false (.t 120) (.t 126), none, []⟩,
                        ⟨(some 128), .faddr 3 (.t 11), none, []⟩,
                        ⟨none, .store 1 (.t 128) (.t 127), none, []⟩])) (
                    .region [
                      ⟨(some 117), .mv (.t 12), none, []⟩,
                      ⟨(some 118), .bin .sub (.t 117) (.c (.int .i64 1)), none, []⟩,
                      ⟨(some 12), .mv (.t 118), none, []⟩])))))) (
                .seq (.region [
                  ⟨(some 129), .load 4 true (.t 11), none, []⟩,
                  ⟨none, .store 4 (.t 4) (.t 129), none, []⟩,
                  ⟨(some 5), .mv (.c (.bool true)), none, []⟩]) (
                .ret)))) (
                .skip))))))))))))))) (
  .seq (.seq (.region [
    ⟨(some 130), .mv (.t 9), none, []⟩,
    ⟨(some 131), .bin .eql (.t 130) (.c (.int .i64 0)), none, []⟩]) (
  .cond (.t 131) (
    .seq (.region [
      ⟨(some 132), .build [.int .i64 0, .int .i64 0, .str ⟨#[]⟩, .isl [] true] [], none, []⟩,
      ⟨none, .store 4 (.t 4) (.t 132), none, []⟩,
      ⟨(some 5), .mv (.c (.bool false)), none, []⟩]) (
    .ret)) (
    .skip))) (
  .seq (.seq (.region [
    ⟨(some 133), .mv (.t 0), none, []⟩]) (
  .block 7 (
    .seq (.region [
      ⟨(some 135), .bin .eql (.t 133) (.c (.str ⟨#[102, 95, 102, 105, 114, 115, 116]⟩)), none, []⟩,
      ⟨(some 134), .mv (.t 135), none, []⟩]) (
    .cond (.t 134) (
      .seq (.region [
        ⟨(some 136), .faddr 3 (.t 8), none, []⟩,
        ⟨(some 137), .load 1 false (.t 136), none, []⟩,
        ⟨(some 138), .iaddrS 4 (.t 137) (.c (.int .i64 0)), none, []⟩,
        ⟨(some 139), .load 4 true (.t 138), none, []⟩,
        ⟨none, .store 4 (.t 4) (.t 139), none, []⟩,
        ⟨(some 5), .mv (.c (.bool true)), none, []⟩]) (
      .ret)) (
      .seq (.region [
        ⟨(some 141), .bin .eql (.t 133) (.c (.str ⟨#[102, 95, 108, 97, 115, 116]⟩)), none, []⟩,
        ⟨(some 140), .mv (.t 141), none, []⟩]) (
      .cond (.t 140) (
        .seq (.region [
          ⟨(some 142), .faddr 3 (.t 8), none, []⟩,
          ⟨(some 143), .load 1 false (.t 142), none, []⟩,
          ⟨(some 144), .mv (.t 9), none, []⟩,
          ⟨(some 145), .bin .sub (.t 144) (.c (.int .i64 1)), none, []⟩,
          ⟨(some 146), .iaddrS 4 (.t 143) (.t 145), none, []⟩,
          ⟨(some 147), .load 4 true (.t 146), none, []⟩,
          ⟨none, .store 4 (.t 4) (.t 147), none, []⟩,
          ⟨(some 5), .mv (.c (.bool true)), none, []⟩]) (
        .ret)) (
        .skip))))))) (
  .seq (.region [
    ⟨(some 148), .faddr 3 (.t 8), none, []⟩,
    ⟨(some 149), .load 1 false (.t 148), none, []⟩,
    ⟨(some 150), .slSl 4 (.t 149) (some (.c (.int .i64 1))) none, none, []⟩,
    ⟨(some 151), .buildSl 1 1 false [.isl [] true] [(0, 1, .t 150)], none, []⟩,
    ⟨(some 152), .call 33 [.t 151], none, []⟩,
    ⟨(some 153), .extract 0 (.t 152), none, []⟩,
    ⟨(some 154), .extract 1 (.t 152), none, []⟩,
    ⟨none, .store 4 (.t 4) (.t 153), none, []⟩,
    ⟨(some 5), .mv (.t 154), none, []⟩]) (
  .ret))))))))))),
  .pure, true, true⟩
theorem k12 : compF Tryd.prog { mt := false, mtAt := [], mode := .pure, clArgs := true, clRes := true } Tryd.f12 = some c12 := by kernel_rfl
/- beaconry/builtin.Op -/
def c13 : AFunc := ⟨62, [.cell 6 4 true, .tmp 7],
  .seq (.region [
    ⟨(some 4), .box (.t 1), none, []⟩,
    ⟨(some 5), .box (.t 2), none, []⟩,
    ⟨(some 6), .alloc [.int .i64 0, .int .i64 0, .str ⟨#[]⟩, .isl [] true], none, []⟩,
    ⟨(some 7), .mv (.c (.bool false)), none, []⟩]) (
  .seq (.seq (.region [
    ⟨(some 8), .faddr 0 (.t 4), none, []⟩,
    ⟨(some 9), .load 1 false (.t 8), none, []⟩,
    ⟨(some 10), .bin .neq (.t 9) (.c (.int .i64 1)), none, []⟩,
    ⟨(some 11), .mv (.t 10), none, []⟩,
    ⟨(some 12), .faddr 0 (.t 5), (some (11, false)), []⟩,
    ⟨(some 13), .load 1 false (.t 12), (some (11, false)), []⟩,
    ⟨(some 14), .bin .neq (.t 13) (.c (.int .i64 1)), (some (11, false)), []⟩,
    ⟨(some 15), .pick (.t 11) (.c (.bool true)) (.t 14), none, []⟩,
    ⟨(some 16), .mv (.t 15), none, []⟩,
    ⟨(some 17), .load 4 true (.t 4), (some (16, false)), []⟩,
    ⟨(some 18), .call 24 [.t 17], (some (16, false)), []⟩,
    ⟨(some 19), .un .not (.t 18), (some (16, false)), []⟩,
    ⟨(some 20), .pick (.t 16) (.c (.bool true)) (.t 19), none, []⟩,
    ⟨(some 21), .mv (.t 20), none, []⟩,
    ⟨(some 22), .load 4 true (.t 5), (some (21, false)), []⟩,
    ⟨(some 23), .call 24 [.t 22], (some (21, false)), []⟩,
    ⟨(some 24), .un .not (.t 23), (some (21, false)), []⟩,
    ⟨(some 25), .pick (.t 21) (.c (.bool true)) (.t 24), none, []⟩]) (
  .cond (.t 25) (
    .seq (.region [
      ⟨(some 26), .build [.int .i64 0, .int .i64 0, .str ⟨#[]⟩, .isl [] true] [], none, []⟩,
      ⟨none, .store 4 (.t 6) (.t 26), none, []⟩,
      ⟨(some 7), .mv (.c (.bool false)), none, []⟩]) (
    .ret)) (
    .skip))) (
  .seq (.seq (.region [
    ⟨(some 27), .mv (.t 0), none, []⟩]) (
  .block 0 (
    .seq (.region [
      ⟨(some 29), .bin .eql (.t 27) (.c (.str ⟨#[43]⟩)), none, []⟩,
      ⟨(some 28), .mv (.t 29), none, []⟩]) (
    .cond (.t 28) (
      .seq (.region [
        ⟨(some 30), .faddr 1 (.t 4), none, []⟩,
        ⟨(some 31), .load 1 false (.t 30), none, []⟩,
        ⟨(some 32), .faddr 1 (.t 5), none, []⟩,
        ⟨(some 33), .load 1 false (.t 32), none, []⟩,
        ⟨(some 34), .bin .add (.t 31) (.t 33), none, []⟩,
        ⟨(some 35), .call 25 [.t 34], none, []⟩,
        ⟨(some 36), .call 36 [.t 35], none, []⟩,
        ⟨(some 37), .extract 0 (.t 36), none, []⟩,
        ⟨(some 38), .extract 1 (.t 36), none, []⟩,
        ⟨none, .store 4 (.t 6) (.t 37), none, []⟩,
        ⟨(some 7), .mv (.t 38), none, []⟩]) (
      .ret)) (
      .seq (.region [
        ⟨(some 40), .bin .eql (.t 27) (.c (.str ⟨#[45]⟩)), none, []⟩,
        ⟨(some 39), .mv (.t 40), none, []⟩]) (
      .cond (.t 39) (
        .seq (.region [
          ⟨(some 41), .faddr 1 (.t 4), none, []⟩,
          ⟨(some 42), .load 1 false (.t 41), none, []⟩,
          ⟨(some 43), .faddr 1 (.t 5), none, []⟩,
          ⟨(some 44), .load 1 false (.t 43), none, []⟩,
          ⟨(some 45), .bin .sub (.t 42) (.t 44), none, []⟩,
          ⟨(some 46), .call 25 [.t 45], none, []⟩,
          ⟨(some 47), .call 36 [.t 46], none, []⟩,
          ⟨(some 48), .extract 0 (.t 47), none, []⟩,
          ⟨(some 49), .extract 1 (.t 47), none, []⟩,
          ⟨none, .store 4 (.t 6) (.t 48), none, []⟩,
          ⟨(some 7), .mv (.t 49), none, []⟩]) (
        .ret)) (
        .seq (.region [
          ⟨(some 51), .bin .eql (.t 27) (.c (.str ⟨#[42]⟩)), none, []⟩,
          ⟨(some 50), .mv (.t 51), none, []⟩]) (
        .cond (.t 50) (
          .seq (.region [
            ⟨(some 52), .faddr 1 (.t 4), none, []⟩,
            ⟨(some 53), .load 1 false (.t 52), none, []⟩,
            ⟨(some 54), .faddr 1 (.t 5), none, []⟩,
            ⟨(some 55), .load 1 false (.t 54), none, []⟩,
            ⟨(some 56), .bin .mul (.t 53) (.t 55), none, []⟩,
            ⟨(some 57), .call 25 [.t 56], none, []⟩,
            ⟨(some 58), .call 36 [.t 57], none, []⟩,
            ⟨(some 59), .extract 0 (.t 58), none, []⟩,
            ⟨(some 60), .extract 1 (.t 58), none, []⟩,
            ⟨none, .store 4 (.t 6) (.t 59), none, []⟩,
            ⟨(some 7), .mv (.t 60), none, []⟩]) (
          .ret)) (
          .skip))))))))) (
  .seq (.region [
    ⟨(some 61), .build [.int .i64 0, .int .i64 0, .str ⟨#[]⟩, .isl [] true] [], none, []⟩,
    ⟨none, .store 4 (.t 6) (.t 61), none, []⟩,
    ⟨(some 7), .mv (.c (.bool false)), none, []⟩]) (
  .ret)))),
  .pure, true, true⟩
theorem k13 : compF Tryd.prog { mt := false, mtAt := [], mode := .pure, clArgs := true, clRes := true } Tryd.f13 = some c13 := by kernel_rfl
/- beaconry/beaconryref02.Op -/
def c14 : AFunc := ⟨66, [.cell 6 4 true, .tmp 7],
  .seq (.region [
    ⟨(some 4), .box (.t 1), none, []⟩,
    ⟨(some 5), .box (.t 2), none, []⟩,
    ⟨(some 6), .alloc [.int .i64 0, .int .i64 0, .str ⟨#[]⟩, .isl [] true], none, []⟩,
    ⟨(some 7), .mv (.c (.bool false)), none, []⟩]) (
  .seq (.region [
    ⟨(some 10), .load 4 true (.t 4), none, []⟩,
    ⟨(some 11), .call 32 [.t 10], none, []⟩,
    ⟨(some 8), .mv (.t 11), none, []⟩]) (
  .seq (.region [
    ⟨(some 12), .load 4 true (.t 5), none, []⟩,
    ⟨(some 13), .call 32 [.t 12], none, []⟩,
    ⟨(some 9), .mv (.t 13), none, []⟩]) (
  .seq (.seq (.region [
    ⟨(some 14), .mv (.t 8), none, []⟩,
    ⟨(some 15), .un .not (.t 14), none, []⟩,
    ⟨(some 16), .mv (.t 15), none, []⟩,
    ⟨(some 17), .mv (.t 9), (some (16, false)), []⟩,
    ⟨(some 18), .un .not (.t 17), (some (16, false)), []⟩,
    ⟨(some 19), .pick (.t 16) (.c (.bool true)) (.t 18), none, []⟩,
    ⟨(some 20), .mv (.t 19), none, []⟩,
    ⟨(some 21), .faddr 0 (.t 4), (some (20, false)), []⟩,
    ⟨(some 22), .load 1 false (.t 21), (some (20, false)), []⟩,
    ⟨(some 23), .bin .neq (.t 22) (.c (.int .i64 1)), (some (20, false)), []⟩,
    ⟨(some 24), .pick (.t 20) (.c (.bool true)) (.t 23), none, []⟩,
    ⟨(some 25), .mv (.t 24), none, []⟩,
    ⟨(some 26), .faddr 0 (.t 5), (some (25, false)), []⟩,
    ⟨(some 27), .load 1 false (.t 26), (some (25, false)), []⟩,
    ⟨(some 28), .bin .neq (.t 27) (.c (.int .i64 1)), (some (25, false)), []⟩,
    ⟨(some 29), .pick (.t 25) (.c (.bool true)) (.t 28), none, []⟩]) (
  .cond (.t 29) (
    .seq (.region [
      ⟨(some 30), .build [.int .i64 0, .int .i64 0, .str ⟨#[]⟩, .isl [] true] [], none, []⟩,
      ⟨none, .store 4 (.t 6) (.t 30), none, []⟩,
      ⟨(some 7), .mv (.c (.bool false)), none, []⟩]) (
    .ret)) (
    .skip))) (
  .seq (.seq (.region [
    ⟨(some 31), .mv (.t 0), none, []⟩]) (
  .block 0 (
    .seq (.region [
      ⟨(some 33), .bin .eql (.t 31) (.c (.str ⟨#[43]⟩)), none, []⟩,
      ⟨(some 32), .mv (.t 33), none, []⟩]) (
    .cond (.t 32) (
      .seq (.region [
        ⟨(some 34), .faddr 1 (.t 4), none, []⟩,
        ⟨(some 35), .load 1 false (.t 34), none, []⟩,
        ⟨(some 36), .faddr 1 (.t 5), none, []⟩,
        ⟨(some 37), .load 1 false (.t 36), none, []⟩,
        ⟨(some 38), .bin .add (.t 35) (.t 37), none, []⟩,
        ⟨(some 39), .call 35 [.t 38], none, []⟩,
        ⟨(some 40), .call 37 [.t 39], none, []⟩,
        ⟨(some 41), .extract 0 (.t 40), none, []⟩,
        ⟨(some 42), .extract 1 (.t 40), none, []⟩,
        ⟨none, .store 4 (.t 6) (.t 41), none, []⟩,
        ⟨(some 7), .mv (.t 42), none, []⟩]) (
      .ret)) (
      .seq (.region [
        ⟨(some 44), .bin .eql (.t 31) (.c (.str ⟨#[45]⟩)), none, []⟩,
        ⟨(some 43), .mv (.t 44), none, []⟩]) (
      .cond (.t 43) (
        .seq (.region [
          ⟨(some 45), .faddr 1 (.t 4), none, []⟩,
          ⟨(some 46), .load 1 false (.t 45), none, []⟩,
          ⟨(some 47), .faddr 1 (.t 5), none, []⟩,
          ⟨(some 48), .load 1 false (.t 47), none, []⟩,
          ⟨(some 49), .bin .sub (.t 46) (.t 48), none, []⟩,
          ⟨(some 50), .call 35 [.t 49], none, []⟩,
          ⟨(some 51), .call 37 [.t 50], none, []⟩,
          ⟨(some 52), .extract 0 (.t 51), none, []⟩,
          ⟨(some 53), .extract 1 (.t 51), none, []⟩,
          ⟨none, .store 4 (.t 6) (.t 52), none, []⟩,
          ⟨(some 7), .mv (.t 53), none, []⟩]) (
        .ret)) (
        .seq (.region [
          ⟨(some 55), .bin .eql (.t 31) (.c (.str ⟨#[42]⟩)), none, []⟩,
          ⟨(some 54), .mv (.t 55), none, []⟩]) (
        .cond (.t 54) (
          .seq (.region [
            ⟨(some 56), .faddr 1 (.t 4), none, []⟩,
            ⟨(some 57), .load 1 false (.t 56), none, []⟩,
            ⟨(some 58), .faddr 1 (.t 5), none, []⟩,
            ⟨(some 59), .load 1 false (.t 58), none, []⟩,
            ⟨(some 60), .bin .mul (.t 57) (.t 59), none, []⟩,
            ⟨(some 61), .call 35 [.t 60], none, []⟩,
            ⟨(some 62), .call 37 [.t 61], none, []⟩,
            ⟨(some 63), .extract 0 (.t 62), none, []⟩,
            ⟨(some 64), .extract 1 (.t 62), none, []⟩,
            ⟨none, .store 4 (.t 6) (.t 63), none, []⟩,
            ⟨(some 7), .mv (.t 64), none, []⟩]) (
          .ret)) (
          .skip))))))))) (
  .seq (.region [
    ⟨(some 65), .build [.int .i64 0, .int .i64 0, .str ⟨#[]⟩, .isl [] true] [], none, []⟩,
    ⟨none, .store 4 (.t 6) (.t 65), none, []⟩,
    ⟨(some 7), .mv (.c (.bool false)), none, []⟩]) (
  .ret)))))),
  .pure, true, true⟩
theorem k14 : compF Tryd.prog { mt := false, mtAt := [], mode := .pure, clArgs := true, clRes := true } Tryd.f14 = some c14 := by kernel_rfl
/- beaconry/builtin.Arity -/
def c15 : AFunc := ⟨6, [.tmp 2],
  .seq (.region [
    ⟨(some 2), .mv (.c (.int .i64 0)), none, []⟩]) (
  .seq (.region [
    ⟨(some 3), .mv (.t 0), none, []⟩,
    ⟨(some 4), .call 28 [.t 3], none, []⟩,
    ⟨(some 5), .field 0 1 false (.t 4), none, []⟩,
    ⟨(some 2), .mv (.t 5), none, []⟩]) (
  .ret)),
  .pure, true, true⟩
theorem k15 : compF Tryd.prog { mt := false, mtAt := [], mode := .pure, clArgs := true, clRes := true } Tryd.f15 = some c15 := by kernel_rfl
/- beaconry/beaconryref02.Arity -/
def c16 : AFunc := ⟨15, [.tmp 2],
  .seq (.region [
    ⟨(some 2), .mv (.c (.int .i64 0)), none, []⟩]) (
  .seq (.seq (.region [
    ⟨(some 3), .mv (.t 0), none, []⟩]) (
  .block 0 (
    .seq (.seq (.region [
      ⟨(some 5), .bin .eql (.t 3) (.c (.str ⟨#[102, 95, 99, 111, 110, 115]⟩)), none, []⟩,
      ⟨(some 4), .mv (.t 5), none, []⟩]) (
    .cond (.t 4) (
      .skip) (
      .seq (.region [
        ⟨(some 6), .bin .eql (.t 3) (.c (.str ⟨#[102, 95, 97, 112, 112, 101, 110, 100]⟩)), none, []⟩,
        ⟨(some 4), .mv (.t 6), none, []⟩]) (
      .cond (.t 4) (
        .skip) (
        .seq (.region [
          ⟨(some 7), .bin .eql (.t 3) (.c (.str ⟨#[102, 95, 99, 111, 110, 99, 97, 116]⟩)), none, []⟩,
          ⟨(some 4), .mv (.t 7), none, []⟩]) (
        .cond (.t 4) (
          .skip) (
          .region [
            ⟨(some 8), .bin .eql (.t 3) (.c (.str ⟨#[102, 95, 109, 101, 109, 98, 101, 114]⟩)), none, []⟩,
            ⟨(some 4), .mv (.t 8), none, []⟩]))))))) (
    .cond (.t 4) (
      .seq (.region [
        ⟨(some 2), .mv (.c (.int .i64 2)), none, []⟩]) (
      .ret)) (
      .seq (.seq (.region [
        ⟨(some 10), .bin .eql (.t 3) (.c (.str ⟨#[102, 95, 115, 105, 122, 101]⟩)), none, []⟩,
        ⟨(some 9), .mv (.t 10), none, []⟩]) (
      .cond (.t 9) (
        .skip) (
        .seq (.region [
          ⟨(some 11), .bin .eql (.t 3) (.c (.str ⟨#[102, 95, 102, 105, 114, 115, 116]⟩)), none, []⟩,
          ⟨(some 9), .mv (.t 11), none, []⟩]) (
        .cond (.t 9) (
          .skip) (
          .seq (.region [
            ⟨(some 12), .bin .eql (.t 3) (.c (.str ⟨#[102, 95, 108, 97, 115, 116]⟩)), none, []⟩,
            ⟨(some 9), .mv (.t 12), none, []⟩]) (
          .cond (.t 9) (
            .skip) (
            .seq (.region [
              ⟨(some 13), .bin .eql (.t 3) (.c (.str ⟨#[102, 95, 114, 101, 115, 116]⟩)), none, []⟩,
              ⟨(some 9), .mv (.t 13), none, []⟩]) (
            .cond (.t 9) (
              .skip) (
              .region [
                ⟨(some 14), .bin .eql (.t 3) (.c (.str ⟨#[102, 95, 114, 101, 118, 101, 114, 115, 101]⟩)), none, []⟩,
                ⟨(some 9), .mv (.t 14), none, []⟩]))))))))) (
      .cond (.t 9) (
        .seq (.region [
          ⟨(some 2), .mv (.c (.int .i64 1)), none, []⟩]) (
        .ret)) (
        .skip))))))) (
  .seq (.region [
    ⟨(some 2), .mv (.c (.int .i64 (-1))), none, []⟩]) (
  .ret))),
  .pure, true, true⟩
theorem k16 : compF Tryd.prog { mt := false, mtAt := [], mode := .pure, clArgs := true, clRes := true } Tryd.f16 = some c16 := by kernel_rfl
/- beaconry/beaconrylaw01.Same -/
def c17 : AFunc := ⟨31, [.tmp 4],
  .seq (.region [
    ⟨(some 2), .box (.t 0), none, []⟩,
    ⟨(some 3), .box (.t 1), none, []⟩,
    ⟨(some 4), .mv (.c (.bool false)), none, []⟩]) (
  .seq (.region [
    ⟨(some 5), .faddr 0 (.t 2), none, []⟩,
    ⟨(some 6), .load 1 false (.t 5), none, []⟩,
    ⟨(some 7), .faddr 0 (.t 3), none, []⟩,
    ⟨(some 8), .load 1 false (.t 7), none, []⟩,
    ⟨(some 9), .bin .eql (.t 6) (.t 8), none, []⟩,
    ⟨(some 10), .mv (.t 9), none, []⟩,
    ⟨(some 11), .faddr 1 (.t 2), (some (10, true)), []⟩,
    ⟨(some 12), .load 1 false (.t 11), (some (10, true)), []⟩,
    ⟨(some 13), .faddr 1 (.t 3), (some (10, true)), []⟩,
    ⟨(some 14), .load 1 false (.t 13), (some (10, true)), []⟩,
    ⟨(some 15), .bin .eql (.t 12) (.t 14), (some (10, true)), []⟩,
    ⟨(some 16), .pick (.t 10) (.t 15) (.c (.bool false)), none, []⟩,
    ⟨(some 17), .mv (.t 16), none, []⟩,
    ⟨(some 18), .faddr 2 (.t 2), (some (17, true)), []⟩,
    ⟨(some 19), .load 1 false (.t 18), (some (17, true)), []⟩,
    ⟨(some 20), .faddr 2 (.t 3), (some (17, true)), []⟩,
    ⟨(some 21), .load 1 false (.t 20), (some (17, true)), []⟩,
    ⟨(some 22), .bin .eql (.t 19) (.t 21), (some (17, true)), []⟩,
    ⟨(some 23), .pick (.t 17) (.t 22) (.c (.bool false)), none, []⟩,
    ⟨(some 24), .mv (.t 23), none, []⟩,
    ⟨(some 25), .faddr 3 (.t 2), (some (24, true)), []⟩,
    ⟨(some 26), .load 1 false (.t 25), (some (24, true)), []⟩,
    ⟨(some 27), .faddr 3 (.t 3), (some (24, true)), []⟩,
    ⟨(some 28), .load 1 false (.t 27), (some (24, true)), []⟩,
    ⟨(some 29), .call 38 [.t 26, .t 28], (some (24, true)), []⟩,
    ⟨(some 30), .pick (.t 24) (.t 29) (.c (.bool false)), none, []⟩,
    ⟨(some 4), .mv (.t 30), none, []⟩]) (
  .ret)),
  .pure, true, true⟩
theorem k17 : compF Tryd.prog { mt := false, mtAt := [], mode := .pure, clArgs := true, clRes := true } Tryd.f17 = some c17 := by kernel_rfl
/- beaconry/builtin.Test -/
def c18 : AFunc := ⟨44, [.tmp 6],
  .seq (.region [
    ⟨(some 4), .box (.t 1), none, []⟩,
    ⟨(some 5), .box (.t 2), none, []⟩,
    ⟨(some 6), .mv (.c (.bool false)), none, []⟩]) (
  .seq (.seq (.region [
    ⟨(some 8), .load 4 true (.t 4), none, []⟩,
    ⟨(some 9), .call 24 [.t 8], none, []⟩,
    ⟨(some 10), .un .not (.t 9), none, []⟩,
    ⟨(some 11), .mv (.t 10), none, []⟩,
    ⟨(some 12), .load 4 true (.t 5), (some (11, false)), []⟩,
    ⟨(some 13), .call 24 [.t 12], (some (11, false)), []⟩,
    ⟨(some 14), .un .not (.t 13), (some (11, false)), []⟩,
    ⟨(some 15), .pick (.t 11) (.c (.bool true)) (.t 14), none, []⟩]) (
  .cond (.t 15) (
    .seq (.region [
      ⟨(some 6), .mv (.c (.bool false)), none, []⟩]) (
    .ret)) (
    .skip))) (
  .seq (.region [
    ⟨(some 16), .load 4 true (.t 4), none, []⟩,
    ⟨(some 17), .load 4 true (.t 5), none, []⟩,
    ⟨(some 18), .call 39 [.t 16, .t 17], none, []⟩,
    ⟨(some 7), .mv (.t 18), none, []⟩]) (
  .seq (.seq (.region [
    ⟨(some 19), .mv (.t 0), none, []⟩]) (
  .block 0 (
    .seq (.region [
      ⟨(some 21), .bin .eql (.t 19) (.c (.str ⟨#[61, 61]⟩)), none, []⟩,
      ⟨(some 20), .mv (.t 21), none, []⟩]) (
    .cond (.t 20) (
      .seq (.region [
        ⟨(some 22), .mv (.t 7), none, []⟩,
        ⟨(some 23), .bin .eql (.t 22) (.c (.int .i64 0)), none, []⟩,
        ⟨(some 6), .mv (.t 23), none, []⟩]) (
      .ret)) (
      .seq (.region [
        ⟨(some 25), .bin .eql (.t 19) (.c (.str ⟨#[33, 61]⟩)), none, []⟩,
        ⟨(some 24), .mv (.t 25), none, []⟩]) (
      .cond (.t 24) (
        .seq (.region [
          ⟨(some 26), .mv (.t 7), none, []⟩,
          ⟨(some 27), .bin .neq (.t 26) (.c (.int .i64 0)), none, []⟩,
          ⟨(some 6), .mv (.t 27), none, []⟩]) (
        .ret)) (
        .seq (.region [
          ⟨(some 29), .bin .eql (.t 19) (.c (.str ⟨#[60]⟩)), none, []⟩,
          ⟨(some 28), .mv (.t 29), none, []⟩]) (
        .cond (.t 28) (
          .seq (.region [
            ⟨(some 30), .mv (.t 7), none, []⟩,
            ⟨(some 31), .bin .lss (.t 30) (.c (.int .i64 0)), none, []⟩,
            ⟨(some 6), .mv (.t 31), none, []⟩]) (
          .ret)) (
          .seq (.region [
            ⟨(some 33), .bin .eql (.t 19) (.c (.str ⟨#[60, 61]⟩)), none, []⟩,
            ⟨(some 32), .mv (.t 33), none, []⟩]) (
          .cond (.t 32) (
            .seq (.region [
              ⟨(some 34), .mv (.t 7), none, []⟩,
              ⟨(some 35), .bin .leq (.t 34) (.c (.int .i64 0)), none, []⟩,
              ⟨(some 6), .mv (.t 35), none, []⟩]) (
            .ret)) (
            .seq (.region [
              ⟨(some 37), .bin .eql (.t 19) (.c (.str ⟨#[62]⟩)), none, []⟩,
              ⟨(some 36), .mv (.t 37), none, []⟩]) (
            .cond (.t 36) (
              .seq (.region [
                ⟨(some 38), .mv (.t 7), none, []⟩,
                ⟨(some 39), .bin .gtr (.t 38) (.c (.int .i64 0)), none, []⟩,
                ⟨(some 6), .mv (.t 39), none, []⟩]) (
              .ret)) (
              .seq (.region [
                ⟨(some 41), .bin .eql (.t 19) (.c (.str ⟨#[62, 61]⟩)), none, []⟩,
                ⟨(some 40), .mv (.t 41), none, []⟩]) (
              .cond (.t 40) (
                .seq (.region [
                  ⟨(some 42), .mv (.t 7), none, []⟩,
                  ⟨(some 43), .bin .geq (.t 42) (.c (.int .i64 0)), none, []⟩,
                  ⟨(some 6), .mv (.t 43), none, []⟩]) (
                .ret)) (
                .skip))))))))))))))) (
  .seq (.region [
    ⟨(some 6), .mv (.c (.bool false)), none, []⟩]) (
  .ret))))),
  .pure, true, true⟩
theorem k18 : compF Tryd.prog { mt := false, mtAt := [], mode := .pure, clArgs := true, clRes := true } Tryd.f18 = some c18 := by kernel_rfl
/- beaconry/beaconryref02.Test -/
def c19 : AFunc := ⟨69, [.tmp 6],
  .seq (.region [
    ⟨(some 4), .box (.t 1), none, []⟩,
    ⟨(some 5), .box (.t 2), none, []⟩,
    ⟨(some 6), .mv (.c (.bool false)), none, []⟩]) (
  .seq (.region [
    ⟨(some 10), .load 4 true (.t 4), none, []⟩,
    ⟨(some 11), .call 32 [.t 10], none, []⟩,
    ⟨(some 7), .mv (.t 11), none, []⟩]) (
  .seq (.region [
    ⟨(some 12), .load 4 true (.t 5), none, []⟩,
    ⟨(some 13), .call 32 [.t 12], none, []⟩,
    ⟨(some 8), .mv (.t 13), none, []⟩]) (
  .seq (.seq (.region [
    ⟨(some 14), .mv (.t 7), none, []⟩,
    ⟨(some 15), .un .not (.t 14), none, []⟩,
    ⟨(some 16), .mv (.t 15), none, []⟩,
    ⟨(some 17), .mv (.t 8), (some (16, false)), []⟩,
    ⟨(some 18), .un .not (.t 17), (some (16, false)), []⟩,
    ⟨(some 19), .pick (.t 16) (.c (.bool true)) (.t 18), none, []⟩]) (
  .cond (.t 19) (
    .seq (.region [
      ⟨(some 6), .mv (.c (.bool false)), none, []⟩]) (
    .ret)) (
    .skip))) (
  .seq (.region [
    ⟨(some 20), .load 4 true (.t 4), none, []⟩,
    ⟨(some 21), .load 4 true (.t 5), none, []⟩,
    ⟨(some 22), .call 34 [.t 20, .t 21], none, []⟩,
    ⟨(some 9), .mv (.t 22), none, []⟩]) (
  .seq (.region [
    ⟨(some 23), .mv (.t 0), none, []⟩,
    ⟨(some 24), .bin .eql (.t 23) (.c (.str ⟨#[61, 61]⟩)), none, []⟩,
    ⟨(some 25), .mv (.t 24), none, []⟩,
    ⟨(some 26), .mv (.t 9), (some (25, true)), []⟩,
    ⟨(some 27), .bin .eql (.t 26) (.c (.int .i64 0)), (some (25, true)), []⟩,
    ⟨(some 28), .pick (.t 25) (.t 27) (.c (.bool false)), none, []⟩,
    ⟨(some 29), .mv (.t 28), none, []⟩,
    ⟨(some 30), .mv (.t 0), (some (29, false)), []⟩,
    ⟨(some 31), .bin .eql (.t 30) (.c (.str ⟨#[33, 61]⟩)), (some (29, false)), []⟩,
    ⟨(some 32), .mv (.t 31), (some (29, false)), []⟩,
    ⟨(some 33), .mv (.t 9), (some (32, true)), []⟩,
    ⟨(some 34), .bin .neq (.t 33) (.c (.int .i64 0)), (some (32, true)), []⟩,
    ⟨(some 35), .pick (.t 32) (.t 34) (.c (.bool false)), (some (29, false)), []⟩,
    ⟨(some 36), .pick (.t 29) (.c (.bool true)) (.t 35), none, []⟩,
    ⟨(some 37), .mv (.t 36), none, []⟩,
    ⟨(some 38), .mv (.t 0), (some (37, false)), []⟩,
    ⟨(some 39), .bin .eql (.t 38) (.c (.str ⟨#[60]⟩)), (some (37, false)), []⟩,
    ⟨(some 40), .mv (.t 39), (some (37, false)), []⟩,
    ⟨(some 41), .mv (.t 9), (some (40, true)), []⟩,
    ⟨(some 42), .bin .lss (.t 41) (.c (.int .i64 0)), (some (40, true)), []⟩,
    ⟨(some 43), .pick (.t 40) (.t 42) (.c (.bool false)), (some (37, false)), []⟩,
    ⟨(some 44), .pick (.t 37) (.c (.bool true)) (.t 43), none, []⟩,
    ⟨(some 45), .mv (.t 44), none, []⟩,
    ⟨(some 46), .mv (.t 0), (some (45, false)), []⟩,
    ⟨(some 47), .bin .eql (.t 46) (.c (.str ⟨#[60, 61]⟩)), (some (45, false)), []⟩,
    ⟨(some 48), .mv (.t 47), (some (45, false)), []⟩,
    ⟨(some 49), .mv (.t 9), (some (48, true)), []⟩,
    ⟨(some 50), .bin .leq (.t 49) (.c (.int .i64 0)), (some (48, true)), []⟩,
    ⟨(some 51), .pick (.t 48) (.t 50) (.c (.bool false)), (some (45, false)), []⟩,
    ⟨(some 52), .pick (.t 45) (.c (.bool true)) (.t 51), none, []⟩,
    ⟨(some 53), .mv (.t 52), none, []⟩,
    ⟨(some 54), .mv (.t 0), (some (53, false)), []⟩,
    ⟨(some 55), .bin .eql (.t 54) (.c (.str ⟨#[62]⟩)), (some (53, false)), []⟩,
    ⟨(some 56), .mv (.t 55), (some (53, false)), []⟩,
    ⟨(some 57), .mv (.t 9), (some (56, true)), []⟩,
    ⟨(some 58), .bin .gtr (.t 57) (.c (.int .i64 0)), (some (56, true)), []⟩,
    ⟨(some 59), .pick (.t 56) (.t 58) (.c (.bool false)), (some (53, false)), []⟩,
    ⟨(some 60), .pick (.t 53) (.c (.bool true)) (.t 59), none, []⟩,
    ⟨(some 61), .mv (.t 60), none, []⟩,
    ⟨(some 62), .mv (.t 0), (some (61, false)), []⟩,
    ⟨(some 63), .bin .eql (.t 62) (.c (.str ⟨#[62, 61]⟩)), (some (61, false)), []⟩,
    ⟨(some 64), .mv (.t 63), (some (61, false)), []⟩,
    ⟨(some 65), .mv (.t 9), (some (64, true)), []⟩,
    ⟨(some 66), .bin .geq (.t 65) (.c (.int .i64 0)), (some (64, true)), []⟩,
    ⟨(some 67), .pick (.t 64) (.t 66) (.c (.bool false)), (some (61, false)), []⟩,
    ⟨(some 68), .pick (.t 61) (.c (.bool true)) (.t 67), none, []⟩,
    ⟨(some 6), .mv (.t 68), none, []⟩]) (
  .ret)))))),
  .pure, true, true⟩
theorem k19 : compF Tryd.prog { mt := false, mtAt := [], mode := .pure, clArgs := true, clRes := true } Tryd.f19 = some c19 := by kernel_rfl
/- beaconry/beaconrylaw02.names -/
def c20 : AFunc := ⟨2, [.tmp 0],
  .seq (.region [
    ⟨(some 0), .mv (.c (.isl [] true)), none, []⟩]) (
  .seq (.region [
    ⟨(some 1), .buildSl 9 1 false [.str ⟨#[]⟩, .str ⟨#[]⟩, .str ⟨#[]⟩, .str ⟨#[]⟩, .str ⟨#[]⟩, .str ⟨#[]⟩, .str ⟨#[]⟩, .str ⟨#[]⟩, .str ⟨#[]⟩] [(0, 1, .c (.str ⟨#[102, 95, 99, 111, 110, 115]⟩)), (1, 1, .c (.str ⟨#[102, 95, 97, 112, 112, 101, 110, 100]⟩)), (2, 1, .c (.str ⟨#[102, 95, 99, 111, 110, 99, 97, 116]⟩)), (3, 1, .c (.str ⟨#[102, 95, 109, 101, 109, 98, 101, 114]⟩)), (4, 1, .c (.str ⟨#[102, 95, 115, 105, 122, 101]⟩)), (5, 1, .c (.str ⟨#[102, 95, 102, 105, 114, 115, 116]⟩)), (6, 1, .c (.str ⟨#[102, 95, 108, 97, 115, 116]⟩)), (7, 1, .c (.str ⟨#[102, 95, 114, 101, 115, 116]⟩)), (8, 1, .c (.str ⟨#[102, 95, 114, 101, 118, 101, 114, 115, 101]⟩))], none, []⟩,
    ⟨(some 0), .mv (.t 1), none, []⟩]) (
  .ret)),
  .pure, true, true⟩
theorem k20 : compF Tryd.prog { mt := false, mtAt := [], mode := .pure, clArgs := true, clRes := true } Tryd.f20 = some c20 := by kernel_rfl
/- beaconry/beaconrylaw02.pick -/
def c21 : AFunc := ⟨13, [.tmp 4],
  .seq (.region [
    ⟨(some 4), .mv (.c (.int .i64 0)), none, []⟩]) (
  .seq (.seq (.region [
    ⟨(some 5), .mv (.t 0), none, []⟩,
    ⟨(some 6), .bin .lss (.t 5) (.c (.int .i64 0)), none, []⟩]) (
  .cond (.t 6) (
    .region [
      ⟨(some 7), .mv (.t 0), none, []⟩,
      ⟨(some 8), .bin .add (.t 7) (.c (.int .i64 1)), none, []⟩,
      ⟨(some 9), .un .neg (.t 8), none, []⟩,
      ⟨(some 0), .mv (.t 9), none, []⟩]) (
    .skip))) (
  .seq (.region [
    ⟨(some 10), .mv (.t 0), none, []⟩,
    ⟨(some 11), .mv (.t 1), none, []⟩,
    ⟨(some 12), .bin .rem (.t 10) (.t 11), none, []⟩,
    ⟨(some 4), .mv (.t 12), none, []⟩]) (
  .ret))),
  .pure, true, true⟩
theorem k21 : compF Tryd.prog { mt := false, mtAt := [], mode := .pure, clArgs := true, clRes := true } Tryd.f21 = some c21 := by kernel_rfl
/- beaconry/beaconrylaw02.list -/
def c22 : AFunc := ⟨34, [.cell 4 4 true],
  .seq (.region [
    ⟨(some 4), .alloc [.int .i64 0, .int .i64 0, .str ⟨#[]⟩, .isl [] true], none, []⟩]) (
  .seq (.region [
    ⟨(some 5), .mv (.c (.isl [] true)), none, []⟩]) (
  .seq (.seq (.region [
    ⟨(some 6), .mv (.c (.int .i64 0)), none, []⟩]) (
  .block 0 (
    .loop (
      .seq (.seq (.region [
        ⟨(some 8), .mv (.t 6), none, []⟩,
        ⟨(some 9), .mv (.t 0), none, []⟩,
        ⟨(some 10), .len false (.t 9), none, []⟩,
        ⟨(some 11), .bin .lss (.t 8) (.t 10), none, []⟩,
        ⟨(some 12), .mv (.t 11), none, []⟩,
        ⟨(some 13), .mv (.t 6), (some (12, true)), []⟩,
        ⟨(some 14), .mv (.t 1), (some (12, true)), []⟩,
        ⟨(some 15), .bin .lss (.t 13) (.t 14), (some (12, true)), []⟩,
        ⟨(some 16), .pick (.t 12) (.t 15) (.c (.bool false)), none, []⟩]) (
      .cond (.t 16) (
        .skip) (
        .exit 0))) (
      .seq (.block 1 (
        .seq (.region [
          ⟨(some 19), .mv (.t 0), none, []⟩,
          ⟨(some 20), .mv (.t 6), none, []⟩,
          ⟨(some 21), .iaddrS 4 (.t 19) (.t 20), none, []⟩,
          ⟨(some 22), .load 4 true (.t 21), none, []⟩,
          ⟨(some 23), .call 23 [.t 22], none, []⟩,
          ⟨(some 7), .alloc [.int .i64 0, .int .i64 0, .str ⟨#[]⟩, .isl [] true], none, []⟩,
          ⟨none, .store 4 (.t 7) (.t 23), none, []⟩]) (
        .seq (.seq (.region [
          ⟨(some 24), .faddr 0 (.t 7), none, []⟩,
          ⟨(some 25), .load 1 false (.t 24), none, []⟩,
          ⟨(some 26), .bin .eql (.t 25) (.c (.int .i64 4)), none, []⟩]) (
        .cond (.t 26) (
          .region [
            ⟨(some 27), .faddr 3 (.t 7), none, []⟩,
            ⟨none, .store 1 (.t 27) (.c (.isl [] true)), none, []⟩]) (
          .skip))) (
        .region [
          ⟨(some 28), .mv (.t 5), none, []⟩,
          ⟨(some 29), .load 4 true (.t 7), none, []⟩,
          ⟨(some 30), .buildSl 1 4 true [.int .i64 0, .int .i64 0, .str ⟨#[]⟩, .isl [] true] [(0, 4, .t 29)], none, []⟩,
          ⟨(some 31), .append 4 true 56 false (.t 28) (.t 30), none, []⟩,
          ⟨(some 5), .mv (.t 31), none, []⟩])))) (
      .region [
        ⟨(some 17), .mv (.t 6), none, []⟩,
        ⟨(some 18), .bin .add (.t 17) (.c (.int .i64 1)), none, []⟩,
        ⟨(some 6), .mv (.t 18), none, []⟩])))))) (
  .seq (.region [
    ⟨(some 32), .mv (.t 5), none, []⟩,
    ⟨(some 33), .build [.int .i64 0, .int .i64 0, .str ⟨#[]⟩, .isl [] true] [(0, 1, .c (.int .i64 4)), (3, 1, .t 32)], none, []⟩,
    ⟨none, .store 4 (.t 4) (.t 33), none, []⟩]) (
  .ret)))),
  .pure, true, true⟩
theorem k22 : compF Tryd.prog { mt := false, mtAt := [], mode := .pure, clArgs := true, clRes := true } Tryd.f22 = some c22 := by kernel_rfl
/- beaconry/beaconrylaw01.Fit -/
def c23 : AFunc := ⟨5, [.cell 2 4 true],
  .seq (.region [
    ⟨(some 1), .box (.t 0), none, []⟩,
    ⟨(some 2), .alloc [.int .i64 0, .int .i64 0, .str ⟨#[]⟩, .isl [] true], none, []⟩]) (
  .seq (.region [
    ⟨(some 3), .load 4 true (.t 1), none, []⟩,
    ⟨(some 4), .call 40 [.t 3, .c (.int .i64 4)], none, []⟩,
    ⟨none, .store 4 (.t 2) (.t 4), none, []⟩]) (
  .ret)),
  .pure, true, true⟩
theorem k23 : compF Tryd.prog { mt := false, mtAt := [], mode := .pure, clArgs := true, clRes := true } Tryd.f23 = some c23 := by kernel_rfl
/- beaconry/value.Right -/
def c24 : AFunc := ⟨5, [.tmp 2],
  .seq (.region [
    ⟨(some 1), .box (.t 0), none, []⟩,
    ⟨(some 2), .mv (.c (.bool false)), none, []⟩]) (
  .seq (.region [
    ⟨(some 3), .load 4 true (.t 1), none, []⟩,
    ⟨(some 4), .call 41 [.t 3, .c (.int .i64 4)], none, []⟩,
    ⟨(some 2), .mv (.t 4), none, []⟩]) (
  .ret)),
  .pure, true, true⟩
theorem k24 : compF Tryd.prog { mt := false, mtAt := [], mode := .pure, clArgs := true, clRes := true } Tryd.f24 = some c24 := by kernel_rfl
/- beaconry/value.Number -/
def c25 : AFunc := ⟨5, [.cell 2 4 true],
  .seq (.region [
    ⟨(some 2), .alloc [.int .i64 0, .int .i64 0, .str ⟨#[]⟩, .isl [] true], none, []⟩]) (
  .seq (.region [
    ⟨(some 3), .mv (.t 0), none, []⟩,
    ⟨(some 4), .build [.int .i64 0, .int .i64 0, .str ⟨#[]⟩, .isl [] true] [(0, 1, .c (.int .i64 1)), (1, 1, .t 3)], none, []⟩,
    ⟨none, .store 4 (.t 2) (.t 4), none, []⟩]) (
  .ret)),
  .pure, true, true⟩
theorem k25 : compF Tryd.prog { mt := false, mtAt := [], mode := .pure, clArgs := true, clRes := true } Tryd.f25 = some c25 := by kernel_rfl
/- beaconry/value.List -/
def c26 : AFunc := ⟨6, [.cell 2 4 true],
  .seq (.region [
    ⟨(some 2), .alloc [.int .i64 0, .int .i64 0, .str ⟨#[]⟩, .isl [] true], none, []⟩]) (
  .seq (.region [
    ⟨(some 3), .mv (.t 0), none, []⟩,
    ⟨(some 4), .call 42 [.t 3], none, []⟩,
    ⟨(some 5), .build [.int .i64 0, .int .i64 0, .str ⟨#[]⟩, .isl [] true] [(0, 1, .c (.int .i64 4)), (3, 1, .t 4)], none, []⟩,
    ⟨none, .store 4 (.t 2) (.t 5), none, []⟩]) (
  .ret)),
  .raw, true, false⟩
theorem k26 : compF Tryd.prog { mt := false, mtAt := [], mode := .raw, clArgs := true, clRes := false } Tryd.f26 = some c26 := by kernel_rfl
/- beaconry/value.Print -/
def c27 : AFunc := ⟨10, [.tmp 2],
  .seq (.region [
    ⟨(some 1), .box (.t 0), none, []⟩,
    ⟨(some 2), .mv (.c (.str ⟨#[]⟩)), none, []⟩]) (
  .seq (.seq (.region [
    ⟨(some 4), .load 4 true (.t 1), none, []⟩,
    ⟨(some 5), .call 24 [.t 4], none, []⟩,
    ⟨(some 6), .un .not (.t 5), none, []⟩]) (
  .cond (.t 6) (
    .seq (.region [
      ⟨(some 2), .mv (.c (.str ⟨#[]⟩)), none, []⟩]) (
    .ret)) (
    .skip))) (
  .seq (.region [
    ⟨(some 3), .allocB 62 5, none, []⟩]) (
  .seq (.region [
    ⟨(some 7), .load 4 true (.t 1), none, []⟩,
    ⟨(some 8), .call 43 [.t 3, .t 7], none, []⟩]) (
  .seq (.region [
    ⟨(some 9), .call 44 [.t 3], none, []⟩,
    ⟨(some 2), .mv (.t 9), none, []⟩]) (
  .ret))))),
  .pure, true, true⟩
theorem k27 : compF Tryd.prog { mt := false, mtAt := [], mode := .pure, clArgs := true, clRes := true } Tryd.f27 = some c27 := by kernel_rfl
/- beaconry/builtin.find -/
def c28 : AFunc := ⟨34, [.cell 2 3 true],
  .seq (.region [
    ⟨(some 2), .alloc [.int .i64 0, .int .i64 0, .nilfunc], none, []⟩]) (
  .seq (.seq (.region [
    ⟨(some 3), .mv (.t 0), none, []⟩]) (
  .block 0 (
    .seq (.region [
      ⟨(some 5), .bin .eql (.t 3) (.c (.str ⟨#[102, 95, 99, 111, 110, 115]⟩)), none, []⟩,
      ⟨(some 4), .mv (.t 5), none, []⟩]) (
    .cond (.t 4) (
      .seq (.region [
        ⟨(some 6), .build [.int .i64 0, .int .i64 0, .nilfunc] [(0, 1, .c (.int .i64 2)), (1, 1, .c (.int .i64 1)), (2, 1, .f 45)], none, []⟩,
        ⟨none, .store 3 (.t 2) (.t 6), none, []⟩]) (
      .ret)) (
      .seq (.region [
        ⟨(some 8), .bin .eql (.t 3) (.c (.str ⟨#[102, 95, 97, 112, 112, 101, 110, 100]⟩)), none, []⟩,
        ⟨(some 7), .mv (.t 8), none, []⟩]) (
      .cond (.t 7) (
        .seq (.region [
          ⟨(some 9), .build [.int .i64 0, .int .i64 0, .nilfunc] [(0, 1, .c (.int .i64 2)), (1, 1, .c (.int .i64 0)), (2, 1, .f 46)], none, []⟩,
          ⟨none, .store 3 (.t 2) (.t 9), none, []⟩]) (
        .ret)) (
        .seq (.region [
          ⟨(some 11), .bin .eql (.t 3) (.c (.str ⟨#[102, 95, 99, 111, 110, 99, 97, 116]⟩)), none, []⟩,
          ⟨(some 10), .mv (.t 11), none, []⟩]) (
        .cond (.t 10) (
          .seq (.region [
            ⟨(some 12), .build [.int .i64 0, .int .i64 0, .nilfunc] [(0, 1, .c (.int .i64 2)), (1, 1, .c (.int .i64 0)), (2, 1, .f 47)], none, []⟩,
            ⟨none, .store 3 (.t 2) (.t 12), none, []⟩]) (
          .ret)) (
          .seq (.region [
            ⟨(some 14), .bin .eql (.t 3) (.c (.str ⟨#[102, 95, 109, 101, 109, 98, 101, 114]⟩)), none, []⟩,
            ⟨(some 13), .mv (.t 14), none, []⟩]) (
          .cond (.t 13) (
            .seq (.region [
              ⟨(some 15), .build [.int .i64 0, .int .i64 0, .nilfunc] [(0, 1, .c (.int .i64 2)), (1, 1, .c (.int .i64 0)), (2, 1, .f 48)], none, []⟩,
              ⟨none, .store 3 (.t 2) (.t 15), none, []⟩]) (
            .ret)) (
            .seq (.region [
              ⟨(some 17), .bin .eql (.t 3) (.c (.str ⟨#[102, 95, 115, 105, 122, 101]⟩)), none, []⟩,
              ⟨(some 16), .mv (.t 17), none, []⟩]) (
            .cond (.t 16) (
              .seq (.region [
                ⟨(some 18), .build [.int .i64 0, .int .i64 0, .nilfunc] [(0, 1, .c (.int .i64 1)), (1, 1, .c (.int .i64 0)), (2, 1, .f 49)], none, []⟩,
                ⟨none, .store 3 (.t 2) (.t 18), none, []⟩]) (
              .ret)) (
              .seq (.region [
                ⟨(some 20), .bin .eql (.t 3) (.c (.str ⟨#[102, 95, 102, 105, 114, 115, 116]⟩)), none, []⟩,
                ⟨(some 19), .mv (.t 20), none, []⟩]) (
              .cond (.t 19) (
                .seq (.region [
                  ⟨(some 21), .call 50 [.c (.bool false)], none, []⟩,
                  ⟨(some 22), .build [.int .i64 0, .int .i64 0, .nilfunc] [(0, 1, .c (.int .i64 1)), (1, 1, .c (.int .i64 0)), (2, 1, .t 21)], none, []⟩,
                  ⟨none, .store 3 (.t 2) (.t 22), none, []⟩]) (
                .ret)) (
                .seq (.region [
                  ⟨(some 24), .bin .eql (.t 3) (.c (.str ⟨#[102, 95, 108, 97, 115, 116]⟩)), none, []⟩,
                  ⟨(some 23), .mv (.t 24), none, []⟩]) (
                .cond (.t 23) (
                  .seq (.region [
                    ⟨(some 25), .call 50 [.c (.bool true)], none, []⟩,
                    ⟨(some 26), .build [.int .i64 0, .int .i64 0, .nilfunc] [(0, 1, .c (.int .i64 1)), (1, 1, .c (.int .i64 0)), (2, 1, .t 25)], none, []⟩,
                    ⟨none, .store 3 (.t 2) (.t 26), none, []⟩]) (
                  .ret)) (
                  .seq (.region [
                    ⟨(some 28), .bin .eql (.t 3) (.c (.str ⟨#[102, 95, 114, 101, 115, 116]⟩)), none, []⟩,
                    ⟨(some 27), .mv (.t 28), none, []⟩]) (
                  .cond (.t 27) (
                    .seq (.region [
                      ⟨(some 29), .build [.int .i64 0, .int .i64 0, .nilfunc] [(0, 1, .c (.int .i64 1)), (1, 1, .c (.int .i64 0)), (2, 1, .f 51)], none, []⟩,
                      ⟨none, .store 3 (.t 2) (.t 29), none, []⟩]) (
                    .ret)) (
                    .seq (.region [
                      ⟨(some 31), .bin .eql (.t 3) (.c (.str ⟨#[102, 95, 114, 101, 118, 101, 114, 115, 101]⟩)), none, []⟩,
                      ⟨(some 30), .mv (.t 31), none, []⟩]) (
                    .cond (.t 30) (
                      .seq (.region [
                        ⟨(some 32), .build [.int .i64 0, .int .i64 0, .nilfunc] [(0, 1, .c (.int .i64 1)), (1, 1, .c (.int .i64 0)), (2, 1, .f 52)], none, []⟩,
                        ⟨none, .store 3 (.t 2) (.t 32), none, []⟩]) (
                      .ret)) (
                      .skip))))))))))))))))))))) (
  .seq (.region [
    ⟨(some 33), .build [.int .i64 0, .int .i64 0, .nilfunc] [(0, 1, .c (.int .i64 (-1)))], none, []⟩,
    ⟨none, .store 3 (.t 2) (.t 33), none, []⟩]) (
  .ret))),
  .pure, true, true⟩
theorem k28 : compF Tryd.prog { mt := false, mtAt := [], mode := .pure, clArgs := true, clRes := true } Tryd.f28 = some c28 := by kernel_rfl
/- slices.ContainsFunc[[]beaconry/api.Value,beaconry/api.Value] -/
def c29 : AFunc := ⟨9, [.tmp 4],
  .seq (.region [
    ⟨(some 4), .mv (.c (.bool false)), none, []⟩]) (
  .seq (.region [
    ⟨(some 5), .mv (.t 0), none, []⟩,
    ⟨(some 6), .mv (.t 1), none, []⟩,
    ⟨(some 7), .call 53 [.t 5, .t 6], none, []⟩,
    ⟨(some 8), .bin .geq (.t 7) (.c (.int .i64 0)), none, []⟩,
    ⟨(some 4), .mv (.t 8), none, []⟩]) (
  .ret)),
  .pure, true, true⟩
theorem k29 : compF Tryd.prog { mt := false, mtAt := [], mode := .pure, clArgs := true, clRes := true } Tryd.f29 = some c29 := by kernel_rfl
/- beaconry/builtin.Call$1 -/
def c30 : AFunc := ⟨6, [.tmp 2],
  .seq (.region [
    ⟨(some 1), .box (.t 0), none, []⟩,
    ⟨(some 2), .mv (.c (.bool false)), none, []⟩]) (
  .seq (.region [
    ⟨(some 3), .load 4 true (.t 1), none, []⟩,
    ⟨(some 4), .call 24 [.t 3], none, []⟩,
    ⟨(some 5), .un .not (.t 4), none, []⟩,
    ⟨(some 2), .mv (.t 5), none, []⟩]) (
  .ret)),
  .pure, true, true⟩
theorem k30 : compF Tryd.prog { mt := false, mtAt := [], mode := .pure, clArgs := true, clRes := true } Tryd.f30 = some c30 := by kernel_rfl
/- beaconry/builtin.fresh -/
def c31 : AFunc := ⟨28, [.cell 2 4 true],
  .seq (.region [
    ⟨(some 1), .box (.t 0), none, []⟩,
    ⟨(some 2), .alloc [.int .i64 0, .int .i64 0, .str ⟨#[]⟩, .isl [] true], none, []⟩]) (
  .seq (.seq (.region [
    ⟨(some 5), .faddr 0 (.t 1), none, []⟩,
    ⟨(some 6), .load 1 false (.t 5), none, []⟩,
    ⟨(some 7), .bin .eql (.t 6) (.c (.int .i64 4)), none, []⟩]) (
  .cond (.t 7) (
    .seq (.region [
      ⟨(some 8), .faddr 3 (.t 1), none, []⟩,
      ⟨(some 9), .load 1 false (.t 8), none, []⟩,
      ⟨(some 10), .call 42 [.t 9], none, []⟩,
      ⟨(some 11), .faddr 3 (.t 1), none, []⟩,
      ⟨none, .store 1 (.t 11) (.t 10), none, []⟩]) (
    .seq (.region [
      ⟨(some 12), .faddr 3 (.t 1), none, []⟩,
      ⟨(some 13), .load 1 false (.t 12), none, []⟩,
      ⟨(some 14), .len false (.t 13), none, []⟩,
      ⟨(some 15), .mv (.c (.int .i64 0)), none, []⟩]) (
    .block 0 (
      .loop (
        .seq (.region [
          ⟨(some 16), .bin .lss (.t 15) (.t 14), none, []⟩]) (
        .seq (.cond (.t 16) (
          .skip) (
          .exit 0)) (
        .seq (.block 1 (
          .seq (.region [
            ⟨(some 17), .mv (.t 15), none, []⟩,
            ⟨(some 18), .iaddrS 4 (.t 13) (.t 15), none, []⟩,
            ⟨(some 19), .load 4 true (.t 18), none, []⟩,
            ⟨(some 4), .alloc [.int .i64 0, .int .i64 0, .str ⟨#[]⟩, .isl [] true], none, []⟩,
            ⟨(some 3), .mv (.t 17), none, []⟩,
            ⟨none, .store 4 (.t 4) (.t 19), none, []⟩]) (
          .region [
            ⟨(some 20), .faddr 3 (.t 1), none, []⟩,
            ⟨(some 21), .load 1 false (.t 20), none, []⟩,
            ⟨(some 22), .mv (.t 3), none, []⟩,
            ⟨(some 23), .load 4 true (.t 4), none, []⟩,
            ⟨(some 24), .call 31 [.t 23], none, [.t 20]⟩,
            ⟨(some 25), .iaddrS 4 (.t 21) (.t 22), none, []⟩,
            ⟨none, .store 4 (.t 25) (.t 24), none, []⟩]))) (
        .region [
          ⟨(some 26), .bin .add (.t 15) (.c (.int .i64 1)), none, []⟩,
          ⟨(some 15), .mv (.t 26), none, []⟩])))))))) (
    .skip))) (
  .seq (.region [
    ⟨(some 27), .load 4 true (.t 1), none, []⟩,
    ⟨none, .store 4 (.t 2) (.t 27), none, []⟩]) (
  .ret))),
  .pure, true, true⟩
theorem k31 : compF Tryd.prog { mt := false, mtAt := [], mode := .pure, clArgs := true, clRes := true } Tryd.f31 = some c31 := by kernel_rfl
/- beaconry/beaconryref01.Right -/
def c32 : AFunc := ⟨5, [.tmp 2],
  .seq (.region [
    ⟨(some 1), .box (.t 0), none, []⟩,
    ⟨(some 2), .mv (.c (.bool false)), none, []⟩]) (
  .seq (.region [
    ⟨(some 3), .load 4 true (.t 1), none, []⟩,
    ⟨(some 4), .call 54 [.t 3, .c (.int .i64 4)], none, []⟩,
    ⟨(some 2), .mv (.t 4), none, []⟩]) (
  .ret)),
  .pure, true, true⟩
theorem k32 : compF Tryd.prog { mt := false, mtAt := [], mode := .pure, clArgs := true, clRes := true } Tryd.f32 = some c32 := by kernel_rfl
/- beaconry/beaconryref02.list -/
def c33 : AFunc := ⟨25, [.cell 2 4 true, .tmp 3],
  .seq (.region [
    ⟨(some 2), .alloc [.int .i64 0, .int .i64 0, .str ⟨#[]⟩, .isl [] true], none, []⟩,
    ⟨(some 3), .mv (.c (.bool false)), none, []⟩]) (
  .seq (.region [
    ⟨(some 6), .build [.int .i64 0, .int .i64 0, .str ⟨#[]⟩, .isl [] true] [(0, 1, .c (.int .i64 4))], none, []⟩,
    ⟨(some 4), .alloc [.int .i64 0, .int .i64 0, .str ⟨#[]⟩, .isl [] true], none, []⟩,
    ⟨none, .store 4 (.t 4) (.t 6), none, []⟩]) (
  .seq (.seq (.region [
    ⟨(some 5), .mv (.c (.int .i64 0)), none, []⟩]) (
  .block 0 (
    .loop (
      .seq (.seq (.region [
        ⟨(some 7), .mv (.t 5), none, []⟩,
        ⟨(some 8), .mv (.t 0), none, []⟩,
        ⟨(some 9), .len false (.t 8), none, []⟩,
        ⟨(some 10), .bin .lss (.t 7) (.t 9), none, []⟩]) (
      .cond (.t 10) (
        .skip) (
        .exit 0))) (
      .seq (.block 1 (
        .region [
          ⟨(some 13), .faddr 3 (.t 4), none, []⟩,
          ⟨(some 14), .load 1 false (.t 13), none, []⟩,
          ⟨(some 15), .mv (.t 0), none, []⟩,
          ⟨(some 16), .mv (.t 5), none, []⟩,
          ⟨(some 17), .iaddrS 1 (.t 15) (.t 16), none, []⟩,
          ⟨(some 18), .load 1 false (.t 17), none, []⟩,
          ⟨(some 19), .append 4 true 56 false (.t 14) (.t 18), none, []⟩,
          ⟨(some 20), .faddr 3 (.t 4), none, []⟩,
          ⟨none, .store 1 (.t 20) (.t 19), none, []⟩])) (
      .region [
        ⟨(some 11), .mv (.t 5), none, []⟩,
        ⟨(some 12), .bin .add (.t 11) (.c (.int .i64 1)), none, []⟩,
        ⟨(some 5), .mv (.t 12), none, []⟩])))))) (
  .seq (.region [
    ⟨(some 21), .load 4 true (.t 4), none, []⟩,
    ⟨(some 22), .call 37 [.t 21], none, []⟩,
    ⟨(some 23), .extract 0 (.t 22), none, []⟩,
    ⟨(some 24), .extract 1 (.t 22), none, []⟩,
    ⟨none, .store 4 (.t 2) (.t 23), none, []⟩,
    ⟨(some 3), .mv (.t 24), none, []⟩]) (
  .ret)))),
  .pure, true, true⟩
theorem k33 : compF Tryd.prog { mt := false, mtAt := [], mode := .pure, clArgs := true, clRes := true } Tryd.f33 = some c33 := by kernel_rfl
/- beaconry/beaconryref01.Compare -/
def c34 : AFunc := ⟨92, [.tmp 4],
  .seq (.region [
    ⟨(some 2), .box (.t 0), none, []⟩,
    ⟨(some 3), .box (.t 1), none, []⟩,
    ⟨(some 4), .mv (.c (.int .i64 0)), none, []⟩]) (
  .seq (.seq (.region [
    ⟨(some 7), .faddr 0 (.t 2), none, []⟩,
    ⟨(some 8), .load 1 false (.t 7), none, []⟩,
    ⟨(some 9), .faddr 0 (.t 3), none, []⟩,
    ⟨(some 10), .load 1 false (.t 9), none, []⟩,
    ⟨(some 11), .bin .neq (.t 8) (.t 10), none, []⟩]) (
  .cond (.t 11) (
    .seq (.region [
      ⟨(some 12), .faddr 0 (.t 2), none, []⟩,
      ⟨(some 13), .load 1 false (.t 12), none, []⟩,
      ⟨(some 14), .faddr 0 (.t 3), none, []⟩,
      ⟨(some 15), .load 1 false (.t 14), none, []⟩,
      ⟨(some 16), .bin .lss (.t 13) (.t 15), none, []⟩,
      ⟨(some 17), .call 55 [.t 16, .c (.bool true)], none, []⟩,
      ⟨(some 4), .mv (.t 17), none, []⟩]) (
    .ret)) (
    .skip))) (
  .seq (.seq (.region [
    ⟨(some 18), .faddr 0 (.t 2), none, []⟩,
    ⟨(some 19), .load 1 false (.t 18), none, []⟩]) (
  .block 0 (
    .seq (.region [
      ⟨(some 21), .bin .eql (.t 19) (.c (.int .i64 1)), none, []⟩,
      ⟨(some 20), .mv (.t 21), none, []⟩]) (
    .cond (.t 20) (
      .seq (.region [
        ⟨(some 22), .faddr 1 (.t 2), none, []⟩,
        ⟨(some 23), .load 1 false (.t 22), none, []⟩,
        ⟨(some 24), .faddr 1 (.t 3), none, []⟩,
        ⟨(some 25), .load 1 false (.t 24), none, []⟩,
        ⟨(some 26), .bin .lss (.t 23) (.t 25), none, []⟩,
        ⟨(some 27), .faddr 1 (.t 2), none, []⟩,
        ⟨(some 28), .load 1 false (.t 27), none, []⟩,
        ⟨(some 29), .faddr 1 (.t 3), none, []⟩,
        ⟨(some 30), .load 1 false (.t 29), none, []⟩,
        ⟨(some 31), .bin .gtr (.t 28) (.t 30), none, []⟩,
        ⟨(some 32), .call 55 [.t 26, .t 31], none, []⟩,
        ⟨(some 4), .mv (.t 32), none, []⟩]) (
      .ret)) (
      .seq (.seq (.region [
        ⟨(some 34), .bin .eql (.t 19) (.c (.int .i64 2)), none, []⟩,
        ⟨(some 33), .mv (.t 34), none, []⟩]) (
      .cond (.t 33) (
        .skip) (
        .region [
          ⟨(some 35), .bin .eql (.t 19) (.c (.int .i64 3)), none, []⟩,
          ⟨(some 33), .mv (.t 35), none, []⟩]))) (
      .cond (.t 33) (
        .seq (.region [
          ⟨(some 36), .faddr 2 (.t 2), none, []⟩,
          ⟨(some 37), .load 1 false (.t 36), none, []⟩,
          ⟨(some 38), .faddr 2 (.t 3), none, []⟩,
          ⟨(some 39), .load 1 false (.t 38), none, []⟩,
          ⟨(some 40), .bin .lss (.t 37) (.t 39), none, []⟩,
          ⟨(some 41), .faddr 2 (.t 2), none, []⟩,
          ⟨(some 42), .load 1 false (.t 41), none, []⟩,
          ⟨(some 43), .faddr 2 (.t 3), none, []⟩,
          ⟨(some 44), .load 1 false (.t 43), none, []⟩,
          ⟨(some 45), .bin .gtr (.t 42) (.t 44), none, []⟩,
          ⟨(some 46), .call 55 [.t 40, .t 45], none, []⟩,
          ⟨(some 4), .mv (.t 46), none, []⟩]) (
        .ret)) (
        .seq (.region [
          ⟨(some 48), .bin .eql (.t 19) (.c (.int .i64 4)), none, []⟩,
          ⟨(some 47), .mv (.t 48), none, []⟩]) (
        .cond (.t 47) (
          .seq (.seq (.region [
            ⟨(some 5), .mv (.c (.int .i64 0)), none, []⟩]) (
          .block 1 (
            .loop (
              .seq (.seq (.region [
                ⟨(some 49), .mv (.t 5), none, []⟩,
                ⟨(some 50), .faddr 3 (.t 2), none, []⟩,
                ⟨(some 51), .load 1 false (.t 50), none, []⟩,
                ⟨(some 52), .len false (.t 51), none, []⟩,
                ⟨(some 53), .bin .lss (.t 49) (.t 52), none, []⟩,
                ⟨(some 54), .mv (.t 53), none, []⟩,
                ⟨(some 55), .mv (.t 5), (some (54, true)), []⟩,
                ⟨(some 56), .faddr 3 (.t 3), (some (54, true)), []⟩,
                ⟨(some 57), .load 1 false (.t 56), (some (54, true)), []⟩,
                ⟨(some 58), .len false (.t 57), (some (54, true)), []⟩,
                ⟨(some 59), .bin .lss (.t 55) (.t 58), (some (54, true)), []⟩,
                ⟨(some 60), .pick (.t 54) (.t 59) (.c (.bool false)), none, []⟩]) (
              .cond (.t 60) (
                .skip) (
                .exit 1))) (
              .seq (.block 2 (
                .seq (.region [
                  ⟨(some 63), .faddr 3 (.t 2), none, []⟩,
                  ⟨(some 64), .load 1 false (.t 63), none, []⟩,
                  ⟨(some 65), .mv (.t 5), none, []⟩,
                  ⟨(some 66), .iaddrS 4 (.t 64) (.t 65), none, []⟩,
                  ⟨(some 67), .load 4 true (.t 66), none, []⟩,
                  ⟨(some 68), .faddr 3 (.t 3), none, []⟩,
                  ⟨(some 69), .load 1 false (.t 68), none, []⟩,
                  ⟨(some 70), .mv (.t 5), none, []⟩,
                  ⟨(some 71), .iaddrS 4 (.t 69) (.t 70), none, []⟩,
                  ⟨(some 72), .load 4 true (.t 71), none, []⟩,
                  ⟨(some 73), .call 34 [.t 67, .t 72], none, []⟩,
                  ⟨(some 6), .mv (.t 73), none, []⟩]) (
                .seq (.region [
                  ⟨(some 74), .mv (.t 6), none, []⟩,
                  ⟨(some 75), .bin .neq (.t 74) (.c (.int .i64 0)), none, []⟩]) (
                .cond (.t 75) (
                  .seq (.region [
                    ⟨(some 76), .mv (.t 6), none, []⟩,
                    ⟨(some 4), .mv (.t 76), none, []⟩]) (
                  .ret)) (
                  .skip))))) (
              .region [
                ⟨(some 61), .mv (.t 5), none, []⟩,
                ⟨(some 62), .bin .add (.t 61) (.c (.int .i64 1)), none, []⟩,
                ⟨(some 5), .mv (.t 62), none, []⟩])))))) (
          .seq (.region [
            ⟨(some 77), .faddr 3 (.t 2), none, []⟩,
            ⟨(some 78), .load 1 false (.t 77), none, []⟩,
            ⟨(some 79), .len false (.t 78), none, []⟩,
            ⟨(some 80), .faddr 3 (.t 3), none, []⟩,
            ⟨(some 81), .load 1 false (.t 80), none, []⟩,
            ⟨(some 82), .len false (.t 81), none, []⟩,
            ⟨(some 83), .bin .lss (.t 79) (.t 82), none, []⟩,
            ⟨(some 84), .faddr 3 (.t 2), none, []⟩,
            ⟨(some 85), .load 1 false (.t 84), none, []⟩,
            ⟨(some 86), .len false (.t 85), none, []⟩,
            ⟨(some 87), .faddr 3 (.t 3), none, []⟩,
            ⟨(some 88), .load 1 false (.t 87), none, []⟩,
            ⟨(some 89), .len false (.t 88), none, []⟩,
            ⟨(some 90), .bin .gtr (.t 86) (.t 89), none, []⟩,
            ⟨(some 91), .call 55 [.t 83, .t 90], none, []⟩,
            ⟨(some 4), .mv (.t 91), none, []⟩]) (
          .ret))) (
          .skip))))))))) (
  .seq (.region [
    ⟨(some 4), .mv (.c (.int .i64 0)), none, []⟩]) (
  .ret)))),
  .pure, true, true⟩
theorem k34 : compF Tryd.prog { mt := false, mtAt := [], mode := .pure, clArgs := true, clRes := true } Tryd.f34 = some c34 := by kernel_rfl
/- beaconry/beaconryref01.Number -/
def c35 : AFunc := ⟨5, [.cell 2 4 true],
  .seq (.region [
    ⟨(some 2), .alloc [.int .i64 0, .int .i64 0, .str ⟨#[]⟩, .isl [] true], none, []⟩]) (
  .seq (.region [
    ⟨(some 3), .mv (.t 0), none, []⟩,
    ⟨(some 4), .build [.int .i64 0, .int .i64 0, .str ⟨#[]⟩, .isl [] true] [(0, 1, .c (.int .i64 1)), (1, 1, .t 3)], none, []⟩,
    ⟨none, .store 4 (.t 2) (.t 4), none, []⟩]) (
  .ret)),
  .pure, true, true⟩
theorem k35 : compF Tryd.prog { mt := false, mtAt := [], mode := .pure, clArgs := true, clRes := true } Tryd.f35 = some c35 := by kernel_rfl
/- beaconry/builtin.right -/
def c36 : AFunc := ⟨9, [.cell 2 4 true, .tmp 3],
  .seq (.region [
    ⟨(some 1), .box (.t 0), none, []⟩,
    ⟨(some 2), .alloc [.int .i64 0, .int .i64 0, .str ⟨#[]⟩, .isl [] true], none, []⟩,
    ⟨(some 3), .mv (.c (.bool false)), none, []⟩]) (
  .seq (.seq (.region [
    ⟨(some 4), .load 4 true (.t 1), none, []⟩,
    ⟨(some 5), .call 24 [.t 4], none, []⟩,
    ⟨(some 6), .un .not (.t 5), none, []⟩]) (
  .cond (.t 6) (
    .seq (.region [
      ⟨(some 7), .build [.int .i64 0, .int .i64 0, .str ⟨#[]⟩, .isl [] true] [], none, []⟩,
      ⟨none, .store 4 (.t 2) (.t 7), none, []⟩,
      ⟨(some 3), .mv (.c (.bool false)), none, []⟩]) (
    .ret)) (
    .skip))) (
  .seq (.region [
    ⟨(some 8), .load 4 true (.t 1), none, []⟩,
    ⟨none, .store 4 (.t 2) (.t 8), none, []⟩,
    ⟨(some 3), .mv (.c (.bool true)), none, []⟩]) (
  .ret))),
  .pure, true, true⟩
theorem k36 : compF Tryd.prog { mt := false, mtAt := [], mode := .pure, clArgs := true, clRes := true } Tryd.f36 = some c36 := by kernel_rfl
/- beaconry/beaconryref02.made -/
def c37 : AFunc := ⟨11, [.cell 2 4 true, .tmp 3],
  .seq (.region [
    ⟨(some 1), .box (.t 0), none, []⟩,
    ⟨(some 2), .alloc [.int .i64 0, .int .i64 0, .str ⟨#[]⟩, .isl [] true], none, []⟩,
    ⟨(some 3), .mv (.c (.bool false)), none, []⟩]) (
  .seq (.region [
    ⟨(some 5), .load 4 true (.t 1), none, []⟩,
    ⟨(some 6), .call 32 [.t 5], none, []⟩,
    ⟨(some 4), .mv (.t 6), none, []⟩]) (
  .seq (.seq (.region [
    ⟨(some 7), .mv (.t 4), none, []⟩,
    ⟨(some 8), .un .not (.t 7), none, []⟩]) (
  .cond (.t 8) (
    .seq (.region [
      ⟨(some 9), .build [.int .i64 0, .int .i64 0, .str ⟨#[]⟩, .isl [] true] [], none, []⟩,
      ⟨none, .store 4 (.t 2) (.t 9), none, []⟩,
      ⟨(some 3), .mv (.c (.bool false)), none, []⟩]) (
    .ret)) (
    .skip))) (
  .seq (.region [
    ⟨(some 10), .load 4 true (.t 1), none, []⟩,
    ⟨none, .store 4 (.t 2) (.t 10), none, []⟩,
    ⟨(some 3), .mv (.c (.bool true)), none, []⟩]) (
  .ret)))),
  .pure, true, true⟩
theorem k37 : compF Tryd.prog { mt := false, mtAt := [], mode := .pure, clArgs := true, clRes := true } Tryd.f37 = some c37 := by kernel_rfl
/- beaconry/beaconrylaw01.Values -/
def c38 : AFunc := ⟨29, [.tmp 4],
  .seq (.region [
    ⟨(some 4), .mv (.c (.bool false)), none, []⟩]) (
  .seq (.seq (.region [
    ⟨(some 7), .mv (.t 0), none, []⟩,
    ⟨(some 8), .len false (.t 7), none, []⟩,
    ⟨(some 9), .mv (.t 1), none, []⟩,
    ⟨(some 10), .len false (.t 9), none, []⟩,
    ⟨(some 11), .bin .neq (.t 8) (.t 10), none, []⟩]) (
  .cond (.t 11) (
    .seq (.region [
      ⟨(some 4), .mv (.c (.bool false)), none, []⟩]) (
    .ret)) (
    .skip))) (
  .seq (.seq (.region [
    ⟨(some 5), .mv (.c (.int .i64 0)), none, []⟩]) (
  .block 0 (
    .loop (
      .seq (.seq (.region [
        ⟨(some 12), .mv (.t 5), none, []⟩,
        ⟨(some 13), .mv (.t 0), none, []⟩,
        ⟨(some 14), .len false (.t 13), none, []⟩,
        ⟨(some 15), .bin .lss (.t 12) (.t 14), none, []⟩]) (
      .cond (.t 15) (
        .skip) (
        .exit 0))) (
      .seq (.block 1 (
        .seq (.region [
          ⟨(some 18), .mv (.t 0), none, []⟩,
          ⟨(some 19), .mv (.t 5), none, []⟩,
          ⟨(some 20), .iaddrS 4 (.t 18) (.t 19), none, []⟩,
          ⟨(some 21), .load 4 true (.t 20), none, []⟩,
          ⟨(some 22), .mv (.t 1), none, []⟩,
          ⟨(some 23), .mv (.t 5), none, []⟩,
          ⟨(some 24), .iaddrS 4 (.t 22) (.t 23), none, []⟩,
          ⟨(some 25), .load 4 true (.t 24), none, []⟩,
          ⟨(some 26), .call 17 [.t 21, .t 25], none, []⟩,
          ⟨(some 6), .mv (.t 26), none, []⟩]) (
        .seq (.region [
          ⟨(some 27), .mv (.t 6), none, []⟩,
          ⟨(some 28), .un .not (.t 27), none, []⟩]) (
        .cond (.t 28) (
          .seq (.region [
            ⟨(some 4), .mv (.c (.bool false)), none, []⟩]) (
          .ret)) (
          .skip))))) (
      .region [
        ⟨(some 16), .mv (.t 5), none, []⟩,
        ⟨(some 17), .bin .add (.t 16) (.c (.int .i64 1)), none, []⟩,
        ⟨(some 5), .mv (.t 17), none, []⟩])))))) (
  .seq (.region [
    ⟨(some 4), .mv (.c (.bool true)), none, []⟩]) (
  .ret)))),
  .pure, true, true⟩
theorem k38 : compF Tryd.prog { mt := false, mtAt := [], mode := .pure, clArgs := true, clRes := true } Tryd.f38 = some c38 := by kernel_rfl
/- beaconry/value.Compare -/
def c39 : AFunc := ⟨38, [.tmp 4],
  .seq (.region [
    ⟨(some 2), .box (.t 0), none, []⟩,
    ⟨(some 3), .box (.t 1), none, []⟩,
    ⟨(some 4), .mv (.c (.int .i64 0)), none, []⟩]) (
  .seq (.seq (.region [
    ⟨(some 6), .faddr 0 (.t 2), none, []⟩,
    ⟨(some 7), .load 1 false (.t 6), none, []⟩,
    ⟨(some 8), .faddr 0 (.t 3), none, []⟩,
    ⟨(some 9), .load 1 false (.t 8), none, []⟩,
    ⟨(some 10), .call 56 [.t 7, .t 9], none, []⟩,
    ⟨(some 5), .mv (.t 10), none, []⟩]) (
  .seq (.region [
    ⟨(some 11), .mv (.t 5), none, []⟩,
    ⟨(some 12), .bin .neq (.t 11) (.c (.int .i64 0)), none, []⟩]) (
  .cond (.t 12) (
    .seq (.region [
      ⟨(some 13), .mv (.t 5), none, []⟩,
      ⟨(some 4), .mv (.t 13), none, []⟩]) (
    .ret)) (
    .skip)))) (
  .seq (.seq (.region [
    ⟨(some 14), .faddr 0 (.t 2), none, []⟩,
    ⟨(some 15), .load 1 false (.t 14), none, []⟩]) (
  .block 0 (
    .seq (.region [
      ⟨(some 17), .bin .eql (.t 15) (.c (.int .i64 1)), none, []⟩,
      ⟨(some 16), .mv (.t 17), none, []⟩]) (
    .cond (.t 16) (
      .seq (.region [
        ⟨(some 18), .faddr 1 (.t 2), none, []⟩,
        ⟨(some 19), .load 1 false (.t 18), none, []⟩,
        ⟨(some 20), .faddr 1 (.t 3), none, []⟩,
        ⟨(some 21), .load 1 false (.t 20), none, []⟩,
        ⟨(some 22), .call 56 [.t 19, .t 21], none, []⟩,
        ⟨(some 4), .mv (.t 22), none, []⟩]) (
      .ret)) (
      .seq (.seq (.region [
        ⟨(some 24), .bin .eql (.t 15) (.c (.int .i64 2)), none, []⟩,
        ⟨(some 23), .mv (.t 24), none, []⟩]) (
      .cond (.t 23) (
        .skip) (
        .region [
          ⟨(some 25), .bin .eql (.t 15) (.c (.int .i64 3)), none, []⟩,
          ⟨(some 23), .mv (.t 25), none, []⟩]))) (
      .cond (.t 23) (
        .seq (.region [
          ⟨(some 26), .faddr 2 (.t 2), none, []⟩,
          ⟨(some 27), .load 1 false (.t 26), none, []⟩,
          ⟨(some 28), .faddr 2 (.t 3), none, []⟩,
          ⟨(some 29), .load 1 false (.t 28), none, []⟩,
          ⟨(some 30), .call 57 [.t 27, .t 29], none, []⟩,
          ⟨(some 4), .mv (.t 30), none, []⟩]) (
        .ret)) (
        .seq (.region [
          ⟨(some 32), .bin .eql (.t 15) (.c (.int .i64 4)), none, []⟩,
          ⟨(some 31), .mv (.t 32), none, []⟩]) (
        .cond (.t 31) (
          .seq (.region [
            ⟨(some 33), .faddr 3 (.t 2), none, []⟩,
            ⟨(some 34), .load 1 false (.t 33), none, []⟩,
            ⟨(some 35), .faddr 3 (.t 3), none, []⟩,
            ⟨(some 36), .load 1 false (.t 35), none, []⟩,
            ⟨(some 37), .call 58 [.t 34, .t 36, .f 39], none, []⟩,
            ⟨(some 4), .mv (.t 37), none, []⟩]) (
          .ret)) (
          .skip))))))))) (
  .seq (.region [
    ⟨(some 4), .mv (.c (.int .i64 0)), none, []⟩]) (
  .ret)))),
  .pure, true, true⟩
theorem k39 : compF Tryd.prog { mt := false, mtAt := [], mode := .pure, clArgs := true, clRes := true } Tryd.f39 = some c39 := by kernel_rfl
/- beaconry/beaconrylaw01.fit -/
def c40 : AFunc := ⟨107, [.cell 4 4 true],
  .seq (.region [
    ⟨(some 2), .box (.t 0), none, []⟩,
    ⟨(some 4), .alloc [.int .i64 0, .int .i64 0, .str ⟨#[]⟩, .isl [] true], none, []⟩]) (
  .seq (.seq (.region [
    ⟨(some 11), .faddr 0 (.t 2), none, []⟩,
    ⟨(some 12), .load 1 false (.t 11), none, []⟩,
    ⟨(some 13), .call 59 [.t 12, .c (.int .i64 4)], none, []⟩]) (
  .block 0 (
    .seq (.region [
      ⟨(some 15), .bin .eql (.t 13) (.c (.int .i64 0)), none, []⟩,
      ⟨(some 14), .mv (.t 15), none, []⟩]) (
    .cond (.t 14) (
      .seq (.region [
        ⟨(some 16), .faddr 1 (.t 2), none, []⟩,
        ⟨(some 17), .load 1 false (.t 16), none, []⟩,
        ⟨(some 18), .call 59 [.t 17, .c (.int .i64 4294967295)], none, []⟩,
        ⟨(some 19), .bin .sub (.t 18) (.c (.int .i64 2147483647)), none, []⟩,
        ⟨(some 5), .mv (.t 19), none, []⟩]) (
      .seq (.region [
        ⟨(some 20), .mv (.t 5), none, []⟩,
        ⟨(some 21), .build [.int .i64 0, .int .i64 0, .str ⟨#[]⟩, .isl [] true] [(0, 1, .c (.int .i64 1)), (1, 1, .t 20)], none, []⟩,
        ⟨none, .store 4 (.t 4) (.t 21), none, []⟩]) (
      .ret))) (
      .seq (.region [
        ⟨(some 23), .bin .eql (.t 13) (.c (.int .i64 1)), none, []⟩,
        ⟨(some 22), .mv (.t 23), none, []⟩]) (
      .cond (.t 22) (
        .seq (.region [
          ⟨(some 24), .faddr 2 (.t 2), none, []⟩,
          ⟨(some 25), .load 1 false (.t 24), none, []⟩,
          ⟨(some 26), .faddr 2 (.t 2), none, []⟩,
          ⟨(some 27), .load 1 false (.t 26), none, []⟩,
          ⟨(some 28), .len true (.t 27), none, []⟩,
          ⟨(some 29), .min2 (.t 28) (.c (.int .i64 32)), none, []⟩,
          ⟨(some 30), .strSl (.t 25) none (some (.t 29)), none, []⟩,
          ⟨(some 31), .s2b (.t 30), none, []⟩,
          ⟨(some 6), .mv (.t 31), none, []⟩]) (
        .seq (.seq (.region [
          ⟨(some 7), .mv (.c (.int .i64 0)), none, []⟩]) (
        .block 1 (
          .loop (
            .seq (.seq (.region [
              ⟨(some 32), .mv (.t 7), none, []⟩,
              ⟨(some 33), .mv (.t 6), none, []⟩,
              ⟨(some 34), .len false (.t 33), none, []⟩,
              ⟨(some 35), .bin .lss (.t 32) (.t 34), none, []⟩]) (
            .cond (.t 35) (
              .skip) (
              .exit 1))) (
            .seq (.block 2 (
              .seq (.region [
                ⟨(some 38), .mv (.t 6), none, []⟩,
                ⟨(some 39), .mv (.t 7), none, []⟩,
                ⟨(some 40), .mv (.t 6), none, []⟩,
                ⟨(some 41), .mv (.t 7), none, []⟩,
                ⟨(some 42), .iaddrS 1 (.t 40) (.t 41), none, []⟩,
                ⟨(some 43), .load 1 false (.t 42), none, []⟩,
                ⟨(some 44), .bin .rem (.t 43) (.c (.int .u8 95)), none, []⟩,
                ⟨(some 45), .bin .add (.c (.int .u8 32)) (.t 44), none, []⟩,
                ⟨(some 46), .iaddrS 1 (.t 38) (.t 39), none, []⟩,
                ⟨none, .store 1 (.t 46) (.t 45), none, []⟩]) (
              .seq (.region [
                ⟨(some 47), .mv (.t 6), none, []⟩,
                ⟨(some 48), .mv (.t 7), none, []⟩,
                ⟨(some 49), .iaddrS 1 (.t 47) (.t 48), none, []⟩,
                ⟨(some 50), .load 1 false (.t 49), none, []⟩,
                ⟨(some 51), .bin .eql (.t 50) (.c (.int .u8 34)), none, []⟩,
                ⟨(some 52), .mv (.t 51), none, []⟩,
                ⟨(some 53), .mv (.t 6), (some (52, false)), []⟩,
                ⟨(some 54), .mv (.t 7), (some (52, false)), []⟩,
                ⟨(some 55), .iaddrS 1 (.t 53) (.t 54), (some (52, false)), []⟩,
                ⟨(some 56), .load 1 false (.t 55), (some (52, false)), []⟩,
                ⟨(some 57), .bin .eql (.t 56) (.c (.int .u8 92)), (some (52, false)), []⟩,
                ⟨(some 58), .pick (.t 52) (.c (.bool true)) (.t 57), none, []⟩]) (
              .cond (.t 58) (
                .region [
                  ⟨(some 59), .mv (.t 6), none, []⟩,
                  ⟨(some 60), .mv (.t 7), none, []⟩,
                  ⟨(some 61), .iaddrS 1 (.t 59) (.t 60), none, []⟩,
                  ⟨none, .store 1 (.t 61) (.c (.int .u8 32)), none, []⟩]) (
                .skip))))) (
            .region [
              ⟨(some 36), .mv (.t 7), none, []⟩,
              ⟨(some 37), .bin .add (.t 36) (.c (.int .i64 1)), none, []⟩,
              ⟨(some 7), .mv (.t 37), none, []⟩])))))) (
        .seq (.region [
          ⟨(some 62), .mv (.t 6), none, []⟩,
          ⟨(some 63), .b2s (.t 62), none, []⟩,
          ⟨(some 64), .build [.int .i64 0, .int .i64 0, .str ⟨#[]⟩, .isl [] true] [(0, 1, .c (.int .i64 2)), (2, 1, .t 63)], none, []⟩,
          ⟨none, .store 4 (.t 4) (.t 64), none, []⟩]) (
        .ret)))) (
        .seq (.region [
          ⟨(some 66), .bin .eql (.t 13) (.c (.int .i64 2)), none, []⟩,
          ⟨(some 65), .mv (.t 66), none, []⟩]) (
        .cond (.t 65) (
          .seq (.region [
            ⟨(some 67), .faddr 2 (.t 2), none, []⟩,
            ⟨(some 68), .load 1 false (.t 67), none, []⟩,
            ⟨(some 69), .call 60 [.t 68], none, []⟩,
            ⟨(some 70), .build [.int .i64 0, .int .i64 0, .str ⟨#[]⟩, .isl [] true] [(0, 1, .c (.int .i64 3)), (2, 1, .t 69)], none, []⟩,
            ⟨none, .store 4 (.t 4) (.t 70), none, []⟩]) (
          .ret)) (
          .skip))))))))) (
  .seq (.region [
    ⟨(some 71), .build [.int .i64 0, .int .i64 0, .str ⟨#[]⟩, .isl [] true] [(0, 1, .c (.int .i64 4))], none, []⟩,
    ⟨(some 8), .alloc [.int .i64 0, .int .i64 0, .str ⟨#[]⟩, .isl [] true], none, []⟩,
    ⟨none, .store 4 (.t 8) (.t 71), none, []⟩]) (
  .seq (.seq (.region [
    ⟨(some 9), .mv (.c (.int .i64 0)), none, []⟩]) (
  .block 3 (
    .loop (
      .seq (.seq (.region [
        ⟨(some 72), .mv (.t 9), none, []⟩,
        ⟨(some 73), .faddr 3 (.t 2), none, []⟩,
        ⟨(some 74), .load 1 false (.t 73), none, []⟩,
        ⟨(some 75), .len false (.t 74), none, []⟩,
        ⟨(some 76), .bin .lss (.t 72) (.t 75), none, []⟩,
        ⟨(some 77), .mv (.t 76), none, []⟩,
        ⟨(some 78), .mv (.t 9), (some (77, true)), []⟩,
        ⟨(some 79), .bin .lss (.t 78) (.c (.int .i64 16)), (some (77, true)), []⟩,
        ⟨(some 80), .pick (.t 77) (.t 79) (.c (.bool false)), none, []⟩]) (
      .cond (.t 80) (
        .skip) (
        .exit 3))) (
      .seq (.block 4 (
        .seq (.region [
          ⟨(some 83), .faddr 3 (.t 2), none, []⟩,
          ⟨(some 84), .load 1 false (.t 83), none, []⟩,
          ⟨(some 85), .mv (.t 9), none, []⟩,
          ⟨(some 86), .iaddrS 4 (.t 84) (.t 85), none, []⟩,
          ⟨(some 87), .load 4 true (.t 86), none, []⟩,
          ⟨(some 10), .alloc [.int .i64 0, .int .i64 0, .str ⟨#[]⟩, .isl [] true], none, []⟩,
          ⟨none, .store 4 (.t 10) (.t 87), none, []⟩]) (
        .seq (.seq (.region [
          ⟨(some 88), .mv (.t 1), none, []⟩,
          ⟨(some 89), .bin .leq (.t 88) (.c (.int .i64 1)), none, []⟩,
          ⟨(some 90), .mv (.t 89), none, []⟩,
          ⟨(some 91), .faddr 0 (.t 10), (some (90, true)), []⟩,
          ⟨(some 92), .load 1 false (.t 91), (some (90, true)), []⟩,
          ⟨(some 93), .call 59 [.t 92, .c (.int .i64 4)], (some (90, true)), []⟩,
          ⟨(some 94), .bin .eql (.t 93) (.c (.int .i64 3)), (some (90, true)), []⟩,
          ⟨(some 95), .pick (.t 90) (.t 94) (.c (.bool false)), none, []⟩]) (
        .cond (.t 95) (
          .region [
            ⟨(some 96), .faddr 0 (.t 10), none, []⟩,
            ⟨none, .store 1 (.t 96) (.c (.int .i64 0)), none, []⟩]) (
          .skip))) (
        .region [
          ⟨(some 97), .faddr 3 (.t 8), none, []⟩,
          ⟨(some 98), .load 1 false (.t 97), none, []⟩,
          ⟨(some 99), .load 4 true (.t 10), none, []⟩,
          ⟨(some 100), .mv (.t 1), none, []⟩,
          ⟨(some 101), .bin .sub (.t 100) (.c (.int .i64 1)), none, []⟩,
          ⟨(some 102), .call 40 [.t 99, .t 101], none, [.t 97]⟩,
          ⟨(some 103), .buildSl 1 4 true [.int .i64 0, .int .i64 0, .str ⟨#[]⟩, .isl [] true] [(0, 4, .t 102)], none, []⟩,
          ⟨(some 104), .append 4 true 56 false (.t 98) (.t 103), none, []⟩,
          ⟨(some 105), .faddr 3 (.t 8), none, []⟩,
          ⟨none, .store 1 (.t 105) (.t 104), none, []⟩])))) (
      .region [
        ⟨(some 81), .mv (.t 9), none, []⟩,
        ⟨(some 82), .bin .add (.t 81) (.c (.int .i64 1)), none, []⟩,
        ⟨(some 9), .mv (.t 82), none, []⟩])))))) (
  .seq (.region [
    ⟨(some 106), .load 4 true (.t 8), none, []⟩,
    ⟨none, .store 4 (.t 4) (.t 106), none, []⟩]) (
  .ret))))),
  .pure, true, true⟩
theorem k40 : compF Tryd.prog { mt := false, mtAt := [], mode := .pure, clArgs := true, clRes := true } Tryd.f40 = some c40 := by kernel_rfl
/- beaconry/value.right -/
def c41 : AFunc := ⟨67, [.tmp 4],
  .seq (.region [
    ⟨(some 2), .box (.t 0), none, []⟩,
    ⟨(some 3), .box (.t 1), none, []⟩,
    ⟨(some 4), .mv (.c (.bool false)), none, []⟩]) (
  .seq (.region [
    ⟨(some 6), .load 4 true (.t 2), none, []⟩,
    ⟨(some 5), .alloc [.int .i64 0, .int .i64 0, .str ⟨#[]⟩, .isl [] true], none, []⟩,
    ⟨none, .store 4 (.t 5) (.t 6), none, []⟩]) (
  .seq (.region [
    ⟨(some 7), .faddr 0 (.t 5), none, []⟩,
    ⟨none, .store 1 (.t 7) (.c (.int .i64 0)), none, []⟩]) (
  .seq (.seq (.region [
    ⟨(some 8), .faddr 0 (.t 2), none, []⟩,
    ⟨(some 9), .load 1 false (.t 8), none, []⟩]) (
  .block 0 (
    .seq (.region [
      ⟨(some 11), .bin .eql (.t 9) (.c (.int .i64 1)), none, []⟩,
      ⟨(some 10), .mv (.t 11), none, []⟩]) (
    .cond (.t 10) (
      .seq (.region [
        ⟨(some 12), .faddr 1 (.t 5), none, []⟩,
        ⟨none, .store 1 (.t 12) (.c (.int .i64 0)), none, []⟩]) (
      .seq (.region [
        ⟨(some 13), .load 4 true (.t 5), none, []⟩,
        ⟨(some 14), .call 61 [.t 13], none, []⟩,
        ⟨(some 15), .mv (.t 14), none, []⟩,
        ⟨(some 16), .faddr 1 (.t 2), (some (15, true)), []⟩,
        ⟨(some 17), .load 1 false (.t 16), (some (15, true)), []⟩,
        ⟨(some 18), .bin .leq (.t 17) (.c (.int .i64 2147483647)), (some (15, true)), []⟩,
        ⟨(some 19), .pick (.t 15) (.t 18) (.c (.bool false)), none, []⟩,
        ⟨(some 20), .mv (.t 19), none, []⟩,
        ⟨(some 21), .faddr 1 (.t 2), (some (20, true)), []⟩,
        ⟨(some 22), .load 1 false (.t 21), (some (20, true)), []⟩,
        ⟨(some 23), .bin .geq (.t 22) (.c (.int .i64 (-2147483647))), (some (20, true)), []⟩,
        ⟨(some 24), .pick (.t 20) (.t 23) (.c (.bool false)), none, []⟩,
        ⟨(some 4), .mv (.t 24), none, []⟩]) (
      .ret))) (
      .seq (.region [
        ⟨(some 26), .bin .eql (.t 9) (.c (.int .i64 2)), none, []⟩,
        ⟨(some 25), .mv (.t 26), none, []⟩]) (
      .cond (.t 25) (
        .seq (.region [
          ⟨(some 27), .faddr 2 (.t 5), none, []⟩,
          ⟨none, .store 1 (.t 27) (.c (.str ⟨#[]⟩)), none, []⟩]) (
        .seq (.region [
          ⟨(some 28), .load 4 true (.t 5), none, []⟩,
          ⟨(some 29), .call 61 [.t 28], none, []⟩,
          ⟨(some 30), .mv (.t 29), none, []⟩,
          ⟨(some 31), .faddr 2 (.t 2), (some (30, true)), []⟩,
          ⟨(some 32), .load 1 false (.t 31), (some (30, true)), []⟩,
          ⟨(some 33), .call 62 [.t 32], (some (30, true)), []⟩,
          ⟨(some 34), .pick (.t 30) (.t 33) (.c (.bool false)), none, []⟩,
          ⟨(some 4), .mv (.t 34), none, []⟩]) (
        .ret))) (
        .seq (.region [
          ⟨(some 36), .bin .eql (.t 9) (.c (.int .i64 3)), none, []⟩,
          ⟨(some 35), .mv (.t 36), none, []⟩]) (
        .cond (.t 35) (
          .seq (.region [
            ⟨(some 37), .faddr 2 (.t 5), none, []⟩,
            ⟨none, .store 1 (.t 37) (.c (.str ⟨#[]⟩)), none, []⟩]) (
          .seq (.region [
            ⟨(some 38), .load 4 true (.t 5), none, []⟩,
            ⟨(some 39), .call 61 [.t 38], none, []⟩,
            ⟨(some 40), .mv (.t 39), none, []⟩,
            ⟨(some 41), .faddr 2 (.t 2), (some (40, true)), []⟩,
            ⟨(some 42), .load 1 false (.t 41), (some (40, true)), []⟩,
            ⟨(some 43), .call 63 [.t 42], (some (40, true)), []⟩,
            ⟨(some 44), .pick (.t 40) (.t 43) (.c (.bool false)), none, []⟩,
            ⟨(some 4), .mv (.t 44), none, []⟩]) (
          .ret))) (
          .seq (.region [
            ⟨(some 46), .bin .eql (.t 9) (.c (.int .i64 4)), none, []⟩,
            ⟨(some 45), .mv (.t 46), none, []⟩]) (
          .cond (.t 45) (
            .seq (.region [
              ⟨(some 47), .faddr 3 (.t 5), none, []⟩,
              ⟨none, .store 1 (.t 47) (.c (.isl [] true)), none, []⟩]) (
            .seq (.region [
              ⟨(some 48), .load 4 true (.t 5), none, []⟩,
              ⟨(some 49), .call 61 [.t 48], none, []⟩,
              ⟨(some 50), .mv (.t 49), none, []⟩,
              ⟨(some 51), .load 1 false (.t 3), (some (50, true)), []⟩,
              ⟨(some 52), .bin .gtr (.t 51) (.c (.int .i64 0)), (some (50, true)), []⟩,
              ⟨(some 53), .pick (.t 50) (.t 52) (.c (.bool false)), none, []⟩,
              ⟨(some 54), .mv (.t 53), none, []⟩,
              ⟨(some 55), .faddr 3 (.t 2), (some (54, true)), []⟩,
              ⟨(some 56), .load 1 false (.t 55), (some (54, true)), []⟩,
              ⟨(some 57), .len false (.t 56), (some (54, true)), []⟩,
              ⟨(some 58), .bin .leq (.t 57) (.c (.int .i64 16)), (some (54, true)), []⟩,
              ⟨(some 59), .pick (.t 54) (.t 58) (.c (.bool false)), none, []⟩,
              ⟨(some 60), .mv (.t 59), none, []⟩,
              ⟨(some 61), .faddr 3 (.t 2), (some (60, true)), []⟩,
              ⟨(some 62), .load 1 false (.t 61), (some (60, true)), []⟩,
              ⟨(some 63), .mkfn 64 [.t 3], (some (60, true)), []⟩,
              ⟨(some 64), .call 29 [.t 62, .t 63], (some (60, true)), []⟩,
              ⟨(some 65), .un .not (.t 64), (some (60, true)), []⟩,
              ⟨(some 66), .pick (.t 60) (.t 65) (.c (.bool false)), none, []⟩,
              ⟨(some 4), .mv (.t 66), none, []⟩]) (
            .ret))) (
            .skip))))))))))) (
  .seq (.region [
    ⟨(some 4), .mv (.c (.bool false)), none, []⟩]) (
  .ret))))),
  .pure, true, true⟩
theorem k41 : compF Tryd.prog { mt := false, mtAt := [], mode := .pure, clArgs := true, clRes := true } Tryd.f41 = some c41 := by kernel_rfl
/- 42 slices.Clone[[]beaconry/api.Value,beaconry/api.Value]: told elsewhere -/
/- beaconry/value.write -/
def c43 : AFunc := ⟨55, [],
  .seq (.region [
    ⟨(some 3), .box (.t 1), none, []⟩]) (
  .seq (.region [
    ⟨(some 6), .faddr 0 (.t 3), none, []⟩,
    ⟨(some 7), .load 1 false (.t 6), none, []⟩]) (
  .block 0 (
    .seq (.region [
      ⟨(some 9), .bin .eql (.t 7) (.c (.int .i64 1)), none, []⟩,
      ⟨(some 8), .mv (.t 9), none, []⟩]) (
    .cond (.t 8) (
      .region [
        ⟨(some 10), .mv (.t 0), none, []⟩,
        ⟨(some 11), .faddr 1 (.t 3), none, []⟩,
        ⟨(some 12), .load 1 false (.t 11), none, []⟩,
        ⟨(some 13), .call 66 [.t 12], none, []⟩,
        ⟨(some 14), .call 65 [.t 10, .t 13], none, []⟩]) (
      .seq (.region [
        ⟨(some 16), .bin .eql (.t 7) (.c (.int .i64 2)), none, []⟩,
        ⟨(some 15), .mv (.t 16), none, []⟩]) (
      .cond (.t 15) (
        .region [
          ⟨(some 17), .mv (.t 0), none, []⟩,
          ⟨(some 18), .faddr 2 (.t 3), none, []⟩,
          ⟨(some 19), .load 1 false (.t 18), none, []⟩,
          ⟨(some 20), .bin .add (.c (.str ⟨#[34]⟩)) (.t 19), none, []⟩,
          ⟨(some 21), .bin .add (.t 20) (.c (.str ⟨#[34]⟩)), none, []⟩,
          ⟨(some 22), .call 65 [.t 17, .t 21], none, []⟩]) (
        .seq (.region [
          ⟨(some 24), .bin .eql (.t 7) (.c (.int .i64 3)), none, []⟩,
          ⟨(some 23), .mv (.t 24), none, []⟩]) (
        .cond (.t 23) (
          .region [
            ⟨(some 25), .mv (.t 0), none, []⟩,
            ⟨(some 26), .faddr 2 (.t 3), none, []⟩,
            ⟨(some 27), .load 1 false (.t 26), none, []⟩,
            ⟨(some 28), .call 65 [.t 25, .t 27], none, []⟩]) (
          .seq (.region [
            ⟨(some 30), .bin .eql (.t 7) (.c (.int .i64 4)), none, []⟩,
            ⟨(some 29), .mv (.t 30), none, []⟩]) (
          .cond (.t 29) (
            .seq (.seq (.region [
              ⟨(some 31), .faddr 3 (.t 3), none, []⟩,
              ⟨(some 32), .load 1 false (.t 31), none, []⟩,
              ⟨(some 33), .len false (.t 32), none, []⟩,
              ⟨(some 34), .mv (.c (.int .i64 0)), none, []⟩]) (
            .block 1 (
              .loop (
                .seq (.region [
                  ⟨(some 35), .bin .lss (.t 34) (.t 33), none, []⟩]) (
                .seq (.cond (.t 35) (
                  .skip) (
                  .exit 1)) (
                .seq (.block 2 (
                  .seq (.region [
                    ⟨(some 36), .mv (.t 34), none, []⟩,
                    ⟨(some 37), .iaddrS 4 (.t 32) (.t 34), none, []⟩,
                    ⟨(some 38), .load 4 true (.t 37), none, []⟩,
                    ⟨(some 5), .alloc [.int .i64 0, .int .i64 0, .str ⟨#[]⟩, .isl [] true], none, []⟩,
                    ⟨(some 4), .mv (.t 36), none, []⟩,
                    ⟨none, .store 4 (.t 5) (.t 38), none, []⟩]) (
                  .seq (.region [
                    ⟨(some 39), .mv (.t 0), none, []⟩,
                    ⟨(some 40), .mv (.t 4), none, []⟩,
                    ⟨(some 41), .min2 (.t 40) (.c (.int .i64 1)), none, []⟩,
                    ⟨(some 42), .idxStr (.c (.str ⟨#[91, 44]⟩)) (.t 41), none, []⟩,
                    ⟨(some 43), .call 67 [.t 39, .t 42], none, []⟩]) (
                  .region [
                    ⟨(some 44), .mv (.t 0), none, []⟩,
                    ⟨(some 45), .load 4 true (.t 5), none, []⟩,
                    ⟨(some 46), .call 43 [.t 44, .t 45], none, []⟩])))) (
                .region [
                  ⟨(some 47), .bin .add (.t 34) (.c (.int .i64 1)), none, []⟩,
                  ⟨(some 34), .mv (.t 47), none, []⟩]))))))) (
            .region [
              ⟨(some 48), .mv (.t 0), none, []⟩,
              ⟨(some 49), .faddr 3 (.t 3), none, []⟩,
              ⟨(some 50), .load 1 false (.t 49), none, []⟩,
              ⟨(some 51), .len false (.t 50), none, []⟩,
              ⟨(some 52), .min2 (.t 51) (.c (.int .i64 1)), none, []⟩,
              ⟨(some 53), .strSl (.c (.str ⟨#[91, 93]⟩)) (some (.t 52)) none, none, []⟩,
              ⟨(some 54), .call 65 [.t 48, .t 53], none, []⟩])) (
            .skip))))))))))),
  .gc, false, true⟩
theorem k43 : compF Tryd.prog { mt := false, mtAt := [], mode := .gc, clArgs := false, clRes := true } Tryd.f43 = some c43 := by kernel_rfl
/- 44 (*strings.Builder).String: told elsewhere -/
/- beaconry/builtin.cons -/
def c45 : AFunc := ⟨16, [.cell 4 4 true, .tmp 5],
  .seq (.region [
    ⟨(some 4), .alloc [.int .i64 0, .int .i64 0, .str ⟨#[]⟩, .isl [] true], none, []⟩,
    ⟨(some 5), .mv (.c (.bool false)), none, []⟩]) (
  .seq (.region [
    ⟨(some 6), .mv (.t 1), none, []⟩,
    ⟨(some 7), .iaddrS 4 (.t 6) (.c (.int .i64 0)), none, []⟩,
    ⟨(some 8), .load 4 true (.t 7), none, []⟩,
    ⟨(some 9), .buildSl 1 4 true [.int .i64 0, .int .i64 0, .str ⟨#[]⟩, .isl [] true] [(0, 4, .t 8)], none, []⟩,
    ⟨(some 10), .mv (.t 0), none, []⟩,
    ⟨(some 11), .append 4 true 56 false (.t 9) (.t 10), none, []⟩,
    ⟨(some 12), .call 26 [.t 11], none, []⟩,
    ⟨(some 13), .call 36 [.t 12], none, []⟩,
    ⟨(some 14), .extract 0 (.t 13), none, []⟩,
    ⟨(some 15), .extract 1 (.t 13), none, []⟩,
    ⟨none, .store 4 (.t 4) (.t 14), none, []⟩,
    ⟨(some 5), .mv (.t 15), none, []⟩]) (
  .ret)),
  .pure, true, true⟩
theorem k45 : compF Tryd.prog { mt := false, mtAt := [], mode := .pure, clArgs := true, clRes := true } Tryd.f45 = some c45 := by kernel_rfl
/- beaconry/builtin.appended -/
def c46 : AFunc := ⟨15, [.cell 4 4 true, .tmp 5],
  .seq (.region [
    ⟨(some 4), .alloc [.int .i64 0, .int .i64 0, .str ⟨#[]⟩, .isl [] true], none, []⟩,
    ⟨(some 5), .mv (.c (.bool false)), none, []⟩]) (
  .seq (.region [
    ⟨(some 6), .mv (.t 0), none, []⟩,
    ⟨(some 7), .mv (.t 1), none, []⟩,
    ⟨(some 8), .slSl 4 (.t 7) (some (.c (.int .i64 1))) none, none, []⟩,
    ⟨(some 9), .buildSl 2 1 false [.isl [] true, .isl [] true] [(0, 1, .t 6), (1, 1, .t 8)], none, []⟩,
    ⟨(some 10), .call 68 [.t 9], none, []⟩,
    ⟨(some 11), .call 26 [.t 10], none, []⟩,
    ⟨(some 12), .call 36 [.t 11], none, []⟩,
    ⟨(some 13), .extract 0 (.t 12), none, []⟩,
    ⟨(some 14), .extract 1 (.t 12), none, []⟩,
    ⟨none, .store 4 (.t 4) (.t 13), none, []⟩,
    ⟨(some 5), .mv (.t 14), none, []⟩]) (
  .ret)),
  .pure, true, true⟩
theorem k46 : compF Tryd.prog { mt := false, mtAt := [], mode := .pure, clArgs := true, clRes := true } Tryd.f46 = some c46 := by kernel_rfl
/- beaconry/builtin.concat -/
def c47 : AFunc := ⟨23, [.cell 4 4 true, .tmp 5],
  .seq (.region [
    ⟨(some 4), .alloc [.int .i64 0, .int .i64 0, .str ⟨#[]⟩, .isl [] true], none, []⟩,
    ⟨(some 5), .mv (.c (.bool false)), none, []⟩]) (
  .seq (.seq (.region [
    ⟨(some 6), .mv (.t 1), none, []⟩,
    ⟨(some 7), .iaddrS 4 (.t 6) (.c (.int .i64 1)), none, []⟩,
    ⟨(some 8), .faddr 0 (.t 7), none, []⟩,
    ⟨(some 9), .load 1 false (.t 8), none, []⟩,
    ⟨(some 10), .bin .neq (.t 9) (.c (.int .i64 4)), none, []⟩]) (
  .cond (.t 10) (
    .seq (.region [
      ⟨(some 11), .build [.int .i64 0, .int .i64 0, .str ⟨#[]⟩, .isl [] true] [], none, []⟩,
      ⟨none, .store 4 (.t 4) (.t 11), none, []⟩,
      ⟨(some 5), .mv (.c (.bool false)), none, []⟩]) (
    .ret)) (
    .skip))) (
  .seq (.region [
    ⟨(some 12), .mv (.t 0), none, []⟩,
    ⟨(some 13), .mv (.t 1), none, []⟩,
    ⟨(some 14), .iaddrS 4 (.t 13) (.c (.int .i64 1)), none, []⟩,
    ⟨(some 15), .faddr 3 (.t 14), none, []⟩,
    ⟨(some 16), .load 1 false (.t 15), none, []⟩,
    ⟨(some 17), .buildSl 2 1 false [.isl [] true, .isl [] true] [(0, 1, .t 12), (1, 1, .t 16)], none, []⟩,
    ⟨(some 18), .call 68 [.t 17], none, []⟩,
    ⟨(some 19), .call 26 [.t 18], none, []⟩,
    ⟨(some 20), .call 36 [.t 19], none, []⟩,
    ⟨(some 21), .extract 0 (.t 20), none, []⟩,
    ⟨(some 22), .extract 1 (.t 20), none, []⟩,
    ⟨none, .store 4 (.t 4) (.t 21), none, []⟩,
    ⟨(some 5), .mv (.t 22), none, []⟩]) (
  .ret))),
  .pure, true, true⟩
theorem k47 : compF Tryd.prog { mt := false, mtAt := [], mode := .pure, clArgs := true, clRes := true } Tryd.f47 = some c47 := by kernel_rfl
/- beaconry/builtin.member -/
def c48 : AFunc := ⟨11, [.cell 4 4 true, .tmp 5],
  .seq (.region [
    ⟨(some 3), .box (.t 1), none, []⟩,
    ⟨(some 4), .alloc [.int .i64 0, .int .i64 0, .str ⟨#[]⟩, .isl [] true], none, []⟩,
    ⟨(some 5), .mv (.c (.bool false)), none, []⟩]) (
  .seq (.seq (.region [
    ⟨(some 6), .mv (.t 0), none, []⟩,
    ⟨(some 7), .mkfn 70 [.t 3], none, []⟩,
    ⟨(some 8), .call 69 [.t 6, .t 7], none, []⟩]) (
  .cond (.t 8) (
    .seq (.region [
      ⟨(some 9), .call 25 [.c (.int .i64 1)], none, []⟩,
      ⟨none, .store 4 (.t 4) (.t 9), none, []⟩,
      ⟨(some 5), .mv (.c (.bool true)), none, []⟩]) (
    .ret)) (
    .skip))) (
  .seq (.region [
    ⟨(some 10), .call 25 [.c (.int .i64 0)], none, []⟩,
    ⟨none, .store 4 (.t 4) (.t 10), none, []⟩,
    ⟨(some 5), .mv (.c (.bool true)), none, []⟩]) (
  .ret))),
  .pure, true, true⟩
theorem k48 : compF Tryd.prog { mt := false, mtAt := [], mode := .pure, clArgs := true, clRes := true } Tryd.f48 = some c48 := by kernel_rfl
/- beaconry/builtin.size -/
def c49 : AFunc := ⟨9, [.cell 4 4 true, .tmp 5],
  .seq (.region [
    ⟨(some 4), .alloc [.int .i64 0, .int .i64 0, .str ⟨#[]⟩, .isl [] true], none, []⟩,
    ⟨(some 5), .mv (.c (.bool false)), none, []⟩]) (
  .seq (.region [
    ⟨(some 6), .mv (.t 0), none, []⟩,
    ⟨(some 7), .len false (.t 6), none, []⟩,
    ⟨(some 8), .call 25 [.t 7], none, []⟩,
    ⟨none, .store 4 (.t 4) (.t 8), none, []⟩,
    ⟨(some 5), .mv (.c (.bool true)), none, []⟩]) (
  .ret)),
  .pure, true, true⟩
theorem k49 : compF Tryd.prog { mt := false, mtAt := [], mode := .pure, clArgs := true, clRes := true } Tryd.f49 = some c49 := by kernel_rfl
/- beaconry/builtin.end -/
def c50 : AFunc := ⟨4, [.tmp 2],
  .seq (.region [
    ⟨(some 1), .box (.t 0), none, []⟩,
    ⟨(some 2), .mv (.c (.nilfunc)), none, []⟩]) (
  .seq (.region [
    ⟨(some 3), .mkfn 71 [.t 1], none, []⟩,
    ⟨(some 2), .mv (.t 3), none, []⟩]) (
  .ret)),
  .pure, true, true⟩
theorem k50 : compF Tryd.prog { mt := false, mtAt := [], mode := .pure, clArgs := true, clRes := true } Tryd.f50 = some c50 := by kernel_rfl
/- beaconry/builtin.rest -/
def c51 : AFunc := ⟨13, [.cell 4 4 true, .tmp 5],
  .seq (.region [
    ⟨(some 4), .alloc [.int .i64 0, .int .i64 0, .str ⟨#[]⟩, .isl [] true], none, []⟩,
    ⟨(some 5), .mv (.c (.bool false)), none, []⟩]) (
  .seq (.seq (.region [
    ⟨(some 6), .mv (.t 0), none, []⟩,
    ⟨(some 7), .len false (.t 6), none, []⟩,
    ⟨(some 8), .bin .eql (.t 7) (.c (.int .i64 0)), none, []⟩]) (
  .cond (.t 8) (
    .seq (.region [
      ⟨(some 9), .build [.int .i64 0, .int .i64 0, .str ⟨#[]⟩, .isl [] true] [], none, []⟩,
      ⟨none, .store 4 (.t 4) (.t 9), none, []⟩,
      ⟨(some 5), .mv (.c (.bool false)), none, []⟩]) (
    .ret)) (
    .skip))) (
  .seq (.region [
    ⟨(some 10), .mv (.t 0), none, []⟩,
    ⟨(some 11), .slSl 4 (.t 10) (some (.c (.int .i64 1))) none, none, []⟩,
    ⟨(some 12), .call 26 [.t 11], none, []⟩,
    ⟨none, .store 4 (.t 4) (.t 12), none, []⟩,
    ⟨(some 5), .mv (.c (.bool true)), none, []⟩]) (
  .ret))),
  .pure, true, true⟩
theorem k51 : compF Tryd.prog { mt := false, mtAt := [], mode := .pure, clArgs := true, clRes := true } Tryd.f51 = some c51 := by kernel_rfl
/- beaconry/builtin.reverse -/
def c52 : AFunc := ⟨13, [.cell 4 4 true, .tmp 5],
  .seq (.region [
    ⟨(some 4), .alloc [.int .i64 0, .int .i64 0, .str ⟨#[]⟩, .isl [] true], none, []⟩,
    ⟨(some 5), .mv (.c (.bool false)), none, []⟩]) (
  .seq (.region [
    ⟨(some 7), .mv (.t 0), none, []⟩,
    ⟨(some 8), .call 26 [.t 7], none, []⟩,
    ⟨(some 6), .alloc [.int .i64 0, .int .i64 0, .str ⟨#[]⟩, .isl [] true], none, []⟩,
    ⟨none, .store 4 (.t 6) (.t 8), none, []⟩]) (
  .seq (.region [
    ⟨(some 9), .faddr 3 (.t 6), none, []⟩,
    ⟨(some 10), .load 1 false (.t 9), none, []⟩,
    ⟨(some 11), .call 72 [.t 10], none, []⟩]) (
  .seq (.region [
    ⟨(some 12), .load 4 true (.t 6), none, []⟩,
    ⟨none, .store 4 (.t 4) (.t 12), none, []⟩,
    ⟨(some 5), .mv (.c (.bool true)), none, []⟩]) (
  .ret)))),
  .pure, true, true⟩
theorem k52 : compF Tryd.prog { mt := false, mtAt := [], mode := .pure, clArgs := true, clRes := true } Tryd.f52 = some c52 := by kernel_rfl
/- slices.IndexFunc[[]beaconry/api.Value,beaconry/api.Value] -/
def c53 : AFunc := ⟨19, [.tmp 4],
  .seq (.region [
    ⟨(some 4), .mv (.c (.int .i64 0)), none, []⟩]) (
  .seq (.seq (.region [
    ⟨(some 6), .mv (.t 0), none, []⟩,
    ⟨(some 7), .len false (.t 6), none, []⟩,
    ⟨(some 8), .mv (.c (.int .i64 0)), none, []⟩]) (
  .block 0 (
    .loop (
      .seq (.region [
        ⟨(some 9), .bin .lss (.t 8) (.t 7), none, []⟩]) (
      .seq (.cond (.t 9) (
        .skip) (
        .exit 0)) (
      .seq (.block 1 (
        .seq (.region [
          ⟨(some 10), .mv (.t 8), none, []⟩,
          ⟨(some 5), .mv (.t 10), none, []⟩]) (
        .seq (.region [
          ⟨(some 11), .mv (.t 1), none, []⟩,
          ⟨(some 12), .mv (.t 0), none, []⟩,
          ⟨(some 13), .mv (.t 5), none, []⟩,
          ⟨(some 14), .iaddrS 4 (.t 12) (.t 13), none, []⟩,
          ⟨(some 15), .load 4 true (.t 14), none, []⟩,
          ⟨(some 16), .callv (.t 11) [.t 15], none, []⟩]) (
        .cond (.t 16) (
          .seq (.region [
            ⟨(some 17), .mv (.t 5), none, []⟩,
            ⟨(some 4), .mv (.t 17), none, []⟩]) (
          .ret)) (
          .skip))))) (
      .region [
        ⟨(some 18), .bin .add (.t 8) (.c (.int .i64 1)), none, []⟩,
        ⟨(some 8), .mv (.t 18), none, []⟩]))))))) (
  .seq (.region [
    ⟨(some 4), .mv (.c (.int .i64 (-1))), none, []⟩]) (
  .ret))),
  .pure, true, true⟩
theorem k53 : compF Tryd.prog { mt := false, mtAt := [], mode := .pure, clArgs := true, clRes := true } Tryd.f53 = some c53 := by kernel_rfl
/- beaconry/beaconryref01.deep -/
def c54 : AFunc := ⟨125, [.tmp 4],
  .seq (.region [
    ⟨(some 2), .box (.t 0), none, []⟩,
    ⟨(some 4), .mv (.c (.bool false)), none, []⟩]) (
  .seq (.seq (.region [
    ⟨(some 9), .faddr 0 (.t 2), none, []⟩,
    ⟨(some 10), .load 1 false (.t 9), none, []⟩,
    ⟨(some 11), .bin .eql (.t 10) (.c (.int .i64 1)), none, []⟩]) (
  .cond (.t 11) (
    .seq (.region [
      ⟨(some 12), .faddr 2 (.t 2), none, []⟩,
      ⟨(some 13), .load 1 false (.t 12), none, []⟩,
      ⟨(some 14), .bin .eql (.t 13) (.c (.str ⟨#[]⟩)), none, []⟩,
      ⟨(some 15), .mv (.t 14), none, []⟩,
      ⟨(some 16), .faddr 3 (.t 2), (some (15, true)), []⟩,
      ⟨(some 17), .load 1 false (.t 16), (some (15, true)), []⟩,
      ⟨(some 18), .len false (.t 17), (some (15, true)), []⟩,
      ⟨(some 19), .bin .eql (.t 18) (.c (.int .i64 0)), (some (15, true)), []⟩,
      ⟨(some 20), .pick (.t 15) (.t 19) (.c (.bool false)), none, []⟩,
      ⟨(some 21), .mv (.t 20), none, []⟩,
      ⟨(some 22), .faddr 1 (.t 2), (some (21, true)), []⟩,
      ⟨(some 23), .load 1 false (.t 22), (some (21, true)), []⟩,
      ⟨(some 24), .bin .leq (.t 23) (.c (.int .i64 2147483647)), (some (21, true)), []⟩,
      ⟨(some 25), .pick (.t 21) (.t 24) (.c (.bool false)), none, []⟩,
      ⟨(some 26), .mv (.t 25), none, []⟩,
      ⟨(some 27), .faddr 1 (.t 2), (some (26, true)), []⟩,
      ⟨(some 28), .load 1 false (.t 27), (some (26, true)), []⟩,
      ⟨(some 29), .bin .geq (.t 28) (.c (.int .i64 (-2147483647))), (some (26, true)), []⟩,
      ⟨(some 30), .pick (.t 26) (.t 29) (.c (.bool false)), none, []⟩,
      ⟨(some 4), .mv (.t 30), none, []⟩]) (
    .ret)) (
    .skip))) (
  .seq (.seq (.region [
    ⟨(some 31), .faddr 1 (.t 2), none, []⟩,
    ⟨(some 32), .load 1 false (.t 31), none, []⟩,
    ⟨(some 33), .bin .neq (.t 32) (.c (.int .i64 0)), none, []⟩]) (
  .cond (.t 33) (
    .seq (.region [
      ⟨(some 4), .mv (.c (.bool false)), none, []⟩]) (
    .ret)) (
    .skip))) (
  .seq (.seq (.region [
    ⟨(some 34), .faddr 0 (.t 2), none, []⟩,
    ⟨(some 35), .load 1 false (.t 34), none, []⟩]) (
  .block 0 (
    .seq (.region [
      ⟨(some 37), .bin .eql (.t 35) (.c (.int .i64 2)), none, []⟩,
      ⟨(some 36), .mv (.t 37), none, []⟩]) (
    .cond (.t 36) (
      .seq (.seq (.region [
        ⟨(some 5), .mv (.c (.int .i64 0)), none, []⟩]) (
      .block 1 (
        .loop (
          .seq (.seq (.region [
            ⟨(some 38), .mv (.t 5), none, []⟩,
            ⟨(some 39), .faddr 2 (.t 2), none, []⟩,
            ⟨(some 40), .load 1 false (.t 39), none, []⟩,
            ⟨(some 41), .len true (.t 40), none, []⟩,
            ⟨(some 42), .bin .lss (.t 38) (.t 41), none, []⟩]) (
          .cond (.t 42) (
            .skip) (
            .exit 1))) (
          .seq (.block 2 (
            .seq (.region [
              ⟨(some 45), .faddr 2 (.t 2), none, []⟩,
              ⟨(some 46), .load 1 false (.t 45), none, []⟩,
              ⟨(some 47), .mv (.t 5), none, []⟩,
              ⟨(some 48), .idxStr (.t 46) (.t 47), none, []⟩,
              ⟨(some 49), .bin .lss (.t 48) (.c (.int .u8 32)), none, []⟩,
              ⟨(some 50), .mv (.t 49), none, []⟩,
              ⟨(some 51), .faddr 2 (.t 2), (some (50, false)), []⟩,
              ⟨(some 52), .load 1 false (.t 51), (some (50, false)), []⟩,
              ⟨(some 53), .mv (.t 5), (some (50, false)), []⟩,
              ⟨(some 54), .idxStr (.t 52) (.t 53), (some (50, false)), []⟩,
              ⟨(some 55), .bin .gtr (.t 54) (.c (.int .u8 126)), (some (50, false)), []⟩,
              ⟨(some 56), .pick (.t 50) (.c (.bool true)) (.t 55), none, []⟩,
              ⟨(some 57), .mv (.t 56), none, []⟩,
              ⟨(some 58), .faddr 2 (.t 2), (some (57, false)), []⟩,
              ⟨(some 59), .load 1 false (.t 58), (some (57, false)), []⟩,
              ⟨(some 60), .mv (.t 5), (some (57, false)), []⟩,
              ⟨(some 61), .idxStr (.t 59) (.t 60), (some (57, false)), []⟩,
              ⟨(some 62), .bin .eql (.t 61) (.c (.int .u8 34)), (some (57, false)), []⟩,
              ⟨(some 63), .pick (.t 57) (.c (.bool true)) (.t 62), none, []⟩,
              ⟨(some 64), .mv (.t 63), none, []⟩,
              ⟨(some 65), .faddr 2 (.t 2), (some (64, false)), []⟩,
              ⟨(some 66), .load 1 false (.t 65), (some (64, false)), []⟩,
              ⟨(some 67), .mv (.t 5), (some (64, false)), []⟩,
              ⟨(some 68), .idxStr (.t 66) (.t 67), (some (64, false)), []⟩,
              ⟨(some 69), .bin .eql (.t 68) (.c (.int .u8 92)), (some (64, false)), []⟩,
              ⟨(some 70), .pick (.t 64) (.c (.bool true)) (.t 69), none, []⟩]) (
            .cond (.t 70) (
              .seq (.region [
                ⟨(some 4), .mv (.c (.bool false)), none, []⟩]) (
              .ret)) (
              .skip)))) (
          .region [
            ⟨(some 43), .mv (.t 5), none, []⟩,
            ⟨(some 44), .bin .add (.t 43) (.c (.int .i64 1)), none, []⟩,
            ⟨(some 5), .mv (.t 44), none, []⟩])))))) (
      .seq (.region [
        ⟨(some 71), .faddr 2 (.t 2), none, []⟩,
        ⟨(some 72), .load 1 false (.t 71), none, []⟩,
        ⟨(some 73), .len true (.t 72), none, []⟩,
        ⟨(some 74), .bin .leq (.t 73) (.c (.int .i64 32)), none, []⟩,
        ⟨(some 75), .mv (.t 74), none, []⟩,
        ⟨(some 76), .faddr 3 (.t 2), (some (75, true)), []⟩,
        ⟨(some 77), .load 1 false (.t 76), (some (75, true)), []⟩,
        ⟨(some 78), .len false (.t 77), (some (75, true)), []⟩,
        ⟨(some 79), .bin .eql (.t 78) (.c (.int .i64 0)), (some (75, true)), []⟩,
        ⟨(some 80), .pick (.t 75) (.t 79) (.c (.bool false)), none, []⟩,
        ⟨(some 4), .mv (.t 80), none, []⟩]) (
      .ret))) (
      .seq (.region [
        ⟨(some 82), .bin .eql (.t 35) (.c (.int .i64 3)), none, []⟩,
        ⟨(some 81), .mv (.t 82), none, []⟩]) (
      .cond (.t 81) (
        .seq (.region [
          ⟨(some 83), .faddr 2 (.t 2), none, []⟩,
          ⟨(some 84), .load 1 false (.t 83), none, []⟩,
          ⟨(some 85), .call 73 [.t 84], none, []⟩,
          ⟨(some 6), .mv (.t 85), none, []⟩]) (
        .seq (.region [
          ⟨(some 86), .mv (.t 6), none, []⟩,
          ⟨(some 87), .mv (.t 86), none, []⟩,
          ⟨(some 88), .faddr 3 (.t 2), (some (87, true)), []⟩,
          ⟨(some 89), .load 1 false (.t 88), (some (87, true)), []⟩,
          ⟨(some 90), .len false (.t 89), (some (87, true)), []⟩,
          ⟨(some 91), .bin .eql (.t 90) (.c (.int .i64 0)), (some (87, true)), []⟩,
          ⟨(some 92), .pick (.t 87) (.t 91) (.c (.bool false)), none, []⟩,
          ⟨(some 4), .mv (.t 92), none, []⟩]) (
        .ret))) (
        .seq (.region [
          ⟨(some 94), .bin .eql (.t 35) (.c (.int .i64 4)), none, []⟩,
          ⟨(some 93), .mv (.t 94), none, []⟩]) (
        .cond (.t 93) (
          .seq (.seq (.region [
            ⟨(some 95), .faddr 2 (.t 2), none, []⟩,
            ⟨(some 96), .load 1 false (.t 95), none, []⟩,
            ⟨(some 97), .bin .neq (.t 96) (.c (.str ⟨#[]⟩)), none, []⟩,
            ⟨(some 98), .mv (.t 97), none, []⟩,
            ⟨(some 99), .faddr 3 (.t 2), (some (98, false)), []⟩,
            ⟨(some 100), .load 1 false (.t 99), (some (98, false)), []⟩,
            ⟨(some 101), .len false (.t 100), (some (98, false)), []⟩,
            ⟨(some 102), .bin .gtr (.t 101) (.c (.int .i64 16)), (some (98, false)), []⟩,
            ⟨(some 103), .pick (.t 98) (.c (.bool true)) (.t 102), none, []⟩,
            ⟨(some 104), .mv (.t 103), none, []⟩,
            ⟨(some 105), .mv (.t 1), (some (104, false)), []⟩,
            ⟨(some 106), .bin .lss (.t 105) (.c (.int .i64 1)), (some (104, false)), []⟩,
            ⟨(some 107), .pick (.t 104) (.c (.bool true)) (.t 106), none, []⟩]) (
          .cond (.t 107) (
            .seq (.region [
              ⟨(some 4), .mv (.c (.bool false)), none, []⟩]) (
            .ret)) (
            .skip))) (
          .seq (.seq (.region [
            ⟨(some 7), .mv (.c (.int .i64 0)), none, []⟩]) (
          .block 3 (
            .loop (
              .seq (.seq (.region [
                ⟨(some 108), .mv (.t 7), none, []⟩,
                ⟨(some 109), .faddr 3 (.t 2), none, []⟩,
                ⟨(some 110), .load 1 false (.t 109), none, []⟩,
                ⟨(some 111), .len false (.t 110), none, []⟩,
                ⟨(some 112), .bin .lss (.t 108) (.t 111), none, []⟩]) (
              .cond (.t 112) (
                .skip) (
                .exit 3))) (
              .seq (.block 4 (
                .seq (.region [
                  ⟨(some 115), .faddr 3 (.t 2), none, []⟩,
                  ⟨(some 116), .load 1 false (.t 115), none, []⟩,
                  ⟨(some 117), .mv (.t 7), none, []⟩,
                  ⟨(some 118), .iaddrS 4 (.t 116) (.t 117), none, []⟩,
                  ⟨(some 119), .load 4 true (.t 118), none, []⟩,
                  ⟨(some 120), .mv (.t 1), none, []⟩,
                  ⟨(some 121), .bin .sub (.t 120) (.c (.int .i64 1)), none, []⟩,
                  ⟨(some 122), .call 54 [.t 119, .t 121], none, []⟩,
                  ⟨(some 8), .mv (.t 122), none, []⟩]) (
                .seq (.region [
                  ⟨(some 123), .mv (.t 8), none, []⟩,
                  ⟨(some 124), .un .not (.t 123), none, []⟩]) (
                .cond (.t 124) (
                  .seq (.region [
                    ⟨(some 4), .mv (.c (.bool false)), none, []⟩]) (
                  .ret)) (
                  .skip))))) (
              .region [
                ⟨(some 113), .mv (.t 7), none, []⟩,
                ⟨(some 114), .bin .add (.t 113) (.c (.int .i64 1)), none, []⟩,
                ⟨(some 7), .mv (.t 114), none, []⟩])))))) (
          .seq (.region [
            ⟨(some 4), .mv (.c (.bool true)), none, []⟩]) (
          .ret)))) (
          .skip))))))))) (
  .seq (.region [
    ⟨(some 4), .mv (.c (.bool false)), none, []⟩]) (
  .ret))))),
  .pure, true, true⟩
theorem k54 : compF Tryd.prog { mt := false, mtAt := [], mode := .pure, clArgs := true, clRes := true } Tryd.f54 = some c54 := by kernel_rfl
/- beaconry/beaconryref01.sign -/
def c55 : AFunc := ⟨7, [.tmp 4],
  .seq (.region [
    ⟨(some 4), .mv (.c (.int .i64 0)), none, []⟩]) (
  .seq (.seq (.region [
    ⟨(some 5), .mv (.t 0), none, []⟩]) (
  .cond (.t 5) (
    .seq (.region [
      ⟨(some 4), .mv (.c (.int .i64 (-1))), none, []⟩]) (
    .ret)) (
    .skip))) (
  .seq (.seq (.region [
    ⟨(some 6), .mv (.t 1), none, []⟩]) (
  .cond (.t 6) (
    .seq (.region [
      ⟨(some 4), .mv (.c (.int .i64 1)), none, []⟩]) (
    .ret)) (
    .skip))) (
  .seq (.region [
    ⟨(some 4), .mv (.c (.int .i64 0)), none, []⟩]) (
  .ret)))),
  .pure, true, true⟩
theorem k55 : compF Tryd.prog { mt := false, mtAt := [], mode := .pure, clArgs := true, clRes := true } Tryd.f55 = some c55 := by kernel_rfl
/- cmp.Compare[int] -/
def c56 : AFunc := ⟨20, [.tmp 4],
  .seq (.region [
    ⟨(some 4), .mv (.c (.int .i64 0)), none, []⟩]) (
  .seq (.region [
    ⟨(some 7), .mv (.t 0), none, []⟩,
    ⟨(some 8), .call 74 [.t 7], none, []⟩,
    ⟨(some 5), .mv (.t 8), none, []⟩]) (
  .seq (.region [
    ⟨(some 9), .mv (.t 1), none, []⟩,
    ⟨(some 10), .call 74 [.t 9], none, []⟩,
    ⟨(some 6), .mv (.t 10), none, []⟩]) (
  .seq (.seq (.region [
    ⟨(some 11), .mv (.t 5), none, []⟩]) (
  .cond (.t 11) (
    .seq (.seq (.region [
      ⟨(some 12), .mv (.t 6), none, []⟩]) (
    .cond (.t 12) (
      .seq (.region [
        ⟨(some 4), .mv (.c (.int .i64 0)), none, []⟩]) (
      .ret)) (
      .skip))) (
    .seq (.region [
      ⟨(some 4), .mv (.c (.int .i64 (-1))), none, []⟩]) (
    .ret))) (
    .skip))) (
  .seq (.seq (.region [
    ⟨(some 13), .mv (.t 6), none, []⟩]) (
  .cond (.t 13) (
    .seq (.region [
      ⟨(some 4), .mv (.c (.int .i64 1)), none, []⟩]) (
    .ret)) (
    .skip))) (
  .seq (.seq (.region [
    ⟨(some 14), .mv (.t 0), none, []⟩,
    ⟨(some 15), .mv (.t 1), none, []⟩,
    ⟨(some 16), .bin .lss (.t 14) (.t 15), none, []⟩]) (
  .cond (.t 16) (
    .seq (.region [
      ⟨(some 4), .mv (.c (.int .i64 (-1))), none, []⟩]) (
    .ret)) (
    .skip))) (
  .seq (.seq (.region [
    ⟨(some 17), .mv (.t 0), none, []⟩,
    ⟨(some 18), .mv (.t 1), none, []⟩,
    ⟨(some 19), .bin .gtr (.t 17) (.t 18), none, []⟩]) (
  .cond (.t 19) (
    .seq (.region [
      ⟨(some 4), .mv (.c (.int .i64 1)), none, []⟩]) (
    .ret)) (
    .skip))) (
  .seq (.region [
    ⟨(some 4), .mv (.c (.int .i64 0)), none, []⟩]) (
  .ret)))))))),
  .pure, true, true⟩
theorem k56 : compF Tryd.prog { mt := false, mtAt := [], mode := .pure, clArgs := true, clRes := true } Tryd.f56 = some c56 := by kernel_rfl
/- strings.Compare -/
def c57 : AFunc := ⟨8, [.tmp 4],
  .seq (.region [
    ⟨(some 4), .mv (.c (.int .i64 0)), none, []⟩]) (
  .seq (.region [
    ⟨(some 5), .mv (.t 0), none, []⟩,
    ⟨(some 6), .mv (.t 1), none, []⟩,
    ⟨(some 7), .call 75 [.t 5, .t 6], none, []⟩,
    ⟨(some 4), .mv (.t 7), none, []⟩]) (
  .ret)),
  .pure, true, true⟩
theorem k57 : compF Tryd.prog { mt := false, mtAt := [], mode := .pure, clArgs := true, clRes := true } Tryd.f57 = some c57 := by kernel_rfl
/- slices.CompareFunc[[]beaconry/api.Value,[]beaconry/api.Value,beaconry/api.Value,beaconry/api.Value] -/
def c58 : AFunc := ⟨39, [.tmp 6],
  .seq (.region [
    ⟨(some 6), .mv (.c (.int .i64 0)), none, []⟩]) (
  .seq (.seq (.region [
    ⟨(some 11), .mv (.t 0), none, []⟩,
    ⟨(some 12), .len false (.t 11), none, []⟩,
    ⟨(some 13), .mv (.c (.int .i64 0)), none, []⟩]) (
  .block 0 (
    .loop (
      .seq (.region [
        ⟨(some 14), .bin .lss (.t 13) (.t 12), none, []⟩]) (
      .seq (.cond (.t 14) (
        .skip) (
        .exit 0)) (
      .seq (.block 1 (
        .seq (.region [
          ⟨(some 15), .mv (.t 13), none, []⟩,
          ⟨(some 16), .iaddrS 4 (.t 11) (.t 13), none, []⟩,
          ⟨(some 17), .load 4 true (.t 16), none, []⟩,
          ⟨(some 8), .alloc [.int .i64 0, .int .i64 0, .str ⟨#[]⟩, .isl [] true], none, []⟩,
          ⟨(some 7), .mv (.t 15), none, []⟩,
          ⟨none, .store 4 (.t 8) (.t 17), none, []⟩]) (
        .seq (.seq (.region [
          ⟨(some 18), .mv (.t 7), none, []⟩,
          ⟨(some 19), .mv (.t 1), none, []⟩,
          ⟨(some 20), .len false (.t 19), none, []⟩,
          ⟨(some 21), .bin .geq (.t 18) (.t 20), none, []⟩]) (
        .cond (.t 21) (
          .seq (.region [
            ⟨(some 6), .mv (.c (.int .i64 1)), none, []⟩]) (
          .ret)) (
          .skip))) (
        .seq (.region [
          ⟨(some 22), .mv (.t 1), none, []⟩,
          ⟨(some 23), .mv (.t 7), none, []⟩,
          ⟨(some 24), .iaddrS 4 (.t 22) (.t 23), none, []⟩,
          ⟨(some 25), .load 4 true (.t 24), none, []⟩,
          ⟨(some 9), .alloc [.int .i64 0, .int .i64 0, .str ⟨#[]⟩, .isl [] true], none, []⟩,
          ⟨none, .store 4 (.t 9) (.t 25), none, []⟩]) (
        .seq (.region [
          ⟨(some 26), .mv (.t 2), none, []⟩,
          ⟨(some 27), .load 4 true (.t 8), none, []⟩,
          ⟨(some 28), .load 4 true (.t 9), none, []⟩,
          ⟨(some 29), .callv (.t 26) [.t 27, .t 28], none, []⟩,
          ⟨(some 10), .mv (.t 29), none, []⟩]) (
        .seq (.region [
          ⟨(some 30), .mv (.t 10), none, []⟩,
          ⟨(some 31), .bin .neq (.t 30) (.c (.int .i64 0)), none, []⟩]) (
        .cond (.t 31) (
          .seq (.region [
            ⟨(some 32), .mv (.t 10), none, []⟩,
            ⟨(some 6), .mv (.t 32), none, []⟩]) (
          .ret)) (
          .skip)))))))) (
      .region [
        ⟨(some 33), .bin .add (.t 13) (.c (.int .i64 1)), none, []⟩,
        ⟨(some 13), .mv (.t 33), none, []⟩]))))))) (
  .seq (.seq (.region [
    ⟨(some 34), .mv (.t 0), none, []⟩,
    ⟨(some 35), .len false (.t 34), none, []⟩,
    ⟨(some 36), .mv (.t 1), none, []⟩,
    ⟨(some 37), .len false (.t 36), none, []⟩,
    ⟨(some 38), .bin .lss (.t 35) (.t 37), none, []⟩]) (
  .cond (.t 38) (
    .seq (.region [
      ⟨(some 6), .mv (.c (.int .i64 (-1))), none, []⟩]) (
    .ret)) (
    .skip))) (
  .seq (.region [
    ⟨(some 6), .mv (.c (.int .i64 0)), none, []⟩]) (
  .ret)))),
  .pure, true, true⟩
theorem k58 : compF Tryd.prog { mt := false, mtAt := [], mode := .pure, clArgs := true, clRes := true } Tryd.f58 = some c58 := by kernel_rfl
/- beaconry/beaconrylaw01.pick -/
def c59 : AFunc := ⟨13, [.tmp 4],
  .seq (.region [
    ⟨(some 4), .mv (.c (.int .i64 0)), none, []⟩]) (
  .seq (.seq (.region [
    ⟨(some 5), .mv (.t 0), none, []⟩,
    ⟨(some 6), .bin .lss (.t 5) (.c (.int .i64 0)), none, []⟩]) (
  .cond (.t 6) (
    .region [
      ⟨(some 7), .mv (.t 0), none, []⟩,
      ⟨(some 8), .bin .add (.t 7) (.c (.int .i64 1)), none, []⟩,
      ⟨(some 9), .un .neg (.t 8), none, []⟩,
      ⟨(some 0), .mv (.t 9), none, []⟩]) (
    .skip))) (
  .seq (.region [
    ⟨(some 10), .mv (.t 0), none, []⟩,
    ⟨(some 11), .mv (.t 1), none, []⟩,
    ⟨(some 12), .bin .rem (.t 10) (.t 11), none, []⟩,
    ⟨(some 4), .mv (.t 12), none, []⟩]) (
  .ret))),
  .pure, true, true⟩
theorem k59 : compF Tryd.prog { mt := false, mtAt := [], mode := .pure, clArgs := true, clRes := true } Tryd.f59 = some c59 := by kernel_rfl
/- beaconry/beaconrylaw01.Name -/
def c60 : AFunc := ⟨44, [.tmp 2],
  .seq (.region [
    ⟨(some 2), .mv (.c (.str ⟨#[]⟩)), none, []⟩]) (
  .seq (.region [
    ⟨(some 6), .mv (.t 0), none, []⟩,
    ⟨(some 7), .mv (.t 0), none, []⟩,
    ⟨(some 8), .len true (.t 7), none, []⟩,
    ⟨(some 9), .min2 (.t 8) (.c (.int .i64 15)), none, []⟩,
    ⟨(some 10), .strSl (.t 6) none (some (.t 9)), none, []⟩,
    ⟨(some 11), .bin .add (.c (.str ⟨#[110]⟩)) (.t 10), none, []⟩,
    ⟨(some 12), .s2b (.t 11), none, []⟩,
    ⟨(some 3), .mv (.t 12), none, []⟩]) (
  .seq (.seq (.region [
    ⟨(some 4), .mv (.c (.int .i64 1)), none, []⟩]) (
  .block 0 (
    .loop (
      .seq (.seq (.region [
        ⟨(some 13), .mv (.t 4), none, []⟩,
        ⟨(some 14), .mv (.t 3), none, []⟩,
        ⟨(some 15), .len false (.t 14), none, []⟩,
        ⟨(some 16), .bin .lss (.t 13) (.t 15), none, []⟩]) (
      .cond (.t 16) (
        .skip) (
        .exit 0))) (
      .seq (.block 1 (
        .seq (.region [
          ⟨(some 19), .mv (.t 3), none, []⟩,
          ⟨(some 20), .mv (.t 4), none, []⟩,
          ⟨(some 21), .iaddrS 1 (.t 19) (.t 20), none, []⟩,
          ⟨(some 22), .load 1 false (.t 21), none, []⟩,
          ⟨(some 23), .bin .rem (.t 22) (.c (.int .u8 37)), none, []⟩,
          ⟨(some 5), .mv (.t 23), none, []⟩]) (
        .seq (.region [
          ⟨(some 24), .mv (.t 5), none, []⟩,
          ⟨(some 25), .bin .lss (.t 24) (.c (.int .u8 26)), none, []⟩]) (
        .cond (.t 25) (
          .region [
            ⟨(some 26), .mv (.t 3), none, []⟩,
            ⟨(some 27), .mv (.t 4), none, []⟩,
            ⟨(some 28), .mv (.t 5), none, []⟩,
            ⟨(some 29), .bin .add (.c (.int .u8 97)) (.t 28), none, []⟩,
            ⟨(some 30), .iaddrS 1 (.t 26) (.t 27), none, []⟩,
            ⟨none, .store 1 (.t 30) (.t 29), none, []⟩]) (
          .seq (.region [
            ⟨(some 31), .mv (.t 5), none, []⟩,
            ⟨(some 32), .bin .lss (.t 31) (.c (.int .u8 36)), none, []⟩]) (
          .cond (.t 32) (
            .region [
              ⟨(some 33), .mv (.t 3), none, []⟩,
              ⟨(some 34), .mv (.t 4), none, []⟩,
              ⟨(some 35), .mv (.t 5), none, []⟩,
              ⟨(some 36), .bin .add (.c (.int .u8 48)) (.t 35), none, []⟩,
              ⟨(some 37), .bin .sub (.t 36) (.c (.int .u8 26)), none, []⟩,
              ⟨(some 38), .iaddrS 1 (.t 33) (.t 34), none, []⟩,
              ⟨none, .store 1 (.t 38) (.t 37), none, []⟩]) (
            .region [
              ⟨(some 39), .mv (.t 3), none, []⟩,
              ⟨(some 40), .mv (.t 4), none, []⟩,
              ⟨(some 41), .iaddrS 1 (.t 39) (.t 40), none, []⟩,
              ⟨none, .store 1 (.t 41) (.c (.int .u8 95)), none, []⟩]))))))) (
      .region [
        ⟨(some 17), .mv (.t 4), none, []⟩,
        ⟨(some 18), .bin .add (.t 17) (.c (.int .i64 1)), none, []⟩,
        ⟨(some 4), .mv (.t 18), none, []⟩])))))) (
  .seq (.region [
    ⟨(some 42), .mv (.t 3), none, []⟩,
    ⟨(some 43), .b2s (.t 42), none, []⟩,
    ⟨(some 2), .mv (.t 43), none, []⟩]) (
  .ret)))),
  .pure, true, true⟩
theorem k60 : compF Tryd.prog { mt := false, mtAt := [], mode := .pure, clArgs := true, clRes := true } Tryd.f60 = some c60 := by kernel_rfl
/- beaconry/value.empty -/
def c61 : AFunc := ⟨22, [.tmp 2],
  .seq (.region [
    ⟨(some 1), .box (.t 0), none, []⟩,
    ⟨(some 2), .mv (.c (.bool false)), none, []⟩]) (
  .seq (.region [
    ⟨(some 3), .faddr 0 (.t 1), none, []⟩,
    ⟨(some 4), .load 1 false (.t 3), none, []⟩,
    ⟨(some 5), .bin .eql (.t 4) (.c (.int .i64 0)), none, []⟩,
    ⟨(some 6), .mv (.t 5), none, []⟩,
    ⟨(some 7), .faddr 1 (.t 1), (some (6, true)), []⟩,
    ⟨(some 8), .load 1 false (.t 7), (some (6, true)), []⟩,
    ⟨(some 9), .bin .eql (.t 8) (.c (.int .i64 0)), (some (6, true)), []⟩,
    ⟨(some 10), .pick (.t 6) (.t 9) (.c (.bool false)), none, []⟩,
    ⟨(some 11), .mv (.t 10), none, []⟩,
    ⟨(some 12), .faddr 2 (.t 1), (some (11, true)), []⟩,
    ⟨(some 13), .load 1 false (.t 12), (some (11, true)), []⟩,
    ⟨(some 14), .bin .eql (.t 13) (.c (.str ⟨#[]⟩)), (some (11, true)), []⟩,
    ⟨(some 15), .pick (.t 11) (.t 14) (.c (.bool false)), none, []⟩,
    ⟨(some 16), .mv (.t 15), none, []⟩,
    ⟨(some 17), .faddr 3 (.t 1), (some (16, true)), []⟩,
    ⟨(some 18), .load 1 false (.t 17), (some (16, true)), []⟩,
    ⟨(some 19), .len false (.t 18), (some (16, true)), []⟩,
    ⟨(some 20), .bin .eql (.t 19) (.c (.int .i64 0)), (some (16, true)), []⟩,
    ⟨(some 21), .pick (.t 16) (.t 20) (.c (.bool false)), none, []⟩,
    ⟨(some 2), .mv (.t 21), none, []⟩]) (
  .ret)),
  .pure, true, true⟩
theorem k61 : compF Tryd.prog { mt := false, mtAt := [], mode := .pure, clArgs := true, clRes := true } Tryd.f61 = some c61 := by kernel_rfl
/- beaconry/value.plain -/
def c62 : AFunc := ⟨27, [.tmp 2],
  .seq (.region [
    ⟨(some 2), .mv (.c (.bool false)), none, []⟩]) (
  .seq (.seq (.region [
    ⟨(some 5), .mv (.t 0), none, []⟩,
    ⟨(some 6), .rng (.t 5), none, []⟩]) (
  .block 0 (
    .loop (
      .seq (.region [
        ⟨(some 7), .nxt (.t 6), none, []⟩,
        ⟨(some 8), .extract 0 (.t 7), none, []⟩]) (
      .seq (.cond (.t 8) (
        .skip) (
        .exit 0)) (
      .block 1 (
        .seq (.region [
          ⟨(some 9), .extract 2 (.t 7), none, []⟩,
          ⟨(some 4), .mv (.t 9), none, []⟩]) (
        .seq (.region [
          ⟨(some 10), .mv (.t 4), none, []⟩,
          ⟨(some 11), .bin .lss (.t 10) (.c (.int .i32 32)), none, []⟩,
          ⟨(some 12), .mv (.t 11), none, []⟩,
          ⟨(some 13), .mv (.t 4), (some (12, false)), []⟩,
          ⟨(some 14), .bin .gtr (.t 13) (.c (.int .i32 126)), (some (12, false)), []⟩,
          ⟨(some 15), .pick (.t 12) (.c (.bool true)) (.t 14), none, []⟩,
          ⟨(some 16), .mv (.t 15), none, []⟩,
          ⟨(some 17), .mv (.t 4), (some (16, false)), []⟩,
          ⟨(some 18), .bin .eql (.t 17) (.c (.int .i32 34)), (some (16, false)), []⟩,
          ⟨(some 19), .pick (.t 16) (.c (.bool true)) (.t 18), none, []⟩,
          ⟨(some 20), .mv (.t 19), none, []⟩,
          ⟨(some 21), .mv (.t 4), (some (20, false)), []⟩,
          ⟨(some 22), .bin .eql (.t 21) (.c (.int .i32 92)), (some (20, false)), []⟩,
          ⟨(some 23), .pick (.t 20) (.c (.bool true)) (.t 22), none, []⟩]) (
        .cond (.t 23) (
          .seq (.region [
            ⟨(some 2), .mv (.c (.bool false)), none, []⟩]) (
          .ret)) (
          .skip)))))))))) (
  .seq (.region [
    ⟨(some 24), .mv (.t 0), none, []⟩,
    ⟨(some 25), .len true (.t 24), none, []⟩,
    ⟨(some 26), .bin .leq (.t 25) (.c (.int .i64 32)), none, []⟩,
    ⟨(some 2), .mv (.t 26), none, []⟩]) (
  .ret))),
  .pure, true, true⟩
theorem k62 : compF Tryd.prog { mt := false, mtAt := [], mode := .pure, clArgs := true, clRes := true } Tryd.f62 = some c62 := by kernel_rfl
/- beaconry/value.Name -/
def c63 : AFunc := ⟨43, [.tmp 2],
  .seq (.region [
    ⟨(some 2), .mv (.c (.bool false)), none, []⟩]) (
  .seq (.seq (.region [
    ⟨(some 6), .mv (.t 0), none, []⟩,
    ⟨(some 7), .rng (.t 6), none, []⟩]) (
  .block 0 (
    .loop (
      .seq (.region [
        ⟨(some 8), .nxt (.t 7), none, []⟩,
        ⟨(some 9), .extract 0 (.t 8), none, []⟩]) (
      .seq (.cond (.t 9) (
        .skip) (
        .exit 0)) (
      .block 1 (
        .seq (.region [
          ⟨(some 10), .extract 1 (.t 8), none, []⟩,
          ⟨(some 11), .extract 2 (.t 8), none, []⟩,
          ⟨(some 3), .mv (.t 10), none, []⟩,
          ⟨(some 4), .mv (.t 11), none, []⟩]) (
        .seq (.region [
          ⟨(some 12), .mv (.t 4), none, []⟩,
          ⟨(some 13), .bin .geq (.t 12) (.c (.int .i32 97)), none, []⟩,
          ⟨(some 14), .mv (.t 13), none, []⟩,
          ⟨(some 15), .mv (.t 4), (some (14, true)), []⟩,
          ⟨(some 16), .bin .leq (.t 15) (.c (.int .i32 122)), (some (14, true)), []⟩,
          ⟨(some 17), .pick (.t 14) (.t 16) (.c (.bool false)), none, []⟩,
          ⟨(some 5), .mv (.t 17), none, []⟩]) (
        .seq (.region [
          ⟨(some 18), .mv (.t 5), none, []⟩,
          ⟨(some 19), .un .not (.t 18), none, []⟩,
          ⟨(some 20), .mv (.t 19), none, []⟩,
          ⟨(some 21), .mv (.t 3), (some (20, true)), []⟩,
          ⟨(some 22), .bin .eql (.t 21) (.c (.int .i64 0)), (some (20, true)), []⟩,
          ⟨(some 23), .mv (.t 22), (some (20, true)), []⟩,
          ⟨(some 24), .mv (.t 4), (some (23, false)), []⟩,
          ⟨(some 25), .bin .neq (.t 24) (.c (.int .i32 95)), (some (23, false)), []⟩,
          ⟨(some 26), .mv (.t 25), (some (23, false)), []⟩,
          ⟨(some 27), .mv (.t 4), (some (26, true)), []⟩,
          ⟨(some 28), .bin .lss (.t 27) (.c (.int .i32 48)), (some (26, true)), []⟩,
          ⟨(some 29), .mv (.t 28), (some (26, true)), []⟩,
          ⟨(some 30), .mv (.t 4), (some (29, false)), []⟩,
          ⟨(some 31), .bin .gtr (.t 30) (.c (.int .i32 57)), (some (29, false)), []⟩,
          ⟨(some 32), .pick (.t 29) (.c (.bool true)) (.t 31), (some (26, true)), []⟩,
          ⟨(some 33), .pick (.t 26) (.t 32) (.c (.bool false)), (some (23, false)), []⟩,
          ⟨(some 34), .pick (.t 23) (.c (.bool true)) (.t 33), (some (20, true)), []⟩,
          ⟨(some 35), .pick (.t 20) (.t 34) (.c (.bool false)), none, []⟩]) (
        .cond (.t 35) (
          .seq (.region [
            ⟨(some 2), .mv (.c (.bool false)), none, []⟩]) (
          .ret)) (
          .skip))))))))))) (
  .seq (.region [
    ⟨(some 36), .mv (.t 0), none, []⟩,
    ⟨(some 37), .bin .neq (.t 36) (.c (.str ⟨#[]⟩)), none, []⟩,
    ⟨(some 38), .mv (.t 37), none, []⟩,
    ⟨(some 39), .mv (.t 0), (some (38, true)), []⟩,
    ⟨(some 40), .len true (.t 39), (some (38, true)), []⟩,
    ⟨(some 41), .bin .leq (.t 40) (.c (.int .i64 16)), (some (38, true)), []⟩,
    ⟨(some 42), .pick (.t 38) (.t 41) (.c (.bool false)), none, []⟩,
    ⟨(some 2), .mv (.t 42), none, []⟩]) (
  .ret))),
  .pure, true, true⟩
theorem k63 : compF Tryd.prog { mt := false, mtAt := [], mode := .pure, clArgs := true, clRes := true } Tryd.f63 = some c63 := by kernel_rfl
/- beaconry/value.right$1 -/
def c64 : AFunc := ⟨9, [.tmp 3],
  .seq (.region [
    ⟨(some 2), .box (.t 0), none, []⟩,
    ⟨(some 3), .mv (.c (.bool false)), none, []⟩]) (
  .seq (.region [
    ⟨(some 4), .load 4 true (.t 2), none, []⟩,
    ⟨(some 5), .load 1 false (.t 1), none, []⟩,
    ⟨(some 6), .bin .sub (.t 5) (.c (.int .i64 1)), none, []⟩,
    ⟨(some 7), .call 41 [.t 4, .t 6], none, []⟩,
    ⟨(some 8), .un .not (.t 7), none, []⟩,
    ⟨(some 3), .mv (.t 8), none, []⟩]) (
  .ret)),
  .pure, true, true⟩
theorem k64 : compF Tryd.prog { mt := false, mtAt := [], mode := .pure, clArgs := true, clRes := true } Tryd.f64 = some c64 := by kernel_rfl
/- 65 (*strings.Builder).WriteString: told elsewhere -/
/- 66 strconv.Itoa: told elsewhere -/
/- 67 (*strings.Builder).WriteByte: told elsewhere -/
/- slices.Concat[beaconry/builtin.elements,beaconry/api.Value] -/
def c68 : AFunc := ⟨36, [.tmp 2],
  .seq (.region [
    ⟨(some 2), .mv (.c (.isl [] true)), none, []⟩]) (
  .seq (.region [
    ⟨(some 3), .mv (.c (.int .i64 0)), none, []⟩]) (
  .seq (.seq (.region [
    ⟨(some 9), .mv (.t 0), none, []⟩,
    ⟨(some 10), .len false (.t 9), none, []⟩,
    ⟨(some 11), .mv (.c (.int .i64 0)), none, []⟩]) (
  .block 0 (
    .loop (
      .seq (.region [
        ⟨(some 12), .bin .lss (.t 11) (.t 10), none, []⟩]) (
      .seq (.cond (.t 12) (
        .skip) (
        .exit 0)) (
      .seq (.block 1 (
        .seq (.region [
          ⟨(some 13), .iaddrS 1 (.t 9) (.t 11), none, []⟩,
          ⟨(some 14), .load 1 false (.t 13), none, []⟩,
          ⟨(some 5), .mv (.t 14), none, []⟩]) (
        .seq (.region [
          ⟨(some 15), .mv (.t 3), none, []⟩,
          ⟨(some 16), .mv (.t 5), none, []⟩,
          ⟨(some 17), .len false (.t 16), none, []⟩,
          ⟨(some 18), .bin .add (.t 15) (.t 17), none, []⟩,
          ⟨(some 3), .mv (.t 18), none, []⟩]) (
        .seq (.region [
          ⟨(some 19), .mv (.t 3), none, []⟩,
          ⟨(some 20), .bin .lss (.t 19) (.c (.int .i64 0)), none, []⟩]) (
        .cond (.t 20) (
          .cond (.c (.nilptr)) (
            .skip) (
            .skip)) (
          .skip)))))) (
      .region [
        ⟨(some 22), .bin .add (.t 11) (.c (.int .i64 1)), none, []⟩,
        ⟨(some 11), .mv (.t 22), none, []⟩]))))))) (
  .seq (.region [
    ⟨(some 23), .mv (.t 3), none, []⟩,
    ⟨(some 24), .call 78 [.c (.isl [] true), .t 23], none, []⟩,
    ⟨(some 6), .mv (.t 24), none, []⟩]) (
  .seq (.seq (.region [
    ⟨(some 25), .mv (.t 0), none, []⟩,
    ⟨(some 26), .len false (.t 25), none, []⟩,
    ⟨(some 27), .mv (.c (.int .i64 0)), none, []⟩]) (
  .block 2 (
    .loop (
      .seq (.region [
        ⟨(some 28), .bin .lss (.t 27) (.t 26), none, []⟩]) (
      .seq (.cond (.t 28) (
        .skip) (
        .exit 2)) (
      .seq (.block 3 (
        .seq (.region [
          ⟨(some 29), .iaddrS 1 (.t 25) (.t 27), none, []⟩,
          ⟨(some 30), .load 1 false (.t 29), none, []⟩,
          ⟨(some 8), .mv (.t 30), none, []⟩]) (
        .region [
          ⟨(some 31), .mv (.t 6), none, []⟩,
          ⟨(some 32), .mv (.t 8), none, []⟩,
          ⟨(some 33), .append 4 true 56 false (.t 31) (.t 32), none, []⟩,
          ⟨(some 6), .mv (.t 33), none, []⟩]))) (
      .region [
        ⟨(some 34), .bin .add (.t 27) (.c (.int .i64 1)), none, []⟩,
        ⟨(some 27), .mv (.t 34), none, []⟩]))))))) (
  .seq (.region [
    ⟨(some 35), .mv (.t 6), none, []⟩,
    ⟨(some 2), .mv (.t 35), none, []⟩]) (
  .ret)))))),
  .pure, true, true⟩
theorem k68 : compF Tryd.prog { mt := false, mtAt := [], mode := .pure, clArgs := true, clRes := true } Tryd.f68 = some c68 := by kernel_rfl
/- slices.ContainsFunc[beaconry/builtin.elements,beaconry/api.Value] -/
def c69 : AFunc := ⟨9, [.tmp 4],
  .seq (.region [
    ⟨(some 4), .mv (.c (.bool false)), none, []⟩]) (
  .seq (.region [
    ⟨(some 5), .mv (.t 0), none, []⟩,
    ⟨(some 6), .mv (.t 1), none, []⟩,
    ⟨(some 7), .call 79 [.t 5, .t 6], none, []⟩,
    ⟨(some 8), .bin .geq (.t 7) (.c (.int .i64 0)), none, []⟩,
    ⟨(some 4), .mv (.t 8), none, []⟩]) (
  .ret)),
  .pure, true, true⟩
theorem k69 : compF Tryd.prog { mt := false, mtAt := [], mode := .pure, clArgs := true, clRes := true } Tryd.f69 = some c69 := by kernel_rfl
/- beaconry/builtin.member$1 -/
def c70 : AFunc := ⟨10, [.tmp 3],
  .seq (.region [
    ⟨(some 2), .box (.t 0), none, []⟩,
    ⟨(some 3), .mv (.c (.bool false)), none, []⟩]) (
  .seq (.region [
    ⟨(some 4), .load 4 true (.t 2), none, []⟩,
    ⟨(some 5), .load 1 false (.t 1), none, []⟩,
    ⟨(some 6), .iaddrS 4 (.t 5) (.c (.int .i64 1)), none, []⟩,
    ⟨(some 7), .load 4 true (.t 6), none, []⟩,
    ⟨(some 8), .call 39 [.t 4, .t 7], none, []⟩,
    ⟨(some 9), .bin .eql (.t 8) (.c (.int .i64 0)), none, []⟩,
    ⟨(some 3), .mv (.t 9), none, []⟩]) (
  .ret)),
  .pure, true, true⟩
theorem k70 : compF Tryd.prog { mt := false, mtAt := [], mode := .pure, clArgs := true, clRes := true } Tryd.f70 = some c70 := by kernel_rfl
/- beaconry/builtin.end$1 -/
def c71 : AFunc := ⟨23, [.cell 5 4 true, .tmp 6],
  .seq (.region [
    ⟨(some 5), .alloc [.int .i64 0, .int .i64 0, .str ⟨#[]⟩, .isl [] true], none, []⟩,
    ⟨(some 6), .mv (.c (.bool false)), none, []⟩]) (
  .seq (.block 0 (
    .seq (.region [
      ⟨(some 8), .mv (.t 0), none, []⟩,
      ⟨(some 9), .len false (.t 8), none, []⟩,
      ⟨(some 10), .bin .eql (.t 9) (.c (.int .i64 0)), none, []⟩,
      ⟨(some 7), .mv (.t 10), none, []⟩]) (
    .cond (.t 7) (
      .seq (.region [
        ⟨(some 11), .build [.int .i64 0, .int .i64 0, .str ⟨#[]⟩, .isl [] true] [], none, []⟩,
        ⟨none, .store 4 (.t 5) (.t 11), none, []⟩,
        ⟨(some 6), .mv (.c (.bool false)), none, []⟩]) (
      .ret)) (
      .seq (.region [
        ⟨(some 13), .load 1 false (.t 2), none, []⟩,
        ⟨(some 12), .mv (.t 13), none, []⟩]) (
      .cond (.t 12) (
        .seq (.region [
          ⟨(some 14), .mv (.t 0), none, []⟩,
          ⟨(some 15), .mv (.t 0), none, []⟩,
          ⟨(some 16), .len false (.t 15), none, []⟩,
          ⟨(some 17), .bin .sub (.t 16) (.c (.int .i64 1)), none, []⟩,
          ⟨(some 18), .iaddrS 4 (.t 14) (.t 17), none, []⟩,
          ⟨(some 19), .load 4 true (.t 18), none, []⟩,
          ⟨none, .store 4 (.t 5) (.t 19), none, []⟩,
          ⟨(some 6), .mv (.c (.bool true)), none, []⟩]) (
        .ret)) (
        .skip)))))) (
  .seq (.region [
    ⟨(some 20), .mv (.t 0), none, []⟩,
    ⟨(some 21), .iaddrS 4 (.t 20) (.c (.int .i64 0)), none, []⟩,
    ⟨(some 22), .load 4 true (.t 21), none, []⟩,
    ⟨none, .store 4 (.t 5) (.t 22), none, []⟩,
    ⟨(some 6), .mv (.c (.bool true)), none, []⟩]) (
  .ret))),
  .pure, true, true⟩
theorem k71 : compF Tryd.prog { mt := false, mtAt := [], mode := .pure, clArgs := true, clRes := true } Tryd.f71 = some c71 := by kernel_rfl
/- slices.Reverse[[]beaconry/api.Value,beaconry/api.Value] -/
def c72 : AFunc := ⟨28, [],
  .seq (.region [
    ⟨(some 4), .mv (.t 0), none, []⟩,
    ⟨(some 5), .len false (.t 4), none, []⟩,
    ⟨(some 6), .bin .sub (.t 5) (.c (.int .i64 1)), none, []⟩,
    ⟨(some 2), .mv (.c (.int .i64 0)), none, []⟩,
    ⟨(some 3), .mv (.t 6), none, []⟩]) (
  .block 0 (
    .loop (
      .seq (.seq (.region [
        ⟨(some 7), .mv (.t 2), none, []⟩,
        ⟨(some 8), .mv (.t 3), none, []⟩,
        ⟨(some 9), .bin .lss (.t 7) (.t 8), none, []⟩]) (
      .cond (.t 9) (
        .skip) (
        .exit 0))) (
      .seq (.block 1 (
        .region [
          ⟨(some 14), .mv (.t 0), none, []⟩,
          ⟨(some 15), .mv (.t 2), none, []⟩,
          ⟨(some 16), .mv (.t 0), none, []⟩,
          ⟨(some 17), .mv (.t 3), none, []⟩,
          ⟨(some 18), .mv (.t 0), none, []⟩,
          ⟨(some 19), .mv (.t 3), none, []⟩,
          ⟨(some 20), .iaddrS 4 (.t 18) (.t 19), none, []⟩,
          ⟨(some 21), .load 4 true (.t 20), none, []⟩,
          ⟨(some 22), .mv (.t 0), none, []⟩,
          ⟨(some 23), .mv (.t 2), none, []⟩,
          ⟨(some 24), .iaddrS 4 (.t 22) (.t 23), none, []⟩,
          ⟨(some 25), .load 4 true (.t 24), none, []⟩,
          ⟨(some 26), .iaddrS 4 (.t 14) (.t 15), none, []⟩,
          ⟨none, .store 4 (.t 26) (.t 21), none, []⟩,
          ⟨(some 27), .iaddrS 4 (.t 16) (.t 17), none, []⟩,
          ⟨none, .store 4 (.t 27) (.t 25), none, []⟩])) (
      .region [
        ⟨(some 10), .mv (.t 2), none, []⟩,
        ⟨(some 11), .bin .add (.t 10) (.c (.int .i64 1)), none, []⟩,
        ⟨(some 12), .mv (.t 3), none, []⟩,
        ⟨(some 13), .bin .sub (.t 12) (.c (.int .i64 1)), none, []⟩,
        ⟨(some 2), .mv (.t 11), none, []⟩,
        ⟨(some 3), .mv (.t 13), none, []⟩]))))),
  .raw, false, false⟩
theorem k72 : compF Tryd.prog { mt := false, mtAt := [], mode := .raw, clArgs := false, clRes := false } Tryd.f72 = some c72 := by kernel_rfl
/- beaconry/beaconryref01.Name -/
def c73 : AFunc := ⟨51, [.tmp 2],
  .seq (.region [
    ⟨(some 2), .mv (.c (.bool false)), none, []⟩]) (
  .seq (.seq (.region [
    ⟨(some 5), .mv (.t 0), none, []⟩,
    ⟨(some 6), .len true (.t 5), none, []⟩,
    ⟨(some 7), .bin .lss (.t 6) (.c (.int .i64 1)), none, []⟩,
    ⟨(some 8), .mv (.t 7), none, []⟩,
    ⟨(some 9), .mv (.t 0), (some (8, false)), []⟩,
    ⟨(some 10), .len true (.t 9), (some (8, false)), []⟩,
    ⟨(some 11), .bin .gtr (.t 10) (.c (.int .i64 16)), (some (8, false)), []⟩,
    ⟨(some 12), .pick (.t 8) (.c (.bool true)) (.t 11), none, []⟩,
    ⟨(some 13), .mv (.t 12), none, []⟩,
    ⟨(some 14), .mv (.t 0), (some (13, false)), []⟩,
    ⟨(some 15), .idxStr (.t 14) (.c (.int .i64 0)), (some (13, false)), []⟩,
    ⟨(some 16), .bin .lss (.t 15) (.c (.int .u8 97)), (some (13, false)), []⟩,
    ⟨(some 17), .pick (.t 13) (.c (.bool true)) (.t 16), none, []⟩,
    ⟨(some 18), .mv (.t 17), none, []⟩,
    ⟨(some 19), .mv (.t 0), (some (18, false)), []⟩,
    ⟨(some 20), .idxStr (.t 19) (.c (.int .i64 0)), (some (18, false)), []⟩,
    ⟨(some 21), .bin .gtr (.t 20) (.c (.int .u8 122)), (some (18, false)), []⟩,
    ⟨(some 22), .pick (.t 18) (.c (.bool true)) (.t 21), none, []⟩]) (
  .cond (.t 22) (
    .seq (.region [
      ⟨(some 2), .mv (.c (.bool false)), none, []⟩]) (
    .ret)) (
    .skip))) (
  .seq (.seq (.region [
    ⟨(some 3), .mv (.c (.int .i64 1)), none, []⟩]) (
  .block 0 (
    .loop (
      .seq (.seq (.region [
        ⟨(some 23), .mv (.t 3), none, []⟩,
        ⟨(some 24), .mv (.t 0), none, []⟩,
        ⟨(some 25), .len true (.t 24), none, []⟩,
        ⟨(some 26), .bin .lss (.t 23) (.t 25), none, []⟩]) (
      .cond (.t 26) (
        .skip) (
        .exit 0))) (
      .seq (.block 1 (
        .seq (.region [
          ⟨(some 29), .mv (.t 0), none, []⟩,
          ⟨(some 30), .mv (.t 3), none, []⟩,
          ⟨(some 31), .idxStr (.t 29) (.t 30), none, []⟩,
          ⟨(some 4), .mv (.t 31), none, []⟩]) (
        .seq (.region [
          ⟨(some 32), .mv (.t 4), none, []⟩,
          ⟨(some 33), .bin .geq (.t 32) (.c (.int .u8 97)), none, []⟩,
          ⟨(some 34), .mv (.t 33), none, []⟩,
          ⟨(some 35), .mv (.t 4), (some (34, true)), []⟩,
          ⟨(some 36), .bin .leq (.t 35) (.c (.int .u8 122)), (some (34, true)), []⟩,
          ⟨(some 37), .pick (.t 34) (.t 36) (.c (.bool false)), none, []⟩,
          ⟨(some 38), .mv (.t 37), none, []⟩,
          ⟨(some 39), .mv (.t 4), (some (38, false)), []⟩,
          ⟨(some 40), .bin .geq (.t 39) (.c (.int .u8 48)), (some (38, false)), []⟩,
          ⟨(some 41), .mv (.t 40), (some (38, false)), []⟩,
          ⟨(some 42), .mv (.t 4), (some (41, true)), []⟩,
          ⟨(some 43), .bin .leq (.t 42) (.c (.int .u8 57)), (some (41, true)), []⟩,
          ⟨(some 44), .pick (.t 41) (.t 43) (.c (.bool false)), (some (38, false)), []⟩,
          ⟨(some 45), .pick (.t 38) (.c (.bool true)) (.t 44), none, []⟩,
          ⟨(some 46), .mv (.t 45), none, []⟩,
          ⟨(some 47), .mv (.t 4), (some (46, false)), []⟩,
          ⟨(some 48), .bin .eql (.t 47) (.c (.int .u8 95)), (some (46, false)), []⟩,
          ⟨(some 49), .pick (.t 46) (.c (.bool true)) (.t 48), none, []⟩,
          ⟨(some 50), .un .not (.t 49), none, []⟩]) (
        .cond (.t 50) (
          .seq (.region [
            ⟨(some 2), .mv (.c (.bool false)), none, []⟩]) (
          .ret)) (
          .skip))))) (
      .region [
        ⟨(some 27), .mv (.t 3), none, []⟩,
        ⟨(some 28), .bin .add (.t 27) (.c (.int .i64 1)), none, []⟩,
        ⟨(some 3), .mv (.t 28), none, []⟩])))))) (
  .seq (.region [
    ⟨(some 2), .mv (.c (.bool true)), none, []⟩]) (
  .ret)))),
  .pure, true, true⟩
theorem k73 : compF Tryd.prog { mt := false, mtAt := [], mode := .pure, clArgs := true, clRes := true } Tryd.f73 = some c73 := by kernel_rfl
/- cmp.isNaN[int] -/
def c74 : AFunc := ⟨6, [.tmp 2],
  .seq (.region [
    ⟨(some 2), .mv (.c (.bool false)), none, []⟩]) (
  .seq (.region [
    ⟨(some 3), .mv (.t 0), none, []⟩,
    ⟨(some 4), .mv (.t 0), none, []⟩,
    ⟨(some 5), .bin .neq (.t 3) (.t 4), none, []⟩,
    ⟨(some 2), .mv (.t 5), none, []⟩]) (
  .ret)),
  .pure, true, true⟩
theorem k74 : compF Tryd.prog { mt := false, mtAt := [], mode := .pure, clArgs := true, clRes := true } Tryd.f74 = some c74 := by kernel_rfl
/- 75 internal/bytealg.CompareString: told elsewhere -/
/- 78 slices.Grow[beaconry/builtin.elements,beaconry/api.Value]: told elsewhere -/
/- slices.IndexFunc[beaconry/builtin.elements,beaconry/api.Value] -/
def c79 : AFunc := ⟨19, [.tmp 4],
  .seq (.region [
    ⟨(some 4), .mv (.c (.int .i64 0)), none, []⟩]) (
  .seq (.seq (.region [
    ⟨(some 6), .mv (.t 0), none, []⟩,
    ⟨(some 7), .len false (.t 6), none, []⟩,
    ⟨(some 8), .mv (.c (.int .i64 0)), none, []⟩]) (
  .block 0 (
    .loop (
      .seq (.region [
        ⟨(some 9), .bin .lss (.t 8) (.t 7), none, []⟩]) (
      .seq (.cond (.t 9) (
        .skip) (
        .exit 0)) (
      .seq (.block 1 (
        .seq (.region [
          ⟨(some 10), .mv (.t 8), none, []⟩,
          ⟨(some 5), .mv (.t 10), none, []⟩]) (
        .seq (.region [
          ⟨(some 11), .mv (.t 1), none, []⟩,
          ⟨(some 12), .mv (.t 0), none, []⟩,
          ⟨(some 13), .mv (.t 5), none, []⟩,
          ⟨(some 14), .iaddrS 4 (.t 12) (.t 13), none, []⟩,
          ⟨(some 15), .load 4 true (.t 14), none, []⟩,
          ⟨(some 16), .callv (.t 11) [.t 15], none, []⟩]) (
        .cond (.t 16) (
          .seq (.region [
            ⟨(some 17), .mv (.t 5), none, []⟩,
            ⟨(some 4), .mv (.t 17), none, []⟩]) (
          .ret)) (
          .skip))))) (
      .region [
        ⟨(some 18), .bin .add (.t 8) (.c (.int .i64 1)), none, []⟩,
        ⟨(some 8), .mv (.t 18), none, []⟩]))))))) (
  .seq (.region [
    ⟨(some 4), .mv (.c (.int .i64 (-1))), none, []⟩]) (
  .ret))),
  .pure, true, true⟩
theorem k79 : compF Tryd.prog { mt := false, mtAt := [], mode := .pure, clArgs := true, clRes := true } Tryd.f79 = some c79 := by kernel_rfl
/- slices.Clone[[]beaconry/api.Value,beaconry/api.Value] -/
def x42 : AFunc := ⟨8, [.tmp 2],
  .seq (.region [
    ⟨(some 2), .mv (.c (.isl [] true)), none, []⟩]) (
  .seq (.seq (.region [
    ⟨(some 3), .mv (.t 0), none, []⟩,
    ⟨(some 4), .eqnil false (.t 3), none, []⟩]) (
  .cond (.t 4) (
    .seq (.region [
      ⟨(some 2), .mv (.c (.isl [] true)), none, []⟩]) (
    .ret)) (
    .skip))) (
  .seq (.region [
    ⟨(some 5), .buildSl 0 4 true [] [], none, []⟩,
    ⟨(some 6), .mv (.t 0), none, []⟩,
    ⟨(some 7), .append 4 true 56 true (.t 5) (.t 6), none, []⟩,
    ⟨(some 2), .mv (.t 7), none, []⟩]) (
  .ret))),
  .raw, false, false⟩
theorem kx42 : compF Tryd.prog { mt := true, mtAt := [], mode := .raw, clArgs := false, clRes := false } Tryd.f42 = some x42 := by kernel_rfl
def fns : List (Nat × AFunc) := [(3, c3), (4, c4), (5, c5), (6, c6), (7, c7), (8, c8), (9, c9), (10, c10), (11, c11), (12, c12), (13, c13), (14, c14), (15, c15), (16, c16), (17, c17), (18, c18), (19, c19), (20, c20), (21, c21), (22, c22), (23, c23), (24, c24), (25, c25), (26, c26), (27, c27), (28, c28), (29, c29), (30, c30), (31, c31), (32, c32), (33, c33), (34, c34), (35, c35), (36, c36), (37, c37), (38, c38), (39, c39), (40, c40), (41, c41), (43, c43), (45, c45), (46, c46), (47, c47), (48, c48), (49, c49), (50, c50), (51, c51), (52, c52), (53, c53), (54, c54), (55, c55), (56, c56), (57, c57), (58, c58), (59, c59), (60, c60), (61, c61), (62, c62), (63, c63), (64, c64), (68, c68), (69, c69), (70, c70), (71, c71), (72, c72), (73, c73), (74, c74), (79, c79)]
theorem fns_ok : ∀ p ∈ fns, ∃ fn pol, Tryd.prog.funcs[p.1]? = some fn ∧ compF Tryd.prog pol fn = some p.2 := by
  simp only [fns, List.forall_mem_cons]
  exact ⟨⟨_, _, Tryd.func3, k3⟩, ⟨_, _, Tryd.func4, k4⟩, ⟨_, _, Tryd.func5, k5⟩, ⟨_, _, Tryd.func6, k6⟩, ⟨_, _, Tryd.func7, k7⟩, ⟨_, _, Tryd.func8, k8⟩, ⟨_, _, Tryd.func9, k9⟩, ⟨_, _, Tryd.func10, k10⟩, ⟨_, _, Tryd.func11, k11⟩, ⟨_, _, Tryd.func12, k12⟩, ⟨_, _, Tryd.func13, k13⟩, ⟨_, _, Tryd.func14, k14⟩, ⟨_, _, Tryd.func15, k15⟩, ⟨_, _, Tryd.func16, k16⟩, ⟨_, _, Tryd.func17, k17⟩, ⟨_, _, Tryd.func18, k18⟩, ⟨_, _, Tryd.func19, k19⟩, ⟨_, _, Tryd.func20, k20⟩, ⟨_, _, Tryd.func21, k21⟩, ⟨_, _, Tryd.func22, k22⟩, ⟨_, _, Tryd.func23, k23⟩, ⟨_, _, Tryd.func24, k24⟩, ⟨_, _, Tryd.func25, k25⟩, ⟨_, _, Tryd.func26, k26⟩, ⟨_, _, Tryd.func27, k27⟩, ⟨_, _, Tryd.func28, k28⟩, ⟨_, _, Tryd.func29, k29⟩, ⟨_, _, Tryd.func30, k30⟩, ⟨_, _, Tryd.func31, k31⟩, ⟨_, _, Tryd.func32, k32⟩, ⟨_, _, Tryd.func33, k33⟩, ⟨_, _, Tryd.func34, k34⟩, ⟨_, _, Tryd.func35, k35⟩, ⟨_, _, Tryd.func36, k36⟩, ⟨_, _, Tryd.func37, k37⟩, ⟨_, _, Tryd.func38, k38⟩, ⟨_, _, Tryd.func39, k39⟩, ⟨_, _, Tryd.func40, k40⟩, ⟨_, _, Tryd.func41, k41⟩, ⟨_, _, Tryd.func43, k43⟩, ⟨_, _, Tryd.func45, k45⟩, ⟨_, _, Tryd.func46, k46⟩, ⟨_, _, Tryd.func47, k47⟩, ⟨_, _, Tryd.func48, k48⟩, ⟨_, _, Tryd.func49, k49⟩, ⟨_, _, Tryd.func50, k50⟩, ⟨_, _, Tryd.func51, k51⟩, ⟨_, _, Tryd.func52, k52⟩, ⟨_, _, Tryd.func53, k53⟩, ⟨_, _, Tryd.func54, k54⟩, ⟨_, _, Tryd.func55, k55⟩, ⟨_, _, Tryd.func56, k56⟩, ⟨_, _, Tryd.func57, k57⟩, ⟨_, _, Tryd.func58, k58⟩, ⟨_, _, Tryd.func59, k59⟩, ⟨_, _, Tryd.func60, k60⟩, ⟨_, _, Tryd.func61, k61⟩, ⟨_, _, Tryd.func62, k62⟩, ⟨_, _, Tryd.func63, k63⟩, ⟨_, _, Tryd.func64, k64⟩, ⟨_, _, Tryd.func68, k68⟩, ⟨_, _, Tryd.func69, k69⟩, ⟨_, _, Tryd.func70, k70⟩, ⟨_, _, Tryd.func71, k71⟩, ⟨_, _, Tryd.func72, k72⟩, ⟨_, _, Tryd.func73, k73⟩, ⟨_, _, Tryd.func74, k74⟩, ⟨_, _, Tryd.func79, k79⟩, fun _ h => by cases h⟩
end Go.Proofs.YtamapcjhinalfaaDoor
end
