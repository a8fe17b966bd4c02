/- The functions' codes, resolved: each is what the compiler makes of the given function (kernel-checked). -/
import Derived.Test.YtkempedphjopmaaChecked
import Derived.Test.YtkempedphjopmaaMachAD
import Derived.KernelRfl
namespace Go.Proofs.Ytkempedphjopmaa
open Go.Mach
/- beaconry/beaconrylaw15.FrameSums -/
def c3 : AFunc := ⟨68, [.tmp 8],
  .seq (.region [
    ⟨(some 8), .mv (.c (.bool false)), none, []⟩]) (
  .seq (.region [
    ⟨(some 14), .call 10 [], none, []⟩,
    ⟨(some 9), .mv (.t 14), none, []⟩]) (
  .seq (.region [
    ⟨(some 15), .mv (.t 0), none, []⟩,
    ⟨(some 16), .call 11 [.t 15], none, []⟩,
    ⟨(some 17), .conv .u64 (.t 16), none, []⟩,
    ⟨(some 10), .mv (.t 17), none, []⟩]) (
  .seq (.seq (.region [
    ⟨(some 11), .mv (.c (.int .i64 0)), none, []⟩]) (
  .block 0 (
    .loop (
      .seq (.seq (.region [
        ⟨(some 18), .mv (.t 11), none, []⟩,
        ⟨(some 19), .mv (.t 1), none, []⟩,
        ⟨(some 20), .len true (.t 19), none, []⟩,
        ⟨(some 21), .bin .lss (.t 18) (.t 20), none, []⟩]) (
      .cond (.t 21) (
        .skip) (
        .exit 0))) (
      .seq (.block 1 (
        .region [
          ⟨(some 24), .mv (.t 10), none, []⟩,
          ⟨(some 25), .mv (.t 1), none, []⟩,
          ⟨(some 26), .mv (.t 11), none, []⟩,
          ⟨(some 27), .idxStr (.t 25) (.t 26), none, []⟩,
          ⟨(some 28), .conv .u64 (.t 27), none, []⟩,
          ⟨(some 29), .bin .xor (.t 24) (.t 28), none, []⟩,
          ⟨(some 30), .bin .mul (.t 29) (.c (.int .u64 16777619)), none, []⟩,
          ⟨(some 31), .bin .rem (.t 30) (.c (.int .u64 4294967296)), none, []⟩,
          ⟨(some 10), .mv (.t 31), none, []⟩])) (
      .region [
        ⟨(some 22), .mv (.t 11), none, []⟩,
        ⟨(some 23), .bin .add (.t 22) (.c (.int .i64 1)), none, []⟩,
        ⟨(some 11), .mv (.t 23), none, []⟩])))))) (
  .seq (.seq (.region [
    ⟨(some 32), .mv (.t 0), none, []⟩,
    ⟨(some 33), .mv (.t 1), none, []⟩,
    ⟨(some 34), .bin .add (.t 32) (.t 33), none, []⟩,
    ⟨(some 35), .call 11 [.t 34], none, []⟩,
    ⟨(some 36), .conv .u64 (.t 35), none, []⟩,
    ⟨(some 37), .mv (.t 10), none, []⟩,
    ⟨(some 38), .bin .neq (.t 36) (.t 37), none, []⟩]) (
  .cond (.t 38) (
    .seq (.region [
      ⟨(some 8), .mv (.c (.bool false)), none, []⟩]) (
    .ret)) (
    .skip))) (
  .seq (.seq (.region [
    ⟨(some 39), .mv (.t 0), none, []⟩,
    ⟨(some 40), .bin .eql (.t 39) (.c (.str ⟨#[]⟩)), none, []⟩]) (
  .cond (.t 40) (
    .seq (.region [
      ⟨(some 41), .mv (.t 9), none, []⟩,
      ⟨(some 8), .mv (.t 41), none, []⟩]) (
    .ret)) (
    .skip))) (
  .seq (.region [
    ⟨(some 42), .mv (.t 0), none, []⟩,
    ⟨(some 43), .s2b (.t 42), none, []⟩,
    ⟨(some 12), .mv (.t 43), none, []⟩]) (
  .seq (.region [
    ⟨(some 44), .mv (.t 2), none, []⟩,
    ⟨(some 45), .mv (.t 12), none, []⟩,
    ⟨(some 46), .len false (.t 45), none, []⟩,
    ⟨(some 47), .call 12 [.t 44, .t 46], none, []⟩,
    ⟨(some 13), .mv (.t 47), none, []⟩]) (
  .seq (.region [
    ⟨(some 48), .mv (.t 12), none, []⟩,
    ⟨(some 49), .mv (.t 13), none, []⟩,
    ⟨(some 50), .mv (.t 12), none, []⟩,
    ⟨(some 51), .mv (.t 13), none, []⟩,
    ⟨(some 52), .iaddrS 1 (.t 50) (.t 51), none, []⟩,
    ⟨(some 53), .load 1 false (.t 52), none, []⟩,
    ⟨(some 54), .mv (.t 3), none, []⟩,
    ⟨(some 55), .bin .rem (.t 54) (.c (.int .u8 255)), none, []⟩,
    ⟨(some 56), .bin .add (.c (.int .u8 1)) (.t 55), none, []⟩,
    ⟨(some 57), .bin .xor (.t 53) (.t 56), none, []⟩,
    ⟨(some 58), .iaddrS 1 (.t 48) (.t 49), none, []⟩,
    ⟨none, .store 1 (.t 58) (.t 57), none, []⟩]) (
  .seq (.region [
    ⟨(some 59), .mv (.t 9), none, []⟩,
    ⟨(some 60), .mv (.t 59), none, []⟩,
    ⟨(some 61), .mv (.t 12), (some (60, true)), []⟩,
    ⟨(some 62), .b2s (.t 61), (some (60, true)), []⟩,
    ⟨(some 63), .call 11 [.t 62], (some (60, true)), []⟩,
    ⟨(some 64), .mv (.t 0), (some (60, true)), []⟩,
    ⟨(some 65), .call 11 [.t 64], (some (60, true)), []⟩,
    ⟨(some 66), .bin .neq (.t 63) (.t 65), (some (60, true)), []⟩,
    ⟨(some 67), .pick (.t 60) (.t 66) (.c (.bool false)), none, []⟩,
    ⟨(some 8), .mv (.t 67), none, []⟩]) (
  .ret)))))))))),
  .pure, true, true⟩
theorem k3 : compF Try.prog { mt := false, mode := .pure, clArgs := true, clRes := true } Try.f3 = some c3 := by kernel_rfl
/- beaconry/beaconrylaw15.awake -/
def c10 : AFunc := ⟨62, [.tmp 0],
  .seq (.region [
    ⟨(some 0), .mv (.c (.bool false)), none, []⟩]) (
  .seq (.region [
    ⟨(some 10), .build [.str ⟨#[]⟩, .str ⟨#[]⟩, .int .i64 0, .int .i64 0, .isl [] true] [(0, 1, .c (.str ⟨#[97]⟩)), (1, 1, .c (.str ⟨#[98]⟩)), (2, 1, .c (.int .i64 1)), (3, 1, .c (.int .i64 2))], none, []⟩,
    ⟨(some 1), .alloc [.str ⟨#[]⟩, .str ⟨#[]⟩, .int .i64 0, .int .i64 0, .isl [] true], none, []⟩,
    ⟨none, .store 5 (.t 1) (.t 10), none, []⟩]) (
  .seq (.region [
    ⟨(some 12), .load 5 true (.t 1), none, []⟩,
    ⟨(some 13), .call 13 [.t 12], none, []⟩,
    ⟨(some 11), .mv (.t 13), none, []⟩,
    ⟨(some 14), .extract 0 (.t 11), none, []⟩,
    ⟨(some 15), .extract 1 (.t 11), none, []⟩,
    ⟨(some 2), .mv (.t 14), none, []⟩,
    ⟨(some 3), .mv (.t 15), none, []⟩]) (
  .seq (.region [
    ⟨(some 17), .mv (.t 2), none, []⟩,
    ⟨(some 18), .call 17 [.t 17], none, []⟩,
    ⟨(some 16), .mv (.t 18), none, []⟩,
    ⟨(some 19), .extract 0 (.t 16), none, []⟩,
    ⟨(some 20), .extract 1 (.t 16), none, []⟩,
    ⟨(some 4), .alloc [.str ⟨#[]⟩, .str ⟨#[]⟩, .int .i64 0, .int .i64 0, .isl [] true], none, []⟩,
    ⟨none, .store 5 (.t 4) (.t 19), none, []⟩,
    ⟨(some 5), .mv (.t 20), none, []⟩]) (
  .seq (.region [
    ⟨(some 22), .build [.str ⟨#[]⟩, .str ⟨#[]⟩, .int .i64 0, .int .i64 0, .isl [] true] [(0, 1, .c (.str ⟨#[97]⟩)), (1, 1, .c (.str ⟨#[97]⟩))], none, []⟩,
    ⟨(some 23), .call 13 [.t 22], none, []⟩,
    ⟨(some 21), .mv (.t 23), none, []⟩,
    ⟨(some 24), .extract 0 (.t 21), none, []⟩,
    ⟨(some 25), .extract 1 (.t 21), none, []⟩,
    ⟨(some 6), .mv (.t 24), none, []⟩,
    ⟨(some 7), .mv (.t 25), none, []⟩]) (
  .seq (.region [
    ⟨(some 27), .call 17 [.c (.str ⟨#[]⟩)], none, []⟩,
    ⟨(some 26), .mv (.t 27), none, []⟩,
    ⟨(some 28), .extract 0 (.t 26), none, []⟩,
    ⟨(some 29), .extract 1 (.t 26), none, []⟩,
    ⟨(some 8), .alloc [.str ⟨#[]⟩, .str ⟨#[]⟩, .int .i64 0, .int .i64 0, .isl [] true], none, []⟩,
    ⟨none, .store 5 (.t 8) (.t 28), none, []⟩,
    ⟨(some 9), .mv (.t 29), none, []⟩]) (
  .seq (.region [
    ⟨(some 30), .call 11 [.c (.str ⟨#[]⟩)], none, []⟩,
    ⟨(some 31), .bin .eql (.t 30) (.c (.int .u32 2166136261)), none, []⟩,
    ⟨(some 32), .mv (.t 31), none, []⟩,
    ⟨(some 33), .call 11 [.c (.str ⟨#[97]⟩)], (some (32, true)), []⟩,
    ⟨(some 34), .bin .eql (.t 33) (.c (.int .u32 3826002220)), (some (32, true)), []⟩,
    ⟨(some 35), .pick (.t 32) (.t 34) (.c (.bool false)), none, []⟩,
    ⟨(some 36), .mv (.t 35), none, []⟩,
    ⟨(some 37), .mv (.t 3), (some (36, true)), []⟩,
    ⟨(some 38), .bin .eql (.t 37) (.c (.int .i64 0)), (some (36, true)), []⟩,
    ⟨(some 39), .pick (.t 36) (.t 38) (.c (.bool false)), none, []⟩,
    ⟨(some 40), .mv (.t 39), none, []⟩,
    ⟨(some 41), .mv (.t 2), (some (40, true)), []⟩,
    ⟨(some 42), .len true (.t 41), (some (40, true)), []⟩,
    ⟨(some 43), .bin .eql (.t 42) (.c (.int .i64 26)), (some (40, true)), []⟩,
    ⟨(some 44), .pick (.t 40) (.t 43) (.c (.bool false)), none, []⟩,
    ⟨(some 45), .mv (.t 44), none, []⟩,
    ⟨(some 46), .mv (.t 5), (some (45, true)), []⟩,
    ⟨(some 47), .bin .eql (.t 46) (.c (.int .i64 0)), (some (45, true)), []⟩,
    ⟨(some 48), .pick (.t 45) (.t 47) (.c (.bool false)), none, []⟩,
    ⟨(some 49), .mv (.t 48), none, []⟩,
    ⟨(some 50), .load 5 true (.t 1), (some (49, true)), []⟩,
    ⟨(some 51), .load 5 true (.t 4), (some (49, true)), []⟩,
    ⟨(some 52), .call 19 [.t 50, .t 51], (some (49, true)), []⟩,
    ⟨(some 53), .pick (.t 49) (.t 52) (.c (.bool false)), none, []⟩,
    ⟨(some 54), .mv (.t 53), none, []⟩,
    ⟨(some 55), .mv (.t 7), (some (54, true)), []⟩,
    ⟨(some 56), .bin .eql (.t 55) (.c (.int .i64 1)), (some (54, true)), []⟩,
    ⟨(some 57), .pick (.t 54) (.t 56) (.c (.bool false)), none, []⟩,
    ⟨(some 58), .mv (.t 57), none, []⟩,
    ⟨(some 59), .mv (.t 9), (some (58, true)), []⟩,
    ⟨(some 60), .bin .eql (.t 59) (.c (.int .i64 150)), (some (58, true)), []⟩,
    ⟨(some 61), .pick (.t 58) (.t 60) (.c (.bool false)), none, []⟩,
    ⟨(some 0), .mv (.t 61), none, []⟩]) (
  .ret))))))),
  .pure, true, true⟩
theorem k10 : compF Try.prog { mt := false, mode := .pure, clArgs := true, clRes := true } Try.f10 = some c10 := by kernel_rfl
/- beaconry/frame.Sum -/
def c11 : AFunc := ⟨20, [.tmp 2],
  .seq (.region [
    ⟨(some 2), .mv (.c (.int .u32 0)), none, []⟩]) (
  .seq (.region [
    ⟨(some 3), .mv (.c (.int .u32 2166136261)), none, []⟩]) (
  .seq (.seq (.region [
    ⟨(some 6), .mv (.t 0), none, []⟩,
    ⟨(some 7), .s2b (.t 6), none, []⟩,
    ⟨(some 8), .len false (.t 7), none, []⟩,
    ⟨(some 9), .mv (.c (.int .i64 0)), none, []⟩]) (
  .block 0 (
    .loop (
      .seq (.region [
        ⟨(some 10), .bin .lss (.t 9) (.t 8), none, []⟩]) (
      .seq (.cond (.t 10) (
        .skip) (
        .exit 0)) (
      .seq (.block 1 (
        .seq (.region [
          ⟨(some 11), .iaddrS 1 (.t 7) (.t 9), none, []⟩,
          ⟨(some 12), .load 1 false (.t 11), none, []⟩,
          ⟨(some 5), .mv (.t 12), none, []⟩]) (
        .region [
          ⟨(some 13), .mv (.t 3), none, []⟩,
          ⟨(some 14), .mv (.t 5), none, []⟩,
          ⟨(some 15), .conv .u32 (.t 14), none, []⟩,
          ⟨(some 16), .bin .xor (.t 13) (.t 15), none, []⟩,
          ⟨(some 17), .bin .mul (.t 16) (.c (.int .u32 16777619)), none, []⟩,
          ⟨(some 3), .mv (.t 17), none, []⟩]))) (
      .region [
        ⟨(some 18), .bin .add (.t 9) (.c (.int .i64 1)), none, []⟩,
        ⟨(some 9), .mv (.t 18), none, []⟩]))))))) (
  .seq (.region [
    ⟨(some 19), .mv (.t 3), none, []⟩,
    ⟨(some 2), .mv (.t 19), none, []⟩]) (
  .ret)))),
  .pure, true, true⟩
theorem k11 : compF Try.prog { mt := false, mode := .pure, clArgs := true, clRes := true } Try.f11 = some c11 := by kernel_rfl
/- beaconry/beaconrylaw15.pick -/
def c12 : AFunc := ⟨13, [.tmp 4],
  .seq (.region [
    ⟨(some 4), .mv (.c (.int .i64 0)), none, []⟩]) (
  .seq (.seq (.region [
    ⟨(some 5), .mv (.t 0), none, []⟩,
    ⟨(some 6), .bin .lss (.t 5) (.c (.int .i64 0)), none, []⟩]) (
  .cond (.t 6) (
    .region [
      ⟨(some 7), .mv (.t 0), none, []⟩,
      ⟨(some 8), .bin .add (.t 7) (.c (.int .i64 1)), none, []⟩,
      ⟨(some 9), .un .neg (.t 8), none, []⟩,
      ⟨(some 0), .mv (.t 9), none, []⟩]) (
    .skip))) (
  .seq (.region [
    ⟨(some 10), .mv (.t 0), none, []⟩,
    ⟨(some 11), .mv (.t 1), none, []⟩,
    ⟨(some 12), .bin .rem (.t 10) (.t 11), none, []⟩,
    ⟨(some 4), .mv (.t 12), none, []⟩]) (
  .ret))),
  .pure, true, true⟩
theorem k12 : compF Try.prog { mt := false, mode := .pure, clArgs := true, clRes := true } Try.f12 = some c12 := by kernel_rfl
/- beaconry/frame.Lay -/
def c13 : AFunc := ⟨63, [.tmp 2, .tmp 3],
  .seq (.region [
    ⟨(some 1), .box (.t 0), none, []⟩,
    ⟨(some 2), .mv (.c (.str ⟨#[]⟩)), none, []⟩,
    ⟨(some 3), .mv (.c (.int .i64 0)), none, []⟩]) (
  .seq (.seq (.region [
    ⟨(some 9), .load 5 true (.t 1), none, []⟩,
    ⟨(some 10), .call 20 [.t 9], none, []⟩,
    ⟨(some 11), .un .not (.t 10), none, []⟩]) (
  .cond (.t 11) (
    .seq (.region [
      ⟨(some 2), .mv (.c (.str ⟨#[]⟩)), none, []⟩,
      ⟨(some 3), .mv (.c (.int .i64 1)), none, []⟩]) (
    .ret)) (
    .skip))) (
  .seq (.region [
    ⟨(some 4), .alloc [.isl [] true], none, []⟩]) (
  .seq (.region [
    ⟨(some 12), .faddr 0 (.t 1), none, []⟩,
    ⟨(some 13), .load 1 false (.t 12), none, []⟩,
    ⟨(some 14), .call 21 [.t 4, .t 13], none, []⟩]) (
  .seq (.region [
    ⟨(some 15), .faddr 1 (.t 1), none, []⟩,
    ⟨(some 16), .load 1 false (.t 15), none, []⟩,
    ⟨(some 17), .call 21 [.t 4, .t 16], none, []⟩]) (
  .seq (.region [
    ⟨(some 18), .faddr 2 (.t 1), none, []⟩,
    ⟨(some 19), .load 1 false (.t 18), none, []⟩,
    ⟨(some 20), .call 22 [.t 4, .c (.int .i64 8), .t 19], none, []⟩]) (
  .seq (.region [
    ⟨(some 21), .faddr 3 (.t 1), none, []⟩,
    ⟨(some 22), .load 1 false (.t 21), none, []⟩,
    ⟨(some 23), .call 22 [.t 4, .c (.int .i64 8), .t 22], none, []⟩]) (
  .seq (.region [
    ⟨(some 24), .faddr 4 (.t 1), none, []⟩,
    ⟨(some 25), .load 1 false (.t 24), none, []⟩,
    ⟨(some 26), .len false (.t 25), none, []⟩,
    ⟨(some 27), .call 22 [.t 4, .c (.int .i64 2), .t 26], none, []⟩]) (
  .seq (.seq (.region [
    ⟨(some 28), .faddr 4 (.t 1), none, []⟩,
    ⟨(some 29), .load 1 false (.t 28), none, []⟩,
    ⟨(some 30), .len false (.t 29), none, []⟩,
    ⟨(some 31), .mv (.c (.int .i64 0)), none, []⟩]) (
  .block 0 (
    .loop (
      .seq (.region [
        ⟨(some 32), .bin .lss (.t 31) (.t 30), none, []⟩]) (
      .seq (.cond (.t 32) (
        .skip) (
        .exit 0)) (
      .seq (.block 1 (
        .seq (.region [
          ⟨(some 33), .iaddrS 3 (.t 29) (.t 31), none, []⟩,
          ⟨(some 34), .load 3 true (.t 33), none, []⟩,
          ⟨(some 6), .alloc [.str ⟨#[]⟩, .isl [] true, .int .i64 0], none, []⟩,
          ⟨none, .store 3 (.t 6) (.t 34), none, []⟩]) (
        .seq (.region [
          ⟨(some 35), .faddr 0 (.t 6), none, []⟩,
          ⟨(some 36), .load 1 false (.t 35), none, []⟩,
          ⟨(some 37), .call 21 [.t 4, .t 36], none, []⟩]) (
        .seq (.region [
          ⟨(some 38), .faddr 1 (.t 6), none, []⟩,
          ⟨(some 39), .load 1 false (.t 38), none, []⟩,
          ⟨(some 40), .len false (.t 39), none, []⟩,
          ⟨(some 41), .call 22 [.t 4, .c (.int .i64 1), .t 40], none, []⟩]) (
        .seq (.seq (.region [
          ⟨(some 42), .faddr 1 (.t 6), none, []⟩,
          ⟨(some 43), .load 1 false (.t 42), none, []⟩,
          ⟨(some 44), .len false (.t 43), none, []⟩,
          ⟨(some 45), .mv (.c (.int .i64 0)), none, []⟩]) (
        .block 2 (
          .loop (
            .seq (.region [
              ⟨(some 46), .bin .lss (.t 45) (.t 44), none, []⟩]) (
            .seq (.cond (.t 46) (
              .skip) (
              .exit 2)) (
            .seq (.block 3 (
              .seq (.region [
                ⟨(some 47), .iaddrS 4 (.t 43) (.t 45), none, []⟩,
                ⟨(some 48), .load 4 true (.t 47), none, []⟩,
                ⟨(some 8), .alloc [.int .i64 0, .int .i64 0, .str ⟨#[]⟩, .isl [] true], none, []⟩,
                ⟨none, .store 4 (.t 8) (.t 48), none, []⟩]) (
              .region [
                ⟨(some 49), .load 4 true (.t 8), none, []⟩,
                ⟨(some 50), .call 23 [.t 4, .t 49], none, []⟩]))) (
            .region [
              ⟨(some 51), .bin .add (.t 45) (.c (.int .i64 1)), none, []⟩,
              ⟨(some 45), .mv (.t 51), none, []⟩]))))))) (
        .region [
          ⟨(some 52), .faddr 2 (.t 6), none, []⟩,
          ⟨(some 53), .load 1 false (.t 52), none, []⟩,
          ⟨(some 54), .call 22 [.t 4, .c (.int .i64 8), .t 53], none, []⟩])))))) (
      .region [
        ⟨(some 55), .bin .add (.t 31) (.c (.int .i64 1)), none, []⟩,
        ⟨(some 31), .mv (.t 55), none, []⟩]))))))) (
  .seq (.region [
    ⟨(some 56), .load 1 false (.t 4), none, []⟩,
    ⟨(some 57), .b2s (.t 56), none, []⟩,
    ⟨(some 58), .call 11 [.t 57], none, []⟩,
    ⟨(some 59), .conv .i64 (.t 58), none, []⟩,
    ⟨(some 60), .call 22 [.t 4, .c (.int .i64 4), .t 59], none, []⟩]) (
  .seq (.region [
    ⟨(some 61), .load 1 false (.t 4), none, []⟩,
    ⟨(some 62), .b2s (.t 61), none, []⟩,
    ⟨(some 2), .mv (.t 62), none, []⟩,
    ⟨(some 3), .mv (.c (.int .i64 0)), none, []⟩]) (
  .ret))))))))))),
  .pure, true, true⟩
theorem k13 : compF Try.prog { mt := false, mode := .pure, clArgs := true, clRes := true } Try.f13 = some c13 := by kernel_rfl
/- beaconry/frame.Take -/
def c17 : AFunc := ⟨68, [.cell 2 5 true, .tmp 3],
  .seq (.region [
    ⟨(some 2), .alloc [.str ⟨#[]⟩, .str ⟨#[]⟩, .int .i64 0, .int .i64 0, .isl [] true], none, []⟩,
    ⟨(some 3), .mv (.c (.int .i64 0)), none, []⟩]) (
  .seq (.region [
    ⟨(some 9), .mv (.t 0), none, []⟩,
    ⟨(some 10), .build [.str ⟨#[]⟩, .bool false] [(0, 1, .t 9)], none, []⟩,
    ⟨(some 11), .box (.t 10), none, []⟩,
    ⟨(some 4), .mv (.t 11), none, []⟩]) (
  .seq (.region [
    ⟨(some 12), .mv (.t 4), none, []⟩,
    ⟨(some 13), .call 31 [.t 12], none, []⟩,
    ⟨(some 14), .mv (.t 4), none, []⟩,
    ⟨(some 15), .call 31 [.t 14], none, []⟩,
    ⟨(some 16), .mv (.t 4), none, []⟩,
    ⟨(some 17), .call 32 [.t 16, .c (.int .i64 8)], none, []⟩,
    ⟨(some 18), .mv (.t 4), none, []⟩,
    ⟨(some 19), .call 32 [.t 18, .c (.int .i64 8)], none, []⟩,
    ⟨(some 20), .build [.str ⟨#[]⟩, .str ⟨#[]⟩, .int .i64 0, .int .i64 0, .isl [] true] [(0, 1, .t 13), (1, 1, .t 15), (2, 1, .t 17), (3, 1, .t 19)], none, []⟩,
    ⟨(some 5), .alloc [.str ⟨#[]⟩, .str ⟨#[]⟩, .int .i64 0, .int .i64 0, .isl [] true], none, []⟩,
    ⟨none, .store 5 (.t 5) (.t 20), none, []⟩]) (
  .seq (.seq (.region [
    ⟨(some 21), .mv (.t 4), none, []⟩,
    ⟨(some 22), .call 32 [.t 21, .c (.int .i64 2)], none, []⟩,
    ⟨(some 6), .mv (.t 22), none, []⟩]) (
  .block 0 (
    .loop (
      .seq (.seq (.region [
        ⟨(some 23), .mv (.t 6), none, []⟩,
        ⟨(some 24), .bin .gtr (.t 23) (.c (.int .i64 0)), none, []⟩,
        ⟨(some 25), .mv (.t 24), none, []⟩,
        ⟨(some 26), .mv (.t 4), (some (25, true)), []⟩,
        ⟨(some 27), .nilck (.t 26), (some (25, true)), []⟩,
        ⟨(some 28), .faddr 1 (.t 27), (some (25, true)), []⟩,
        ⟨(some 29), .load 1 false (.t 28), (some (25, true)), []⟩,
        ⟨(some 30), .un .not (.t 29), (some (25, true)), []⟩,
        ⟨(some 31), .pick (.t 25) (.t 30) (.c (.bool false)), none, []⟩]) (
      .cond (.t 31) (
        .skip) (
        .exit 0))) (
      .seq (.block 1 (
        .region [
          ⟨(some 34), .faddr 4 (.t 5), none, []⟩,
          ⟨(some 35), .load 1 false (.t 34), none, []⟩,
          ⟨(some 36), .mv (.t 4), none, []⟩,
          ⟨(some 37), .call 33 [.t 36], none, [.t 34]⟩,
          ⟨(some 38), .buildSl 1 3 true [.str ⟨#[]⟩, .isl [] true, .int .i64 0] [(0, 3, .t 37)], none, []⟩,
          ⟨(some 39), .append 3 true 48 false (.t 35) (.t 38), none, []⟩,
          ⟨(some 40), .faddr 4 (.t 5), none, []⟩,
          ⟨none, .store 1 (.t 40) (.t 39), none, []⟩])) (
      .region [
        ⟨(some 32), .mv (.t 6), none, []⟩,
        ⟨(some 33), .bin .sub (.t 32) (.c (.int .i64 1)), none, []⟩,
        ⟨(some 6), .mv (.t 33), none, []⟩])))))) (
  .seq (.seq (.region [
    ⟨(some 41), .mv (.t 4), none, []⟩,
    ⟨(some 42), .nilck (.t 41), none, []⟩,
    ⟨(some 43), .faddr 1 (.t 42), none, []⟩,
    ⟨(some 44), .load 1 false (.t 43), none, []⟩,
    ⟨(some 45), .mv (.t 44), none, []⟩,
    ⟨(some 46), .mv (.t 4), (some (45, false)), []⟩,
    ⟨(some 47), .nilck (.t 46), (some (45, false)), []⟩,
    ⟨(some 48), .faddr 0 (.t 47), (some (45, false)), []⟩,
    ⟨(some 49), .load 1 false (.t 48), (some (45, false)), []⟩,
    ⟨(some 50), .len true (.t 49), (some (45, false)), []⟩,
    ⟨(some 51), .bin .neq (.t 50) (.c (.int .i64 4)), (some (45, false)), []⟩,
    ⟨(some 52), .pick (.t 45) (.c (.bool true)) (.t 51), none, []⟩]) (
  .cond (.t 52) (
    .seq (.region [
      ⟨(some 53), .build [.str ⟨#[]⟩, .str ⟨#[]⟩, .int .i64 0, .int .i64 0, .isl [] true] [], none, []⟩,
      ⟨none, .store 5 (.t 2) (.t 53), none, []⟩,
      ⟨(some 3), .mv (.c (.int .i64 150)), none, []⟩]) (
    .ret)) (
    .skip))) (
  .seq (.seq (.region [
    ⟨(some 55), .load 5 true (.t 5), none, []⟩,
    ⟨(some 56), .call 13 [.t 55], none, []⟩,
    ⟨(some 54), .mv (.t 56), none, []⟩,
    ⟨(some 57), .extract 0 (.t 54), none, []⟩,
    ⟨(some 58), .extract 1 (.t 54), none, []⟩,
    ⟨(some 7), .mv (.t 57), none, []⟩,
    ⟨(some 8), .mv (.t 58), none, []⟩]) (
  .seq (.region [
    ⟨(some 59), .mv (.t 8), none, []⟩,
    ⟨(some 60), .bin .neq (.t 59) (.c (.int .i64 0)), none, []⟩,
    ⟨(some 61), .mv (.t 60), none, []⟩,
    ⟨(some 62), .mv (.t 7), (some (61, false)), []⟩,
    ⟨(some 63), .mv (.t 0), (some (61, false)), []⟩,
    ⟨(some 64), .bin .neq (.t 62) (.t 63), (some (61, false)), []⟩,
    ⟨(some 65), .pick (.t 61) (.c (.bool true)) (.t 64), none, []⟩]) (
  .cond (.t 65) (
    .seq (.region [
      ⟨(some 66), .build [.str ⟨#[]⟩, .str ⟨#[]⟩, .int .i64 0, .int .i64 0, .isl [] true] [], none, []⟩,
      ⟨none, .store 5 (.t 2) (.t 66), none, []⟩,
      ⟨(some 3), .mv (.c (.int .i64 150)), none, []⟩]) (
    .ret)) (
    .skip)))) (
  .seq (.region [
    ⟨(some 67), .load 5 true (.t 5), none, []⟩,
    ⟨none, .store 5 (.t 2) (.t 67), none, []⟩,
    ⟨(some 3), .mv (.c (.int .i64 0)), none, []⟩]) (
  .ret))))))),
  .pure, true, true⟩
theorem k17 : compF Try.prog { mt := false, mode := .pure, clArgs := true, clRes := true } Try.f17 = some c17 := by kernel_rfl
/- beaconry/beaconrylaw15.Same -/
def c19 : AFunc := ⟨38, [.tmp 4],
  .seq (.region [
    ⟨(some 2), .box (.t 0), none, []⟩,
    ⟨(some 3), .box (.t 1), none, []⟩,
    ⟨(some 4), .mv (.c (.bool false)), none, []⟩]) (
  .seq (.region [
    ⟨(some 5), .faddr 0 (.t 2), none, []⟩,
    ⟨(some 6), .load 1 false (.t 5), none, []⟩,
    ⟨(some 7), .faddr 0 (.t 3), none, []⟩,
    ⟨(some 8), .load 1 false (.t 7), none, []⟩,
    ⟨(some 9), .bin .eql (.t 6) (.t 8), none, []⟩,
    ⟨(some 10), .mv (.t 9), none, []⟩,
    ⟨(some 11), .faddr 1 (.t 2), (some (10, true)), []⟩,
    ⟨(some 12), .load 1 false (.t 11), (some (10, true)), []⟩,
    ⟨(some 13), .faddr 1 (.t 3), (some (10, true)), []⟩,
    ⟨(some 14), .load 1 false (.t 13), (some (10, true)), []⟩,
    ⟨(some 15), .bin .eql (.t 12) (.t 14), (some (10, true)), []⟩,
    ⟨(some 16), .pick (.t 10) (.t 15) (.c (.bool false)), none, []⟩,
    ⟨(some 17), .mv (.t 16), none, []⟩,
    ⟨(some 18), .faddr 2 (.t 2), (some (17, true)), []⟩,
    ⟨(some 19), .load 1 false (.t 18), (some (17, true)), []⟩,
    ⟨(some 20), .faddr 2 (.t 3), (some (17, true)), []⟩,
    ⟨(some 21), .load 1 false (.t 20), (some (17, true)), []⟩,
    ⟨(some 22), .bin .eql (.t 19) (.t 21), (some (17, true)), []⟩,
    ⟨(some 23), .pick (.t 17) (.t 22) (.c (.bool false)), none, []⟩,
    ⟨(some 24), .mv (.t 23), none, []⟩,
    ⟨(some 25), .faddr 3 (.t 2), (some (24, true)), []⟩,
    ⟨(some 26), .load 1 false (.t 25), (some (24, true)), []⟩,
    ⟨(some 27), .faddr 3 (.t 3), (some (24, true)), []⟩,
    ⟨(some 28), .load 1 false (.t 27), (some (24, true)), []⟩,
    ⟨(some 29), .bin .eql (.t 26) (.t 28), (some (24, true)), []⟩,
    ⟨(some 30), .pick (.t 24) (.t 29) (.c (.bool false)), none, []⟩,
    ⟨(some 31), .mv (.t 30), none, []⟩,
    ⟨(some 32), .faddr 4 (.t 2), (some (31, true)), []⟩,
    ⟨(some 33), .load 1 false (.t 32), (some (31, true)), []⟩,
    ⟨(some 34), .faddr 4 (.t 3), (some (31, true)), []⟩,
    ⟨(some 35), .load 1 false (.t 34), (some (31, true)), []⟩,
    ⟨(some 36), .call 37 [.t 33, .t 35], (some (31, true)), []⟩,
    ⟨(some 37), .pick (.t 31) (.t 36) (.c (.bool false)), none, []⟩,
    ⟨(some 4), .mv (.t 37), none, []⟩]) (
  .ret)),
  .pure, true, true⟩
theorem k19 : compF Try.prog { mt := false, mode := .pure, clArgs := true, clRes := true } Try.f19 = some c19 := by kernel_rfl
/- beaconry/frame.right -/
def c20 : AFunc := ⟨69, [.tmp 2],
  .seq (.region [
    ⟨(some 1), .box (.t 0), none, []⟩,
    ⟨(some 2), .mv (.c (.bool false)), none, []⟩]) (
  .seq (.seq (.region [
    ⟨(some 5), .faddr 0 (.t 1), none, []⟩,
    ⟨(some 6), .load 1 false (.t 5), none, []⟩,
    ⟨(some 7), .call 38 [.t 6], none, []⟩,
    ⟨(some 8), .un .not (.t 7), none, []⟩,
    ⟨(some 9), .mv (.t 8), none, []⟩,
    ⟨(some 10), .faddr 1 (.t 1), (some (9, false)), []⟩,
    ⟨(some 11), .load 1 false (.t 10), (some (9, false)), []⟩,
    ⟨(some 12), .call 38 [.t 11], (some (9, false)), []⟩,
    ⟨(some 13), .un .not (.t 12), (some (9, false)), []⟩,
    ⟨(some 14), .pick (.t 9) (.c (.bool true)) (.t 13), none, []⟩,
    ⟨(some 15), .mv (.t 14), none, []⟩,
    ⟨(some 16), .faddr 0 (.t 1), (some (15, false)), []⟩,
    ⟨(some 17), .load 1 false (.t 16), (some (15, false)), []⟩,
    ⟨(some 18), .faddr 1 (.t 1), (some (15, false)), []⟩,
    ⟨(some 19), .load 1 false (.t 18), (some (15, false)), []⟩,
    ⟨(some 20), .bin .eql (.t 17) (.t 19), (some (15, false)), []⟩,
    ⟨(some 21), .pick (.t 15) (.c (.bool true)) (.t 20), none, []⟩,
    ⟨(some 22), .mv (.t 21), none, []⟩,
    ⟨(some 23), .faddr 2 (.t 1), (some (22, false)), []⟩,
    ⟨(some 24), .load 1 false (.t 23), (some (22, false)), []⟩,
    ⟨(some 25), .call 39 [.t 24], (some (22, false)), []⟩,
    ⟨(some 26), .un .not (.t 25), (some (22, false)), []⟩,
    ⟨(some 27), .pick (.t 22) (.c (.bool true)) (.t 26), none, []⟩,
    ⟨(some 28), .mv (.t 27), none, []⟩,
    ⟨(some 29), .faddr 3 (.t 1), (some (28, false)), []⟩,
    ⟨(some 30), .load 1 false (.t 29), (some (28, false)), []⟩,
    ⟨(some 31), .call 39 [.t 30], (some (28, false)), []⟩,
    ⟨(some 32), .un .not (.t 31), (some (28, false)), []⟩,
    ⟨(some 33), .pick (.t 28) (.c (.bool true)) (.t 32), none, []⟩,
    ⟨(some 34), .mv (.t 33), none, []⟩,
    ⟨(some 35), .faddr 4 (.t 1), (some (34, false)), []⟩,
    ⟨(some 36), .load 1 false (.t 35), (some (34, false)), []⟩,
    ⟨(some 37), .len false (.t 36), (some (34, false)), []⟩,
    ⟨(some 38), .bin .gtr (.t 37) (.c (.int .i64 400)), (some (34, false)), []⟩,
    ⟨(some 39), .pick (.t 34) (.c (.bool true)) (.t 38), none, []⟩]) (
  .cond (.t 39) (
    .seq (.region [
      ⟨(some 2), .mv (.c (.bool false)), none, []⟩]) (
    .ret)) (
    .skip))) (
  .seq (.seq (.region [
    ⟨(some 40), .faddr 4 (.t 1), none, []⟩,
    ⟨(some 41), .load 1 false (.t 40), none, []⟩,
    ⟨(some 42), .len false (.t 41), none, []⟩,
    ⟨(some 43), .mv (.c (.int .i64 0)), none, []⟩]) (
  .block 0 (
    .loop (
      .seq (.region [
        ⟨(some 44), .bin .lss (.t 43) (.t 42), none, []⟩]) (
      .seq (.cond (.t 44) (
        .skip) (
        .exit 0)) (
      .seq (.block 1 (
        .seq (.region [
          ⟨(some 45), .mv (.t 43), none, []⟩,
          ⟨(some 46), .iaddrS 3 (.t 41) (.t 43), none, []⟩,
          ⟨(some 47), .load 3 true (.t 46), none, []⟩,
          ⟨(some 4), .alloc [.str ⟨#[]⟩, .isl [] true, .int .i64 0], none, []⟩,
          ⟨(some 3), .mv (.t 45), none, []⟩,
          ⟨none, .store 3 (.t 4) (.t 47), none, []⟩]) (
        .seq (.region [
          ⟨(some 48), .load 3 true (.t 4), none, []⟩,
          ⟨(some 49), .faddr 1 (.t 1), none, []⟩,
          ⟨(some 50), .load 1 false (.t 49), none, []⟩,
          ⟨(some 51), .call 40 [.t 48, .t 50], none, []⟩,
          ⟨(some 52), .un .not (.t 51), none, []⟩,
          ⟨(some 53), .mv (.t 52), none, []⟩,
          ⟨(some 54), .mv (.t 3), (some (53, false)), []⟩,
          ⟨(some 55), .bin .gtr (.t 54) (.c (.int .i64 0)), (some (53, false)), []⟩,
          ⟨(some 56), .mv (.t 55), (some (53, false)), []⟩,
          ⟨(some 57), .faddr 4 (.t 1), (some (56, true)), []⟩,
          ⟨(some 58), .load 1 false (.t 57), (some (56, true)), []⟩,
          ⟨(some 59), .mv (.t 3), (some (56, true)), []⟩,
          ⟨(some 60), .bin .sub (.t 59) (.c (.int .i64 1)), (some (56, true)), []⟩,
          ⟨(some 61), .iaddrS 3 (.t 58) (.t 60), (some (56, true)), []⟩,
          ⟨(some 62), .load 3 true (.t 61), (some (56, true)), []⟩,
          ⟨(some 63), .load 3 true (.t 4), (some (56, true)), []⟩,
          ⟨(some 64), .call 41 [.t 62, .t 63], (some (56, true)), []⟩,
          ⟨(some 65), .bin .geq (.t 64) (.c (.int .i64 0)), (some (56, true)), []⟩,
          ⟨(some 66), .pick (.t 56) (.t 65) (.c (.bool false)), (some (53, false)), []⟩,
          ⟨(some 67), .pick (.t 53) (.c (.bool true)) (.t 66), none, []⟩]) (
        .cond (.t 67) (
          .seq (.region [
            ⟨(some 2), .mv (.c (.bool false)), none, []⟩]) (
          .ret)) (
          .skip))))) (
      .region [
        ⟨(some 68), .bin .add (.t 43) (.c (.int .i64 1)), none, []⟩,
        ⟨(some 43), .mv (.t 68), none, []⟩]))))))) (
  .seq (.region [
    ⟨(some 2), .mv (.c (.bool true)), none, []⟩]) (
  .ret)))),
  .pure, true, true⟩
theorem k20 : compF Try.prog { mt := false, mode := .pure, clArgs := true, clRes := true } Try.f20 = some c20 := by kernel_rfl
/- (*beaconry/frame.layer).text -/
def c21 : AFunc := ⟨15, [],
  .seq (.region [
    ⟨(some 4), .mv (.t 0), none, []⟩,
    ⟨(some 5), .mv (.t 1), none, []⟩,
    ⟨(some 6), .len true (.t 5), none, []⟩,
    ⟨(some 7), .call 22 [.t 4, .c (.int .i64 1), .t 6], none, []⟩]) (
  .region [
    ⟨(some 8), .mv (.t 0), none, []⟩,
    ⟨(some 9), .mv (.t 0), none, []⟩,
    ⟨(some 10), .nilck (.t 9), none, []⟩,
    ⟨(some 11), .load 1 false (.t 10), none, []⟩,
    ⟨(some 12), .mv (.t 1), none, []⟩,
    ⟨(some 13), .append 1 false 1 false (.t 11) (.t 12), none, []⟩,
    ⟨(some 14), .nilck (.t 8), none, []⟩,
    ⟨none, .store 1 (.t 14) (.t 13), none, []⟩]),
  .raw, false, true⟩
theorem k21 : compF Try.prog { mt := false, mode := .raw, clArgs := false, clRes := true } Try.f21 = some c21 := by kernel_rfl
/- (*beaconry/frame.layer).num -/
def c22 : AFunc := ⟨29, [],
  .seq (.region [
    ⟨(some 6), .alloc [.int .u8 0, .int .u8 0, .int .u8 0, .int .u8 0, .int .u8 0, .int .u8 0, .int .u8 0, .int .u8 0], none, []⟩]) (
  .seq (.seq (.region [
    ⟨(some 8), .mv (.c (.int .i64 0)), none, []⟩]) (
  .block 0 (
    .loop (
      .seq (.region [
        ⟨(some 9), .bin .lss (.t 8) (.c (.int .i64 8)), none, []⟩]) (
      .seq (.cond (.t 9) (
        .skip) (
        .exit 0)) (
      .seq (.block 1 (
        .seq (.region [
          ⟨(some 10), .mv (.t 8), none, []⟩,
          ⟨(some 7), .mv (.t 10), none, []⟩]) (
        .region [
          ⟨(some 11), .mv (.t 7), none, []⟩,
          ⟨(some 12), .bin .sub (.c (.int .i64 7)) (.t 11), none, []⟩,
          ⟨(some 13), .mv (.t 2), none, []⟩,
          ⟨(some 14), .mv (.t 7), none, []⟩,
          ⟨(some 15), .bin .mul (.c (.int .i64 8)) (.t 14), none, []⟩,
          ⟨(some 16), .bin .shr (.t 13) (.t 15), none, []⟩,
          ⟨(some 17), .conv .u8 (.t 16), none, []⟩,
          ⟨(some 18), .iaddrA 8 1 (.t 6) (.t 12), none, []⟩,
          ⟨none, .store 1 (.t 18) (.t 17), none, []⟩]))) (
      .region [
        ⟨(some 19), .bin .add (.t 8) (.c (.int .i64 1)), none, []⟩,
        ⟨(some 8), .mv (.t 19), none, []⟩]))))))) (
  .region [
    ⟨(some 20), .mv (.t 0), none, []⟩,
    ⟨(some 21), .mv (.t 0), none, []⟩,
    ⟨(some 22), .nilck (.t 21), none, []⟩,
    ⟨(some 23), .load 1 false (.t 22), none, []⟩,
    ⟨(some 24), .mv (.t 1), none, []⟩,
    ⟨(some 25), .bin .sub (.c (.int .i64 8)) (.t 24), none, []⟩,
    ⟨(some 26), .arrSl 8 1 false (.t 6) (some (.t 25)) none, none, []⟩,
    ⟨(some 27), .append 1 false 1 false (.t 23) (.t 26), none, []⟩,
    ⟨(some 28), .nilck (.t 20), none, []⟩,
    ⟨none, .store 1 (.t 28) (.t 27), none, []⟩])),
  .raw, false, true⟩
theorem k22 : compF Try.prog { mt := false, mode := .raw, clArgs := false, clRes := true } Try.f22 = some c22 := by kernel_rfl
/- (*beaconry/frame.layer).value -/
def c23 : AFunc := ⟨40, [],
  .seq (.region [
    ⟨(some 3), .box (.t 1), none, []⟩]) (
  .seq (.region [
    ⟨(some 6), .mv (.t 0), none, []⟩,
    ⟨(some 7), .faddr 0 (.t 3), none, []⟩,
    ⟨(some 8), .load 1 false (.t 7), none, []⟩,
    ⟨(some 9), .call 22 [.t 6, .c (.int .i64 1), .t 8], none, []⟩]) (
  .seq (.region [
    ⟨(some 10), .faddr 0 (.t 3), none, []⟩,
    ⟨(some 11), .load 1 false (.t 10), none, []⟩]) (
  .block 0 (
    .seq (.region [
      ⟨(some 17), .bin .eql (.t 11) (.c (.int .i64 1)), none, []⟩,
      ⟨(some 16), .mv (.t 17), none, []⟩]) (
    .cond (.t 16) (
      .region [
        ⟨(some 18), .mv (.t 0), none, []⟩,
        ⟨(some 19), .faddr 1 (.t 3), none, []⟩,
        ⟨(some 20), .load 1 false (.t 19), none, []⟩,
        ⟨(some 21), .call 22 [.t 18, .c (.int .i64 8), .t 20], none, []⟩]) (
      .seq (.region [
        ⟨(some 23), .bin .eql (.t 11) (.c (.int .i64 4)), none, []⟩,
        ⟨(some 22), .mv (.t 23), none, []⟩]) (
      .cond (.t 22) (
        .seq (.region [
          ⟨(some 24), .mv (.t 0), none, []⟩,
          ⟨(some 25), .faddr 3 (.t 3), none, []⟩,
          ⟨(some 26), .load 1 false (.t 25), none, []⟩,
          ⟨(some 27), .len false (.t 26), none, []⟩,
          ⟨(some 28), .call 22 [.t 24, .c (.int .i64 1), .t 27], none, []⟩]) (
        .seq (.region [
          ⟨(some 29), .faddr 3 (.t 3), none, []⟩,
          ⟨(some 30), .load 1 false (.t 29), none, []⟩,
          ⟨(some 31), .len false (.t 30), none, []⟩,
          ⟨(some 32), .mv (.c (.int .i64 0)), none, []⟩]) (
        .block 1 (
          .loop (
            .seq (.region [
              ⟨(some 33), .bin .lss (.t 32) (.t 31), none, []⟩]) (
            .seq (.cond (.t 33) (
              .skip) (
              .exit 1)) (
            .seq (.block 2 (
              .seq (.region [
                ⟨(some 34), .iaddrS 4 (.t 30) (.t 32), none, []⟩,
                ⟨(some 35), .load 4 true (.t 34), none, []⟩,
                ⟨(some 5), .alloc [.int .i64 0, .int .i64 0, .str ⟨#[]⟩, .isl [] true], none, []⟩,
                ⟨none, .store 4 (.t 5) (.t 35), none, []⟩]) (
              .region [
                ⟨(some 36), .mv (.t 0), none, []⟩,
                ⟨(some 37), .load 4 true (.t 5), none, []⟩,
                ⟨(some 38), .call 23 [.t 36, .t 37], none, []⟩]))) (
            .region [
              ⟨(some 39), .bin .add (.t 32) (.c (.int .i64 1)), none, []⟩,
              ⟨(some 32), .mv (.t 39), none, []⟩])))))))) (
        .region [
          ⟨(some 12), .mv (.t 0), none, []⟩,
          ⟨(some 13), .faddr 2 (.t 3), none, []⟩,
          ⟨(some 14), .load 1 false (.t 13), none, []⟩,
          ⟨(some 15), .call 21 [.t 12, .t 14], none, []⟩])))))))),
  .raw, false, true⟩
theorem k23 : compF Try.prog { mt := false, mode := .raw, clArgs := false, clRes := true } Try.f23 = some c23 := by kernel_rfl
/- (*beaconry/frame.taker).text -/
def c31 : AFunc := ⟨7, [.tmp 2],
  .seq (.region [
    ⟨(some 2), .mv (.c (.str ⟨#[]⟩)), none, []⟩]) (
  .seq (.region [
    ⟨(some 3), .mv (.t 0), none, []⟩,
    ⟨(some 4), .mv (.t 0), none, []⟩,
    ⟨(some 5), .call 32 [.t 4, .c (.int .i64 1)], none, []⟩,
    ⟨(some 6), .call 51 [.t 3, .t 5], none, []⟩,
    ⟨(some 2), .mv (.t 6), none, []⟩]) (
  .ret)),
  .raw, false, true⟩
theorem k31 : compF Try.prog { mt := false, mode := .raw, clArgs := false, clRes := true } Try.f31 = some c31 := by kernel_rfl
/- (*beaconry/frame.taker).num -/
def c32 : AFunc := ⟨22, [.tmp 4],
  .seq (.region [
    ⟨(some 4), .mv (.c (.int .i64 0)), none, []⟩]) (
  .seq (.seq (.region [
    ⟨(some 7), .mv (.t 0), none, []⟩,
    ⟨(some 8), .mv (.t 1), none, []⟩,
    ⟨(some 9), .call 51 [.t 7, .t 8], none, []⟩,
    ⟨(some 10), .s2b (.t 9), none, []⟩,
    ⟨(some 11), .len false (.t 10), none, []⟩,
    ⟨(some 12), .mv (.c (.int .i64 0)), none, []⟩]) (
  .block 0 (
    .loop (
      .seq (.region [
        ⟨(some 13), .bin .lss (.t 12) (.t 11), none, []⟩]) (
      .seq (.cond (.t 13) (
        .skip) (
        .exit 0)) (
      .seq (.block 1 (
        .seq (.region [
          ⟨(some 14), .iaddrS 1 (.t 10) (.t 12), none, []⟩,
          ⟨(some 15), .load 1 false (.t 14), none, []⟩,
          ⟨(some 6), .mv (.t 15), none, []⟩]) (
        .region [
          ⟨(some 16), .mv (.t 4), none, []⟩,
          ⟨(some 17), .bin .shl (.t 16) (.c (.int .u64 8)), none, []⟩,
          ⟨(some 18), .mv (.t 6), none, []⟩,
          ⟨(some 19), .conv .i64 (.t 18), none, []⟩,
          ⟨(some 20), .bin .or (.t 17) (.t 19), none, []⟩,
          ⟨(some 4), .mv (.t 20), none, []⟩]))) (
      .region [
        ⟨(some 21), .bin .add (.t 12) (.c (.int .i64 1)), none, []⟩,
        ⟨(some 12), .mv (.t 21), none, []⟩]))))))) (
  .ret)),
  .raw, false, true⟩
theorem k32 : compF Try.prog { mt := false, mode := .raw, clArgs := false, clRes := true } Try.f32 = some c32 := by kernel_rfl
/- (*beaconry/frame.taker).row -/
def c33 : AFunc := ⟨30, [.cell 2 3 true],
  .seq (.region [
    ⟨(some 2), .alloc [.str ⟨#[]⟩, .isl [] true, .int .i64 0], none, []⟩]) (
  .seq (.region [
    ⟨(some 4), .mv (.t 0), none, []⟩,
    ⟨(some 5), .call 31 [.t 4], none, []⟩,
    ⟨(some 6), .faddr 0 (.t 2), none, []⟩,
    ⟨none, .store 1 (.t 6) (.t 5), none, []⟩]) (
  .seq (.seq (.region [
    ⟨(some 7), .mv (.t 0), none, []⟩,
    ⟨(some 8), .call 32 [.t 7, .c (.int .i64 1)], none, []⟩,
    ⟨(some 3), .mv (.t 8), none, []⟩]) (
  .block 0 (
    .loop (
      .seq (.seq (.region [
        ⟨(some 9), .mv (.t 3), none, []⟩,
        ⟨(some 10), .bin .gtr (.t 9) (.c (.int .i64 0)), none, []⟩,
        ⟨(some 11), .mv (.t 10), none, []⟩,
        ⟨(some 12), .mv (.t 0), (some (11, true)), []⟩,
        ⟨(some 13), .nilck (.t 12), (some (11, true)), []⟩,
        ⟨(some 14), .faddr 1 (.t 13), (some (11, true)), []⟩,
        ⟨(some 15), .load 1 false (.t 14), (some (11, true)), []⟩,
        ⟨(some 16), .un .not (.t 15), (some (11, true)), []⟩,
        ⟨(some 17), .pick (.t 11) (.t 16) (.c (.bool false)), none, []⟩]) (
      .cond (.t 17) (
        .skip) (
        .exit 0))) (
      .seq (.block 1 (
        .region [
          ⟨(some 20), .faddr 1 (.t 2), none, []⟩,
          ⟨(some 21), .load 1 false (.t 20), none, []⟩,
          ⟨(some 22), .mv (.t 0), none, []⟩,
          ⟨(some 23), .call 52 [.t 22, .c (.int .i64 4)], none, [.t 20]⟩,
          ⟨(some 24), .buildSl 1 4 true [.int .i64 0, .int .i64 0, .str ⟨#[]⟩, .isl [] true] [(0, 4, .t 23)], none, []⟩,
          ⟨(some 25), .append 4 true 56 false (.t 21) (.t 24), none, []⟩,
          ⟨(some 26), .faddr 1 (.t 2), none, []⟩,
          ⟨none, .store 1 (.t 26) (.t 25), none, []⟩])) (
      .region [
        ⟨(some 18), .mv (.t 3), none, []⟩,
        ⟨(some 19), .bin .sub (.t 18) (.c (.int .i64 1)), none, []⟩,
        ⟨(some 3), .mv (.t 19), none, []⟩])))))) (
  .seq (.region [
    ⟨(some 27), .mv (.t 0), none, []⟩,
    ⟨(some 28), .call 32 [.t 27, .c (.int .i64 8)], none, []⟩,
    ⟨(some 29), .faddr 2 (.t 2), none, []⟩,
    ⟨none, .store 1 (.t 29) (.t 28), none, []⟩]) (
  .ret)))),
  .raw, false, true⟩
theorem k33 : compF Try.prog { mt := false, mode := .raw, clArgs := false, clRes := true } Try.f33 = some c33 := by kernel_rfl
/- beaconry/beaconrylaw10.Same -/
def c37 : AFunc := ⟨55, [.tmp 4],
  .seq (.region [
    ⟨(some 4), .mv (.c (.bool false)), none, []⟩]) (
  .seq (.seq (.region [
    ⟨(some 6), .mv (.t 0), none, []⟩,
    ⟨(some 7), .len false (.t 6), none, []⟩,
    ⟨(some 8), .mv (.t 1), none, []⟩,
    ⟨(some 9), .len false (.t 8), none, []⟩,
    ⟨(some 10), .bin .neq (.t 7) (.t 9), none, []⟩]) (
  .cond (.t 10) (
    .seq (.region [
      ⟨(some 4), .mv (.c (.bool false)), none, []⟩]) (
    .ret)) (
    .skip))) (
  .seq (.seq (.region [
    ⟨(some 5), .mv (.c (.int .i64 0)), none, []⟩]) (
  .block 0 (
    .loop (
      .seq (.seq (.region [
        ⟨(some 11), .mv (.t 5), none, []⟩,
        ⟨(some 12), .mv (.t 0), none, []⟩,
        ⟨(some 13), .len false (.t 12), none, []⟩,
        ⟨(some 14), .bin .lss (.t 11) (.t 13), none, []⟩]) (
      .cond (.t 14) (
        .skip) (
        .exit 0))) (
      .seq (.block 1 (
        .seq (.region [
          ⟨(some 17), .mv (.t 0), none, []⟩,
          ⟨(some 18), .mv (.t 5), none, []⟩,
          ⟨(some 19), .iaddrS 3 (.t 17) (.t 18), none, []⟩,
          ⟨(some 20), .faddr 0 (.t 19), none, []⟩,
          ⟨(some 21), .load 1 false (.t 20), none, []⟩,
          ⟨(some 22), .mv (.t 1), none, []⟩,
          ⟨(some 23), .mv (.t 5), none, []⟩,
          ⟨(some 24), .iaddrS 3 (.t 22) (.t 23), none, []⟩,
          ⟨(some 25), .faddr 0 (.t 24), none, []⟩,
          ⟨(some 26), .load 1 false (.t 25), none, []⟩,
          ⟨(some 27), .bin .neq (.t 21) (.t 26), none, []⟩,
          ⟨(some 28), .mv (.t 27), none, []⟩,
          ⟨(some 29), .mv (.t 0), (some (28, false)), []⟩,
          ⟨(some 30), .mv (.t 5), (some (28, false)), []⟩,
          ⟨(some 31), .iaddrS 3 (.t 29) (.t 30), (some (28, false)), []⟩,
          ⟨(some 32), .faddr 2 (.t 31), (some (28, false)), []⟩,
          ⟨(some 33), .load 1 false (.t 32), (some (28, false)), []⟩,
          ⟨(some 34), .mv (.t 1), (some (28, false)), []⟩,
          ⟨(some 35), .mv (.t 5), (some (28, false)), []⟩,
          ⟨(some 36), .iaddrS 3 (.t 34) (.t 35), (some (28, false)), []⟩,
          ⟨(some 37), .faddr 2 (.t 36), (some (28, false)), []⟩,
          ⟨(some 38), .load 1 false (.t 37), (some (28, false)), []⟩,
          ⟨(some 39), .bin .neq (.t 33) (.t 38), (some (28, false)), []⟩,
          ⟨(some 40), .pick (.t 28) (.c (.bool true)) (.t 39), none, []⟩,
          ⟨(some 41), .mv (.t 40), none, []⟩,
          ⟨(some 42), .mv (.t 0), (some (41, false)), []⟩,
          ⟨(some 43), .mv (.t 5), (some (41, false)), []⟩,
          ⟨(some 44), .iaddrS 3 (.t 42) (.t 43), (some (41, false)), []⟩,
          ⟨(some 45), .faddr 1 (.t 44), (some (41, false)), []⟩,
          ⟨(some 46), .load 1 false (.t 45), (some (41, false)), []⟩,
          ⟨(some 47), .mv (.t 1), (some (41, false)), []⟩,
          ⟨(some 48), .mv (.t 5), (some (41, false)), []⟩,
          ⟨(some 49), .iaddrS 3 (.t 47) (.t 48), (some (41, false)), []⟩,
          ⟨(some 50), .faddr 1 (.t 49), (some (41, false)), []⟩,
          ⟨(some 51), .load 1 false (.t 50), (some (41, false)), []⟩,
          ⟨(some 52), .call 54 [.t 46, .t 51], (some (41, false)), []⟩,
          ⟨(some 53), .un .not (.t 52), (some (41, false)), []⟩,
          ⟨(some 54), .pick (.t 41) (.c (.bool true)) (.t 53), none, []⟩]) (
        .cond (.t 54) (
          .seq (.region [
            ⟨(some 4), .mv (.c (.bool false)), none, []⟩]) (
          .ret)) (
          .skip)))) (
      .region [
        ⟨(some 15), .mv (.t 5), none, []⟩,
        ⟨(some 16), .bin .add (.t 15) (.c (.int .i64 1)), none, []⟩,
        ⟨(some 5), .mv (.t 16), none, []⟩])))))) (
  .seq (.region [
    ⟨(some 4), .mv (.c (.bool true)), none, []⟩]) (
  .ret)))),
  .pure, true, true⟩
theorem k37 : compF Try.prog { mt := false, mode := .pure, clArgs := true, clRes := true } Try.f37 = some c37 := by kernel_rfl
/- beaconry/value.Name -/
def c38 : AFunc := ⟨43, [.tmp 2],
  .seq (.region [
    ⟨(some 2), .mv (.c (.bool false)), none, []⟩]) (
  .seq (.seq (.region [
    ⟨(some 6), .mv (.t 0), none, []⟩,
    ⟨(some 7), .rng (.t 6), none, []⟩]) (
  .block 0 (
    .loop (
      .seq (.region [
        ⟨(some 8), .nxt (.t 7), none, []⟩,
        ⟨(some 9), .extract 0 (.t 8), none, []⟩]) (
      .seq (.cond (.t 9) (
        .skip) (
        .exit 0)) (
      .block 1 (
        .seq (.region [
          ⟨(some 10), .extract 1 (.t 8), none, []⟩,
          ⟨(some 11), .extract 2 (.t 8), none, []⟩,
          ⟨(some 3), .mv (.t 10), none, []⟩,
          ⟨(some 4), .mv (.t 11), none, []⟩]) (
        .seq (.region [
          ⟨(some 12), .mv (.t 4), none, []⟩,
          ⟨(some 13), .bin .geq (.t 12) (.c (.int .i32 97)), none, []⟩,
          ⟨(some 14), .mv (.t 13), none, []⟩,
          ⟨(some 15), .mv (.t 4), (some (14, true)), []⟩,
          ⟨(some 16), .bin .leq (.t 15) (.c (.int .i32 122)), (some (14, true)), []⟩,
          ⟨(some 17), .pick (.t 14) (.t 16) (.c (.bool false)), none, []⟩,
          ⟨(some 5), .mv (.t 17), none, []⟩]) (
        .seq (.region [
          ⟨(some 18), .mv (.t 5), none, []⟩,
          ⟨(some 19), .un .not (.t 18), none, []⟩,
          ⟨(some 20), .mv (.t 19), none, []⟩,
          ⟨(some 21), .mv (.t 3), (some (20, true)), []⟩,
          ⟨(some 22), .bin .eql (.t 21) (.c (.int .i64 0)), (some (20, true)), []⟩,
          ⟨(some 23), .mv (.t 22), (some (20, true)), []⟩,
          ⟨(some 24), .mv (.t 4), (some (23, false)), []⟩,
          ⟨(some 25), .bin .neq (.t 24) (.c (.int .i32 95)), (some (23, false)), []⟩,
          ⟨(some 26), .mv (.t 25), (some (23, false)), []⟩,
          ⟨(some 27), .mv (.t 4), (some (26, true)), []⟩,
          ⟨(some 28), .bin .lss (.t 27) (.c (.int .i32 48)), (some (26, true)), []⟩,
          ⟨(some 29), .mv (.t 28), (some (26, true)), []⟩,
          ⟨(some 30), .mv (.t 4), (some (29, false)), []⟩,
          ⟨(some 31), .bin .gtr (.t 30) (.c (.int .i32 57)), (some (29, false)), []⟩,
          ⟨(some 32), .pick (.t 29) (.c (.bool true)) (.t 31), (some (26, true)), []⟩,
          ⟨(some 33), .pick (.t 26) (.t 32) (.c (.bool false)), (some (23, false)), []⟩,
          ⟨(some 34), .pick (.t 23) (.c (.bool true)) (.t 33), (some (20, true)), []⟩,
          ⟨(some 35), .pick (.t 20) (.t 34) (.c (.bool false)), none, []⟩]) (
        .cond (.t 35) (
          .seq (.region [
            ⟨(some 2), .mv (.c (.bool false)), none, []⟩]) (
          .ret)) (
          .skip))))))))))) (
  .seq (.region [
    ⟨(some 36), .mv (.t 0), none, []⟩,
    ⟨(some 37), .bin .neq (.t 36) (.c (.str ⟨#[]⟩)), none, []⟩,
    ⟨(some 38), .mv (.t 37), none, []⟩,
    ⟨(some 39), .mv (.t 0), (some (38, true)), []⟩,
    ⟨(some 40), .len true (.t 39), (some (38, true)), []⟩,
    ⟨(some 41), .bin .leq (.t 40) (.c (.int .i64 16)), (some (38, true)), []⟩,
    ⟨(some 42), .pick (.t 38) (.t 41) (.c (.bool false)), none, []⟩,
    ⟨(some 2), .mv (.t 42), none, []⟩]) (
  .ret))),
  .pure, true, true⟩
theorem k38 : compF Try.prog { mt := false, mode := .pure, clArgs := true, clRes := true } Try.f38 = some c38 := by kernel_rfl
/- beaconry/frame.near -/
def c39 : AFunc := ⟨9, [.tmp 2],
  .seq (.region [
    ⟨(some 2), .mv (.c (.bool false)), none, []⟩]) (
  .seq (.region [
    ⟨(some 3), .mv (.t 0), none, []⟩,
    ⟨(some 4), .bin .geq (.t 3) (.c (.int .i64 0)), none, []⟩,
    ⟨(some 5), .mv (.t 4), none, []⟩,
    ⟨(some 6), .mv (.t 0), (some (5, true)), []⟩,
    ⟨(some 7), .bin .leq (.t 6) (.c (.int .i64 1099511627776)), (some (5, true)), []⟩,
    ⟨(some 8), .pick (.t 5) (.t 7) (.c (.bool false)), none, []⟩,
    ⟨(some 2), .mv (.t 8), none, []⟩]) (
  .ret)),
  .pure, true, true⟩
theorem k39 : compF Try.prog { mt := false, mode := .pure, clArgs := true, clRes := true } Try.f39 = some c39 := by kernel_rfl
/- beaconry/frame.rightRow -/
def c40 : AFunc := ⟨55, [.tmp 4],
  .seq (.region [
    ⟨(some 2), .box (.t 0), none, []⟩,
    ⟨(some 4), .mv (.c (.bool false)), none, []⟩]) (
  .seq (.seq (.region [
    ⟨(some 7), .faddr 0 (.t 2), none, []⟩,
    ⟨(some 8), .load 1 false (.t 7), none, []⟩,
    ⟨(some 9), .call 38 [.t 8], none, []⟩,
    ⟨(some 10), .un .not (.t 9), none, []⟩,
    ⟨(some 11), .mv (.t 10), none, []⟩,
    ⟨(some 12), .faddr 1 (.t 2), (some (11, false)), []⟩,
    ⟨(some 13), .load 1 false (.t 12), (some (11, false)), []⟩,
    ⟨(some 14), .len false (.t 13), (some (11, false)), []⟩,
    ⟨(some 15), .bin .lss (.t 14) (.c (.int .i64 1)), (some (11, false)), []⟩,
    ⟨(some 16), .pick (.t 11) (.c (.bool true)) (.t 15), none, []⟩,
    ⟨(some 17), .mv (.t 16), none, []⟩,
    ⟨(some 18), .faddr 1 (.t 2), (some (17, false)), []⟩,
    ⟨(some 19), .load 1 false (.t 18), (some (17, false)), []⟩,
    ⟨(some 20), .len false (.t 19), (some (17, false)), []⟩,
    ⟨(some 21), .bin .gtr (.t 20) (.c (.int .i64 8)), (some (17, false)), []⟩,
    ⟨(some 22), .pick (.t 17) (.c (.bool true)) (.t 21), none, []⟩,
    ⟨(some 23), .mv (.t 22), none, []⟩,
    ⟨(some 24), .faddr 2 (.t 2), (some (23, false)), []⟩,
    ⟨(some 25), .load 1 false (.t 24), (some (23, false)), []⟩,
    ⟨(some 26), .call 39 [.t 25], (some (23, false)), []⟩,
    ⟨(some 27), .un .not (.t 26), (some (23, false)), []⟩,
    ⟨(some 28), .pick (.t 23) (.c (.bool true)) (.t 27), none, []⟩]) (
  .cond (.t 28) (
    .seq (.region [
      ⟨(some 4), .mv (.c (.bool false)), none, []⟩]) (
    .ret)) (
    .skip))) (
  .seq (.seq (.region [
    ⟨(some 29), .faddr 1 (.t 2), none, []⟩,
    ⟨(some 30), .load 1 false (.t 29), none, []⟩,
    ⟨(some 31), .len false (.t 30), none, []⟩,
    ⟨(some 32), .mv (.c (.int .i64 0)), none, []⟩]) (
  .block 0 (
    .loop (
      .seq (.region [
        ⟨(some 33), .bin .lss (.t 32) (.t 31), none, []⟩]) (
      .seq (.cond (.t 33) (
        .skip) (
        .exit 0)) (
      .seq (.block 1 (
        .seq (.region [
          ⟨(some 34), .iaddrS 4 (.t 30) (.t 32), none, []⟩,
          ⟨(some 35), .load 4 true (.t 34), none, []⟩,
          ⟨(some 6), .alloc [.int .i64 0, .int .i64 0, .str ⟨#[]⟩, .isl [] true], none, []⟩,
          ⟨none, .store 4 (.t 6) (.t 35), none, []⟩]) (
        .seq (.region [
          ⟨(some 36), .load 4 true (.t 6), none, []⟩,
          ⟨(some 37), .call 55 [.t 36], none, []⟩,
          ⟨(some 38), .un .not (.t 37), none, []⟩]) (
        .cond (.t 38) (
          .seq (.region [
            ⟨(some 4), .mv (.c (.bool false)), none, []⟩]) (
          .ret)) (
          .skip))))) (
      .region [
        ⟨(some 39), .bin .add (.t 32) (.c (.int .i64 1)), none, []⟩,
        ⟨(some 32), .mv (.t 39), none, []⟩]))))))) (
  .seq (.region [
    ⟨(some 40), .faddr 1 (.t 2), none, []⟩,
    ⟨(some 41), .load 1 false (.t 40), none, []⟩,
    ⟨(some 42), .iaddrS 4 (.t 41) (.c (.int .i64 0)), none, []⟩,
    ⟨(some 43), .faddr 0 (.t 42), none, []⟩,
    ⟨(some 44), .load 1 false (.t 43), none, []⟩,
    ⟨(some 45), .bin .eql (.t 44) (.c (.int .i64 3)), none, []⟩,
    ⟨(some 46), .mv (.t 45), none, []⟩,
    ⟨(some 47), .faddr 1 (.t 2), (some (46, true)), []⟩,
    ⟨(some 48), .load 1 false (.t 47), (some (46, true)), []⟩,
    ⟨(some 49), .iaddrS 4 (.t 48) (.c (.int .i64 0)), (some (46, true)), []⟩,
    ⟨(some 50), .faddr 2 (.t 49), (some (46, true)), []⟩,
    ⟨(some 51), .load 1 false (.t 50), (some (46, true)), []⟩,
    ⟨(some 52), .mv (.t 1), (some (46, true)), []⟩,
    ⟨(some 53), .bin .eql (.t 51) (.t 52), (some (46, true)), []⟩,
    ⟨(some 54), .pick (.t 46) (.t 53) (.c (.bool false)), none, []⟩,
    ⟨(some 4), .mv (.t 54), none, []⟩]) (
  .ret)))),
  .pure, true, true⟩
theorem k40 : compF Try.prog { mt := false, mode := .pure, clArgs := true, clRes := true } Try.f40 = some c40 := by kernel_rfl
/- beaconry/fire.Compare -/
def c41 : AFunc := ⟨19, [.tmp 4],
  .seq (.region [
    ⟨(some 2), .box (.t 0), none, []⟩,
    ⟨(some 3), .box (.t 1), none, []⟩,
    ⟨(some 4), .mv (.c (.int .i64 0)), none, []⟩]) (
  .seq (.seq (.region [
    ⟨(some 6), .faddr 0 (.t 2), none, []⟩,
    ⟨(some 7), .load 1 false (.t 6), none, []⟩,
    ⟨(some 8), .faddr 0 (.t 3), none, []⟩,
    ⟨(some 9), .load 1 false (.t 8), none, []⟩,
    ⟨(some 10), .call 56 [.t 7, .t 9], none, []⟩,
    ⟨(some 5), .mv (.t 10), none, []⟩]) (
  .seq (.region [
    ⟨(some 11), .mv (.t 5), none, []⟩,
    ⟨(some 12), .bin .neq (.t 11) (.c (.int .i64 0)), none, []⟩]) (
  .cond (.t 12) (
    .seq (.region [
      ⟨(some 13), .mv (.t 5), none, []⟩,
      ⟨(some 4), .mv (.t 13), none, []⟩]) (
    .ret)) (
    .skip)))) (
  .seq (.region [
    ⟨(some 14), .faddr 1 (.t 2), none, []⟩,
    ⟨(some 15), .load 1 false (.t 14), none, []⟩,
    ⟨(some 16), .faddr 1 (.t 3), none, []⟩,
    ⟨(some 17), .load 1 false (.t 16), none, []⟩,
    ⟨(some 18), .call 57 [.t 15, .t 17, .f 58], none, []⟩,
    ⟨(some 4), .mv (.t 18), none, []⟩]) (
  .ret))),
  .pure, true, true⟩
theorem k41 : compF Try.prog { mt := false, mode := .pure, clArgs := true, clRes := true } Try.f41 = some c41 := by kernel_rfl
/- (*beaconry/frame.taker).take -/
def c51 : AFunc := ⟨38, [.tmp 4],
  .seq (.region [
    ⟨(some 4), .mv (.c (.str ⟨#[]⟩)), none, []⟩]) (
  .seq (.seq (.region [
    ⟨(some 6), .mv (.t 0), none, []⟩,
    ⟨(some 7), .nilck (.t 6), none, []⟩,
    ⟨(some 8), .faddr 1 (.t 7), none, []⟩,
    ⟨(some 9), .load 1 false (.t 8), none, []⟩,
    ⟨(some 10), .mv (.t 9), none, []⟩,
    ⟨(some 11), .mv (.t 1), (some (10, false)), []⟩,
    ⟨(some 12), .mv (.t 0), (some (10, false)), []⟩,
    ⟨(some 13), .nilck (.t 12), (some (10, false)), []⟩,
    ⟨(some 14), .faddr 0 (.t 13), (some (10, false)), []⟩,
    ⟨(some 15), .load 1 false (.t 14), (some (10, false)), []⟩,
    ⟨(some 16), .len true (.t 15), (some (10, false)), []⟩,
    ⟨(some 17), .bin .gtr (.t 11) (.t 16), (some (10, false)), []⟩,
    ⟨(some 18), .pick (.t 10) (.c (.bool true)) (.t 17), none, []⟩]) (
  .cond (.t 18) (
    .seq (.region [
      ⟨(some 19), .mv (.t 0), none, []⟩,
      ⟨(some 20), .nilck (.t 19), none, []⟩,
      ⟨(some 21), .faddr 1 (.t 20), none, []⟩,
      ⟨none, .store 1 (.t 21) (.c (.bool true)), none, []⟩]) (
    .seq (.region [
      ⟨(some 4), .mv (.c (.str ⟨#[]⟩)), none, []⟩]) (
    .ret))) (
    .skip))) (
  .seq (.region [
    ⟨(some 22), .mv (.t 0), none, []⟩,
    ⟨(some 23), .nilck (.t 22), none, []⟩,
    ⟨(some 24), .faddr 0 (.t 23), none, []⟩,
    ⟨(some 25), .load 1 false (.t 24), none, []⟩,
    ⟨(some 26), .mv (.t 1), none, []⟩,
    ⟨(some 27), .strSl (.t 25) none (some (.t 26)), none, []⟩,
    ⟨(some 5), .mv (.t 27), none, []⟩]) (
  .seq (.region [
    ⟨(some 28), .mv (.t 0), none, []⟩,
    ⟨(some 29), .mv (.t 0), none, []⟩,
    ⟨(some 30), .nilck (.t 29), none, []⟩,
    ⟨(some 31), .faddr 0 (.t 30), none, []⟩,
    ⟨(some 32), .load 1 false (.t 31), none, []⟩,
    ⟨(some 33), .mv (.t 1), none, []⟩,
    ⟨(some 34), .strSl (.t 32) (some (.t 33)) none, none, []⟩,
    ⟨(some 35), .nilck (.t 28), none, []⟩,
    ⟨(some 36), .faddr 0 (.t 35), none, []⟩,
    ⟨none, .store 1 (.t 36) (.t 34), none, []⟩]) (
  .seq (.region [
    ⟨(some 37), .mv (.t 5), none, []⟩,
    ⟨(some 4), .mv (.t 37), none, []⟩]) (
  .ret))))),
  .raw, false, true⟩
theorem k51 : compF Try.prog { mt := false, mode := .raw, clArgs := false, clRes := true } Try.f51 = some c51 := by kernel_rfl
/- (*beaconry/frame.taker).value -/
def c52 : AFunc := ⟨60, [.cell 4 4 true],
  .seq (.region [
    ⟨(some 4), .alloc [.int .i64 0, .int .i64 0, .str ⟨#[]⟩, .isl [] true], none, []⟩]) (
  .seq (.region [
    ⟨(some 6), .mv (.t 0), none, []⟩,
    ⟨(some 7), .call 32 [.t 6, .c (.int .i64 1)], none, []⟩,
    ⟨(some 8), .faddr 0 (.t 4), none, []⟩,
    ⟨none, .store 1 (.t 8) (.t 7), none, []⟩]) (
  .seq (.seq (.region [
    ⟨(some 9), .faddr 0 (.t 4), none, []⟩,
    ⟨(some 10), .load 1 false (.t 9), none, []⟩]) (
  .block 0 (
    .seq (.region [
      ⟨(some 15), .bin .eql (.t 10) (.c (.int .i64 1)), none, []⟩,
      ⟨(some 14), .mv (.t 15), none, []⟩]) (
    .cond (.t 14) (
      .region [
        ⟨(some 16), .mv (.t 0), none, []⟩,
        ⟨(some 17), .call 32 [.t 16, .c (.int .i64 8)], none, []⟩,
        ⟨(some 18), .faddr 1 (.t 4), none, []⟩,
        ⟨none, .store 1 (.t 18) (.t 17), none, []⟩]) (
      .seq (.seq (.region [
        ⟨(some 20), .bin .eql (.t 10) (.c (.int .i64 2)), none, []⟩,
        ⟨(some 19), .mv (.t 20), none, []⟩]) (
      .cond (.t 19) (
        .skip) (
        .region [
          ⟨(some 21), .bin .eql (.t 10) (.c (.int .i64 3)), none, []⟩,
          ⟨(some 19), .mv (.t 21), none, []⟩]))) (
      .cond (.t 19) (
        .region [
          ⟨(some 22), .mv (.t 0), none, []⟩,
          ⟨(some 23), .call 31 [.t 22], none, []⟩,
          ⟨(some 24), .faddr 2 (.t 4), none, []⟩,
          ⟨none, .store 1 (.t 24) (.t 23), none, []⟩]) (
        .seq (.region [
          ⟨(some 26), .bin .eql (.t 10) (.c (.int .i64 4)), none, []⟩,
          ⟨(some 25), .mv (.t 26), none, []⟩]) (
        .cond (.t 25) (
          .seq (.region [
            ⟨(some 27), .mv (.t 0), none, []⟩,
            ⟨(some 28), .call 32 [.t 27, .c (.int .i64 1)], none, []⟩,
            ⟨(some 5), .mv (.t 28), none, []⟩]) (
          .seq (.region [
            ⟨(some 29), .mv (.t 0), none, []⟩,
            ⟨(some 30), .mv (.t 0), none, []⟩,
            ⟨(some 31), .nilck (.t 30), none, []⟩,
            ⟨(some 32), .faddr 1 (.t 31), none, []⟩,
            ⟨(some 33), .load 1 false (.t 32), none, []⟩,
            ⟨(some 34), .mv (.t 33), none, []⟩,
            ⟨(some 35), .mv (.t 1), (some (34, false)), []⟩,
            ⟨(some 36), .bin .eql (.t 35) (.c (.int .i64 0)), (some (34, false)), []⟩,
            ⟨(some 37), .pick (.t 34) (.c (.bool true)) (.t 36), none, []⟩,
            ⟨(some 38), .nilck (.t 29), none, []⟩,
            ⟨(some 39), .faddr 1 (.t 38), none, []⟩,
            ⟨none, .store 1 (.t 39) (.t 37), none, []⟩]) (
          .block 1 (
            .loop (
              .seq (.seq (.region [
                ⟨(some 40), .mv (.t 5), none, []⟩,
                ⟨(some 41), .bin .gtr (.t 40) (.c (.int .i64 0)), none, []⟩,
                ⟨(some 42), .mv (.t 41), none, []⟩,
                ⟨(some 43), .mv (.t 0), (some (42, true)), []⟩,
                ⟨(some 44), .nilck (.t 43), (some (42, true)), []⟩,
                ⟨(some 45), .faddr 1 (.t 44), (some (42, true)), []⟩,
                ⟨(some 46), .load 1 false (.t 45), (some (42, true)), []⟩,
                ⟨(some 47), .un .not (.t 46), (some (42, true)), []⟩,
                ⟨(some 48), .pick (.t 42) (.t 47) (.c (.bool false)), none, []⟩]) (
              .cond (.t 48) (
                .skip) (
                .exit 1))) (
              .seq (.block 2 (
                .region [
                  ⟨(some 51), .faddr 3 (.t 4), none, []⟩,
                  ⟨(some 52), .load 1 false (.t 51), none, []⟩,
                  ⟨(some 53), .mv (.t 0), none, []⟩,
                  ⟨(some 54), .mv (.t 1), none, []⟩,
                  ⟨(some 55), .bin .sub (.t 54) (.c (.int .i64 1)), none, []⟩,
                  ⟨(some 56), .call 52 [.t 53, .t 55], none, [.t 51]⟩,
                  ⟨(some 57), .buildSl 1 4 true [.int .i64 0, .int .i64 0, .str ⟨#[]⟩, .isl [] true] [(0, 4, .t 56)], none, []⟩,
                  ⟨(some 58), .append 4 true 56 false (.t 52) (.t 57), none, []⟩,
                  ⟨(some 59), .faddr 3 (.t 4), none, []⟩,
                  ⟨none, .store 1 (.t 59) (.t 58), none, []⟩])) (
              .region [
                ⟨(some 49), .mv (.t 5), none, []⟩,
                ⟨(some 50), .bin .sub (.t 49) (.c (.int .i64 1)), none, []⟩,
                ⟨(some 5), .mv (.t 50), none, []⟩]))))))) (
          .region [
            ⟨(some 11), .mv (.t 0), none, []⟩,
            ⟨(some 12), .nilck (.t 11), none, []⟩,
            ⟨(some 13), .faddr 1 (.t 12), none, []⟩,
            ⟨none, .store 1 (.t 13) (.c (.bool true)), none, []⟩]))))))))) (
  .ret))),
  .raw, false, true⟩
theorem k52 : compF Try.prog { mt := false, mode := .raw, clArgs := false, clRes := true } Try.f52 = some c52 := by kernel_rfl
/- beaconry/beaconrylaw01.Values -/
def c54 : AFunc := ⟨29, [.tmp 4],
  .seq (.region [
    ⟨(some 4), .mv (.c (.bool false)), none, []⟩]) (
  .seq (.seq (.region [
    ⟨(some 7), .mv (.t 0), none, []⟩,
    ⟨(some 8), .len false (.t 7), none, []⟩,
    ⟨(some 9), .mv (.t 1), none, []⟩,
    ⟨(some 10), .len false (.t 9), none, []⟩,
    ⟨(some 11), .bin .neq (.t 8) (.t 10), none, []⟩]) (
  .cond (.t 11) (
    .seq (.region [
      ⟨(some 4), .mv (.c (.bool false)), none, []⟩]) (
    .ret)) (
    .skip))) (
  .seq (.seq (.region [
    ⟨(some 5), .mv (.c (.int .i64 0)), none, []⟩]) (
  .block 0 (
    .loop (
      .seq (.seq (.region [
        ⟨(some 12), .mv (.t 5), none, []⟩,
        ⟨(some 13), .mv (.t 0), none, []⟩,
        ⟨(some 14), .len false (.t 13), none, []⟩,
        ⟨(some 15), .bin .lss (.t 12) (.t 14), none, []⟩]) (
      .cond (.t 15) (
        .skip) (
        .exit 0))) (
      .seq (.block 1 (
        .seq (.region [
          ⟨(some 18), .mv (.t 0), none, []⟩,
          ⟨(some 19), .mv (.t 5), none, []⟩,
          ⟨(some 20), .iaddrS 4 (.t 18) (.t 19), none, []⟩,
          ⟨(some 21), .load 4 true (.t 20), none, []⟩,
          ⟨(some 22), .mv (.t 1), none, []⟩,
          ⟨(some 23), .mv (.t 5), none, []⟩,
          ⟨(some 24), .iaddrS 4 (.t 22) (.t 23), none, []⟩,
          ⟨(some 25), .load 4 true (.t 24), none, []⟩,
          ⟨(some 26), .call 71 [.t 21, .t 25], none, []⟩,
          ⟨(some 6), .mv (.t 26), none, []⟩]) (
        .seq (.region [
          ⟨(some 27), .mv (.t 6), none, []⟩,
          ⟨(some 28), .un .not (.t 27), none, []⟩]) (
        .cond (.t 28) (
          .seq (.region [
            ⟨(some 4), .mv (.c (.bool false)), none, []⟩]) (
          .ret)) (
          .skip))))) (
      .region [
        ⟨(some 16), .mv (.t 5), none, []⟩,
        ⟨(some 17), .bin .add (.t 16) (.c (.int .i64 1)), none, []⟩,
        ⟨(some 5), .mv (.t 17), none, []⟩])))))) (
  .seq (.region [
    ⟨(some 4), .mv (.c (.bool true)), none, []⟩]) (
  .ret)))),
  .pure, true, true⟩
theorem k54 : compF Try.prog { mt := false, mode := .pure, clArgs := true, clRes := true } Try.f54 = some c54 := by kernel_rfl
/- beaconry/value.Right -/
def c55 : AFunc := ⟨5, [.tmp 2],
  .seq (.region [
    ⟨(some 1), .box (.t 0), none, []⟩,
    ⟨(some 2), .mv (.c (.bool false)), none, []⟩]) (
  .seq (.region [
    ⟨(some 3), .load 4 true (.t 1), none, []⟩,
    ⟨(some 4), .call 72 [.t 3, .c (.int .i64 4)], none, []⟩,
    ⟨(some 2), .mv (.t 4), none, []⟩]) (
  .ret)),
  .pure, true, true⟩
theorem k55 : compF Try.prog { mt := false, mode := .pure, clArgs := true, clRes := true } Try.f55 = some c55 := by kernel_rfl
/- strings.Compare -/
def c56 : AFunc := ⟨8, [.tmp 4],
  .seq (.region [
    ⟨(some 4), .mv (.c (.int .i64 0)), none, []⟩]) (
  .seq (.region [
    ⟨(some 5), .mv (.t 0), none, []⟩,
    ⟨(some 6), .mv (.t 1), none, []⟩,
    ⟨(some 7), .call 73 [.t 5, .t 6], none, []⟩,
    ⟨(some 4), .mv (.t 7), none, []⟩]) (
  .ret)),
  .pure, true, true⟩
theorem k56 : compF Try.prog { mt := false, mode := .pure, clArgs := true, clRes := true } Try.f56 = some c56 := by kernel_rfl
/- slices.CompareFunc[[]beaconry/api.Value,[]beaconry/api.Value,beaconry/api.Value,beaconry/api.Value] -/
def c57 : AFunc := ⟨39, [.tmp 6],
  .seq (.region [
    ⟨(some 6), .mv (.c (.int .i64 0)), none, []⟩]) (
  .seq (.seq (.region [
    ⟨(some 11), .mv (.t 0), none, []⟩,
    ⟨(some 12), .len false (.t 11), none, []⟩,
    ⟨(some 13), .mv (.c (.int .i64 0)), none, []⟩]) (
  .block 0 (
    .loop (
      .seq (.region [
        ⟨(some 14), .bin .lss (.t 13) (.t 12), none, []⟩]) (
      .seq (.cond (.t 14) (
        .skip) (
        .exit 0)) (
      .seq (.block 1 (
        .seq (.region [
          ⟨(some 15), .mv (.t 13), none, []⟩,
          ⟨(some 16), .iaddrS 4 (.t 11) (.t 13), none, []⟩,
          ⟨(some 17), .load 4 true (.t 16), none, []⟩,
          ⟨(some 8), .alloc [.int .i64 0, .int .i64 0, .str ⟨#[]⟩, .isl [] true], none, []⟩,
          ⟨(some 7), .mv (.t 15), none, []⟩,
          ⟨none, .store 4 (.t 8) (.t 17), none, []⟩]) (
        .seq (.seq (.region [
          ⟨(some 18), .mv (.t 7), none, []⟩,
          ⟨(some 19), .mv (.t 1), none, []⟩,
          ⟨(some 20), .len false (.t 19), none, []⟩,
          ⟨(some 21), .bin .geq (.t 18) (.t 20), none, []⟩]) (
        .cond (.t 21) (
          .seq (.region [
            ⟨(some 6), .mv (.c (.int .i64 1)), none, []⟩]) (
          .ret)) (
          .skip))) (
        .seq (.region [
          ⟨(some 22), .mv (.t 1), none, []⟩,
          ⟨(some 23), .mv (.t 7), none, []⟩,
          ⟨(some 24), .iaddrS 4 (.t 22) (.t 23), none, []⟩,
          ⟨(some 25), .load 4 true (.t 24), none, []⟩,
          ⟨(some 9), .alloc [.int .i64 0, .int .i64 0, .str ⟨#[]⟩, .isl [] true], none, []⟩,
          ⟨none, .store 4 (.t 9) (.t 25), none, []⟩]) (
        .seq (.region [
          ⟨(some 26), .mv (.t 2), none, []⟩,
          ⟨(some 27), .load 4 true (.t 8), none, []⟩,
          ⟨(some 28), .load 4 true (.t 9), none, []⟩,
          ⟨(some 29), .callv (.t 26) [.t 27, .t 28], none, []⟩,
          ⟨(some 10), .mv (.t 29), none, []⟩]) (
        .seq (.region [
          ⟨(some 30), .mv (.t 10), none, []⟩,
          ⟨(some 31), .bin .neq (.t 30) (.c (.int .i64 0)), none, []⟩]) (
        .cond (.t 31) (
          .seq (.region [
            ⟨(some 32), .mv (.t 10), none, []⟩,
            ⟨(some 6), .mv (.t 32), none, []⟩]) (
          .ret)) (
          .skip)))))))) (
      .region [
        ⟨(some 33), .bin .add (.t 13) (.c (.int .i64 1)), none, []⟩,
        ⟨(some 13), .mv (.t 33), none, []⟩]))))))) (
  .seq (.seq (.region [
    ⟨(some 34), .mv (.t 0), none, []⟩,
    ⟨(some 35), .len false (.t 34), none, []⟩,
    ⟨(some 36), .mv (.t 1), none, []⟩,
    ⟨(some 37), .len false (.t 36), none, []⟩,
    ⟨(some 38), .bin .lss (.t 35) (.t 37), none, []⟩]) (
  .cond (.t 38) (
    .seq (.region [
      ⟨(some 6), .mv (.c (.int .i64 (-1))), none, []⟩]) (
    .ret)) (
    .skip))) (
  .seq (.region [
    ⟨(some 6), .mv (.c (.int .i64 0)), none, []⟩]) (
  .ret)))),
  .pure, true, true⟩
theorem k57 : compF Try.prog { mt := false, mode := .pure, clArgs := true, clRes := true } Try.f57 = some c57 := by kernel_rfl
/- beaconry/value.Compare -/
def c58 : AFunc := ⟨38, [.tmp 4],
  .seq (.region [
    ⟨(some 2), .box (.t 0), none, []⟩,
    ⟨(some 3), .box (.t 1), none, []⟩,
    ⟨(some 4), .mv (.c (.int .i64 0)), none, []⟩]) (
  .seq (.seq (.region [
    ⟨(some 6), .faddr 0 (.t 2), none, []⟩,
    ⟨(some 7), .load 1 false (.t 6), none, []⟩,
    ⟨(some 8), .faddr 0 (.t 3), none, []⟩,
    ⟨(some 9), .load 1 false (.t 8), none, []⟩,
    ⟨(some 10), .call 68 [.t 7, .t 9], none, []⟩,
    ⟨(some 5), .mv (.t 10), none, []⟩]) (
  .seq (.region [
    ⟨(some 11), .mv (.t 5), none, []⟩,
    ⟨(some 12), .bin .neq (.t 11) (.c (.int .i64 0)), none, []⟩]) (
  .cond (.t 12) (
    .seq (.region [
      ⟨(some 13), .mv (.t 5), none, []⟩,
      ⟨(some 4), .mv (.t 13), none, []⟩]) (
    .ret)) (
    .skip)))) (
  .seq (.seq (.region [
    ⟨(some 14), .faddr 0 (.t 2), none, []⟩,
    ⟨(some 15), .load 1 false (.t 14), none, []⟩]) (
  .block 0 (
    .seq (.region [
      ⟨(some 17), .bin .eql (.t 15) (.c (.int .i64 1)), none, []⟩,
      ⟨(some 16), .mv (.t 17), none, []⟩]) (
    .cond (.t 16) (
      .seq (.region [
        ⟨(some 18), .faddr 1 (.t 2), none, []⟩,
        ⟨(some 19), .load 1 false (.t 18), none, []⟩,
        ⟨(some 20), .faddr 1 (.t 3), none, []⟩,
        ⟨(some 21), .load 1 false (.t 20), none, []⟩,
        ⟨(some 22), .call 68 [.t 19, .t 21], none, []⟩,
        ⟨(some 4), .mv (.t 22), none, []⟩]) (
      .ret)) (
      .seq (.seq (.region [
        ⟨(some 24), .bin .eql (.t 15) (.c (.int .i64 2)), none, []⟩,
        ⟨(some 23), .mv (.t 24), none, []⟩]) (
      .cond (.t 23) (
        .skip) (
        .region [
          ⟨(some 25), .bin .eql (.t 15) (.c (.int .i64 3)), none, []⟩,
          ⟨(some 23), .mv (.t 25), none, []⟩]))) (
      .cond (.t 23) (
        .seq (.region [
          ⟨(some 26), .faddr 2 (.t 2), none, []⟩,
          ⟨(some 27), .load 1 false (.t 26), none, []⟩,
          ⟨(some 28), .faddr 2 (.t 3), none, []⟩,
          ⟨(some 29), .load 1 false (.t 28), none, []⟩,
          ⟨(some 30), .call 56 [.t 27, .t 29], none, []⟩,
          ⟨(some 4), .mv (.t 30), none, []⟩]) (
        .ret)) (
        .seq (.region [
          ⟨(some 32), .bin .eql (.t 15) (.c (.int .i64 4)), none, []⟩,
          ⟨(some 31), .mv (.t 32), none, []⟩]) (
        .cond (.t 31) (
          .seq (.region [
            ⟨(some 33), .faddr 3 (.t 2), none, []⟩,
            ⟨(some 34), .load 1 false (.t 33), none, []⟩,
            ⟨(some 35), .faddr 3 (.t 3), none, []⟩,
            ⟨(some 36), .load 1 false (.t 35), none, []⟩,
            ⟨(some 37), .call 57 [.t 34, .t 36, .f 58], none, []⟩,
            ⟨(some 4), .mv (.t 37), none, []⟩]) (
          .ret)) (
          .skip))))))))) (
  .seq (.region [
    ⟨(some 4), .mv (.c (.int .i64 0)), none, []⟩]) (
  .ret)))),
  .pure, true, true⟩
theorem k58 : compF Try.prog { mt := false, mode := .pure, clArgs := true, clRes := true } Try.f58 = some c58 := by kernel_rfl
/- cmp.Compare[int] -/
def c68 : AFunc := ⟨20, [.tmp 4],
  .seq (.region [
    ⟨(some 4), .mv (.c (.int .i64 0)), none, []⟩]) (
  .seq (.region [
    ⟨(some 7), .mv (.t 0), none, []⟩,
    ⟨(some 8), .call 76 [.t 7], none, []⟩,
    ⟨(some 5), .mv (.t 8), none, []⟩]) (
  .seq (.region [
    ⟨(some 9), .mv (.t 1), none, []⟩,
    ⟨(some 10), .call 76 [.t 9], none, []⟩,
    ⟨(some 6), .mv (.t 10), none, []⟩]) (
  .seq (.seq (.region [
    ⟨(some 11), .mv (.t 5), none, []⟩]) (
  .cond (.t 11) (
    .seq (.seq (.region [
      ⟨(some 12), .mv (.t 6), none, []⟩]) (
    .cond (.t 12) (
      .seq (.region [
        ⟨(some 4), .mv (.c (.int .i64 0)), none, []⟩]) (
      .ret)) (
      .skip))) (
    .seq (.region [
      ⟨(some 4), .mv (.c (.int .i64 (-1))), none, []⟩]) (
    .ret))) (
    .skip))) (
  .seq (.seq (.region [
    ⟨(some 13), .mv (.t 6), none, []⟩]) (
  .cond (.t 13) (
    .seq (.region [
      ⟨(some 4), .mv (.c (.int .i64 1)), none, []⟩]) (
    .ret)) (
    .skip))) (
  .seq (.seq (.region [
    ⟨(some 14), .mv (.t 0), none, []⟩,
    ⟨(some 15), .mv (.t 1), none, []⟩,
    ⟨(some 16), .bin .lss (.t 14) (.t 15), none, []⟩]) (
  .cond (.t 16) (
    .seq (.region [
      ⟨(some 4), .mv (.c (.int .i64 (-1))), none, []⟩]) (
    .ret)) (
    .skip))) (
  .seq (.seq (.region [
    ⟨(some 17), .mv (.t 0), none, []⟩,
    ⟨(some 18), .mv (.t 1), none, []⟩,
    ⟨(some 19), .bin .gtr (.t 17) (.t 18), none, []⟩]) (
  .cond (.t 19) (
    .seq (.region [
      ⟨(some 4), .mv (.c (.int .i64 1)), none, []⟩]) (
    .ret)) (
    .skip))) (
  .seq (.region [
    ⟨(some 4), .mv (.c (.int .i64 0)), none, []⟩]) (
  .ret)))))))),
  .pure, true, true⟩
theorem k68 : compF Try.prog { mt := false, mode := .pure, clArgs := true, clRes := true } Try.f68 = some c68 := by kernel_rfl
/- beaconry/beaconrylaw01.Same -/
def c71 : AFunc := ⟨31, [.tmp 4],
  .seq (.region [
    ⟨(some 2), .box (.t 0), none, []⟩,
    ⟨(some 3), .box (.t 1), none, []⟩,
    ⟨(some 4), .mv (.c (.bool false)), none, []⟩]) (
  .seq (.region [
    ⟨(some 5), .faddr 0 (.t 2), none, []⟩,
    ⟨(some 6), .load 1 false (.t 5), none, []⟩,
    ⟨(some 7), .faddr 0 (.t 3), none, []⟩,
    ⟨(some 8), .load 1 false (.t 7), none, []⟩,
    ⟨(some 9), .bin .eql (.t 6) (.t 8), none, []⟩,
    ⟨(some 10), .mv (.t 9), none, []⟩,
    ⟨(some 11), .faddr 1 (.t 2), (some (10, true)), []⟩,
    ⟨(some 12), .load 1 false (.t 11), (some (10, true)), []⟩,
    ⟨(some 13), .faddr 1 (.t 3), (some (10, true)), []⟩,
    ⟨(some 14), .load 1 false (.t 13), (some (10, true)), []⟩,
    ⟨(some 15), .bin .eql (.t 12) (.t 14), (some (10, true)), []⟩,
    ⟨(some 16), .pick (.t 10) (.t 15) (.c (.bool false)), none, []⟩,
    ⟨(some 17), .mv (.t 16), none, []⟩,
    ⟨(some 18), .faddr 2 (.t 2), (some (17, true)), []⟩,
    ⟨(some 19), .load 1 false (.t 18), (some (17, true)), []⟩,
    ⟨(some 20), .faddr 2 (.t 3), (some (17, true)), []⟩,
    ⟨(some 21), .load 1 false (.t 20), (some (17, true)), []⟩,
    ⟨(some 22), .bin .eql (.t 19) (.t 21), (some (17, true)), []⟩,
    ⟨(some 23), .pick (.t 17) (.t 22) (.c (.bool false)), none, []⟩,
    ⟨(some 24), .mv (.t 23), none, []⟩,
    ⟨(some 25), .faddr 3 (.t 2), (some (24, true)), []⟩,
    ⟨(some 26), .load 1 false (.t 25), (some (24, true)), []⟩,
    ⟨(some 27), .faddr 3 (.t 3), (some (24, true)), []⟩,
    ⟨(some 28), .load 1 false (.t 27), (some (24, true)), []⟩,
    ⟨(some 29), .call 54 [.t 26, .t 28], (some (24, true)), []⟩,
    ⟨(some 30), .pick (.t 24) (.t 29) (.c (.bool false)), none, []⟩,
    ⟨(some 4), .mv (.t 30), none, []⟩]) (
  .ret)),
  .pure, true, true⟩
theorem k71 : compF Try.prog { mt := false, mode := .pure, clArgs := true, clRes := true } Try.f71 = some c71 := by kernel_rfl
/- beaconry/value.right -/
def c72 : AFunc := ⟨67, [.tmp 4],
  .seq (.region [
    ⟨(some 2), .box (.t 0), none, []⟩,
    ⟨(some 3), .box (.t 1), none, []⟩,
    ⟨(some 4), .mv (.c (.bool false)), none, []⟩]) (
  .seq (.region [
    ⟨(some 6), .load 4 true (.t 2), none, []⟩,
    ⟨(some 5), .alloc [.int .i64 0, .int .i64 0, .str ⟨#[]⟩, .isl [] true], none, []⟩,
    ⟨none, .store 4 (.t 5) (.t 6), none, []⟩]) (
  .seq (.region [
    ⟨(some 7), .faddr 0 (.t 5), none, []⟩,
    ⟨none, .store 1 (.t 7) (.c (.int .i64 0)), none, []⟩]) (
  .seq (.seq (.region [
    ⟨(some 8), .faddr 0 (.t 2), none, []⟩,
    ⟨(some 9), .load 1 false (.t 8), none, []⟩]) (
  .block 0 (
    .seq (.region [
      ⟨(some 11), .bin .eql (.t 9) (.c (.int .i64 1)), none, []⟩,
      ⟨(some 10), .mv (.t 11), none, []⟩]) (
    .cond (.t 10) (
      .seq (.region [
        ⟨(some 12), .faddr 1 (.t 5), none, []⟩,
        ⟨none, .store 1 (.t 12) (.c (.int .i64 0)), none, []⟩]) (
      .seq (.region [
        ⟨(some 13), .load 4 true (.t 5), none, []⟩,
        ⟨(some 14), .call 77 [.t 13], none, []⟩,
        ⟨(some 15), .mv (.t 14), none, []⟩,
        ⟨(some 16), .faddr 1 (.t 2), (some (15, true)), []⟩,
        ⟨(some 17), .load 1 false (.t 16), (some (15, true)), []⟩,
        ⟨(some 18), .bin .leq (.t 17) (.c (.int .i64 2147483647)), (some (15, true)), []⟩,
        ⟨(some 19), .pick (.t 15) (.t 18) (.c (.bool false)), none, []⟩,
        ⟨(some 20), .mv (.t 19), none, []⟩,
        ⟨(some 21), .faddr 1 (.t 2), (some (20, true)), []⟩,
        ⟨(some 22), .load 1 false (.t 21), (some (20, true)), []⟩,
        ⟨(some 23), .bin .geq (.t 22) (.c (.int .i64 (-2147483647))), (some (20, true)), []⟩,
        ⟨(some 24), .pick (.t 20) (.t 23) (.c (.bool false)), none, []⟩,
        ⟨(some 4), .mv (.t 24), none, []⟩]) (
      .ret))) (
      .seq (.region [
        ⟨(some 26), .bin .eql (.t 9) (.c (.int .i64 2)), none, []⟩,
        ⟨(some 25), .mv (.t 26), none, []⟩]) (
      .cond (.t 25) (
        .seq (.region [
          ⟨(some 27), .faddr 2 (.t 5), none, []⟩,
          ⟨none, .store 1 (.t 27) (.c (.str ⟨#[]⟩)), none, []⟩]) (
        .seq (.region [
          ⟨(some 28), .load 4 true (.t 5), none, []⟩,
          ⟨(some 29), .call 77 [.t 28], none, []⟩,
          ⟨(some 30), .mv (.t 29), none, []⟩,
          ⟨(some 31), .faddr 2 (.t 2), (some (30, true)), []⟩,
          ⟨(some 32), .load 1 false (.t 31), (some (30, true)), []⟩,
          ⟨(some 33), .call 78 [.t 32], (some (30, true)), []⟩,
          ⟨(some 34), .pick (.t 30) (.t 33) (.c (.bool false)), none, []⟩,
          ⟨(some 4), .mv (.t 34), none, []⟩]) (
        .ret))) (
        .seq (.region [
          ⟨(some 36), .bin .eql (.t 9) (.c (.int .i64 3)), none, []⟩,
          ⟨(some 35), .mv (.t 36), none, []⟩]) (
        .cond (.t 35) (
          .seq (.region [
            ⟨(some 37), .faddr 2 (.t 5), none, []⟩,
            ⟨none, .store 1 (.t 37) (.c (.str ⟨#[]⟩)), none, []⟩]) (
          .seq (.region [
            ⟨(some 38), .load 4 true (.t 5), none, []⟩,
            ⟨(some 39), .call 77 [.t 38], none, []⟩,
            ⟨(some 40), .mv (.t 39), none, []⟩,
            ⟨(some 41), .faddr 2 (.t 2), (some (40, true)), []⟩,
            ⟨(some 42), .load 1 false (.t 41), (some (40, true)), []⟩,
            ⟨(some 43), .call 38 [.t 42], (some (40, true)), []⟩,
            ⟨(some 44), .pick (.t 40) (.t 43) (.c (.bool false)), none, []⟩,
            ⟨(some 4), .mv (.t 44), none, []⟩]) (
          .ret))) (
          .seq (.region [
            ⟨(some 46), .bin .eql (.t 9) (.c (.int .i64 4)), none, []⟩,
            ⟨(some 45), .mv (.t 46), none, []⟩]) (
          .cond (.t 45) (
            .seq (.region [
              ⟨(some 47), .faddr 3 (.t 5), none, []⟩,
              ⟨none, .store 1 (.t 47) (.c (.isl [] true)), none, []⟩]) (
            .seq (.region [
              ⟨(some 48), .load 4 true (.t 5), none, []⟩,
              ⟨(some 49), .call 77 [.t 48], none, []⟩,
              ⟨(some 50), .mv (.t 49), none, []⟩,
              ⟨(some 51), .load 1 false (.t 3), (some (50, true)), []⟩,
              ⟨(some 52), .bin .gtr (.t 51) (.c (.int .i64 0)), (some (50, true)), []⟩,
              ⟨(some 53), .pick (.t 50) (.t 52) (.c (.bool false)), none, []⟩,
              ⟨(some 54), .mv (.t 53), none, []⟩,
              ⟨(some 55), .faddr 3 (.t 2), (some (54, true)), []⟩,
              ⟨(some 56), .load 1 false (.t 55), (some (54, true)), []⟩,
              ⟨(some 57), .len false (.t 56), (some (54, true)), []⟩,
              ⟨(some 58), .bin .leq (.t 57) (.c (.int .i64 16)), (some (54, true)), []⟩,
              ⟨(some 59), .pick (.t 54) (.t 58) (.c (.bool false)), none, []⟩,
              ⟨(some 60), .mv (.t 59), none, []⟩,
              ⟨(some 61), .faddr 3 (.t 2), (some (60, true)), []⟩,
              ⟨(some 62), .load 1 false (.t 61), (some (60, true)), []⟩,
              ⟨(some 63), .mkfn 80 [.t 3], (some (60, true)), []⟩,
              ⟨(some 64), .call 79 [.t 62, .t 63], (some (60, true)), []⟩,
              ⟨(some 65), .un .not (.t 64), (some (60, true)), []⟩,
              ⟨(some 66), .pick (.t 60) (.t 65) (.c (.bool false)), none, []⟩,
              ⟨(some 4), .mv (.t 66), none, []⟩]) (
            .ret))) (
            .skip))))))))))) (
  .seq (.region [
    ⟨(some 4), .mv (.c (.bool false)), none, []⟩]) (
  .ret))))),
  .pure, true, true⟩
theorem k72 : compF Try.prog { mt := false, mode := .pure, clArgs := true, clRes := true } Try.f72 = some c72 := by kernel_rfl
/- 73 internal/bytealg.CompareString: told elsewhere -/
/- cmp.isNaN[int] -/
def c76 : AFunc := ⟨6, [.tmp 2],
  .seq (.region [
    ⟨(some 2), .mv (.c (.bool false)), none, []⟩]) (
  .seq (.region [
    ⟨(some 3), .mv (.t 0), none, []⟩,
    ⟨(some 4), .mv (.t 0), none, []⟩,
    ⟨(some 5), .bin .neq (.t 3) (.t 4), none, []⟩,
    ⟨(some 2), .mv (.t 5), none, []⟩]) (
  .ret)),
  .pure, true, true⟩
theorem k76 : compF Try.prog { mt := false, mode := .pure, clArgs := true, clRes := true } Try.f76 = some c76 := by kernel_rfl
/- beaconry/value.empty -/
def c77 : AFunc := ⟨22, [.tmp 2],
  .seq (.region [
    ⟨(some 1), .box (.t 0), none, []⟩,
    ⟨(some 2), .mv (.c (.bool false)), none, []⟩]) (
  .seq (.region [
    ⟨(some 3), .faddr 0 (.t 1), none, []⟩,
    ⟨(some 4), .load 1 false (.t 3), none, []⟩,
    ⟨(some 5), .bin .eql (.t 4) (.c (.int .i64 0)), none, []⟩,
    ⟨(some 6), .mv (.t 5), none, []⟩,
    ⟨(some 7), .faddr 1 (.t 1), (some (6, true)), []⟩,
    ⟨(some 8), .load 1 false (.t 7), (some (6, true)), []⟩,
    ⟨(some 9), .bin .eql (.t 8) (.c (.int .i64 0)), (some (6, true)), []⟩,
    ⟨(some 10), .pick (.t 6) (.t 9) (.c (.bool false)), none, []⟩,
    ⟨(some 11), .mv (.t 10), none, []⟩,
    ⟨(some 12), .faddr 2 (.t 1), (some (11, true)), []⟩,
    ⟨(some 13), .load 1 false (.t 12), (some (11, true)), []⟩,
    ⟨(some 14), .bin .eql (.t 13) (.c (.str ⟨#[]⟩)), (some (11, true)), []⟩,
    ⟨(some 15), .pick (.t 11) (.t 14) (.c (.bool false)), none, []⟩,
    ⟨(some 16), .mv (.t 15), none, []⟩,
    ⟨(some 17), .faddr 3 (.t 1), (some (16, true)), []⟩,
    ⟨(some 18), .load 1 false (.t 17), (some (16, true)), []⟩,
    ⟨(some 19), .len false (.t 18), (some (16, true)), []⟩,
    ⟨(some 20), .bin .eql (.t 19) (.c (.int .i64 0)), (some (16, true)), []⟩,
    ⟨(some 21), .pick (.t 16) (.t 20) (.c (.bool false)), none, []⟩,
    ⟨(some 2), .mv (.t 21), none, []⟩]) (
  .ret)),
  .pure, true, true⟩
theorem k77 : compF Try.prog { mt := false, mode := .pure, clArgs := true, clRes := true } Try.f77 = some c77 := by kernel_rfl
/- beaconry/value.plain -/
def c78 : AFunc := ⟨27, [.tmp 2],
  .seq (.region [
    ⟨(some 2), .mv (.c (.bool false)), none, []⟩]) (
  .seq (.seq (.region [
    ⟨(some 5), .mv (.t 0), none, []⟩,
    ⟨(some 6), .rng (.t 5), none, []⟩]) (
  .block 0 (
    .loop (
      .seq (.region [
        ⟨(some 7), .nxt (.t 6), none, []⟩,
        ⟨(some 8), .extract 0 (.t 7), none, []⟩]) (
      .seq (.cond (.t 8) (
        .skip) (
        .exit 0)) (
      .block 1 (
        .seq (.region [
          ⟨(some 9), .extract 2 (.t 7), none, []⟩,
          ⟨(some 4), .mv (.t 9), none, []⟩]) (
        .seq (.region [
          ⟨(some 10), .mv (.t 4), none, []⟩,
          ⟨(some 11), .bin .lss (.t 10) (.c (.int .i32 32)), none, []⟩,
          ⟨(some 12), .mv (.t 11), none, []⟩,
          ⟨(some 13), .mv (.t 4), (some (12, false)), []⟩,
          ⟨(some 14), .bin .gtr (.t 13) (.c (.int .i32 126)), (some (12, false)), []⟩,
          ⟨(some 15), .pick (.t 12) (.c (.bool true)) (.t 14), none, []⟩,
          ⟨(some 16), .mv (.t 15), none, []⟩,
          ⟨(some 17), .mv (.t 4), (some (16, false)), []⟩,
          ⟨(some 18), .bin .eql (.t 17) (.c (.int .i32 34)), (some (16, false)), []⟩,
          ⟨(some 19), .pick (.t 16) (.c (.bool true)) (.t 18), none, []⟩,
          ⟨(some 20), .mv (.t 19), none, []⟩,
          ⟨(some 21), .mv (.t 4), (some (20, false)), []⟩,
          ⟨(some 22), .bin .eql (.t 21) (.c (.int .i32 92)), (some (20, false)), []⟩,
          ⟨(some 23), .pick (.t 20) (.c (.bool true)) (.t 22), none, []⟩]) (
        .cond (.t 23) (
          .seq (.region [
            ⟨(some 2), .mv (.c (.bool false)), none, []⟩]) (
          .ret)) (
          .skip)))))))))) (
  .seq (.region [
    ⟨(some 24), .mv (.t 0), none, []⟩,
    ⟨(some 25), .len true (.t 24), none, []⟩,
    ⟨(some 26), .bin .leq (.t 25) (.c (.int .i64 32)), none, []⟩,
    ⟨(some 2), .mv (.t 26), none, []⟩]) (
  .ret))),
  .pure, true, true⟩
theorem k78 : compF Try.prog { mt := false, mode := .pure, clArgs := true, clRes := true } Try.f78 = some c78 := by kernel_rfl
/- slices.ContainsFunc[[]beaconry/api.Value,beaconry/api.Value] -/
def c79 : AFunc := ⟨9, [.tmp 4],
  .seq (.region [
    ⟨(some 4), .mv (.c (.bool false)), none, []⟩]) (
  .seq (.region [
    ⟨(some 5), .mv (.t 0), none, []⟩,
    ⟨(some 6), .mv (.t 1), none, []⟩,
    ⟨(some 7), .call 84 [.t 5, .t 6], none, []⟩,
    ⟨(some 8), .bin .geq (.t 7) (.c (.int .i64 0)), none, []⟩,
    ⟨(some 4), .mv (.t 8), none, []⟩]) (
  .ret)),
  .pure, true, true⟩
theorem k79 : compF Try.prog { mt := false, mode := .pure, clArgs := true, clRes := true } Try.f79 = some c79 := by kernel_rfl
/- beaconry/value.right$1 -/
def c80 : AFunc := ⟨9, [.tmp 3],
  .seq (.region [
    ⟨(some 2), .box (.t 0), none, []⟩,
    ⟨(some 3), .mv (.c (.bool false)), none, []⟩]) (
  .seq (.region [
    ⟨(some 4), .load 4 true (.t 2), none, []⟩,
    ⟨(some 5), .load 1 false (.t 1), none, []⟩,
    ⟨(some 6), .bin .sub (.t 5) (.c (.int .i64 1)), none, []⟩,
    ⟨(some 7), .call 72 [.t 4, .t 6], none, []⟩,
    ⟨(some 8), .un .not (.t 7), none, []⟩,
    ⟨(some 3), .mv (.t 8), none, []⟩]) (
  .ret)),
  .pure, true, true⟩
theorem k80 : compF Try.prog { mt := false, mode := .pure, clArgs := true, clRes := true } Try.f80 = some c80 := by kernel_rfl
/- slices.IndexFunc[[]beaconry/api.Value,beaconry/api.Value] -/
def c84 : AFunc := ⟨19, [.tmp 4],
  .seq (.region [
    ⟨(some 4), .mv (.c (.int .i64 0)), none, []⟩]) (
  .seq (.seq (.region [
    ⟨(some 6), .mv (.t 0), none, []⟩,
    ⟨(some 7), .len false (.t 6), none, []⟩,
    ⟨(some 8), .mv (.c (.int .i64 0)), none, []⟩]) (
  .block 0 (
    .loop (
      .seq (.region [
        ⟨(some 9), .bin .lss (.t 8) (.t 7), none, []⟩]) (
      .seq (.cond (.t 9) (
        .skip) (
        .exit 0)) (
      .seq (.block 1 (
        .seq (.region [
          ⟨(some 10), .mv (.t 8), none, []⟩,
          ⟨(some 5), .mv (.t 10), none, []⟩]) (
        .seq (.region [
          ⟨(some 11), .mv (.t 1), none, []⟩,
          ⟨(some 12), .mv (.t 0), none, []⟩,
          ⟨(some 13), .mv (.t 5), none, []⟩,
          ⟨(some 14), .iaddrS 4 (.t 12) (.t 13), none, []⟩,
          ⟨(some 15), .load 4 true (.t 14), none, []⟩,
          ⟨(some 16), .callv (.t 11) [.t 15], none, []⟩]) (
        .cond (.t 16) (
          .seq (.region [
            ⟨(some 17), .mv (.t 5), none, []⟩,
            ⟨(some 4), .mv (.t 17), none, []⟩]) (
          .ret)) (
          .skip))))) (
      .region [
        ⟨(some 18), .bin .add (.t 8) (.c (.int .i64 1)), none, []⟩,
        ⟨(some 8), .mv (.t 18), none, []⟩]))))))) (
  .seq (.region [
    ⟨(some 4), .mv (.c (.int .i64 (-1))), none, []⟩]) (
  .ret))),
  .pure, true, true⟩
theorem k84 : compF Try.prog { mt := false, mode := .pure, clArgs := true, clRes := true } Try.f84 = some c84 := by kernel_rfl
def fns : List (Nat × AFunc) := [(3, c3), (10, c10), (11, c11), (12, c12), (13, c13), (17, c17), (19, c19), (20, c20), (21, c21), (22, c22), (23, c23), (31, c31), (32, c32), (33, c33), (37, c37), (38, c38), (39, c39), (40, c40), (41, c41), (51, c51), (52, c52), (54, c54), (55, c55), (56, c56), (57, c57), (58, c58), (68, c68), (71, c71), (72, c72), (76, c76), (77, c77), (78, c78), (79, c79), (80, c80), (84, c84)]
theorem fns_ok : ∀ p ∈ fns, ∃ fn pol, Try.prog.funcs[p.1]? = some fn ∧ compF Try.prog pol fn = some p.2 := by
  simp only [fns, List.forall_mem_cons]
  exact ⟨⟨_, _, Try.func3, k3⟩, ⟨_, _, Try.func10, k10⟩, ⟨_, _, Try.func11, k11⟩, ⟨_, _, Try.func12, k12⟩, ⟨_, _, Try.func13, k13⟩, ⟨_, _, Try.func17, k17⟩, ⟨_, _, Try.func19, k19⟩, ⟨_, _, Try.func20, k20⟩, ⟨_, _, Try.func21, k21⟩, ⟨_, _, Try.func22, k22⟩, ⟨_, _, Try.func23, k23⟩, ⟨_, _, Try.func31, k31⟩, ⟨_, _, Try.func32, k32⟩, ⟨_, _, Try.func33, k33⟩, ⟨_, _, Try.func37, k37⟩, ⟨_, _, Try.func38, k38⟩, ⟨_, _, Try.func39, k39⟩, ⟨_, _, Try.func40, k40⟩, ⟨_, _, Try.func41, k41⟩, ⟨_, _, Try.func51, k51⟩, ⟨_, _, Try.func52, k52⟩, ⟨_, _, Try.func54, k54⟩, ⟨_, _, Try.func55, k55⟩, ⟨_, _, Try.func56, k56⟩, ⟨_, _, Try.func57, k57⟩, ⟨_, _, Try.func58, k58⟩, ⟨_, _, Try.func68, k68⟩, ⟨_, _, Try.func71, k71⟩, ⟨_, _, Try.func72, k72⟩, ⟨_, _, Try.func76, k76⟩, ⟨_, _, Try.func77, k77⟩, ⟨_, _, Try.func78, k78⟩, ⟨_, _, Try.func79, k79⟩, ⟨_, _, Try.func80, k80⟩, ⟨_, _, Try.func84, k84⟩, fun _ h => by cases h⟩
end Go.Proofs.Ytkempedphjopmaa
