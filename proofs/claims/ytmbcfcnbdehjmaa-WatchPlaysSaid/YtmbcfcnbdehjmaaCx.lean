/-
  THE CODE of the functions of this seat, as the plain machine's; each is what the compiler makes of the program's.
-/
import Derived.Test.YtmbcfcnbdehjmaaChecked
import Derived.Test.YtmbcfcnbdehjmaaAm22
import Derived.KernelRfl
namespace Go.Proofs.Ytmbcfcnbdehjmaa
open Go Go.AM
set_option linter.unusedVariables false

theorem hm : Try.prog.follows .mixedOrders = true := by kernel_rfl

/-- fusee/fuseelaw24.WatchSums -/
def b3 : IFn := ⟨
 .seq
 (.region [⟨(some 4), .mov (.c (.bool false)), none⟩]) <|
 .seq
 (.seq
  (.region [⟨(some 15), .call (.f 6) [], none⟩,
     ⟨(some 16), .un .not (.t 15), none⟩]) <|
  .cond (.t 16)
   (.seq
    (.region [⟨(some 4), .mov (.c (.bool false)), none⟩]) <|
    .ret)
   (.skip)) <|
 .seq
 (.seq
  (.region [⟨(some 17), .mov (.t 0), none⟩,
     ⟨(some 18), .len .sl (.t 17), none⟩,
     ⟨(some 19), .bin .gtr (.t 18) (.c (.int .i64 400)), none⟩]) <|
  .cond (.t 19)
   (.seq
    (.region [⟨(some 4), .mov (.c (.bool true)), none⟩]) <|
    .ret)
   (.skip)) <|
 .seq
 (.region [⟨(some 20), .call (.f 7) [], none⟩,
    ⟨(some 5), .mov (.t 20), none⟩]) <|
 .seq
 (.region [⟨(some 6), .mov (.c (.int .i64 0)), none⟩,
    ⟨(some 7), .mov (.c (.int .i64 0)), none⟩]) <|
 .seq
 (.region [⟨(some 21), .mov (.t 5), none⟩,
    ⟨(some 22), .call (.f 8) [(.t 21), (.c (.int .i64 0))], none⟩]) <|
 .seq
 (.seq
  (.region [⟨(some 23), .mov (.t 0), none⟩,
     ⟨(some 24), .len .sl (.t 23), none⟩,
     ⟨(some 25), .mov (.c (.int .i64 0)), none⟩]) <|
  .block 0 <|
  .loop [1, 5, 6, 7, 23, 24, 25] <|
   .seq
   (.region [⟨(some 26), .bin .lss (.t 25) (.t 24), none⟩]) <|
   .seq
   (.cond (.t 26)
     (.skip)
     (.exit 0)) <|
   .seq
   (.block 1 <|
    .seq
    (.region [⟨(some 27), .mov (.t 25), none⟩,
       ⟨(some 28), .iaddr 1 (.t 23) (.t 25), none⟩,
       ⟨(some 29), .load false 1 (.t 28), none⟩,
       ⟨(some 8), .mov (.t 27), none⟩,
       ⟨(some 9), .mov (.t 29), none⟩]) <|
    .seq
    (.region [⟨(some 30), .mov (.t 6), none⟩,
       ⟨(some 31), .mov (.t 9), none⟩,
       ⟨(some 32), .conv .i64 (.t 31), none⟩,
       ⟨(some 33), .bin .add (.t 30) (.t 32), none⟩,
       ⟨(some 6), .mov (.t 33), none⟩]) <|
    .seq
    (.region [⟨(some 10), .mov (.c (.int .i64 0)), none⟩]) <|
    .seq
    (.seq
     (.region [⟨(some 34), .mov (.t 8), none⟩,
        ⟨(some 35), .mov (.t 1), none⟩,
        ⟨(some 36), .len .sl (.t 35), none⟩,
        ⟨(some 37), .bin .lss (.t 34) (.t 36), none⟩]) <|
     .cond (.t 37)
      (.region [⟨(some 38), .mov (.t 1), none⟩,
         ⟨(some 39), .mov (.t 8), none⟩,
         ⟨(some 40), .iaddr 1 (.t 38) (.t 39), none⟩,
         ⟨(some 41), .load false 1 (.t 40), none⟩,
         ⟨(some 42), .bin .rem (.t 41) (.c (.int .u8 4)), none⟩,
         ⟨(some 43), .conv .i64 (.t 42), none⟩,
         ⟨(some 10), .mov (.t 43), none⟩])
      (.skip)) <|
    .seq
    (.seq
     (.region [⟨(some 44), .mov (.t 10), none⟩]) <|
     .block 2 <|
     .seq
     (.region [⟨(some 46), .bin .eql (.t 44) (.c (.int .i64 0)), none⟩,
        ⟨(some 45), .mov (.t 46), none⟩]) <|
     .cond (.t 45)
      (.region [⟨(some 47), .mov (.t 5), none⟩,
         ⟨(some 48), .mov (.t 6), none⟩,
         ⟨(some 49), .call (.f 9) [(.t 47), (.t 48)], none⟩])
      (.seq
       (.region [⟨(some 51), .bin .eql (.t 44) (.c (.int .i64 1)), none⟩,
          ⟨(some 50), .mov (.t 51), none⟩]) <|
       .cond (.t 50)
        (.region [⟨(some 52), .mov (.t 5), none⟩,
           ⟨(some 53), .mov (.t 6), none⟩,
           ⟨(some 54), .call (.f 10) [(.t 52), (.t 53)], none⟩])
        (.seq
         (.region [⟨(some 56), .bin .eql (.t 44) (.c (.int .i64 2)), none⟩,
            ⟨(some 55), .mov (.t 56), none⟩]) <|
         .cond (.t 55)
          (.region [⟨(some 57), .mov (.t 5), none⟩,
             ⟨(some 58), .mov (.t 6), none⟩,
             ⟨(some 59), .call (.f 8) [(.t 57), (.t 58)], none⟩])
          (.skip)))) <|
    .seq
    (.region [⟨(some 60), .mov (.t 5), none⟩,
       ⟨(some 61), .mov (.t 6), none⟩,
       ⟨(some 62), .call (.f 11) [(.t 60), (.t 61)], none⟩,
       ⟨(some 11), .mov (.t 62), none⟩]) <|
    .seq
    (.region [⟨(some 12), .mov (.c (.int .i64 0)), none⟩]) <|
    .seq
    (.seq
     (.region [⟨(some 63), .mov (.t 5), none⟩,
        ⟨(some 64), .call (.f 12) [(.t 63)], none⟩,
        ⟨(some 65), .len .sl (.t 64), none⟩,
        ⟨(some 66), .mov (.c (.int .i64 0)), none⟩]) <|
     .block 3 <|
     .loop [1, 5, 6, 7, 10, 11, 12, 23, 24, 25, 64, 65, 66] <|
      .seq
      (.region [⟨(some 67), .bin .lss (.t 66) (.t 65), none⟩]) <|
      .seq
      (.cond (.t 67)
        (.skip)
        (.exit 3)) <|
      .seq
      (.block 4 <|
       .seq
       (.region [⟨(some 68), .iaddr 1 (.t 64) (.t 66), none⟩,
          ⟨(some 69), .load false 1 (.t 68), none⟩,
          ⟨(some 14), .mov (.t 69), none⟩]) <|
       .region [⟨(some 70), .mov (.t 12), none⟩,
         ⟨(some 71), .mov (.t 14), none⟩,
         ⟨(some 72), .bin .add (.t 70) (.t 71), none⟩,
         ⟨(some 12), .mov (.t 72), none⟩]) <|
      .region [⟨(some 73), .bin .add (.t 66) (.c (.int .i64 1)), none⟩,
        ⟨(some 66), .mov (.t 73), none⟩]) <|
    .seq
    (.seq
     (.region [⟨(some 74), .mov (.t 11), none⟩,
        ⟨(some 75), .mov (.t 7), none⟩,
        ⟨(some 76), .bin .lss (.t 74) (.t 75), none⟩,
        ⟨(some 77), .mov (.t 76), none⟩,
        ⟨(some 78), .mov (.t 12), (some (77, false))⟩,
        ⟨(some 79), .mov (.t 11), (some (77, false))⟩,
        ⟨(some 80), .bin .gtr (.t 78) (.t 79), (some (77, false))⟩,
        ⟨(some 81), .pick (.t 77) (.c (.bool true)) (.t 80), none⟩,
        ⟨(some 82), .mov (.t 81), none⟩,
        ⟨(some 83), .mov (.t 11), (some (82, false))⟩,
        ⟨(some 84), .mov (.t 6), (some (82, false))⟩,
        ⟨(some 85), .bin .gtr (.t 83) (.t 84), (some (82, false))⟩,
        ⟨(some 86), .pick (.t 82) (.c (.bool true)) (.t 85), none⟩,
        ⟨(some 87), .mov (.t 86), none⟩,
        ⟨(some 88), .mov (.t 10), (some (87, false))⟩,
        ⟨(some 89), .bin .eql (.t 88) (.c (.int .i64 0)), (some (87, false))⟩,
        ⟨(some 90), .mov (.t 89), (some (87, false))⟩,
        ⟨(some 91), .mov (.t 5), (some (90, true))⟩,
        ⟨(some 92), .call (.f 13) [(.t 91)], (some (90, true))⟩,
        ⟨(some 93), .pick (.t 90) (.t 92) (.c (.bool false)), (some (87, false))⟩,
        ⟨(some 94), .mov (.t 93), (some (87, false))⟩,
        ⟨(some 95), .mov (.t 12), (some (94, true))⟩,
        ⟨(some 96), .mov (.t 11), (some (94, true))⟩,
        ⟨(some 97), .bin .neq (.t 95) (.t 96), (some (94, true))⟩,
        ⟨(some 98), .pick (.t 94) (.t 97) (.c (.bool false)), (some (87, false))⟩,
        ⟨(some 99), .pick (.t 87) (.c (.bool true)) (.t 98), none⟩]) <|
     .cond (.t 99)
      (.seq
       (.region [⟨(some 4), .mov (.c (.bool false)), none⟩]) <|
       .ret)
      (.skip)) <|
    .region [⟨(some 100), .mov (.t 11), none⟩,
      ⟨(some 7), .mov (.t 100), none⟩]) <|
   .region [⟨(some 101), .bin .add (.t 25) (.c (.int .i64 1)), none⟩,
     ⟨(some 25), .mov (.t 101), none⟩]) <|
 .seq
 (.region [⟨(some 4), .mov (.c (.bool true)), none⟩]) <|
 .ret, [.slot 4]⟩
theorem c3 : Code1 Try.prog 3 102 b3 := Code1.mk' Try.func3 (by kernel_rfl) (by kernel_rfl) Try.ntmps3

/-- fusee/fuseelaw24.WatchLaps -/
def b4 : IFn := ⟨
 .seq
 (.region [⟨(some 2), .mov (.c (.bool false)), none⟩]) <|
 .seq
 (.seq
  (.region [⟨(some 10), .call (.f 6) [], none⟩,
     ⟨(some 11), .un .not (.t 10), none⟩]) <|
  .cond (.t 11)
   (.seq
    (.region [⟨(some 2), .mov (.c (.bool false)), none⟩]) <|
    .ret)
   (.skip)) <|
 .seq
 (.region [⟨(some 12), .call (.f 7) [], none⟩,
    ⟨(some 3), .mov (.t 12), none⟩]) <|
 .seq
 (.region [⟨(some 13), .mov (.t 3), none⟩,
    ⟨(some 14), .call (.f 8) [(.t 13), (.c (.int .i64 0))], none⟩]) <|
 .seq
 (.region [⟨(some 15), .mov (.t 0), none⟩,
    ⟨(some 16), .conv .i64 (.t 15), none⟩,
    ⟨(some 17), .bin .add (.c (.int .i64 900)) (.t 16), none⟩,
    ⟨(some 4), .mov (.t 17), none⟩]) <|
 .seq
 (.region [⟨(some 5), .mov (.c (.int .i64 0)), none⟩]) <|
 .seq
 (.seq
  (.region [⟨(some 18), .mov (.t 4), none⟩,
     ⟨(some 19), .mov (.c (.int .i64 0)), none⟩]) <|
  .block 0 <|
  .loop [3, 4, 5, 18, 19] <|
   .seq
   (.region [⟨(some 20), .bin .lss (.t 19) (.t 18), none⟩]) <|
   .seq
   (.cond (.t 20)
     (.skip)
     (.exit 0)) <|
   .seq
   (.block 1 <|
    .seq
    (.region [⟨(some 21), .mov (.t 19), none⟩,
       ⟨(some 6), .mov (.t 21), none⟩]) <|
    .seq
    (.region [⟨(some 22), .mov (.t 5), none⟩,
       ⟨(some 23), .mov (.t 6), none⟩,
       ⟨(some 24), .bin .add (.t 22) (.t 23), none⟩,
       ⟨(some 5), .mov (.t 24), none⟩]) <|
    .region [⟨(some 25), .mov (.t 3), none⟩,
      ⟨(some 26), .mov (.t 5), none⟩,
      ⟨(some 27), .call (.f 9) [(.t 25), (.t 26)], none⟩]) <|
   .region [⟨(some 28), .bin .add (.t 19) (.c (.int .i64 1)), none⟩,
     ⟨(some 19), .mov (.t 28), none⟩]) <|
 .seq
 (.region [⟨(some 29), .mov (.t 3), none⟩,
    ⟨(some 30), .call (.f 12) [(.t 29)], none⟩,
    ⟨(some 7), .mov (.t 30), none⟩]) <|
 .seq
 (.region [⟨(some 32), .mov (.t 3), none⟩,
    ⟨(some 33), .call (.f 14) [(.t 32)], none⟩,
    ⟨(some 31), .mov (.t 33), none⟩,
    ⟨(some 34), .extract (.t 31) 0, none⟩,
    ⟨(some 35), .extract (.t 31) 1, none⟩,
    ⟨(some 8), .mov (.t 34), none⟩,
    ⟨(some 9), .mov (.t 35), none⟩]) <|
 .seq
 (.region [⟨(some 36), .mov (.t 7), none⟩,
    ⟨(some 37), .len .sl (.t 36), none⟩,
    ⟨(some 38), .mov (.t 4), none⟩,
    ⟨(some 39), .min [(.t 38), (.c (.int .i64 1000))], none⟩,
    ⟨(some 40), .bin .eql (.t 37) (.t 39), none⟩,
    ⟨(some 41), .mov (.t 40), none⟩,
    ⟨(some 42), .mov (.t 7), (some (41, true))⟩,
    ⟨(some 43), .mov (.t 7), (some (41, true))⟩,
    ⟨(some 44), .len .sl (.t 43), (some (41, true))⟩,
    ⟨(some 45), .bin .sub (.t 44) (.c (.int .i64 1)), (some (41, true))⟩,
    ⟨(some 46), .iaddr 1 (.t 42) (.t 45), (some (41, true))⟩,
    ⟨(some 47), .load false 1 (.t 46), (some (41, true))⟩,
    ⟨(some 48), .mov (.t 4), (some (41, true))⟩,
    ⟨(some 49), .bin .sub (.t 48) (.c (.int .i64 1)), (some (41, true))⟩,
    ⟨(some 50), .bin .eql (.t 47) (.t 49), (some (41, true))⟩,
    ⟨(some 51), .pick (.t 41) (.t 50) (.c (.bool false)), none⟩,
    ⟨(some 52), .mov (.t 51), none⟩,
    ⟨(some 53), .mov (.t 9), (some (52, true))⟩,
    ⟨(some 54), .pick (.t 52) (.t 53) (.c (.bool false)), none⟩,
    ⟨(some 55), .mov (.t 54), none⟩,
    ⟨(some 56), .mov (.t 8), (some (55, true))⟩,
    ⟨(some 57), .mov (.t 4), (some (55, true))⟩,
    ⟨(some 58), .bin .sub (.t 57) (.c (.int .i64 1000)), (some (55, true))⟩,
    ⟨(some 59), .max [(.t 58), (.c (.int .i64 0))], (some (55, true))⟩,
    ⟨(some 60), .bin .eql (.t 56) (.t 59), (some (55, true))⟩,
    ⟨(some 61), .pick (.t 55) (.t 60) (.c (.bool false)), none⟩,
    ⟨(some 2), .mov (.t 61), none⟩]) <|
 .ret, [.slot 2]⟩
theorem c4 : Code1 Try.prog 4 62 b4 := Code1.mk' Try.func4 (by kernel_rfl) (by kernel_rfl) Try.ntmps4

/-- fusee/fuseelaw24.WatchPlays -/
def b5 : IFn := ⟨
 .seq
 (.region [⟨(some 2), .mov (.c (.bool false)), none⟩]) <|
 .seq
 (.seq
  (.region [⟨(some 23), .call (.f 6) [], none⟩,
     ⟨(some 24), .un .not (.t 23), none⟩]) <|
  .cond (.t 24)
   (.seq
    (.region [⟨(some 2), .mov (.c (.bool false)), none⟩]) <|
    .ret)
   (.skip)) <|
 .seq
 (.seq
  (.region [⟨(some 25), .mov (.t 0), none⟩,
     ⟨(some 26), .len .sl (.t 25), none⟩,
     ⟨(some 27), .bin .gtr (.t 26) (.c (.int .i64 100)), none⟩]) <|
  .cond (.t 27)
   (.seq
    (.region [⟨(some 2), .mov (.c (.bool true)), none⟩]) <|
    .ret)
   (.skip)) <|
 .seq
 (.region [⟨(some 28), .call (.f 7) [], none⟩,
    ⟨(some 3), .mov (.t 28), none⟩]) <|
 .seq
 (.region [⟨(some 4), .mov (.c (.int .i64 (-2305843009213693952))), none⟩,
    ⟨(some 5), .mov (.c (.int .i64 0)), none⟩,
    ⟨(some 6), .mov (.c (.int .i64 0)), none⟩,
    ⟨(some 7), .mov (.c (.int .i64 0)), none⟩]) <|
 .seq
 (.region [⟨(some 8), .mov (.c (.bool false)), none⟩]) <|
 .seq
 (.region [⟨(some 9), .mov (.c (.sl none 0 (some 0))), none⟩]) <|
 .seq
 (.seq
  (.region [⟨(some 29), .mov (.t 0), none⟩,
     ⟨(some 30), .len .sl (.t 29), none⟩,
     ⟨(some 31), .mov (.c (.int .i64 0)), none⟩]) <|
  .block 0 <|
  .loop [3, 4, 5, 6, 7, 8, 9, 29, 30, 31] <|
   .seq
   (.region [⟨(some 32), .bin .lss (.t 31) (.t 30), none⟩]) <|
   .seq
   (.cond (.t 32)
     (.skip)
     (.exit 0)) <|
   .seq
   (.block 1 <|
    .seq
    (.region [⟨(some 33), .iaddr 2 (.t 29) (.t 31), none⟩,
       ⟨(some 34), .load true 2 (.t 33), none⟩,
       ⟨(some 11), .alloc [(.int .u8 0), (.int .i64 0)], none⟩,
       ⟨none, .store 2 (.t 11) (.t 34), none⟩]) <|
    .seq
    (.seq
     (.region [⟨(some 35), .faddr 1 (.t 11), none⟩,
        ⟨(some 36), .load false 1 (.t 35), none⟩,
        ⟨(some 37), .bin .lss (.t 36) (.c (.int .i64 (-1125899906842624))), none⟩,
        ⟨(some 38), .mov (.t 37), none⟩,
        ⟨(some 39), .faddr 1 (.t 11), (some (38, false))⟩,
        ⟨(some 40), .load false 1 (.t 39), (some (38, false))⟩,
        ⟨(some 41), .bin .gtr (.t 40) (.c (.int .i64 1125899906842624)), (some (38, false))⟩,
        ⟨(some 42), .pick (.t 38) (.c (.bool true)) (.t 41), none⟩]) <|
     .cond (.t 42)
      (.seq
       (.region [⟨(some 2), .mov (.c (.bool true)), none⟩]) <|
       .ret)
      (.skip)) <|
    .seq
    (.region [⟨(some 43), .mov (.t 6), none⟩,
       ⟨(some 12), .mov (.t 43), none⟩]) <|
    .seq
    (.region [⟨(some 44), .mov (.t 4), none⟩,
       ⟨(some 45), .faddr 1 (.t 11), none⟩,
       ⟨(some 46), .load false 1 (.t 45), none⟩,
       ⟨(some 47), .max [(.t 44), (.t 46)], none⟩,
       ⟨(some 13), .mov (.t 47), none⟩]) <|
    .seq
    (.seq
     (.region [⟨(some 48), .mov (.t 8), none⟩]) <|
     .cond (.t 48)
      (.region [⟨(some 49), .mov (.t 12), none⟩,
         ⟨(some 50), .mov (.t 13), none⟩,
         ⟨(some 51), .mov (.t 5), none⟩,
         ⟨(some 52), .bin .sub (.t 50) (.t 51), none⟩,
         ⟨(some 53), .bin .add (.t 49) (.t 52), none⟩,
         ⟨(some 12), .mov (.t 53), none⟩])
      (.skip)) <|
    .seq
    (.seq
     (.region [⟨(some 54), .faddr 0 (.t 11), none⟩,
        ⟨(some 55), .load false 1 (.t 54), none⟩,
        ⟨(some 56), .bin .rem (.t 55) (.c (.int .u8 5)), none⟩]) <|
     .block 2 <|
     .seq
     (.region [⟨(some 58), .bin .eql (.t 56) (.c (.int .u8 0)), none⟩,
        ⟨(some 57), .mov (.t 58), none⟩]) <|
     .cond (.t 57)
      (.seq
       (.region [⟨(some 14), .mov (.c (.int .i64 8)), none⟩]) <|
       .seq
       (.seq
        (.region [⟨(some 59), .mov (.t 8), none⟩,
           ⟨(some 60), .un .not (.t 59), none⟩]) <|
        .cond (.t 60)
         (.region [⟨(some 61), .mov (.t 13), none⟩,
            ⟨(some 62), .mov (.t 13), none⟩,
            ⟨(some 14), .mov (.c (.int .i64 0)), none⟩,
            ⟨(some 8), .mov (.c (.bool true)), none⟩,
            ⟨(some 5), .mov (.t 61), none⟩,
            ⟨(some 4), .mov (.t 62), none⟩])
         (.skip)) <|
       .seq
       (.region [⟨(some 63), .mov (.t 3), none⟩,
          ⟨(some 64), .faddr 1 (.t 11), none⟩,
          ⟨(some 65), .load false 1 (.t 64), none⟩,
          ⟨(some 66), .call (.f 8) [(.t 63), (.t 65)], none⟩,
          ⟨(some 67), .mov (.t 14), none⟩,
          ⟨(some 68), .bin .neq (.t 66) (.t 67), none⟩]) <|
       .cond (.t 68)
        (.seq
         (.region [⟨(some 2), .mov (.c (.bool false)), none⟩]) <|
         .ret)
        (.skip))
      (.seq
       (.region [⟨(some 70), .bin .eql (.t 56) (.c (.int .u8 1)), none⟩,
          ⟨(some 69), .mov (.t 70), none⟩]) <|
       .cond (.t 69)
        (.seq
         (.region [⟨(some 72), .mov (.t 3), none⟩,
            ⟨(some 73), .faddr 1 (.t 11), none⟩,
            ⟨(some 74), .load false 1 (.t 73), none⟩,
            ⟨(some 75), .call (.f 10) [(.t 72), (.t 74)], none⟩,
            ⟨(some 71), .mov (.t 75), none⟩,
            ⟨(some 76), .extract (.t 71) 0, none⟩,
            ⟨(some 77), .extract (.t 71) 1, none⟩,
            ⟨(some 15), .mov (.t 76), none⟩,
            ⟨(some 16), .mov (.t 77), none⟩]) <|
         .seq
         (.seq
          (.region [⟨(some 78), .mov (.t 8), none⟩,
             ⟨(some 79), .un .not (.t 78), none⟩]) <|
          .cond (.t 79)
           (.seq
            (.seq
             (.region [⟨(some 80), .mov (.t 16), none⟩,
                ⟨(some 81), .bin .neq (.t 80) (.c (.int .i64 8)), none⟩,
                ⟨(some 82), .mov (.t 81), none⟩,
                ⟨(some 83), .mov (.t 15), (some (82, false))⟩,
                ⟨(some 84), .bin .neq (.t 83) (.c (.int .i64 0)), (some (82, false))⟩,
                ⟨(some 85), .pick (.t 82) (.c (.bool true)) (.t 84), none⟩]) <|
             .cond (.t 85)
              (.seq
               (.region [⟨(some 2), .mov (.c (.bool false)), none⟩]) <|
               .ret)
              (.skip)) <|
            .exit 2)
           (.skip)) <|
         .seq
         (.region [⟨(some 86), .mov (.t 12), none⟩,
            ⟨(some 87), .mov (.t 13), none⟩,
            ⟨(some 8), .mov (.c (.bool false)), none⟩,
            ⟨(some 6), .mov (.t 86), none⟩,
            ⟨(some 4), .mov (.t 87), none⟩]) <|
         .seq
         (.region [⟨(some 88), .mov (.t 16), none⟩,
            ⟨(some 89), .bin .neq (.t 88) (.c (.int .i64 0)), none⟩,
            ⟨(some 90), .mov (.t 89), none⟩,
            ⟨(some 91), .mov (.t 15), (some (90, false))⟩,
            ⟨(some 92), .mov (.t 12), (some (90, false))⟩,
            ⟨(some 93), .bin .neq (.t 91) (.t 92), (some (90, false))⟩,
            ⟨(some 94), .pick (.t 90) (.c (.bool true)) (.t 93), none⟩]) <|
         .cond (.t 94)
          (.seq
           (.region [⟨(some 2), .mov (.c (.bool false)), none⟩]) <|
           .ret)
          (.skip))
        (.seq
         (.region [⟨(some 96), .bin .eql (.t 56) (.c (.int .u8 2)), none⟩,
            ⟨(some 95), .mov (.t 96), none⟩]) <|
         .cond (.t 95)
          (.seq
           (.region [⟨(some 98), .mov (.t 3), none⟩,
              ⟨(some 99), .faddr 1 (.t 11), none⟩,
              ⟨(some 100), .load false 1 (.t 99), none⟩,
              ⟨(some 101), .call (.f 9) [(.t 98), (.t 100)], none⟩,
              ⟨(some 97), .mov (.t 101), none⟩,
              ⟨(some 102), .extract (.t 97) 0, none⟩,
              ⟨(some 103), .extract (.t 97) 1, none⟩,
              ⟨(some 17), .mov (.t 102), none⟩,
              ⟨(some 18), .mov (.t 103), none⟩]) <|
           .seq
           (.seq
            (.region [⟨(some 104), .mov (.t 8), none⟩,
               ⟨(some 105), .un .not (.t 104), none⟩]) <|
            .cond (.t 105)
             (.seq
              (.seq
               (.region [⟨(some 106), .mov (.t 18), none⟩,
                  ⟨(some 107), .bin .neq (.t 106) (.c (.int .i64 8)), none⟩,
                  ⟨(some 108), .mov (.t 107), none⟩,
                  ⟨(some 109), .mov (.t 17), (some (108, false))⟩,
                  ⟨(some 110), .bin .neq (.t 109) (.c (.int .i64 0)), (some (108, false))⟩,
                  ⟨(some 111), .pick (.t 108) (.c (.bool true)) (.t 110), none⟩]) <|
               .cond (.t 111)
                (.seq
                 (.region [⟨(some 2), .mov (.c (.bool false)), none⟩]) <|
                 .ret)
                (.skip)) <|
              .exit 2)
             (.skip)) <|
           .seq
           (.seq
            (.region [⟨(some 112), .mov (.t 18), none⟩,
               ⟨(some 113), .bin .neq (.t 112) (.c (.int .i64 0)), none⟩,
               ⟨(some 114), .mov (.t 113), none⟩,
               ⟨(some 115), .mov (.t 17), (some (114, false))⟩,
               ⟨(some 116), .mov (.t 12), (some (114, false))⟩,
               ⟨(some 117), .mov (.t 7), (some (114, false))⟩,
               ⟨(some 118), .bin .sub (.t 116) (.t 117), (some (114, false))⟩,
               ⟨(some 119), .bin .neq (.t 115) (.t 118), (some (114, false))⟩,
               ⟨(some 120), .pick (.t 114) (.c (.bool true)) (.t 119), none⟩]) <|
            .cond (.t 120)
             (.seq
              (.region [⟨(some 2), .mov (.c (.bool false)), none⟩]) <|
              .ret)
             (.skip)) <|
           .seq
           (.region [⟨(some 121), .mov (.t 9), none⟩,
              ⟨(some 122), .mov (.t 12), none⟩,
              ⟨(some 123), .mov (.t 7), none⟩,
              ⟨(some 124), .bin .sub (.t 122) (.t 123), none⟩,
              ⟨(some 125), .buildSl 1 [(.int .i64 0)] [(0, 1, (.t 124))], none⟩,
              ⟨(some 126), .app 1 8 (.t 121) (.t 125), none⟩,
              ⟨(some 9), .mov (.t 126), none⟩]) <|
           .region [⟨(some 127), .mov (.t 12), none⟩,
             ⟨(some 128), .mov (.t 13), none⟩,
             ⟨(some 7), .mov (.t 127), none⟩,
             ⟨(some 4), .mov (.t 128), none⟩])
          (.seq
           (.region [⟨(some 130), .bin .eql (.t 56) (.c (.int .u8 3)), none⟩,
              ⟨(some 129), .mov (.t 130), none⟩]) <|
           .cond (.t 129)
            (.seq
             (.region [⟨(some 131), .mov (.t 13), none⟩,
                ⟨(some 4), .mov (.t 131), none⟩]) <|
             .seq
             (.region [⟨(some 132), .mov (.t 3), none⟩,
                ⟨(some 133), .faddr 1 (.t 11), none⟩,
                ⟨(some 134), .load false 1 (.t 133), none⟩,
                ⟨(some 135), .call (.f 11) [(.t 132), (.t 134)], none⟩,
                ⟨(some 136), .mov (.t 12), none⟩,
                ⟨(some 137), .bin .neq (.t 135) (.t 136), none⟩]) <|
             .cond (.t 137)
              (.seq
               (.region [⟨(some 2), .mov (.c (.bool false)), none⟩]) <|
               .ret)
              (.skip))
            (.seq
             (.region [⟨(some 139), .bin .eql (.t 56) (.c (.int .u8 4)), none⟩,
                ⟨(some 138), .mov (.t 139), none⟩]) <|
             .cond (.t 138)
              (.seq
               (.region [⟨(some 140), .mov (.t 3), none⟩,
                  ⟨(some 141), .call (.f 15) [(.t 140)], none⟩]) <|
               .region [⟨(some 4), .mov (.c (.int .i64 (-2305843009213693952))), none⟩,
                 ⟨(some 5), .mov (.c (.int .i64 0)), none⟩,
                 ⟨(some 6), .mov (.c (.int .i64 0)), none⟩,
                 ⟨(some 7), .mov (.c (.int .i64 0)), none⟩,
                 ⟨(some 8), .mov (.c (.bool false)), none⟩,
                 ⟨(some 9), .mov (.c (.sl none 0 (some 0))), none⟩])
              (.skip)))))) <|
    .seq
    (.region [⟨(some 142), .mov (.t 3), none⟩,
       ⟨(some 143), .call (.f 12) [(.t 142)], none⟩,
       ⟨(some 19), .mov (.t 143), none⟩]) <|
    .seq
    (.region [⟨(some 145), .mov (.t 3), none⟩,
       ⟨(some 146), .call (.f 14) [(.t 145)], none⟩,
       ⟨(some 144), .mov (.t 146), none⟩,
       ⟨(some 147), .extract (.t 144) 0, none⟩,
       ⟨(some 148), .extract (.t 144) 1, none⟩,
       ⟨(some 20), .mov (.t 147), none⟩,
       ⟨(some 21), .mov (.t 148), none⟩]) <|
    .seq
    (.seq
     (.region [⟨(some 149), .mov (.t 19), none⟩,
        ⟨(some 150), .len .sl (.t 149), none⟩,
        ⟨(some 151), .mov (.t 9), none⟩,
        ⟨(some 152), .len .sl (.t 151), none⟩,
        ⟨(some 153), .bin .neq (.t 150) (.t 152), none⟩,
        ⟨(some 154), .mov (.t 153), none⟩,
        ⟨(some 155), .mov (.t 21), (some (154, false))⟩,
        ⟨(some 156), .mov (.t 9), (some (154, false))⟩,
        ⟨(some 157), .len .sl (.t 156), (some (154, false))⟩,
        ⟨(some 158), .bin .gtr (.t 157) (.c (.int .i64 0)), (some (154, false))⟩,
        ⟨(some 159), .eq true false [.bool] (.t 155) (.t 158), (some (154, false))⟩,
        ⟨(some 160), .pick (.t 154) (.c (.bool true)) (.t 159), none⟩,
        ⟨(some 161), .mov (.t 160), none⟩,
        ⟨(some 162), .mov (.t 3), (some (161, false))⟩,
        ⟨(some 163), .call (.f 13) [(.t 162)], (some (161, false))⟩,
        ⟨(some 164), .mov (.t 8), (some (161, false))⟩,
        ⟨(some 165), .eq true false [.bool] (.t 163) (.t 164), (some (161, false))⟩,
        ⟨(some 166), .pick (.t 161) (.c (.bool true)) (.t 165), none⟩]) <|
     .cond (.t 166)
      (.seq
       (.region [⟨(some 2), .mov (.c (.bool false)), none⟩]) <|
       .ret)
      (.skip)) <|
    .seq
    (.region [⟨(some 167), .mov (.t 19), none⟩,
       ⟨(some 168), .len .sl (.t 167), none⟩,
       ⟨(some 169), .mov (.c (.int .i64 0)), none⟩]) <|
    .block 3 <|
    .loop [3, 4, 5, 6, 7, 8, 9, 19, 20, 29, 30, 31, 168, 169] <|
     .seq
     (.region [⟨(some 170), .bin .lss (.t 169) (.t 168), none⟩]) <|
     .seq
     (.cond (.t 170)
       (.skip)
       (.exit 3)) <|
     .seq
     (.block 4 <|
      .seq
      (.region [⟨(some 171), .mov (.t 169), none⟩,
         ⟨(some 22), .mov (.t 171), none⟩]) <|
      .seq
      (.draw false [3, 4, 5, 6, 7, 8, 9, 19, 20, 29, 30, 31, 168, 169, 188] (
         .op ⟨(some 172), .mov (.t 19), none⟩ <|
         .op ⟨(some 173), .mov (.t 22), none⟩ <|
         .op ⟨(some 174), .iaddr 1 (.t 172) (.t 173), none⟩ <|
         .op ⟨(some 175), .load false 1 (.t 174), none⟩ <|
         .op ⟨(some 176), .mov (.t 9), none⟩ <|
         .op ⟨(some 177), .mov (.t 22), none⟩ <|
         .op ⟨(some 178), .iaddr 1 (.t 176) (.t 177), none⟩ <|
         .op ⟨(some 179), .load false 1 (.t 178), none⟩ <|
         .op ⟨(some 180), .bin .neq (.t 175) (.t 179), none⟩ <|
         .op ⟨(some 181), .mov (.t 180), none⟩ <|
         .op ⟨(some 182), .mov (.t 20), (some (181, false))⟩ <|
         .op ⟨(some 183), .mov (.t 19), (some (181, false))⟩ <|
         .op ⟨(some 184), .mov (.t 22), (some (181, false))⟩ <|
         .op ⟨(some 185), .iaddr 1 (.t 183) (.t 184), (some (181, false))⟩ <|
         .op ⟨(some 186), .load false 1 (.t 185), (some (181, false))⟩ <|
         .op ⟨(some 187), .bin .gtr (.t 182) (.t 186), (some (181, false))⟩ <|
         .op ⟨(some 188), .pick (.t 181) (.c (.bool true)) (.t 187), none⟩ <|
         .done)) <|
      .cond (.t 188)
       (.seq
        (.region [⟨(some 2), .mov (.c (.bool false)), none⟩]) <|
        .ret)
       (.skip)) <|
     .region [⟨(some 189), .bin .add (.t 169) (.c (.int .i64 1)), none⟩,
       ⟨(some 169), .mov (.t 189), none⟩]) <|
   .region [⟨(some 190), .bin .add (.t 31) (.c (.int .i64 1)), none⟩,
     ⟨(some 31), .mov (.t 190), none⟩]) <|
 .seq
 (.region [⟨(some 2), .mov (.c (.bool true)), none⟩]) <|
 .ret, [.slot 2]⟩
theorem c5 : Code1 Try.prog 5 191 b5 := Code1.mk' Try.func5 (by kernel_rfl) (by kernel_rfl) Try.ntmps5

/-- fusee/fuseelaw24.fixed -/
def b6 : IFn := ⟨
 .seq
 (.region [⟨(some 0), .mov (.c (.bool false)), none⟩]) <|
 .seq
 (.region [⟨(some 12), .call (.f 7) [], none⟩,
    ⟨(some 1), .mov (.t 12), none⟩]) <|
 .seq
 (.region [⟨(some 13), .mov (.t 1), none⟩,
    ⟨(some 14), .call (.f 8) [(.t 13), (.c (.int .i64 5))], none⟩,
    ⟨(some 2), .mov (.t 14), none⟩]) <|
 .seq
 (.region [⟨(some 16), .mov (.t 1), none⟩,
    ⟨(some 17), .call (.f 9) [(.t 16), (.c (.int .i64 7))], none⟩,
    ⟨(some 15), .mov (.t 17), none⟩,
    ⟨(some 18), .extract (.t 15) 0, none⟩,
    ⟨(some 19), .extract (.t 15) 1, none⟩,
    ⟨(some 3), .mov (.t 18), none⟩,
    ⟨(some 4), .mov (.t 19), none⟩]) <|
 .seq
 (.region [⟨(some 21), .mov (.t 1), none⟩,
    ⟨(some 22), .call (.f 10) [(.t 21), (.c (.int .i64 9))], none⟩,
    ⟨(some 20), .mov (.t 22), none⟩,
    ⟨(some 23), .extract (.t 20) 0, none⟩,
    ⟨(some 24), .extract (.t 20) 1, none⟩,
    ⟨(some 5), .mov (.t 23), none⟩,
    ⟨(some 6), .mov (.t 24), none⟩]) <|
 .seq
 (.region [⟨(some 25), .mov (.t 1), none⟩,
    ⟨(some 26), .call (.f 8) [(.t 25), (.c (.int .i64 20))], none⟩,
    ⟨(some 7), .mov (.t 26), none⟩]) <|
 .seq
 (.region [⟨(some 27), .mov (.t 1), none⟩,
    ⟨(some 28), .call (.f 11) [(.t 27), (.c (.int .i64 23))], none⟩,
    ⟨(some 8), .mov (.t 28), none⟩]) <|
 .seq
 (.region [⟨(some 30), .mov (.t 1), none⟩,
    ⟨(some 31), .call (.f 14) [(.t 30)], none⟩,
    ⟨(some 29), .mov (.t 31), none⟩,
    ⟨(some 32), .extract (.t 29) 0, none⟩,
    ⟨(some 33), .extract (.t 29) 1, none⟩,
    ⟨(some 9), .mov (.t 32), none⟩,
    ⟨(some 10), .mov (.t 33), none⟩]) <|
 .seq
 (.region [⟨(some 11), .mov (.c (.ptr none)), none⟩]) <|
 .seq
 (.region [⟨(some 34), .mov (.t 2), none⟩,
    ⟨(some 35), .bin .eql (.t 34) (.c (.int .i64 0)), none⟩,
    ⟨(some 36), .mov (.t 35), none⟩,
    ⟨(some 37), .mov (.t 3), (some (36, true))⟩,
    ⟨(some 38), .bin .eql (.t 37) (.c (.int .i64 2)), (some (36, true))⟩,
    ⟨(some 39), .pick (.t 36) (.t 38) (.c (.bool false)), none⟩,
    ⟨(some 40), .mov (.t 39), none⟩,
    ⟨(some 41), .mov (.t 4), (some (40, true))⟩,
    ⟨(some 42), .bin .eql (.t 41) (.c (.int .i64 0)), (some (40, true))⟩,
    ⟨(some 43), .pick (.t 40) (.t 42) (.c (.bool false)), none⟩,
    ⟨(some 44), .mov (.t 43), none⟩,
    ⟨(some 45), .mov (.t 5), (some (44, true))⟩,
    ⟨(some 46), .bin .eql (.t 45) (.c (.int .i64 4)), (some (44, true))⟩,
    ⟨(some 47), .pick (.t 44) (.t 46) (.c (.bool false)), none⟩,
    ⟨(some 48), .mov (.t 47), none⟩,
    ⟨(some 49), .mov (.t 6), (some (48, true))⟩,
    ⟨(some 50), .bin .eql (.t 49) (.c (.int .i64 0)), (some (48, true))⟩,
    ⟨(some 51), .pick (.t 48) (.t 50) (.c (.bool false)), none⟩,
    ⟨(some 52), .mov (.t 51), none⟩,
    ⟨(some 53), .mov (.t 7), (some (52, true))⟩,
    ⟨(some 54), .bin .eql (.t 53) (.c (.int .i64 0)), (some (52, true))⟩,
    ⟨(some 55), .pick (.t 52) (.t 54) (.c (.bool false)), none⟩,
    ⟨(some 56), .mov (.t 55), none⟩,
    ⟨(some 57), .mov (.t 8), (some (56, true))⟩,
    ⟨(some 58), .bin .eql (.t 57) (.c (.int .i64 7)), (some (56, true))⟩,
    ⟨(some 59), .pick (.t 56) (.t 58) (.c (.bool false)), none⟩,
    ⟨(some 60), .mov (.t 59), none⟩,
    ⟨(some 61), .mov (.t 10), (some (60, true))⟩,
    ⟨(some 62), .pick (.t 60) (.t 61) (.c (.bool false)), none⟩,
    ⟨(some 63), .mov (.t 62), none⟩,
    ⟨(some 64), .mov (.t 9), (some (63, true))⟩,
    ⟨(some 65), .bin .eql (.t 64) (.c (.int .i64 2)), (some (63, true))⟩,
    ⟨(some 66), .pick (.t 63) (.t 65) (.c (.bool false)), none⟩,
    ⟨(some 67), .mov (.t 66), none⟩,
    ⟨(some 68), .mov (.t 1), (some (67, true))⟩,
    ⟨(some 69), .call (.f 12) [(.t 68)], (some (67, true))⟩,
    ⟨(some 70), .len .sl (.t 69), (some (67, true))⟩,
    ⟨(some 71), .bin .eql (.t 70) (.c (.int .i64 1)), (some (67, true))⟩,
    ⟨(some 72), .pick (.t 67) (.t 71) (.c (.bool false)), none⟩,
    ⟨(some 73), .mov (.t 72), none⟩,
    ⟨(some 74), .mov (.t 1), (some (73, true))⟩,
    ⟨(some 75), .call (.f 8) [(.t 74), (.c (.int .i64 1))], (some (73, true))⟩,
    ⟨(some 76), .bin .eql (.t 75) (.c (.int .i64 8)), (some (73, true))⟩,
    ⟨(some 77), .pick (.t 73) (.t 76) (.c (.bool false)), none⟩,
    ⟨(some 78), .mov (.t 77), none⟩,
    ⟨(some 79), .mov (.t 11), (some (78, true))⟩,
    ⟨(some 80), .call (.f 8) [(.t 79), (.c (.int .i64 1))], (some (78, true))⟩,
    ⟨(some 81), .bin .eql (.t 80) (.c (.int .i64 1)), (some (78, true))⟩,
    ⟨(some 82), .pick (.t 78) (.t 81) (.c (.bool false)), none⟩,
    ⟨(some 83), .mov (.t 82), none⟩,
    ⟨(some 84), .mov (.t 11), (some (83, true))⟩,
    ⟨(some 85), .call (.f 11) [(.t 84), (.c (.int .i64 9))], (some (83, true))⟩,
    ⟨(some 86), .bin .eql (.t 85) (.c (.int .i64 0)), (some (83, true))⟩,
    ⟨(some 87), .pick (.t 83) (.t 86) (.c (.bool false)), none⟩,
    ⟨(some 88), .mov (.t 87), none⟩,
    ⟨(some 89), .mov (.t 11), (some (88, true))⟩,
    ⟨(some 90), .call (.f 13) [(.t 89)], (some (88, true))⟩,
    ⟨(some 91), .un .not (.t 90), (some (88, true))⟩,
    ⟨(some 92), .pick (.t 88) (.t 91) (.c (.bool false)), none⟩,
    ⟨(some 0), .mov (.t 92), none⟩]) <|
 .ret, [.slot 0]⟩
theorem c6 : Code1 Try.prog 6 93 b6 := Code1.mk' Try.func6 (by kernel_rfl) (by kernel_rfl) Try.ntmps6

/-- fusee/watch.New -/
def b7 : IFn := ⟨
 .seq
 (.region [⟨(some 0), .mov (.c (.ptr none)), none⟩]) <|
 .seq
 (.region [⟨(some 1), .build [(.int .i64 0), (.int .i64 0), (.int .i64 0), (.sl none 0 (some 0)), (.bool false)] [(0, 1, (.c (.int .i64 (-4611686018427387903))))], none⟩,
    ⟨(some 2), .box (.t 1), none⟩,
    ⟨(some 0), .mov (.t 2), none⟩]) <|
 .ret, [.slot 0]⟩
theorem c7 : Code1 Try.prog 7 3 b7 := Code1.mk' Try.func7 (by kernel_rfl) (by kernel_rfl) Try.ntmps7

/-- fusee/watch.Watch.Start -/
def b8 : IFn := ⟨
 .seq
 (.region [⟨(some 4), .mov (.c (.int .i64 0)), none⟩]) <|
 .seq
 (.block 0 <|
  .seq
  (.region [⟨(some 6), .mov (.t 0), none⟩,
     ⟨(some 7), .eq false false [.ptr] (.t 6) (.c (.ptr none)), none⟩,
     ⟨(some 5), .mov (.t 7), none⟩]) <|
  .cond (.t 5)
   (.seq
    (.region [⟨(some 4), .mov (.c (.int .i64 1)), none⟩]) <|
    .ret)
   (.seq
    (.region [⟨(some 9), .mov (.t 0), none⟩,
       ⟨(some 10), .nilck (.t 9), none⟩,
       ⟨(some 11), .faddr 4 (.t 10), none⟩,
       ⟨(some 12), .load false 1 (.t 11), none⟩,
       ⟨(some 8), .mov (.t 12), none⟩]) <|
    .cond (.t 8)
     (.seq
      (.region [⟨(some 4), .mov (.c (.int .i64 8)), none⟩]) <|
      .ret)
     (.skip))) <|
 .seq
 (.region [⟨(some 13), .mov (.t 0), none⟩,
    ⟨(some 14), .mov (.t 1), none⟩,
    ⟨(some 15), .call (.f 16) [(.t 13), (.t 14)], none⟩]) <|
 .seq
 (.region [⟨(some 16), .mov (.t 0), none⟩,
    ⟨(some 17), .nilck (.t 16), none⟩,
    ⟨(some 18), .faddr 4 (.t 17), none⟩,
    ⟨none, .store 1 (.t 18) (.c (.bool true)), none⟩]) <|
 .seq
 (.region [⟨(some 4), .mov (.c (.int .i64 0)), none⟩]) <|
 .ret, [.slot 4]⟩
theorem c8 : Code1 Try.prog 8 19 b8 := Code1.mk' Try.func8 (by kernel_rfl) (by kernel_rfl) Try.ntmps8

/-- fusee/watch.Watch.Lap -/
def b9 : IFn := ⟨
 .seq
 (.region [⟨(some 4), .mov (.c (.int .i64 0)), none⟩,
    ⟨(some 5), .mov (.c (.int .i64 0)), none⟩]) <|
 .seq
 (.seq
  (.region [⟨(some 8), .mov (.t 0), none⟩,
     ⟨(some 9), .call (.f 17) [(.t 8)], none⟩,
     ⟨(some 6), .mov (.t 9), none⟩]) <|
  .seq
  (.region [⟨(some 10), .mov (.t 6), none⟩,
     ⟨(some 11), .bin .neq (.t 10) (.c (.int .i64 0)), none⟩]) <|
  .cond (.t 11)
   (.seq
    (.region [⟨(some 12), .mov (.t 6), none⟩,
       ⟨(some 4), .mov (.c (.int .i64 0)), none⟩,
       ⟨(some 5), .mov (.t 12), none⟩]) <|
    .ret)
   (.skip)) <|
 .seq
 (.region [⟨(some 13), .mov (.t 0), none⟩,
    ⟨(some 14), .mov (.t 1), none⟩,
    ⟨(some 15), .call (.f 16) [(.t 13), (.t 14)], none⟩]) <|
 .seq
 (.draw false [0, 7] (
    .op ⟨(some 16), .mov (.t 0), none⟩ <|
    .op ⟨(some 17), .nilck (.t 16), none⟩ <|
    .op ⟨(some 18), .faddr 1 (.t 17), none⟩ <|
    .op ⟨(some 19), .load false 1 (.t 18), none⟩ <|
    .op ⟨(some 20), .mov (.t 0), none⟩ <|
    .op ⟨(some 21), .nilck (.t 20), none⟩ <|
    .op ⟨(some 22), .faddr 2 (.t 21), none⟩ <|
    .op ⟨(some 23), .load false 1 (.t 22), none⟩ <|
    .op ⟨(some 24), .bin .sub (.t 19) (.t 23), none⟩ <|
    .op ⟨(some 7), .mov (.t 24), none⟩ <|
    .done)) <|
 .seq
 (.region [⟨(some 25), .mov (.t 0), none⟩,
    ⟨(some 26), .mov (.t 0), none⟩,
    ⟨(some 27), .nilck (.t 26), none⟩,
    ⟨(some 28), .faddr 1 (.t 27), none⟩,
    ⟨(some 29), .load false 1 (.t 28), none⟩,
    ⟨(some 30), .nilck (.t 25), none⟩,
    ⟨(some 31), .faddr 2 (.t 30), none⟩,
    ⟨none, .store 1 (.t 31) (.t 29), none⟩]) <|
 .seq
 (.region [⟨(some 32), .mov (.t 0), none⟩,
    ⟨(some 33), .mov (.t 0), none⟩,
    ⟨(some 34), .nilck (.t 33), none⟩,
    ⟨(some 35), .faddr 3 (.t 34), none⟩,
    ⟨(some 36), .load false 1 (.t 35), none⟩,
    ⟨(some 37), .mov (.t 7), none⟩,
    ⟨(some 38), .buildSl 1 [(.int .i64 0)] [(0, 1, (.t 37))], none⟩,
    ⟨(some 39), .app 1 8 (.t 36) (.t 38), none⟩,
    ⟨(some 40), .nilck (.t 32), none⟩,
    ⟨(some 41), .faddr 3 (.t 40), none⟩,
    ⟨none, .store 1 (.t 41) (.t 39), none⟩]) <|
 .seq
 (.draw false [7] (
    .op ⟨(some 42), .mov (.t 0), none⟩ <|
    .op ⟨(some 43), .mov (.t 0), none⟩ <|
    .op ⟨(some 44), .nilck (.t 43), none⟩ <|
    .op ⟨(some 45), .faddr 3 (.t 44), none⟩ <|
    .op ⟨(some 46), .load false 1 (.t 45), none⟩ <|
    .op ⟨(some 47), .mov (.t 0), none⟩ <|
    .op ⟨(some 48), .nilck (.t 47), none⟩ <|
    .op ⟨(some 49), .faddr 3 (.t 48), none⟩ <|
    .op ⟨(some 50), .load false 1 (.t 49), none⟩ <|
    .op ⟨(some 51), .len .sl (.t 50), none⟩ <|
    .op ⟨(some 52), .bin .sub (.t 51) (.c (.int .i64 1000)), none⟩ <|
    .op ⟨(some 53), .max [(.t 52), (.c (.int .i64 0))], none⟩ <|
    .op ⟨(some 54), .slice 1 (.t 46) (some (.t 53)) none none, none⟩ <|
    .op ⟨(some 55), .nilck (.t 42), none⟩ <|
    .op ⟨(some 56), .faddr 3 (.t 55), none⟩ <|
    .op ⟨none, .store 1 (.t 56) (.t 54), none⟩ <|
    .done)) <|
 .seq
 (.region [⟨(some 57), .mov (.t 7), none⟩,
    ⟨(some 4), .mov (.t 57), none⟩,
    ⟨(some 5), .mov (.c (.int .i64 0)), none⟩]) <|
 .ret, [.slot 4, .slot 5]⟩
theorem c9 : Code1 Try.prog 9 58 b9 := Code1.mk' Try.func9 (by kernel_rfl) (by kernel_rfl) Try.ntmps9

/-- fusee/watch.Watch.Stop -/
def b10 : IFn := ⟨
 .seq
 (.region [⟨(some 4), .mov (.c (.int .i64 0)), none⟩,
    ⟨(some 5), .mov (.c (.int .i64 0)), none⟩]) <|
 .seq
 (.seq
  (.region [⟨(some 7), .mov (.t 0), none⟩,
     ⟨(some 8), .call (.f 17) [(.t 7)], none⟩,
     ⟨(some 6), .mov (.t 8), none⟩]) <|
  .seq
  (.region [⟨(some 9), .mov (.t 6), none⟩,
     ⟨(some 10), .bin .neq (.t 9) (.c (.int .i64 0)), none⟩]) <|
  .cond (.t 10)
   (.seq
    (.region [⟨(some 11), .mov (.t 6), none⟩,
       ⟨(some 4), .mov (.c (.int .i64 0)), none⟩,
       ⟨(some 5), .mov (.t 11), none⟩]) <|
    .ret)
   (.skip)) <|
 .seq
 (.region [⟨(some 12), .mov (.t 0), none⟩,
    ⟨(some 13), .mov (.t 1), none⟩,
    ⟨(some 14), .call (.f 16) [(.t 12), (.t 13)], none⟩]) <|
 .seq
 (.region [⟨(some 15), .mov (.t 0), none⟩,
    ⟨(some 16), .nilck (.t 15), none⟩,
    ⟨(some 17), .faddr 4 (.t 16), none⟩,
    ⟨none, .store 1 (.t 17) (.c (.bool false)), none⟩]) <|
 .seq
 (.region [⟨(some 18), .mov (.t 0), none⟩,
    ⟨(some 19), .nilck (.t 18), none⟩,
    ⟨(some 20), .faddr 1 (.t 19), none⟩,
    ⟨(some 21), .load false 1 (.t 20), none⟩,
    ⟨(some 4), .mov (.t 21), none⟩,
    ⟨(some 5), .mov (.c (.int .i64 0)), none⟩]) <|
 .ret, [.slot 4, .slot 5]⟩
theorem c10 : Code1 Try.prog 10 22 b10 := Code1.mk' Try.func10 (by kernel_rfl) (by kernel_rfl) Try.ntmps10

/-- fusee/watch.Watch.Total -/
def b11 : IFn := ⟨
 .seq
 (.region [⟨(some 4), .mov (.c (.int .i64 0)), none⟩]) <|
 .seq
 (.seq
  (.region [⟨(some 5), .mov (.t 0), none⟩,
     ⟨(some 6), .eq false false [.ptr] (.t 5) (.c (.ptr none)), none⟩]) <|
  .cond (.t 6)
   (.seq
    (.region [⟨(some 4), .mov (.c (.int .i64 0)), none⟩]) <|
    .ret)
   (.skip)) <|
 .seq
 (.region [⟨(some 7), .mov (.t 0), none⟩,
    ⟨(some 8), .mov (.t 1), none⟩,
    ⟨(some 9), .call (.f 16) [(.t 7), (.t 8)], none⟩]) <|
 .seq
 (.region [⟨(some 10), .mov (.t 0), none⟩,
    ⟨(some 11), .nilck (.t 10), none⟩,
    ⟨(some 12), .faddr 1 (.t 11), none⟩,
    ⟨(some 13), .load false 1 (.t 12), none⟩,
    ⟨(some 4), .mov (.t 13), none⟩]) <|
 .ret, [.slot 4]⟩
theorem c11 : Code1 Try.prog 11 14 b11 := Code1.mk' Try.func11 (by kernel_rfl) (by kernel_rfl) Try.ntmps11

/-- fusee/watch.Watch.Laps -/
def b12 : IFn := ⟨
 .seq
 (.region [⟨(some 2), .mov (.c (.sl none 0 (some 0))), none⟩]) <|
 .seq
 (.seq
  (.region [⟨(some 3), .mov (.t 0), none⟩,
     ⟨(some 4), .eq false false [.ptr] (.t 3) (.c (.ptr none)), none⟩]) <|
  .cond (.t 4)
   (.seq
    (.region [⟨(some 2), .mov (.c (.sl none 0 (some 0))), none⟩]) <|
    .ret)
   (.skip)) <|
 .seq
 (.region [⟨(some 5), .mov (.t 0), none⟩,
    ⟨(some 6), .nilck (.t 5), none⟩,
    ⟨(some 7), .faddr 3 (.t 6), none⟩,
    ⟨(some 8), .load false 1 (.t 7), none⟩,
    ⟨(some 9), .call (.f 18) [(.t 8)], none⟩,
    ⟨(some 2), .mov (.t 9), none⟩]) <|
 .ret, [.slot 2]⟩
theorem c12 : Code1 Try.prog 12 10 b12 := Code1.mk' Try.func12 (by kernel_rfl) (by kernel_rfl) Try.ntmps12

/-- fusee/watch.Watch.Running -/
def b13 : IFn := ⟨
 .seq
 (.region [⟨(some 2), .mov (.c (.bool false)), none⟩]) <|
 .seq
 (.region [⟨(some 3), .mov (.t 0), none⟩,
    ⟨(some 4), .eq true false [.ptr] (.t 3) (.c (.ptr none)), none⟩,
    ⟨(some 5), .mov (.t 4), none⟩,
    ⟨(some 6), .mov (.t 0), (some (5, true))⟩,
    ⟨(some 7), .nilck (.t 6), (some (5, true))⟩,
    ⟨(some 8), .faddr 4 (.t 7), (some (5, true))⟩,
    ⟨(some 9), .load false 1 (.t 8), (some (5, true))⟩,
    ⟨(some 10), .pick (.t 5) (.t 9) (.c (.bool false)), none⟩,
    ⟨(some 2), .mov (.t 10), none⟩]) <|
 .ret, [.slot 2]⟩
theorem c13 : Code1 Try.prog 13 11 b13 := Code1.mk' Try.func13 (by kernel_rfl) (by kernel_rfl) Try.ntmps13

/-- fusee/watch.Watch.Best -/
def b14 : IFn := ⟨
 .seq
 (.region [⟨(some 2), .mov (.c (.int .i64 0)), none⟩,
    ⟨(some 3), .mov (.c (.bool false)), none⟩]) <|
 .seq
 (.seq
  (.region [⟨(some 4), .mov (.t 0), none⟩,
     ⟨(some 5), .eq false false [.ptr] (.t 4) (.c (.ptr none)), none⟩,
     ⟨(some 6), .mov (.t 5), none⟩,
     ⟨(some 7), .mov (.t 0), (some (6, false))⟩,
     ⟨(some 8), .nilck (.t 7), (some (6, false))⟩,
     ⟨(some 9), .faddr 3 (.t 8), (some (6, false))⟩,
     ⟨(some 10), .load false 1 (.t 9), (some (6, false))⟩,
     ⟨(some 11), .len .sl (.t 10), (some (6, false))⟩,
     ⟨(some 12), .bin .eql (.t 11) (.c (.int .i64 0)), (some (6, false))⟩,
     ⟨(some 13), .pick (.t 6) (.c (.bool true)) (.t 12), none⟩]) <|
  .cond (.t 13)
   (.seq
    (.region [⟨(some 2), .mov (.c (.int .i64 0)), none⟩,
       ⟨(some 3), .mov (.c (.bool false)), none⟩]) <|
    .ret)
   (.skip)) <|
 .seq
 (.region [⟨(some 14), .mov (.t 0), none⟩,
    ⟨(some 15), .nilck (.t 14), none⟩,
    ⟨(some 16), .faddr 3 (.t 15), none⟩,
    ⟨(some 17), .load false 1 (.t 16), none⟩,
    ⟨(some 18), .call (.f 19) [(.t 17)], none⟩,
    ⟨(some 2), .mov (.t 18), none⟩,
    ⟨(some 3), .mov (.c (.bool true)), none⟩]) <|
 .ret, [.slot 2, .slot 3]⟩
theorem c14 : Code1 Try.prog 14 19 b14 := Code1.mk' Try.func14 (by kernel_rfl) (by kernel_rfl) Try.ntmps14

/-- fusee/watch.Watch.Reset -/
def b15 : IFn := ⟨
 .seq
 (.region [⟨(some 2), .mov (.t 0), none⟩,
    ⟨(some 3), .eq true false [.ptr] (.t 2) (.c (.ptr none)), none⟩]) <|
 .cond (.t 3)
  (.region [⟨(some 4), .mov (.t 0), none⟩,
     ⟨(some 5), .call (.f 7) [], none⟩,
     ⟨(some 6), .nilck (.t 5), none⟩,
     ⟨(some 7), .load true 5 (.t 6), none⟩,
     ⟨(some 8), .nilck (.t 4), none⟩,
     ⟨none, .store 5 (.t 8) (.t 7), none⟩])
  (.skip), []⟩
theorem c15 : Code1 Try.prog 15 9 b15 := Code1.mk' Try.func15 (by kernel_rfl) (by kernel_rfl) Try.ntmps15

/-- fusee/watch.Watch.reach -/
def b16 : IFn := ⟨
 .seq
 (.draw true [0, 1] (
    .op ⟨(some 4), .mov (.t 0), none⟩ <|
    .op ⟨(some 5), .nilck (.t 4), none⟩ <|
    .op ⟨(some 6), .faddr 0 (.t 5), none⟩ <|
    .op ⟨(some 8), .mov (.t 1), none⟩ <|
    .alt (.op ⟨(some 7), .load false 1 (.t 6), none⟩ <|
     .op ⟨(some 9), .call (.f 20) [(.t 8)], none⟩ <|
     .op ⟨(some 10), .max [(.t 7), (.t 9)], none⟩ <|
     .op ⟨(some 1), .mov (.t 10), none⟩ <|
     .done) <|
    .op ⟨(some 9), .call (.f 20) [(.t 8)], none⟩ <|
    .op ⟨(some 7), .load false 1 (.t 6), none⟩ <|
    .op ⟨(some 10), .max [(.t 7), (.t 9)], none⟩ <|
    .op ⟨(some 1), .mov (.t 10), none⟩ <|
    .done)) <|
 .seq
 (.seq
  (.region [⟨(some 11), .mov (.t 0), none⟩,
     ⟨(some 12), .nilck (.t 11), none⟩,
     ⟨(some 13), .faddr 4 (.t 12), none⟩,
     ⟨(some 14), .load false 1 (.t 13), none⟩]) <|
  .cond (.t 14)
   (.draw true [0, 1] (
      .op ⟨(some 15), .mov (.t 0), none⟩ <|
      .op ⟨(some 16), .mov (.t 0), none⟩ <|
      .op ⟨(some 17), .nilck (.t 16), none⟩ <|
      .op ⟨(some 18), .faddr 1 (.t 17), none⟩ <|
      .op ⟨(some 20), .mov (.t 1), none⟩ <|
      .op ⟨(some 21), .min [(.t 20), (.c (.int .i64 4611686018427387902))], none⟩ <|
      .op ⟨(some 22), .mov (.t 0), none⟩ <|
      .op ⟨(some 23), .nilck (.t 22), none⟩ <|
      .op ⟨(some 24), .faddr 0 (.t 23), none⟩ <|
      .op ⟨(some 25), .load false 1 (.t 24), none⟩ <|
      .op ⟨(some 26), .min [(.t 25), (.c (.int .i64 4611686018427387902))], none⟩ <|
      .alt (.op ⟨(some 19), .load false 1 (.t 18), none⟩ <|
       .op ⟨(some 27), .call (.f 22) [(.t 21), (.t 26)], none⟩ <|
       .op ⟨(some 28), .call (.f 21) [(.t 19), (.t 27)], none⟩ <|
       .op ⟨(some 29), .nilck (.t 15), none⟩ <|
       .op ⟨(some 30), .faddr 1 (.t 29), none⟩ <|
       .op ⟨none, .store 1 (.t 30) (.t 28), none⟩ <|
       .done) <|
      .op ⟨(some 27), .call (.f 22) [(.t 21), (.t 26)], none⟩ <|
      .op ⟨(some 19), .load false 1 (.t 18), none⟩ <|
      .op ⟨(some 28), .call (.f 21) [(.t 19), (.t 27)], none⟩ <|
      .op ⟨(some 29), .nilck (.t 15), none⟩ <|
      .op ⟨(some 30), .faddr 1 (.t 29), none⟩ <|
      .op ⟨none, .store 1 (.t 30) (.t 28), none⟩ <|
      .done))
   (.skip)) <|
 .region [⟨(some 31), .mov (.t 0), none⟩,
   ⟨(some 32), .mov (.t 1), none⟩,
   ⟨(some 33), .nilck (.t 31), none⟩,
   ⟨(some 34), .faddr 0 (.t 33), none⟩,
   ⟨none, .store 1 (.t 34) (.t 32), none⟩], []⟩
theorem c16 : Code1 Try.prog 16 35 b16 := Code1.mk' Try.func16 (by kernel_rfl) (by kernel_rfl) Try.ntmps16

/-- fusee/watch.Watch.state -/
def b17 : IFn := ⟨
 .seq
 (.region [⟨(some 2), .mov (.c (.int .i64 0)), none⟩]) <|
 .seq
 (.block 0 <|
  .seq
  (.region [⟨(some 4), .mov (.t 0), none⟩,
     ⟨(some 5), .eq false false [.ptr] (.t 4) (.c (.ptr none)), none⟩,
     ⟨(some 3), .mov (.t 5), none⟩]) <|
  .cond (.t 3)
   (.seq
    (.region [⟨(some 2), .mov (.c (.int .i64 1)), none⟩]) <|
    .ret)
   (.seq
    (.region [⟨(some 7), .mov (.t 0), none⟩,
       ⟨(some 8), .nilck (.t 7), none⟩,
       ⟨(some 9), .faddr 4 (.t 8), none⟩,
       ⟨(some 10), .load false 1 (.t 9), none⟩,
       ⟨(some 11), .un .not (.t 10), none⟩,
       ⟨(some 6), .mov (.t 11), none⟩]) <|
    .cond (.t 6)
     (.seq
      (.region [⟨(some 2), .mov (.c (.int .i64 8)), none⟩]) <|
      .ret)
     (.skip))) <|
 .seq
 (.region [⟨(some 2), .mov (.c (.int .i64 0)), none⟩]) <|
 .ret, [.slot 2]⟩
theorem c17 : Code1 Try.prog 17 12 b17 := Code1.mk' Try.func17 (by kernel_rfl) (by kernel_rfl) Try.ntmps17

/-- slices.Clone[[]int,int] -/
def b18 : IFn := ⟨
 .seq
 (.region [⟨(some 2), .mov (.c (.sl none 0 (some 0))), none⟩]) <|
 .seq
 (.seq
  (.region [⟨(some 3), .mov (.t 0), none⟩,
     ⟨(some 4), .eq false false [.sl] (.t 3) (.c (.sl none 0 (some 0))), none⟩]) <|
  .cond (.t 4)
   (.seq
    (.region [⟨(some 2), .mov (.c (.sl none 0 (some 0))), none⟩]) <|
    .ret)
   (.skip)) <|
 .seq
 (.region [⟨(some 5), .buildSl 1 [] [], none⟩,
    ⟨(some 6), .mov (.t 0), none⟩,
    ⟨(some 7), .app 1 8 (.t 5) (.t 6), none⟩,
    ⟨(some 2), .mov (.t 7), none⟩]) <|
 .ret, [.slot 2]⟩
theorem c18 : Code1 Try.prog 18 8 b18 := Code1.mk' Try.func18 (by kernel_rfl) (by kernel_rfl) Try.ntmps18

/-- slices.Min[[]int,int] BAD -/
def b19 : IFn := ⟨
 .seq
 (.region [⟨(some 2), .mov (.c (.int .i64 0)), none⟩]) <|
 .seq
 (.seq
  (.region [⟨(some 5), .mov (.t 0), none⟩,
     ⟨(some 6), .len .sl (.t 5), none⟩,
     ⟨(some 7), .bin .lss (.t 6) (.c (.int .i64 1)), none⟩]) <|
  .cond (.t 7)
   (.region [⟨(some 8), .mkIfc 9 (.c (.str ⟨#[115, 108, 105, 99, 101, 115, 46, 77, 105, 110, 58, 32, 101, 109, 112, 116, 121, 32, 108, 105, 115, 116]⟩)), none⟩,
      ⟨none, .bad, none⟩])
   (.skip)) <|
 .seq
 (.region [⟨(some 9), .mov (.t 0), none⟩,
    ⟨(some 10), .iaddr 1 (.t 9) (.c (.int .i64 0)), none⟩,
    ⟨(some 11), .load false 1 (.t 10), none⟩,
    ⟨(some 3), .mov (.t 11), none⟩]) <|
 .seq
 (.seq
  (.region [⟨(some 4), .mov (.c (.int .i64 1)), none⟩]) <|
  .block 0 <|
  .loop [0, 3, 4] <|
   .seq
   (.seq
    (.region [⟨(some 12), .mov (.t 4), none⟩,
       ⟨(some 13), .mov (.t 0), none⟩,
       ⟨(some 14), .len .sl (.t 13), none⟩,
       ⟨(some 15), .bin .lss (.t 12) (.t 14), none⟩]) <|
    .cond (.t 15)
     (.skip)
     (.exit 0)) <|
   .seq
   (.block 1 <|
    .region [⟨(some 18), .mov (.t 3), none⟩,
      ⟨(some 19), .mov (.t 0), none⟩,
      ⟨(some 20), .mov (.t 4), none⟩,
      ⟨(some 21), .iaddr 1 (.t 19) (.t 20), none⟩,
      ⟨(some 22), .load false 1 (.t 21), none⟩,
      ⟨(some 23), .min [(.t 18), (.t 22)], none⟩,
      ⟨(some 3), .mov (.t 23), none⟩]) <|
   .region [⟨(some 16), .mov (.t 4), none⟩,
     ⟨(some 17), .bin .add (.t 16) (.c (.int .i64 1)), none⟩,
     ⟨(some 4), .mov (.t 17), none⟩]) <|
 .seq
 (.region [⟨(some 24), .mov (.t 3), none⟩,
    ⟨(some 2), .mov (.t 24), none⟩]) <|
 .ret, [.slot 2]⟩
theorem c19 : Code1 Try.prog 19 25 b19 := Code1.mk' Try.func19 (by kernel_rfl) (by kernel_rfl) Try.ntmps19

/-- fusee/ktime.Clamp -/
def b20 : IFn := ⟨
 .seq
 (.region [⟨(some 2), .mov (.c (.int .i64 0)), none⟩]) <|
 .seq
 (.region [⟨(some 3), .mov (.t 0), none⟩,
    ⟨(some 4), .max [(.t 3), (.c (.int .i64 (-4611686018427387903)))], none⟩,
    ⟨(some 5), .min [(.t 4), (.c (.int .i64 4611686018427387903))], none⟩,
    ⟨(some 2), .mov (.t 5), none⟩]) <|
 .ret, [.slot 2]⟩
theorem c20 : Code1 Try.prog 20 6 b20 := Code1.mk' Try.func20 (by kernel_rfl) (by kernel_rfl) Try.ntmps20

/-- fusee/ktime.Add -/
def b21 : IFn := ⟨
 .seq
 (.region [⟨(some 4), .mov (.c (.int .i64 0)), none⟩]) <|
 .seq
 (.seq
  (.region [⟨(some 5), .mov (.t 0), none⟩,
     ⟨(some 6), .call (.f 23) [(.t 5)], none⟩]) <|
  .cond (.t 6)
   (.seq
    (.region [⟨(some 4), .mov (.c (.int .i64 4611686018427387903)), none⟩]) <|
    .ret)
   (.skip)) <|
 .seq
 (.region [⟨(some 7), .mov (.t 0), none⟩,
    ⟨(some 8), .call (.f 20) [(.t 7)], none⟩,
    ⟨(some 9), .mov (.t 1), none⟩,
    ⟨(some 10), .call (.f 20) [(.t 9)], none⟩,
    ⟨(some 11), .bin .add (.t 8) (.t 10), none⟩,
    ⟨(some 12), .call (.f 20) [(.t 11)], none⟩,
    ⟨(some 4), .mov (.t 12), none⟩]) <|
 .ret, [.slot 4]⟩
theorem c21 : Code1 Try.prog 21 13 b21 := Code1.mk' Try.func21 (by kernel_rfl) (by kernel_rfl) Try.ntmps21

/-- fusee/ktime.Sub -/
def b22 : IFn := ⟨
 .seq
 (.region [⟨(some 4), .mov (.c (.int .i64 0)), none⟩]) <|
 .seq
 (.seq
  (.region [⟨(some 5), .mov (.t 0), none⟩,
     ⟨(some 6), .call (.f 23) [(.t 5)], none⟩]) <|
  .cond (.t 6)
   (.seq
    (.region [⟨(some 4), .mov (.c (.int .i64 4611686018427387903)), none⟩]) <|
    .ret)
   (.skip)) <|
 .seq
 (.region [⟨(some 7), .mov (.t 0), none⟩,
    ⟨(some 8), .call (.f 20) [(.t 7)], none⟩,
    ⟨(some 9), .mov (.t 1), none⟩,
    ⟨(some 10), .call (.f 20) [(.t 9)], none⟩,
    ⟨(some 11), .bin .sub (.t 8) (.t 10), none⟩,
    ⟨(some 12), .call (.f 20) [(.t 11)], none⟩,
    ⟨(some 4), .mov (.t 12), none⟩]) <|
 .ret, [.slot 4]⟩
theorem c22 : Code1 Try.prog 22 13 b22 := Code1.mk' Try.func22 (by kernel_rfl) (by kernel_rfl) Try.ntmps22

/-- fusee/ktime.Never -/
def b23 : IFn := ⟨
 .seq
 (.region [⟨(some 2), .mov (.c (.bool false)), none⟩]) <|
 .seq
 (.region [⟨(some 3), .mov (.t 0), none⟩,
    ⟨(some 4), .bin .geq (.t 3) (.c (.int .i64 4611686018427387903)), none⟩,
    ⟨(some 2), .mov (.t 4), none⟩]) <|
 .ret, [.slot 2]⟩
theorem c23 : Code1 Try.prog 23 5 b23 := Code1.mk' Try.func23 (by kernel_rfl) (by kernel_rfl) Try.ntmps23

/-- The functions that the facts at the head of each statement call. -/
abbrev code : CodeL := [(6, 93, b6), (7, 3, b7), (8, 19, b8), (9, 58, b9), (10, 22, b10), (11, 14, b11), (12, 10, b12), (13, 11, b13), (14, 19, b14), (15, 9, b15), (16, 35, b16), (17, 12, b17), (18, 8, b18), (19, 25, b19), (20, 6, b20), (21, 13, b21), (22, 13, b22), (23, 5, b23)]
theorem codeOk : CodeOk Try.prog code := ⟨c6, c7, c8, c9, c10, c11, c12, c13, c14, c15, c16, c17, c18, c19, c20, c21, c22, c23, trivial⟩

end Go.Proofs.Ytmbcfcnbdehjmaa
