/-
  THE CODE of the functions of this seat, as the plain machine's; each is what the compiler makes of the program's.
-/
import Derived.Test.YtmfekckcingneaaChecked
import Derived.Test.YtmfekckcingneaaAm29
import Derived.KernelRfl
namespace Go.Proofs.Ytmfekckcingneaa
open Go Go.AM
set_option linter.unusedVariables false

theorem hm : Try.prog.follows .mixedOrders = true := by kernel_rfl

/-- fusee/fuseelaw16.SignalCounts -/
def b3 : IFn := ⟨
 .seq
 (.region [⟨(some 8), .mov (.c (.bool false)), none⟩]) <|
 .seq
 (.seq
  (.region [⟨(some 17), .call (.f 6) [], none⟩,
     ⟨(some 18), .un .not (.t 17), none⟩]) <|
  .cond (.t 18)
   (.seq
    (.region [⟨(some 8), .mov (.c (.bool false)), none⟩]) <|
    .ret)
   (.skip)) <|
 .seq
 (.region [⟨(some 19), .call (.f 7) [], none⟩,
    ⟨(some 9), .mov (.t 19), none⟩]) <|
 .seq
 (.region [⟨(some 20), .mov (.t 0), none⟩,
    ⟨(some 21), .bin .rem (.t 20) (.c (.int .u8 63)), none⟩,
    ⟨(some 22), .conv .i64 (.t 21), none⟩,
    ⟨(some 23), .bin .add (.c (.int .i64 1)) (.t 22), none⟩,
    ⟨(some 24), .mov (.t 1), none⟩,
    ⟨(some 25), .conv .i64 (.t 24), none⟩,
    ⟨(some 10), .mov (.t 23), none⟩,
    ⟨(some 11), .mov (.t 25), none⟩]) <|
 .seq
 (.region [⟨(some 26), .mov (.t 2), none⟩,
    ⟨(some 27), .bin .rem (.t 26) (.c (.int .u16 300)), none⟩,
    ⟨(some 28), .conv .i64 (.t 27), none⟩,
    ⟨(some 29), .bin .add (.c (.int .i64 1)) (.t 28), none⟩,
    ⟨(some 12), .mov (.t 29), none⟩]) <|
 .seq
 (.seq
  (.region [⟨(some 30), .mov (.t 12), none⟩,
     ⟨(some 31), .mov (.c (.int .i64 0)), none⟩]) <|
  .block 0 <|
  .loop [3, 9, 10, 11, 12, 30, 31] <|
   .seq
   (.region [⟨(some 32), .bin .lss (.t 31) (.t 30), none⟩]) <|
   .seq
   (.cond (.t 32)
     (.skip)
     (.exit 0)) <|
   .seq
   (.block 1 <|
    .seq
    (.region [⟨(some 33), .mov (.t 9), none⟩,
       ⟨(some 34), .mov (.t 10), none⟩,
       ⟨(some 35), .mov (.t 11), none⟩,
       ⟨(some 36), .mov (.t 3), none⟩,
       ⟨(some 37), .conv .i64 (.t 36), none⟩,
       ⟨(some 38), .call (.f 8) [(.t 33), (.t 34), (.t 35), (.t 37)], none⟩,
       ⟨(some 39), .bin .neq (.t 38) (.c (.int .i64 0)), none⟩]) <|
    .cond (.t 39)
     (.seq
      (.region [⟨(some 8), .mov (.c (.bool false)), none⟩]) <|
      .ret)
     (.skip)) <|
   .region [⟨(some 40), .bin .add (.t 31) (.c (.int .i64 1)), none⟩,
     ⟨(some 31), .mov (.t 40), none⟩]) <|
 .seq
 (.region [⟨(some 42), .mov (.t 9), none⟩,
    ⟨(some 43), .call (.f 9) [(.t 42)], none⟩,
    ⟨(some 41), .mov (.t 43), none⟩,
    ⟨(some 44), .extract (.t 41) 0, none⟩,
    ⟨(some 45), .extract (.t 41) 1, none⟩,
    ⟨(some 13), .alloc [(.int .i64 0), (.int .i64 0), (.int .i64 0)], none⟩,
    ⟨none, .store 3 (.t 13) (.t 44), none⟩,
    ⟨(some 14), .mov (.t 45), none⟩]) <|
 .seq
 (.region [⟨(some 47), .mov (.t 9), none⟩,
    ⟨(some 48), .call (.f 9) [(.t 47)], none⟩,
    ⟨(some 46), .mov (.t 48), none⟩,
    ⟨(some 49), .extract (.t 46) 0, none⟩,
    ⟨(some 50), .extract (.t 46) 1, none⟩,
    ⟨(some 15), .alloc [(.int .i64 0), (.int .i64 0), (.int .i64 0)], none⟩,
    ⟨none, .store 3 (.t 15) (.t 49), none⟩,
    ⟨(some 16), .mov (.t 50), none⟩]) <|
 .seq
 (.region [⟨(some 51), .mov (.t 14), none⟩,
    ⟨(some 52), .mov (.t 51), none⟩,
    ⟨(some 53), .mov (.t 16), (some (52, true))⟩,
    ⟨(some 54), .un .not (.t 53), (some (52, true))⟩,
    ⟨(some 55), .pick (.t 52) (.t 54) (.c (.bool false)), none⟩,
    ⟨(some 56), .mov (.t 55), none⟩,
    ⟨(some 57), .faddr 0 (.t 13), (some (56, true))⟩,
    ⟨(some 58), .load false 1 (.t 57), (some (56, true))⟩,
    ⟨(some 59), .mov (.t 10), (some (56, true))⟩,
    ⟨(some 60), .bin .eql (.t 58) (.t 59), (some (56, true))⟩,
    ⟨(some 61), .pick (.t 56) (.t 60) (.c (.bool false)), none⟩,
    ⟨(some 62), .mov (.t 61), none⟩,
    ⟨(some 63), .faddr 1 (.t 13), (some (62, true))⟩,
    ⟨(some 64), .load false 1 (.t 63), (some (62, true))⟩,
    ⟨(some 65), .mov (.t 11), (some (62, true))⟩,
    ⟨(some 66), .bin .eql (.t 64) (.t 65), (some (62, true))⟩,
    ⟨(some 67), .pick (.t 62) (.t 66) (.c (.bool false)), none⟩,
    ⟨(some 68), .mov (.t 67), none⟩,
    ⟨(some 69), .faddr 2 (.t 13), (some (68, true))⟩,
    ⟨(some 70), .load false 1 (.t 69), (some (68, true))⟩,
    ⟨(some 71), .mov (.t 12), (some (68, true))⟩,
    ⟨(some 72), .mov (.t 3), (some (68, true))⟩,
    ⟨(some 73), .conv .i64 (.t 72), (some (68, true))⟩,
    ⟨(some 74), .bin .mul (.t 71) (.t 73), (some (68, true))⟩,
    ⟨(some 75), .mov (.t 12), (some (68, true))⟩,
    ⟨(some 76), .bin .add (.t 74) (.t 75), (some (68, true))⟩,
    ⟨(some 77), .bin .sub (.t 76) (.c (.int .i64 1)), (some (68, true))⟩,
    ⟨(some 78), .bin .eql (.t 70) (.t 77), (some (68, true))⟩,
    ⟨(some 79), .pick (.t 68) (.t 78) (.c (.bool false)), none⟩,
    ⟨(some 8), .mov (.t 79), none⟩]) <|
 .ret, [.slot 8]⟩
theorem c3 : Code1 Try.prog 3 80 b3 := Code1.mk' Try.func3 (by kernel_rfl) (by kernel_rfl) Try.ntmps3

/-- fusee/fuseelaw16.SignalBlocks -/
def b4 : IFn := ⟨
 .seq
 (.region [⟨(some 4), .mov (.c (.bool false)), none⟩]) <|
 .seq
 (.seq
  (.region [⟨(some 16), .call (.f 6) [], none⟩,
     ⟨(some 17), .un .not (.t 16), none⟩]) <|
  .cond (.t 17)
   (.seq
    (.region [⟨(some 4), .mov (.c (.bool false)), none⟩]) <|
    .ret)
   (.skip)) <|
 .seq
 (.seq
  (.region [⟨(some 18), .mov (.t 0), none⟩,
     ⟨(some 19), .len .sl (.t 18), none⟩,
     ⟨(some 20), .bin .gtr (.t 19) (.c (.int .i64 30)), none⟩]) <|
  .cond (.t 20)
   (.seq
    (.region [⟨(some 4), .mov (.c (.bool true)), none⟩]) <|
    .ret)
   (.skip)) <|
 .seq
 (.region [⟨(some 21), .call (.f 7) [], none⟩,
    ⟨(some 5), .mov (.t 21), none⟩]) <|
 .seq
 (.region [⟨(some 22), .mov (.t 1), none⟩,
    ⟨(some 23), .bin .rem (.t 22) (.c (.int .u8 63)), none⟩,
    ⟨(some 24), .conv .i64 (.t 23), none⟩,
    ⟨(some 25), .bin .add (.c (.int .i64 1)) (.t 24), none⟩,
    ⟨(some 6), .mov (.t 25), none⟩]) <|
 .seq
 (.region [⟨(some 26), .mov (.t 5), none⟩,
    ⟨(some 27), .mov (.t 6), none⟩,
    ⟨(some 28), .call (.f 10) [(.t 26), (.t 27), (.c (.bool true))], none⟩]) <|
 .seq
 (.seq
  (.region [⟨(some 29), .mov (.t 0), none⟩,
     ⟨(some 30), .len .sl (.t 29), none⟩,
     ⟨(some 31), .mov (.c (.int .i64 0)), none⟩]) <|
  .block 0 <|
  .loop [0, 5, 6, 29, 30, 31] <|
   .seq
   (.region [⟨(some 32), .bin .lss (.t 31) (.t 30), none⟩]) <|
   .seq
   (.cond (.t 32)
     (.skip)
     (.exit 0)) <|
   .seq
   (.block 1 <|
    .seq
    (.region [⟨(some 33), .mov (.t 31), none⟩,
       ⟨(some 34), .iaddr 1 (.t 29) (.t 31), none⟩,
       ⟨(some 35), .load false 1 (.t 34), none⟩,
       ⟨(some 7), .mov (.t 33), none⟩,
       ⟨(some 8), .mov (.t 35), none⟩]) <|
    .seq
    (.region [⟨(some 36), .mov (.t 5), none⟩,
       ⟨(some 37), .mov (.t 8), none⟩,
       ⟨(some 38), .bin .rem (.t 37) (.c (.int .u8 63)), none⟩,
       ⟨(some 39), .conv .i64 (.t 38), none⟩,
       ⟨(some 40), .bin .add (.c (.int .i64 1)) (.t 39), none⟩,
       ⟨(some 41), .mov (.t 7), none⟩,
       ⟨(some 42), .call (.f 8) [(.t 36), (.t 40), (.t 41), (.c (.int .i64 0))], none⟩,
       ⟨(some 43), .bin .neq (.t 42) (.c (.int .i64 0)), none⟩]) <|
    .cond (.t 43)
     (.seq
      (.region [⟨(some 4), .mov (.c (.bool false)), none⟩]) <|
      .ret)
     (.skip)) <|
   .region [⟨(some 44), .bin .add (.t 31) (.c (.int .i64 1)), none⟩,
     ⟨(some 31), .mov (.t 44), none⟩]) <|
 .seq
 (.region [⟨(some 9), .mov (.c (.int .i64 0)), none⟩]) <|
 .seq
 (.seq
  (.region [⟨(some 46), .mov (.t 5), none⟩,
     ⟨(some 47), .call (.f 9) [(.t 46)], none⟩,
     ⟨(some 45), .mov (.t 47), none⟩,
     ⟨(some 48), .extract (.t 45) 0, none⟩,
     ⟨(some 49), .extract (.t 45) 1, none⟩,
     ⟨(some 10), .alloc [(.int .i64 0), (.int .i64 0), (.int .i64 0)], none⟩,
     ⟨none, .store 3 (.t 10) (.t 48), none⟩,
     ⟨(some 11), .mov (.t 49), none⟩]) <|
  .block 2 <|
  .loop [0, 5, 6, 9, 10, 11] <|
   .seq
   (.seq
    (.region [⟨(some 50), .mov (.t 11), none⟩]) <|
    .cond (.t 50)
     (.skip)
     (.exit 2)) <|
   .seq
   (.block 3 <|
    .seq
    (.seq
     (.region [⟨(some 56), .faddr 0 (.t 10), none⟩,
        ⟨(some 57), .load false 1 (.t 56), none⟩,
        ⟨(some 58), .mov (.t 6), none⟩,
        ⟨(some 59), .bin .eql (.t 57) (.t 58), none⟩]) <|
     .cond (.t 59)
      (.seq
       (.region [⟨(some 4), .mov (.c (.bool false)), none⟩]) <|
       .ret)
      (.skip)) <|
    .region [⟨(some 60), .mov (.t 9), none⟩,
      ⟨(some 61), .bin .add (.t 60) (.c (.int .i64 1)), none⟩,
      ⟨(some 9), .mov (.t 61), none⟩]) <|
   .seq
   (.seq
    (.region [⟨(some 62), .load true 3 (.t 10), none⟩]) <|
    .region [⟨(some 10), .alloc [(.int .i64 0), (.int .i64 0), (.int .i64 0)], none⟩,
      ⟨none, .store 3 (.t 10) (.t 62), none⟩]) <|
   .region [⟨(some 52), .mov (.t 5), none⟩,
     ⟨(some 53), .call (.f 9) [(.t 52)], none⟩,
     ⟨(some 51), .mov (.t 53), none⟩,
     ⟨(some 54), .extract (.t 51) 0, none⟩,
     ⟨(some 55), .extract (.t 51) 1, none⟩,
     ⟨none, .store 3 (.t 10) (.t 54), none⟩,
     ⟨(some 11), .mov (.t 55), none⟩]) <|
 .seq
 (.seq
  (.region [⟨(some 63), .mov (.t 5), none⟩,
     ⟨(some 64), .call (.f 11) [(.t 63)], none⟩,
     ⟨(some 65), .mov (.t 64), none⟩,
     ⟨(some 66), .mov (.t 5), (some (65, false))⟩,
     ⟨(some 67), .mov (.t 6), (some (65, false))⟩,
     ⟨(some 68), .call (.f 10) [(.t 66), (.t 67), (.c (.bool false))], (some (65, false))⟩,
     ⟨(some 69), .un .not (.t 68), (some (65, false))⟩,
     ⟨(some 70), .pick (.t 65) (.c (.bool true)) (.t 69), none⟩]) <|
  .cond (.t 70)
   (.seq
    (.region [⟨(some 4), .mov (.c (.bool false)), none⟩]) <|
    .ret)
   (.skip)) <|
 .seq
 (.region [⟨(some 12), .mov (.c (.int .i64 (-1))), none⟩,
    ⟨(some 13), .mov (.c (.int .i64 0)), none⟩]) <|
 .seq
 (.seq
  (.region [⟨(some 72), .mov (.t 5), none⟩,
     ⟨(some 73), .call (.f 9) [(.t 72)], none⟩,
     ⟨(some 71), .mov (.t 73), none⟩,
     ⟨(some 74), .extract (.t 71) 0, none⟩,
     ⟨(some 75), .extract (.t 71) 1, none⟩,
     ⟨(some 14), .alloc [(.int .i64 0), (.int .i64 0), (.int .i64 0)], none⟩,
     ⟨none, .store 3 (.t 14) (.t 74), none⟩,
     ⟨(some 15), .mov (.t 75), none⟩]) <|
  .block 4 <|
  .loop [0, 5, 6, 9, 12, 13, 14, 15] <|
   .seq
   (.seq
    (.region [⟨(some 76), .mov (.t 15), none⟩]) <|
    .cond (.t 76)
     (.skip)
     (.exit 4)) <|
   .seq
   (.block 5 <|
    .seq
    (.seq
     (.region [⟨(some 82), .faddr 0 (.t 14), none⟩,
        ⟨(some 83), .load false 1 (.t 82), none⟩,
        ⟨(some 84), .mov (.t 6), none⟩,
        ⟨(some 85), .bin .neq (.t 83) (.t 84), none⟩,
        ⟨(some 86), .mov (.t 85), none⟩,
        ⟨(some 87), .faddr 1 (.t 14), (some (86, false))⟩,
        ⟨(some 88), .load false 1 (.t 87), (some (86, false))⟩,
        ⟨(some 89), .mov (.t 12), (some (86, false))⟩,
        ⟨(some 90), .bin .leq (.t 88) (.t 89), (some (86, false))⟩,
        ⟨(some 91), .pick (.t 86) (.c (.bool true)) (.t 90), none⟩]) <|
     .cond (.t 91)
      (.seq
       (.region [⟨(some 4), .mov (.c (.bool false)), none⟩]) <|
       .ret)
      (.skip)) <|
    .seq
    (.region [⟨(some 92), .faddr 1 (.t 14), none⟩,
       ⟨(some 93), .load false 1 (.t 92), none⟩,
       ⟨(some 12), .mov (.t 93), none⟩]) <|
    .region [⟨(some 94), .mov (.t 13), none⟩,
      ⟨(some 95), .bin .add (.t 94) (.c (.int .i64 1)), none⟩,
      ⟨(some 13), .mov (.t 95), none⟩]) <|
   .seq
   (.seq
    (.region [⟨(some 96), .load true 3 (.t 14), none⟩]) <|
    .region [⟨(some 14), .alloc [(.int .i64 0), (.int .i64 0), (.int .i64 0)], none⟩,
      ⟨none, .store 3 (.t 14) (.t 96), none⟩]) <|
   .region [⟨(some 78), .mov (.t 5), none⟩,
     ⟨(some 79), .call (.f 9) [(.t 78)], none⟩,
     ⟨(some 77), .mov (.t 79), none⟩,
     ⟨(some 80), .extract (.t 77) 0, none⟩,
     ⟨(some 81), .extract (.t 77) 1, none⟩,
     ⟨none, .store 3 (.t 14) (.t 80), none⟩,
     ⟨(some 15), .mov (.t 81), none⟩]) <|
 .seq
 (.region [⟨(some 97), .mov (.t 13), none⟩,
    ⟨(some 98), .mov (.t 9), none⟩,
    ⟨(some 99), .bin .add (.t 97) (.t 98), none⟩,
    ⟨(some 100), .mov (.t 0), none⟩,
    ⟨(some 101), .len .sl (.t 100), none⟩,
    ⟨(some 102), .bin .eql (.t 99) (.t 101), none⟩,
    ⟨(some 4), .mov (.t 102), none⟩]) <|
 .ret, [.slot 4]⟩
theorem c4 : Code1 Try.prog 4 103 b4 := Code1.mk' Try.func4 (by kernel_rfl) (by kernel_rfl) Try.ntmps4

/-- fusee/fuseelaw16.SignalPlays -/
def b5 : IFn := ⟨
 .seq
 (.region [⟨(some 2), .mov (.c (.bool false)), none⟩]) <|
 .seq
 (.seq
  (.region [⟨(some 23), .call (.f 6) [], none⟩,
     ⟨(some 24), .un .not (.t 23), none⟩]) <|
  .cond (.t 24)
   (.seq
    (.region [⟨(some 2), .mov (.c (.bool false)), none⟩]) <|
    .ret)
   (.skip)) <|
 .seq
 (.seq
  (.region [⟨(some 25), .mov (.t 0), none⟩,
     ⟨(some 26), .len .sl (.t 25), none⟩,
     ⟨(some 27), .bin .gtr (.t 26) (.c (.int .i64 120)), none⟩]) <|
  .cond (.t 27)
   (.seq
    (.region [⟨(some 2), .mov (.c (.bool true)), none⟩]) <|
    .ret)
   (.skip)) <|
 .seq
 (.region [⟨(some 28), .call (.f 7) [], none⟩,
    ⟨(some 3), .mov (.t 28), none⟩]) <|
 .seq
 (.region [⟨(some 4), .mov (.c (.sl none 0 (some 0))), none⟩]) <|
 .seq
 (.region [⟨(some 29), .mkMap, none⟩,
    ⟨(some 5), .mov (.t 29), none⟩]) <|
 .seq
 (.seq
  (.region [⟨(some 30), .mov (.t 0), none⟩,
     ⟨(some 31), .len .sl (.t 30), none⟩,
     ⟨(some 32), .mov (.c (.int .i64 0)), none⟩]) <|
  .block 0 <|
  .loop [3, 4, 5, 30, 31, 32] <|
   .seq
   (.region [⟨(some 33), .bin .lss (.t 32) (.t 31), none⟩]) <|
   .seq
   (.cond (.t 33)
     (.skip)
     (.exit 0)) <|
   .seq
   (.block 1 <|
    .seq
    (.region [⟨(some 34), .iaddr 5 (.t 30) (.t 32), none⟩,
       ⟨(some 35), .load true 5 (.t 34), none⟩,
       ⟨(some 7), .alloc [(.int .u8 0), (.int .i64 0), (.int .i64 0), (.int .i64 0), (.bool false)], none⟩,
       ⟨none, .store 5 (.t 7) (.t 35), none⟩]) <|
    .seq
    (.region [⟨(some 8), .mov (.c (.int .i64 (-1))), none⟩]) <|
    .seq
    (.seq
     (.region [⟨(some 36), .mov (.t 4), none⟩,
        ⟨(some 37), .len .sl (.t 36), none⟩,
        ⟨(some 38), .bin .sub (.t 37) (.c (.int .i64 1)), none⟩,
        ⟨(some 9), .mov (.t 38), none⟩]) <|
     .block 2 <|
     .loop [3, 4, 5, 7, 8, 9, 30, 31, 32] <|
      .seq
      (.seq
       (.region [⟨(some 39), .mov (.t 9), none⟩,
          ⟨(some 40), .bin .geq (.t 39) (.c (.int .i64 0)), none⟩]) <|
       .cond (.t 40)
        (.skip)
        (.exit 2)) <|
      .seq
      (.block 3 <|
       .seq
       (.region [⟨(some 43), .mov (.t 5), none⟩,
          ⟨(some 44), .mov (.t 4), none⟩,
          ⟨(some 45), .mov (.t 9), none⟩,
          ⟨(some 46), .iaddr 3 (.t 44) (.t 45), none⟩,
          ⟨(some 47), .faddr 0 (.t 46), none⟩,
          ⟨(some 48), .load false 1 (.t 47), none⟩,
          ⟨(some 49), .lookup (.bool false) (.t 43) (.t 48) false, none⟩,
          ⟨(some 50), .un .not (.t 49), none⟩]) <|
       .cond (.t 50)
        (.region [⟨(some 51), .mov (.t 9), none⟩,
           ⟨(some 8), .mov (.t 51), none⟩])
        (.skip)) <|
      .region [⟨(some 41), .mov (.t 9), none⟩,
        ⟨(some 42), .bin .sub (.t 41) (.c (.int .i64 1)), none⟩,
        ⟨(some 9), .mov (.t 42), none⟩]) <|
    .seq
    (.seq
     (.region [⟨(some 52), .mov (.t 3), none⟩,
        ⟨(some 53), .call (.f 11) [(.t 52)], none⟩,
        ⟨(some 54), .mov (.t 8), none⟩,
        ⟨(some 55), .bin .geq (.t 54) (.c (.int .i64 0)), none⟩,
        ⟨(some 56), .eq true false [.bool] (.t 53) (.t 55), none⟩]) <|
     .cond (.t 56)
      (.seq
       (.region [⟨(some 2), .mov (.c (.bool false)), none⟩]) <|
       .ret)
      (.skip)) <|
    .seq
    (.seq
     (.region [⟨(some 57), .faddr 0 (.t 7), none⟩,
        ⟨(some 58), .load false 1 (.t 57), none⟩,
        ⟨(some 59), .bin .rem (.t 58) (.c (.int .u8 4)), none⟩]) <|
     .block 4 <|
     .seq
     (.region [⟨(some 61), .bin .eql (.t 59) (.c (.int .u8 0)), none⟩,
        ⟨(some 60), .mov (.t 61), none⟩]) <|
     .cond (.t 60)
      (.seq
       (.region [⟨(some 10), .mov (.c (.int .i64 (-1))), none⟩]) <|
       .seq
       (.seq
        (.region [⟨(some 62), .mov (.t 4), none⟩,
           ⟨(some 63), .len .sl (.t 62), none⟩,
           ⟨(some 64), .mov (.c (.int .i64 0)), none⟩]) <|
        .block 5 <|
        .loop [3, 4, 5, 7, 10, 30, 31, 32, 62, 63, 64] <|
         .seq
         (.region [⟨(some 65), .bin .lss (.t 64) (.t 63), none⟩]) <|
         .seq
         (.cond (.t 65)
           (.skip)
           (.exit 5)) <|
         .seq
         (.block 6 <|
          .seq
          (.region [⟨(some 66), .mov (.t 64), none⟩,
             ⟨(some 67), .iaddr 3 (.t 62) (.t 64), none⟩,
             ⟨(some 68), .load true 3 (.t 67), none⟩,
             ⟨(some 12), .alloc [(.int .i64 0), (.int .i64 0), (.int .i64 0)], none⟩,
             ⟨(some 11), .mov (.t 66), none⟩,
             ⟨none, .store 3 (.t 12) (.t 68), none⟩]) <|
          .seq
          (.region [⟨(some 69), .faddr 0 (.t 12), none⟩,
             ⟨(some 70), .load false 1 (.t 69), none⟩,
             ⟨(some 71), .faddr 1 (.t 7), none⟩,
             ⟨(some 72), .load false 1 (.t 71), none⟩,
             ⟨(some 73), .bin .eql (.t 70) (.t 72), none⟩,
             ⟨(some 74), .mov (.t 73), none⟩,
             ⟨(some 75), .faddr 1 (.t 12), (some (74, true))⟩,
             ⟨(some 76), .load false 1 (.t 75), (some (74, true))⟩,
             ⟨(some 77), .faddr 2 (.t 7), (some (74, true))⟩,
             ⟨(some 78), .load false 1 (.t 77), (some (74, true))⟩,
             ⟨(some 79), .bin .eql (.t 76) (.t 78), (some (74, true))⟩,
             ⟨(some 80), .pick (.t 74) (.t 79) (.c (.bool false)), none⟩]) <|
          .cond (.t 80)
           (.region [⟨(some 81), .mov (.t 11), none⟩,
              ⟨(some 10), .mov (.t 81), none⟩])
           (.skip)) <|
         .region [⟨(some 82), .bin .add (.t 64) (.c (.int .i64 1)), none⟩,
           ⟨(some 64), .mov (.t 82), none⟩]) <|
       .seq
       (.region [⟨(some 83), .faddr 3 (.t 7), none⟩,
          ⟨(some 84), .load false 1 (.t 83), none⟩,
          ⟨(some 85), .max [(.t 84), (.c (.int .i64 0))], none⟩,
          ⟨(some 86), .min [(.t 85), (.c (.int .i64 2147483647))], none⟩,
          ⟨(some 13), .mov (.t 86), none⟩]) <|
       .seq
       (.region [⟨(some 14), .mov (.c (.int .i64 0)), none⟩]) <|
       .seq
       (.block 7 <|
        .seq
        (.region [⟨(some 97), .faddr 1 (.t 7), none⟩,
           ⟨(some 98), .load false 1 (.t 97), none⟩,
           ⟨(some 99), .bin .lss (.t 98) (.c (.int .i64 1)), none⟩,
           ⟨(some 100), .mov (.t 99), none⟩,
           ⟨(some 101), .faddr 1 (.t 7), (some (100, false))⟩,
           ⟨(some 102), .load false 1 (.t 101), (some (100, false))⟩,
           ⟨(some 103), .bin .gtr (.t 102) (.c (.int .i64 63)), (some (100, false))⟩,
           ⟨(some 104), .pick (.t 100) (.c (.bool true)) (.t 103), none⟩,
           ⟨(some 105), .mov (.t 104), none⟩,
           ⟨(some 106), .faddr 2 (.t 7), (some (105, false))⟩,
           ⟨(some 107), .load false 1 (.t 106), (some (105, false))⟩,
           ⟨(some 108), .bin .lss (.t 107) (.c (.int .i64 (-1))), (some (105, false))⟩,
           ⟨(some 109), .pick (.t 105) (.c (.bool true)) (.t 108), none⟩,
           ⟨(some 110), .mov (.t 109), none⟩,
           ⟨(some 111), .faddr 3 (.t 7), (some (110, false))⟩,
           ⟨(some 112), .load false 1 (.t 111), (some (110, false))⟩,
           ⟨(some 113), .bin .lss (.t 112) (.c (.int .i64 0)), (some (110, false))⟩,
           ⟨(some 114), .pick (.t 110) (.c (.bool true)) (.t 113), none⟩,
           ⟨(some 96), .mov (.t 114), none⟩]) <|
        .cond (.t 96)
         (.region [⟨(some 14), .mov (.c (.int .i64 2)), none⟩])
         (.seq
          (.region [⟨(some 116), .mov (.t 10), none⟩,
             ⟨(some 117), .bin .geq (.t 116) (.c (.int .i64 0)), none⟩,
             ⟨(some 118), .mov (.t 117), none⟩,
             ⟨(some 119), .faddr 2 (.t 7), (some (118, true))⟩,
             ⟨(some 120), .load false 1 (.t 119), (some (118, true))⟩,
             ⟨(some 121), .bin .geq (.t 120) (.c (.int .i64 0)), (some (118, true))⟩,
             ⟨(some 122), .pick (.t 118) (.t 121) (.c (.bool false)), none⟩,
             ⟨(some 115), .mov (.t 122), none⟩]) <|
          .cond (.t 115)
           (.region [⟨(some 123), .mov (.t 4), none⟩,
              ⟨(some 124), .mov (.t 10), none⟩,
              ⟨(some 125), .mov (.t 4), none⟩,
              ⟨(some 126), .mov (.t 10), none⟩,
              ⟨(some 127), .iaddr 3 (.t 125) (.t 126), none⟩,
              ⟨(some 128), .faddr 2 (.t 127), none⟩,
              ⟨(some 129), .load false 1 (.t 128), none⟩,
              ⟨(some 130), .mov (.t 13), none⟩,
              ⟨(some 131), .bin .add (.t 129) (.t 130), none⟩,
              ⟨(some 132), .bin .add (.t 131) (.c (.int .i64 1)), none⟩,
              ⟨(some 133), .min [(.t 132), (.c (.int .i64 2147483647))], none⟩,
              ⟨(some 134), .iaddr 3 (.t 123) (.t 124), none⟩,
              ⟨(some 135), .faddr 2 (.t 134), none⟩,
              ⟨none, .store 1 (.t 135) (.t 133), none⟩])
           (.seq
            (.region [⟨(some 137), .mov (.t 10), none⟩,
               ⟨(some 138), .bin .geq (.t 137) (.c (.int .i64 0)), none⟩,
               ⟨(some 136), .mov (.t 138), none⟩]) <|
            .cond (.t 136)
             (.skip)
             (.seq
              (.region [⟨(some 140), .mov (.t 4), none⟩,
                 ⟨(some 141), .len .sl (.t 140), none⟩,
                 ⟨(some 142), .bin .geq (.t 141) (.c (.int .i64 32)), none⟩,
                 ⟨(some 139), .mov (.t 142), none⟩]) <|
              .cond (.t 139)
               (.region [⟨(some 14), .mov (.c (.int .i64 3)), none⟩])
               (.region [⟨(some 87), .mov (.t 4), none⟩,
                  ⟨(some 88), .faddr 1 (.t 7), none⟩,
                  ⟨(some 89), .load false 1 (.t 88), none⟩,
                  ⟨(some 90), .faddr 2 (.t 7), none⟩,
                  ⟨(some 91), .load false 1 (.t 90), none⟩,
                  ⟨(some 92), .mov (.t 13), none⟩,
                  ⟨(some 93), .build [(.int .i64 0), (.int .i64 0), (.int .i64 0)] [(0, 1, (.t 89)), (1, 1, (.t 91)), (2, 1, (.t 92))], none⟩,
                  ⟨(some 94), .buildSl 3 [(.int .i64 0), (.int .i64 0), (.int .i64 0)] [(0, 3, (.t 93))], none⟩,
                  ⟨(some 95), .app 3 24 (.t 87) (.t 94), none⟩,
                  ⟨(some 4), .mov (.t 95), none⟩]))))) <|
       .seq
       (.region [⟨(some 143), .mov (.t 3), none⟩,
          ⟨(some 144), .faddr 1 (.t 7), none⟩,
          ⟨(some 145), .load false 1 (.t 144), none⟩,
          ⟨(some 146), .faddr 2 (.t 7), none⟩,
          ⟨(some 147), .load false 1 (.t 146), none⟩,
          ⟨(some 148), .faddr 3 (.t 7), none⟩,
          ⟨(some 149), .load false 1 (.t 148), none⟩,
          ⟨(some 150), .call (.f 8) [(.t 143), (.t 145), (.t 147), (.t 149)], none⟩,
          ⟨(some 151), .mov (.t 14), none⟩,
          ⟨(some 152), .bin .neq (.t 150) (.t 151), none⟩]) <|
       .cond (.t 152)
        (.seq
         (.region [⟨(some 2), .mov (.c (.bool false)), none⟩]) <|
         .ret)
        (.skip))
      (.seq
       (.region [⟨(some 154), .bin .eql (.t 59) (.c (.int .u8 1)), none⟩,
          ⟨(some 153), .mov (.t 154), none⟩]) <|
       .cond (.t 153)
        (.seq
         (.region [⟨(some 156), .mov (.t 3), none⟩,
            ⟨(some 157), .call (.f 9) [(.t 156)], none⟩,
            ⟨(some 155), .mov (.t 157), none⟩,
            ⟨(some 158), .extract (.t 155) 0, none⟩,
            ⟨(some 159), .extract (.t 155) 1, none⟩,
            ⟨(some 15), .alloc [(.int .i64 0), (.int .i64 0), (.int .i64 0)], none⟩,
            ⟨none, .store 3 (.t 15) (.t 158), none⟩,
            ⟨(some 16), .mov (.t 159), none⟩]) <|
         .seq
         (.seq
          (.draw false [3, 4, 5, 8, 16, 30, 31, 32, 174] (
             .op ⟨(some 160), .mov (.t 16), none⟩ <|
             .op ⟨(some 161), .mov (.t 8), none⟩ <|
             .op ⟨(some 162), .bin .geq (.t 161) (.c (.int .i64 0)), none⟩ <|
             .op ⟨(some 163), .eq true false [.bool] (.t 160) (.t 162), none⟩ <|
             .op ⟨(some 164), .mov (.t 163), none⟩ <|
             .op ⟨(some 165), .mov (.t 16), (some (164, false))⟩ <|
             .op ⟨(some 166), .mov (.t 165), (some (164, false))⟩ <|
             .op ⟨(some 167), .load true 3 (.t 15), (some (166, true))⟩ <|
             .op ⟨(some 168), .mov (.t 4), (some (166, true))⟩ <|
             .op ⟨(some 169), .mov (.t 8), (some (166, true))⟩ <|
             .op ⟨(some 170), .iaddr 3 (.t 168) (.t 169), (some (166, true))⟩ <|
             .op ⟨(some 171), .load true 3 (.t 170), (some (166, true))⟩ <|
             .op ⟨(some 172), .eq true true [.int, .int, .int] (.t 167) (.t 171), (some (166, true))⟩ <|
             .op ⟨(some 173), .pick (.t 166) (.t 172) (.c (.bool false)), (some (164, false))⟩ <|
             .op ⟨(some 174), .pick (.t 164) (.c (.bool true)) (.t 173), none⟩ <|
             .done)) <|
          .cond (.t 174)
           (.seq
            (.region [⟨(some 2), .mov (.c (.bool false)), none⟩]) <|
            .ret)
           (.skip)) <|
         .seq
         (.region [⟨(some 175), .mov (.t 16), none⟩]) <|
         .cond (.t 175)
          (.draw false [3, 4, 5, 30, 31, 32] (
             .op ⟨(some 177), .mov (.t 4), none⟩ <|
             .op ⟨(some 178), .mov (.t 8), none⟩ <|
             .op ⟨(some 179), .slice 3 (.t 177) none (some (.t 178)) none, none⟩ <|
             .op ⟨(some 181), .mov (.t 4), none⟩ <|
             .op ⟨(some 182), .mov (.t 8), none⟩ <|
             .op ⟨(some 183), .bin .add (.t 182) (.c (.int .i64 1)), none⟩ <|
             .op ⟨(some 184), .slice 3 (.t 181) (some (.t 183)) none none, none⟩ <|
             .op ⟨(some 176), .buildSl 3 [] [], none⟩ <|
             .op ⟨(some 180), .app 3 24 (.t 176) (.t 179), none⟩ <|
             .op ⟨(some 185), .app 3 24 (.t 180) (.t 184), none⟩ <|
             .op ⟨(some 4), .mov (.t 185), none⟩ <|
             .done))
          (.skip))
        (.seq
         (.region [⟨(some 187), .bin .eql (.t 59) (.c (.int .u8 2)), none⟩,
            ⟨(some 186), .mov (.t 187), none⟩]) <|
         .cond (.t 186)
          (.seq
           (.region [⟨(some 188), .faddr 1 (.t 7), none⟩,
              ⟨(some 189), .load false 1 (.t 188), none⟩,
              ⟨(some 190), .bin .geq (.t 189) (.c (.int .i64 1)), none⟩,
              ⟨(some 191), .mov (.t 190), none⟩,
              ⟨(some 192), .faddr 1 (.t 7), (some (191, true))⟩,
              ⟨(some 193), .load false 1 (.t 192), (some (191, true))⟩,
              ⟨(some 194), .bin .leq (.t 193) (.c (.int .i64 63)), (some (191, true))⟩,
              ⟨(some 195), .pick (.t 191) (.t 194) (.c (.bool false)), none⟩,
              ⟨(some 17), .mov (.t 195), none⟩]) <|
           .seq
           (.seq
            (.region [⟨(some 196), .mov (.t 3), none⟩,
               ⟨(some 197), .faddr 1 (.t 7), none⟩,
               ⟨(some 198), .load false 1 (.t 197), none⟩,
               ⟨(some 199), .faddr 4 (.t 7), none⟩,
               ⟨(some 200), .load false 1 (.t 199), none⟩,
               ⟨(some 201), .call (.f 10) [(.t 196), (.t 198), (.t 200)], none⟩,
               ⟨(some 202), .mov (.t 17), none⟩,
               ⟨(some 203), .mov (.t 202), none⟩,
               ⟨(some 204), .mov (.t 5), (some (203, true))⟩,
               ⟨(some 205), .faddr 1 (.t 7), (some (203, true))⟩,
               ⟨(some 206), .load false 1 (.t 205), (some (203, true))⟩,
               ⟨(some 207), .lookup (.bool false) (.t 204) (.t 206) false, (some (203, true))⟩,
               ⟨(some 208), .pick (.t 203) (.t 207) (.c (.bool false)), none⟩,
               ⟨(some 209), .eq true false [.bool] (.t 201) (.t 208), none⟩]) <|
            .cond (.t 209)
             (.seq
              (.region [⟨(some 2), .mov (.c (.bool false)), none⟩]) <|
              .ret)
             (.skip)) <|
           .seq
           (.region [⟨(some 210), .mov (.t 17), none⟩]) <|
           .cond (.t 210)
            (.region [⟨(some 211), .mov (.t 5), none⟩,
               ⟨(some 212), .faddr 1 (.t 7), none⟩,
               ⟨(some 213), .load false 1 (.t 212), none⟩,
               ⟨(some 214), .faddr 4 (.t 7), none⟩,
               ⟨(some 215), .load false 1 (.t 214), none⟩,
               ⟨none, .mapUpd (.t 211) (.t 213) (.t 215), none⟩])
            (.skip))
          (.seq
           (.region [⟨(some 217), .bin .eql (.t 59) (.c (.int .u8 3)), none⟩,
              ⟨(some 216), .mov (.t 217), none⟩]) <|
           .cond (.t 216)
            (.seq
             (.region [⟨(some 18), .mov (.c (.sl none 0 (some 0))), none⟩]) <|
             .seq
             (.seq
              (.region [⟨(some 218), .mov (.t 4), none⟩,
                 ⟨(some 219), .len .sl (.t 218), none⟩,
                 ⟨(some 220), .mov (.c (.int .i64 0)), none⟩]) <|
              .block 8 <|
              .loop [3, 4, 5, 7, 18, 30, 31, 32, 218, 219, 220] <|
               .seq
               (.region [⟨(some 221), .bin .lss (.t 220) (.t 219), none⟩]) <|
               .seq
               (.cond (.t 221)
                 (.skip)
                 (.exit 8)) <|
               .seq
               (.block 9 <|
                .seq
                (.region [⟨(some 222), .iaddr 3 (.t 218) (.t 220), none⟩,
                   ⟨(some 223), .load true 3 (.t 222), none⟩,
                   ⟨(some 20), .alloc [(.int .i64 0), (.int .i64 0), (.int .i64 0)], none⟩,
                   ⟨none, .store 3 (.t 20) (.t 223), none⟩]) <|
                .seq
                (.region [⟨(some 224), .faddr 1 (.t 20), none⟩,
                   ⟨(some 225), .load false 1 (.t 224), none⟩,
                   ⟨(some 226), .faddr 2 (.t 7), none⟩,
                   ⟨(some 227), .load false 1 (.t 226), none⟩,
                   ⟨(some 228), .bin .neq (.t 225) (.t 227), none⟩]) <|
                .cond (.t 228)
                 (.region [⟨(some 229), .mov (.t 18), none⟩,
                    ⟨(some 230), .load true 3 (.t 20), none⟩,
                    ⟨(some 231), .buildSl 3 [(.int .i64 0), (.int .i64 0), (.int .i64 0)] [(0, 3, (.t 230))], none⟩,
                    ⟨(some 232), .app 3 24 (.t 229) (.t 231), none⟩,
                    ⟨(some 18), .mov (.t 232), none⟩])
                 (.skip)) <|
               .region [⟨(some 233), .bin .add (.t 220) (.c (.int .i64 1)), none⟩,
                 ⟨(some 220), .mov (.t 233), none⟩]) <|
             .seq
             (.seq
              (.region [⟨(some 234), .mov (.t 3), none⟩,
                 ⟨(some 235), .faddr 2 (.t 7), none⟩,
                 ⟨(some 236), .load false 1 (.t 235), none⟩,
                 ⟨(some 237), .call (.f 12) [(.t 234), (.t 236)], none⟩,
                 ⟨(some 238), .mov (.t 4), none⟩,
                 ⟨(some 239), .len .sl (.t 238), none⟩,
                 ⟨(some 240), .mov (.t 18), none⟩,
                 ⟨(some 241), .len .sl (.t 240), none⟩,
                 ⟨(some 242), .bin .sub (.t 239) (.t 241), none⟩,
                 ⟨(some 243), .bin .neq (.t 237) (.t 242), none⟩]) <|
              .cond (.t 243)
               (.seq
                (.region [⟨(some 2), .mov (.c (.bool false)), none⟩]) <|
                .ret)
               (.skip)) <|
             .region [⟨(some 244), .mov (.t 18), none⟩,
               ⟨(some 4), .mov (.t 244), none⟩])
            (.skip))))) <|
    .seq
    (.region [⟨(some 245), .mov (.t 3), none⟩,
       ⟨(some 246), .call (.f 13) [(.t 245)], none⟩,
       ⟨(some 21), .mov (.t 246), none⟩]) <|
    .seq
    (.seq
     (.region [⟨(some 247), .mov (.t 21), none⟩,
        ⟨(some 248), .len .sl (.t 247), none⟩,
        ⟨(some 249), .mov (.t 4), none⟩,
        ⟨(some 250), .len .sl (.t 249), none⟩,
        ⟨(some 251), .bin .neq (.t 248) (.t 250), none⟩]) <|
     .cond (.t 251)
      (.seq
       (.region [⟨(some 2), .mov (.c (.bool false)), none⟩]) <|
       .ret)
      (.skip)) <|
    .seq
    (.region [⟨(some 252), .mov (.t 21), none⟩,
       ⟨(some 253), .len .sl (.t 252), none⟩,
       ⟨(some 254), .mov (.c (.int .i64 0)), none⟩]) <|
    .block 10 <|
    .loop [3, 4, 5, 21, 30, 31, 32, 253, 254] <|
     .seq
     (.region [⟨(some 255), .bin .lss (.t 254) (.t 253), none⟩]) <|
     .seq
     (.cond (.t 255)
       (.skip)
       (.exit 10)) <|
     .seq
     (.block 11 <|
      .seq
      (.region [⟨(some 256), .mov (.t 254), none⟩,
         ⟨(some 22), .mov (.t 256), none⟩]) <|
      .seq
      (.draw false [3, 4, 5, 21, 30, 31, 32, 253, 254, 265] (
         .op ⟨(some 257), .mov (.t 21), none⟩ <|
         .op ⟨(some 258), .mov (.t 22), none⟩ <|
         .op ⟨(some 259), .iaddr 3 (.t 257) (.t 258), none⟩ <|
         .op ⟨(some 260), .load true 3 (.t 259), none⟩ <|
         .op ⟨(some 261), .mov (.t 4), none⟩ <|
         .op ⟨(some 262), .mov (.t 22), none⟩ <|
         .op ⟨(some 263), .iaddr 3 (.t 261) (.t 262), none⟩ <|
         .op ⟨(some 264), .load true 3 (.t 263), none⟩ <|
         .op ⟨(some 265), .eq true true [.int, .int, .int] (.t 260) (.t 264), none⟩ <|
         .done)) <|
      .cond (.t 265)
       (.seq
        (.region [⟨(some 2), .mov (.c (.bool false)), none⟩]) <|
        .ret)
       (.skip)) <|
     .region [⟨(some 266), .bin .add (.t 254) (.c (.int .i64 1)), none⟩,
       ⟨(some 254), .mov (.t 266), none⟩]) <|
   .region [⟨(some 267), .bin .add (.t 32) (.c (.int .i64 1)), none⟩,
     ⟨(some 32), .mov (.t 267), none⟩]) <|
 .seq
 (.region [⟨(some 2), .mov (.c (.bool true)), none⟩]) <|
 .ret, [.slot 2]⟩
theorem c5 : Code1 Try.prog 5 268 b5 := Code1.mk' Try.func5 (by kernel_rfl) (by kernel_rfl) Try.ntmps5

/-- fusee/fuseelaw16.fixed -/
def b6 : IFn := ⟨
 .seq
 (.region [⟨(some 0), .mov (.c (.bool false)), none⟩]) <|
 .seq
 (.region [⟨(some 13), .call (.f 7) [], none⟩,
    ⟨(some 1), .mov (.t 13), none⟩]) <|
 .seq
 (.region [⟨(some 14), .mov (.t 1), none⟩,
    ⟨(some 15), .call (.f 8) [(.t 14), (.c (.int .i64 14)), (.c (.int .i64 3)), (.c (.int .i64 0))], none⟩,
    ⟨(some 16), .mov (.t 1), none⟩,
    ⟨(some 17), .call (.f 8) [(.t 16), (.c (.int .i64 14)), (.c (.int .i64 3)), (.c (.int .i64 0))], none⟩,
    ⟨(some 2), .mov (.t 15), none⟩,
    ⟨(some 3), .mov (.t 17), none⟩]) <|
 .seq
 (.region [⟨(some 18), .mov (.t 1), none⟩,
    ⟨(some 19), .call (.f 8) [(.t 18), (.c (.int .i64 9)), (.c (.int .i64 (-1))), (.c (.int .i64 0))], none⟩,
    ⟨(some 4), .mov (.t 19), none⟩]) <|
 .seq
 (.region [⟨(some 20), .mov (.t 1), none⟩,
    ⟨(some 21), .call (.f 10) [(.t 20), (.c (.int .i64 14)), (.c (.bool true))], none⟩,
    ⟨(some 5), .mov (.t 21), none⟩]) <|
 .seq
 (.region [⟨(some 23), .mov (.t 1), none⟩,
    ⟨(some 24), .call (.f 9) [(.t 23)], none⟩,
    ⟨(some 22), .mov (.t 24), none⟩,
    ⟨(some 25), .extract (.t 22) 0, none⟩,
    ⟨(some 26), .extract (.t 22) 1, none⟩,
    ⟨(some 6), .alloc [(.int .i64 0), (.int .i64 0), (.int .i64 0)], none⟩,
    ⟨none, .store 3 (.t 6) (.t 25), none⟩,
    ⟨(some 7), .mov (.t 26), none⟩]) <|
 .seq
 (.region [⟨(some 27), .mov (.t 1), none⟩,
    ⟨(some 28), .call (.f 10) [(.t 27), (.c (.int .i64 14)), (.c (.bool false))], none⟩]) <|
 .seq
 (.region [⟨(some 30), .mov (.t 1), none⟩,
    ⟨(some 31), .call (.f 9) [(.t 30)], none⟩,
    ⟨(some 29), .mov (.t 31), none⟩,
    ⟨(some 32), .extract (.t 29) 0, none⟩,
    ⟨(some 33), .extract (.t 29) 1, none⟩,
    ⟨(some 8), .alloc [(.int .i64 0), (.int .i64 0), (.int .i64 0)], none⟩,
    ⟨none, .store 3 (.t 8) (.t 32), none⟩,
    ⟨(some 9), .mov (.t 33), none⟩]) <|
 .seq
 (.region [⟨(some 35), .mov (.t 1), none⟩,
    ⟨(some 36), .call (.f 9) [(.t 35)], none⟩,
    ⟨(some 34), .mov (.t 36), none⟩,
    ⟨(some 37), .extract (.t 34) 0, none⟩,
    ⟨(some 38), .extract (.t 34) 1, none⟩,
    ⟨(some 10), .alloc [(.int .i64 0), (.int .i64 0), (.int .i64 0)], none⟩,
    ⟨none, .store 3 (.t 10) (.t 37), none⟩,
    ⟨(some 11), .mov (.t 38), none⟩]) <|
 .seq
 (.region [⟨(some 12), .mov (.c (.ptr none)), none⟩]) <|
 .seq
 (.region [⟨(some 39), .mov (.t 2), none⟩,
    ⟨(some 40), .bin .eql (.t 39) (.c (.int .i64 0)), none⟩,
    ⟨(some 41), .mov (.t 40), none⟩,
    ⟨(some 42), .mov (.t 3), (some (41, true))⟩,
    ⟨(some 43), .bin .eql (.t 42) (.c (.int .i64 0)), (some (41, true))⟩,
    ⟨(some 44), .pick (.t 41) (.t 43) (.c (.bool false)), none⟩,
    ⟨(some 45), .mov (.t 44), none⟩,
    ⟨(some 46), .mov (.t 4), (some (45, true))⟩,
    ⟨(some 47), .bin .eql (.t 46) (.c (.int .i64 0)), (some (45, true))⟩,
    ⟨(some 48), .pick (.t 45) (.t 47) (.c (.bool false)), none⟩,
    ⟨(some 49), .mov (.t 48), none⟩,
    ⟨(some 50), .mov (.t 5), (some (49, true))⟩,
    ⟨(some 51), .un .not (.t 50), (some (49, true))⟩,
    ⟨(some 52), .pick (.t 49) (.t 51) (.c (.bool false)), none⟩,
    ⟨(some 53), .mov (.t 52), none⟩,
    ⟨(some 54), .mov (.t 7), (some (53, true))⟩,
    ⟨(some 55), .pick (.t 53) (.t 54) (.c (.bool false)), none⟩,
    ⟨(some 56), .mov (.t 55), none⟩,
    ⟨(some 57), .faddr 0 (.t 6), (some (56, true))⟩,
    ⟨(some 58), .load false 1 (.t 57), (some (56, true))⟩,
    ⟨(some 59), .bin .eql (.t 58) (.c (.int .i64 9)), (some (56, true))⟩,
    ⟨(some 60), .pick (.t 56) (.t 59) (.c (.bool false)), none⟩,
    ⟨(some 61), .mov (.t 60), none⟩,
    ⟨(some 62), .mov (.t 9), (some (61, true))⟩,
    ⟨(some 63), .pick (.t 61) (.t 62) (.c (.bool false)), none⟩,
    ⟨(some 64), .mov (.t 63), none⟩,
    ⟨(some 65), .load true 3 (.t 8), (some (64, true))⟩,
    ⟨(some 66), .build [(.int .i64 0), (.int .i64 0), (.int .i64 0)] [(0, 1, (.c (.int .i64 14))), (1, 1, (.c (.int .i64 3))), (2, 1, (.c (.int .i64 1)))], (some (64, true))⟩,
    ⟨(some 67), .eq false true [.int, .int, .int] (.t 65) (.t 66), (some (64, true))⟩,
    ⟨(some 68), .pick (.t 64) (.t 67) (.c (.bool false)), none⟩,
    ⟨(some 69), .mov (.t 68), none⟩,
    ⟨(some 70), .mov (.t 11), (some (69, true))⟩,
    ⟨(some 71), .un .not (.t 70), (some (69, true))⟩,
    ⟨(some 72), .pick (.t 69) (.t 71) (.c (.bool false)), none⟩,
    ⟨(some 73), .mov (.t 72), none⟩,
    ⟨(some 74), .mov (.t 1), (some (73, true))⟩,
    ⟨(some 75), .call (.f 8) [(.t 74), (.c (.int .i64 0)), (.c (.int .i64 0)), (.c (.int .i64 0))], (some (73, true))⟩,
    ⟨(some 76), .bin .eql (.t 75) (.c (.int .i64 2)), (some (73, true))⟩,
    ⟨(some 77), .pick (.t 73) (.t 76) (.c (.bool false)), none⟩,
    ⟨(some 78), .mov (.t 77), none⟩,
    ⟨(some 79), .mov (.t 12), (some (78, true))⟩,
    ⟨(some 80), .call (.f 8) [(.t 79), (.c (.int .i64 1)), (.c (.int .i64 1)), (.c (.int .i64 0))], (some (78, true))⟩,
    ⟨(some 81), .bin .eql (.t 80) (.c (.int .i64 1)), (some (78, true))⟩,
    ⟨(some 82), .pick (.t 78) (.t 81) (.c (.bool false)), none⟩,
    ⟨(some 83), .mov (.t 82), none⟩,
    ⟨(some 84), .mov (.t 12), (some (83, true))⟩,
    ⟨(some 85), .call (.f 11) [(.t 84)], (some (83, true))⟩,
    ⟨(some 86), .un .not (.t 85), (some (83, true))⟩,
    ⟨(some 87), .pick (.t 83) (.t 86) (.c (.bool false)), none⟩,
    ⟨(some 88), .mov (.t 87), none⟩,
    ⟨(some 89), .mov (.t 12), (some (88, true))⟩,
    ⟨(some 90), .call (.f 12) [(.t 89), (.c (.int .i64 1))], (some (88, true))⟩,
    ⟨(some 91), .bin .eql (.t 90) (.c (.int .i64 0)), (some (88, true))⟩,
    ⟨(some 92), .pick (.t 88) (.t 91) (.c (.bool false)), none⟩,
    ⟨(some 0), .mov (.t 92), none⟩]) <|
 .ret, [.slot 0]⟩
theorem c6 : Code1 Try.prog 6 93 b6 := Code1.mk' Try.func6 (by kernel_rfl) (by kernel_rfl) Try.ntmps6

/-- fusee/signal.New -/
def b7 : IFn := ⟨
 .seq
 (.region [⟨(some 0), .mov (.c (.ptr none)), none⟩]) <|
 .seq
 (.region [⟨(some 1), .build [(.sl none 0 (some 0)), (.int .u64 0)] [], none⟩,
    ⟨(some 2), .box (.t 1), none⟩,
    ⟨(some 0), .mov (.t 2), none⟩]) <|
 .ret, [.slot 0]⟩
theorem c7 : Code1 Try.prog 7 3 b7 := Code1.mk' Try.func7 (by kernel_rfl) (by kernel_rfl) Try.ntmps7

/-- fusee/signal.Queue.Send -/
def b8 : IFn := ⟨
 .seq
 (.region [⟨(some 5), .box (.t 1), none⟩,
    ⟨(some 6), .box (.t 2), none⟩,
    ⟨(some 8), .mov (.c (.int .i64 0)), none⟩]) <|
 .seq
 (.block 0 <|
  .seq
  (.region [⟨(some 11), .mov (.t 0), none⟩,
     ⟨(some 12), .eq false false [.ptr] (.t 11) (.c (.ptr none)), none⟩,
     ⟨(some 10), .mov (.t 12), none⟩]) <|
  .cond (.t 10)
   (.seq
    (.region [⟨(some 8), .mov (.c (.int .i64 1)), none⟩]) <|
    .ret)
   (.seq
    (.region [⟨(some 14), .load false 1 (.t 5), none⟩,
       ⟨(some 15), .call (.f 14) [(.t 14)], none⟩,
       ⟨(some 16), .un .not (.t 15), none⟩,
       ⟨(some 17), .mov (.t 16), none⟩,
       ⟨(some 18), .load false 1 (.t 6), (some (17, false))⟩,
       ⟨(some 19), .bin .lss (.t 18) (.c (.int .i64 (-1))), (some (17, false))⟩,
       ⟨(some 20), .pick (.t 17) (.c (.bool true)) (.t 19), none⟩,
       ⟨(some 21), .mov (.t 20), none⟩,
       ⟨(some 22), .mov (.t 3), (some (21, false))⟩,
       ⟨(some 23), .bin .lss (.t 22) (.c (.int .i64 0)), (some (21, false))⟩,
       ⟨(some 24), .pick (.t 21) (.c (.bool true)) (.t 23), none⟩,
       ⟨(some 13), .mov (.t 24), none⟩]) <|
    .cond (.t 13)
     (.seq
      (.region [⟨(some 8), .mov (.c (.int .i64 2)), none⟩]) <|
      .ret)
     (.skip))) <|
 .seq
 (.region [⟨(some 25), .mov (.t 3), none⟩,
    ⟨(some 26), .call (.f 15) [(.t 25)], none⟩,
    ⟨(some 3), .mov (.t 26), none⟩]) <|
 .seq
 (.region [⟨(some 27), .mov (.t 0), none⟩,
    ⟨(some 28), .nilck (.t 27), none⟩,
    ⟨(some 29), .faddr 0 (.t 28), none⟩,
    ⟨(some 30), .load false 1 (.t 29), none⟩,
    ⟨(some 31), .mkFn 17 [] [(.t 5), (.t 6)], none⟩,
    ⟨(some 32), .call (.f 16) [(.t 30), (.t 31)], none⟩,
    ⟨(some 9), .mov (.t 32), none⟩]) <|
 .seq
 (.block 1 <|
  .seq
  (.region [⟨(some 47), .mov (.t 9), none⟩,
     ⟨(some 48), .bin .geq (.t 47) (.c (.int .i64 0)), none⟩,
     ⟨(some 49), .mov (.t 48), none⟩,
     ⟨(some 50), .load false 1 (.t 6), (some (49, true))⟩,
     ⟨(some 51), .bin .neq (.t 50) (.c (.int .i64 (-1))), (some (49, true))⟩,
     ⟨(some 52), .pick (.t 49) (.t 51) (.c (.bool false)), none⟩,
     ⟨(some 46), .mov (.t 52), none⟩]) <|
  .cond (.t 46)
   (.draw true [] (
      .op ⟨(some 53), .mov (.t 0), none⟩ <|
      .op ⟨(some 54), .nilck (.t 53), none⟩ <|
      .op ⟨(some 55), .faddr 0 (.t 54), none⟩ <|
      .op ⟨(some 57), .mov (.t 9), none⟩ <|
      .op ⟨(some 58), .mov (.t 0), none⟩ <|
      .op ⟨(some 59), .nilck (.t 58), none⟩ <|
      .op ⟨(some 60), .faddr 0 (.t 59), none⟩ <|
      .op ⟨(some 61), .load false 1 (.t 60), none⟩ <|
      .op ⟨(some 62), .mov (.t 9), none⟩ <|
      .op ⟨(some 63), .iaddr 3 (.t 61) (.t 62), none⟩ <|
      .op ⟨(some 64), .faddr 2 (.t 63), none⟩ <|
      .op ⟨(some 65), .load false 1 (.t 64), none⟩ <|
      .op ⟨(some 66), .mov (.t 3), none⟩ <|
      .op ⟨(some 67), .bin .add (.t 65) (.t 66), none⟩ <|
      .op ⟨(some 68), .bin .add (.t 67) (.c (.int .i64 1)), none⟩ <|
      .alt (.op ⟨(some 56), .load false 1 (.t 55), none⟩ <|
       .op ⟨(some 69), .call (.f 15) [(.t 68)], none⟩ <|
       .op ⟨(some 70), .iaddr 3 (.t 56) (.t 57), none⟩ <|
       .op ⟨(some 71), .faddr 2 (.t 70), none⟩ <|
       .op ⟨none, .store 1 (.t 71) (.t 69), none⟩ <|
       .done) <|
      .op ⟨(some 69), .call (.f 15) [(.t 68)], none⟩ <|
      .op ⟨(some 56), .load false 1 (.t 55), none⟩ <|
      .op ⟨(some 70), .iaddr 3 (.t 56) (.t 57), none⟩ <|
      .op ⟨(some 71), .faddr 2 (.t 70), none⟩ <|
      .op ⟨none, .store 1 (.t 71) (.t 69), none⟩ <|
      .done))
   (.seq
    (.region [⟨(some 73), .mov (.t 9), none⟩,
       ⟨(some 74), .bin .geq (.t 73) (.c (.int .i64 0)), none⟩,
       ⟨(some 72), .mov (.t 74), none⟩]) <|
    .cond (.t 72)
     (.skip)
     (.seq
      (.region [⟨(some 76), .mov (.t 0), none⟩,
         ⟨(some 77), .nilck (.t 76), none⟩,
         ⟨(some 78), .faddr 0 (.t 77), none⟩,
         ⟨(some 79), .load false 1 (.t 78), none⟩,
         ⟨(some 80), .len .sl (.t 79), none⟩,
         ⟨(some 81), .bin .geq (.t 80) (.c (.int .i64 32)), none⟩,
         ⟨(some 75), .mov (.t 81), none⟩]) <|
      .cond (.t 75)
       (.seq
        (.region [⟨(some 8), .mov (.c (.int .i64 3)), none⟩]) <|
        .ret)
       (.draw false [] (
          .op ⟨(some 33), .mov (.t 0), none⟩ <|
          .op ⟨(some 34), .mov (.t 0), none⟩ <|
          .op ⟨(some 35), .nilck (.t 34), none⟩ <|
          .op ⟨(some 36), .faddr 0 (.t 35), none⟩ <|
          .op ⟨(some 37), .load false 1 (.t 36), none⟩ <|
          .op ⟨(some 38), .load false 1 (.t 5), none⟩ <|
          .op ⟨(some 39), .load false 1 (.t 6), none⟩ <|
          .op ⟨(some 40), .mov (.t 3), none⟩ <|
          .op ⟨(some 41), .build [(.int .i64 0), (.int .i64 0), (.int .i64 0)] [(0, 1, (.t 38)), (1, 1, (.t 39)), (2, 1, (.t 40))], none⟩ <|
          .op ⟨(some 42), .buildSl 3 [(.int .i64 0), (.int .i64 0), (.int .i64 0)] [(0, 3, (.t 41))], none⟩ <|
          .op ⟨(some 43), .app 3 24 (.t 37) (.t 42), none⟩ <|
          .op ⟨(some 44), .nilck (.t 33), none⟩ <|
          .op ⟨(some 45), .faddr 0 (.t 44), none⟩ <|
          .op ⟨none, .store 1 (.t 45) (.t 43), none⟩ <|
          .done))))) <|
 .seq
 (.region [⟨(some 8), .mov (.c (.int .i64 0)), none⟩]) <|
 .ret, [.slot 8]⟩
theorem c8 : Code1 Try.prog 8 82 b8 := Code1.mk' Try.func8 (by kernel_rfl) (by kernel_rfl) Try.ntmps8

/-- fusee/signal.Queue.Take -/
def b9 : IFn := ⟨
 .seq
 (.region [⟨(some 2), .alloc [(.int .i64 0), (.int .i64 0), (.int .i64 0)], none⟩,
    ⟨(some 3), .mov (.c (.bool false)), none⟩]) <|
 .seq
 (.region [⟨(some 6), .mov (.t 0), none⟩,
    ⟨(some 7), .call (.f 18) [(.t 6)], none⟩,
    ⟨(some 4), .mov (.t 7), none⟩]) <|
 .seq
 (.seq
  (.region [⟨(some 8), .mov (.t 4), none⟩,
     ⟨(some 9), .bin .lss (.t 8) (.c (.int .i64 0)), none⟩]) <|
  .cond (.t 9)
   (.seq
    (.region [⟨(some 10), .build [(.int .i64 0), (.int .i64 0), (.int .i64 0)] [], none⟩,
       ⟨none, .store 3 (.t 2) (.t 10), none⟩,
       ⟨(some 3), .mov (.c (.bool false)), none⟩]) <|
    .ret)
   (.skip)) <|
 .seq
 (.region [⟨(some 11), .mov (.t 0), none⟩,
    ⟨(some 12), .nilck (.t 11), none⟩,
    ⟨(some 13), .faddr 0 (.t 12), none⟩,
    ⟨(some 14), .load false 1 (.t 13), none⟩,
    ⟨(some 15), .mov (.t 4), none⟩,
    ⟨(some 16), .iaddr 3 (.t 14) (.t 15), none⟩,
    ⟨(some 17), .load true 3 (.t 16), none⟩,
    ⟨(some 5), .alloc [(.int .i64 0), (.int .i64 0), (.int .i64 0)], none⟩,
    ⟨none, .store 3 (.t 5) (.t 17), none⟩]) <|
 .seq
 (.region [⟨(some 18), .mov (.t 0), none⟩,
    ⟨(some 19), .mov (.t 0), none⟩,
    ⟨(some 20), .nilck (.t 19), none⟩,
    ⟨(some 21), .faddr 0 (.t 20), none⟩,
    ⟨(some 22), .load false 1 (.t 21), none⟩,
    ⟨(some 23), .mov (.t 4), none⟩,
    ⟨(some 24), .mov (.t 4), none⟩,
    ⟨(some 25), .bin .add (.t 24) (.c (.int .i64 1)), none⟩,
    ⟨(some 26), .call (.f 19) [(.t 22), (.t 23), (.t 25)], none⟩,
    ⟨(some 27), .nilck (.t 18), none⟩,
    ⟨(some 28), .faddr 0 (.t 27), none⟩,
    ⟨none, .store 1 (.t 28) (.t 26), none⟩]) <|
 .seq
 (.region [⟨(some 29), .load true 3 (.t 5), none⟩,
    ⟨none, .store 3 (.t 2) (.t 29), none⟩,
    ⟨(some 3), .mov (.c (.bool true)), none⟩]) <|
 .ret, [.cell 2 true 3, .slot 3]⟩
theorem c9 : Code1 Try.prog 9 30 b9 := Code1.mk' Try.func9 (by kernel_rfl) (by kernel_rfl) Try.ntmps9

/-- fusee/signal.Queue.Block -/
def b10 : IFn := ⟨
 .seq
 (.region [⟨(some 6), .mov (.c (.bool false)), none⟩]) <|
 .seq
 (.seq
  (.region [⟨(some 9), .mov (.t 0), none⟩,
     ⟨(some 10), .eq false false [.ptr] (.t 9) (.c (.ptr none)), none⟩,
     ⟨(some 11), .mov (.t 10), none⟩,
     ⟨(some 12), .mov (.t 1), (some (11, false))⟩,
     ⟨(some 13), .call (.f 14) [(.t 12)], (some (11, false))⟩,
     ⟨(some 14), .un .not (.t 13), (some (11, false))⟩,
     ⟨(some 15), .pick (.t 11) (.c (.bool true)) (.t 14), none⟩]) <|
  .cond (.t 15)
   (.seq
    (.region [⟨(some 6), .mov (.c (.bool false)), none⟩]) <|
    .ret)
   (.skip)) <|
 .seq
 (.region [⟨(some 16), .mov (.t 1), none⟩,
    ⟨(some 17), .conv .u64 (.t 16), none⟩,
    ⟨(some 18), .bin .shl (.c (.int .u64 1)) (.t 17), none⟩,
    ⟨(some 7), .mov (.t 18), none⟩]) <|
 .seq
 (.region [⟨(some 19), .mov (.t 0), none⟩,
    ⟨(some 20), .nilck (.t 19), none⟩,
    ⟨(some 21), .faddr 1 (.t 20), none⟩,
    ⟨(some 22), .load false 1 (.t 21), none⟩,
    ⟨(some 23), .mov (.t 7), none⟩,
    ⟨(some 24), .bin .and (.t 22) (.t 23), none⟩,
    ⟨(some 25), .bin .neq (.t 24) (.c (.int .u64 0)), none⟩,
    ⟨(some 8), .mov (.t 25), none⟩]) <|
 .seq
 (.region [⟨(some 26), .mov (.t 0), none⟩,
    ⟨(some 27), .nilck (.t 26), none⟩,
    ⟨(some 28), .faddr 1 (.t 27), none⟩,
    ⟨(some 29), .load false 1 (.t 28), none⟩,
    ⟨(some 30), .mov (.t 7), none⟩,
    ⟨(some 31), .bin .andNot (.t 29) (.t 30), none⟩,
    ⟨(some 32), .nilck (.t 26), none⟩,
    ⟨(some 33), .faddr 1 (.t 32), none⟩,
    ⟨none, .store 1 (.t 33) (.t 31), none⟩]) <|
 .seq
 (.seq
  (.region [⟨(some 34), .mov (.t 2), none⟩]) <|
  .cond (.t 34)
   (.region [⟨(some 35), .mov (.t 0), none⟩,
      ⟨(some 36), .nilck (.t 35), none⟩,
      ⟨(some 37), .faddr 1 (.t 36), none⟩,
      ⟨(some 38), .load false 1 (.t 37), none⟩,
      ⟨(some 39), .mov (.t 7), none⟩,
      ⟨(some 40), .bin .or (.t 38) (.t 39), none⟩,
      ⟨(some 41), .nilck (.t 35), none⟩,
      ⟨(some 42), .faddr 1 (.t 41), none⟩,
      ⟨none, .store 1 (.t 42) (.t 40), none⟩])
   (.skip)) <|
 .seq
 (.region [⟨(some 43), .mov (.t 8), none⟩,
    ⟨(some 6), .mov (.t 43), none⟩]) <|
 .ret, [.slot 6]⟩
theorem c10 : Code1 Try.prog 10 44 b10 := Code1.mk' Try.func10 (by kernel_rfl) (by kernel_rfl) Try.ntmps10

/-- fusee/signal.Queue.Ready -/
def b11 : IFn := ⟨
 .seq
 (.region [⟨(some 2), .mov (.c (.bool false)), none⟩]) <|
 .seq
 (.region [⟨(some 3), .mov (.t 0), none⟩,
    ⟨(some 4), .call (.f 18) [(.t 3)], none⟩,
    ⟨(some 5), .bin .geq (.t 4) (.c (.int .i64 0)), none⟩,
    ⟨(some 2), .mov (.t 5), none⟩]) <|
 .ret, [.slot 2]⟩
theorem c11 : Code1 Try.prog 11 6 b11 := Code1.mk' Try.func11 (by kernel_rfl) (by kernel_rfl) Try.ntmps11

/-- fusee/signal.Queue.Drop -/
def b12 : IFn := ⟨
 .seq
 (.region [⟨(some 3), .box (.t 1), none⟩,
    ⟨(some 4), .mov (.c (.int .i64 0)), none⟩]) <|
 .seq
 (.seq
  (.region [⟨(some 6), .mov (.t 0), none⟩,
     ⟨(some 7), .eq false false [.ptr] (.t 6) (.c (.ptr none)), none⟩]) <|
  .cond (.t 7)
   (.seq
    (.region [⟨(some 4), .mov (.c (.int .i64 0)), none⟩]) <|
    .ret)
   (.skip)) <|
 .seq
 (.region [⟨(some 8), .mov (.t 0), none⟩,
    ⟨(some 9), .nilck (.t 8), none⟩,
    ⟨(some 10), .faddr 0 (.t 9), none⟩,
    ⟨(some 11), .load false 1 (.t 10), none⟩,
    ⟨(some 12), .len .sl (.t 11), none⟩,
    ⟨(some 5), .mov (.t 12), none⟩]) <|
 .seq
 (.region [⟨(some 13), .mov (.t 0), none⟩,
    ⟨(some 14), .mov (.t 0), none⟩,
    ⟨(some 15), .nilck (.t 14), none⟩,
    ⟨(some 16), .faddr 0 (.t 15), none⟩,
    ⟨(some 17), .load false 1 (.t 16), none⟩,
    ⟨(some 18), .mkFn 21 [] [(.t 3)], none⟩,
    ⟨(some 19), .call (.f 20) [(.t 17), (.t 18)], none⟩,
    ⟨(some 20), .nilck (.t 13), none⟩,
    ⟨(some 21), .faddr 0 (.t 20), none⟩,
    ⟨none, .store 1 (.t 21) (.t 19), none⟩]) <|
 .seq
 (.region [⟨(some 22), .mov (.t 5), none⟩,
    ⟨(some 23), .mov (.t 0), none⟩,
    ⟨(some 24), .nilck (.t 23), none⟩,
    ⟨(some 25), .faddr 0 (.t 24), none⟩,
    ⟨(some 26), .load false 1 (.t 25), none⟩,
    ⟨(some 27), .len .sl (.t 26), none⟩,
    ⟨(some 28), .bin .sub (.t 22) (.t 27), none⟩,
    ⟨(some 4), .mov (.t 28), none⟩]) <|
 .ret, [.slot 4]⟩
theorem c12 : Code1 Try.prog 12 29 b12 := Code1.mk' Try.func12 (by kernel_rfl) (by kernel_rfl) Try.ntmps12

/-- fusee/signal.Queue.Waiting -/
def b13 : IFn := ⟨
 .seq
 (.region [⟨(some 2), .mov (.c (.sl none 0 (some 0))), none⟩]) <|
 .seq
 (.seq
  (.region [⟨(some 3), .mov (.t 0), none⟩,
     ⟨(some 4), .eq false false [.ptr] (.t 3) (.c (.ptr none)), none⟩]) <|
  .cond (.t 4)
   (.seq
    (.region [⟨(some 2), .mov (.c (.sl none 0 (some 0))), none⟩]) <|
    .ret)
   (.skip)) <|
 .seq
 (.region [⟨(some 5), .mov (.t 0), none⟩,
    ⟨(some 6), .nilck (.t 5), none⟩,
    ⟨(some 7), .faddr 0 (.t 6), none⟩,
    ⟨(some 8), .load false 1 (.t 7), none⟩,
    ⟨(some 9), .call (.f 22) [(.t 8)], none⟩,
    ⟨(some 2), .mov (.t 9), none⟩]) <|
 .ret, [.slot 2]⟩
theorem c13 : Code1 Try.prog 13 10 b13 := Code1.mk' Try.func13 (by kernel_rfl) (by kernel_rfl) Try.ntmps13

/-- fusee/signal.right -/
def b14 : IFn := ⟨
 .seq
 (.region [⟨(some 2), .mov (.c (.bool false)), none⟩]) <|
 .seq
 (.region [⟨(some 3), .mov (.t 0), none⟩,
    ⟨(some 4), .bin .geq (.t 3) (.c (.int .i64 1)), none⟩,
    ⟨(some 5), .mov (.t 4), none⟩,
    ⟨(some 6), .mov (.t 0), (some (5, true))⟩,
    ⟨(some 7), .bin .leq (.t 6) (.c (.int .i64 63)), (some (5, true))⟩,
    ⟨(some 8), .pick (.t 5) (.t 7) (.c (.bool false)), none⟩,
    ⟨(some 2), .mov (.t 8), none⟩]) <|
 .ret, [.slot 2]⟩
theorem c14 : Code1 Try.prog 14 9 b14 := Code1.mk' Try.func14 (by kernel_rfl) (by kernel_rfl) Try.ntmps14

/-- fusee/forward.Over -/
def b15 : IFn := ⟨
 .seq
 (.region [⟨(some 2), .mov (.c (.int .i64 0)), none⟩]) <|
 .seq
 (.region [⟨(some 3), .mov (.t 0), none⟩,
    ⟨(some 4), .max [(.t 3), (.c (.int .i64 0))], none⟩,
    ⟨(some 5), .min [(.t 4), (.c (.int .i64 2147483647))], none⟩,
    ⟨(some 2), .mov (.t 5), none⟩]) <|
 .ret, [.slot 2]⟩
theorem c15 : Code1 Try.prog 15 6 b15 := Code1.mk' Try.func15 (by kernel_rfl) (by kernel_rfl) Try.ntmps15

/-- slices.IndexFunc[[]fusee/signal.Signal,fusee/signal.Signal] -/
def b16 : IFn := ⟨
 .seq
 (.region [⟨(some 4), .mov (.c (.int .i64 0)), none⟩]) <|
 .seq
 (.seq
  (.region [⟨(some 6), .mov (.t 0), none⟩,
     ⟨(some 7), .len .sl (.t 6), none⟩,
     ⟨(some 8), .mov (.c (.int .i64 0)), none⟩]) <|
  .block 0 <|
  .loop [0, 1, 7, 8] <|
   .seq
   (.region [⟨(some 9), .bin .lss (.t 8) (.t 7), none⟩]) <|
   .seq
   (.cond (.t 9)
     (.skip)
     (.exit 0)) <|
   .seq
   (.block 1 <|
    .seq
    (.region [⟨(some 10), .mov (.t 8), none⟩,
       ⟨(some 5), .mov (.t 10), none⟩]) <|
    .seq
    (.region [⟨(some 11), .mov (.t 1), none⟩,
       ⟨(some 12), .mov (.t 0), none⟩,
       ⟨(some 13), .mov (.t 5), none⟩,
       ⟨(some 14), .iaddr 3 (.t 12) (.t 13), none⟩,
       ⟨(some 15), .load true 3 (.t 14), none⟩,
       ⟨(some 16), .call (.t 11) [(.t 15)], none⟩]) <|
    .cond (.t 16)
     (.seq
      (.region [⟨(some 17), .mov (.t 5), none⟩,
         ⟨(some 4), .mov (.t 17), none⟩]) <|
      .ret)
     (.skip)) <|
   .region [⟨(some 18), .bin .add (.t 8) (.c (.int .i64 1)), none⟩,
     ⟨(some 8), .mov (.t 18), none⟩]) <|
 .seq
 (.region [⟨(some 4), .mov (.c (.int .i64 (-1))), none⟩]) <|
 .ret, [.slot 4]⟩
theorem c16 : Code1 Try.prog 16 19 b16 := Code1.mk' Try.func16 (by kernel_rfl) (by kernel_rfl) Try.ntmps16

/-- fusee/signal.Queue.Send$1 -/
def b17 : IFn := ⟨
 .seq
 (.region [⟨(some 3), .box (.t 0), none⟩,
    ⟨(some 4), .mov (.c (.bool false)), none⟩]) <|
 .seq
 (.region [⟨(some 5), .faddr 0 (.t 3), none⟩,
    ⟨(some 6), .load false 1 (.t 5), none⟩,
    ⟨(some 7), .load false 1 (.t 1), none⟩,
    ⟨(some 8), .bin .eql (.t 6) (.t 7), none⟩,
    ⟨(some 9), .mov (.t 8), none⟩,
    ⟨(some 10), .faddr 1 (.t 3), (some (9, true))⟩,
    ⟨(some 11), .load false 1 (.t 10), (some (9, true))⟩,
    ⟨(some 12), .load false 1 (.t 2), (some (9, true))⟩,
    ⟨(some 13), .bin .eql (.t 11) (.t 12), (some (9, true))⟩,
    ⟨(some 14), .pick (.t 9) (.t 13) (.c (.bool false)), none⟩,
    ⟨(some 4), .mov (.t 14), none⟩]) <|
 .ret, [.slot 4]⟩
theorem c17 : Code1 Try.prog 17 15 b17 := Code1.mk' Try.func17 (by kernel_rfl) (by kernel_rfl) Try.ntmps17

/-- fusee/signal.Queue.open -/
def b18 : IFn := ⟨
 .seq
 (.region [⟨(some 1), .box (.t 0), none⟩,
    ⟨(some 2), .mov (.c (.int .i64 0)), none⟩]) <|
 .seq
 (.seq
  (.region [⟨(some 3), .load false 1 (.t 1), none⟩,
     ⟨(some 4), .eq false false [.ptr] (.t 3) (.c (.ptr none)), none⟩]) <|
  .cond (.t 4)
   (.seq
    (.region [⟨(some 2), .mov (.c (.int .i64 (-1))), none⟩]) <|
    .ret)
   (.skip)) <|
 .seq
 (.region [⟨(some 5), .load false 1 (.t 1), none⟩,
    ⟨(some 6), .nilck (.t 5), none⟩,
    ⟨(some 7), .faddr 0 (.t 6), none⟩,
    ⟨(some 8), .load false 1 (.t 7), none⟩,
    ⟨(some 9), .mkFn 23 [] [(.t 1)], none⟩,
    ⟨(some 10), .call (.f 16) [(.t 8), (.t 9)], none⟩,
    ⟨(some 2), .mov (.t 10), none⟩]) <|
 .ret, [.slot 2]⟩
theorem c18 : Code1 Try.prog 18 11 b18 := Code1.mk' Try.func18 (by kernel_rfl) (by kernel_rfl) Try.ntmps18

/-- slices.Delete[[]fusee/signal.Signal,fusee/signal.Signal] -/
def b19 : IFn := ⟨
 .seq
 (.region [⟨(some 6), .mov (.c (.sl none 0 (some 0))), none⟩]) <|
 .seq
 (.region [⟨(some 8), .mov (.t 0), none⟩,
    ⟨(some 9), .mov (.t 1), none⟩,
    ⟨(some 10), .mov (.t 2), none⟩,
    ⟨(some 11), .mov (.t 0), none⟩,
    ⟨(some 12), .len .sl (.t 11), none⟩,
    ⟨(some 13), .slice 3 (.t 8) (some (.t 9)) (some (.t 10)) (some (.t 12)), none⟩]) <|
 .seq
 (.seq
  (.region [⟨(some 14), .mov (.t 1), none⟩,
     ⟨(some 15), .mov (.t 2), none⟩,
     ⟨(some 16), .bin .eql (.t 14) (.t 15), none⟩]) <|
  .cond (.t 16)
   (.seq
    (.region [⟨(some 17), .mov (.t 0), none⟩,
       ⟨(some 6), .mov (.t 17), none⟩]) <|
    .ret)
   (.skip)) <|
 .seq
 (.region [⟨(some 18), .mov (.t 0), none⟩,
    ⟨(some 19), .len .sl (.t 18), none⟩,
    ⟨(some 7), .mov (.t 19), none⟩]) <|
 .seq
 (.draw false [0, 7] (
    .op ⟨(some 20), .mov (.t 0), none⟩ <|
    .op ⟨(some 21), .mov (.t 1), none⟩ <|
    .op ⟨(some 22), .slice 3 (.t 20) none (some (.t 21)) none, none⟩ <|
    .op ⟨(some 23), .mov (.t 0), none⟩ <|
    .op ⟨(some 24), .mov (.t 2), none⟩ <|
    .op ⟨(some 25), .slice 3 (.t 23) (some (.t 24)) none none, none⟩ <|
    .op ⟨(some 26), .app 3 24 (.t 22) (.t 25), none⟩ <|
    .op ⟨(some 0), .mov (.t 26), none⟩ <|
    .done)) <|
 .seq
 (.region [⟨(some 27), .mov (.t 0), none⟩,
    ⟨(some 28), .mov (.t 0), none⟩,
    ⟨(some 29), .len .sl (.t 28), none⟩,
    ⟨(some 30), .mov (.t 7), none⟩,
    ⟨(some 31), .sliceM 3 (.t 27) (.t 29) (.t 30), none⟩,
    ⟨none, .clear [(.int .i64 0), (.int .i64 0), (.int .i64 0)] (.t 31), none⟩]) <|
 .seq
 (.region [⟨(some 32), .mov (.t 0), none⟩,
    ⟨(some 6), .mov (.t 32), none⟩]) <|
 .ret, [.slot 6]⟩
theorem c19 : Code1 Try.prog 19 33 b19 := Code1.mk' Try.func19 (by kernel_rfl) (by kernel_rfl) Try.ntmps19

/-- slices.DeleteFunc[[]fusee/signal.Signal,fusee/signal.Signal] -/
def b20 : IFn := ⟨
 .seq
 (.region [⟨(some 4), .mov (.c (.sl none 0 (some 0))), none⟩]) <|
 .seq
 (.region [⟨(some 8), .mov (.t 0), none⟩,
    ⟨(some 9), .mov (.t 1), none⟩,
    ⟨(some 10), .call (.f 16) [(.t 8), (.t 9)], none⟩,
    ⟨(some 5), .mov (.t 10), none⟩]) <|
 .seq
 (.seq
  (.region [⟨(some 11), .mov (.t 5), none⟩,
     ⟨(some 12), .bin .eql (.t 11) (.c (.int .i64 (-1))), none⟩]) <|
  .cond (.t 12)
   (.seq
    (.region [⟨(some 13), .mov (.t 0), none⟩,
       ⟨(some 4), .mov (.t 13), none⟩]) <|
    .ret)
   (.skip)) <|
 .seq
 (.seq
  (.region [⟨(some 14), .mov (.t 5), none⟩,
     ⟨(some 15), .bin .add (.t 14) (.c (.int .i64 1)), none⟩,
     ⟨(some 6), .mov (.t 15), none⟩]) <|
  .block 0 <|
  .loop [0, 1, 5, 6] <|
   .seq
   (.seq
    (.region [⟨(some 16), .mov (.t 6), none⟩,
       ⟨(some 17), .mov (.t 0), none⟩,
       ⟨(some 18), .len .sl (.t 17), none⟩,
       ⟨(some 19), .bin .lss (.t 16) (.t 18), none⟩]) <|
    .cond (.t 19)
     (.skip)
     (.exit 0)) <|
   .seq
   (.block 1 <|
    .seq
    (.region [⟨(some 22), .mov (.t 0), none⟩,
       ⟨(some 23), .mov (.t 6), none⟩,
       ⟨(some 24), .iaddr 3 (.t 22) (.t 23), none⟩,
       ⟨(some 25), .load true 3 (.t 24), none⟩,
       ⟨(some 7), .alloc [(.int .i64 0), (.int .i64 0), (.int .i64 0)], none⟩,
       ⟨none, .store 3 (.t 7) (.t 25), none⟩]) <|
    .seq
    (.region [⟨(some 26), .mov (.t 1), none⟩,
       ⟨(some 27), .load true 3 (.t 7), none⟩,
       ⟨(some 28), .call (.t 26) [(.t 27)], none⟩,
       ⟨(some 29), .un .not (.t 28), none⟩]) <|
    .cond (.t 29)
     (.seq
      (.region [⟨(some 30), .mov (.t 0), none⟩,
         ⟨(some 31), .mov (.t 5), none⟩,
         ⟨(some 32), .load true 3 (.t 7), none⟩,
         ⟨(some 33), .iaddr 3 (.t 30) (.t 31), none⟩,
         ⟨none, .store 3 (.t 33) (.t 32), none⟩]) <|
      .region [⟨(some 34), .mov (.t 5), none⟩,
        ⟨(some 35), .bin .add (.t 34) (.c (.int .i64 1)), none⟩,
        ⟨(some 5), .mov (.t 35), none⟩])
     (.skip)) <|
   .region [⟨(some 20), .mov (.t 6), none⟩,
     ⟨(some 21), .bin .add (.t 20) (.c (.int .i64 1)), none⟩,
     ⟨(some 6), .mov (.t 21), none⟩]) <|
 .seq
 (.region [⟨(some 36), .mov (.t 0), none⟩,
    ⟨(some 37), .mov (.t 5), none⟩,
    ⟨(some 38), .slice 3 (.t 36) (some (.t 37)) none none, none⟩,
    ⟨none, .clear [(.int .i64 0), (.int .i64 0), (.int .i64 0)] (.t 38), none⟩]) <|
 .seq
 (.region [⟨(some 39), .mov (.t 0), none⟩,
    ⟨(some 40), .mov (.t 5), none⟩,
    ⟨(some 41), .slice 3 (.t 39) none (some (.t 40)) none, none⟩,
    ⟨(some 4), .mov (.t 41), none⟩]) <|
 .ret, [.slot 4]⟩
theorem c20 : Code1 Try.prog 20 42 b20 := Code1.mk' Try.func20 (by kernel_rfl) (by kernel_rfl) Try.ntmps20

/-- fusee/signal.Queue.Drop$1 -/
def b21 : IFn := ⟨
 .seq
 (.region [⟨(some 2), .box (.t 0), none⟩,
    ⟨(some 3), .mov (.c (.bool false)), none⟩]) <|
 .seq
 (.region [⟨(some 4), .faddr 1 (.t 2), none⟩,
    ⟨(some 5), .load false 1 (.t 4), none⟩,
    ⟨(some 6), .load false 1 (.t 1), none⟩,
    ⟨(some 7), .bin .eql (.t 5) (.t 6), none⟩,
    ⟨(some 3), .mov (.t 7), none⟩]) <|
 .ret, [.slot 3]⟩
theorem c21 : Code1 Try.prog 21 8 b21 := Code1.mk' Try.func21 (by kernel_rfl) (by kernel_rfl) Try.ntmps21

/-- slices.Clone[[]fusee/signal.Signal,fusee/signal.Signal] -/
def b22 : IFn := ⟨
 .seq
 (.region [⟨(some 2), .mov (.c (.sl none 0 (some 0))), none⟩]) <|
 .seq
 (.seq
  (.region [⟨(some 3), .mov (.t 0), none⟩,
     ⟨(some 4), .eq false false [.sl] (.t 3) (.c (.sl none 0 (some 0))), none⟩]) <|
  .cond (.t 4)
   (.seq
    (.region [⟨(some 2), .mov (.c (.sl none 0 (some 0))), none⟩]) <|
    .ret)
   (.skip)) <|
 .seq
 (.region [⟨(some 5), .buildSl 3 [] [], none⟩,
    ⟨(some 6), .mov (.t 0), none⟩,
    ⟨(some 7), .app 3 24 (.t 5) (.t 6), none⟩,
    ⟨(some 2), .mov (.t 7), none⟩]) <|
 .ret, [.slot 2]⟩
theorem c22 : Code1 Try.prog 22 8 b22 := Code1.mk' Try.func22 (by kernel_rfl) (by kernel_rfl) Try.ntmps22

/-- fusee/signal.Queue.open$1 -/
def b23 : IFn := ⟨
 .seq
 (.region [⟨(some 2), .box (.t 0), none⟩,
    ⟨(some 3), .mov (.c (.bool false)), none⟩]) <|
 .seq
 (.draw false [3] (
    .op ⟨(some 4), .load false 1 (.t 1), none⟩ <|
    .op ⟨(some 5), .nilck (.t 4), none⟩ <|
    .op ⟨(some 6), .faddr 1 (.t 5), none⟩ <|
    .op ⟨(some 7), .load false 1 (.t 6), none⟩ <|
    .op ⟨(some 8), .faddr 0 (.t 2), none⟩ <|
    .op ⟨(some 9), .load false 1 (.t 8), none⟩ <|
    .op ⟨(some 10), .conv .u64 (.t 9), none⟩ <|
    .op ⟨(some 11), .bin .shr (.t 7) (.t 10), none⟩ <|
    .op ⟨(some 12), .bin .and (.t 11) (.c (.int .u64 1)), none⟩ <|
    .op ⟨(some 13), .bin .eql (.t 12) (.c (.int .u64 0)), none⟩ <|
    .op ⟨(some 3), .mov (.t 13), none⟩ <|
    .done)) <|
 .ret, [.slot 3]⟩
theorem c23 : Code1 Try.prog 23 14 b23 := Code1.mk' Try.func23 (by kernel_rfl) (by kernel_rfl) Try.ntmps23

/-- The functions that the facts at the head of each statement call. -/
abbrev code : CodeL := [(6, 93, b6), (7, 3, b7), (8, 82, b8), (9, 30, b9), (10, 44, b10), (11, 6, b11), (12, 29, b12), (13, 10, b13), (14, 9, b14), (15, 6, b15), (16, 19, b16), (17, 15, b17), (18, 11, b18), (19, 33, b19), (20, 42, b20), (21, 8, b21), (22, 8, b22), (23, 14, b23)]
theorem codeOk : CodeOk Try.prog code := ⟨c6, c7, c8, c9, c10, c11, c12, c13, c14, c15, c16, c17, c18, c19, c20, c21, c22, c23, trivial⟩

end Go.Proofs.Ytmfekckcingneaa
