/-
  THE CODE of the functions of this seat, as the plain machine's; each is what the compiler makes of the program's.
-/
import Derived.Test.YtkpdpdpilggcfaaChecked
import Derived.Test.YtkpdpdpilggcfaaAm32
import Derived.KernelRfl
namespace Go.Proofs.Ytkpdpdpilggcfaa
open Go Go.AM
set_option linter.unusedVariables false

theorem hm : Try.prog.follows .mixedOrders = true := by kernel_rfl

/-- fusee/fuseelaw10.WheelParts -/
def b3 : IFn := ⟨
 .seq
 (.region [⟨(some 6), .mov (.c (.bool false)), none⟩]) <|
 .seq
 (.seq
  (.region [⟨(some 14), .call (.f 6) [], none⟩,
     ⟨(some 15), .un .not (.t 14), none⟩]) <|
  .cond (.t 15)
   (.seq
    (.region [⟨(some 6), .mov (.c (.bool false)), none⟩]) <|
    .ret)
   (.skip)) <|
 .seq
 (.seq
  (.region [⟨(some 16), .mov (.t 0), none⟩,
     ⟨(some 17), .len .sl (.t 16), none⟩,
     ⟨(some 18), .bin .gtr (.t 17) (.c (.int .i64 60)), none⟩]) <|
  .cond (.t 18)
   (.seq
    (.region [⟨(some 6), .mov (.c (.bool true)), none⟩]) <|
    .ret)
   (.skip)) <|
 .seq
 (.region [⟨(some 19), .call (.f 7) [], none⟩,
    ⟨(some 20), .call (.f 7) [], none⟩,
    ⟨(some 7), .mov (.t 19), none⟩,
    ⟨(some 8), .mov (.t 20), none⟩]) <|
 .seq
 (.seq
  (.region [⟨(some 21), .mov (.t 0), none⟩,
     ⟨(some 22), .len .sl (.t 21), none⟩,
     ⟨(some 23), .mov (.c (.int .i64 0)), none⟩]) <|
  .block 0 <|
  .loop [1, 2, 7, 8, 21, 22, 23] <|
   .seq
   (.region [⟨(some 24), .bin .lss (.t 23) (.t 22), none⟩]) <|
   .seq
   (.cond (.t 24)
     (.skip)
     (.exit 0)) <|
   .seq
   (.block 1 <|
    .seq
    (.region [⟨(some 25), .iaddr 3 (.t 21) (.t 23), none⟩,
       ⟨(some 26), .load true 3 (.t 25), none⟩,
       ⟨(some 10), .alloc [(.int .u8 0), (.int .i64 0), (.int .i64 0)], none⟩,
       ⟨none, .store 3 (.t 10) (.t 26), none⟩]) <|
    .seq
    (.region [⟨(some 27), .mov (.t 7), none⟩,
       ⟨(some 28), .faddr 1 (.t 10), none⟩,
       ⟨(some 29), .load false 1 (.t 28), none⟩,
       ⟨(some 30), .faddr 2 (.t 10), none⟩,
       ⟨(some 31), .load false 1 (.t 30), none⟩,
       ⟨(some 32), .call (.f 8) [(.t 27), (.t 29), (.t 31)], none⟩]) <|
    .region [⟨(some 33), .mov (.t 8), none⟩,
      ⟨(some 34), .faddr 1 (.t 10), none⟩,
      ⟨(some 35), .load false 1 (.t 34), none⟩,
      ⟨(some 36), .faddr 2 (.t 10), none⟩,
      ⟨(some 37), .load false 1 (.t 36), none⟩,
      ⟨(some 38), .call (.f 8) [(.t 33), (.t 35), (.t 37)], none⟩]) <|
   .region [⟨(some 39), .bin .add (.t 23) (.c (.int .i64 1)), none⟩,
     ⟨(some 23), .mov (.t 39), none⟩]) <|
 .seq
 (.region [⟨(some 40), .mov (.t 7), none⟩,
    ⟨(some 41), .mov (.t 1), none⟩,
    ⟨(some 42), .bin .rem (.t 41) (.c (.int .u16 30000)), none⟩,
    ⟨(some 43), .conv .i64 (.t 42), none⟩,
    ⟨(some 44), .call (.f 9) [(.t 40), (.t 43)], none⟩,
    ⟨(some 45), .mov (.t 7), none⟩,
    ⟨(some 46), .mov (.t 2), none⟩,
    ⟨(some 47), .bin .rem (.t 46) (.c (.int .u16 30000)), none⟩,
    ⟨(some 48), .conv .i64 (.t 47), none⟩,
    ⟨(some 49), .call (.f 9) [(.t 45), (.t 48)], none⟩,
    ⟨(some 50), .app 1 8 (.t 44) (.t 49), none⟩,
    ⟨(some 11), .mov (.t 50), none⟩]) <|
 .seq
 (.region [⟨(some 51), .mov (.t 8), none⟩,
    ⟨(some 52), .mov (.t 1), none⟩,
    ⟨(some 53), .bin .rem (.t 52) (.c (.int .u16 30000)), none⟩,
    ⟨(some 54), .conv .i64 (.t 53), none⟩,
    ⟨(some 55), .mov (.t 2), none⟩,
    ⟨(some 56), .bin .rem (.t 55) (.c (.int .u16 30000)), none⟩,
    ⟨(some 57), .conv .i64 (.t 56), none⟩,
    ⟨(some 58), .bin .add (.t 54) (.t 57), none⟩,
    ⟨(some 59), .call (.f 9) [(.t 51), (.t 58)], none⟩,
    ⟨(some 12), .mov (.t 59), none⟩]) <|
 .seq
 (.seq
  (.region [⟨(some 60), .mov (.t 11), none⟩,
     ⟨(some 61), .len .sl (.t 60), none⟩,
     ⟨(some 62), .mov (.t 12), none⟩,
     ⟨(some 63), .len .sl (.t 62), none⟩,
     ⟨(some 64), .bin .neq (.t 61) (.t 63), none⟩,
     ⟨(some 65), .mov (.t 64), none⟩,
     ⟨(some 66), .mov (.t 7), (some (65, false))⟩,
     ⟨(some 67), .call (.f 10) [(.t 66)], (some (65, false))⟩,
     ⟨(some 68), .mov (.t 8), (some (65, false))⟩,
     ⟨(some 69), .call (.f 10) [(.t 68)], (some (65, false))⟩,
     ⟨(some 70), .bin .neq (.t 67) (.t 69), (some (65, false))⟩,
     ⟨(some 71), .pick (.t 65) (.c (.bool true)) (.t 70), none⟩]) <|
  .cond (.t 71)
   (.seq
    (.region [⟨(some 6), .mov (.c (.bool false)), none⟩]) <|
    .ret)
   (.skip)) <|
 .seq
 (.seq
  (.region [⟨(some 72), .mov (.t 11), none⟩,
     ⟨(some 73), .len .sl (.t 72), none⟩,
     ⟨(some 74), .mov (.c (.int .i64 0)), none⟩]) <|
  .block 2 <|
  .loop [11, 12, 73, 74] <|
   .seq
   (.region [⟨(some 75), .bin .lss (.t 74) (.t 73), none⟩]) <|
   .seq
   (.cond (.t 75)
     (.skip)
     (.exit 2)) <|
   .seq
   (.block 3 <|
    .seq
    (.region [⟨(some 76), .mov (.t 74), none⟩,
       ⟨(some 13), .mov (.t 76), none⟩]) <|
    .seq
    (.draw false [11, 12, 73, 74, 85] (
       .op ⟨(some 77), .mov (.t 11), none⟩ <|
       .op ⟨(some 78), .mov (.t 13), none⟩ <|
       .op ⟨(some 79), .iaddr 1 (.t 77) (.t 78), none⟩ <|
       .op ⟨(some 80), .load false 1 (.t 79), none⟩ <|
       .op ⟨(some 81), .mov (.t 12), none⟩ <|
       .op ⟨(some 82), .mov (.t 13), none⟩ <|
       .op ⟨(some 83), .iaddr 1 (.t 81) (.t 82), none⟩ <|
       .op ⟨(some 84), .load false 1 (.t 83), none⟩ <|
       .op ⟨(some 85), .bin .neq (.t 80) (.t 84), none⟩ <|
       .done)) <|
    .cond (.t 85)
     (.seq
      (.region [⟨(some 6), .mov (.c (.bool false)), none⟩]) <|
      .ret)
     (.skip)) <|
   .region [⟨(some 86), .bin .add (.t 74) (.c (.int .i64 1)), none⟩,
     ⟨(some 74), .mov (.t 86), none⟩]) <|
 .seq
 (.region [⟨(some 6), .mov (.c (.bool true)), none⟩]) <|
 .ret, [.slot 6]⟩
theorem c3 : Code1 Try.prog 3 87 b3 := Code1.mk' Try.func3 (by kernel_rfl) (by kernel_rfl) Try.ntmps3

/-- fusee/fuseelaw10.WheelOnce -/
def b4 : IFn := ⟨
 .seq
 (.region [⟨(some 4), .mov (.c (.bool false)), none⟩]) <|
 .seq
 (.seq
  (.region [⟨(some 13), .call (.f 6) [], none⟩,
     ⟨(some 14), .un .not (.t 13), none⟩]) <|
  .cond (.t 14)
   (.seq
    (.region [⟨(some 4), .mov (.c (.bool false)), none⟩]) <|
    .ret)
   (.skip)) <|
 .seq
 (.seq
  (.region [⟨(some 15), .mov (.t 0), none⟩,
     ⟨(some 16), .len .sl (.t 15), none⟩,
     ⟨(some 17), .bin .gtr (.t 16) (.c (.int .i64 100)), none⟩]) <|
  .cond (.t 17)
   (.seq
    (.region [⟨(some 4), .mov (.c (.bool true)), none⟩]) <|
    .ret)
   (.skip)) <|
 .seq
 (.region [⟨(some 18), .call (.f 7) [], none⟩,
    ⟨(some 5), .mov (.t 18), none⟩]) <|
 .seq
 (.region [⟨(some 19), .mkMap, none⟩,
    ⟨(some 6), .mov (.t 19), none⟩]) <|
 .seq
 (.seq
  (.region [⟨(some 20), .mov (.t 0), none⟩,
     ⟨(some 21), .len .sl (.t 20), none⟩,
     ⟨(some 22), .mov (.c (.int .i64 0)), none⟩]) <|
  .block 0 <|
  .loop [1, 5, 6, 20, 21, 22] <|
   .seq
   (.region [⟨(some 23), .bin .lss (.t 22) (.t 21), none⟩]) <|
   .seq
   (.cond (.t 23)
     (.skip)
     (.exit 0)) <|
   .seq
   (.block 1 <|
    .seq
    (.region [⟨(some 24), .mov (.t 22), none⟩,
       ⟨(some 25), .iaddr 1 (.t 20) (.t 22), none⟩,
       ⟨(some 26), .load false 1 (.t 25), none⟩,
       ⟨(some 7), .mov (.t 24), none⟩,
       ⟨(some 8), .mov (.t 26), none⟩]) <|
    .seq
    (.region [⟨(some 27), .mov (.t 8), none⟩,
       ⟨(some 28), .bin .rem (.t 27) (.c (.int .u16 5000)), none⟩,
       ⟨(some 29), .conv .i64 (.t 28), none⟩,
       ⟨(some 30), .bin .add (.c (.int .i64 1)) (.t 29), none⟩,
       ⟨(some 9), .mov (.t 30), none⟩]) <|
    .seq
    (.seq
     (.region [⟨(some 31), .mov (.t 5), none⟩,
        ⟨(some 32), .mov (.t 7), none⟩,
        ⟨(some 33), .mov (.t 9), none⟩,
        ⟨(some 34), .call (.f 8) [(.t 31), (.t 32), (.t 33)], none⟩,
        ⟨(some 35), .bin .neq (.t 34) (.c (.int .i64 0)), none⟩]) <|
     .cond (.t 35)
      (.seq
       (.region [⟨(some 4), .mov (.c (.bool false)), none⟩]) <|
       .ret)
      (.skip)) <|
    .seq
    (.region [⟨(some 36), .mov (.t 7), none⟩,
       ⟨(some 37), .mov (.t 1), none⟩,
       ⟨(some 38), .len .sl (.t 37), none⟩,
       ⟨(some 39), .bin .lss (.t 36) (.t 38), none⟩,
       ⟨(some 40), .mov (.t 39), none⟩,
       ⟨(some 41), .mov (.t 1), (some (40, true))⟩,
       ⟨(some 42), .mov (.t 7), (some (40, true))⟩,
       ⟨(some 43), .iaddr 1 (.t 41) (.t 42), (some (40, true))⟩,
       ⟨(some 44), .load false 1 (.t 43), (some (40, true))⟩,
       ⟨(some 45), .pick (.t 40) (.t 44) (.c (.bool false)), none⟩]) <|
    .cond (.t 45)
     (.seq
      (.region [⟨(some 46), .mov (.t 5), none⟩,
         ⟨(some 47), .mov (.t 7), none⟩,
         ⟨(some 48), .call (.f 11) [(.t 46), (.t 47)], none⟩,
         ⟨(some 49), .un .not (.t 48), none⟩,
         ⟨(some 50), .mov (.t 49), none⟩,
         ⟨(some 51), .mov (.t 5), (some (50, false))⟩,
         ⟨(some 52), .mov (.t 7), (some (50, false))⟩,
         ⟨(some 53), .call (.f 11) [(.t 51), (.t 52)], (some (50, false))⟩,
         ⟨(some 54), .pick (.t 50) (.c (.bool true)) (.t 53), none⟩]) <|
      .cond (.t 54)
       (.seq
        (.region [⟨(some 4), .mov (.c (.bool false)), none⟩]) <|
        .ret)
       (.skip))
     (.region [⟨(some 55), .mov (.t 6), none⟩,
        ⟨(some 56), .mov (.t 7), none⟩,
        ⟨(some 57), .mov (.t 9), none⟩,
        ⟨none, .mapUpd (.t 55) (.t 56) (.t 57), none⟩])) <|
   .region [⟨(some 58), .bin .add (.t 22) (.c (.int .i64 1)), none⟩,
     ⟨(some 22), .mov (.t 58), none⟩]) <|
 .seq
 (.seq
  (.region [⟨(some 10), .mov (.c (.int .i64 1)), none⟩]) <|
  .block 2 <|
  .loop [5, 6, 10] <|
   .seq
   (.seq
    (.region [⟨(some 59), .mov (.t 10), none⟩,
       ⟨(some 60), .bin .leq (.t 59) (.c (.int .i64 5000)), none⟩]) <|
    .cond (.t 60)
     (.skip)
     (.exit 2)) <|
   .seq
   (.block 3 <|
    .seq
    (.region [⟨(some 63), .mov (.t 5), none⟩,
       ⟨(some 64), .call (.f 9) [(.t 63), (.c (.int .i64 1))], none⟩,
       ⟨(some 65), .len .sl (.t 64), none⟩,
       ⟨(some 66), .mov (.c (.int .i64 0)), none⟩]) <|
    .block 4 <|
    .loop [5, 6, 10, 64, 65, 66] <|
     .seq
     (.region [⟨(some 67), .bin .lss (.t 66) (.t 65), none⟩]) <|
     .seq
     (.cond (.t 67)
       (.skip)
       (.exit 4)) <|
     .seq
     (.block 5 <|
      .seq
      (.region [⟨(some 68), .iaddr 1 (.t 64) (.t 66), none⟩,
         ⟨(some 69), .load false 1 (.t 68), none⟩,
         ⟨(some 12), .mov (.t 69), none⟩]) <|
      .seq
      (.seq
       (.region [⟨(some 70), .mov (.t 6), none⟩,
          ⟨(some 71), .mov (.t 12), none⟩,
          ⟨(some 72), .lookup (.int .i64 0) (.t 70) (.t 71) false, none⟩,
          ⟨(some 73), .mov (.t 10), none⟩,
          ⟨(some 74), .bin .neq (.t 72) (.t 73), none⟩]) <|
       .cond (.t 74)
        (.seq
         (.region [⟨(some 4), .mov (.c (.bool false)), none⟩]) <|
         .ret)
        (.skip)) <|
      .region [⟨(some 75), .mov (.t 6), none⟩,
        ⟨(some 76), .mov (.t 12), none⟩,
        ⟨none, .delete (.t 75) (.t 76), none⟩]) <|
     .region [⟨(some 77), .bin .add (.t 66) (.c (.int .i64 1)), none⟩,
       ⟨(some 66), .mov (.t 77), none⟩]) <|
   .region [⟨(some 61), .mov (.t 10), none⟩,
     ⟨(some 62), .bin .add (.t 61) (.c (.int .i64 1)), none⟩,
     ⟨(some 10), .mov (.t 62), none⟩]) <|
 .seq
 (.region [⟨(some 78), .mov (.t 6), none⟩,
    ⟨(some 79), .len .map (.t 78), none⟩,
    ⟨(some 80), .bin .eql (.t 79) (.c (.int .i64 0)), none⟩,
    ⟨(some 81), .mov (.t 80), none⟩,
    ⟨(some 82), .mov (.t 5), (some (81, true))⟩,
    ⟨(some 83), .call (.f 10) [(.t 82)], (some (81, true))⟩,
    ⟨(some 84), .bin .eql (.t 83) (.c (.int .i64 0)), (some (81, true))⟩,
    ⟨(some 85), .pick (.t 81) (.t 84) (.c (.bool false)), none⟩,
    ⟨(some 4), .mov (.t 85), none⟩]) <|
 .ret, [.slot 4]⟩
theorem c4 : Code1 Try.prog 4 86 b4 := Code1.mk' Try.func4 (by kernel_rfl) (by kernel_rfl) Try.ntmps4

/-- fusee/fuseelaw10.WheelPlays -/
def b5 : IFn := ⟨
 .seq
 (.region [⟨(some 2), .mov (.c (.bool false)), none⟩]) <|
 .seq
 (.seq
  (.region [⟨(some 22), .call (.f 6) [], none⟩,
     ⟨(some 23), .un .not (.t 22), none⟩]) <|
  .cond (.t 23)
   (.seq
    (.region [⟨(some 2), .mov (.c (.bool false)), none⟩]) <|
    .ret)
   (.skip)) <|
 .seq
 (.seq
  (.region [⟨(some 24), .mov (.t 0), none⟩,
     ⟨(some 25), .len .sl (.t 24), none⟩,
     ⟨(some 26), .bin .gtr (.t 25) (.c (.int .i64 60)), none⟩]) <|
  .cond (.t 26)
   (.seq
    (.region [⟨(some 2), .mov (.c (.bool true)), none⟩]) <|
    .ret)
   (.skip)) <|
 .seq
 (.region [⟨(some 27), .call (.f 7) [], none⟩,
    ⟨(some 3), .mov (.t 27), none⟩]) <|
 .seq
 (.region [⟨(some 4), .mov (.c (.sl none 0 (some 0))), none⟩]) <|
 .seq
 (.region [⟨(some 5), .mov (.c (.int .i64 0)), none⟩,
    ⟨(some 6), .mov (.c (.int .i64 0)), none⟩]) <|
 .seq
 (.seq
  (.region [⟨(some 28), .mov (.t 0), none⟩,
     ⟨(some 29), .len .sl (.t 28), none⟩,
     ⟨(some 30), .mov (.c (.int .i64 0)), none⟩]) <|
  .block 0 <|
  .loop [3, 4, 5, 6, 28, 29, 30] <|
   .seq
   (.region [⟨(some 31), .bin .lss (.t 30) (.t 29), none⟩]) <|
   .seq
   (.cond (.t 31)
     (.skip)
     (.exit 0)) <|
   .seq
   (.block 1 <|
    .seq
    (.region [⟨(some 32), .iaddr 3 (.t 28) (.t 30), none⟩,
       ⟨(some 33), .load true 3 (.t 32), none⟩,
       ⟨(some 8), .alloc [(.int .u8 0), (.int .i64 0), (.int .i64 0)], none⟩,
       ⟨none, .store 3 (.t 8) (.t 33), none⟩]) <|
    .seq
    (.seq
     (.region [⟨(some 34), .faddr 0 (.t 8), none⟩,
        ⟨(some 35), .load false 1 (.t 34), none⟩,
        ⟨(some 36), .bin .rem (.t 35) (.c (.int .u8 3)), none⟩]) <|
     .block 2 <|
     .seq
     (.region [⟨(some 38), .bin .eql (.t 36) (.c (.int .u8 0)), none⟩,
        ⟨(some 37), .mov (.t 38), none⟩]) <|
     .cond (.t 37)
      (.seq
       (.region [⟨(some 9), .mov (.c (.int .i64 0)), none⟩]) <|
       .seq
       (.block 3 <|
        .seq
        (.region [⟨(some 50), .faddr 2 (.t 8), none⟩,
           ⟨(some 51), .load false 1 (.t 50), none⟩,
           ⟨(some 52), .bin .lss (.t 51) (.c (.int .i64 1)), none⟩,
           ⟨(some 53), .mov (.t 52), none⟩,
           ⟨(some 54), .faddr 2 (.t 8), (some (53, false))⟩,
           ⟨(some 55), .load false 1 (.t 54), (some (53, false))⟩,
           ⟨(some 56), .bin .gtr (.t 55) (.c (.int .i64 65535)), (some (53, false))⟩,
           ⟨(some 57), .pick (.t 53) (.c (.bool true)) (.t 56), none⟩,
           ⟨(some 49), .mov (.t 57), none⟩]) <|
        .cond (.t 49)
         (.region [⟨(some 9), .mov (.c (.int .i64 6)), none⟩])
         (.seq
          (.region [⟨(some 59), .mov (.t 4), none⟩,
             ⟨(some 60), .faddr 1 (.t 8), none⟩,
             ⟨(some 61), .load false 1 (.t 60), none⟩,
             ⟨(some 62), .call (.f 12) [(.t 59), (.t 61)], none⟩,
             ⟨(some 63), .bin .geq (.t 62) (.c (.int .i64 0)), none⟩,
             ⟨(some 58), .mov (.t 63), none⟩]) <|
          .cond (.t 58)
           (.region [⟨(some 9), .mov (.c (.int .i64 9)), none⟩])
           (.region [⟨(some 39), .mov (.t 4), none⟩,
              ⟨(some 40), .faddr 1 (.t 8), none⟩,
              ⟨(some 41), .load false 1 (.t 40), none⟩,
              ⟨(some 42), .mov (.t 5), none⟩,
              ⟨(some 43), .faddr 2 (.t 8), none⟩,
              ⟨(some 44), .load false 1 (.t 43), none⟩,
              ⟨(some 45), .bin .add (.t 42) (.t 44), none⟩,
              ⟨(some 46), .build [(.int .i64 0), (.int .i64 0)] [(0, 1, (.t 41)), (1, 1, (.t 45))], none⟩,
              ⟨(some 47), .buildSl 2 [(.int .i64 0), (.int .i64 0)] [(0, 2, (.t 46))], none⟩,
              ⟨(some 48), .app 2 16 (.t 39) (.t 47), none⟩,
              ⟨(some 4), .mov (.t 48), none⟩]))) <|
       .seq
       (.region [⟨(some 64), .mov (.t 3), none⟩,
          ⟨(some 65), .faddr 1 (.t 8), none⟩,
          ⟨(some 66), .load false 1 (.t 65), none⟩,
          ⟨(some 67), .faddr 2 (.t 8), none⟩,
          ⟨(some 68), .load false 1 (.t 67), none⟩,
          ⟨(some 69), .call (.f 8) [(.t 64), (.t 66), (.t 68)], none⟩,
          ⟨(some 70), .mov (.t 9), none⟩,
          ⟨(some 71), .bin .neq (.t 69) (.t 70), none⟩]) <|
       .cond (.t 71)
        (.seq
         (.region [⟨(some 2), .mov (.c (.bool false)), none⟩]) <|
         .ret)
        (.skip))
      (.seq
       (.region [⟨(some 73), .bin .eql (.t 36) (.c (.int .u8 1)), none⟩,
          ⟨(some 72), .mov (.t 73), none⟩]) <|
       .cond (.t 72)
        (.seq
         (.region [⟨(some 74), .mov (.t 4), none⟩,
            ⟨(some 75), .faddr 1 (.t 8), none⟩,
            ⟨(some 76), .load false 1 (.t 75), none⟩,
            ⟨(some 77), .call (.f 12) [(.t 74), (.t 76)], none⟩,
            ⟨(some 10), .mov (.t 77), none⟩]) <|
         .seq
         (.seq
          (.region [⟨(some 78), .mov (.t 3), none⟩,
             ⟨(some 79), .faddr 1 (.t 8), none⟩,
             ⟨(some 80), .load false 1 (.t 79), none⟩,
             ⟨(some 81), .call (.f 11) [(.t 78), (.t 80)], none⟩,
             ⟨(some 82), .mov (.t 10), none⟩,
             ⟨(some 83), .bin .geq (.t 82) (.c (.int .i64 0)), none⟩,
             ⟨(some 84), .eq true false [.bool] (.t 81) (.t 83), none⟩]) <|
          .cond (.t 84)
           (.seq
            (.region [⟨(some 2), .mov (.c (.bool false)), none⟩]) <|
            .ret)
           (.skip)) <|
         .seq
         (.region [⟨(some 85), .mov (.t 10), none⟩,
            ⟨(some 86), .bin .geq (.t 85) (.c (.int .i64 0)), none⟩]) <|
         .cond (.t 86)
          (.draw false [3, 4, 5, 6, 28, 29, 30] (
             .op ⟨(some 88), .mov (.t 4), none⟩ <|
             .op ⟨(some 89), .mov (.t 10), none⟩ <|
             .op ⟨(some 90), .slice 2 (.t 88) none (some (.t 89)) none, none⟩ <|
             .op ⟨(some 92), .mov (.t 4), none⟩ <|
             .op ⟨(some 93), .mov (.t 10), none⟩ <|
             .op ⟨(some 94), .bin .add (.t 93) (.c (.int .i64 1)), none⟩ <|
             .op ⟨(some 95), .slice 2 (.t 92) (some (.t 94)) none none, none⟩ <|
             .op ⟨(some 87), .buildSl 2 [] [], none⟩ <|
             .op ⟨(some 91), .app 2 16 (.t 87) (.t 90), none⟩ <|
             .op ⟨(some 96), .app 2 16 (.t 91) (.t 95), none⟩ <|
             .op ⟨(some 4), .mov (.t 96), none⟩ <|
             .done))
          (.skip))
        (.seq
         (.region [⟨(some 98), .bin .eql (.t 36) (.c (.int .u8 2)), none⟩,
            ⟨(some 97), .mov (.t 98), none⟩]) <|
         .cond (.t 97)
          (.seq
           (.region [⟨(some 99), .faddr 2 (.t 8), none⟩,
              ⟨(some 100), .load false 1 (.t 99), none⟩,
              ⟨(some 101), .max [(.t 100), (.c (.int .i64 0))], none⟩,
              ⟨(some 102), .min [(.t 101), (.c (.int .i64 65535))], none⟩,
              ⟨(some 11), .mov (.t 102), none⟩]) <|
           .seq
           (.seq
            (.region [⟨(some 103), .mov (.t 6), none⟩,
               ⟨(some 104), .mov (.t 11), none⟩,
               ⟨(some 105), .bin .add (.t 103) (.t 104), none⟩,
               ⟨(some 6), .mov (.t 105), none⟩]) <|
            .seq
            (.region [⟨(some 106), .mov (.t 6), none⟩,
               ⟨(some 107), .bin .gtr (.t 106) (.c (.int .i64 300000)), none⟩]) <|
            .cond (.t 107)
             (.seq
              (.region [⟨(some 2), .mov (.c (.bool true)), none⟩]) <|
              .ret)
             (.skip)) <|
           .seq
           (.region [⟨(some 108), .mov (.t 5), none⟩,
              ⟨(some 109), .mov (.t 11), none⟩,
              ⟨(some 110), .bin .add (.t 108) (.t 109), none⟩,
              ⟨(some 5), .mov (.t 110), none⟩]) <|
           .seq
           (.region [⟨(some 12), .mov (.c (.sl none 0 (some 0))), none⟩]) <|
           .seq
           (.region [⟨(some 112), .mov (.t 4), none⟩,
              ⟨(some 113), .mov (.t 5), none⟩,
              ⟨(some 114), .call (.f 13) [(.t 112), (.t 113)], none⟩,
              ⟨(some 111), .mov (.t 114), none⟩,
              ⟨(some 115), .extract (.t 111) 0, none⟩,
              ⟨(some 116), .extract (.t 111) 1, none⟩,
              ⟨(some 12), .mov (.t 115), none⟩,
              ⟨(some 4), .mov (.t 116), none⟩]) <|
           .seq
           (.region [⟨(some 117), .mov (.t 3), none⟩,
              ⟨(some 118), .faddr 2 (.t 8), none⟩,
              ⟨(some 119), .load false 1 (.t 118), none⟩,
              ⟨(some 120), .call (.f 9) [(.t 117), (.t 119)], none⟩,
              ⟨(some 13), .mov (.t 120), none⟩]) <|
           .seq
           (.seq
            (.region [⟨(some 121), .mov (.t 13), none⟩,
               ⟨(some 122), .len .sl (.t 121), none⟩,
               ⟨(some 123), .mov (.t 12), none⟩,
               ⟨(some 124), .len .sl (.t 123), none⟩,
               ⟨(some 125), .bin .neq (.t 122) (.t 124), none⟩]) <|
            .cond (.t 125)
             (.seq
              (.region [⟨(some 2), .mov (.c (.bool false)), none⟩]) <|
              .ret)
             (.skip)) <|
           .seq
           (.region [⟨(some 126), .mov (.t 13), none⟩,
              ⟨(some 127), .len .sl (.t 126), none⟩,
              ⟨(some 128), .mov (.c (.int .i64 0)), none⟩]) <|
           .block 4 <|
           .loop [3, 4, 5, 6, 12, 13, 28, 29, 30, 127, 128] <|
            .seq
            (.region [⟨(some 129), .bin .lss (.t 128) (.t 127), none⟩]) <|
            .seq
            (.cond (.t 129)
              (.skip)
              (.exit 4)) <|
            .seq
            (.block 5 <|
             .seq
             (.region [⟨(some 130), .mov (.t 128), none⟩,
                ⟨(some 14), .mov (.t 130), none⟩]) <|
             .seq
             (.draw false [3, 4, 5, 6, 12, 13, 28, 29, 30, 127, 128, 139] (
                .op ⟨(some 131), .mov (.t 13), none⟩ <|
                .op ⟨(some 132), .mov (.t 14), none⟩ <|
                .op ⟨(some 133), .iaddr 1 (.t 131) (.t 132), none⟩ <|
                .op ⟨(some 134), .load false 1 (.t 133), none⟩ <|
                .op ⟨(some 135), .mov (.t 12), none⟩ <|
                .op ⟨(some 136), .mov (.t 14), none⟩ <|
                .op ⟨(some 137), .iaddr 1 (.t 135) (.t 136), none⟩ <|
                .op ⟨(some 138), .load false 1 (.t 137), none⟩ <|
                .op ⟨(some 139), .bin .neq (.t 134) (.t 138), none⟩ <|
                .done)) <|
             .cond (.t 139)
              (.seq
               (.region [⟨(some 2), .mov (.c (.bool false)), none⟩]) <|
               .ret)
              (.skip)) <|
            .region [⟨(some 140), .bin .add (.t 128) (.c (.int .i64 1)), none⟩,
              ⟨(some 128), .mov (.t 140), none⟩])
          (.skip)))) <|
    .seq
    (.region [⟨(some 15), .mov (.c (.int .i64 1048576)), none⟩]) <|
    .seq
    (.seq
     (.region [⟨(some 141), .mov (.t 4), none⟩,
        ⟨(some 142), .len .sl (.t 141), none⟩,
        ⟨(some 143), .mov (.c (.int .i64 0)), none⟩]) <|
     .block 6 <|
     .loop [3, 4, 5, 6, 15, 28, 29, 30, 141, 142, 143] <|
      .seq
      (.region [⟨(some 144), .bin .lss (.t 143) (.t 142), none⟩]) <|
      .seq
      (.cond (.t 144)
        (.skip)
        (.exit 6)) <|
      .seq
      (.block 7 <|
       .seq
       (.region [⟨(some 145), .iaddr 2 (.t 141) (.t 143), none⟩,
          ⟨(some 146), .load true 2 (.t 145), none⟩,
          ⟨(some 17), .alloc [(.int .i64 0), (.int .i64 0)], none⟩,
          ⟨none, .store 2 (.t 17) (.t 146), none⟩]) <|
       .seq
       (.region [⟨(some 147), .mov (.t 15), none⟩,
          ⟨(some 148), .faddr 1 (.t 17), none⟩,
          ⟨(some 149), .load false 1 (.t 148), none⟩,
          ⟨(some 150), .mov (.t 5), none⟩,
          ⟨(some 151), .bin .sub (.t 149) (.t 150), none⟩,
          ⟨(some 152), .min [(.t 147), (.t 151)], none⟩,
          ⟨(some 15), .mov (.t 152), none⟩]) <|
       .seq
       (.region [⟨(some 154), .mov (.t 3), none⟩,
          ⟨(some 155), .faddr 0 (.t 17), none⟩,
          ⟨(some 156), .load false 1 (.t 155), none⟩,
          ⟨(some 157), .call (.f 14) [(.t 154), (.t 156)], none⟩,
          ⟨(some 153), .mov (.t 157), none⟩,
          ⟨(some 158), .extract (.t 153) 0, none⟩,
          ⟨(some 159), .extract (.t 153) 1, none⟩,
          ⟨(some 18), .mov (.t 158), none⟩,
          ⟨(some 19), .mov (.t 159), none⟩]) <|
       .seq
       (.region [⟨(some 160), .mov (.t 19), none⟩,
          ⟨(some 161), .un .not (.t 160), none⟩,
          ⟨(some 162), .mov (.t 161), none⟩,
          ⟨(some 163), .mov (.t 18), (some (162, false))⟩,
          ⟨(some 164), .faddr 1 (.t 17), (some (162, false))⟩,
          ⟨(some 165), .load false 1 (.t 164), (some (162, false))⟩,
          ⟨(some 166), .mov (.t 5), (some (162, false))⟩,
          ⟨(some 167), .bin .sub (.t 165) (.t 166), (some (162, false))⟩,
          ⟨(some 168), .bin .neq (.t 163) (.t 167), (some (162, false))⟩,
          ⟨(some 169), .pick (.t 162) (.c (.bool true)) (.t 168), none⟩]) <|
       .cond (.t 169)
        (.seq
         (.region [⟨(some 2), .mov (.c (.bool false)), none⟩]) <|
         .ret)
        (.skip)) <|
      .region [⟨(some 170), .bin .add (.t 143) (.c (.int .i64 1)), none⟩,
        ⟨(some 143), .mov (.t 170), none⟩]) <|
    .seq
    (.region [⟨(some 172), .mov (.t 3), none⟩,
       ⟨(some 173), .call (.f 15) [(.t 172)], none⟩,
       ⟨(some 171), .mov (.t 173), none⟩,
       ⟨(some 174), .extract (.t 171) 0, none⟩,
       ⟨(some 175), .extract (.t 171) 1, none⟩,
       ⟨(some 20), .mov (.t 174), none⟩,
       ⟨(some 21), .mov (.t 175), none⟩]) <|
    .seq
    (.region [⟨(some 176), .mov (.t 21), none⟩,
       ⟨(some 177), .mov (.t 4), none⟩,
       ⟨(some 178), .len .sl (.t 177), none⟩,
       ⟨(some 179), .bin .gtr (.t 178) (.c (.int .i64 0)), none⟩,
       ⟨(some 180), .eq true false [.bool] (.t 176) (.t 179), none⟩,
       ⟨(some 181), .mov (.t 180), none⟩,
       ⟨(some 182), .mov (.t 21), (some (181, false))⟩,
       ⟨(some 183), .mov (.t 182), (some (181, false))⟩,
       ⟨(some 184), .mov (.t 20), (some (183, true))⟩,
       ⟨(some 185), .mov (.t 15), (some (183, true))⟩,
       ⟨(some 186), .bin .neq (.t 184) (.t 185), (some (183, true))⟩,
       ⟨(some 187), .pick (.t 183) (.t 186) (.c (.bool false)), (some (181, false))⟩,
       ⟨(some 188), .pick (.t 181) (.c (.bool true)) (.t 187), none⟩,
       ⟨(some 189), .mov (.t 188), none⟩,
       ⟨(some 190), .mov (.t 3), (some (189, false))⟩,
       ⟨(some 191), .call (.f 10) [(.t 190)], (some (189, false))⟩,
       ⟨(some 192), .mov (.t 4), (some (189, false))⟩,
       ⟨(some 193), .len .sl (.t 192), (some (189, false))⟩,
       ⟨(some 194), .bin .neq (.t 191) (.t 193), (some (189, false))⟩,
       ⟨(some 195), .pick (.t 189) (.c (.bool true)) (.t 194), none⟩,
       ⟨(some 196), .mov (.t 195), none⟩,
       ⟨(some 197), .mov (.t 3), (some (196, false))⟩,
       ⟨(some 198), .call (.f 16) [(.t 197)], (some (196, false))⟩,
       ⟨(some 199), .mov (.t 5), (some (196, false))⟩,
       ⟨(some 200), .bin .neq (.t 198) (.t 199), (some (196, false))⟩,
       ⟨(some 201), .pick (.t 196) (.c (.bool true)) (.t 200), none⟩]) <|
    .cond (.t 201)
     (.seq
      (.region [⟨(some 2), .mov (.c (.bool false)), none⟩]) <|
      .ret)
     (.skip)) <|
   .region [⟨(some 202), .bin .add (.t 30) (.c (.int .i64 1)), none⟩,
     ⟨(some 30), .mov (.t 202), none⟩]) <|
 .seq
 (.region [⟨(some 2), .mov (.c (.bool true)), none⟩]) <|
 .ret, [.slot 2]⟩
theorem c5 : Code1 Try.prog 5 203 b5 := Code1.mk' Try.func5 (by kernel_rfl) (by kernel_rfl) Try.ntmps5

/-- fusee/fuseelaw10.fixed -/
def b6 : IFn := ⟨
 .seq
 (.region [⟨(some 0), .mov (.c (.bool false)), none⟩]) <|
 .seq
 (.region [⟨(some 9), .call (.f 7) [], none⟩,
    ⟨(some 1), .mov (.t 9), none⟩]) <|
 .seq
 (.region [⟨(some 10), .mov (.t 1), none⟩,
    ⟨(some 11), .call (.f 8) [(.t 10), (.c (.int .i64 7)), (.c (.int .i64 3))], none⟩,
    ⟨(some 12), .mov (.t 1), none⟩,
    ⟨(some 13), .call (.f 8) [(.t 12), (.c (.int .i64 8)), (.c (.int .i64 20))], none⟩,
    ⟨(some 2), .mov (.t 11), none⟩,
    ⟨(some 3), .mov (.t 13), none⟩]) <|
 .seq
 (.region [⟨(some 14), .mov (.t 1), none⟩,
    ⟨(some 15), .call (.f 9) [(.t 14), (.c (.int .i64 3))], none⟩,
    ⟨(some 4), .mov (.t 15), none⟩]) <|
 .seq
 (.region [⟨(some 17), .mov (.t 1), none⟩,
    ⟨(some 18), .call (.f 14) [(.t 17), (.c (.int .i64 8))], none⟩,
    ⟨(some 16), .mov (.t 18), none⟩,
    ⟨(some 19), .extract (.t 16) 0, none⟩,
    ⟨(some 20), .extract (.t 16) 1, none⟩,
    ⟨(some 5), .mov (.t 19), none⟩,
    ⟨(some 6), .mov (.t 20), none⟩]) <|
 .seq
 (.region [⟨(some 21), .mov (.t 1), none⟩,
    ⟨(some 22), .call (.f 9) [(.t 21), (.c (.int .i64 17))], none⟩,
    ⟨(some 7), .mov (.t 22), none⟩]) <|
 .seq
 (.region [⟨(some 8), .mov (.c (.ptr none)), none⟩]) <|
 .seq
 (.region [⟨(some 23), .mov (.t 2), none⟩,
    ⟨(some 24), .bin .eql (.t 23) (.c (.int .i64 0)), none⟩,
    ⟨(some 25), .mov (.t 24), none⟩,
    ⟨(some 26), .mov (.t 3), (some (25, true))⟩,
    ⟨(some 27), .bin .eql (.t 26) (.c (.int .i64 0)), (some (25, true))⟩,
    ⟨(some 28), .pick (.t 25) (.t 27) (.c (.bool false)), none⟩,
    ⟨(some 29), .mov (.t 28), none⟩,
    ⟨(some 30), .mov (.t 4), (some (29, true))⟩,
    ⟨(some 31), .len .sl (.t 30), (some (29, true))⟩,
    ⟨(some 32), .bin .eql (.t 31) (.c (.int .i64 1)), (some (29, true))⟩,
    ⟨(some 33), .pick (.t 29) (.t 32) (.c (.bool false)), none⟩,
    ⟨(some 34), .mov (.t 33), none⟩,
    ⟨(some 35), .mov (.t 4), (some (34, true))⟩,
    ⟨(some 36), .iaddr 1 (.t 35) (.c (.int .i64 0)), (some (34, true))⟩,
    ⟨(some 37), .load false 1 (.t 36), (some (34, true))⟩,
    ⟨(some 38), .bin .eql (.t 37) (.c (.int .i64 7)), (some (34, true))⟩,
    ⟨(some 39), .pick (.t 34) (.t 38) (.c (.bool false)), none⟩,
    ⟨(some 40), .mov (.t 39), none⟩,
    ⟨(some 41), .mov (.t 6), (some (40, true))⟩,
    ⟨(some 42), .pick (.t 40) (.t 41) (.c (.bool false)), none⟩,
    ⟨(some 43), .mov (.t 42), none⟩,
    ⟨(some 44), .mov (.t 5), (some (43, true))⟩,
    ⟨(some 45), .bin .eql (.t 44) (.c (.int .i64 17)), (some (43, true))⟩,
    ⟨(some 46), .pick (.t 43) (.t 45) (.c (.bool false)), none⟩,
    ⟨(some 47), .mov (.t 46), none⟩,
    ⟨(some 48), .mov (.t 7), (some (47, true))⟩,
    ⟨(some 49), .len .sl (.t 48), (some (47, true))⟩,
    ⟨(some 50), .bin .eql (.t 49) (.c (.int .i64 1)), (some (47, true))⟩,
    ⟨(some 51), .pick (.t 47) (.t 50) (.c (.bool false)), none⟩,
    ⟨(some 52), .mov (.t 51), none⟩,
    ⟨(some 53), .mov (.t 7), (some (52, true))⟩,
    ⟨(some 54), .iaddr 1 (.t 53) (.c (.int .i64 0)), (some (52, true))⟩,
    ⟨(some 55), .load false 1 (.t 54), (some (52, true))⟩,
    ⟨(some 56), .bin .eql (.t 55) (.c (.int .i64 8)), (some (52, true))⟩,
    ⟨(some 57), .pick (.t 52) (.t 56) (.c (.bool false)), none⟩,
    ⟨(some 58), .mov (.t 57), none⟩,
    ⟨(some 59), .mov (.t 1), (some (58, true))⟩,
    ⟨(some 60), .call (.f 10) [(.t 59)], (some (58, true))⟩,
    ⟨(some 61), .bin .eql (.t 60) (.c (.int .i64 0)), (some (58, true))⟩,
    ⟨(some 62), .pick (.t 58) (.t 61) (.c (.bool false)), none⟩,
    ⟨(some 63), .mov (.t 62), none⟩,
    ⟨(some 64), .mov (.t 1), (some (63, true))⟩,
    ⟨(some 65), .call (.f 16) [(.t 64)], (some (63, true))⟩,
    ⟨(some 66), .bin .eql (.t 65) (.c (.int .i64 20)), (some (63, true))⟩,
    ⟨(some 67), .pick (.t 63) (.t 66) (.c (.bool false)), none⟩,
    ⟨(some 68), .mov (.t 67), none⟩,
    ⟨(some 69), .mov (.t 1), (some (68, true))⟩,
    ⟨(some 70), .call (.f 8) [(.t 69), (.c (.int .i64 1)), (.c (.int .i64 0))], (some (68, true))⟩,
    ⟨(some 71), .bin .eql (.t 70) (.c (.int .i64 6)), (some (68, true))⟩,
    ⟨(some 72), .pick (.t 68) (.t 71) (.c (.bool false)), none⟩,
    ⟨(some 73), .mov (.t 72), none⟩,
    ⟨(some 74), .mov (.t 8), (some (73, true))⟩,
    ⟨(some 75), .call (.f 8) [(.t 74), (.c (.int .i64 1)), (.c (.int .i64 1))], (some (73, true))⟩,
    ⟨(some 76), .bin .eql (.t 75) (.c (.int .i64 1)), (some (73, true))⟩,
    ⟨(some 77), .pick (.t 73) (.t 76) (.c (.bool false)), none⟩,
    ⟨(some 78), .mov (.t 77), none⟩,
    ⟨(some 79), .mov (.t 8), (some (78, true))⟩,
    ⟨(some 80), .call (.f 11) [(.t 79), (.c (.int .i64 1))], (some (78, true))⟩,
    ⟨(some 81), .un .not (.t 80), (some (78, true))⟩,
    ⟨(some 82), .pick (.t 78) (.t 81) (.c (.bool false)), none⟩,
    ⟨(some 83), .mov (.t 82), none⟩,
    ⟨(some 84), .mov (.t 8), (some (83, true))⟩,
    ⟨(some 85), .call (.f 16) [(.t 84)], (some (83, true))⟩,
    ⟨(some 86), .mov (.t 8), (some (83, true))⟩,
    ⟨(some 87), .call (.f 10) [(.t 86)], (some (83, true))⟩,
    ⟨(some 88), .bin .add (.t 85) (.t 87), (some (83, true))⟩,
    ⟨(some 89), .bin .eql (.t 88) (.c (.int .i64 0)), (some (83, true))⟩,
    ⟨(some 90), .pick (.t 83) (.t 89) (.c (.bool false)), none⟩,
    ⟨(some 0), .mov (.t 90), none⟩]) <|
 .ret, [.slot 0]⟩
theorem c6 : Code1 Try.prog 6 91 b6 := Code1.mk' Try.func6 (by kernel_rfl) (by kernel_rfl) Try.ntmps6

/-- fusee/wheel.New -/
def b7 : IFn := ⟨
 .seq
 (.region [⟨(some 0), .mov (.c (.ptr none)), none⟩]) <|
 .seq
 (.region [⟨(some 1), .mkMap, none⟩,
    ⟨(some 2), .build [(.int .i64 0), (.int .i64 0), (.sl none 0 (some 0)), (.sl none 0 (some 0)), (.sl none 0 (some 0)), (.sl none 0 (some 0)), (.sl none 0 (some 0)), (.sl none 0 (some 0)), (.sl none 0 (some 0)), (.sl none 0 (some 0)), (.sl none 0 (some 0)), (.sl none 0 (some 0)), (.sl none 0 (some 0)), (.sl none 0 (some 0)), (.sl none 0 (some 0)), (.sl none 0 (some 0)), (.sl none 0 (some 0)), (.sl none 0 (some 0)), (.sl none 0 (some 0)), (.sl none 0 (some 0)), (.sl none 0 (some 0)), (.sl none 0 (some 0)), (.sl none 0 (some 0)), (.sl none 0 (some 0)), (.sl none 0 (some 0)), (.sl none 0 (some 0)), (.sl none 0 (some 0)), (.sl none 0 (some 0)), (.sl none 0 (some 0)), (.sl none 0 (some 0)), (.sl none 0 (some 0)), (.sl none 0 (some 0)), (.sl none 0 (some 0)), (.sl none 0 (some 0)), (.sl none 0 (some 0)), (.sl none 0 (some 0)), (.sl none 0 (some 0)), (.sl none 0 (some 0)), (.sl none 0 (some 0)), (.sl none 0 (some 0)), (.sl none 0 (some 0)), (.sl none 0 (some 0)), (.sl none 0 (some 0)), (.sl none 0 (some 0)), (.sl none 0 (some 0)), (.sl none 0 (some 0)), (.sl none 0 (some 0)), (.sl none 0 (some 0)), (.sl none 0 (some 0)), (.sl none 0 (some 0)), (.sl none 0 (some 0)), (.sl none 0 (some 0)), (.sl none 0 (some 0)), (.sl none 0 (some 0)), (.sl none 0 (some 0)), (.sl none 0 (some 0)), (.sl none 0 (some 0)), (.sl none 0 (some 0)), (.sl none 0 (some 0)), (.sl none 0 (some 0)), (.sl none 0 (some 0)), (.sl none 0 (some 0)), (.sl none 0 (some 0)), (.sl none 0 (some 0)), (.sl none 0 (some 0)), (.sl none 0 (some 0)), (.map none)] [(66, 1, (.t 1))], none⟩,
    ⟨(some 3), .box (.t 2), none⟩,
    ⟨(some 0), .mov (.t 3), none⟩]) <|
 .ret, [.slot 0]⟩
theorem c7 : Code1 Try.prog 7 4 b7 := Code1.mk' Try.func7 (by kernel_rfl) (by kernel_rfl) Try.ntmps7

/-- fusee/wheel.Wheel.Put -/
def b8 : IFn := ⟨
 .seq
 (.region [⟨(some 6), .mov (.c (.int .i64 0)), none⟩]) <|
 .seq
 (.block 0 <|
  .seq
  (.region [⟨(some 10), .mov (.t 0), none⟩,
     ⟨(some 11), .eq false false [.ptr] (.t 10) (.c (.ptr none)), none⟩,
     ⟨(some 9), .mov (.t 11), none⟩]) <|
  .cond (.t 9)
   (.seq
    (.region [⟨(some 6), .mov (.c (.int .i64 1)), none⟩]) <|
    .ret)
   (.seq
    (.region [⟨(some 13), .mov (.t 2), none⟩,
       ⟨(some 14), .bin .lss (.t 13) (.c (.int .i64 1)), none⟩,
       ⟨(some 15), .mov (.t 14), none⟩,
       ⟨(some 16), .mov (.t 2), (some (15, false))⟩,
       ⟨(some 17), .bin .gtr (.t 16) (.c (.int .i64 65535)), (some (15, false))⟩,
       ⟨(some 18), .pick (.t 15) (.c (.bool true)) (.t 17), none⟩,
       ⟨(some 12), .mov (.t 18), none⟩]) <|
    .cond (.t 12)
     (.seq
      (.region [⟨(some 6), .mov (.c (.int .i64 6)), none⟩]) <|
      .ret)
     (.skip))) <|
 .seq
 (.seq
  (.region [⟨(some 20), .mov (.t 0), none⟩,
     ⟨(some 21), .nilck (.t 20), none⟩,
     ⟨(some 22), .faddr 66 (.t 21), none⟩,
     ⟨(some 23), .load false 1 (.t 22), none⟩,
     ⟨(some 24), .mov (.t 1), none⟩,
     ⟨(some 25), .lookup (.int .i64 0) (.t 23) (.t 24) true, none⟩,
     ⟨(some 19), .mov (.t 25), none⟩,
     ⟨(some 26), .extract (.t 19) 0, none⟩,
     ⟨(some 27), .extract (.t 19) 1, none⟩,
     ⟨(some 7), .mov (.t 26), none⟩,
     ⟨(some 8), .mov (.t 27), none⟩]) <|
  .seq
  (.region [⟨(some 28), .mov (.t 8), none⟩]) <|
  .cond (.t 28)
   (.seq
    (.region [⟨(some 6), .mov (.c (.int .i64 9)), none⟩]) <|
    .ret)
   (.skip)) <|
 .seq
 (.seq
  (.region [⟨(some 29), .mov (.t 0), none⟩,
     ⟨(some 30), .nilck (.t 29), none⟩,
     ⟨(some 31), .faddr 66 (.t 30), none⟩,
     ⟨(some 32), .load false 1 (.t 31), none⟩,
     ⟨(some 33), .len .map (.t 32), none⟩,
     ⟨(some 34), .bin .geq (.t 33) (.c (.int .i64 1024)), none⟩]) <|
  .cond (.t 34)
   (.seq
    (.region [⟨(some 6), .mov (.c (.int .i64 3)), none⟩]) <|
    .ret)
   (.skip)) <|
 .seq
 (.region [⟨(some 35), .mov (.t 0), none⟩,
    ⟨(some 36), .nilck (.t 35), none⟩,
    ⟨(some 37), .faddr 1 (.t 36), none⟩,
    ⟨(some 38), .load false 1 (.t 37), none⟩,
    ⟨(some 39), .bin .add (.t 38) (.c (.int .i64 1)), none⟩,
    ⟨(some 40), .nilck (.t 35), none⟩,
    ⟨(some 41), .faddr 1 (.t 40), none⟩,
    ⟨none, .store 1 (.t 41) (.t 39), none⟩]) <|
 .seq
 (.draw false [0, 1, 2] (
    .op ⟨(some 42), .mov (.t 0), none⟩ <|
    .op ⟨(some 43), .nilck (.t 42), none⟩ <|
    .op ⟨(some 44), .faddr 66 (.t 43), none⟩ <|
    .op ⟨(some 45), .load false 1 (.t 44), none⟩ <|
    .op ⟨(some 46), .mov (.t 1), none⟩ <|
    .op ⟨(some 47), .mov (.t 0), none⟩ <|
    .op ⟨(some 48), .nilck (.t 47), none⟩ <|
    .op ⟨(some 49), .faddr 0 (.t 48), none⟩ <|
    .op ⟨(some 50), .load false 1 (.t 49), none⟩ <|
    .op ⟨(some 51), .mov (.t 2), none⟩ <|
    .op ⟨(some 52), .bin .add (.t 50) (.t 51), none⟩ <|
    .op ⟨none, .mapUpd (.t 45) (.t 46) (.t 52), none⟩ <|
    .done)) <|
 .seq
 (.draw false [] (
    .op ⟨(some 53), .mov (.t 0), none⟩ <|
    .op ⟨(some 54), .mov (.t 1), none⟩ <|
    .op ⟨(some 55), .mov (.t 0), none⟩ <|
    .op ⟨(some 56), .nilck (.t 55), none⟩ <|
    .op ⟨(some 57), .faddr 0 (.t 56), none⟩ <|
    .op ⟨(some 58), .load false 1 (.t 57), none⟩ <|
    .op ⟨(some 59), .mov (.t 2), none⟩ <|
    .op ⟨(some 60), .bin .add (.t 58) (.t 59), none⟩ <|
    .op ⟨(some 61), .mov (.t 0), none⟩ <|
    .op ⟨(some 62), .nilck (.t 61), none⟩ <|
    .op ⟨(some 63), .faddr 1 (.t 62), none⟩ <|
    .op ⟨(some 64), .load false 1 (.t 63), none⟩ <|
    .op ⟨(some 65), .build [(.int .i64 0), (.int .i64 0), (.int .i64 0)] [(0, 1, (.t 54)), (1, 1, (.t 60)), (2, 1, (.t 64))], none⟩ <|
    .op ⟨(some 66), .call (.f 17) [(.t 53), (.t 65)], none⟩ <|
    .done)) <|
 .seq
 (.region [⟨(some 6), .mov (.c (.int .i64 0)), none⟩]) <|
 .ret, [.slot 6]⟩
theorem c8 : Code1 Try.prog 8 67 b8 := Code1.mk' Try.func8 (by kernel_rfl) (by kernel_rfl) Try.ntmps8

/-- fusee/wheel.Wheel.Advance -/
def b9 : IFn := ⟨
 .seq
 (.region [⟨(some 4), .mov (.c (.sl none 0 (some 0))), none⟩]) <|
 .seq
 (.region [⟨(some 5), .mov (.c (.sl none 0 (some 0))), none⟩]) <|
 .seq
 (.seq
  (.region [⟨(some 6), .mov (.t 0), none⟩,
     ⟨(some 7), .eq false false [.ptr] (.t 6) (.c (.ptr none)), none⟩]) <|
  .cond (.t 7)
   (.seq
    (.region [⟨(some 4), .mov (.c (.sl none 0 (some 0))), none⟩]) <|
    .ret)
   (.skip)) <|
 .seq
 (.seq
  (.region [⟨(some 8), .mov (.t 1), none⟩,
     ⟨(some 9), .max [(.t 8), (.c (.int .i64 0))], none⟩,
     ⟨(some 10), .min [(.t 9), (.c (.int .i64 65535))], none⟩,
     ⟨(some 11), .mov (.c (.int .i64 0)), none⟩]) <|
  .block 0 <|
  .loop [0, 5, 10, 11] <|
   .seq
   (.region [⟨(some 12), .bin .lss (.t 11) (.t 10), none⟩]) <|
   .seq
   (.cond (.t 12)
     (.skip)
     (.exit 0)) <|
   .seq
   (.block 1 <|
    .region [⟨(some 13), .mov (.t 5), none⟩,
      ⟨(some 14), .mov (.t 0), none⟩,
      ⟨(some 15), .call (.f 18) [(.t 14)], none⟩,
      ⟨(some 16), .app 1 8 (.t 13) (.t 15), none⟩,
      ⟨(some 5), .mov (.t 16), none⟩]) <|
   .region [⟨(some 17), .bin .add (.t 11) (.c (.int .i64 1)), none⟩,
     ⟨(some 11), .mov (.t 17), none⟩]) <|
 .seq
 (.region [⟨(some 18), .mov (.t 5), none⟩,
    ⟨(some 4), .mov (.t 18), none⟩]) <|
 .ret, [.slot 4]⟩
theorem c9 : Code1 Try.prog 9 19 b9 := Code1.mk' Try.func9 (by kernel_rfl) (by kernel_rfl) Try.ntmps9

/-- fusee/wheel.Wheel.Len -/
def b10 : IFn := ⟨
 .seq
 (.region [⟨(some 2), .mov (.c (.int .i64 0)), none⟩]) <|
 .seq
 (.seq
  (.region [⟨(some 3), .mov (.t 0), none⟩,
     ⟨(some 4), .eq false false [.ptr] (.t 3) (.c (.ptr none)), none⟩]) <|
  .cond (.t 4)
   (.seq
    (.region [⟨(some 2), .mov (.c (.int .i64 0)), none⟩]) <|
    .ret)
   (.skip)) <|
 .seq
 (.region [⟨(some 5), .mov (.t 0), none⟩,
    ⟨(some 6), .nilck (.t 5), none⟩,
    ⟨(some 7), .faddr 66 (.t 6), none⟩,
    ⟨(some 8), .load false 1 (.t 7), none⟩,
    ⟨(some 9), .len .map (.t 8), none⟩,
    ⟨(some 2), .mov (.t 9), none⟩]) <|
 .ret, [.slot 2]⟩
theorem c10 : Code1 Try.prog 10 10 b10 := Code1.mk' Try.func10 (by kernel_rfl) (by kernel_rfl) Try.ntmps10

/-- fusee/wheel.Wheel.Drop -/
def b11 : IFn := ⟨
 .seq
 (.region [⟨(some 3), .box (.t 1), none⟩,
    ⟨(some 4), .mov (.c (.bool false)), none⟩]) <|
 .seq
 (.seq
  (.region [⟨(some 8), .mov (.t 0), none⟩,
     ⟨(some 9), .eq false false [.ptr] (.t 8) (.c (.ptr none)), none⟩]) <|
  .cond (.t 9)
   (.seq
    (.region [⟨(some 4), .mov (.c (.bool false)), none⟩]) <|
    .ret)
   (.skip)) <|
 .seq
 (.draw false [0, 3, 5, 6] (
    .op ⟨(some 11), .mov (.t 0), none⟩ <|
    .op ⟨(some 12), .nilck (.t 11), none⟩ <|
    .op ⟨(some 13), .faddr 66 (.t 12), none⟩ <|
    .op ⟨(some 14), .load false 1 (.t 13), none⟩ <|
    .op ⟨(some 15), .load false 1 (.t 3), none⟩ <|
    .op ⟨(some 16), .lookup (.int .i64 0) (.t 14) (.t 15) true, none⟩ <|
    .op ⟨(some 10), .mov (.t 16), none⟩ <|
    .op ⟨(some 17), .extract (.t 10) 0, none⟩ <|
    .op ⟨(some 18), .extract (.t 10) 1, none⟩ <|
    .op ⟨(some 5), .mov (.t 17), none⟩ <|
    .op ⟨(some 6), .mov (.t 18), none⟩ <|
    .done)) <|
 .seq
 (.seq
  (.region [⟨(some 19), .mov (.t 6), none⟩,
     ⟨(some 20), .un .not (.t 19), none⟩]) <|
  .cond (.t 20)
   (.seq
    (.region [⟨(some 4), .mov (.c (.bool false)), none⟩]) <|
    .ret)
   (.skip)) <|
 .seq
 (.draw false [0, 3, 5] (
    .op ⟨(some 21), .mov (.t 0), none⟩ <|
    .op ⟨(some 22), .nilck (.t 21), none⟩ <|
    .op ⟨(some 23), .faddr 66 (.t 22), none⟩ <|
    .op ⟨(some 24), .load false 1 (.t 23), none⟩ <|
    .op ⟨(some 25), .load false 1 (.t 3), none⟩ <|
    .op ⟨none, .delete (.t 24) (.t 25), none⟩ <|
    .done)) <|
 .seq
 (.region [⟨(some 26), .mov (.t 0), none⟩,
    ⟨(some 27), .mov (.t 5), none⟩,
    ⟨(some 28), .build [(.int .i64 0), (.int .i64 0), (.int .i64 0)] [(1, 1, (.t 27))], none⟩,
    ⟨(some 29), .call (.f 19) [(.t 26), (.t 28)], none⟩,
    ⟨(some 7), .mov (.t 29), none⟩]) <|
 .seq
 (.region [⟨(some 30), .mov (.t 7), none⟩,
    ⟨(some 31), .mov (.t 7), none⟩,
    ⟨(some 32), .nilck (.t 31), none⟩,
    ⟨(some 33), .load false 1 (.t 32), none⟩,
    ⟨(some 34), .mkFn 21 [] [(.t 3)], none⟩,
    ⟨(some 35), .call (.f 20) [(.t 33), (.t 34)], none⟩,
    ⟨(some 36), .nilck (.t 30), none⟩,
    ⟨none, .store 1 (.t 36) (.t 35), none⟩]) <|
 .seq
 (.region [⟨(some 4), .mov (.c (.bool true)), none⟩]) <|
 .ret, [.slot 4]⟩
theorem c11 : Code1 Try.prog 11 37 b11 := Code1.mk' Try.func11 (by kernel_rfl) (by kernel_rfl) Try.ntmps11

/-- fusee/fuseelaw10.place -/
def b12 : IFn := ⟨
 .seq
 (.region [⟨(some 4), .mov (.c (.int .i64 0)), none⟩]) <|
 .seq
 (.seq
  (.region [⟨(some 7), .mov (.t 0), none⟩,
     ⟨(some 8), .len .sl (.t 7), none⟩,
     ⟨(some 9), .mov (.c (.int .i64 0)), none⟩]) <|
  .block 0 <|
  .loop [1, 7, 8, 9] <|
   .seq
   (.region [⟨(some 10), .bin .lss (.t 9) (.t 8), none⟩]) <|
   .seq
   (.cond (.t 10)
     (.skip)
     (.exit 0)) <|
   .seq
   (.block 1 <|
    .seq
    (.region [⟨(some 11), .mov (.t 9), none⟩,
       ⟨(some 12), .iaddr 2 (.t 7) (.t 9), none⟩,
       ⟨(some 13), .load true 2 (.t 12), none⟩,
       ⟨(some 6), .alloc [(.int .i64 0), (.int .i64 0)], none⟩,
       ⟨(some 5), .mov (.t 11), none⟩,
       ⟨none, .store 2 (.t 6) (.t 13), none⟩]) <|
    .seq
    (.region [⟨(some 14), .faddr 0 (.t 6), none⟩,
       ⟨(some 15), .load false 1 (.t 14), none⟩,
       ⟨(some 16), .mov (.t 1), none⟩,
       ⟨(some 17), .bin .eql (.t 15) (.t 16), none⟩]) <|
    .cond (.t 17)
     (.seq
      (.region [⟨(some 18), .mov (.t 5), none⟩,
         ⟨(some 4), .mov (.t 18), none⟩]) <|
      .ret)
     (.skip)) <|
   .region [⟨(some 19), .bin .add (.t 9) (.c (.int .i64 1)), none⟩,
     ⟨(some 9), .mov (.t 19), none⟩]) <|
 .seq
 (.region [⟨(some 4), .mov (.c (.int .i64 (-1))), none⟩]) <|
 .ret, [.slot 4]⟩
theorem c12 : Code1 Try.prog 12 20 b12 := Code1.mk' Try.func12 (by kernel_rfl) (by kernel_rfl) Try.ntmps12

/-- fusee/fuseelaw10.fire -/
def b13 : IFn := ⟨
 .seq
 (.region [⟨(some 4), .mov (.c (.sl none 0 (some 0))), none⟩,
    ⟨(some 5), .mov (.c (.sl none 0 (some 0))), none⟩]) <|
 .seq
 (.region [⟨(some 6), .mov (.c (.sl none 0 (some 0))), none⟩]) <|
 .seq
 (.region [⟨(some 7), .mov (.c (.sl none 0 (some 0))), none⟩]) <|
 .seq
 (.region [⟨(some 8), .mov (.c (.sl none 0 (some 0))), none⟩]) <|
 .seq
 (.seq
  (.region [⟨(some 14), .mov (.t 0), none⟩,
     ⟨(some 15), .len .sl (.t 14), none⟩,
     ⟨(some 16), .mov (.c (.int .i64 0)), none⟩]) <|
  .block 0 <|
  .loop [1, 6, 7, 8, 14, 15, 16] <|
   .seq
   (.region [⟨(some 17), .bin .lss (.t 16) (.t 15), none⟩]) <|
   .seq
   (.cond (.t 17)
     (.skip)
     (.exit 0)) <|
   .seq
   (.block 1 <|
    .seq
    (.region [⟨(some 18), .iaddr 2 (.t 14) (.t 16), none⟩,
       ⟨(some 19), .load true 2 (.t 18), none⟩,
       ⟨(some 10), .alloc [(.int .i64 0), (.int .i64 0)], none⟩,
       ⟨none, .store 2 (.t 10) (.t 19), none⟩]) <|
    .seq
    (.seq
     (.region [⟨(some 20), .faddr 1 (.t 10), none⟩,
        ⟨(some 21), .load false 1 (.t 20), none⟩,
        ⟨(some 22), .mov (.t 1), none⟩,
        ⟨(some 23), .bin .gtr (.t 21) (.t 22), none⟩]) <|
     .cond (.t 23)
      (.seq
       (.region [⟨(some 24), .mov (.t 7), none⟩,
          ⟨(some 25), .load true 2 (.t 10), none⟩,
          ⟨(some 26), .buildSl 2 [(.int .i64 0), (.int .i64 0)] [(0, 2, (.t 25))], none⟩,
          ⟨(some 27), .app 2 16 (.t 24) (.t 26), none⟩,
          ⟨(some 7), .mov (.t 27), none⟩]) <|
       .exit 1)
      (.skip)) <|
    .seq
    (.region [⟨(some 11), .mov (.c (.int .i64 0)), none⟩]) <|
    .seq
    (.block 2 <|
     .loop [1, 6, 7, 8, 10, 11, 14, 15, 16] <|
      .seq
      (.seq
       (.draw false [1, 6, 7, 8, 10, 11, 14, 15, 16, 41] (
          .op ⟨(some 28), .mov (.t 11), none⟩ <|
          .op ⟨(some 29), .mov (.t 8), none⟩ <|
          .op ⟨(some 30), .len .sl (.t 29), none⟩ <|
          .op ⟨(some 31), .bin .lss (.t 28) (.t 30), none⟩ <|
          .op ⟨(some 32), .mov (.t 31), none⟩ <|
          .op ⟨(some 33), .mov (.t 8), (some (32, true))⟩ <|
          .op ⟨(some 34), .mov (.t 11), (some (32, true))⟩ <|
          .op ⟨(some 35), .iaddr 2 (.t 33) (.t 34), (some (32, true))⟩ <|
          .op ⟨(some 36), .faddr 1 (.t 35), (some (32, true))⟩ <|
          .op ⟨(some 37), .load false 1 (.t 36), (some (32, true))⟩ <|
          .op ⟨(some 38), .faddr 1 (.t 10), (some (32, true))⟩ <|
          .op ⟨(some 39), .load false 1 (.t 38), (some (32, true))⟩ <|
          .op ⟨(some 40), .bin .leq (.t 37) (.t 39), (some (32, true))⟩ <|
          .op ⟨(some 41), .pick (.t 32) (.t 40) (.c (.bool false)), none⟩ <|
          .done)) <|
       .cond (.t 41)
        (.skip)
        (.exit 2)) <|
      .block 3 <|
      .region [⟨(some 42), .mov (.t 11), none⟩,
        ⟨(some 43), .bin .add (.t 42) (.c (.int .i64 1)), none⟩,
        ⟨(some 11), .mov (.t 43), none⟩]) <|
    .draw false [1, 6, 7, 8, 14, 15, 16] (
      .op ⟨(some 45), .mov (.t 8), none⟩ <|
      .op ⟨(some 46), .mov (.t 11), none⟩ <|
      .op ⟨(some 47), .slice 2 (.t 45) none (some (.t 46)) none, none⟩ <|
      .op ⟨(some 52), .mov (.t 8), none⟩ <|
      .op ⟨(some 53), .mov (.t 11), none⟩ <|
      .op ⟨(some 54), .slice 2 (.t 52) (some (.t 53)) none none, none⟩ <|
      .alt (.op ⟨(some 44), .buildSl 2 [] [], none⟩ <|
       .alt (.op ⟨(some 48), .app 2 16 (.t 44) (.t 47), none⟩ <|
        .op ⟨(some 49), .load true 2 (.t 10), none⟩ <|
        .op ⟨(some 50), .buildSl 2 [(.int .i64 0), (.int .i64 0)] [(0, 2, (.t 49))], none⟩ <|
        .op ⟨(some 51), .app 2 16 (.t 48) (.t 50), none⟩ <|
        .op ⟨(some 55), .app 2 16 (.t 51) (.t 54), none⟩ <|
        .op ⟨(some 8), .mov (.t 55), none⟩ <|
        .done) <|
       .op ⟨(some 49), .load true 2 (.t 10), none⟩ <|
       .alt (.op ⟨(some 48), .app 2 16 (.t 44) (.t 47), none⟩ <|
        .op ⟨(some 50), .buildSl 2 [(.int .i64 0), (.int .i64 0)] [(0, 2, (.t 49))], none⟩ <|
        .op ⟨(some 51), .app 2 16 (.t 48) (.t 50), none⟩ <|
        .op ⟨(some 55), .app 2 16 (.t 51) (.t 54), none⟩ <|
        .op ⟨(some 8), .mov (.t 55), none⟩ <|
        .done) <|
       .op ⟨(some 50), .buildSl 2 [(.int .i64 0), (.int .i64 0)] [(0, 2, (.t 49))], none⟩ <|
       .op ⟨(some 48), .app 2 16 (.t 44) (.t 47), none⟩ <|
       .op ⟨(some 51), .app 2 16 (.t 48) (.t 50), none⟩ <|
       .op ⟨(some 55), .app 2 16 (.t 51) (.t 54), none⟩ <|
       .op ⟨(some 8), .mov (.t 55), none⟩ <|
       .done) <|
      .op ⟨(some 49), .load true 2 (.t 10), none⟩ <|
      .alt (.op ⟨(some 44), .buildSl 2 [] [], none⟩ <|
       .alt (.op ⟨(some 48), .app 2 16 (.t 44) (.t 47), none⟩ <|
        .op ⟨(some 50), .buildSl 2 [(.int .i64 0), (.int .i64 0)] [(0, 2, (.t 49))], none⟩ <|
        .op ⟨(some 51), .app 2 16 (.t 48) (.t 50), none⟩ <|
        .op ⟨(some 55), .app 2 16 (.t 51) (.t 54), none⟩ <|
        .op ⟨(some 8), .mov (.t 55), none⟩ <|
        .done) <|
       .op ⟨(some 50), .buildSl 2 [(.int .i64 0), (.int .i64 0)] [(0, 2, (.t 49))], none⟩ <|
       .op ⟨(some 48), .app 2 16 (.t 44) (.t 47), none⟩ <|
       .op ⟨(some 51), .app 2 16 (.t 48) (.t 50), none⟩ <|
       .op ⟨(some 55), .app 2 16 (.t 51) (.t 54), none⟩ <|
       .op ⟨(some 8), .mov (.t 55), none⟩ <|
       .done) <|
      .op ⟨(some 50), .buildSl 2 [(.int .i64 0), (.int .i64 0)] [(0, 2, (.t 49))], none⟩ <|
      .op ⟨(some 44), .buildSl 2 [] [], none⟩ <|
      .op ⟨(some 48), .app 2 16 (.t 44) (.t 47), none⟩ <|
      .op ⟨(some 51), .app 2 16 (.t 48) (.t 50), none⟩ <|
      .op ⟨(some 55), .app 2 16 (.t 51) (.t 54), none⟩ <|
      .op ⟨(some 8), .mov (.t 55), none⟩ <|
      .done)) <|
   .region [⟨(some 56), .bin .add (.t 16) (.c (.int .i64 1)), none⟩,
     ⟨(some 16), .mov (.t 56), none⟩]) <|
 .seq
 (.seq
  (.region [⟨(some 57), .mov (.t 8), none⟩,
     ⟨(some 58), .len .sl (.t 57), none⟩,
     ⟨(some 59), .mov (.c (.int .i64 0)), none⟩]) <|
  .block 4 <|
  .loop [6, 7, 57, 58, 59] <|
   .seq
   (.region [⟨(some 60), .bin .lss (.t 59) (.t 58), none⟩]) <|
   .seq
   (.cond (.t 60)
     (.skip)
     (.exit 4)) <|
   .seq
   (.block 5 <|
    .seq
    (.region [⟨(some 61), .iaddr 2 (.t 57) (.t 59), none⟩,
       ⟨(some 62), .load true 2 (.t 61), none⟩,
       ⟨(some 13), .alloc [(.int .i64 0), (.int .i64 0)], none⟩,
       ⟨none, .store 2 (.t 13) (.t 62), none⟩]) <|
    .region [⟨(some 63), .mov (.t 6), none⟩,
      ⟨(some 64), .faddr 0 (.t 13), none⟩,
      ⟨(some 65), .load false 1 (.t 64), none⟩,
      ⟨(some 66), .buildSl 1 [(.int .i64 0)] [(0, 1, (.t 65))], none⟩,
      ⟨(some 67), .app 1 8 (.t 63) (.t 66), none⟩,
      ⟨(some 6), .mov (.t 67), none⟩]) <|
   .region [⟨(some 68), .bin .add (.t 59) (.c (.int .i64 1)), none⟩,
     ⟨(some 59), .mov (.t 68), none⟩]) <|
 .seq
 (.region [⟨(some 69), .mov (.t 6), none⟩,
    ⟨(some 70), .mov (.t 7), none⟩,
    ⟨(some 4), .mov (.t 69), none⟩,
    ⟨(some 5), .mov (.t 70), none⟩]) <|
 .ret, [.slot 4, .slot 5]⟩
theorem c13 : Code1 Try.prog 13 71 b13 := Code1.mk' Try.func13 (by kernel_rfl) (by kernel_rfl) Try.ntmps13

/-- fusee/wheel.Wheel.Left -/
def b14 : IFn := ⟨
 .seq
 (.region [⟨(some 4), .mov (.c (.int .i64 0)), none⟩,
    ⟨(some 5), .mov (.c (.bool false)), none⟩]) <|
 .seq
 (.seq
  (.region [⟨(some 8), .mov (.t 0), none⟩,
     ⟨(some 9), .eq false false [.ptr] (.t 8) (.c (.ptr none)), none⟩]) <|
  .cond (.t 9)
   (.seq
    (.region [⟨(some 4), .mov (.c (.int .i64 0)), none⟩,
       ⟨(some 5), .mov (.c (.bool false)), none⟩]) <|
    .ret)
   (.skip)) <|
 .seq
 (.region [⟨(some 11), .mov (.t 0), none⟩,
    ⟨(some 12), .nilck (.t 11), none⟩,
    ⟨(some 13), .faddr 66 (.t 12), none⟩,
    ⟨(some 14), .load false 1 (.t 13), none⟩,
    ⟨(some 15), .mov (.t 1), none⟩,
    ⟨(some 16), .lookup (.int .i64 0) (.t 14) (.t 15) true, none⟩,
    ⟨(some 10), .mov (.t 16), none⟩,
    ⟨(some 17), .extract (.t 10) 0, none⟩,
    ⟨(some 18), .extract (.t 10) 1, none⟩,
    ⟨(some 6), .mov (.t 17), none⟩,
    ⟨(some 7), .mov (.t 18), none⟩]) <|
 .seq
 (.seq
  (.region [⟨(some 19), .mov (.t 7), none⟩,
     ⟨(some 20), .un .not (.t 19), none⟩]) <|
  .cond (.t 20)
   (.seq
    (.region [⟨(some 4), .mov (.c (.int .i64 0)), none⟩,
       ⟨(some 5), .mov (.c (.bool false)), none⟩]) <|
    .ret)
   (.skip)) <|
 .seq
 (.region [⟨(some 21), .mov (.t 6), none⟩,
    ⟨(some 22), .mov (.t 0), none⟩,
    ⟨(some 23), .nilck (.t 22), none⟩,
    ⟨(some 24), .faddr 0 (.t 23), none⟩,
    ⟨(some 25), .load false 1 (.t 24), none⟩,
    ⟨(some 26), .bin .sub (.t 21) (.t 25), none⟩,
    ⟨(some 4), .mov (.t 26), none⟩,
    ⟨(some 5), .mov (.c (.bool true)), none⟩]) <|
 .ret, [.slot 4, .slot 5]⟩
theorem c14 : Code1 Try.prog 14 27 b14 := Code1.mk' Try.func14 (by kernel_rfl) (by kernel_rfl) Try.ntmps14

/-- fusee/wheel.Wheel.Next -/
def b15 : IFn := ⟨
 .seq
 (.region [⟨(some 2), .mov (.c (.int .i64 0)), none⟩,
    ⟨(some 3), .mov (.c (.bool false)), none⟩]) <|
 .seq
 (.seq
  (.region [⟨(some 7), .mov (.t 0), none⟩,
     ⟨(some 8), .call (.f 10) [(.t 7)], none⟩,
     ⟨(some 9), .bin .eql (.t 8) (.c (.int .i64 0)), none⟩]) <|
  .cond (.t 9)
   (.seq
    (.region [⟨(some 2), .mov (.c (.int .i64 0)), none⟩,
       ⟨(some 3), .mov (.c (.bool false)), none⟩]) <|
    .ret)
   (.skip)) <|
 .seq
 (.region [⟨(some 4), .mov (.c (.int .i64 65535)), none⟩]) <|
 .seq
 (.seq
  (.region [⟨(some 10), .mov (.t 0), none⟩,
     ⟨(some 11), .nilck (.t 10), none⟩,
     ⟨(some 12), .faddr 66 (.t 11), none⟩,
     ⟨(some 13), .load false 1 (.t 12), none⟩,
     ⟨(some 14), .range (.t 13), none⟩]) <|
  .block 0 <|
  .loop [0, 4, 14] <|
   .seq
   (.region [⟨(some 15), .next (.t 14), none⟩,
      ⟨(some 16), .extract (.t 15) 0, none⟩]) <|
   .seq
   (.cond (.t 16)
     (.skip)
     (.exit 0)) <|
   .block 1 <|
   .seq
   (.region [⟨(some 17), .entry (.t 14), none⟩,
      ⟨(some 18), .extract (.t 17) 1, none⟩,
      ⟨(some 6), .mov (.t 18), none⟩]) <|
   .region [⟨(some 19), .mov (.t 4), none⟩,
     ⟨(some 20), .mov (.t 6), none⟩,
     ⟨(some 21), .mov (.t 0), none⟩,
     ⟨(some 22), .nilck (.t 21), none⟩,
     ⟨(some 23), .faddr 0 (.t 22), none⟩,
     ⟨(some 24), .load false 1 (.t 23), none⟩,
     ⟨(some 25), .bin .sub (.t 20) (.t 24), none⟩,
     ⟨(some 26), .min [(.t 19), (.t 25)], none⟩,
     ⟨(some 4), .mov (.t 26), none⟩]) <|
 .seq
 (.region [⟨(some 27), .mov (.t 4), none⟩,
    ⟨(some 2), .mov (.t 27), none⟩,
    ⟨(some 3), .mov (.c (.bool true)), none⟩]) <|
 .ret, [.slot 2, .slot 3]⟩
theorem c15 : Code1 Try.prog 15 28 b15 := Code1.mk' Try.func15 (by kernel_rfl) (by kernel_rfl) Try.ntmps15

/-- fusee/wheel.Wheel.Now -/
def b16 : IFn := ⟨
 .seq
 (.region [⟨(some 2), .mov (.c (.int .i64 0)), none⟩]) <|
 .seq
 (.seq
  (.region [⟨(some 3), .mov (.t 0), none⟩,
     ⟨(some 4), .eq false false [.ptr] (.t 3) (.c (.ptr none)), none⟩]) <|
  .cond (.t 4)
   (.seq
    (.region [⟨(some 2), .mov (.c (.int .i64 0)), none⟩]) <|
    .ret)
   (.skip)) <|
 .seq
 (.region [⟨(some 5), .mov (.t 0), none⟩,
    ⟨(some 6), .nilck (.t 5), none⟩,
    ⟨(some 7), .faddr 0 (.t 6), none⟩,
    ⟨(some 8), .load false 1 (.t 7), none⟩,
    ⟨(some 2), .mov (.t 8), none⟩]) <|
 .ret, [.slot 2]⟩
theorem c16 : Code1 Try.prog 16 9 b16 := Code1.mk' Try.func16 (by kernel_rfl) (by kernel_rfl) Try.ntmps16

/-- fusee/wheel.Wheel.lay -/
def b17 : IFn := ⟨
 .seq
 (.region [⟨(some 3), .box (.t 1), none⟩]) <|
 .seq
 (.region [⟨(some 5), .mov (.t 0), none⟩,
    ⟨(some 6), .load true 3 (.t 3), none⟩,
    ⟨(some 7), .call (.f 19) [(.t 5), (.t 6)], none⟩,
    ⟨(some 4), .mov (.t 7), none⟩]) <|
 .draw false [] (
   .op ⟨(some 8), .mov (.t 4), none⟩ <|
   .op ⟨(some 9), .mov (.t 4), none⟩ <|
   .op ⟨(some 10), .nilck (.t 9), none⟩ <|
   .op ⟨(some 11), .load false 1 (.t 10), none⟩ <|
   .op ⟨(some 12), .load true 3 (.t 3), none⟩ <|
   .op ⟨(some 13), .buildSl 3 [(.int .i64 0), (.int .i64 0), (.int .i64 0)] [(0, 3, (.t 12))], none⟩ <|
   .op ⟨(some 14), .app 3 24 (.t 11) (.t 13), none⟩ <|
   .op ⟨(some 15), .nilck (.t 8), none⟩ <|
   .op ⟨none, .store 1 (.t 15) (.t 14), none⟩ <|
   .done), []⟩
theorem c17 : Code1 Try.prog 17 16 b17 := Code1.mk' Try.func17 (by kernel_rfl) (by kernel_rfl) Try.ntmps17

/-- fusee/wheel.Wheel.tick -/
def b18 : IFn := ⟨
 .seq
 (.region [⟨(some 2), .mov (.c (.sl none 0 (some 0))), none⟩]) <|
 .seq
 (.region [⟨(some 11), .mov (.t 0), none⟩,
    ⟨(some 12), .nilck (.t 11), none⟩,
    ⟨(some 13), .faddr 0 (.t 12), none⟩,
    ⟨(some 14), .load false 1 (.t 13), none⟩,
    ⟨(some 15), .bin .add (.t 14) (.c (.int .i64 1)), none⟩,
    ⟨(some 16), .nilck (.t 11), none⟩,
    ⟨(some 17), .faddr 0 (.t 16), none⟩,
    ⟨none, .store 1 (.t 17) (.t 15), none⟩]) <|
 .seq
 (.region [⟨(some 18), .mov (.t 0), none⟩,
    ⟨(some 19), .call (.f 22) [(.t 18)], none⟩]) <|
 .seq
 (.draw false [0, 3] (
    .op ⟨(some 20), .mov (.t 0), none⟩ <|
    .op ⟨(some 21), .mov (.t 0), none⟩ <|
    .op ⟨(some 22), .nilck (.t 21), none⟩ <|
    .op ⟨(some 23), .faddr 0 (.t 22), none⟩ <|
    .op ⟨(some 24), .load false 1 (.t 23), none⟩ <|
    .op ⟨(some 25), .bin .and (.t 24) (.c (.int .i64 15)), none⟩ <|
    .op ⟨(some 26), .nilck (.t 20), none⟩ <|
    .op ⟨(some 27), .faddr 2 (.t 26), none⟩ <|
    .op ⟨(some 28), .iaddrA 4 16 (.t 27) (.c (.int .i64 0)), none⟩ <|
    .op ⟨(some 29), .iaddrA 16 1 (.t 28) (.t 25), none⟩ <|
    .op ⟨(some 3), .mov (.t 29), none⟩ <|
    .done)) <|
 .seq
 (.region [⟨(some 4), .mov (.c (.sl none 0 (some 0))), none⟩,
    ⟨(some 5), .mov (.c (.sl none 0 (some 0))), none⟩]) <|
 .seq
 (.seq
  (.region [⟨(some 30), .mov (.t 3), none⟩,
     ⟨(some 31), .nilck (.t 30), none⟩,
     ⟨(some 32), .load false 1 (.t 31), none⟩,
     ⟨(some 33), .len .sl (.t 32), none⟩,
     ⟨(some 34), .mov (.c (.int .i64 0)), none⟩]) <|
  .block 0 <|
  .loop [0, 3, 4, 5, 32, 33, 34] <|
   .seq
   (.region [⟨(some 35), .bin .lss (.t 34) (.t 33), none⟩]) <|
   .seq
   (.cond (.t 35)
     (.skip)
     (.exit 0)) <|
   .seq
   (.block 1 <|
    .seq
    (.region [⟨(some 36), .iaddr 3 (.t 32) (.t 34), none⟩,
       ⟨(some 37), .load true 3 (.t 36), none⟩,
       ⟨(some 7), .alloc [(.int .i64 0), (.int .i64 0), (.int .i64 0)], none⟩,
       ⟨none, .store 3 (.t 7) (.t 37), none⟩]) <|
    .seq
    (.draw false [0, 3, 4, 5, 7, 32, 33, 34, 44] (
       .op ⟨(some 38), .faddr 1 (.t 7), none⟩ <|
       .op ⟨(some 39), .load false 1 (.t 38), none⟩ <|
       .op ⟨(some 40), .mov (.t 0), none⟩ <|
       .op ⟨(some 41), .nilck (.t 40), none⟩ <|
       .op ⟨(some 42), .faddr 0 (.t 41), none⟩ <|
       .op ⟨(some 43), .load false 1 (.t 42), none⟩ <|
       .op ⟨(some 44), .bin .eql (.t 39) (.t 43), none⟩ <|
       .done)) <|
    .cond (.t 44)
     (.region [⟨(some 45), .mov (.t 4), none⟩,
        ⟨(some 46), .load true 3 (.t 7), none⟩,
        ⟨(some 47), .buildSl 3 [(.int .i64 0), (.int .i64 0), (.int .i64 0)] [(0, 3, (.t 46))], none⟩,
        ⟨(some 48), .app 3 24 (.t 45) (.t 47), none⟩,
        ⟨(some 4), .mov (.t 48), none⟩])
     (.region [⟨(some 49), .mov (.t 5), none⟩,
        ⟨(some 50), .load true 3 (.t 7), none⟩,
        ⟨(some 51), .buildSl 3 [(.int .i64 0), (.int .i64 0), (.int .i64 0)] [(0, 3, (.t 50))], none⟩,
        ⟨(some 52), .app 3 24 (.t 49) (.t 51), none⟩,
        ⟨(some 5), .mov (.t 52), none⟩])) <|
   .region [⟨(some 53), .bin .add (.t 34) (.c (.int .i64 1)), none⟩,
     ⟨(some 34), .mov (.t 53), none⟩]) <|
 .seq
 (.region [⟨(some 54), .mov (.t 3), none⟩,
    ⟨(some 55), .mov (.t 5), none⟩,
    ⟨(some 56), .nilck (.t 54), none⟩,
    ⟨none, .store 1 (.t 56) (.t 55), none⟩]) <|
 .seq
 (.region [⟨(some 57), .mov (.t 4), none⟩,
    ⟨(some 58), .call (.f 23) [(.t 57), (.f 24)], none⟩]) <|
 .seq
 (.region [⟨(some 8), .mov (.c (.sl none 0 (some 0))), none⟩]) <|
 .seq
 (.seq
  (.region [⟨(some 59), .mov (.t 4), none⟩,
     ⟨(some 60), .len .sl (.t 59), none⟩,
     ⟨(some 61), .mov (.c (.int .i64 0)), none⟩]) <|
  .block 2 <|
  .loop [0, 8, 59, 60, 61] <|
   .seq
   (.region [⟨(some 62), .bin .lss (.t 61) (.t 60), none⟩]) <|
   .seq
   (.cond (.t 62)
     (.skip)
     (.exit 2)) <|
   .seq
   (.block 3 <|
    .seq
    (.region [⟨(some 63), .iaddr 3 (.t 59) (.t 61), none⟩,
       ⟨(some 64), .load true 3 (.t 63), none⟩,
       ⟨(some 10), .alloc [(.int .i64 0), (.int .i64 0), (.int .i64 0)], none⟩,
       ⟨none, .store 3 (.t 10) (.t 64), none⟩]) <|
    .seq
    (.draw false [0, 8, 10, 59, 60, 61] (
       .op ⟨(some 65), .mov (.t 0), none⟩ <|
       .op ⟨(some 66), .nilck (.t 65), none⟩ <|
       .op ⟨(some 67), .faddr 66 (.t 66), none⟩ <|
       .op ⟨(some 68), .load false 1 (.t 67), none⟩ <|
       .op ⟨(some 69), .faddr 0 (.t 10), none⟩ <|
       .op ⟨(some 70), .load false 1 (.t 69), none⟩ <|
       .op ⟨none, .delete (.t 68) (.t 70), none⟩ <|
       .done)) <|
    .region [⟨(some 71), .mov (.t 8), none⟩,
      ⟨(some 72), .faddr 0 (.t 10), none⟩,
      ⟨(some 73), .load false 1 (.t 72), none⟩,
      ⟨(some 74), .buildSl 1 [(.int .i64 0)] [(0, 1, (.t 73))], none⟩,
      ⟨(some 75), .app 1 8 (.t 71) (.t 74), none⟩,
      ⟨(some 8), .mov (.t 75), none⟩]) <|
   .region [⟨(some 76), .bin .add (.t 61) (.c (.int .i64 1)), none⟩,
     ⟨(some 61), .mov (.t 76), none⟩]) <|
 .seq
 (.region [⟨(some 77), .mov (.t 8), none⟩,
    ⟨(some 2), .mov (.t 77), none⟩]) <|
 .ret, [.slot 2]⟩
theorem c18 : Code1 Try.prog 18 78 b18 := Code1.mk' Try.func18 (by kernel_rfl) (by kernel_rfl) Try.ntmps18

/-- fusee/wheel.Wheel.slot -/
def b19 : IFn := ⟨
 .seq
 (.region [⟨(some 3), .box (.t 1), none⟩,
    ⟨(some 4), .mov (.c (.ptr none)), none⟩]) <|
 .seq
 (.region [⟨(some 5), .mov (.c (.int .i64 0)), none⟩]) <|
 .seq
 (.block 0 <|
  .loop [0, 3, 5] <|
   .seq
   (.seq
    (.draw false [0, 3, 5, 26] (
       .op ⟨(some 6), .mov (.t 5), none⟩ <|
       .op ⟨(some 7), .bin .lss (.t 6) (.c (.int .i64 3)), none⟩ <|
       .op ⟨(some 8), .mov (.t 7), none⟩ <|
       .op ⟨(some 9), .faddr 1 (.t 3), (some (8, true))⟩ <|
       .op ⟨(some 10), .load false 1 (.t 9), (some (8, true))⟩ <|
       .op ⟨(some 11), .mov (.t 5), (some (8, true))⟩ <|
       .op ⟨(some 12), .bin .add (.t 11) (.c (.int .i64 1)), (some (8, true))⟩ <|
       .op ⟨(some 13), .bin .mul (.c (.int .i64 4)) (.t 12), (some (8, true))⟩ <|
       .op ⟨(some 14), .conv .u64 (.t 13), (some (8, true))⟩ <|
       .op ⟨(some 15), .bin .shr (.t 10) (.t 14), (some (8, true))⟩ <|
       .op ⟨(some 16), .mov (.t 0), (some (8, true))⟩ <|
       .op ⟨(some 17), .nilck (.t 16), (some (8, true))⟩ <|
       .op ⟨(some 18), .faddr 0 (.t 17), (some (8, true))⟩ <|
       .op ⟨(some 19), .load false 1 (.t 18), (some (8, true))⟩ <|
       .op ⟨(some 20), .mov (.t 5), (some (8, true))⟩ <|
       .op ⟨(some 21), .bin .add (.t 20) (.c (.int .i64 1)), (some (8, true))⟩ <|
       .op ⟨(some 22), .bin .mul (.c (.int .i64 4)) (.t 21), (some (8, true))⟩ <|
       .op ⟨(some 23), .conv .u64 (.t 22), (some (8, true))⟩ <|
       .op ⟨(some 24), .bin .shr (.t 19) (.t 23), (some (8, true))⟩ <|
       .op ⟨(some 25), .bin .neq (.t 15) (.t 24), (some (8, true))⟩ <|
       .op ⟨(some 26), .pick (.t 8) (.t 25) (.c (.bool false)), none⟩ <|
       .done)) <|
    .cond (.t 26)
     (.skip)
     (.exit 0)) <|
   .block 1 <|
   .region [⟨(some 27), .mov (.t 5), none⟩,
     ⟨(some 28), .bin .add (.t 27) (.c (.int .i64 1)), none⟩,
     ⟨(some 5), .mov (.t 28), none⟩]) <|
 .seq
 (.draw false [4] (
    .op ⟨(some 29), .mov (.t 0), none⟩ <|
    .op ⟨(some 30), .mov (.t 5), none⟩ <|
    .op ⟨(some 31), .faddr 1 (.t 3), none⟩ <|
    .op ⟨(some 32), .load false 1 (.t 31), none⟩ <|
    .op ⟨(some 33), .mov (.t 5), none⟩ <|
    .op ⟨(some 34), .bin .mul (.c (.int .i64 4)) (.t 33), none⟩ <|
    .op ⟨(some 35), .conv .u64 (.t 34), none⟩ <|
    .op ⟨(some 36), .bin .shr (.t 32) (.t 35), none⟩ <|
    .op ⟨(some 37), .bin .and (.t 36) (.c (.int .i64 15)), none⟩ <|
    .op ⟨(some 38), .nilck (.t 29), none⟩ <|
    .op ⟨(some 39), .faddr 2 (.t 38), none⟩ <|
    .op ⟨(some 40), .iaddrA 4 16 (.t 39) (.t 30), none⟩ <|
    .op ⟨(some 41), .iaddrA 16 1 (.t 40) (.t 37), none⟩ <|
    .op ⟨(some 4), .mov (.t 41), none⟩ <|
    .done)) <|
 .ret, [.slot 4]⟩
theorem c19 : Code1 Try.prog 19 42 b19 := Code1.mk' Try.func19 (by kernel_rfl) (by kernel_rfl) Try.ntmps19

/-- slices.DeleteFunc[[]fusee/wheel.item,fusee/wheel.item] -/
def b20 : IFn := ⟨
 .seq
 (.region [⟨(some 4), .mov (.c (.sl none 0 (some 0))), none⟩]) <|
 .seq
 (.region [⟨(some 8), .mov (.t 0), none⟩,
    ⟨(some 9), .mov (.t 1), none⟩,
    ⟨(some 10), .call (.f 26) [(.t 8), (.t 9)], none⟩,
    ⟨(some 5), .mov (.t 10), none⟩]) <|
 .seq
 (.seq
  (.region [⟨(some 11), .mov (.t 5), none⟩,
     ⟨(some 12), .bin .eql (.t 11) (.c (.int .i64 (-1))), none⟩]) <|
  .cond (.t 12)
   (.seq
    (.region [⟨(some 13), .mov (.t 0), none⟩,
       ⟨(some 4), .mov (.t 13), none⟩]) <|
    .ret)
   (.skip)) <|
 .seq
 (.seq
  (.region [⟨(some 14), .mov (.t 5), none⟩,
     ⟨(some 15), .bin .add (.t 14) (.c (.int .i64 1)), none⟩,
     ⟨(some 6), .mov (.t 15), none⟩]) <|
  .block 0 <|
  .loop [0, 1, 5, 6] <|
   .seq
   (.seq
    (.region [⟨(some 16), .mov (.t 6), none⟩,
       ⟨(some 17), .mov (.t 0), none⟩,
       ⟨(some 18), .len .sl (.t 17), none⟩,
       ⟨(some 19), .bin .lss (.t 16) (.t 18), none⟩]) <|
    .cond (.t 19)
     (.skip)
     (.exit 0)) <|
   .seq
   (.block 1 <|
    .seq
    (.region [⟨(some 22), .mov (.t 0), none⟩,
       ⟨(some 23), .mov (.t 6), none⟩,
       ⟨(some 24), .iaddr 3 (.t 22) (.t 23), none⟩,
       ⟨(some 25), .load true 3 (.t 24), none⟩,
       ⟨(some 7), .alloc [(.int .i64 0), (.int .i64 0), (.int .i64 0)], none⟩,
       ⟨none, .store 3 (.t 7) (.t 25), none⟩]) <|
    .seq
    (.region [⟨(some 26), .mov (.t 1), none⟩,
       ⟨(some 27), .load true 3 (.t 7), none⟩,
       ⟨(some 28), .call (.t 26) [(.t 27)], none⟩,
       ⟨(some 29), .un .not (.t 28), none⟩]) <|
    .cond (.t 29)
     (.seq
      (.region [⟨(some 30), .mov (.t 0), none⟩,
         ⟨(some 31), .mov (.t 5), none⟩,
         ⟨(some 32), .load true 3 (.t 7), none⟩,
         ⟨(some 33), .iaddr 3 (.t 30) (.t 31), none⟩,
         ⟨none, .store 3 (.t 33) (.t 32), none⟩]) <|
      .region [⟨(some 34), .mov (.t 5), none⟩,
        ⟨(some 35), .bin .add (.t 34) (.c (.int .i64 1)), none⟩,
        ⟨(some 5), .mov (.t 35), none⟩])
     (.skip)) <|
   .region [⟨(some 20), .mov (.t 6), none⟩,
     ⟨(some 21), .bin .add (.t 20) (.c (.int .i64 1)), none⟩,
     ⟨(some 6), .mov (.t 21), none⟩]) <|
 .seq
 (.region [⟨(some 36), .mov (.t 0), none⟩,
    ⟨(some 37), .mov (.t 5), none⟩,
    ⟨(some 38), .slice 3 (.t 36) (some (.t 37)) none none, none⟩,
    ⟨none, .clear [(.int .i64 0), (.int .i64 0), (.int .i64 0)] (.t 38), none⟩]) <|
 .seq
 (.region [⟨(some 39), .mov (.t 0), none⟩,
    ⟨(some 40), .mov (.t 5), none⟩,
    ⟨(some 41), .slice 3 (.t 39) none (some (.t 40)) none, none⟩,
    ⟨(some 4), .mov (.t 41), none⟩]) <|
 .ret, [.slot 4]⟩
theorem c20 : Code1 Try.prog 20 42 b20 := Code1.mk' Try.func20 (by kernel_rfl) (by kernel_rfl) Try.ntmps20

/-- fusee/wheel.Wheel.Drop$1 -/
def b21 : IFn := ⟨
 .seq
 (.region [⟨(some 2), .box (.t 0), none⟩,
    ⟨(some 3), .mov (.c (.bool false)), none⟩]) <|
 .seq
 (.region [⟨(some 4), .faddr 0 (.t 2), none⟩,
    ⟨(some 5), .load false 1 (.t 4), none⟩,
    ⟨(some 6), .load false 1 (.t 1), none⟩,
    ⟨(some 7), .bin .eql (.t 5) (.t 6), none⟩,
    ⟨(some 3), .mov (.t 7), none⟩]) <|
 .ret, [.slot 3]⟩
theorem c21 : Code1 Try.prog 21 8 b21 := Code1.mk' Try.func21 (by kernel_rfl) (by kernel_rfl) Try.ntmps21

/-- fusee/wheel.Wheel.deal -/
def b22 : IFn := ⟨
 .seq
 (.region [⟨(some 2), .mov (.c (.int .i64 3)), none⟩]) <|
 .block 0 <|
 .loop [0, 2] <|
  .seq
  (.seq
   (.region [⟨(some 7), .mov (.t 2), none⟩,
      ⟨(some 8), .bin .gtr (.t 7) (.c (.int .i64 0)), none⟩]) <|
   .cond (.t 8)
    (.skip)
    (.exit 0)) <|
  .seq
  (.block 1 <|
   .seq
   (.seq
    (.region [⟨(some 11), .mov (.t 0), none⟩,
       ⟨(some 12), .nilck (.t 11), none⟩,
       ⟨(some 13), .faddr 0 (.t 12), none⟩,
       ⟨(some 14), .load false 1 (.t 13), none⟩,
       ⟨(some 15), .mov (.t 2), none⟩,
       ⟨(some 16), .bin .mul (.c (.int .i64 4)) (.t 15), none⟩,
       ⟨(some 17), .conv .u64 (.t 16), none⟩,
       ⟨(some 18), .bin .shl (.c (.int .i64 1)) (.t 17), none⟩,
       ⟨(some 19), .bin .sub (.t 18) (.c (.int .i64 1)), none⟩,
       ⟨(some 20), .bin .and (.t 14) (.t 19), none⟩,
       ⟨(some 21), .bin .neq (.t 20) (.c (.int .i64 0)), none⟩]) <|
    .cond (.t 21)
     (.exit 1)
     (.skip)) <|
   .seq
   (.draw false [0, 2, 3] (
      .op ⟨(some 22), .mov (.t 0), none⟩ <|
      .op ⟨(some 23), .mov (.t 2), none⟩ <|
      .op ⟨(some 24), .mov (.t 0), none⟩ <|
      .op ⟨(some 25), .nilck (.t 24), none⟩ <|
      .op ⟨(some 26), .faddr 0 (.t 25), none⟩ <|
      .op ⟨(some 27), .load false 1 (.t 26), none⟩ <|
      .op ⟨(some 28), .mov (.t 2), none⟩ <|
      .op ⟨(some 29), .bin .mul (.c (.int .i64 4)) (.t 28), none⟩ <|
      .op ⟨(some 30), .conv .u64 (.t 29), none⟩ <|
      .op ⟨(some 31), .bin .shr (.t 27) (.t 30), none⟩ <|
      .op ⟨(some 32), .bin .and (.t 31) (.c (.int .i64 15)), none⟩ <|
      .op ⟨(some 33), .nilck (.t 22), none⟩ <|
      .op ⟨(some 34), .faddr 2 (.t 33), none⟩ <|
      .op ⟨(some 35), .iaddrA 4 16 (.t 34) (.t 23), none⟩ <|
      .op ⟨(some 36), .iaddrA 16 1 (.t 35) (.t 32), none⟩ <|
      .op ⟨(some 3), .mov (.t 36), none⟩ <|
      .done)) <|
   .seq
   (.region [⟨(some 37), .mov (.t 3), none⟩,
      ⟨(some 38), .nilck (.t 37), none⟩,
      ⟨(some 39), .load false 1 (.t 38), none⟩,
      ⟨(some 4), .mov (.t 39), none⟩]) <|
   .seq
   (.region [⟨(some 40), .mov (.t 3), none⟩,
      ⟨(some 41), .nilck (.t 40), none⟩,
      ⟨none, .store 1 (.t 41) (.c (.sl none 0 (some 0))), none⟩]) <|
   .seq
   (.region [⟨(some 42), .mov (.t 4), none⟩,
      ⟨(some 43), .len .sl (.t 42), none⟩,
      ⟨(some 44), .mov (.c (.int .i64 0)), none⟩]) <|
   .block 2 <|
   .loop [0, 2, 42, 43, 44] <|
    .seq
    (.region [⟨(some 45), .bin .lss (.t 44) (.t 43), none⟩]) <|
    .seq
    (.cond (.t 45)
      (.skip)
      (.exit 2)) <|
    .seq
    (.block 3 <|
     .seq
     (.region [⟨(some 46), .iaddr 3 (.t 42) (.t 44), none⟩,
        ⟨(some 47), .load true 3 (.t 46), none⟩,
        ⟨(some 6), .alloc [(.int .i64 0), (.int .i64 0), (.int .i64 0)], none⟩,
        ⟨none, .store 3 (.t 6) (.t 47), none⟩]) <|
     .region [⟨(some 48), .mov (.t 0), none⟩,
       ⟨(some 49), .load true 3 (.t 6), none⟩,
       ⟨(some 50), .call (.f 17) [(.t 48), (.t 49)], none⟩]) <|
    .region [⟨(some 51), .bin .add (.t 44) (.c (.int .i64 1)), none⟩,
      ⟨(some 44), .mov (.t 51), none⟩]) <|
  .region [⟨(some 9), .mov (.t 2), none⟩,
    ⟨(some 10), .bin .sub (.t 9) (.c (.int .i64 1)), none⟩,
    ⟨(some 2), .mov (.t 10), none⟩], []⟩
theorem c22 : Code1 Try.prog 22 52 b22 := Code1.mk' Try.func22 (by kernel_rfl) (by kernel_rfl) Try.ntmps22

/-- slices.SortFunc[[]fusee/wheel.item,fusee/wheel.item] -/
def b23 : IFn := ⟨
 .seq
 (.region [⟨(some 5), .mov (.t 0), none⟩,
    ⟨(some 6), .len .sl (.t 5), none⟩,
    ⟨(some 4), .mov (.t 6), none⟩]) <|
 .region [⟨(some 7), .mov (.t 0), none⟩,
   ⟨(some 8), .mov (.t 4), none⟩,
   ⟨(some 9), .mov (.t 4), none⟩,
   ⟨(some 10), .conv .u64 (.t 9), none⟩,
   ⟨(some 11), .call (.f 28) [(.t 10)], none⟩,
   ⟨(some 12), .mov (.t 1), none⟩,
   ⟨(some 13), .call (.f 27) [(.t 7), (.c (.int .i64 0)), (.t 8), (.t 11), (.t 12)], none⟩], []⟩
theorem c23 : Code1 Try.prog 23 14 b23 := Code1.mk' Try.func23 (by kernel_rfl) (by kernel_rfl) Try.ntmps23

/-- fusee/wheel.Wheel.tick$1 -/
def b24 : IFn := ⟨
 .seq
 (.region [⟨(some 2), .box (.t 0), none⟩,
    ⟨(some 3), .box (.t 1), none⟩,
    ⟨(some 4), .mov (.c (.int .i64 0)), none⟩]) <|
 .seq
 (.region [⟨(some 5), .faddr 2 (.t 2), none⟩,
    ⟨(some 6), .load false 1 (.t 5), none⟩,
    ⟨(some 7), .faddr 2 (.t 3), none⟩,
    ⟨(some 8), .load false 1 (.t 7), none⟩,
    ⟨(some 9), .call (.f 25) [(.t 6), (.t 8)], none⟩,
    ⟨(some 4), .mov (.t 9), none⟩]) <|
 .ret, [.slot 4]⟩
theorem c24 : Code1 Try.prog 24 10 b24 := Code1.mk' Try.func24 (by kernel_rfl) (by kernel_rfl) Try.ntmps24

/-- cmp.Compare[int] -/
def b25 : IFn := ⟨
 .seq
 (.region [⟨(some 4), .mov (.c (.int .i64 0)), none⟩]) <|
 .seq
 (.region [⟨(some 7), .mov (.t 0), none⟩,
    ⟨(some 8), .call (.f 29) [(.t 7)], none⟩,
    ⟨(some 5), .mov (.t 8), none⟩]) <|
 .seq
 (.region [⟨(some 9), .mov (.t 1), none⟩,
    ⟨(some 10), .call (.f 29) [(.t 9)], none⟩,
    ⟨(some 6), .mov (.t 10), none⟩]) <|
 .seq
 (.seq
  (.region [⟨(some 11), .mov (.t 5), none⟩]) <|
  .cond (.t 11)
   (.seq
    (.seq
     (.region [⟨(some 12), .mov (.t 6), none⟩]) <|
     .cond (.t 12)
      (.seq
       (.region [⟨(some 4), .mov (.c (.int .i64 0)), none⟩]) <|
       .ret)
      (.skip)) <|
    .seq
    (.region [⟨(some 4), .mov (.c (.int .i64 (-1))), none⟩]) <|
    .ret)
   (.skip)) <|
 .seq
 (.seq
  (.region [⟨(some 13), .mov (.t 6), none⟩]) <|
  .cond (.t 13)
   (.seq
    (.region [⟨(some 4), .mov (.c (.int .i64 1)), none⟩]) <|
    .ret)
   (.skip)) <|
 .seq
 (.seq
  (.region [⟨(some 14), .mov (.t 0), none⟩,
     ⟨(some 15), .mov (.t 1), none⟩,
     ⟨(some 16), .bin .lss (.t 14) (.t 15), none⟩]) <|
  .cond (.t 16)
   (.seq
    (.region [⟨(some 4), .mov (.c (.int .i64 (-1))), none⟩]) <|
    .ret)
   (.skip)) <|
 .seq
 (.seq
  (.region [⟨(some 17), .mov (.t 0), none⟩,
     ⟨(some 18), .mov (.t 1), none⟩,
     ⟨(some 19), .bin .gtr (.t 17) (.t 18), none⟩]) <|
  .cond (.t 19)
   (.seq
    (.region [⟨(some 4), .mov (.c (.int .i64 1)), none⟩]) <|
    .ret)
   (.skip)) <|
 .seq
 (.region [⟨(some 4), .mov (.c (.int .i64 0)), none⟩]) <|
 .ret, [.slot 4]⟩
theorem c25 : Code1 Try.prog 25 20 b25 := Code1.mk' Try.func25 (by kernel_rfl) (by kernel_rfl) Try.ntmps25

/-- slices.IndexFunc[[]fusee/wheel.item,fusee/wheel.item] -/
def b26 : IFn := ⟨
 .seq
 (.region [⟨(some 4), .mov (.c (.int .i64 0)), none⟩]) <|
 .seq
 (.seq
  (.region [⟨(some 6), .mov (.t 0), none⟩,
     ⟨(some 7), .len .sl (.t 6), none⟩,
     ⟨(some 8), .mov (.c (.int .i64 0)), none⟩]) <|
  .block 0 <|
  .loop [0, 1, 7, 8] <|
   .seq
   (.region [⟨(some 9), .bin .lss (.t 8) (.t 7), none⟩]) <|
   .seq
   (.cond (.t 9)
     (.skip)
     (.exit 0)) <|
   .seq
   (.block 1 <|
    .seq
    (.region [⟨(some 10), .mov (.t 8), none⟩,
       ⟨(some 5), .mov (.t 10), none⟩]) <|
    .seq
    (.region [⟨(some 11), .mov (.t 1), none⟩,
       ⟨(some 12), .mov (.t 0), none⟩,
       ⟨(some 13), .mov (.t 5), none⟩,
       ⟨(some 14), .iaddr 3 (.t 12) (.t 13), none⟩,
       ⟨(some 15), .load true 3 (.t 14), none⟩,
       ⟨(some 16), .call (.t 11) [(.t 15)], none⟩]) <|
    .cond (.t 16)
     (.seq
      (.region [⟨(some 17), .mov (.t 5), none⟩,
         ⟨(some 4), .mov (.t 17), none⟩]) <|
      .ret)
     (.skip)) <|
   .region [⟨(some 18), .bin .add (.t 8) (.c (.int .i64 1)), none⟩,
     ⟨(some 8), .mov (.t 18), none⟩]) <|
 .seq
 (.region [⟨(some 4), .mov (.c (.int .i64 (-1))), none⟩]) <|
 .ret, [.slot 4]⟩
theorem c26 : Code1 Try.prog 26 19 b26 := Code1.mk' Try.func26 (by kernel_rfl) (by kernel_rfl) Try.ntmps26

/-- slices.pdqsortCmpFunc[fusee/wheel.item] -/
def b27 : IFn := ⟨
 .seq
 (.region [⟨(some 10), .mov (.c (.bool true)), none⟩]) <|
 .seq
 (.region [⟨(some 11), .mov (.c (.bool true)), none⟩]) <|
 .block 0 <|
 .loop [0, 1, 2, 3, 4, 10, 11] <|
  .block 1 <|
  .seq
  (.region [⟨(some 21), .mov (.t 2), none⟩,
     ⟨(some 22), .mov (.t 1), none⟩,
     ⟨(some 23), .bin .sub (.t 21) (.t 22), none⟩,
     ⟨(some 12), .mov (.t 23), none⟩]) <|
  .seq
  (.seq
   (.region [⟨(some 24), .mov (.t 12), none⟩,
      ⟨(some 25), .bin .leq (.t 24) (.c (.int .i64 12)), none⟩]) <|
   .cond (.t 25)
    (.seq
     (.region [⟨(some 26), .mov (.t 0), none⟩,
        ⟨(some 27), .mov (.t 1), none⟩,
        ⟨(some 28), .mov (.t 2), none⟩,
        ⟨(some 29), .mov (.t 4), none⟩,
        ⟨(some 30), .call (.f 30) [(.t 26), (.t 27), (.t 28), (.t 29)], none⟩]) <|
     .ret)
    (.skip)) <|
  .seq
  (.seq
   (.region [⟨(some 31), .mov (.t 3), none⟩,
      ⟨(some 32), .bin .eql (.t 31) (.c (.int .i64 0)), none⟩]) <|
   .cond (.t 32)
    (.seq
     (.region [⟨(some 33), .mov (.t 0), none⟩,
        ⟨(some 34), .mov (.t 1), none⟩,
        ⟨(some 35), .mov (.t 2), none⟩,
        ⟨(some 36), .mov (.t 4), none⟩,
        ⟨(some 37), .call (.f 31) [(.t 33), (.t 34), (.t 35), (.t 36)], none⟩]) <|
     .ret)
    (.skip)) <|
  .seq
  (.seq
   (.region [⟨(some 38), .mov (.t 10), none⟩,
      ⟨(some 39), .un .not (.t 38), none⟩]) <|
   .cond (.t 39)
    (.seq
     (.region [⟨(some 40), .mov (.t 0), none⟩,
        ⟨(some 41), .mov (.t 1), none⟩,
        ⟨(some 42), .mov (.t 2), none⟩,
        ⟨(some 43), .mov (.t 4), none⟩,
        ⟨(some 44), .call (.f 32) [(.t 40), (.t 41), (.t 42), (.t 43)], none⟩]) <|
     .region [⟨(some 45), .mov (.t 3), none⟩,
       ⟨(some 46), .bin .sub (.t 45) (.c (.int .i64 1)), none⟩,
       ⟨(some 3), .mov (.t 46), none⟩])
    (.skip)) <|
  .seq
  (.region [⟨(some 48), .mov (.t 0), none⟩,
     ⟨(some 49), .mov (.t 1), none⟩,
     ⟨(some 50), .mov (.t 2), none⟩,
     ⟨(some 51), .mov (.t 4), none⟩,
     ⟨(some 52), .call (.f 33) [(.t 48), (.t 49), (.t 50), (.t 51)], none⟩,
     ⟨(some 47), .mov (.t 52), none⟩,
     ⟨(some 53), .extract (.t 47) 0, none⟩,
     ⟨(some 54), .extract (.t 47) 1, none⟩,
     ⟨(some 13), .mov (.t 53), none⟩,
     ⟨(some 14), .mov (.t 54), none⟩]) <|
  .seq
  (.seq
   (.region [⟨(some 55), .mov (.t 14), none⟩,
      ⟨(some 56), .bin .eql (.t 55) (.c (.int .i64 2)), none⟩]) <|
   .cond (.t 56)
    (.seq
     (.region [⟨(some 57), .mov (.t 0), none⟩,
        ⟨(some 58), .mov (.t 1), none⟩,
        ⟨(some 59), .mov (.t 2), none⟩,
        ⟨(some 60), .mov (.t 4), none⟩,
        ⟨(some 61), .call (.f 34) [(.t 57), (.t 58), (.t 59), (.t 60)], none⟩]) <|
     .seq
     (.region [⟨(some 62), .mov (.t 2), none⟩,
        ⟨(some 63), .bin .sub (.t 62) (.c (.int .i64 1)), none⟩,
        ⟨(some 64), .mov (.t 13), none⟩,
        ⟨(some 65), .mov (.t 1), none⟩,
        ⟨(some 66), .bin .sub (.t 64) (.t 65), none⟩,
        ⟨(some 67), .bin .sub (.t 63) (.t 66), none⟩,
        ⟨(some 13), .mov (.t 67), none⟩]) <|
     .region [⟨(some 14), .mov (.c (.int .i64 1)), none⟩])
    (.skip)) <|
  .seq
  (.seq
   (.region [⟨(some 68), .mov (.t 10), none⟩,
      ⟨(some 69), .mov (.t 68), none⟩,
      ⟨(some 70), .mov (.t 11), (some (69, true))⟩,
      ⟨(some 71), .pick (.t 69) (.t 70) (.c (.bool false)), none⟩,
      ⟨(some 72), .mov (.t 71), none⟩,
      ⟨(some 73), .mov (.t 14), (some (72, true))⟩,
      ⟨(some 74), .bin .eql (.t 73) (.c (.int .i64 1)), (some (72, true))⟩,
      ⟨(some 75), .pick (.t 72) (.t 74) (.c (.bool false)), none⟩]) <|
   .cond (.t 75)
    (.seq
     (.region [⟨(some 76), .mov (.t 0), none⟩,
        ⟨(some 77), .mov (.t 1), none⟩,
        ⟨(some 78), .mov (.t 2), none⟩,
        ⟨(some 79), .mov (.t 4), none⟩,
        ⟨(some 80), .call (.f 35) [(.t 76), (.t 77), (.t 78), (.t 79)], none⟩]) <|
     .cond (.t 80)
      (.ret)
      (.skip))
    (.skip)) <|
  .seq
  (.seq
   (.draw false [0, 1, 2, 3, 4, 10, 11, 12, 13, 97] (
      .op ⟨(some 81), .mov (.t 1), none⟩ <|
      .op ⟨(some 82), .bin .gtr (.t 81) (.c (.int .i64 0)), none⟩ <|
      .op ⟨(some 83), .mov (.t 82), none⟩ <|
      .op ⟨(some 84), .mov (.t 4), (some (83, true))⟩ <|
      .op ⟨(some 85), .mov (.t 0), (some (83, true))⟩ <|
      .op ⟨(some 86), .mov (.t 1), (some (83, true))⟩ <|
      .op ⟨(some 87), .bin .sub (.t 86) (.c (.int .i64 1)), (some (83, true))⟩ <|
      .op ⟨(some 88), .iaddr 3 (.t 85) (.t 87), (some (83, true))⟩ <|
      .op ⟨(some 89), .load true 3 (.t 88), (some (83, true))⟩ <|
      .op ⟨(some 90), .mov (.t 0), (some (83, true))⟩ <|
      .op ⟨(some 91), .mov (.t 13), (some (83, true))⟩ <|
      .op ⟨(some 92), .iaddr 3 (.t 90) (.t 91), (some (83, true))⟩ <|
      .op ⟨(some 93), .load true 3 (.t 92), (some (83, true))⟩ <|
      .op ⟨(some 94), .call (.t 84) [(.t 89), (.t 93)], (some (83, true))⟩ <|
      .op ⟨(some 95), .bin .lss (.t 94) (.c (.int .i64 0)), (some (83, true))⟩ <|
      .op ⟨(some 96), .un .not (.t 95), (some (83, true))⟩ <|
      .op ⟨(some 97), .pick (.t 83) (.t 96) (.c (.bool false)), none⟩ <|
      .done)) <|
   .cond (.t 97)
    (.seq
     (.region [⟨(some 98), .mov (.t 0), none⟩,
        ⟨(some 99), .mov (.t 1), none⟩,
        ⟨(some 100), .mov (.t 2), none⟩,
        ⟨(some 101), .mov (.t 13), none⟩,
        ⟨(some 102), .mov (.t 4), none⟩,
        ⟨(some 103), .call (.f 36) [(.t 98), (.t 99), (.t 100), (.t 101), (.t 102)], none⟩,
        ⟨(some 15), .mov (.t 103), none⟩]) <|
     .seq
     (.region [⟨(some 104), .mov (.t 15), none⟩,
        ⟨(some 1), .mov (.t 104), none⟩]) <|
     .exit 1)
    (.skip)) <|
  .seq
  (.region [⟨(some 106), .mov (.t 0), none⟩,
     ⟨(some 107), .mov (.t 1), none⟩,
     ⟨(some 108), .mov (.t 2), none⟩,
     ⟨(some 109), .mov (.t 13), none⟩,
     ⟨(some 110), .mov (.t 4), none⟩,
     ⟨(some 111), .call (.f 37) [(.t 106), (.t 107), (.t 108), (.t 109), (.t 110)], none⟩,
     ⟨(some 105), .mov (.t 111), none⟩,
     ⟨(some 112), .extract (.t 105) 0, none⟩,
     ⟨(some 113), .extract (.t 105) 1, none⟩,
     ⟨(some 16), .mov (.t 112), none⟩,
     ⟨(some 17), .mov (.t 113), none⟩]) <|
  .seq
  (.region [⟨(some 114), .mov (.t 17), none⟩,
     ⟨(some 11), .mov (.t 114), none⟩]) <|
  .seq
  (.region [⟨(some 115), .mov (.t 16), none⟩,
     ⟨(some 116), .mov (.t 1), none⟩,
     ⟨(some 117), .bin .sub (.t 115) (.t 116), none⟩,
     ⟨(some 118), .mov (.t 2), none⟩,
     ⟨(some 119), .mov (.t 16), none⟩,
     ⟨(some 120), .bin .sub (.t 118) (.t 119), none⟩,
     ⟨(some 18), .mov (.t 117), none⟩,
     ⟨(some 19), .mov (.t 120), none⟩]) <|
  .seq
  (.region [⟨(some 121), .mov (.t 12), none⟩,
     ⟨(some 122), .bin .quo (.t 121) (.c (.int .i64 8)), none⟩,
     ⟨(some 20), .mov (.t 122), none⟩]) <|
  .seq
  (.region [⟨(some 123), .mov (.t 18), none⟩,
     ⟨(some 124), .mov (.t 19), none⟩,
     ⟨(some 125), .bin .lss (.t 123) (.t 124), none⟩]) <|
  .cond (.t 125)
   (.seq
    (.region [⟨(some 126), .mov (.t 18), none⟩,
       ⟨(some 127), .mov (.t 20), none⟩,
       ⟨(some 128), .bin .geq (.t 126) (.t 127), none⟩,
       ⟨(some 10), .mov (.t 128), none⟩]) <|
    .seq
    (.region [⟨(some 129), .mov (.t 0), none⟩,
       ⟨(some 130), .mov (.t 1), none⟩,
       ⟨(some 131), .mov (.t 16), none⟩,
       ⟨(some 132), .mov (.t 3), none⟩,
       ⟨(some 133), .mov (.t 4), none⟩,
       ⟨(some 134), .call (.f 27) [(.t 129), (.t 130), (.t 131), (.t 132), (.t 133)], none⟩]) <|
    .region [⟨(some 135), .mov (.t 16), none⟩,
      ⟨(some 136), .bin .add (.t 135) (.c (.int .i64 1)), none⟩,
      ⟨(some 1), .mov (.t 136), none⟩])
   (.seq
    (.region [⟨(some 137), .mov (.t 19), none⟩,
       ⟨(some 138), .mov (.t 20), none⟩,
       ⟨(some 139), .bin .geq (.t 137) (.t 138), none⟩,
       ⟨(some 10), .mov (.t 139), none⟩]) <|
    .seq
    (.region [⟨(some 140), .mov (.t 0), none⟩,
       ⟨(some 141), .mov (.t 16), none⟩,
       ⟨(some 142), .bin .add (.t 141) (.c (.int .i64 1)), none⟩,
       ⟨(some 143), .mov (.t 2), none⟩,
       ⟨(some 144), .mov (.t 3), none⟩,
       ⟨(some 145), .mov (.t 4), none⟩,
       ⟨(some 146), .call (.f 27) [(.t 140), (.t 142), (.t 143), (.t 144), (.t 145)], none⟩]) <|
    .region [⟨(some 147), .mov (.t 16), none⟩,
      ⟨(some 2), .mov (.t 147), none⟩]), []⟩
theorem c27 : Code1 Try.prog 27 148 b27 := Code1.mk' Try.func27 (by kernel_rfl) (by kernel_rfl) Try.ntmps27

/-- math/bits.Len -/
def b28 : IFn := ⟨
 .seq
 (.region [⟨(some 2), .mov (.c (.int .i64 0)), none⟩]) <|
 .seq
 (.cond (.c (.bool false))
   (.seq
    (.region [⟨(some 3), .mov (.t 0), none⟩,
       ⟨(some 4), .conv .u32 (.t 3), none⟩,
       ⟨(some 5), .call (.f 38) [(.t 4)], none⟩,
       ⟨(some 2), .mov (.t 5), none⟩]) <|
    .ret)
   (.skip)) <|
 .seq
 (.region [⟨(some 6), .mov (.t 0), none⟩,
    ⟨(some 7), .call (.f 39) [(.t 6)], none⟩,
    ⟨(some 2), .mov (.t 7), none⟩]) <|
 .ret, [.slot 2]⟩
theorem c28 : Code1 Try.prog 28 8 b28 := Code1.mk' Try.func28 (by kernel_rfl) (by kernel_rfl) Try.ntmps28

/-- cmp.isNaN[int] -/
def b29 : IFn := ⟨
 .seq
 (.region [⟨(some 2), .mov (.c (.bool false)), none⟩]) <|
 .seq
 (.region [⟨(some 3), .mov (.t 0), none⟩,
    ⟨(some 4), .mov (.t 0), none⟩,
    ⟨(some 5), .bin .neq (.t 3) (.t 4), none⟩,
    ⟨(some 2), .mov (.t 5), none⟩]) <|
 .ret, [.slot 2]⟩
theorem c29 : Code1 Try.prog 29 6 b29 := Code1.mk' Try.func29 (by kernel_rfl) (by kernel_rfl) Try.ntmps29

/-- slices.insertionSortCmpFunc[fusee/wheel.item] -/
def b30 : IFn := ⟨
 .seq
 (.region [⟨(some 10), .mov (.t 1), none⟩,
    ⟨(some 11), .bin .add (.t 10) (.c (.int .i64 1)), none⟩,
    ⟨(some 8), .mov (.t 11), none⟩]) <|
 .block 0 <|
 .loop [0, 1, 2, 3, 8] <|
  .seq
  (.seq
   (.region [⟨(some 12), .mov (.t 8), none⟩,
      ⟨(some 13), .mov (.t 2), none⟩,
      ⟨(some 14), .bin .lss (.t 12) (.t 13), none⟩]) <|
   .cond (.t 14)
    (.skip)
    (.exit 0)) <|
  .seq
  (.block 1 <|
   .seq
   (.region [⟨(some 17), .mov (.t 8), none⟩,
      ⟨(some 9), .mov (.t 17), none⟩]) <|
   .block 2 <|
   .loop [0, 1, 2, 3, 8, 9] <|
    .seq
    (.seq
     (.draw false [0, 1, 2, 3, 8, 9, 34] (
        .op ⟨(some 18), .mov (.t 9), none⟩ <|
        .op ⟨(some 19), .mov (.t 1), none⟩ <|
        .op ⟨(some 20), .bin .gtr (.t 18) (.t 19), none⟩ <|
        .op ⟨(some 21), .mov (.t 20), none⟩ <|
        .op ⟨(some 22), .mov (.t 3), (some (21, true))⟩ <|
        .op ⟨(some 23), .mov (.t 0), (some (21, true))⟩ <|
        .op ⟨(some 24), .mov (.t 9), (some (21, true))⟩ <|
        .op ⟨(some 25), .iaddr 3 (.t 23) (.t 24), (some (21, true))⟩ <|
        .op ⟨(some 26), .load true 3 (.t 25), (some (21, true))⟩ <|
        .op ⟨(some 27), .mov (.t 0), (some (21, true))⟩ <|
        .op ⟨(some 28), .mov (.t 9), (some (21, true))⟩ <|
        .op ⟨(some 29), .bin .sub (.t 28) (.c (.int .i64 1)), (some (21, true))⟩ <|
        .op ⟨(some 30), .iaddr 3 (.t 27) (.t 29), (some (21, true))⟩ <|
        .op ⟨(some 31), .load true 3 (.t 30), (some (21, true))⟩ <|
        .op ⟨(some 32), .call (.t 22) [(.t 26), (.t 31)], (some (21, true))⟩ <|
        .op ⟨(some 33), .bin .lss (.t 32) (.c (.int .i64 0)), (some (21, true))⟩ <|
        .op ⟨(some 34), .pick (.t 21) (.t 33) (.c (.bool false)), none⟩ <|
        .done)) <|
     .cond (.t 34)
      (.skip)
      (.exit 2)) <|
    .seq
    (.block 3 <|
     .draw false [0, 1, 2, 3, 8, 9] (
       .op ⟨(some 37), .mov (.t 0), none⟩ <|
       .op ⟨(some 38), .mov (.t 9), none⟩ <|
       .op ⟨(some 39), .mov (.t 0), none⟩ <|
       .op ⟨(some 40), .mov (.t 9), none⟩ <|
       .op ⟨(some 41), .bin .sub (.t 40) (.c (.int .i64 1)), none⟩ <|
       .op ⟨(some 42), .mov (.t 0), none⟩ <|
       .op ⟨(some 43), .mov (.t 9), none⟩ <|
       .op ⟨(some 44), .bin .sub (.t 43) (.c (.int .i64 1)), none⟩ <|
       .op ⟨(some 45), .iaddr 3 (.t 42) (.t 44), none⟩ <|
       .op ⟨(some 46), .load true 3 (.t 45), none⟩ <|
       .op ⟨(some 47), .mov (.t 0), none⟩ <|
       .op ⟨(some 48), .mov (.t 9), none⟩ <|
       .op ⟨(some 49), .iaddr 3 (.t 47) (.t 48), none⟩ <|
       .op ⟨(some 50), .load true 3 (.t 49), none⟩ <|
       .op ⟨(some 51), .iaddr 3 (.t 37) (.t 38), none⟩ <|
       .op ⟨none, .store 3 (.t 51) (.t 46), none⟩ <|
       .op ⟨(some 52), .iaddr 3 (.t 39) (.t 41), none⟩ <|
       .op ⟨none, .store 3 (.t 52) (.t 50), none⟩ <|
       .done)) <|
    .region [⟨(some 35), .mov (.t 9), none⟩,
      ⟨(some 36), .bin .sub (.t 35) (.c (.int .i64 1)), none⟩,
      ⟨(some 9), .mov (.t 36), none⟩]) <|
  .region [⟨(some 15), .mov (.t 8), none⟩,
    ⟨(some 16), .bin .add (.t 15) (.c (.int .i64 1)), none⟩,
    ⟨(some 8), .mov (.t 16), none⟩], []⟩
theorem c30 : Code1 Try.prog 30 53 b30 := Code1.mk' Try.func30 (by kernel_rfl) (by kernel_rfl) Try.ntmps30

/-- slices.heapSortCmpFunc[fusee/wheel.item] -/
def b31 : IFn := ⟨
 .seq
 (.region [⟨(some 13), .mov (.t 1), none⟩,
    ⟨(some 8), .mov (.t 13), none⟩]) <|
 .seq
 (.region [⟨(some 9), .mov (.c (.int .i64 0)), none⟩]) <|
 .seq
 (.region [⟨(some 14), .mov (.t 2), none⟩,
    ⟨(some 15), .mov (.t 1), none⟩,
    ⟨(some 16), .bin .sub (.t 14) (.t 15), none⟩,
    ⟨(some 10), .mov (.t 16), none⟩]) <|
 .seq
 (.seq
  (.region [⟨(some 17), .mov (.t 10), none⟩,
     ⟨(some 18), .bin .sub (.t 17) (.c (.int .i64 1)), none⟩,
     ⟨(some 19), .bin .quo (.t 18) (.c (.int .i64 2)), none⟩,
     ⟨(some 11), .mov (.t 19), none⟩]) <|
  .block 0 <|
  .loop [0, 3, 8, 9, 10, 11] <|
   .seq
   (.seq
    (.region [⟨(some 20), .mov (.t 11), none⟩,
       ⟨(some 21), .bin .geq (.t 20) (.c (.int .i64 0)), none⟩]) <|
    .cond (.t 21)
     (.skip)
     (.exit 0)) <|
   .seq
   (.block 1 <|
    .region [⟨(some 24), .mov (.t 0), none⟩,
      ⟨(some 25), .mov (.t 11), none⟩,
      ⟨(some 26), .mov (.t 10), none⟩,
      ⟨(some 27), .mov (.t 8), none⟩,
      ⟨(some 28), .mov (.t 3), none⟩,
      ⟨(some 29), .call (.f 40) [(.t 24), (.t 25), (.t 26), (.t 27), (.t 28)], none⟩]) <|
   .region [⟨(some 22), .mov (.t 11), none⟩,
     ⟨(some 23), .bin .sub (.t 22) (.c (.int .i64 1)), none⟩,
     ⟨(some 11), .mov (.t 23), none⟩]) <|
 .seq
 (.region [⟨(some 30), .mov (.t 10), none⟩,
    ⟨(some 31), .bin .sub (.t 30) (.c (.int .i64 1)), none⟩,
    ⟨(some 12), .mov (.t 31), none⟩]) <|
 .block 2 <|
 .loop [0, 3, 8, 9, 12] <|
  .seq
  (.seq
   (.region [⟨(some 32), .mov (.t 12), none⟩,
      ⟨(some 33), .bin .geq (.t 32) (.c (.int .i64 0)), none⟩]) <|
   .cond (.t 33)
    (.skip)
    (.exit 2)) <|
  .seq
  (.block 3 <|
   .seq
   (.draw false [0, 3, 8, 9, 12] (
      .op ⟨(some 36), .mov (.t 0), none⟩ <|
      .op ⟨(some 37), .mov (.t 8), none⟩ <|
      .op ⟨(some 38), .mov (.t 0), none⟩ <|
      .op ⟨(some 39), .mov (.t 8), none⟩ <|
      .op ⟨(some 40), .mov (.t 12), none⟩ <|
      .op ⟨(some 41), .bin .add (.t 39) (.t 40), none⟩ <|
      .op ⟨(some 42), .mov (.t 0), none⟩ <|
      .op ⟨(some 43), .mov (.t 8), none⟩ <|
      .op ⟨(some 44), .mov (.t 12), none⟩ <|
      .op ⟨(some 45), .bin .add (.t 43) (.t 44), none⟩ <|
      .op ⟨(some 46), .iaddr 3 (.t 42) (.t 45), none⟩ <|
      .op ⟨(some 47), .load true 3 (.t 46), none⟩ <|
      .op ⟨(some 48), .mov (.t 0), none⟩ <|
      .op ⟨(some 49), .mov (.t 8), none⟩ <|
      .op ⟨(some 50), .iaddr 3 (.t 48) (.t 49), none⟩ <|
      .op ⟨(some 51), .load true 3 (.t 50), none⟩ <|
      .op ⟨(some 52), .iaddr 3 (.t 36) (.t 37), none⟩ <|
      .op ⟨none, .store 3 (.t 52) (.t 47), none⟩ <|
      .op ⟨(some 53), .iaddr 3 (.t 38) (.t 41), none⟩ <|
      .op ⟨none, .store 3 (.t 53) (.t 51), none⟩ <|
      .done)) <|
   .region [⟨(some 54), .mov (.t 0), none⟩,
     ⟨(some 55), .mov (.t 9), none⟩,
     ⟨(some 56), .mov (.t 12), none⟩,
     ⟨(some 57), .mov (.t 8), none⟩,
     ⟨(some 58), .mov (.t 3), none⟩,
     ⟨(some 59), .call (.f 40) [(.t 54), (.t 55), (.t 56), (.t 57), (.t 58)], none⟩]) <|
  .region [⟨(some 34), .mov (.t 12), none⟩,
    ⟨(some 35), .bin .sub (.t 34) (.c (.int .i64 1)), none⟩,
    ⟨(some 12), .mov (.t 35), none⟩], []⟩
theorem c31 : Code1 Try.prog 31 60 b31 := Code1.mk' Try.func31 (by kernel_rfl) (by kernel_rfl) Try.ntmps31

/-- slices.breakPatternsCmpFunc[fusee/wheel.item] -/
def b32 : IFn := ⟨
 .seq
 (.region [⟨(some 13), .mov (.t 2), none⟩,
    ⟨(some 14), .mov (.t 1), none⟩,
    ⟨(some 15), .bin .sub (.t 13) (.t 14), none⟩,
    ⟨(some 8), .mov (.t 15), none⟩]) <|
 .seq
 (.region [⟨(some 16), .mov (.t 8), none⟩,
    ⟨(some 17), .bin .geq (.t 16) (.c (.int .i64 8)), none⟩]) <|
 .cond (.t 17)
  (.seq
   (.region [⟨(some 18), .mov (.t 8), none⟩,
      ⟨(some 19), .conv .u64 (.t 18), none⟩,
      ⟨(some 9), .alloc [(.int .u64 0)], none⟩,
      ⟨none, .store 1 (.t 9) (.t 19), none⟩]) <|
   .seq
   (.region [⟨(some 20), .mov (.t 8), none⟩,
      ⟨(some 21), .call (.f 41) [(.t 20)], none⟩,
      ⟨(some 10), .mov (.t 21), none⟩]) <|
   .seq
   (.region [⟨(some 22), .mov (.t 1), none⟩,
      ⟨(some 23), .mov (.t 8), none⟩,
      ⟨(some 24), .bin .quo (.t 23) (.c (.int .i64 4)), none⟩,
      ⟨(some 25), .bin .mul (.t 24) (.c (.int .i64 2)), none⟩,
      ⟨(some 26), .bin .add (.t 22) (.t 25), none⟩,
      ⟨(some 27), .bin .sub (.t 26) (.c (.int .i64 1)), none⟩,
      ⟨(some 11), .mov (.t 27), none⟩]) <|
   .block 0 <|
   .loop [0, 1, 8, 9, 10, 11] <|
    .seq
    (.seq
     (.region [⟨(some 28), .mov (.t 11), none⟩,
        ⟨(some 29), .mov (.t 1), none⟩,
        ⟨(some 30), .mov (.t 8), none⟩,
        ⟨(some 31), .bin .quo (.t 30) (.c (.int .i64 4)), none⟩,
        ⟨(some 32), .bin .mul (.t 31) (.c (.int .i64 2)), none⟩,
        ⟨(some 33), .bin .add (.t 29) (.t 32), none⟩,
        ⟨(some 34), .bin .add (.t 33) (.c (.int .i64 1)), none⟩,
        ⟨(some 35), .bin .leq (.t 28) (.t 34), none⟩]) <|
     .cond (.t 35)
      (.skip)
      (.exit 0)) <|
    .seq
    (.block 1 <|
     .seq
     (.region [⟨(some 38), .call (.f 42) [(.t 9)], none⟩,
        ⟨(some 39), .mov (.t 10), none⟩,
        ⟨(some 40), .bin .sub (.t 39) (.c (.int .u64 1)), none⟩,
        ⟨(some 41), .bin .and (.t 38) (.t 40), none⟩,
        ⟨(some 42), .conv .i64 (.t 41), none⟩,
        ⟨(some 12), .mov (.t 42), none⟩]) <|
     .seq
     (.seq
      (.region [⟨(some 43), .mov (.t 12), none⟩,
         ⟨(some 44), .mov (.t 8), none⟩,
         ⟨(some 45), .bin .geq (.t 43) (.t 44), none⟩]) <|
      .cond (.t 45)
       (.region [⟨(some 46), .mov (.t 12), none⟩,
          ⟨(some 47), .mov (.t 8), none⟩,
          ⟨(some 48), .bin .sub (.t 46) (.t 47), none⟩,
          ⟨(some 12), .mov (.t 48), none⟩])
       (.skip)) <|
     .draw false [0, 1, 8, 9, 10, 11] (
       .op ⟨(some 49), .mov (.t 0), none⟩ <|
       .op ⟨(some 50), .mov (.t 11), none⟩ <|
       .op ⟨(some 51), .mov (.t 0), none⟩ <|
       .op ⟨(some 52), .mov (.t 1), none⟩ <|
       .op ⟨(some 53), .mov (.t 12), none⟩ <|
       .op ⟨(some 54), .bin .add (.t 52) (.t 53), none⟩ <|
       .op ⟨(some 55), .mov (.t 0), none⟩ <|
       .op ⟨(some 56), .mov (.t 1), none⟩ <|
       .op ⟨(some 57), .mov (.t 12), none⟩ <|
       .op ⟨(some 58), .bin .add (.t 56) (.t 57), none⟩ <|
       .op ⟨(some 59), .iaddr 3 (.t 55) (.t 58), none⟩ <|
       .op ⟨(some 60), .load true 3 (.t 59), none⟩ <|
       .op ⟨(some 61), .mov (.t 0), none⟩ <|
       .op ⟨(some 62), .mov (.t 11), none⟩ <|
       .op ⟨(some 63), .iaddr 3 (.t 61) (.t 62), none⟩ <|
       .op ⟨(some 64), .load true 3 (.t 63), none⟩ <|
       .op ⟨(some 65), .iaddr 3 (.t 49) (.t 50), none⟩ <|
       .op ⟨none, .store 3 (.t 65) (.t 60), none⟩ <|
       .op ⟨(some 66), .iaddr 3 (.t 51) (.t 54), none⟩ <|
       .op ⟨none, .store 3 (.t 66) (.t 64), none⟩ <|
       .done)) <|
    .region [⟨(some 36), .mov (.t 11), none⟩,
      ⟨(some 37), .bin .add (.t 36) (.c (.int .i64 1)), none⟩,
      ⟨(some 11), .mov (.t 37), none⟩])
  (.skip), []⟩
theorem c32 : Code1 Try.prog 32 67 b32 := Code1.mk' Try.func32 (by kernel_rfl) (by kernel_rfl) Try.ntmps32

/-- slices.choosePivotCmpFunc[fusee/wheel.item] -/
def b33 : IFn := ⟨
 .seq
 (.region [⟨(some 8), .mov (.c (.int .i64 0)), none⟩,
    ⟨(some 9), .mov (.c (.int .i64 0)), none⟩]) <|
 .seq
 (.region [⟨(some 15), .mov (.t 2), none⟩,
    ⟨(some 16), .mov (.t 1), none⟩,
    ⟨(some 17), .bin .sub (.t 15) (.t 16), none⟩,
    ⟨(some 10), .mov (.t 17), none⟩]) <|
 .seq
 (.region [⟨(some 11), .alloc [(.int .i64 0)], none⟩]) <|
 .seq
 (.region [⟨(some 18), .mov (.t 1), none⟩,
    ⟨(some 19), .mov (.t 10), none⟩,
    ⟨(some 20), .bin .quo (.t 19) (.c (.int .i64 4)), none⟩,
    ⟨(some 21), .bin .mul (.t 20) (.c (.int .i64 1)), none⟩,
    ⟨(some 22), .bin .add (.t 18) (.t 21), none⟩,
    ⟨(some 12), .mov (.t 22), none⟩]) <|
 .seq
 (.region [⟨(some 23), .mov (.t 1), none⟩,
    ⟨(some 24), .mov (.t 10), none⟩,
    ⟨(some 25), .bin .quo (.t 24) (.c (.int .i64 4)), none⟩,
    ⟨(some 26), .bin .mul (.t 25) (.c (.int .i64 2)), none⟩,
    ⟨(some 27), .bin .add (.t 23) (.t 26), none⟩,
    ⟨(some 13), .mov (.t 27), none⟩]) <|
 .seq
 (.region [⟨(some 28), .mov (.t 1), none⟩,
    ⟨(some 29), .mov (.t 10), none⟩,
    ⟨(some 30), .bin .quo (.t 29) (.c (.int .i64 4)), none⟩,
    ⟨(some 31), .bin .mul (.t 30) (.c (.int .i64 3)), none⟩,
    ⟨(some 32), .bin .add (.t 28) (.t 31), none⟩,
    ⟨(some 14), .mov (.t 32), none⟩]) <|
 .seq
 (.seq
  (.region [⟨(some 33), .mov (.t 10), none⟩,
     ⟨(some 34), .bin .geq (.t 33) (.c (.int .i64 8)), none⟩]) <|
  .cond (.t 34)
   (.seq
    (.seq
     (.region [⟨(some 35), .mov (.t 10), none⟩,
        ⟨(some 36), .bin .geq (.t 35) (.c (.int .i64 50)), none⟩]) <|
     .cond (.t 36)
      (.seq
       (.region [⟨(some 37), .mov (.t 0), none⟩,
          ⟨(some 38), .mov (.t 12), none⟩,
          ⟨(some 39), .mov (.t 3), none⟩,
          ⟨(some 40), .call (.f 43) [(.t 37), (.t 38), (.t 11), (.t 39)], none⟩,
          ⟨(some 12), .mov (.t 40), none⟩]) <|
       .seq
       (.region [⟨(some 41), .mov (.t 0), none⟩,
          ⟨(some 42), .mov (.t 13), none⟩,
          ⟨(some 43), .mov (.t 3), none⟩,
          ⟨(some 44), .call (.f 43) [(.t 41), (.t 42), (.t 11), (.t 43)], none⟩,
          ⟨(some 13), .mov (.t 44), none⟩]) <|
       .region [⟨(some 45), .mov (.t 0), none⟩,
         ⟨(some 46), .mov (.t 14), none⟩,
         ⟨(some 47), .mov (.t 3), none⟩,
         ⟨(some 48), .call (.f 43) [(.t 45), (.t 46), (.t 11), (.t 47)], none⟩,
         ⟨(some 14), .mov (.t 48), none⟩])
      (.skip)) <|
    .region [⟨(some 49), .mov (.t 0), none⟩,
      ⟨(some 50), .mov (.t 12), none⟩,
      ⟨(some 51), .mov (.t 13), none⟩,
      ⟨(some 52), .mov (.t 14), none⟩,
      ⟨(some 53), .mov (.t 3), none⟩,
      ⟨(some 54), .call (.f 44) [(.t 49), (.t 50), (.t 51), (.t 52), (.t 11), (.t 53)], none⟩,
      ⟨(some 13), .mov (.t 54), none⟩])
   (.skip)) <|
 .seq
 (.region [⟨(some 55), .load false 1 (.t 11), none⟩]) <|
 .block 0 <|
 .seq
 (.region [⟨(some 58), .bin .eql (.t 55) (.c (.int .i64 0)), none⟩,
    ⟨(some 57), .mov (.t 58), none⟩]) <|
 .cond (.t 57)
  (.seq
   (.region [⟨(some 59), .mov (.t 13), none⟩,
      ⟨(some 8), .mov (.t 59), none⟩,
      ⟨(some 9), .mov (.c (.int .i64 1)), none⟩]) <|
   .ret)
  (.seq
   (.region [⟨(some 61), .bin .eql (.t 55) (.c (.int .i64 12)), none⟩,
      ⟨(some 60), .mov (.t 61), none⟩]) <|
   .cond (.t 60)
    (.seq
     (.region [⟨(some 62), .mov (.t 13), none⟩,
        ⟨(some 8), .mov (.t 62), none⟩,
        ⟨(some 9), .mov (.c (.int .i64 2)), none⟩]) <|
     .ret)
    (.seq
     (.region [⟨(some 56), .mov (.t 13), none⟩,
        ⟨(some 8), .mov (.t 56), none⟩,
        ⟨(some 9), .mov (.c (.int .i64 0)), none⟩]) <|
     .ret)), [.slot 8, .slot 9]⟩
theorem c33 : Code1 Try.prog 33 63 b33 := Code1.mk' Try.func33 (by kernel_rfl) (by kernel_rfl) Try.ntmps33

/-- slices.reverseRangeCmpFunc[fusee/wheel.item] -/
def b34 : IFn := ⟨
 .seq
 (.region [⟨(some 10), .mov (.t 1), none⟩,
    ⟨(some 8), .mov (.t 10), none⟩]) <|
 .seq
 (.region [⟨(some 11), .mov (.t 2), none⟩,
    ⟨(some 12), .bin .sub (.t 11) (.c (.int .i64 1)), none⟩,
    ⟨(some 9), .mov (.t 12), none⟩]) <|
 .block 0 <|
 .loop [0, 8, 9] <|
  .seq
  (.seq
   (.region [⟨(some 13), .mov (.t 8), none⟩,
      ⟨(some 14), .mov (.t 9), none⟩,
      ⟨(some 15), .bin .lss (.t 13) (.t 14), none⟩]) <|
   .cond (.t 15)
    (.skip)
    (.exit 0)) <|
  .block 1 <|
  .seq
  (.draw false [0, 8, 9] (
     .op ⟨(some 16), .mov (.t 0), none⟩ <|
     .op ⟨(some 17), .mov (.t 8), none⟩ <|
     .op ⟨(some 18), .mov (.t 0), none⟩ <|
     .op ⟨(some 19), .mov (.t 9), none⟩ <|
     .op ⟨(some 20), .mov (.t 0), none⟩ <|
     .op ⟨(some 21), .mov (.t 9), none⟩ <|
     .op ⟨(some 22), .iaddr 3 (.t 20) (.t 21), none⟩ <|
     .op ⟨(some 23), .load true 3 (.t 22), none⟩ <|
     .op ⟨(some 24), .mov (.t 0), none⟩ <|
     .op ⟨(some 25), .mov (.t 8), none⟩ <|
     .op ⟨(some 26), .iaddr 3 (.t 24) (.t 25), none⟩ <|
     .op ⟨(some 27), .load true 3 (.t 26), none⟩ <|
     .op ⟨(some 28), .iaddr 3 (.t 16) (.t 17), none⟩ <|
     .op ⟨none, .store 3 (.t 28) (.t 23), none⟩ <|
     .op ⟨(some 29), .iaddr 3 (.t 18) (.t 19), none⟩ <|
     .op ⟨none, .store 3 (.t 29) (.t 27), none⟩ <|
     .done)) <|
  .seq
  (.region [⟨(some 30), .mov (.t 8), none⟩,
     ⟨(some 31), .bin .add (.t 30) (.c (.int .i64 1)), none⟩,
     ⟨(some 8), .mov (.t 31), none⟩]) <|
  .region [⟨(some 32), .mov (.t 9), none⟩,
    ⟨(some 33), .bin .sub (.t 32) (.c (.int .i64 1)), none⟩,
    ⟨(some 9), .mov (.t 33), none⟩], []⟩
theorem c34 : Code1 Try.prog 34 34 b34 := Code1.mk' Try.func34 (by kernel_rfl) (by kernel_rfl) Try.ntmps34

/-- slices.partialInsertionSortCmpFunc[fusee/wheel.item] -/
def b35 : IFn := ⟨
 .seq
 (.region [⟨(some 8), .mov (.c (.bool false)), none⟩]) <|
 .seq
 (.region [⟨(some 13), .mov (.t 1), none⟩,
    ⟨(some 14), .bin .add (.t 13) (.c (.int .i64 1)), none⟩,
    ⟨(some 9), .mov (.t 14), none⟩]) <|
 .seq
 (.seq
  (.region [⟨(some 10), .mov (.c (.int .i64 0)), none⟩]) <|
  .block 0 <|
  .loop [0, 1, 2, 3, 9, 10] <|
   .seq
   (.seq
    (.region [⟨(some 15), .mov (.t 10), none⟩,
       ⟨(some 16), .bin .lss (.t 15) (.c (.int .i64 5)), none⟩]) <|
    .cond (.t 16)
     (.skip)
     (.exit 0)) <|
   .seq
   (.block 1 <|
    .seq
    (.block 2 <|
     .loop [0, 1, 2, 3, 9, 10] <|
      .seq
      (.seq
       (.draw false [0, 1, 2, 3, 9, 10, 36] (
          .op ⟨(some 19), .mov (.t 9), none⟩ <|
          .op ⟨(some 20), .mov (.t 2), none⟩ <|
          .op ⟨(some 21), .bin .lss (.t 19) (.t 20), none⟩ <|
          .op ⟨(some 22), .mov (.t 21), none⟩ <|
          .op ⟨(some 23), .mov (.t 3), (some (22, true))⟩ <|
          .op ⟨(some 24), .mov (.t 0), (some (22, true))⟩ <|
          .op ⟨(some 25), .mov (.t 9), (some (22, true))⟩ <|
          .op ⟨(some 26), .iaddr 3 (.t 24) (.t 25), (some (22, true))⟩ <|
          .op ⟨(some 27), .load true 3 (.t 26), (some (22, true))⟩ <|
          .op ⟨(some 28), .mov (.t 0), (some (22, true))⟩ <|
          .op ⟨(some 29), .mov (.t 9), (some (22, true))⟩ <|
          .op ⟨(some 30), .bin .sub (.t 29) (.c (.int .i64 1)), (some (22, true))⟩ <|
          .op ⟨(some 31), .iaddr 3 (.t 28) (.t 30), (some (22, true))⟩ <|
          .op ⟨(some 32), .load true 3 (.t 31), (some (22, true))⟩ <|
          .op ⟨(some 33), .call (.t 23) [(.t 27), (.t 32)], (some (22, true))⟩ <|
          .op ⟨(some 34), .bin .lss (.t 33) (.c (.int .i64 0)), (some (22, true))⟩ <|
          .op ⟨(some 35), .un .not (.t 34), (some (22, true))⟩ <|
          .op ⟨(some 36), .pick (.t 22) (.t 35) (.c (.bool false)), none⟩ <|
          .done)) <|
       .cond (.t 36)
        (.skip)
        (.exit 2)) <|
      .block 3 <|
      .region [⟨(some 37), .mov (.t 9), none⟩,
        ⟨(some 38), .bin .add (.t 37) (.c (.int .i64 1)), none⟩,
        ⟨(some 9), .mov (.t 38), none⟩]) <|
    .seq
    (.seq
     (.region [⟨(some 39), .mov (.t 9), none⟩,
        ⟨(some 40), .mov (.t 2), none⟩,
        ⟨(some 41), .bin .eql (.t 39) (.t 40), none⟩]) <|
     .cond (.t 41)
      (.seq
       (.region [⟨(some 8), .mov (.c (.bool true)), none⟩]) <|
       .ret)
      (.skip)) <|
    .seq
    (.seq
     (.region [⟨(some 42), .mov (.t 2), none⟩,
        ⟨(some 43), .mov (.t 1), none⟩,
        ⟨(some 44), .bin .sub (.t 42) (.t 43), none⟩,
        ⟨(some 45), .bin .lss (.t 44) (.c (.int .i64 50)), none⟩]) <|
     .cond (.t 45)
      (.seq
       (.region [⟨(some 8), .mov (.c (.bool false)), none⟩]) <|
       .ret)
      (.skip)) <|
    .seq
    (.draw false [0, 1, 2, 3, 9, 10] (
       .op ⟨(some 46), .mov (.t 0), none⟩ <|
       .op ⟨(some 47), .mov (.t 9), none⟩ <|
       .op ⟨(some 48), .mov (.t 0), none⟩ <|
       .op ⟨(some 49), .mov (.t 9), none⟩ <|
       .op ⟨(some 50), .bin .sub (.t 49) (.c (.int .i64 1)), none⟩ <|
       .op ⟨(some 51), .mov (.t 0), none⟩ <|
       .op ⟨(some 52), .mov (.t 9), none⟩ <|
       .op ⟨(some 53), .bin .sub (.t 52) (.c (.int .i64 1)), none⟩ <|
       .op ⟨(some 54), .iaddr 3 (.t 51) (.t 53), none⟩ <|
       .op ⟨(some 55), .load true 3 (.t 54), none⟩ <|
       .op ⟨(some 56), .mov (.t 0), none⟩ <|
       .op ⟨(some 57), .mov (.t 9), none⟩ <|
       .op ⟨(some 58), .iaddr 3 (.t 56) (.t 57), none⟩ <|
       .op ⟨(some 59), .load true 3 (.t 58), none⟩ <|
       .op ⟨(some 60), .iaddr 3 (.t 46) (.t 47), none⟩ <|
       .op ⟨none, .store 3 (.t 60) (.t 55), none⟩ <|
       .op ⟨(some 61), .iaddr 3 (.t 48) (.t 50), none⟩ <|
       .op ⟨none, .store 3 (.t 61) (.t 59), none⟩ <|
       .done)) <|
    .seq
    (.seq
     (.region [⟨(some 62), .mov (.t 9), none⟩,
        ⟨(some 63), .mov (.t 1), none⟩,
        ⟨(some 64), .bin .sub (.t 62) (.t 63), none⟩,
        ⟨(some 65), .bin .geq (.t 64) (.c (.int .i64 2)), none⟩]) <|
     .cond (.t 65)
      (.seq
       (.region [⟨(some 66), .mov (.t 9), none⟩,
          ⟨(some 67), .bin .sub (.t 66) (.c (.int .i64 1)), none⟩,
          ⟨(some 11), .mov (.t 67), none⟩]) <|
       .block 4 <|
       .loop [0, 1, 2, 3, 9, 10, 11] <|
        .seq
        (.seq
         (.region [⟨(some 68), .mov (.t 11), none⟩,
            ⟨(some 69), .bin .geq (.t 68) (.c (.int .i64 1)), none⟩]) <|
         .cond (.t 69)
          (.skip)
          (.exit 4)) <|
        .seq
        (.block 5 <|
         .seq
         (.seq
          (.draw false [0, 1, 2, 3, 9, 10, 11, 84] (
             .op ⟨(some 72), .mov (.t 3), none⟩ <|
             .op ⟨(some 73), .mov (.t 0), none⟩ <|
             .op ⟨(some 74), .mov (.t 11), none⟩ <|
             .op ⟨(some 75), .iaddr 3 (.t 73) (.t 74), none⟩ <|
             .op ⟨(some 76), .load true 3 (.t 75), none⟩ <|
             .op ⟨(some 77), .mov (.t 0), none⟩ <|
             .op ⟨(some 78), .mov (.t 11), none⟩ <|
             .op ⟨(some 79), .bin .sub (.t 78) (.c (.int .i64 1)), none⟩ <|
             .op ⟨(some 80), .iaddr 3 (.t 77) (.t 79), none⟩ <|
             .op ⟨(some 81), .load true 3 (.t 80), none⟩ <|
             .op ⟨(some 82), .call (.t 72) [(.t 76), (.t 81)], none⟩ <|
             .op ⟨(some 83), .bin .lss (.t 82) (.c (.int .i64 0)), none⟩ <|
             .op ⟨(some 84), .un .not (.t 83), none⟩ <|
             .done)) <|
          .cond (.t 84)
           (.exit 4)
           (.skip)) <|
         .draw false [0, 1, 2, 3, 9, 10, 11] (
           .op ⟨(some 85), .mov (.t 0), none⟩ <|
           .op ⟨(some 86), .mov (.t 11), none⟩ <|
           .op ⟨(some 87), .mov (.t 0), none⟩ <|
           .op ⟨(some 88), .mov (.t 11), none⟩ <|
           .op ⟨(some 89), .bin .sub (.t 88) (.c (.int .i64 1)), none⟩ <|
           .op ⟨(some 90), .mov (.t 0), none⟩ <|
           .op ⟨(some 91), .mov (.t 11), none⟩ <|
           .op ⟨(some 92), .bin .sub (.t 91) (.c (.int .i64 1)), none⟩ <|
           .op ⟨(some 93), .iaddr 3 (.t 90) (.t 92), none⟩ <|
           .op ⟨(some 94), .load true 3 (.t 93), none⟩ <|
           .op ⟨(some 95), .mov (.t 0), none⟩ <|
           .op ⟨(some 96), .mov (.t 11), none⟩ <|
           .op ⟨(some 97), .iaddr 3 (.t 95) (.t 96), none⟩ <|
           .op ⟨(some 98), .load true 3 (.t 97), none⟩ <|
           .op ⟨(some 99), .iaddr 3 (.t 85) (.t 86), none⟩ <|
           .op ⟨none, .store 3 (.t 99) (.t 94), none⟩ <|
           .op ⟨(some 100), .iaddr 3 (.t 87) (.t 89), none⟩ <|
           .op ⟨none, .store 3 (.t 100) (.t 98), none⟩ <|
           .done)) <|
        .region [⟨(some 70), .mov (.t 11), none⟩,
          ⟨(some 71), .bin .sub (.t 70) (.c (.int .i64 1)), none⟩,
          ⟨(some 11), .mov (.t 71), none⟩])
      (.skip)) <|
    .seq
    (.region [⟨(some 101), .mov (.t 2), none⟩,
       ⟨(some 102), .mov (.t 9), none⟩,
       ⟨(some 103), .bin .sub (.t 101) (.t 102), none⟩,
       ⟨(some 104), .bin .geq (.t 103) (.c (.int .i64 2)), none⟩]) <|
    .cond (.t 104)
     (.seq
      (.region [⟨(some 105), .mov (.t 9), none⟩,
         ⟨(some 106), .bin .add (.t 105) (.c (.int .i64 1)), none⟩,
         ⟨(some 12), .mov (.t 106), none⟩]) <|
      .block 6 <|
      .loop [0, 1, 2, 3, 9, 10, 12] <|
       .seq
       (.seq
        (.region [⟨(some 107), .mov (.t 12), none⟩,
           ⟨(some 108), .mov (.t 2), none⟩,
           ⟨(some 109), .bin .lss (.t 107) (.t 108), none⟩]) <|
        .cond (.t 109)
         (.skip)
         (.exit 6)) <|
       .seq
       (.block 7 <|
        .seq
        (.seq
         (.draw false [0, 1, 2, 3, 9, 10, 12, 124] (
            .op ⟨(some 112), .mov (.t 3), none⟩ <|
            .op ⟨(some 113), .mov (.t 0), none⟩ <|
            .op ⟨(some 114), .mov (.t 12), none⟩ <|
            .op ⟨(some 115), .iaddr 3 (.t 113) (.t 114), none⟩ <|
            .op ⟨(some 116), .load true 3 (.t 115), none⟩ <|
            .op ⟨(some 117), .mov (.t 0), none⟩ <|
            .op ⟨(some 118), .mov (.t 12), none⟩ <|
            .op ⟨(some 119), .bin .sub (.t 118) (.c (.int .i64 1)), none⟩ <|
            .op ⟨(some 120), .iaddr 3 (.t 117) (.t 119), none⟩ <|
            .op ⟨(some 121), .load true 3 (.t 120), none⟩ <|
            .op ⟨(some 122), .call (.t 112) [(.t 116), (.t 121)], none⟩ <|
            .op ⟨(some 123), .bin .lss (.t 122) (.c (.int .i64 0)), none⟩ <|
            .op ⟨(some 124), .un .not (.t 123), none⟩ <|
            .done)) <|
         .cond (.t 124)
          (.exit 6)
          (.skip)) <|
        .draw false [0, 1, 2, 3, 9, 10, 12] (
          .op ⟨(some 125), .mov (.t 0), none⟩ <|
          .op ⟨(some 126), .mov (.t 12), none⟩ <|
          .op ⟨(some 127), .mov (.t 0), none⟩ <|
          .op ⟨(some 128), .mov (.t 12), none⟩ <|
          .op ⟨(some 129), .bin .sub (.t 128) (.c (.int .i64 1)), none⟩ <|
          .op ⟨(some 130), .mov (.t 0), none⟩ <|
          .op ⟨(some 131), .mov (.t 12), none⟩ <|
          .op ⟨(some 132), .bin .sub (.t 131) (.c (.int .i64 1)), none⟩ <|
          .op ⟨(some 133), .iaddr 3 (.t 130) (.t 132), none⟩ <|
          .op ⟨(some 134), .load true 3 (.t 133), none⟩ <|
          .op ⟨(some 135), .mov (.t 0), none⟩ <|
          .op ⟨(some 136), .mov (.t 12), none⟩ <|
          .op ⟨(some 137), .iaddr 3 (.t 135) (.t 136), none⟩ <|
          .op ⟨(some 138), .load true 3 (.t 137), none⟩ <|
          .op ⟨(some 139), .iaddr 3 (.t 125) (.t 126), none⟩ <|
          .op ⟨none, .store 3 (.t 139) (.t 134), none⟩ <|
          .op ⟨(some 140), .iaddr 3 (.t 127) (.t 129), none⟩ <|
          .op ⟨none, .store 3 (.t 140) (.t 138), none⟩ <|
          .done)) <|
       .region [⟨(some 110), .mov (.t 12), none⟩,
         ⟨(some 111), .bin .add (.t 110) (.c (.int .i64 1)), none⟩,
         ⟨(some 12), .mov (.t 111), none⟩])
     (.skip)) <|
   .region [⟨(some 17), .mov (.t 10), none⟩,
     ⟨(some 18), .bin .add (.t 17) (.c (.int .i64 1)), none⟩,
     ⟨(some 10), .mov (.t 18), none⟩]) <|
 .seq
 (.region [⟨(some 8), .mov (.c (.bool false)), none⟩]) <|
 .ret, [.slot 8]⟩
theorem c35 : Code1 Try.prog 35 141 b35 := Code1.mk' Try.func35 (by kernel_rfl) (by kernel_rfl) Try.ntmps35

/-- slices.partitionEqualCmpFunc[fusee/wheel.item] -/
def b36 : IFn := ⟨
 .seq
 (.region [⟨(some 10), .mov (.c (.int .i64 0)), none⟩]) <|
 .seq
 (.draw false [0, 1, 2, 4] (
    .op ⟨(some 13), .mov (.t 0), none⟩ <|
    .op ⟨(some 14), .mov (.t 1), none⟩ <|
    .op ⟨(some 15), .mov (.t 0), none⟩ <|
    .op ⟨(some 16), .mov (.t 3), none⟩ <|
    .op ⟨(some 17), .mov (.t 0), none⟩ <|
    .op ⟨(some 18), .mov (.t 3), none⟩ <|
    .op ⟨(some 19), .iaddr 3 (.t 17) (.t 18), none⟩ <|
    .op ⟨(some 20), .load true 3 (.t 19), none⟩ <|
    .op ⟨(some 21), .mov (.t 0), none⟩ <|
    .op ⟨(some 22), .mov (.t 1), none⟩ <|
    .op ⟨(some 23), .iaddr 3 (.t 21) (.t 22), none⟩ <|
    .op ⟨(some 24), .load true 3 (.t 23), none⟩ <|
    .op ⟨(some 25), .iaddr 3 (.t 13) (.t 14), none⟩ <|
    .op ⟨none, .store 3 (.t 25) (.t 20), none⟩ <|
    .op ⟨(some 26), .iaddr 3 (.t 15) (.t 16), none⟩ <|
    .op ⟨none, .store 3 (.t 26) (.t 24), none⟩ <|
    .done)) <|
 .seq
 (.region [⟨(some 27), .mov (.t 1), none⟩,
    ⟨(some 28), .bin .add (.t 27) (.c (.int .i64 1)), none⟩,
    ⟨(some 29), .mov (.t 2), none⟩,
    ⟨(some 30), .bin .sub (.t 29) (.c (.int .i64 1)), none⟩,
    ⟨(some 11), .mov (.t 28), none⟩,
    ⟨(some 12), .mov (.t 30), none⟩]) <|
 .seq
 (.block 0 <|
  .loop [0, 1, 4, 11, 12] <|
   .block 1 <|
   .seq
   (.block 2 <|
    .loop [0, 1, 4, 11, 12] <|
     .seq
     (.seq
      (.draw false [0, 1, 4, 11, 12, 47] (
         .op ⟨(some 31), .mov (.t 11), none⟩ <|
         .op ⟨(some 32), .mov (.t 12), none⟩ <|
         .op ⟨(some 33), .bin .leq (.t 31) (.t 32), none⟩ <|
         .op ⟨(some 34), .mov (.t 33), none⟩ <|
         .op ⟨(some 35), .mov (.t 4), (some (34, true))⟩ <|
         .op ⟨(some 36), .mov (.t 0), (some (34, true))⟩ <|
         .op ⟨(some 37), .mov (.t 1), (some (34, true))⟩ <|
         .op ⟨(some 38), .iaddr 3 (.t 36) (.t 37), (some (34, true))⟩ <|
         .op ⟨(some 39), .load true 3 (.t 38), (some (34, true))⟩ <|
         .op ⟨(some 40), .mov (.t 0), (some (34, true))⟩ <|
         .op ⟨(some 41), .mov (.t 11), (some (34, true))⟩ <|
         .op ⟨(some 42), .iaddr 3 (.t 40) (.t 41), (some (34, true))⟩ <|
         .op ⟨(some 43), .load true 3 (.t 42), (some (34, true))⟩ <|
         .op ⟨(some 44), .call (.t 35) [(.t 39), (.t 43)], (some (34, true))⟩ <|
         .op ⟨(some 45), .bin .lss (.t 44) (.c (.int .i64 0)), (some (34, true))⟩ <|
         .op ⟨(some 46), .un .not (.t 45), (some (34, true))⟩ <|
         .op ⟨(some 47), .pick (.t 34) (.t 46) (.c (.bool false)), none⟩ <|
         .done)) <|
      .cond (.t 47)
       (.skip)
       (.exit 2)) <|
     .block 3 <|
     .region [⟨(some 48), .mov (.t 11), none⟩,
       ⟨(some 49), .bin .add (.t 48) (.c (.int .i64 1)), none⟩,
       ⟨(some 11), .mov (.t 49), none⟩]) <|
   .seq
   (.block 4 <|
    .loop [0, 1, 4, 11, 12] <|
     .seq
     (.seq
      (.draw false [0, 1, 4, 11, 12, 65] (
         .op ⟨(some 50), .mov (.t 11), none⟩ <|
         .op ⟨(some 51), .mov (.t 12), none⟩ <|
         .op ⟨(some 52), .bin .leq (.t 50) (.t 51), none⟩ <|
         .op ⟨(some 53), .mov (.t 52), none⟩ <|
         .op ⟨(some 54), .mov (.t 4), (some (53, true))⟩ <|
         .op ⟨(some 55), .mov (.t 0), (some (53, true))⟩ <|
         .op ⟨(some 56), .mov (.t 1), (some (53, true))⟩ <|
         .op ⟨(some 57), .iaddr 3 (.t 55) (.t 56), (some (53, true))⟩ <|
         .op ⟨(some 58), .load true 3 (.t 57), (some (53, true))⟩ <|
         .op ⟨(some 59), .mov (.t 0), (some (53, true))⟩ <|
         .op ⟨(some 60), .mov (.t 12), (some (53, true))⟩ <|
         .op ⟨(some 61), .iaddr 3 (.t 59) (.t 60), (some (53, true))⟩ <|
         .op ⟨(some 62), .load true 3 (.t 61), (some (53, true))⟩ <|
         .op ⟨(some 63), .call (.t 54) [(.t 58), (.t 62)], (some (53, true))⟩ <|
         .op ⟨(some 64), .bin .lss (.t 63) (.c (.int .i64 0)), (some (53, true))⟩ <|
         .op ⟨(some 65), .pick (.t 53) (.t 64) (.c (.bool false)), none⟩ <|
         .done)) <|
      .cond (.t 65)
       (.skip)
       (.exit 4)) <|
     .block 5 <|
     .region [⟨(some 66), .mov (.t 12), none⟩,
       ⟨(some 67), .bin .sub (.t 66) (.c (.int .i64 1)), none⟩,
       ⟨(some 12), .mov (.t 67), none⟩]) <|
   .seq
   (.seq
    (.region [⟨(some 68), .mov (.t 11), none⟩,
       ⟨(some 69), .mov (.t 12), none⟩,
       ⟨(some 70), .bin .gtr (.t 68) (.t 69), none⟩]) <|
    .cond (.t 70)
     (.exit 0)
     (.skip)) <|
   .seq
   (.draw false [0, 1, 4, 11, 12] (
      .op ⟨(some 71), .mov (.t 0), none⟩ <|
      .op ⟨(some 72), .mov (.t 11), none⟩ <|
      .op ⟨(some 73), .mov (.t 0), none⟩ <|
      .op ⟨(some 74), .mov (.t 12), none⟩ <|
      .op ⟨(some 75), .mov (.t 0), none⟩ <|
      .op ⟨(some 76), .mov (.t 12), none⟩ <|
      .op ⟨(some 77), .iaddr 3 (.t 75) (.t 76), none⟩ <|
      .op ⟨(some 78), .load true 3 (.t 77), none⟩ <|
      .op ⟨(some 79), .mov (.t 0), none⟩ <|
      .op ⟨(some 80), .mov (.t 11), none⟩ <|
      .op ⟨(some 81), .iaddr 3 (.t 79) (.t 80), none⟩ <|
      .op ⟨(some 82), .load true 3 (.t 81), none⟩ <|
      .op ⟨(some 83), .iaddr 3 (.t 71) (.t 72), none⟩ <|
      .op ⟨none, .store 3 (.t 83) (.t 78), none⟩ <|
      .op ⟨(some 84), .iaddr 3 (.t 73) (.t 74), none⟩ <|
      .op ⟨none, .store 3 (.t 84) (.t 82), none⟩ <|
      .done)) <|
   .seq
   (.region [⟨(some 85), .mov (.t 11), none⟩,
      ⟨(some 86), .bin .add (.t 85) (.c (.int .i64 1)), none⟩,
      ⟨(some 11), .mov (.t 86), none⟩]) <|
   .region [⟨(some 87), .mov (.t 12), none⟩,
     ⟨(some 88), .bin .sub (.t 87) (.c (.int .i64 1)), none⟩,
     ⟨(some 12), .mov (.t 88), none⟩]) <|
 .seq
 (.region [⟨(some 89), .mov (.t 11), none⟩,
    ⟨(some 10), .mov (.t 89), none⟩]) <|
 .ret, [.slot 10]⟩
theorem c36 : Code1 Try.prog 36 90 b36 := Code1.mk' Try.func36 (by kernel_rfl) (by kernel_rfl) Try.ntmps36

/-- slices.partitionCmpFunc[fusee/wheel.item] -/
def b37 : IFn := ⟨
 .seq
 (.region [⟨(some 10), .mov (.c (.int .i64 0)), none⟩,
    ⟨(some 11), .mov (.c (.bool false)), none⟩]) <|
 .seq
 (.draw false [0, 1, 2, 4] (
    .op ⟨(some 14), .mov (.t 0), none⟩ <|
    .op ⟨(some 15), .mov (.t 1), none⟩ <|
    .op ⟨(some 16), .mov (.t 0), none⟩ <|
    .op ⟨(some 17), .mov (.t 3), none⟩ <|
    .op ⟨(some 18), .mov (.t 0), none⟩ <|
    .op ⟨(some 19), .mov (.t 3), none⟩ <|
    .op ⟨(some 20), .iaddr 3 (.t 18) (.t 19), none⟩ <|
    .op ⟨(some 21), .load true 3 (.t 20), none⟩ <|
    .op ⟨(some 22), .mov (.t 0), none⟩ <|
    .op ⟨(some 23), .mov (.t 1), none⟩ <|
    .op ⟨(some 24), .iaddr 3 (.t 22) (.t 23), none⟩ <|
    .op ⟨(some 25), .load true 3 (.t 24), none⟩ <|
    .op ⟨(some 26), .iaddr 3 (.t 14) (.t 15), none⟩ <|
    .op ⟨none, .store 3 (.t 26) (.t 21), none⟩ <|
    .op ⟨(some 27), .iaddr 3 (.t 16) (.t 17), none⟩ <|
    .op ⟨none, .store 3 (.t 27) (.t 25), none⟩ <|
    .done)) <|
 .seq
 (.region [⟨(some 28), .mov (.t 1), none⟩,
    ⟨(some 29), .bin .add (.t 28) (.c (.int .i64 1)), none⟩,
    ⟨(some 30), .mov (.t 2), none⟩,
    ⟨(some 31), .bin .sub (.t 30) (.c (.int .i64 1)), none⟩,
    ⟨(some 12), .mov (.t 29), none⟩,
    ⟨(some 13), .mov (.t 31), none⟩]) <|
 .seq
 (.block 0 <|
  .loop [0, 1, 4, 12, 13] <|
   .seq
   (.seq
    (.draw false [0, 1, 4, 12, 13, 47] (
       .op ⟨(some 32), .mov (.t 12), none⟩ <|
       .op ⟨(some 33), .mov (.t 13), none⟩ <|
       .op ⟨(some 34), .bin .leq (.t 32) (.t 33), none⟩ <|
       .op ⟨(some 35), .mov (.t 34), none⟩ <|
       .op ⟨(some 36), .mov (.t 4), (some (35, true))⟩ <|
       .op ⟨(some 37), .mov (.t 0), (some (35, true))⟩ <|
       .op ⟨(some 38), .mov (.t 12), (some (35, true))⟩ <|
       .op ⟨(some 39), .iaddr 3 (.t 37) (.t 38), (some (35, true))⟩ <|
       .op ⟨(some 40), .load true 3 (.t 39), (some (35, true))⟩ <|
       .op ⟨(some 41), .mov (.t 0), (some (35, true))⟩ <|
       .op ⟨(some 42), .mov (.t 1), (some (35, true))⟩ <|
       .op ⟨(some 43), .iaddr 3 (.t 41) (.t 42), (some (35, true))⟩ <|
       .op ⟨(some 44), .load true 3 (.t 43), (some (35, true))⟩ <|
       .op ⟨(some 45), .call (.t 36) [(.t 40), (.t 44)], (some (35, true))⟩ <|
       .op ⟨(some 46), .bin .lss (.t 45) (.c (.int .i64 0)), (some (35, true))⟩ <|
       .op ⟨(some 47), .pick (.t 35) (.t 46) (.c (.bool false)), none⟩ <|
       .done)) <|
    .cond (.t 47)
     (.skip)
     (.exit 0)) <|
   .block 1 <|
   .region [⟨(some 48), .mov (.t 12), none⟩,
     ⟨(some 49), .bin .add (.t 48) (.c (.int .i64 1)), none⟩,
     ⟨(some 12), .mov (.t 49), none⟩]) <|
 .seq
 (.block 2 <|
  .loop [0, 1, 4, 12, 13] <|
   .seq
   (.seq
    (.draw false [0, 1, 4, 12, 13, 66] (
       .op ⟨(some 50), .mov (.t 12), none⟩ <|
       .op ⟨(some 51), .mov (.t 13), none⟩ <|
       .op ⟨(some 52), .bin .leq (.t 50) (.t 51), none⟩ <|
       .op ⟨(some 53), .mov (.t 52), none⟩ <|
       .op ⟨(some 54), .mov (.t 4), (some (53, true))⟩ <|
       .op ⟨(some 55), .mov (.t 0), (some (53, true))⟩ <|
       .op ⟨(some 56), .mov (.t 13), (some (53, true))⟩ <|
       .op ⟨(some 57), .iaddr 3 (.t 55) (.t 56), (some (53, true))⟩ <|
       .op ⟨(some 58), .load true 3 (.t 57), (some (53, true))⟩ <|
       .op ⟨(some 59), .mov (.t 0), (some (53, true))⟩ <|
       .op ⟨(some 60), .mov (.t 1), (some (53, true))⟩ <|
       .op ⟨(some 61), .iaddr 3 (.t 59) (.t 60), (some (53, true))⟩ <|
       .op ⟨(some 62), .load true 3 (.t 61), (some (53, true))⟩ <|
       .op ⟨(some 63), .call (.t 54) [(.t 58), (.t 62)], (some (53, true))⟩ <|
       .op ⟨(some 64), .bin .lss (.t 63) (.c (.int .i64 0)), (some (53, true))⟩ <|
       .op ⟨(some 65), .un .not (.t 64), (some (53, true))⟩ <|
       .op ⟨(some 66), .pick (.t 53) (.t 65) (.c (.bool false)), none⟩ <|
       .done)) <|
    .cond (.t 66)
     (.skip)
     (.exit 2)) <|
   .block 3 <|
   .region [⟨(some 67), .mov (.t 13), none⟩,
     ⟨(some 68), .bin .sub (.t 67) (.c (.int .i64 1)), none⟩,
     ⟨(some 13), .mov (.t 68), none⟩]) <|
 .seq
 (.seq
  (.region [⟨(some 69), .mov (.t 12), none⟩,
     ⟨(some 70), .mov (.t 13), none⟩,
     ⟨(some 71), .bin .gtr (.t 69) (.t 70), none⟩]) <|
  .cond (.t 71)
   (.seq
    (.draw false [13] (
       .op ⟨(some 72), .mov (.t 0), none⟩ <|
       .op ⟨(some 73), .mov (.t 13), none⟩ <|
       .op ⟨(some 74), .mov (.t 0), none⟩ <|
       .op ⟨(some 75), .mov (.t 1), none⟩ <|
       .op ⟨(some 76), .mov (.t 0), none⟩ <|
       .op ⟨(some 77), .mov (.t 1), none⟩ <|
       .op ⟨(some 78), .iaddr 3 (.t 76) (.t 77), none⟩ <|
       .op ⟨(some 79), .load true 3 (.t 78), none⟩ <|
       .op ⟨(some 80), .mov (.t 0), none⟩ <|
       .op ⟨(some 81), .mov (.t 13), none⟩ <|
       .op ⟨(some 82), .iaddr 3 (.t 80) (.t 81), none⟩ <|
       .op ⟨(some 83), .load true 3 (.t 82), none⟩ <|
       .op ⟨(some 84), .iaddr 3 (.t 72) (.t 73), none⟩ <|
       .op ⟨none, .store 3 (.t 84) (.t 79), none⟩ <|
       .op ⟨(some 85), .iaddr 3 (.t 74) (.t 75), none⟩ <|
       .op ⟨none, .store 3 (.t 85) (.t 83), none⟩ <|
       .done)) <|
    .seq
    (.region [⟨(some 86), .mov (.t 13), none⟩,
       ⟨(some 10), .mov (.t 86), none⟩,
       ⟨(some 11), .mov (.c (.bool true)), none⟩]) <|
    .ret)
   (.skip)) <|
 .seq
 (.draw false [0, 1, 4, 12, 13] (
    .op ⟨(some 87), .mov (.t 0), none⟩ <|
    .op ⟨(some 88), .mov (.t 12), none⟩ <|
    .op ⟨(some 89), .mov (.t 0), none⟩ <|
    .op ⟨(some 90), .mov (.t 13), none⟩ <|
    .op ⟨(some 91), .mov (.t 0), none⟩ <|
    .op ⟨(some 92), .mov (.t 13), none⟩ <|
    .op ⟨(some 93), .iaddr 3 (.t 91) (.t 92), none⟩ <|
    .op ⟨(some 94), .load true 3 (.t 93), none⟩ <|
    .op ⟨(some 95), .mov (.t 0), none⟩ <|
    .op ⟨(some 96), .mov (.t 12), none⟩ <|
    .op ⟨(some 97), .iaddr 3 (.t 95) (.t 96), none⟩ <|
    .op ⟨(some 98), .load true 3 (.t 97), none⟩ <|
    .op ⟨(some 99), .iaddr 3 (.t 87) (.t 88), none⟩ <|
    .op ⟨none, .store 3 (.t 99) (.t 94), none⟩ <|
    .op ⟨(some 100), .iaddr 3 (.t 89) (.t 90), none⟩ <|
    .op ⟨none, .store 3 (.t 100) (.t 98), none⟩ <|
    .done)) <|
 .seq
 (.region [⟨(some 101), .mov (.t 12), none⟩,
    ⟨(some 102), .bin .add (.t 101) (.c (.int .i64 1)), none⟩,
    ⟨(some 12), .mov (.t 102), none⟩]) <|
 .seq
 (.region [⟨(some 103), .mov (.t 13), none⟩,
    ⟨(some 104), .bin .sub (.t 103) (.c (.int .i64 1)), none⟩,
    ⟨(some 13), .mov (.t 104), none⟩]) <|
 .seq
 (.block 4 <|
  .loop [0, 1, 4, 12, 13] <|
   .block 5 <|
   .seq
   (.block 6 <|
    .loop [0, 1, 4, 12, 13] <|
     .seq
     (.seq
      (.draw false [0, 1, 4, 12, 13, 120] (
         .op ⟨(some 105), .mov (.t 12), none⟩ <|
         .op ⟨(some 106), .mov (.t 13), none⟩ <|
         .op ⟨(some 107), .bin .leq (.t 105) (.t 106), none⟩ <|
         .op ⟨(some 108), .mov (.t 107), none⟩ <|
         .op ⟨(some 109), .mov (.t 4), (some (108, true))⟩ <|
         .op ⟨(some 110), .mov (.t 0), (some (108, true))⟩ <|
         .op ⟨(some 111), .mov (.t 12), (some (108, true))⟩ <|
         .op ⟨(some 112), .iaddr 3 (.t 110) (.t 111), (some (108, true))⟩ <|
         .op ⟨(some 113), .load true 3 (.t 112), (some (108, true))⟩ <|
         .op ⟨(some 114), .mov (.t 0), (some (108, true))⟩ <|
         .op ⟨(some 115), .mov (.t 1), (some (108, true))⟩ <|
         .op ⟨(some 116), .iaddr 3 (.t 114) (.t 115), (some (108, true))⟩ <|
         .op ⟨(some 117), .load true 3 (.t 116), (some (108, true))⟩ <|
         .op ⟨(some 118), .call (.t 109) [(.t 113), (.t 117)], (some (108, true))⟩ <|
         .op ⟨(some 119), .bin .lss (.t 118) (.c (.int .i64 0)), (some (108, true))⟩ <|
         .op ⟨(some 120), .pick (.t 108) (.t 119) (.c (.bool false)), none⟩ <|
         .done)) <|
      .cond (.t 120)
       (.skip)
       (.exit 6)) <|
     .block 7 <|
     .region [⟨(some 121), .mov (.t 12), none⟩,
       ⟨(some 122), .bin .add (.t 121) (.c (.int .i64 1)), none⟩,
       ⟨(some 12), .mov (.t 122), none⟩]) <|
   .seq
   (.block 8 <|
    .loop [0, 1, 4, 12, 13] <|
     .seq
     (.seq
      (.draw false [0, 1, 4, 12, 13, 139] (
         .op ⟨(some 123), .mov (.t 12), none⟩ <|
         .op ⟨(some 124), .mov (.t 13), none⟩ <|
         .op ⟨(some 125), .bin .leq (.t 123) (.t 124), none⟩ <|
         .op ⟨(some 126), .mov (.t 125), none⟩ <|
         .op ⟨(some 127), .mov (.t 4), (some (126, true))⟩ <|
         .op ⟨(some 128), .mov (.t 0), (some (126, true))⟩ <|
         .op ⟨(some 129), .mov (.t 13), (some (126, true))⟩ <|
         .op ⟨(some 130), .iaddr 3 (.t 128) (.t 129), (some (126, true))⟩ <|
         .op ⟨(some 131), .load true 3 (.t 130), (some (126, true))⟩ <|
         .op ⟨(some 132), .mov (.t 0), (some (126, true))⟩ <|
         .op ⟨(some 133), .mov (.t 1), (some (126, true))⟩ <|
         .op ⟨(some 134), .iaddr 3 (.t 132) (.t 133), (some (126, true))⟩ <|
         .op ⟨(some 135), .load true 3 (.t 134), (some (126, true))⟩ <|
         .op ⟨(some 136), .call (.t 127) [(.t 131), (.t 135)], (some (126, true))⟩ <|
         .op ⟨(some 137), .bin .lss (.t 136) (.c (.int .i64 0)), (some (126, true))⟩ <|
         .op ⟨(some 138), .un .not (.t 137), (some (126, true))⟩ <|
         .op ⟨(some 139), .pick (.t 126) (.t 138) (.c (.bool false)), none⟩ <|
         .done)) <|
      .cond (.t 139)
       (.skip)
       (.exit 8)) <|
     .block 9 <|
     .region [⟨(some 140), .mov (.t 13), none⟩,
       ⟨(some 141), .bin .sub (.t 140) (.c (.int .i64 1)), none⟩,
       ⟨(some 13), .mov (.t 141), none⟩]) <|
   .seq
   (.seq
    (.region [⟨(some 142), .mov (.t 12), none⟩,
       ⟨(some 143), .mov (.t 13), none⟩,
       ⟨(some 144), .bin .gtr (.t 142) (.t 143), none⟩]) <|
    .cond (.t 144)
     (.exit 4)
     (.skip)) <|
   .seq
   (.draw false [0, 1, 4, 12, 13] (
      .op ⟨(some 145), .mov (.t 0), none⟩ <|
      .op ⟨(some 146), .mov (.t 12), none⟩ <|
      .op ⟨(some 147), .mov (.t 0), none⟩ <|
      .op ⟨(some 148), .mov (.t 13), none⟩ <|
      .op ⟨(some 149), .mov (.t 0), none⟩ <|
      .op ⟨(some 150), .mov (.t 13), none⟩ <|
      .op ⟨(some 151), .iaddr 3 (.t 149) (.t 150), none⟩ <|
      .op ⟨(some 152), .load true 3 (.t 151), none⟩ <|
      .op ⟨(some 153), .mov (.t 0), none⟩ <|
      .op ⟨(some 154), .mov (.t 12), none⟩ <|
      .op ⟨(some 155), .iaddr 3 (.t 153) (.t 154), none⟩ <|
      .op ⟨(some 156), .load true 3 (.t 155), none⟩ <|
      .op ⟨(some 157), .iaddr 3 (.t 145) (.t 146), none⟩ <|
      .op ⟨none, .store 3 (.t 157) (.t 152), none⟩ <|
      .op ⟨(some 158), .iaddr 3 (.t 147) (.t 148), none⟩ <|
      .op ⟨none, .store 3 (.t 158) (.t 156), none⟩ <|
      .done)) <|
   .seq
   (.region [⟨(some 159), .mov (.t 12), none⟩,
      ⟨(some 160), .bin .add (.t 159) (.c (.int .i64 1)), none⟩,
      ⟨(some 12), .mov (.t 160), none⟩]) <|
   .region [⟨(some 161), .mov (.t 13), none⟩,
     ⟨(some 162), .bin .sub (.t 161) (.c (.int .i64 1)), none⟩,
     ⟨(some 13), .mov (.t 162), none⟩]) <|
 .seq
 (.draw false [13] (
    .op ⟨(some 163), .mov (.t 0), none⟩ <|
    .op ⟨(some 164), .mov (.t 13), none⟩ <|
    .op ⟨(some 165), .mov (.t 0), none⟩ <|
    .op ⟨(some 166), .mov (.t 1), none⟩ <|
    .op ⟨(some 167), .mov (.t 0), none⟩ <|
    .op ⟨(some 168), .mov (.t 1), none⟩ <|
    .op ⟨(some 169), .iaddr 3 (.t 167) (.t 168), none⟩ <|
    .op ⟨(some 170), .load true 3 (.t 169), none⟩ <|
    .op ⟨(some 171), .mov (.t 0), none⟩ <|
    .op ⟨(some 172), .mov (.t 13), none⟩ <|
    .op ⟨(some 173), .iaddr 3 (.t 171) (.t 172), none⟩ <|
    .op ⟨(some 174), .load true 3 (.t 173), none⟩ <|
    .op ⟨(some 175), .iaddr 3 (.t 163) (.t 164), none⟩ <|
    .op ⟨none, .store 3 (.t 175) (.t 170), none⟩ <|
    .op ⟨(some 176), .iaddr 3 (.t 165) (.t 166), none⟩ <|
    .op ⟨none, .store 3 (.t 176) (.t 174), none⟩ <|
    .done)) <|
 .seq
 (.region [⟨(some 177), .mov (.t 13), none⟩,
    ⟨(some 10), .mov (.t 177), none⟩,
    ⟨(some 11), .mov (.c (.bool false)), none⟩]) <|
 .ret, [.slot 10, .slot 11]⟩
theorem c37 : Code1 Try.prog 37 178 b37 := Code1.mk' Try.func37 (by kernel_rfl) (by kernel_rfl) Try.ntmps37

/-- math/bits.Len32 -/
def b38 : IFn := ⟨
 .seq
 (.region [⟨(some 2), .mov (.c (.int .i64 0)), none⟩]) <|
 .seq
 (.seq
  (.region [⟨(some 3), .mov (.t 0), none⟩,
     ⟨(some 4), .bin .geq (.t 3) (.c (.int .u32 65536)), none⟩]) <|
  .cond (.t 4)
   (.seq
    (.region [⟨(some 5), .mov (.t 0), none⟩,
       ⟨(some 6), .bin .shr (.t 5) (.c (.int .u64 16)), none⟩,
       ⟨(some 0), .mov (.t 6), none⟩]) <|
    .region [⟨(some 2), .mov (.c (.int .i64 16)), none⟩])
   (.skip)) <|
 .seq
 (.seq
  (.region [⟨(some 7), .mov (.t 0), none⟩,
     ⟨(some 8), .bin .geq (.t 7) (.c (.int .u32 256)), none⟩]) <|
  .cond (.t 8)
   (.seq
    (.region [⟨(some 9), .mov (.t 0), none⟩,
       ⟨(some 10), .bin .shr (.t 9) (.c (.int .u64 8)), none⟩,
       ⟨(some 0), .mov (.t 10), none⟩]) <|
    .region [⟨(some 11), .mov (.t 2), none⟩,
      ⟨(some 12), .bin .add (.t 11) (.c (.int .i64 8)), none⟩,
      ⟨(some 2), .mov (.t 12), none⟩])
   (.skip)) <|
 .seq
 (.region [⟨(some 13), .mov (.t 2), none⟩,
    ⟨(some 14), .mov (.t 0), none⟩,
    ⟨(some 15), .conv .u8 (.t 14), none⟩,
    ⟨(some 16), .indexS (.c (.str ⟨#[0, 1, 2, 2, 3, 3, 3, 3, 4, 4, 4, 4, 4, 4, 4, 4, 5, 5, 5, 5, 5, 5, 5, 5, 5, 5, 5, 5, 5, 5, 5, 5, 6, 6, 6, 6, 6, 6, 6, 6, 6, 6, 6, 6, 6, 6, 6, 6, 6, 6, 6, 6, 6, 6, 6, 6, 6, 6, 6, 6, 6, 6, 6, 6, 7, 7, 7, 7, 7, 7, 7, 7, 7, 7, 7, 7, 7, 7, 7, 7, 7, 7, 7, 7, 7, 7, 7, 7, 7, 7, 7, 7, 7, 7, 7, 7, 7, 7, 7, 7, 7, 7, 7, 7, 7, 7, 7, 7, 7, 7, 7, 7, 7, 7, 7, 7, 7, 7, 7, 7, 7, 7, 7, 7, 7, 7, 7, 7, 8, 8, 8, 8, 8, 8, 8, 8, 8, 8, 8, 8, 8, 8, 8, 8, 8, 8, 8, 8, 8, 8, 8, 8, 8, 8, 8, 8, 8, 8, 8, 8, 8, 8, 8, 8, 8, 8, 8, 8, 8, 8, 8, 8, 8, 8, 8, 8, 8, 8, 8, 8, 8, 8, 8, 8, 8, 8, 8, 8, 8, 8, 8, 8, 8, 8, 8, 8, 8, 8, 8, 8, 8, 8, 8, 8, 8, 8, 8, 8, 8, 8, 8, 8, 8, 8, 8, 8, 8, 8, 8, 8, 8, 8, 8, 8, 8, 8, 8, 8, 8, 8, 8, 8, 8, 8, 8, 8, 8, 8, 8, 8, 8, 8, 8, 8, 8, 8, 8, 8, 8, 8, 8, 8, 8, 8, 8, 8]⟩)) (.t 15), none⟩,
    ⟨(some 17), .conv .i64 (.t 16), none⟩,
    ⟨(some 18), .bin .add (.t 13) (.t 17), none⟩,
    ⟨(some 2), .mov (.t 18), none⟩]) <|
 .ret, [.slot 2]⟩
theorem c38 : Code1 Try.prog 38 19 b38 := Code1.mk' Try.func38 (by kernel_rfl) (by kernel_rfl) Try.ntmps38

/-- math/bits.Len64 -/
def b39 : IFn := ⟨
 .seq
 (.region [⟨(some 2), .mov (.c (.int .i64 0)), none⟩]) <|
 .seq
 (.seq
  (.region [⟨(some 3), .mov (.t 0), none⟩,
     ⟨(some 4), .bin .geq (.t 3) (.c (.int .u64 4294967296)), none⟩]) <|
  .cond (.t 4)
   (.seq
    (.region [⟨(some 5), .mov (.t 0), none⟩,
       ⟨(some 6), .bin .shr (.t 5) (.c (.int .u64 32)), none⟩,
       ⟨(some 0), .mov (.t 6), none⟩]) <|
    .region [⟨(some 2), .mov (.c (.int .i64 32)), none⟩])
   (.skip)) <|
 .seq
 (.seq
  (.region [⟨(some 7), .mov (.t 0), none⟩,
     ⟨(some 8), .bin .geq (.t 7) (.c (.int .u64 65536)), none⟩]) <|
  .cond (.t 8)
   (.seq
    (.region [⟨(some 9), .mov (.t 0), none⟩,
       ⟨(some 10), .bin .shr (.t 9) (.c (.int .u64 16)), none⟩,
       ⟨(some 0), .mov (.t 10), none⟩]) <|
    .region [⟨(some 11), .mov (.t 2), none⟩,
      ⟨(some 12), .bin .add (.t 11) (.c (.int .i64 16)), none⟩,
      ⟨(some 2), .mov (.t 12), none⟩])
   (.skip)) <|
 .seq
 (.seq
  (.region [⟨(some 13), .mov (.t 0), none⟩,
     ⟨(some 14), .bin .geq (.t 13) (.c (.int .u64 256)), none⟩]) <|
  .cond (.t 14)
   (.seq
    (.region [⟨(some 15), .mov (.t 0), none⟩,
       ⟨(some 16), .bin .shr (.t 15) (.c (.int .u64 8)), none⟩,
       ⟨(some 0), .mov (.t 16), none⟩]) <|
    .region [⟨(some 17), .mov (.t 2), none⟩,
      ⟨(some 18), .bin .add (.t 17) (.c (.int .i64 8)), none⟩,
      ⟨(some 2), .mov (.t 18), none⟩])
   (.skip)) <|
 .seq
 (.region [⟨(some 19), .mov (.t 2), none⟩,
    ⟨(some 20), .mov (.t 0), none⟩,
    ⟨(some 21), .conv .u8 (.t 20), none⟩,
    ⟨(some 22), .indexS (.c (.str ⟨#[0, 1, 2, 2, 3, 3, 3, 3, 4, 4, 4, 4, 4, 4, 4, 4, 5, 5, 5, 5, 5, 5, 5, 5, 5, 5, 5, 5, 5, 5, 5, 5, 6, 6, 6, 6, 6, 6, 6, 6, 6, 6, 6, 6, 6, 6, 6, 6, 6, 6, 6, 6, 6, 6, 6, 6, 6, 6, 6, 6, 6, 6, 6, 6, 7, 7, 7, 7, 7, 7, 7, 7, 7, 7, 7, 7, 7, 7, 7, 7, 7, 7, 7, 7, 7, 7, 7, 7, 7, 7, 7, 7, 7, 7, 7, 7, 7, 7, 7, 7, 7, 7, 7, 7, 7, 7, 7, 7, 7, 7, 7, 7, 7, 7, 7, 7, 7, 7, 7, 7, 7, 7, 7, 7, 7, 7, 7, 7, 8, 8, 8, 8, 8, 8, 8, 8, 8, 8, 8, 8, 8, 8, 8, 8, 8, 8, 8, 8, 8, 8, 8, 8, 8, 8, 8, 8, 8, 8, 8, 8, 8, 8, 8, 8, 8, 8, 8, 8, 8, 8, 8, 8, 8, 8, 8, 8, 8, 8, 8, 8, 8, 8, 8, 8, 8, 8, 8, 8, 8, 8, 8, 8, 8, 8, 8, 8, 8, 8, 8, 8, 8, 8, 8, 8, 8, 8, 8, 8, 8, 8, 8, 8, 8, 8, 8, 8, 8, 8, 8, 8, 8, 8, 8, 8, 8, 8, 8, 8, 8, 8, 8, 8, 8, 8, 8, 8, 8, 8, 8, 8, 8, 8, 8, 8, 8, 8, 8, 8, 8, 8, 8, 8, 8, 8, 8, 8]⟩)) (.t 21), none⟩,
    ⟨(some 23), .conv .i64 (.t 22), none⟩,
    ⟨(some 24), .bin .add (.t 19) (.t 23), none⟩,
    ⟨(some 2), .mov (.t 24), none⟩]) <|
 .ret, [.slot 2]⟩
theorem c39 : Code1 Try.prog 39 25 b39 := Code1.mk' Try.func39 (by kernel_rfl) (by kernel_rfl) Try.ntmps39

/-- slices.siftDownCmpFunc[fusee/wheel.item] -/
def b40 : IFn := ⟨
 .seq
 (.region [⟨(some 12), .mov (.t 1), none⟩,
    ⟨(some 10), .mov (.t 12), none⟩]) <|
 .block 0 <|
 .loop [0, 2, 3, 4, 10] <|
  .block 1 <|
  .seq
  (.region [⟨(some 13), .mov (.t 10), none⟩,
     ⟨(some 14), .bin .mul (.c (.int .i64 2)) (.t 13), none⟩,
     ⟨(some 15), .bin .add (.t 14) (.c (.int .i64 1)), none⟩,
     ⟨(some 11), .mov (.t 15), none⟩]) <|
  .seq
  (.seq
   (.region [⟨(some 16), .mov (.t 11), none⟩,
      ⟨(some 17), .mov (.t 2), none⟩,
      ⟨(some 18), .bin .geq (.t 16) (.t 17), none⟩]) <|
   .cond (.t 18)
    (.exit 0)
    (.skip)) <|
  .seq
  (.seq
   (.draw false [0, 2, 3, 4, 10, 11, 40] (
      .op ⟨(some 19), .mov (.t 11), none⟩ <|
      .op ⟨(some 20), .bin .add (.t 19) (.c (.int .i64 1)), none⟩ <|
      .op ⟨(some 21), .mov (.t 2), none⟩ <|
      .op ⟨(some 22), .bin .lss (.t 20) (.t 21), none⟩ <|
      .op ⟨(some 23), .mov (.t 22), none⟩ <|
      .op ⟨(some 24), .mov (.t 4), (some (23, true))⟩ <|
      .op ⟨(some 25), .mov (.t 0), (some (23, true))⟩ <|
      .op ⟨(some 26), .mov (.t 3), (some (23, true))⟩ <|
      .op ⟨(some 27), .mov (.t 11), (some (23, true))⟩ <|
      .op ⟨(some 28), .bin .add (.t 26) (.t 27), (some (23, true))⟩ <|
      .op ⟨(some 29), .iaddr 3 (.t 25) (.t 28), (some (23, true))⟩ <|
      .op ⟨(some 30), .load true 3 (.t 29), (some (23, true))⟩ <|
      .op ⟨(some 31), .mov (.t 0), (some (23, true))⟩ <|
      .op ⟨(some 32), .mov (.t 3), (some (23, true))⟩ <|
      .op ⟨(some 33), .mov (.t 11), (some (23, true))⟩ <|
      .op ⟨(some 34), .bin .add (.t 32) (.t 33), (some (23, true))⟩ <|
      .op ⟨(some 35), .bin .add (.t 34) (.c (.int .i64 1)), (some (23, true))⟩ <|
      .op ⟨(some 36), .iaddr 3 (.t 31) (.t 35), (some (23, true))⟩ <|
      .op ⟨(some 37), .load true 3 (.t 36), (some (23, true))⟩ <|
      .op ⟨(some 38), .call (.t 24) [(.t 30), (.t 37)], (some (23, true))⟩ <|
      .op ⟨(some 39), .bin .lss (.t 38) (.c (.int .i64 0)), (some (23, true))⟩ <|
      .op ⟨(some 40), .pick (.t 23) (.t 39) (.c (.bool false)), none⟩ <|
      .done)) <|
   .cond (.t 40)
    (.region [⟨(some 41), .mov (.t 11), none⟩,
       ⟨(some 42), .bin .add (.t 41) (.c (.int .i64 1)), none⟩,
       ⟨(some 11), .mov (.t 42), none⟩])
    (.skip)) <|
  .seq
  (.seq
   (.draw false [0, 2, 3, 4, 10, 11, 58] (
      .op ⟨(some 43), .mov (.t 4), none⟩ <|
      .op ⟨(some 44), .mov (.t 0), none⟩ <|
      .op ⟨(some 45), .mov (.t 3), none⟩ <|
      .op ⟨(some 46), .mov (.t 10), none⟩ <|
      .op ⟨(some 47), .bin .add (.t 45) (.t 46), none⟩ <|
      .op ⟨(some 48), .iaddr 3 (.t 44) (.t 47), none⟩ <|
      .op ⟨(some 49), .load true 3 (.t 48), none⟩ <|
      .op ⟨(some 50), .mov (.t 0), none⟩ <|
      .op ⟨(some 51), .mov (.t 3), none⟩ <|
      .op ⟨(some 52), .mov (.t 11), none⟩ <|
      .op ⟨(some 53), .bin .add (.t 51) (.t 52), none⟩ <|
      .op ⟨(some 54), .iaddr 3 (.t 50) (.t 53), none⟩ <|
      .op ⟨(some 55), .load true 3 (.t 54), none⟩ <|
      .op ⟨(some 56), .call (.t 43) [(.t 49), (.t 55)], none⟩ <|
      .op ⟨(some 57), .bin .lss (.t 56) (.c (.int .i64 0)), none⟩ <|
      .op ⟨(some 58), .un .not (.t 57), none⟩ <|
      .done)) <|
   .cond (.t 58)
    (.ret)
    (.skip)) <|
  .seq
  (.draw false [0, 2, 3, 4, 11] (
     .op ⟨(some 59), .mov (.t 0), none⟩ <|
     .op ⟨(some 60), .mov (.t 3), none⟩ <|
     .op ⟨(some 61), .mov (.t 10), none⟩ <|
     .op ⟨(some 62), .bin .add (.t 60) (.t 61), none⟩ <|
     .op ⟨(some 63), .mov (.t 0), none⟩ <|
     .op ⟨(some 64), .mov (.t 3), none⟩ <|
     .op ⟨(some 65), .mov (.t 11), none⟩ <|
     .op ⟨(some 66), .bin .add (.t 64) (.t 65), none⟩ <|
     .op ⟨(some 67), .mov (.t 0), none⟩ <|
     .op ⟨(some 68), .mov (.t 3), none⟩ <|
     .op ⟨(some 69), .mov (.t 11), none⟩ <|
     .op ⟨(some 70), .bin .add (.t 68) (.t 69), none⟩ <|
     .op ⟨(some 71), .iaddr 3 (.t 67) (.t 70), none⟩ <|
     .op ⟨(some 72), .load true 3 (.t 71), none⟩ <|
     .op ⟨(some 73), .mov (.t 0), none⟩ <|
     .op ⟨(some 74), .mov (.t 3), none⟩ <|
     .op ⟨(some 75), .mov (.t 10), none⟩ <|
     .op ⟨(some 76), .bin .add (.t 74) (.t 75), none⟩ <|
     .op ⟨(some 77), .iaddr 3 (.t 73) (.t 76), none⟩ <|
     .op ⟨(some 78), .load true 3 (.t 77), none⟩ <|
     .op ⟨(some 79), .iaddr 3 (.t 59) (.t 62), none⟩ <|
     .op ⟨none, .store 3 (.t 79) (.t 72), none⟩ <|
     .op ⟨(some 80), .iaddr 3 (.t 63) (.t 66), none⟩ <|
     .op ⟨none, .store 3 (.t 80) (.t 78), none⟩ <|
     .done)) <|
  .region [⟨(some 81), .mov (.t 11), none⟩,
    ⟨(some 10), .mov (.t 81), none⟩], []⟩
theorem c40 : Code1 Try.prog 40 82 b40 := Code1.mk' Try.func40 (by kernel_rfl) (by kernel_rfl) Try.ntmps40

/-- slices.nextPowerOfTwo -/
def b41 : IFn := ⟨
 .seq
 (.region [⟨(some 2), .mov (.c (.int .u64 0)), none⟩]) <|
 .seq
 (.region [⟨(some 3), .mov (.t 0), none⟩,
    ⟨(some 4), .conv .u64 (.t 3), none⟩,
    ⟨(some 5), .call (.f 28) [(.t 4)], none⟩,
    ⟨(some 6), .bin .shl (.c (.int .u64 1)) (.t 5), none⟩,
    ⟨(some 2), .mov (.t 6), none⟩]) <|
 .ret, [.slot 2]⟩
theorem c41 : Code1 Try.prog 41 7 b41 := Code1.mk' Try.func41 (by kernel_rfl) (by kernel_rfl) Try.ntmps41

/-- slices.xorshift.Next -/
def b42 : IFn := ⟨
 .seq
 (.region [⟨(some 2), .mov (.c (.int .u64 0)), none⟩]) <|
 .seq
 (.draw false [0] (
    .op ⟨(some 3), .mov (.t 0), none⟩ <|
    .op ⟨(some 4), .nilck (.t 3), none⟩ <|
    .op ⟨(some 5), .load false 1 (.t 4), none⟩ <|
    .op ⟨(some 6), .mov (.t 0), none⟩ <|
    .op ⟨(some 7), .nilck (.t 6), none⟩ <|
    .op ⟨(some 8), .load false 1 (.t 7), none⟩ <|
    .op ⟨(some 9), .bin .shl (.t 8) (.c (.int .u64 13)), none⟩ <|
    .op ⟨(some 10), .bin .xor (.t 5) (.t 9), none⟩ <|
    .op ⟨(some 11), .nilck (.t 3), none⟩ <|
    .op ⟨none, .store 1 (.t 11) (.t 10), none⟩ <|
    .done)) <|
 .seq
 (.draw false [0] (
    .op ⟨(some 12), .mov (.t 0), none⟩ <|
    .op ⟨(some 13), .nilck (.t 12), none⟩ <|
    .op ⟨(some 14), .load false 1 (.t 13), none⟩ <|
    .op ⟨(some 15), .mov (.t 0), none⟩ <|
    .op ⟨(some 16), .nilck (.t 15), none⟩ <|
    .op ⟨(some 17), .load false 1 (.t 16), none⟩ <|
    .op ⟨(some 18), .bin .shr (.t 17) (.c (.int .u64 7)), none⟩ <|
    .op ⟨(some 19), .bin .xor (.t 14) (.t 18), none⟩ <|
    .op ⟨(some 20), .nilck (.t 12), none⟩ <|
    .op ⟨none, .store 1 (.t 20) (.t 19), none⟩ <|
    .done)) <|
 .seq
 (.draw false [0] (
    .op ⟨(some 21), .mov (.t 0), none⟩ <|
    .op ⟨(some 22), .nilck (.t 21), none⟩ <|
    .op ⟨(some 23), .load false 1 (.t 22), none⟩ <|
    .op ⟨(some 24), .mov (.t 0), none⟩ <|
    .op ⟨(some 25), .nilck (.t 24), none⟩ <|
    .op ⟨(some 26), .load false 1 (.t 25), none⟩ <|
    .op ⟨(some 27), .bin .shl (.t 26) (.c (.int .u64 17)), none⟩ <|
    .op ⟨(some 28), .bin .xor (.t 23) (.t 27), none⟩ <|
    .op ⟨(some 29), .nilck (.t 21), none⟩ <|
    .op ⟨none, .store 1 (.t 29) (.t 28), none⟩ <|
    .done)) <|
 .seq
 (.region [⟨(some 30), .mov (.t 0), none⟩,
    ⟨(some 31), .nilck (.t 30), none⟩,
    ⟨(some 32), .load false 1 (.t 31), none⟩,
    ⟨(some 2), .mov (.t 32), none⟩]) <|
 .ret, [.slot 2]⟩
theorem c42 : Code1 Try.prog 42 33 b42 := Code1.mk' Try.func42 (by kernel_rfl) (by kernel_rfl) Try.ntmps42

/-- slices.medianAdjacentCmpFunc[fusee/wheel.item] -/
def b43 : IFn := ⟨
 .seq
 (.region [⟨(some 8), .mov (.c (.int .i64 0)), none⟩]) <|
 .seq
 (.region [⟨(some 9), .mov (.t 0), none⟩,
    ⟨(some 10), .mov (.t 1), none⟩,
    ⟨(some 11), .bin .sub (.t 10) (.c (.int .i64 1)), none⟩,
    ⟨(some 12), .mov (.t 1), none⟩,
    ⟨(some 13), .mov (.t 1), none⟩,
    ⟨(some 14), .bin .add (.t 13) (.c (.int .i64 1)), none⟩,
    ⟨(some 15), .mov (.t 2), none⟩,
    ⟨(some 16), .mov (.t 3), none⟩,
    ⟨(some 17), .call (.f 44) [(.t 9), (.t 11), (.t 12), (.t 14), (.t 15), (.t 16)], none⟩,
    ⟨(some 8), .mov (.t 17), none⟩]) <|
 .ret, [.slot 8]⟩
theorem c43 : Code1 Try.prog 43 18 b43 := Code1.mk' Try.func43 (by kernel_rfl) (by kernel_rfl) Try.ntmps43

/-- slices.medianCmpFunc[fusee/wheel.item] -/
def b44 : IFn := ⟨
 .seq
 (.region [⟨(some 12), .mov (.c (.int .i64 0)), none⟩]) <|
 .seq
 (.region [⟨(some 14), .mov (.t 0), none⟩,
    ⟨(some 15), .mov (.t 1), none⟩,
    ⟨(some 16), .mov (.t 2), none⟩,
    ⟨(some 17), .mov (.t 4), none⟩,
    ⟨(some 18), .mov (.t 5), none⟩,
    ⟨(some 19), .call (.f 45) [(.t 14), (.t 15), (.t 16), (.t 17), (.t 18)], none⟩,
    ⟨(some 13), .mov (.t 19), none⟩,
    ⟨(some 20), .extract (.t 13) 0, none⟩,
    ⟨(some 21), .extract (.t 13) 1, none⟩,
    ⟨(some 1), .mov (.t 20), none⟩,
    ⟨(some 2), .mov (.t 21), none⟩]) <|
 .seq
 (.region [⟨(some 23), .mov (.t 0), none⟩,
    ⟨(some 24), .mov (.t 2), none⟩,
    ⟨(some 25), .mov (.t 3), none⟩,
    ⟨(some 26), .mov (.t 4), none⟩,
    ⟨(some 27), .mov (.t 5), none⟩,
    ⟨(some 28), .call (.f 45) [(.t 23), (.t 24), (.t 25), (.t 26), (.t 27)], none⟩,
    ⟨(some 22), .mov (.t 28), none⟩,
    ⟨(some 29), .extract (.t 22) 0, none⟩,
    ⟨(some 30), .extract (.t 22) 1, none⟩,
    ⟨(some 2), .mov (.t 29), none⟩,
    ⟨(some 3), .mov (.t 30), none⟩]) <|
 .seq
 (.region [⟨(some 32), .mov (.t 0), none⟩,
    ⟨(some 33), .mov (.t 1), none⟩,
    ⟨(some 34), .mov (.t 2), none⟩,
    ⟨(some 35), .mov (.t 4), none⟩,
    ⟨(some 36), .mov (.t 5), none⟩,
    ⟨(some 37), .call (.f 45) [(.t 32), (.t 33), (.t 34), (.t 35), (.t 36)], none⟩,
    ⟨(some 31), .mov (.t 37), none⟩,
    ⟨(some 38), .extract (.t 31) 0, none⟩,
    ⟨(some 39), .extract (.t 31) 1, none⟩,
    ⟨(some 1), .mov (.t 38), none⟩,
    ⟨(some 2), .mov (.t 39), none⟩]) <|
 .seq
 (.region [⟨(some 40), .mov (.t 2), none⟩,
    ⟨(some 12), .mov (.t 40), none⟩]) <|
 .ret, [.slot 12]⟩
theorem c44 : Code1 Try.prog 44 41 b44 := Code1.mk' Try.func44 (by kernel_rfl) (by kernel_rfl) Try.ntmps44

/-- slices.order2CmpFunc[fusee/wheel.item] -/
def b45 : IFn := ⟨
 .seq
 (.region [⟨(some 10), .mov (.c (.int .i64 0)), none⟩,
    ⟨(some 11), .mov (.c (.int .i64 0)), none⟩]) <|
 .seq
 (.seq
  (.draw false [1, 2, 3, 22] (
     .op ⟨(some 12), .mov (.t 4), none⟩ <|
     .op ⟨(some 13), .mov (.t 0), none⟩ <|
     .op ⟨(some 14), .mov (.t 2), none⟩ <|
     .op ⟨(some 15), .iaddr 3 (.t 13) (.t 14), none⟩ <|
     .op ⟨(some 16), .load true 3 (.t 15), none⟩ <|
     .op ⟨(some 17), .mov (.t 0), none⟩ <|
     .op ⟨(some 18), .mov (.t 1), none⟩ <|
     .op ⟨(some 19), .iaddr 3 (.t 17) (.t 18), none⟩ <|
     .op ⟨(some 20), .load true 3 (.t 19), none⟩ <|
     .op ⟨(some 21), .call (.t 12) [(.t 16), (.t 20)], none⟩ <|
     .op ⟨(some 22), .bin .lss (.t 21) (.c (.int .i64 0)), none⟩ <|
     .done)) <|
  .cond (.t 22)
   (.seq
    (.region [⟨(some 23), .mov (.t 3), none⟩,
       ⟨(some 24), .nilck (.t 23), none⟩,
       ⟨(some 25), .load false 1 (.t 24), none⟩,
       ⟨(some 26), .bin .add (.t 25) (.c (.int .i64 1)), none⟩,
       ⟨(some 27), .nilck (.t 23), none⟩,
       ⟨none, .store 1 (.t 27) (.t 26), none⟩]) <|
    .seq
    (.region [⟨(some 28), .mov (.t 2), none⟩,
       ⟨(some 29), .mov (.t 1), none⟩,
       ⟨(some 10), .mov (.t 28), none⟩,
       ⟨(some 11), .mov (.t 29), none⟩]) <|
    .ret)
   (.skip)) <|
 .seq
 (.region [⟨(some 30), .mov (.t 1), none⟩,
    ⟨(some 31), .mov (.t 2), none⟩,
    ⟨(some 10), .mov (.t 30), none⟩,
    ⟨(some 11), .mov (.t 31), none⟩]) <|
 .ret, [.slot 10, .slot 11]⟩
theorem c45 : Code1 Try.prog 45 32 b45 := Code1.mk' Try.func45 (by kernel_rfl) (by kernel_rfl) Try.ntmps45

/-- The functions that the facts at the head of each statement call. -/
abbrev code : CodeL := [(6, 91, b6), (7, 4, b7), (8, 67, b8), (9, 19, b9), (10, 10, b10), (11, 37, b11), (14, 27, b14), (15, 28, b15), (16, 9, b16), (17, 16, b17), (18, 78, b18), (19, 42, b19), (20, 42, b20), (21, 8, b21), (22, 52, b22), (23, 14, b23), (24, 10, b24), (25, 20, b25), (26, 19, b26), (27, 148, b27), (28, 8, b28), (29, 6, b29), (30, 53, b30), (31, 60, b31), (32, 67, b32), (33, 63, b33), (34, 34, b34), (35, 141, b35), (36, 90, b36), (37, 178, b37), (38, 19, b38), (39, 25, b39), (40, 82, b40), (41, 7, b41), (42, 33, b42), (43, 18, b43), (44, 41, b44), (45, 32, b45)]
theorem codeOk : CodeOk Try.prog code := ⟨c6, c7, c8, c9, c10, c11, c14, c15, c16, c17, c18, c19, c20, c21, c22, c23, c24, c25, c26, c27, c28, c29, c30, c31, c32, c33, c34, c35, c36, c37, c38, c39, c40, c41, c42, c43, c44, c45, trivial⟩

end Go.Proofs.Ytkpdpdpilggcfaa
