/-
  THE CODE of the functions of this seat, as the plain machine's; each is what the compiler makes of the program's.
-/
import Derived.Test.YthmnfbgcjaoncaaChecked
import Derived.Test.YthmnfbgcjaoncaaAm15
import Derived.KernelRfl
namespace Go.Proofs.Ythmnfbgcjaoncaa
open Go Go.AM
set_option linter.unusedVariables false

theorem hm : Try.prog.follows .mixedOrders = true := by kernel_rfl

/-- fusee/fuseelaw23.GcraBound -/
def b3 : IFn := ⟨
 .seq
 (.region [⟨(some 10), .mov (.c (.bool false)), none⟩]) <|
 .seq
 (.seq
  (.region [⟨(some 21), .call (.f 5) [], none⟩,
     ⟨(some 22), .un .not (.t 21), none⟩]) <|
  .cond (.t 22)
   (.seq
    (.region [⟨(some 10), .mov (.c (.bool false)), none⟩]) <|
    .ret)
   (.skip)) <|
 .seq
 (.seq
  (.region [⟨(some 23), .mov (.t 2), none⟩,
     ⟨(some 24), .len .sl (.t 23), none⟩,
     ⟨(some 25), .bin .gtr (.t 24) (.c (.int .i64 200)), none⟩]) <|
  .cond (.t 25)
   (.seq
    (.region [⟨(some 10), .mov (.c (.bool true)), none⟩]) <|
    .ret)
   (.skip)) <|
 .seq
 (.region [⟨(some 26), .mov (.t 0), none⟩,
    ⟨(some 27), .conv .i64 (.t 26), none⟩,
    ⟨(some 28), .bin .add (.c (.int .i64 1)) (.t 27), none⟩,
    ⟨(some 11), .mov (.t 28), none⟩]) <|
 .seq
 (.region [⟨(some 29), .mov (.t 11), none⟩,
    ⟨(some 30), .mov (.t 1), none⟩,
    ⟨(some 31), .conv .i64 (.t 30), none⟩,
    ⟨(some 32), .call (.f 6) [(.t 29), (.t 31)], none⟩,
    ⟨(some 12), .mov (.t 32), none⟩]) <|
 .seq
 (.region [⟨(some 33), .mov (.t 3), none⟩,
    ⟨(some 34), .mov (.t 4), none⟩,
    ⟨(some 35), .min [(.t 33), (.t 34)], none⟩,
    ⟨(some 36), .conv .i64 (.t 35), none⟩,
    ⟨(some 37), .mov (.t 3), none⟩,
    ⟨(some 38), .mov (.t 4), none⟩,
    ⟨(some 39), .max [(.t 37), (.t 38)], none⟩,
    ⟨(some 40), .conv .i64 (.t 39), none⟩,
    ⟨(some 13), .mov (.t 36), none⟩,
    ⟨(some 14), .mov (.t 40), none⟩]) <|
 .seq
 (.region [⟨(some 15), .mov (.c (.int .i64 0)), none⟩,
    ⟨(some 16), .mov (.c (.int .i64 0)), none⟩,
    ⟨(some 17), .mov (.c (.int .i64 0)), none⟩,
    ⟨(some 18), .mov (.c (.int .i64 0)), none⟩]) <|
 .seq
 (.seq
  (.region [⟨(some 41), .mov (.t 2), none⟩,
     ⟨(some 42), .len .sl (.t 41), none⟩,
     ⟨(some 43), .mov (.c (.int .i64 0)), none⟩]) <|
  .block 0 <|
  .loop [2, 11, 12, 13, 14, 15, 16, 17, 18, 41, 42, 43] <|
   .seq
   (.region [⟨(some 44), .bin .lss (.t 43) (.t 42), none⟩]) <|
   .seq
   (.cond (.t 44)
     (.skip)
     (.exit 0)) <|
   .seq
   (.block 1 <|
    .seq
    (.region [⟨(some 45), .mov (.t 43), none⟩,
       ⟨(some 46), .iaddr 1 (.t 41) (.t 43), none⟩,
       ⟨(some 47), .load false 1 (.t 46), none⟩,
       ⟨(some 19), .mov (.t 45), none⟩,
       ⟨(some 20), .mov (.t 47), none⟩]) <|
    .seq
    (.region [⟨(some 48), .mov (.t 15), none⟩,
       ⟨(some 49), .mov (.t 20), none⟩,
       ⟨(some 50), .bin .rem (.t 49) (.c (.int .u8 16)), none⟩,
       ⟨(some 51), .conv .i64 (.t 50), none⟩,
       ⟨(some 52), .bin .add (.t 48) (.t 51), none⟩,
       ⟨(some 15), .mov (.t 52), none⟩]) <|
    .seq
    (.seq
     (.region [⟨(some 53), .mov (.t 19), none⟩,
        ⟨(some 54), .mov (.t 13), none⟩,
        ⟨(some 55), .bin .eql (.t 53) (.t 54), none⟩]) <|
     .cond (.t 55)
      (.region [⟨(some 56), .mov (.t 15), none⟩,
         ⟨(some 16), .mov (.t 56), none⟩])
      (.skip)) <|
    .seq
    (.seq
     (.region [⟨(some 57), .mov (.t 12), none⟩,
        ⟨(some 58), .mov (.t 15), none⟩,
        ⟨(some 59), .call (.f 7) [(.t 57), (.t 58)], none⟩,
        ⟨(some 60), .mov (.t 59), none⟩,
        ⟨(some 61), .mov (.t 19), (some (60, true))⟩,
        ⟨(some 62), .mov (.t 13), (some (60, true))⟩,
        ⟨(some 63), .bin .geq (.t 61) (.t 62), (some (60, true))⟩,
        ⟨(some 64), .pick (.t 60) (.t 63) (.c (.bool false)), none⟩,
        ⟨(some 65), .mov (.t 64), none⟩,
        ⟨(some 66), .mov (.t 19), (some (65, true))⟩,
        ⟨(some 67), .mov (.t 14), (some (65, true))⟩,
        ⟨(some 68), .bin .leq (.t 66) (.t 67), (some (65, true))⟩,
        ⟨(some 69), .pick (.t 65) (.t 68) (.c (.bool false)), none⟩]) <|
     .cond (.t 69)
      (.region [⟨(some 70), .mov (.t 18), none⟩,
         ⟨(some 71), .bin .add (.t 70) (.c (.int .i64 1)), none⟩,
         ⟨(some 18), .mov (.t 71), none⟩])
      (.skip)) <|
    .seq
    (.region [⟨(some 72), .mov (.t 19), none⟩,
       ⟨(some 73), .mov (.t 14), none⟩,
       ⟨(some 74), .bin .leq (.t 72) (.t 73), none⟩]) <|
    .cond (.t 74)
     (.region [⟨(some 75), .mov (.t 15), none⟩,
        ⟨(some 17), .mov (.t 75), none⟩])
     (.skip)) <|
   .region [⟨(some 76), .bin .add (.t 43) (.c (.int .i64 1)), none⟩,
     ⟨(some 43), .mov (.t 76), none⟩]) <|
 .seq
 (.draw false [10] (
    .op ⟨(some 77), .mov (.t 13), none⟩ <|
    .op ⟨(some 78), .mov (.t 2), none⟩ <|
    .op ⟨(some 79), .len .sl (.t 78), none⟩ <|
    .op ⟨(some 80), .bin .geq (.t 77) (.t 79), none⟩ <|
    .op ⟨(some 81), .mov (.t 80), none⟩ <|
    .op ⟨(some 82), .mov (.t 18), (some (81, false))⟩ <|
    .op ⟨(some 83), .mov (.t 17), (some (81, false))⟩ <|
    .op ⟨(some 84), .mov (.t 16), (some (81, false))⟩ <|
    .op ⟨(some 85), .bin .sub (.t 83) (.t 84), (some (81, false))⟩ <|
    .op ⟨(some 86), .mov (.t 11), (some (81, false))⟩ <|
    .op ⟨(some 87), .bin .quo (.t 85) (.t 86), (some (81, false))⟩ <|
    .op ⟨(some 88), .mov (.t 12), (some (81, false))⟩ <|
    .op ⟨(some 89), .call (.f 8) [(.t 88)], (some (81, false))⟩ <|
    .op ⟨(some 90), .bin .add (.t 87) (.t 89), (some (81, false))⟩ <|
    .op ⟨(some 91), .bin .add (.t 90) (.c (.int .i64 1)), (some (81, false))⟩ <|
    .op ⟨(some 92), .bin .leq (.t 82) (.t 91), (some (81, false))⟩ <|
    .op ⟨(some 93), .pick (.t 81) (.c (.bool true)) (.t 92), none⟩ <|
    .op ⟨(some 10), .mov (.t 93), none⟩ <|
    .done)) <|
 .ret, [.slot 10]⟩
theorem c3 : Code1 Try.prog 3 94 b3 := Code1.mk' Try.func3 (by kernel_rfl) (by kernel_rfl) Try.ntmps3

/-- fusee/fuseelaw23.GcraWaits -/
def b4 : IFn := ⟨
 .seq
 (.region [⟨(some 6), .mov (.c (.bool false)), none⟩]) <|
 .seq
 (.seq
  (.region [⟨(some 12), .call (.f 5) [], none⟩,
     ⟨(some 13), .un .not (.t 12), none⟩]) <|
  .cond (.t 13)
   (.seq
    (.region [⟨(some 6), .mov (.c (.bool false)), none⟩]) <|
    .ret)
   (.skip)) <|
 .seq
 (.seq
  (.region [⟨(some 14), .mov (.t 2), none⟩,
     ⟨(some 15), .len .sl (.t 14), none⟩,
     ⟨(some 16), .bin .gtr (.t 15) (.c (.int .i64 100)), none⟩]) <|
  .cond (.t 16)
   (.seq
    (.region [⟨(some 6), .mov (.c (.bool true)), none⟩]) <|
    .ret)
   (.skip)) <|
 .seq
 (.region [⟨(some 17), .mov (.t 0), none⟩,
    ⟨(some 18), .conv .i64 (.t 17), none⟩,
    ⟨(some 19), .bin .add (.c (.int .i64 1)) (.t 18), none⟩,
    ⟨(some 20), .mov (.t 1), none⟩,
    ⟨(some 21), .conv .i64 (.t 20), none⟩,
    ⟨(some 22), .call (.f 6) [(.t 19), (.t 21)], none⟩,
    ⟨(some 7), .mov (.t 22), none⟩]) <|
 .seq
 (.region [⟨(some 8), .mov (.c (.int .i64 0)), none⟩]) <|
 .seq
 (.seq
  (.region [⟨(some 23), .mov (.t 2), none⟩,
     ⟨(some 24), .len .sl (.t 23), none⟩,
     ⟨(some 25), .mov (.c (.int .i64 0)), none⟩]) <|
  .block 0 <|
  .loop [7, 8, 23, 24, 25] <|
   .seq
   (.region [⟨(some 26), .bin .lss (.t 25) (.t 24), none⟩]) <|
   .seq
   (.cond (.t 26)
     (.skip)
     (.exit 0)) <|
   .seq
   (.block 1 <|
    .seq
    (.region [⟨(some 27), .iaddr 1 (.t 23) (.t 25), none⟩,
       ⟨(some 28), .load false 1 (.t 27), none⟩,
       ⟨(some 10), .mov (.t 28), none⟩]) <|
    .seq
    (.region [⟨(some 29), .mov (.t 8), none⟩,
       ⟨(some 30), .mov (.t 10), none⟩,
       ⟨(some 31), .conv .i64 (.t 30), none⟩,
       ⟨(some 32), .bin .add (.t 29) (.t 31), none⟩,
       ⟨(some 8), .mov (.t 32), none⟩]) <|
    .seq
    (.region [⟨(some 33), .mov (.t 7), none⟩,
       ⟨(some 34), .mov (.t 8), none⟩,
       ⟨(some 35), .call (.f 9) [(.t 33), (.t 34)], none⟩,
       ⟨(some 11), .mov (.t 35), none⟩]) <|
    .seq
    (.seq
     (.region [⟨(some 36), .mov (.t 11), none⟩,
        ⟨(some 37), .bin .gtr (.t 36) (.c (.int .i64 0)), none⟩,
        ⟨(some 38), .mov (.t 37), none⟩,
        ⟨(some 39), .mov (.t 7), (some (38, true))⟩,
        ⟨(some 40), .mov (.t 8), (some (38, true))⟩,
        ⟨(some 41), .mov (.t 11), (some (38, true))⟩,
        ⟨(some 42), .bin .add (.t 40) (.t 41), (some (38, true))⟩,
        ⟨(some 43), .bin .sub (.t 42) (.c (.int .i64 1)), (some (38, true))⟩,
        ⟨(some 44), .call (.f 7) [(.t 39), (.t 43)], (some (38, true))⟩,
        ⟨(some 45), .pick (.t 38) (.t 44) (.c (.bool false)), none⟩]) <|
     .cond (.t 45)
      (.seq
       (.region [⟨(some 6), .mov (.c (.bool false)), none⟩]) <|
       .ret)
      (.skip)) <|
    .seq
    (.region [⟨(some 46), .mov (.t 8), none⟩,
       ⟨(some 47), .mov (.t 11), none⟩,
       ⟨(some 48), .bin .add (.t 46) (.t 47), none⟩,
       ⟨(some 8), .mov (.t 48), none⟩]) <|
    .seq
    (.region [⟨(some 49), .mov (.t 7), none⟩,
       ⟨(some 50), .mov (.t 8), none⟩,
       ⟨(some 51), .call (.f 7) [(.t 49), (.t 50)], none⟩,
       ⟨(some 52), .un .not (.t 51), none⟩]) <|
    .cond (.t 52)
     (.seq
      (.region [⟨(some 6), .mov (.c (.bool false)), none⟩]) <|
      .ret)
     (.skip)) <|
   .region [⟨(some 53), .bin .add (.t 25) (.c (.int .i64 1)), none⟩,
     ⟨(some 25), .mov (.t 53), none⟩]) <|
 .seq
 (.region [⟨(some 6), .mov (.c (.bool true)), none⟩]) <|
 .ret, [.slot 6]⟩
theorem c4 : Code1 Try.prog 4 54 b4 := Code1.mk' Try.func4 (by kernel_rfl) (by kernel_rfl) Try.ntmps4

/-- fusee/fuseelaw23.fixed -/
def b5 : IFn := ⟨
 .seq
 (.region [⟨(some 0), .mov (.c (.bool false)), none⟩]) <|
 .seq
 (.region [⟨(some 8), .call (.f 6) [(.c (.int .i64 10)), (.c (.int .i64 15))], none⟩,
    ⟨(some 1), .mov (.t 8), none⟩]) <|
 .seq
 (.region [⟨(some 9), .mov (.t 1), none⟩,
    ⟨(some 10), .call (.f 7) [(.t 9), (.c (.int .i64 0))], none⟩,
    ⟨(some 11), .mov (.t 1), none⟩,
    ⟨(some 12), .call (.f 7) [(.t 11), (.c (.int .i64 0))], none⟩,
    ⟨(some 13), .mov (.t 1), none⟩,
    ⟨(some 14), .call (.f 7) [(.t 13), (.c (.int .i64 0))], none⟩,
    ⟨(some 2), .mov (.t 10), none⟩,
    ⟨(some 3), .mov (.t 12), none⟩,
    ⟨(some 4), .mov (.t 14), none⟩]) <|
 .seq
 (.region [⟨(some 15), .mov (.t 1), none⟩,
    ⟨(some 16), .call (.f 9) [(.t 15), (.c (.int .i64 0))], none⟩,
    ⟨(some 5), .mov (.t 16), none⟩]) <|
 .seq
 (.region [⟨(some 17), .mov (.t 1), none⟩,
    ⟨(some 18), .call (.f 10) [(.t 17), (.c (.int .i64 5)), (.c (.int .i64 9))], none⟩,
    ⟨(some 6), .mov (.t 18), none⟩]) <|
 .seq
 (.region [⟨(some 7), .mov (.c (.ptr none)), none⟩]) <|
 .seq
 (.region [⟨(some 19), .mov (.t 2), none⟩,
    ⟨(some 20), .mov (.t 19), none⟩,
    ⟨(some 21), .mov (.t 3), (some (20, true))⟩,
    ⟨(some 22), .pick (.t 20) (.t 21) (.c (.bool false)), none⟩,
    ⟨(some 23), .mov (.t 22), none⟩,
    ⟨(some 24), .mov (.t 4), (some (23, true))⟩,
    ⟨(some 25), .un .not (.t 24), (some (23, true))⟩,
    ⟨(some 26), .pick (.t 23) (.t 25) (.c (.bool false)), none⟩,
    ⟨(some 27), .mov (.t 26), none⟩,
    ⟨(some 28), .mov (.t 5), (some (27, true))⟩,
    ⟨(some 29), .bin .eql (.t 28) (.c (.int .i64 5)), (some (27, true))⟩,
    ⟨(some 30), .pick (.t 27) (.t 29) (.c (.bool false)), none⟩,
    ⟨(some 31), .mov (.t 30), none⟩,
    ⟨(some 32), .mov (.t 6), (some (31, true))⟩,
    ⟨(some 33), .bin .eql (.t 32) (.c (.int .i64 1)), (some (31, true))⟩,
    ⟨(some 34), .pick (.t 31) (.t 33) (.c (.bool false)), none⟩,
    ⟨(some 35), .mov (.t 34), none⟩,
    ⟨(some 36), .mov (.t 1), (some (35, true))⟩,
    ⟨(some 37), .call (.f 11) [(.t 36)], (some (35, true))⟩,
    ⟨(some 38), .bin .eql (.t 37) (.c (.int .i64 30)), (some (35, true))⟩,
    ⟨(some 39), .pick (.t 35) (.t 38) (.c (.bool false)), none⟩,
    ⟨(some 40), .mov (.t 39), none⟩,
    ⟨(some 41), .mov (.t 1), (some (40, true))⟩,
    ⟨(some 42), .call (.f 8) [(.t 41)], (some (40, true))⟩,
    ⟨(some 43), .bin .eql (.t 42) (.c (.int .i64 2)), (some (40, true))⟩,
    ⟨(some 44), .pick (.t 40) (.t 43) (.c (.bool false)), none⟩,
    ⟨(some 45), .mov (.t 44), none⟩,
    ⟨(some 46), .call (.f 6) [(.c (.int .i64 0)), (.c (.int .i64 1))], (some (45, true))⟩,
    ⟨(some 47), .eq false false [.ptr] (.t 46) (.c (.ptr none)), (some (45, true))⟩,
    ⟨(some 48), .pick (.t 45) (.t 47) (.c (.bool false)), none⟩,
    ⟨(some 49), .mov (.t 48), none⟩,
    ⟨(some 50), .mov (.t 7), (some (49, true))⟩,
    ⟨(some 51), .call (.f 7) [(.t 50), (.c (.int .i64 1))], (some (49, true))⟩,
    ⟨(some 52), .un .not (.t 51), (some (49, true))⟩,
    ⟨(some 53), .pick (.t 49) (.t 52) (.c (.bool false)), none⟩,
    ⟨(some 54), .mov (.t 53), none⟩,
    ⟨(some 55), .mov (.t 7), (some (54, true))⟩,
    ⟨(some 56), .call (.f 9) [(.t 55), (.c (.int .i64 1))], (some (54, true))⟩,
    ⟨(some 57), .bin .eql (.t 56) (.c (.int .i64 4611686018427387903)), (some (54, true))⟩,
    ⟨(some 58), .pick (.t 54) (.t 57) (.c (.bool false)), none⟩,
    ⟨(some 59), .mov (.t 58), none⟩,
    ⟨(some 60), .mov (.t 7), (some (59, true))⟩,
    ⟨(some 61), .call (.f 8) [(.t 60)], (some (59, true))⟩,
    ⟨(some 62), .mov (.t 7), (some (59, true))⟩,
    ⟨(some 63), .call (.f 11) [(.t 62)], (some (59, true))⟩,
    ⟨(some 64), .bin .add (.t 61) (.t 63), (some (59, true))⟩,
    ⟨(some 65), .mov (.t 7), (some (59, true))⟩,
    ⟨(some 66), .call (.f 10) [(.t 65), (.c (.int .i64 1)), (.c (.int .i64 1))], (some (59, true))⟩,
    ⟨(some 67), .bin .add (.t 64) (.t 66), (some (59, true))⟩,
    ⟨(some 68), .bin .eql (.t 67) (.c (.int .i64 0)), (some (59, true))⟩,
    ⟨(some 69), .pick (.t 59) (.t 68) (.c (.bool false)), none⟩,
    ⟨(some 0), .mov (.t 69), none⟩]) <|
 .ret, [.slot 0]⟩
theorem c5 : Code1 Try.prog 5 70 b5 := Code1.mk' Try.func5 (by kernel_rfl) (by kernel_rfl) Try.ntmps5

/-- fusee/gcra.New -/
def b6 : IFn := ⟨
 .seq
 (.region [⟨(some 4), .mov (.c (.ptr none)), none⟩]) <|
 .seq
 (.seq
  (.region [⟨(some 5), .mov (.t 0), none⟩,
     ⟨(some 6), .bin .lss (.t 5) (.c (.int .i64 1)), none⟩,
     ⟨(some 7), .mov (.t 6), none⟩,
     ⟨(some 8), .mov (.t 0), (some (7, false))⟩,
     ⟨(some 9), .bin .gtr (.t 8) (.c (.int .i64 1099511627776)), (some (7, false))⟩,
     ⟨(some 10), .pick (.t 7) (.c (.bool true)) (.t 9), none⟩,
     ⟨(some 11), .mov (.t 10), none⟩,
     ⟨(some 12), .mov (.t 1), (some (11, false))⟩,
     ⟨(some 13), .bin .lss (.t 12) (.c (.int .i64 0)), (some (11, false))⟩,
     ⟨(some 14), .pick (.t 11) (.c (.bool true)) (.t 13), none⟩,
     ⟨(some 15), .mov (.t 14), none⟩,
     ⟨(some 16), .mov (.t 1), (some (15, false))⟩,
     ⟨(some 17), .bin .gtr (.t 16) (.c (.int .i64 1125899906842624)), (some (15, false))⟩,
     ⟨(some 18), .pick (.t 15) (.c (.bool true)) (.t 17), none⟩]) <|
  .cond (.t 18)
   (.seq
    (.region [⟨(some 4), .mov (.c (.ptr none)), none⟩]) <|
    .ret)
   (.skip)) <|
 .seq
 (.region [⟨(some 19), .mov (.t 0), none⟩,
    ⟨(some 20), .mov (.t 1), none⟩,
    ⟨(some 21), .build [(.int .i64 0), (.int .i64 0), (.int .i64 0), (.int .i64 0)] [(0, 1, (.t 19)), (1, 1, (.t 20)), (3, 1, (.c (.int .i64 (-4611686018427387903))))], none⟩,
    ⟨(some 22), .box (.t 21), none⟩,
    ⟨(some 4), .mov (.t 22), none⟩]) <|
 .ret, [.slot 4]⟩
theorem c6 : Code1 Try.prog 6 23 b6 := Code1.mk' Try.func6 (by kernel_rfl) (by kernel_rfl) Try.ntmps6

/-- fusee/gcra.Gate.Pass -/
def b7 : IFn := ⟨
 .seq
 (.region [⟨(some 4), .mov (.c (.bool false)), none⟩]) <|
 .seq
 (.seq
  (.region [⟨(some 5), .mov (.t 0), none⟩,
     ⟨(some 6), .eq false false [.ptr] (.t 5) (.c (.ptr none)), none⟩]) <|
  .cond (.t 6)
   (.seq
    (.region [⟨(some 4), .mov (.c (.bool false)), none⟩]) <|
    .ret)
   (.skip)) <|
 .seq
 (.region [⟨(some 7), .mov (.t 0), none⟩,
    ⟨(some 8), .mov (.t 1), none⟩,
    ⟨(some 9), .call (.f 12) [(.t 7), (.t 8)], none⟩]) <|
 .seq
 (.seq
  (.region [⟨(some 10), .mov (.t 0), none⟩,
     ⟨(some 11), .call (.f 13) [(.t 10)], none⟩,
     ⟨(some 12), .bin .gtr (.t 11) (.c (.int .i64 0)), none⟩]) <|
  .cond (.t 12)
   (.seq
    (.region [⟨(some 4), .mov (.c (.bool false)), none⟩]) <|
    .ret)
   (.skip)) <|
 .seq
 (.draw false [] (
    .op ⟨(some 13), .mov (.t 0), none⟩ <|
    .op ⟨(some 14), .mov (.t 0), none⟩ <|
    .op ⟨(some 15), .nilck (.t 14), none⟩ <|
    .op ⟨(some 16), .faddr 2 (.t 15), none⟩ <|
    .op ⟨(some 17), .load false 1 (.t 16), none⟩ <|
    .op ⟨(some 18), .mov (.t 0), none⟩ <|
    .op ⟨(some 19), .nilck (.t 18), none⟩ <|
    .op ⟨(some 20), .faddr 3 (.t 19), none⟩ <|
    .op ⟨(some 21), .load false 1 (.t 20), none⟩ <|
    .op ⟨(some 22), .max [(.t 17), (.t 21)], none⟩ <|
    .op ⟨(some 23), .mov (.t 0), none⟩ <|
    .op ⟨(some 24), .nilck (.t 23), none⟩ <|
    .op ⟨(some 25), .faddr 0 (.t 24), none⟩ <|
    .op ⟨(some 26), .load false 1 (.t 25), none⟩ <|
    .op ⟨(some 27), .call (.f 14) [(.t 22), (.t 26)], none⟩ <|
    .op ⟨(some 28), .nilck (.t 13), none⟩ <|
    .op ⟨(some 29), .faddr 2 (.t 28), none⟩ <|
    .op ⟨none, .store 1 (.t 29) (.t 27), none⟩ <|
    .done)) <|
 .seq
 (.region [⟨(some 4), .mov (.c (.bool true)), none⟩]) <|
 .ret, [.slot 4]⟩
theorem c7 : Code1 Try.prog 7 30 b7 := Code1.mk' Try.func7 (by kernel_rfl) (by kernel_rfl) Try.ntmps7

/-- fusee/gcra.Gate.Burst -/
def b8 : IFn := ⟨
 .seq
 (.region [⟨(some 2), .mov (.c (.int .i64 0)), none⟩]) <|
 .seq
 (.seq
  (.region [⟨(some 3), .mov (.t 0), none⟩,
     ⟨(some 4), .eq false false [.ptr] (.t 3) (.c (.ptr none)), none⟩]) <|
  .cond (.t 4)
   (.seq
    (.region [⟨(some 2), .mov (.c (.int .i64 0)), none⟩]) <|
    .ret)
   (.skip)) <|
 .seq
 (.draw false [2] (
    .op ⟨(some 5), .mov (.t 0), none⟩ <|
    .op ⟨(some 6), .nilck (.t 5), none⟩ <|
    .op ⟨(some 7), .faddr 1 (.t 6), none⟩ <|
    .op ⟨(some 8), .load false 1 (.t 7), none⟩ <|
    .op ⟨(some 9), .mov (.t 0), none⟩ <|
    .op ⟨(some 10), .nilck (.t 9), none⟩ <|
    .op ⟨(some 11), .faddr 0 (.t 10), none⟩ <|
    .op ⟨(some 12), .load false 1 (.t 11), none⟩ <|
    .op ⟨(some 13), .bin .quo (.t 8) (.t 12), none⟩ <|
    .op ⟨(some 14), .bin .add (.t 13) (.c (.int .i64 1)), none⟩ <|
    .op ⟨(some 2), .mov (.t 14), none⟩ <|
    .done)) <|
 .ret, [.slot 2]⟩
theorem c8 : Code1 Try.prog 8 15 b8 := Code1.mk' Try.func8 (by kernel_rfl) (by kernel_rfl) Try.ntmps8

/-- fusee/gcra.Gate.Wait -/
def b9 : IFn := ⟨
 .seq
 (.region [⟨(some 4), .mov (.c (.int .i64 0)), none⟩]) <|
 .seq
 (.seq
  (.region [⟨(some 5), .mov (.t 0), none⟩,
     ⟨(some 6), .eq false false [.ptr] (.t 5) (.c (.ptr none)), none⟩]) <|
  .cond (.t 6)
   (.seq
    (.region [⟨(some 4), .mov (.c (.int .i64 4611686018427387903)), none⟩]) <|
    .ret)
   (.skip)) <|
 .seq
 (.region [⟨(some 7), .mov (.t 0), none⟩,
    ⟨(some 8), .mov (.t 1), none⟩,
    ⟨(some 9), .call (.f 12) [(.t 7), (.t 8)], none⟩]) <|
 .seq
 (.region [⟨(some 10), .mov (.t 0), none⟩,
    ⟨(some 11), .call (.f 13) [(.t 10)], none⟩,
    ⟨(some 4), .mov (.t 11), none⟩]) <|
 .ret, [.slot 4]⟩
theorem c9 : Code1 Try.prog 9 12 b9 := Code1.mk' Try.func9 (by kernel_rfl) (by kernel_rfl) Try.ntmps9

/-- fusee/gcra.Gate.Many -/
def b10 : IFn := ⟨
 .seq
 (.region [⟨(some 6), .mov (.c (.int .i64 0)), none⟩]) <|
 .seq
 (.region [⟨(some 7), .mov (.c (.int .i64 0)), none⟩]) <|
 .seq
 (.seq
  (.region [⟨(some 8), .mov (.t 2), none⟩,
     ⟨(some 9), .max [(.t 8), (.c (.int .i64 0))], none⟩,
     ⟨(some 10), .min [(.t 9), (.c (.int .i64 4096))], none⟩,
     ⟨(some 11), .mov (.c (.int .i64 0)), none⟩]) <|
  .block 0 <|
  .loop [0, 1, 7, 10, 11] <|
   .seq
   (.region [⟨(some 12), .bin .lss (.t 11) (.t 10), none⟩]) <|
   .seq
   (.cond (.t 12)
     (.skip)
     (.exit 0)) <|
   .seq
   (.block 1 <|
    .seq
    (.seq
     (.region [⟨(some 13), .mov (.t 0), none⟩,
        ⟨(some 14), .mov (.t 1), none⟩,
        ⟨(some 15), .call (.f 7) [(.t 13), (.t 14)], none⟩,
        ⟨(some 16), .un .not (.t 15), none⟩]) <|
     .cond (.t 16)
      (.exit 0)
      (.skip)) <|
    .region [⟨(some 17), .mov (.t 7), none⟩,
      ⟨(some 18), .bin .add (.t 17) (.c (.int .i64 1)), none⟩,
      ⟨(some 7), .mov (.t 18), none⟩]) <|
   .region [⟨(some 19), .bin .add (.t 11) (.c (.int .i64 1)), none⟩,
     ⟨(some 11), .mov (.t 19), none⟩]) <|
 .seq
 (.region [⟨(some 20), .mov (.t 7), none⟩,
    ⟨(some 6), .mov (.t 20), none⟩]) <|
 .ret, [.slot 6]⟩
theorem c10 : Code1 Try.prog 10 21 b10 := Code1.mk' Try.func10 (by kernel_rfl) (by kernel_rfl) Try.ntmps10

/-- fusee/gcra.Gate.Turn -/
def b11 : IFn := ⟨
 .seq
 (.region [⟨(some 2), .mov (.c (.int .i64 0)), none⟩]) <|
 .seq
 (.seq
  (.region [⟨(some 3), .mov (.t 0), none⟩,
     ⟨(some 4), .eq false false [.ptr] (.t 3) (.c (.ptr none)), none⟩]) <|
  .cond (.t 4)
   (.seq
    (.region [⟨(some 2), .mov (.c (.int .i64 0)), none⟩]) <|
    .ret)
   (.skip)) <|
 .seq
 (.region [⟨(some 5), .mov (.t 0), none⟩,
    ⟨(some 6), .nilck (.t 5), none⟩,
    ⟨(some 7), .faddr 2 (.t 6), none⟩,
    ⟨(some 8), .load false 1 (.t 7), none⟩,
    ⟨(some 2), .mov (.t 8), none⟩]) <|
 .ret, [.slot 2]⟩
theorem c11 : Code1 Try.prog 11 9 b11 := Code1.mk' Try.func11 (by kernel_rfl) (by kernel_rfl) Try.ntmps11

/-- fusee/gcra.Gate.reach -/
def b12 : IFn := ⟨
 .draw true [] (
   .op ⟨(some 4), .mov (.t 0), none⟩ <|
   .op ⟨(some 5), .mov (.t 0), none⟩ <|
   .op ⟨(some 6), .nilck (.t 5), none⟩ <|
   .op ⟨(some 7), .faddr 3 (.t 6), none⟩ <|
   .op ⟨(some 9), .mov (.t 1), none⟩ <|
   .alt (.op ⟨(some 8), .load false 1 (.t 7), none⟩ <|
    .op ⟨(some 10), .call (.f 15) [(.t 9)], none⟩ <|
    .op ⟨(some 11), .max [(.t 8), (.t 10)], none⟩ <|
    .op ⟨(some 12), .nilck (.t 4), none⟩ <|
    .op ⟨(some 13), .faddr 3 (.t 12), none⟩ <|
    .op ⟨none, .store 1 (.t 13) (.t 11), none⟩ <|
    .done) <|
   .op ⟨(some 10), .call (.f 15) [(.t 9)], none⟩ <|
   .op ⟨(some 8), .load false 1 (.t 7), none⟩ <|
   .op ⟨(some 11), .max [(.t 8), (.t 10)], none⟩ <|
   .op ⟨(some 12), .nilck (.t 4), none⟩ <|
   .op ⟨(some 13), .faddr 3 (.t 12), none⟩ <|
   .op ⟨none, .store 1 (.t 13) (.t 11), none⟩ <|
   .done), []⟩
theorem c12 : Code1 Try.prog 12 14 b12 := Code1.mk' Try.func12 (by kernel_rfl) (by kernel_rfl) Try.ntmps12

/-- fusee/gcra.Gate.early -/
def b13 : IFn := ⟨
 .seq
 (.region [⟨(some 2), .mov (.c (.int .i64 0)), none⟩]) <|
 .seq
 (.draw true [2] (
    .op ⟨(some 3), .mov (.t 0), none⟩ <|
    .op ⟨(some 4), .nilck (.t 3), none⟩ <|
    .op ⟨(some 5), .faddr 2 (.t 4), none⟩ <|
    .op ⟨(some 6), .load false 1 (.t 5), none⟩ <|
    .op ⟨(some 7), .mov (.t 0), none⟩ <|
    .op ⟨(some 8), .nilck (.t 7), none⟩ <|
    .op ⟨(some 9), .faddr 1 (.t 8), none⟩ <|
    .op ⟨(some 10), .load false 1 (.t 9), none⟩ <|
    .op ⟨(some 12), .mov (.t 0), none⟩ <|
    .op ⟨(some 13), .nilck (.t 12), none⟩ <|
    .op ⟨(some 14), .faddr 3 (.t 13), none⟩ <|
    .alt (.op ⟨(some 11), .call (.f 16) [(.t 6), (.t 10)], none⟩ <|
     .op ⟨(some 15), .load false 1 (.t 14), none⟩ <|
     .op ⟨(some 16), .call (.f 16) [(.t 11), (.t 15)], none⟩ <|
     .op ⟨(some 17), .max [(.t 16), (.c (.int .i64 0))], none⟩ <|
     .op ⟨(some 2), .mov (.t 17), none⟩ <|
     .done) <|
    .op ⟨(some 15), .load false 1 (.t 14), none⟩ <|
    .op ⟨(some 11), .call (.f 16) [(.t 6), (.t 10)], none⟩ <|
    .op ⟨(some 16), .call (.f 16) [(.t 11), (.t 15)], none⟩ <|
    .op ⟨(some 17), .max [(.t 16), (.c (.int .i64 0))], none⟩ <|
    .op ⟨(some 2), .mov (.t 17), none⟩ <|
    .done)) <|
 .ret, [.slot 2]⟩
theorem c13 : Code1 Try.prog 13 18 b13 := Code1.mk' Try.func13 (by kernel_rfl) (by kernel_rfl) Try.ntmps13

/-- fusee/ktime.Add -/
def b14 : IFn := ⟨
 .seq
 (.region [⟨(some 4), .mov (.c (.int .i64 0)), none⟩]) <|
 .seq
 (.seq
  (.region [⟨(some 5), .mov (.t 0), none⟩,
     ⟨(some 6), .call (.f 17) [(.t 5)], none⟩]) <|
  .cond (.t 6)
   (.seq
    (.region [⟨(some 4), .mov (.c (.int .i64 4611686018427387903)), none⟩]) <|
    .ret)
   (.skip)) <|
 .seq
 (.region [⟨(some 7), .mov (.t 0), none⟩,
    ⟨(some 8), .call (.f 15) [(.t 7)], none⟩,
    ⟨(some 9), .mov (.t 1), none⟩,
    ⟨(some 10), .call (.f 15) [(.t 9)], none⟩,
    ⟨(some 11), .bin .add (.t 8) (.t 10), none⟩,
    ⟨(some 12), .call (.f 15) [(.t 11)], none⟩,
    ⟨(some 4), .mov (.t 12), none⟩]) <|
 .ret, [.slot 4]⟩
theorem c14 : Code1 Try.prog 14 13 b14 := Code1.mk' Try.func14 (by kernel_rfl) (by kernel_rfl) Try.ntmps14

/-- fusee/ktime.Clamp -/
def b15 : IFn := ⟨
 .seq
 (.region [⟨(some 2), .mov (.c (.int .i64 0)), none⟩]) <|
 .seq
 (.region [⟨(some 3), .mov (.t 0), none⟩,
    ⟨(some 4), .max [(.t 3), (.c (.int .i64 (-4611686018427387903)))], none⟩,
    ⟨(some 5), .min [(.t 4), (.c (.int .i64 4611686018427387903))], none⟩,
    ⟨(some 2), .mov (.t 5), none⟩]) <|
 .ret, [.slot 2]⟩
theorem c15 : Code1 Try.prog 15 6 b15 := Code1.mk' Try.func15 (by kernel_rfl) (by kernel_rfl) Try.ntmps15

/-- fusee/ktime.Sub -/
def b16 : IFn := ⟨
 .seq
 (.region [⟨(some 4), .mov (.c (.int .i64 0)), none⟩]) <|
 .seq
 (.seq
  (.region [⟨(some 5), .mov (.t 0), none⟩,
     ⟨(some 6), .call (.f 17) [(.t 5)], none⟩]) <|
  .cond (.t 6)
   (.seq
    (.region [⟨(some 4), .mov (.c (.int .i64 4611686018427387903)), none⟩]) <|
    .ret)
   (.skip)) <|
 .seq
 (.region [⟨(some 7), .mov (.t 0), none⟩,
    ⟨(some 8), .call (.f 15) [(.t 7)], none⟩,
    ⟨(some 9), .mov (.t 1), none⟩,
    ⟨(some 10), .call (.f 15) [(.t 9)], none⟩,
    ⟨(some 11), .bin .sub (.t 8) (.t 10), none⟩,
    ⟨(some 12), .call (.f 15) [(.t 11)], none⟩,
    ⟨(some 4), .mov (.t 12), none⟩]) <|
 .ret, [.slot 4]⟩
theorem c16 : Code1 Try.prog 16 13 b16 := Code1.mk' Try.func16 (by kernel_rfl) (by kernel_rfl) Try.ntmps16

/-- fusee/ktime.Never -/
def b17 : IFn := ⟨
 .seq
 (.region [⟨(some 2), .mov (.c (.bool false)), none⟩]) <|
 .seq
 (.region [⟨(some 3), .mov (.t 0), none⟩,
    ⟨(some 4), .bin .geq (.t 3) (.c (.int .i64 4611686018427387903)), none⟩,
    ⟨(some 2), .mov (.t 4), none⟩]) <|
 .ret, [.slot 2]⟩
theorem c17 : Code1 Try.prog 17 5 b17 := Code1.mk' Try.func17 (by kernel_rfl) (by kernel_rfl) Try.ntmps17

end Go.Proofs.Ythmnfbgcjaoncaa
