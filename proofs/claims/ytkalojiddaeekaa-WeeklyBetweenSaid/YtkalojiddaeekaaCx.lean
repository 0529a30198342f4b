/-
  THE CODE of the functions of this seat, as the plain machine's; each is what the compiler makes of the program's.
-/
import Derived.Test.YtkalojiddaeekaaChecked
import Derived.Test.YtkalojiddaeekaaAm31
import Derived.KernelRfl
namespace Go.Proofs.Ytkalojiddaeekaa
open Go Go.AM
set_option linter.unusedVariables false

theorem hm : Try.prog.follows .mixedOrders = true := by kernel_rfl

/-- fusee/fuseelaw27.WeeklyRings -/
def b3 : IFn := ⟨
 .seq
 (.region [⟨(some 4), .mov (.c (.bool false)), none⟩]) <|
 .seq
 (.seq
  (.region [⟨(some 10), .call (.f 6) [], none⟩,
     ⟨(some 11), .un .not (.t 10), none⟩]) <|
  .cond (.t 11)
   (.seq
    (.region [⟨(some 4), .mov (.c (.bool false)), none⟩]) <|
    .ret)
   (.skip)) <|
 .seq
 (.seq
  (.region [⟨(some 12), .mov (.t 0), none⟩,
     ⟨(some 13), .len .sl (.t 12), none⟩,
     ⟨(some 14), .bin .gtr (.t 13) (.c (.int .i64 100)), none⟩]) <|
  .cond (.t 14)
   (.seq
    (.region [⟨(some 4), .mov (.c (.bool true)), none⟩]) <|
    .ret)
   (.skip)) <|
 .seq
 (.region [⟨(some 16), .mov (.t 0), none⟩,
    ⟨(some 17), .call (.f 7) [(.t 16)], none⟩,
    ⟨(some 15), .mov (.t 17), none⟩,
    ⟨(some 18), .extract (.t 15) 0, none⟩,
    ⟨(some 19), .extract (.t 15) 1, none⟩,
    ⟨(some 20), .extract (.t 15) 2, none⟩,
    ⟨(some 5), .mov (.t 18), none⟩,
    ⟨(some 6), .mov (.t 19), none⟩,
    ⟨(some 7), .mov (.t 20), none⟩]) <|
 .seq
 (.region [⟨(some 21), .mov (.t 5), none⟩,
    ⟨(some 22), .call (.f 8) [(.t 21)], none⟩,
    ⟨(some 8), .mov (.t 22), none⟩]) <|
 .seq
 (.seq
  (.region [⟨(some 23), .mov (.t 7), none⟩,
     ⟨(some 24), .un .not (.t 23), none⟩,
     ⟨(some 25), .mov (.t 24), none⟩,
     ⟨(some 26), .mov (.t 8), (some (25, false))⟩,
     ⟨(some 27), .len .sl (.t 26), (some (25, false))⟩,
     ⟨(some 28), .mov (.t 6), (some (25, false))⟩,
     ⟨(some 29), .len .sl (.t 28), (some (25, false))⟩,
     ⟨(some 30), .bin .neq (.t 27) (.t 29), (some (25, false))⟩,
     ⟨(some 31), .pick (.t 25) (.c (.bool true)) (.t 30), none⟩]) <|
  .cond (.t 31)
   (.seq
    (.region [⟨(some 4), .mov (.c (.bool false)), none⟩]) <|
    .ret)
   (.skip)) <|
 .seq
 (.seq
  (.region [⟨(some 32), .mov (.t 8), none⟩,
     ⟨(some 33), .len .sl (.t 32), none⟩,
     ⟨(some 34), .mov (.c (.int .i64 0)), none⟩]) <|
  .block 0 <|
  .loop [1, 5, 6, 8, 33, 34] <|
   .seq
   (.region [⟨(some 35), .bin .lss (.t 34) (.t 33), none⟩]) <|
   .seq
   (.cond (.t 35)
     (.skip)
     (.exit 0)) <|
   .seq
   (.block 1 <|
    .seq
    (.region [⟨(some 36), .mov (.t 34), none⟩,
       ⟨(some 9), .mov (.t 36), none⟩]) <|
    .seq
    (.draw false [1, 5, 6, 8, 33, 34, 45] (
       .op ⟨(some 37), .mov (.t 8), none⟩ <|
       .op ⟨(some 38), .mov (.t 9), none⟩ <|
       .op ⟨(some 39), .iaddr 4 (.t 37) (.t 38), none⟩ <|
       .op ⟨(some 40), .load true 4 (.t 39), none⟩ <|
       .op ⟨(some 41), .mov (.t 6), none⟩ <|
       .op ⟨(some 42), .mov (.t 9), none⟩ <|
       .op ⟨(some 43), .iaddr 4 (.t 41) (.t 42), none⟩ <|
       .op ⟨(some 44), .load true 4 (.t 43), none⟩ <|
       .op ⟨(some 45), .eq true true [.int, .int, .int, .bool] (.t 40) (.t 44), none⟩ <|
       .done)) <|
    .cond (.t 45)
     (.seq
      (.region [⟨(some 4), .mov (.c (.bool false)), none⟩]) <|
      .ret)
     (.skip)) <|
   .region [⟨(some 46), .bin .add (.t 34) (.c (.int .i64 1)), none⟩,
     ⟨(some 34), .mov (.t 46), none⟩]) <|
 .seq
 (.region [⟨(some 47), .mov (.t 5), none⟩,
    ⟨(some 48), .mov (.t 1), none⟩,
    ⟨(some 49), .call (.f 10) [(.t 47), (.t 48)], none⟩,
    ⟨(some 50), .mov (.t 6), none⟩,
    ⟨(some 51), .mov (.t 1), none⟩,
    ⟨(some 52), .call (.f 11) [(.t 50), (.t 51)], none⟩,
    ⟨(some 53), .call (.f 9) [(.t 49), (.t 52)], none⟩,
    ⟨(some 4), .mov (.t 53), none⟩]) <|
 .ret, [.slot 4]⟩
theorem c3 : Code1 Try.prog 3 54 b3 := Code1.mk' Try.func3 (by kernel_rfl) (by kernel_rfl) Try.ntmps3

/-- fusee/fuseelaw27.WeeklyNext -/
def b4 : IFn := ⟨
 .seq
 (.region [⟨(some 4), .mov (.c (.bool false)), none⟩]) <|
 .seq
 (.seq
  (.region [⟨(some 12), .call (.f 6) [], none⟩,
     ⟨(some 13), .un .not (.t 12), none⟩]) <|
  .cond (.t 13)
   (.seq
    (.region [⟨(some 4), .mov (.c (.bool false)), none⟩]) <|
    .ret)
   (.skip)) <|
 .seq
 (.seq
  (.region [⟨(some 14), .mov (.t 0), none⟩,
     ⟨(some 15), .len .sl (.t 14), none⟩,
     ⟨(some 16), .bin .gtr (.t 15) (.c (.int .i64 20)), none⟩]) <|
  .cond (.t 16)
   (.seq
    (.region [⟨(some 4), .mov (.c (.bool true)), none⟩]) <|
    .ret)
   (.skip)) <|
 .seq
 (.region [⟨(some 18), .mov (.t 0), none⟩,
    ⟨(some 19), .call (.f 7) [(.t 18)], none⟩,
    ⟨(some 17), .mov (.t 19), none⟩,
    ⟨(some 20), .extract (.t 17) 0, none⟩,
    ⟨(some 21), .extract (.t 17) 1, none⟩,
    ⟨(some 22), .extract (.t 17) 2, none⟩,
    ⟨(some 5), .mov (.t 20), none⟩,
    ⟨(some 6), .mov (.t 21), none⟩,
    ⟨(some 7), .mov (.t 22), none⟩]) <|
 .seq
 (.seq
  (.region [⟨(some 23), .mov (.t 7), none⟩,
     ⟨(some 24), .un .not (.t 23), none⟩]) <|
  .cond (.t 24)
   (.seq
    (.region [⟨(some 4), .mov (.c (.bool false)), none⟩]) <|
    .ret)
   (.skip)) <|
 .seq
 (.region [⟨(some 26), .mov (.t 5), none⟩,
    ⟨(some 27), .mov (.t 1), none⟩,
    ⟨(some 28), .conv .i64 (.t 27), none⟩,
    ⟨(some 29), .call (.f 12) [(.t 26), (.t 28)], none⟩,
    ⟨(some 25), .mov (.t 29), none⟩,
    ⟨(some 30), .extract (.t 25) 0, none⟩,
    ⟨(some 31), .extract (.t 25) 1, none⟩,
    ⟨(some 8), .mov (.t 30), none⟩,
    ⟨(some 9), .mov (.t 31), none⟩]) <|
 .seq
 (.seq
  (.region [⟨(some 10), .mov (.c (.int .i64 1)), none⟩]) <|
  .block 0 <|
  .loop [1, 6, 8, 9, 10] <|
   .seq
   (.seq
    (.region [⟨(some 32), .mov (.t 10), none⟩,
       ⟨(some 33), .bin .leq (.t 32) (.c (.int .i64 10080)), none⟩]) <|
    .cond (.t 33)
     (.skip)
     (.exit 0)) <|
   .seq
   (.block 1 <|
    .seq
    (.region [⟨(some 36), .mov (.t 6), none⟩,
       ⟨(some 37), .mov (.t 1), none⟩,
       ⟨(some 38), .conv .i64 (.t 37), none⟩,
       ⟨(some 39), .mov (.t 10), none⟩,
       ⟨(some 40), .bin .add (.t 38) (.t 39), none⟩,
       ⟨(some 41), .call (.f 11) [(.t 36), (.t 40)], none⟩,
       ⟨(some 11), .mov (.t 41), none⟩]) <|
    .seq
    (.region [⟨(some 42), .mov (.t 11), none⟩,
       ⟨(some 43), .len .sl (.t 42), none⟩,
       ⟨(some 44), .bin .gtr (.t 43) (.c (.int .i64 0)), none⟩]) <|
    .cond (.t 44)
     (.seq
      (.region [⟨(some 45), .mov (.t 8), none⟩,
         ⟨(some 46), .mov (.t 10), none⟩,
         ⟨(some 47), .bin .eql (.t 45) (.t 46), none⟩,
         ⟨(some 48), .mov (.t 47), none⟩,
         ⟨(some 49), .mov (.t 9), (some (48, true))⟩,
         ⟨(some 50), .mov (.t 11), (some (48, true))⟩,
         ⟨(some 51), .call (.f 9) [(.t 49), (.t 50)], (some (48, true))⟩,
         ⟨(some 52), .pick (.t 48) (.t 51) (.c (.bool false)), none⟩,
         ⟨(some 4), .mov (.t 52), none⟩]) <|
      .ret)
     (.skip)) <|
   .region [⟨(some 34), .mov (.t 10), none⟩,
     ⟨(some 35), .bin .add (.t 34) (.c (.int .i64 1)), none⟩,
     ⟨(some 10), .mov (.t 35), none⟩]) <|
 .seq
 (.region [⟨(some 53), .mov (.t 8), none⟩,
    ⟨(some 54), .bin .eql (.t 53) (.c (.int .i64 0)), none⟩,
    ⟨(some 55), .mov (.t 54), none⟩,
    ⟨(some 56), .mov (.t 9), (some (55, true))⟩,
    ⟨(some 57), .len .sl (.t 56), (some (55, true))⟩,
    ⟨(some 58), .bin .eql (.t 57) (.c (.int .i64 0)), (some (55, true))⟩,
    ⟨(some 59), .pick (.t 55) (.t 58) (.c (.bool false)), none⟩,
    ⟨(some 4), .mov (.t 59), none⟩]) <|
 .ret, [.slot 4]⟩
theorem c4 : Code1 Try.prog 4 60 b4 := Code1.mk' Try.func4 (by kernel_rfl) (by kernel_rfl) Try.ntmps4

/-- fusee/fuseelaw27.WeeklyBetween -/
def b5 : IFn := ⟨
 .seq
 (.region [⟨(some 8), .mov (.c (.bool false)), none⟩]) <|
 .seq
 (.seq
  (.region [⟨(some 17), .call (.f 6) [], none⟩,
     ⟨(some 18), .un .not (.t 17), none⟩]) <|
  .cond (.t 18)
   (.seq
    (.region [⟨(some 8), .mov (.c (.bool false)), none⟩]) <|
    .ret)
   (.skip)) <|
 .seq
 (.seq
  (.region [⟨(some 19), .mov (.t 0), none⟩,
     ⟨(some 20), .len .sl (.t 19), none⟩,
     ⟨(some 21), .bin .gtr (.t 20) (.c (.int .i64 60)), none⟩]) <|
  .cond (.t 21)
   (.seq
    (.region [⟨(some 8), .mov (.c (.bool true)), none⟩]) <|
    .ret)
   (.skip)) <|
 .seq
 (.region [⟨(some 23), .mov (.t 0), none⟩,
    ⟨(some 24), .call (.f 7) [(.t 23)], none⟩,
    ⟨(some 22), .mov (.t 24), none⟩,
    ⟨(some 25), .extract (.t 22) 0, none⟩,
    ⟨(some 26), .extract (.t 22) 1, none⟩,
    ⟨(some 27), .extract (.t 22) 2, none⟩,
    ⟨(some 9), .mov (.t 25), none⟩,
    ⟨(some 10), .mov (.t 26), none⟩,
    ⟨(some 11), .mov (.t 27), none⟩]) <|
 .seq
 (.seq
  (.region [⟨(some 28), .mov (.t 11), none⟩,
     ⟨(some 29), .un .not (.t 28), none⟩]) <|
  .cond (.t 29)
   (.seq
    (.region [⟨(some 8), .mov (.c (.bool false)), none⟩]) <|
    .ret)
   (.skip)) <|
 .seq
 (.region [⟨(some 30), .mov (.t 1), none⟩,
    ⟨(some 31), .conv .i64 (.t 30), none⟩,
    ⟨(some 12), .mov (.t 31), none⟩]) <|
 .seq
 (.region [⟨(some 13), .mov (.c (.sl none 0 (some 0))), none⟩]) <|
 .seq
 (.seq
  (.region [⟨(some 32), .mov (.t 2), none⟩,
     ⟨(some 33), .conv .i64 (.t 32), none⟩,
     ⟨(some 34), .mov (.t 3), none⟩,
     ⟨(some 35), .conv .i64 (.t 34), none⟩,
     ⟨(some 36), .bin .add (.t 33) (.t 35), none⟩,
     ⟨(some 37), .mov (.c (.int .i64 0)), none⟩]) <|
  .block 0 <|
  .loop [2, 3, 9, 10, 12, 13, 36, 37] <|
   .seq
   (.region [⟨(some 38), .bin .lss (.t 37) (.t 36), none⟩]) <|
   .seq
   (.cond (.t 38)
     (.skip)
     (.exit 0)) <|
   .seq
   (.block 1 <|
    .seq
    (.region [⟨(some 39), .mov (.t 37), none⟩,
       ⟨(some 14), .mov (.t 39), none⟩]) <|
    .region [⟨(some 40), .mov (.t 13), none⟩,
      ⟨(some 41), .mov (.t 10), none⟩,
      ⟨(some 42), .mov (.t 12), none⟩,
      ⟨(some 43), .mov (.t 14), none⟩,
      ⟨(some 44), .bin .add (.t 42) (.t 43), none⟩,
      ⟨(some 45), .call (.f 11) [(.t 41), (.t 44)], none⟩,
      ⟨(some 46), .app 1 8 (.t 40) (.t 45), none⟩,
      ⟨(some 13), .mov (.t 46), none⟩]) <|
   .region [⟨(some 47), .bin .add (.t 37) (.c (.int .i64 1)), none⟩,
     ⟨(some 37), .mov (.t 47), none⟩]) <|
 .seq
 (.region [⟨(some 48), .mov (.t 9), none⟩,
    ⟨(some 49), .mov (.t 12), none⟩,
    ⟨(some 50), .mov (.t 12), none⟩,
    ⟨(some 51), .mov (.t 2), none⟩,
    ⟨(some 52), .conv .i64 (.t 51), none⟩,
    ⟨(some 53), .bin .add (.t 50) (.t 52), none⟩,
    ⟨(some 54), .mov (.t 3), none⟩,
    ⟨(some 55), .conv .i64 (.t 54), none⟩,
    ⟨(some 56), .bin .add (.t 53) (.t 55), none⟩,
    ⟨(some 57), .call (.f 13) [(.t 48), (.t 49), (.t 56)], none⟩,
    ⟨(some 15), .mov (.t 57), none⟩]) <|
 .seq
 (.region [⟨(some 58), .mov (.t 9), none⟩,
    ⟨(some 59), .mov (.t 12), none⟩,
    ⟨(some 60), .mov (.t 12), none⟩,
    ⟨(some 61), .mov (.t 2), none⟩,
    ⟨(some 62), .conv .i64 (.t 61), none⟩,
    ⟨(some 63), .bin .add (.t 60) (.t 62), none⟩,
    ⟨(some 64), .call (.f 13) [(.t 58), (.t 59), (.t 63)], none⟩,
    ⟨(some 65), .mov (.t 9), none⟩,
    ⟨(some 66), .mov (.t 12), none⟩,
    ⟨(some 67), .mov (.t 2), none⟩,
    ⟨(some 68), .conv .i64 (.t 67), none⟩,
    ⟨(some 69), .bin .add (.t 66) (.t 68), none⟩,
    ⟨(some 70), .mov (.t 12), none⟩,
    ⟨(some 71), .mov (.t 2), none⟩,
    ⟨(some 72), .conv .i64 (.t 71), none⟩,
    ⟨(some 73), .bin .add (.t 70) (.t 72), none⟩,
    ⟨(some 74), .mov (.t 3), none⟩,
    ⟨(some 75), .conv .i64 (.t 74), none⟩,
    ⟨(some 76), .bin .add (.t 73) (.t 75), none⟩,
    ⟨(some 77), .call (.f 13) [(.t 65), (.t 69), (.t 76)], none⟩,
    ⟨(some 78), .app 1 8 (.t 64) (.t 77), none⟩,
    ⟨(some 16), .mov (.t 78), none⟩]) <|
 .seq
 (.region [⟨(some 79), .mov (.t 15), none⟩,
    ⟨(some 80), .mov (.t 13), none⟩,
    ⟨(some 81), .call (.f 9) [(.t 79), (.t 80)], none⟩,
    ⟨(some 82), .mov (.t 81), none⟩,
    ⟨(some 83), .mov (.t 16), (some (82, true))⟩,
    ⟨(some 84), .mov (.t 13), (some (82, true))⟩,
    ⟨(some 85), .call (.f 9) [(.t 83), (.t 84)], (some (82, true))⟩,
    ⟨(some 86), .pick (.t 82) (.t 85) (.c (.bool false)), none⟩,
    ⟨(some 87), .mov (.t 86), none⟩,
    ⟨(some 88), .mov (.t 9), (some (87, true))⟩,
    ⟨(some 89), .mov (.t 12), (some (87, true))⟩,
    ⟨(some 90), .mov (.t 12), (some (87, true))⟩,
    ⟨(some 91), .call (.f 13) [(.t 88), (.t 89), (.t 90)], (some (87, true))⟩,
    ⟨(some 92), .len .sl (.t 91), (some (87, true))⟩,
    ⟨(some 93), .bin .eql (.t 92) (.c (.int .i64 0)), (some (87, true))⟩,
    ⟨(some 94), .pick (.t 87) (.t 93) (.c (.bool false)), none⟩,
    ⟨(some 8), .mov (.t 94), none⟩]) <|
 .ret, [.slot 8]⟩
theorem c5 : Code1 Try.prog 5 95 b5 := Code1.mk' Try.func5 (by kernel_rfl) (by kernel_rfl) Try.ntmps5

/-- fusee/fuseelaw27.fixed -/
def b6 : IFn := ⟨
 .seq
 (.region [⟨(some 0), .mov (.c (.bool false)), none⟩]) <|
 .seq
 (.region [⟨(some 9), .call (.f 14) [], none⟩,
    ⟨(some 1), .mov (.t 9), none⟩]) <|
 .seq
 (.region [⟨(some 10), .mov (.t 1), none⟩,
    ⟨(some 11), .build [(.int .i64 0), (.int .i64 0), (.int .i64 0), (.bool false)] [(0, 1, (.c (.int .i64 4))), (1, 1, (.c (.int .i64 420))), (2, 1, (.c (.int .i64 1)))], none⟩,
    ⟨(some 12), .call (.f 15) [(.t 10), (.t 11)], none⟩,
    ⟨(some 2), .mov (.t 12), none⟩]) <|
 .seq
 (.region [⟨(some 14), .mov (.t 1), none⟩,
    ⟨(some 15), .call (.f 12) [(.t 14), (.c (.int .i64 9060))], none⟩,
    ⟨(some 13), .mov (.t 15), none⟩,
    ⟨(some 16), .extract (.t 13) 0, none⟩,
    ⟨(some 17), .extract (.t 13) 1, none⟩,
    ⟨(some 3), .mov (.t 16), none⟩,
    ⟨(some 4), .mov (.t 17), none⟩]) <|
 .seq
 (.region [⟨(some 18), .mov (.t 1), none⟩,
    ⟨(some 19), .call (.f 10) [(.t 18), (.c (.int .i64 (-9660)))], none⟩,
    ⟨(some 5), .mov (.t 19), none⟩]) <|
 .seq
 (.region [⟨(some 6), .mov (.c (.ptr none)), none⟩]) <|
 .seq
 (.region [⟨(some 21), .mov (.t 6), none⟩,
    ⟨(some 22), .call (.f 12) [(.t 21), (.c (.int .i64 0))], none⟩,
    ⟨(some 20), .mov (.t 22), none⟩,
    ⟨(some 23), .extract (.t 20) 0, none⟩,
    ⟨(some 24), .extract (.t 20) 1, none⟩,
    ⟨(some 7), .mov (.t 23), none⟩,
    ⟨(some 8), .mov (.t 24), none⟩]) <|
 .seq
 (.region [⟨(some 25), .mov (.t 2), none⟩,
    ⟨(some 26), .bin .eql (.t 25) (.c (.int .i64 0)), none⟩,
    ⟨(some 27), .mov (.t 26), none⟩,
    ⟨(some 28), .mov (.t 3), (some (27, true))⟩,
    ⟨(some 29), .bin .eql (.t 28) (.c (.int .i64 1440)), (some (27, true))⟩,
    ⟨(some 30), .pick (.t 27) (.t 29) (.c (.bool false)), none⟩,
    ⟨(some 31), .mov (.t 30), none⟩,
    ⟨(some 32), .mov (.t 4), (some (31, true))⟩,
    ⟨(some 33), .len .sl (.t 32), (some (31, true))⟩,
    ⟨(some 34), .bin .eql (.t 33) (.c (.int .i64 1)), (some (31, true))⟩,
    ⟨(some 35), .pick (.t 31) (.t 34) (.c (.bool false)), none⟩,
    ⟨(some 36), .mov (.t 35), none⟩,
    ⟨(some 37), .mov (.t 4), (some (36, true))⟩,
    ⟨(some 38), .iaddr 1 (.t 37) (.c (.int .i64 0)), (some (36, true))⟩,
    ⟨(some 39), .load false 1 (.t 38), (some (36, true))⟩,
    ⟨(some 40), .bin .eql (.t 39) (.c (.int .i64 4)), (some (36, true))⟩,
    ⟨(some 41), .pick (.t 36) (.t 40) (.c (.bool false)), none⟩,
    ⟨(some 42), .mov (.t 41), none⟩,
    ⟨(some 43), .mov (.t 5), (some (42, true))⟩,
    ⟨(some 44), .len .sl (.t 43), (some (42, true))⟩,
    ⟨(some 45), .bin .eql (.t 44) (.c (.int .i64 1)), (some (42, true))⟩,
    ⟨(some 46), .pick (.t 42) (.t 45) (.c (.bool false)), none⟩,
    ⟨(some 47), .mov (.t 46), none⟩,
    ⟨(some 48), .mov (.t 1), (some (47, true))⟩,
    ⟨(some 49), .call (.f 13) [(.t 48), (.c (.int .i64 0)), (.c (.int .i64 20160))], (some (47, true))⟩,
    ⟨(some 50), .len .sl (.t 49), (some (47, true))⟩,
    ⟨(some 51), .bin .eql (.t 50) (.c (.int .i64 2)), (some (47, true))⟩,
    ⟨(some 52), .pick (.t 47) (.t 51) (.c (.bool false)), none⟩,
    ⟨(some 53), .mov (.t 52), none⟩,
    ⟨(some 54), .mov (.t 1), (some (53, true))⟩,
    ⟨(some 55), .build [(.int .i64 0), (.int .i64 0), (.int .i64 0), (.bool false)] [(0, 1, (.c (.int .i64 4))), (2, 1, (.c (.int .i64 1)))], (some (53, true))⟩,
    ⟨(some 56), .call (.f 15) [(.t 54), (.t 55)], (some (53, true))⟩,
    ⟨(some 57), .bin .eql (.t 56) (.c (.int .i64 9)), (some (53, true))⟩,
    ⟨(some 58), .pick (.t 53) (.t 57) (.c (.bool false)), none⟩,
    ⟨(some 59), .mov (.t 58), none⟩,
    ⟨(some 60), .mov (.t 1), (some (59, true))⟩,
    ⟨(some 61), .build [(.int .i64 0), (.int .i64 0), (.int .i64 0), (.bool false)] [(2, 1, (.c (.int .i64 128)))], (some (59, true))⟩,
    ⟨(some 62), .call (.f 15) [(.t 60), (.t 61)], (some (59, true))⟩,
    ⟨(some 63), .bin .eql (.t 62) (.c (.int .i64 2)), (some (59, true))⟩,
    ⟨(some 64), .pick (.t 59) (.t 63) (.c (.bool false)), none⟩,
    ⟨(some 65), .mov (.t 64), none⟩,
    ⟨(some 66), .mov (.t 1), (some (65, true))⟩,
    ⟨(some 67), .call (.f 16) [(.t 66), (.c (.int .i64 4)), (.c (.bool true))], (some (65, true))⟩,
    ⟨(some 68), .pick (.t 65) (.t 67) (.c (.bool false)), none⟩,
    ⟨(some 69), .mov (.t 68), none⟩,
    ⟨(some 70), .mov (.t 1), (some (69, true))⟩,
    ⟨(some 71), .call (.f 10) [(.t 70), (.c (.int .i64 420))], (some (69, true))⟩,
    ⟨(some 72), .len .sl (.t 71), (some (69, true))⟩,
    ⟨(some 73), .bin .eql (.t 72) (.c (.int .i64 0)), (some (69, true))⟩,
    ⟨(some 74), .pick (.t 69) (.t 73) (.c (.bool false)), none⟩,
    ⟨(some 75), .mov (.t 74), none⟩,
    ⟨(some 76), .mov (.t 1), (some (75, true))⟩,
    ⟨(some 77), .call (.f 17) [(.t 76), (.c (.int .i64 4))], (some (75, true))⟩,
    ⟨(some 78), .pick (.t 75) (.t 77) (.c (.bool false)), none⟩,
    ⟨(some 79), .mov (.t 78), none⟩,
    ⟨(some 80), .mov (.t 1), (some (79, true))⟩,
    ⟨(some 81), .call (.f 17) [(.t 80), (.c (.int .i64 4))], (some (79, true))⟩,
    ⟨(some 82), .un .not (.t 81), (some (79, true))⟩,
    ⟨(some 83), .pick (.t 79) (.t 82) (.c (.bool false)), none⟩,
    ⟨(some 84), .mov (.t 83), none⟩,
    ⟨(some 85), .mov (.t 6), (some (84, true))⟩,
    ⟨(some 86), .build [(.int .i64 0), (.int .i64 0), (.int .i64 0), (.bool false)] [], (some (84, true))⟩,
    ⟨(some 87), .call (.f 15) [(.t 85), (.t 86)], (some (84, true))⟩,
    ⟨(some 88), .bin .eql (.t 87) (.c (.int .i64 1)), (some (84, true))⟩,
    ⟨(some 89), .pick (.t 84) (.t 88) (.c (.bool false)), none⟩,
    ⟨(some 90), .mov (.t 89), none⟩,
    ⟨(some 91), .mov (.t 7), (some (90, true))⟩,
    ⟨(some 92), .bin .eql (.t 91) (.c (.int .i64 0)), (some (90, true))⟩,
    ⟨(some 93), .pick (.t 90) (.t 92) (.c (.bool false)), none⟩,
    ⟨(some 94), .mov (.t 93), none⟩,
    ⟨(some 95), .mov (.t 8), (some (94, true))⟩,
    ⟨(some 96), .len .sl (.t 95), (some (94, true))⟩,
    ⟨(some 97), .bin .eql (.t 96) (.c (.int .i64 0)), (some (94, true))⟩,
    ⟨(some 98), .pick (.t 94) (.t 97) (.c (.bool false)), none⟩,
    ⟨(some 0), .mov (.t 98), none⟩]) <|
 .ret, [.slot 0]⟩
theorem c6 : Code1 Try.prog 6 99 b6 := Code1.mk' Try.func6 (by kernel_rfl) (by kernel_rfl) Try.ntmps6

/-- fusee/fuseelaw27.made -/
def b7 : IFn := ⟨
 .seq
 (.region [⟨(some 2), .mov (.c (.ptr none)), none⟩,
    ⟨(some 3), .mov (.c (.sl none 0 (some 0))), none⟩,
    ⟨(some 4), .mov (.c (.bool false)), none⟩]) <|
 .seq
 (.region [⟨(some 14), .call (.f 14) [], none⟩,
    ⟨(some 5), .mov (.t 14), none⟩]) <|
 .seq
 (.region [⟨(some 6), .mov (.c (.sl none 0 (some 0))), none⟩]) <|
 .seq
 (.seq
  (.region [⟨(some 15), .mov (.t 0), none⟩,
     ⟨(some 16), .len .sl (.t 15), none⟩,
     ⟨(some 17), .mov (.c (.int .i64 0)), none⟩]) <|
  .block 0 <|
  .loop [5, 6, 15, 16, 17] <|
   .seq
   (.region [⟨(some 18), .bin .lss (.t 17) (.t 16), none⟩]) <|
   .seq
   (.cond (.t 18)
     (.skip)
     (.exit 0)) <|
   .seq
   (.block 1 <|
    .seq
    (.region [⟨(some 19), .iaddr 5 (.t 15) (.t 17), none⟩,
       ⟨(some 20), .load true 5 (.t 19), none⟩,
       ⟨(some 8), .alloc [(.int .u8 0), (.int .i64 0), (.int .i64 0), (.int .i64 0), (.bool false)], none⟩,
       ⟨none, .store 5 (.t 8) (.t 20), none⟩]) <|
    .seq
    (.region [⟨(some 9), .mov (.c (.int .i64 (-1))), none⟩]) <|
    .seq
    (.seq
     (.region [⟨(some 21), .mov (.t 6), none⟩,
        ⟨(some 22), .len .sl (.t 21), none⟩,
        ⟨(some 23), .mov (.c (.int .i64 0)), none⟩]) <|
     .block 2 <|
     .loop [5, 6, 8, 9, 15, 16, 17, 21, 22, 23] <|
      .seq
      (.region [⟨(some 24), .bin .lss (.t 23) (.t 22), none⟩]) <|
      .seq
      (.cond (.t 24)
        (.skip)
        (.exit 2)) <|
      .seq
      (.block 3 <|
       .seq
       (.region [⟨(some 25), .mov (.t 23), none⟩,
          ⟨(some 26), .iaddr 4 (.t 21) (.t 23), none⟩,
          ⟨(some 27), .load true 4 (.t 26), none⟩,
          ⟨(some 11), .alloc [(.int .i64 0), (.int .i64 0), (.int .i64 0), (.bool false)], none⟩,
          ⟨(some 10), .mov (.t 25), none⟩,
          ⟨none, .store 4 (.t 11) (.t 27), none⟩]) <|
       .seq
       (.region [⟨(some 28), .faddr 0 (.t 11), none⟩,
          ⟨(some 29), .load false 1 (.t 28), none⟩,
          ⟨(some 30), .faddr 1 (.t 8), none⟩,
          ⟨(some 31), .faddr 0 (.t 30), none⟩,
          ⟨(some 32), .load false 1 (.t 31), none⟩,
          ⟨(some 33), .bin .eql (.t 29) (.t 32), none⟩]) <|
       .cond (.t 33)
        (.region [⟨(some 34), .mov (.t 10), none⟩,
           ⟨(some 9), .mov (.t 34), none⟩])
        (.skip)) <|
      .region [⟨(some 35), .bin .add (.t 23) (.c (.int .i64 1)), none⟩,
        ⟨(some 23), .mov (.t 35), none⟩]) <|
    .seq
    (.region [⟨(some 36), .faddr 0 (.t 8), none⟩,
       ⟨(some 37), .load false 1 (.t 36), none⟩,
       ⟨(some 38), .bin .rem (.t 37) (.c (.int .u8 3)), none⟩]) <|
    .block 4 <|
    .seq
    (.region [⟨(some 40), .bin .eql (.t 38) (.c (.int .u8 0)), none⟩,
       ⟨(some 39), .mov (.t 40), none⟩]) <|
    .cond (.t 39)
     (.seq
      (.region [⟨(some 12), .mov (.c (.int .i64 0)), none⟩]) <|
      .seq
      (.block 5 <|
       .seq
       (.region [⟨(some 72), .faddr 1 (.t 8), none⟩,
          ⟨(some 73), .faddr 1 (.t 72), none⟩,
          ⟨(some 74), .load false 1 (.t 73), none⟩,
          ⟨(some 75), .bin .lss (.t 74) (.c (.int .i64 0)), none⟩,
          ⟨(some 76), .mov (.t 75), none⟩,
          ⟨(some 77), .faddr 1 (.t 8), (some (76, false))⟩,
          ⟨(some 78), .faddr 1 (.t 77), (some (76, false))⟩,
          ⟨(some 79), .load false 1 (.t 78), (some (76, false))⟩,
          ⟨(some 80), .bin .gtr (.t 79) (.c (.int .i64 1439)), (some (76, false))⟩,
          ⟨(some 81), .pick (.t 76) (.c (.bool true)) (.t 80), none⟩,
          ⟨(some 82), .mov (.t 81), none⟩,
          ⟨(some 83), .faddr 1 (.t 8), (some (82, false))⟩,
          ⟨(some 84), .faddr 2 (.t 83), (some (82, false))⟩,
          ⟨(some 85), .load false 1 (.t 84), (some (82, false))⟩,
          ⟨(some 86), .bin .lss (.t 85) (.c (.int .i64 1)), (some (82, false))⟩,
          ⟨(some 87), .pick (.t 82) (.c (.bool true)) (.t 86), none⟩,
          ⟨(some 88), .mov (.t 87), none⟩,
          ⟨(some 89), .faddr 1 (.t 8), (some (88, false))⟩,
          ⟨(some 90), .faddr 2 (.t 89), (some (88, false))⟩,
          ⟨(some 91), .load false 1 (.t 90), (some (88, false))⟩,
          ⟨(some 92), .bin .gtr (.t 91) (.c (.int .i64 127)), (some (88, false))⟩,
          ⟨(some 93), .pick (.t 88) (.c (.bool true)) (.t 92), none⟩,
          ⟨(some 71), .mov (.t 93), none⟩]) <|
       .cond (.t 71)
        (.region [⟨(some 12), .mov (.c (.int .i64 2)), none⟩])
        (.seq
         (.region [⟨(some 95), .mov (.t 9), none⟩,
            ⟨(some 96), .bin .geq (.t 95) (.c (.int .i64 0)), none⟩,
            ⟨(some 94), .mov (.t 96), none⟩]) <|
         .cond (.t 94)
          (.region [⟨(some 12), .mov (.c (.int .i64 9)), none⟩])
          (.seq
           (.region [⟨(some 98), .mov (.t 6), none⟩,
              ⟨(some 99), .len .sl (.t 98), none⟩,
              ⟨(some 100), .bin .geq (.t 99) (.c (.int .i64 64)), none⟩,
              ⟨(some 97), .mov (.t 100), none⟩]) <|
           .cond (.t 97)
            (.region [⟨(some 12), .mov (.c (.int .i64 3)), none⟩])
            (.seq
             (.region [⟨(some 13), .mov (.c (.int .i64 0)), none⟩]) <|
             .seq
             (.block 6 <|
              .loop [5, 6, 8, 12, 13, 15, 16, 17] <|
               .seq
               (.seq
                (.draw false [5, 6, 8, 12, 13, 15, 16, 17, 55] (
                   .op ⟨(some 41), .mov (.t 13), none⟩ <|
                   .op ⟨(some 42), .mov (.t 6), none⟩ <|
                   .op ⟨(some 43), .len .sl (.t 42), none⟩ <|
                   .op ⟨(some 44), .bin .lss (.t 41) (.t 43), none⟩ <|
                   .op ⟨(some 45), .mov (.t 44), none⟩ <|
                   .op ⟨(some 46), .mov (.t 6), (some (45, true))⟩ <|
                   .op ⟨(some 47), .mov (.t 13), (some (45, true))⟩ <|
                   .op ⟨(some 48), .iaddr 4 (.t 46) (.t 47), (some (45, true))⟩ <|
                   .op ⟨(some 49), .faddr 0 (.t 48), (some (45, true))⟩ <|
                   .op ⟨(some 50), .load false 1 (.t 49), (some (45, true))⟩ <|
                   .op ⟨(some 51), .faddr 1 (.t 8), (some (45, true))⟩ <|
                   .op ⟨(some 52), .faddr 0 (.t 51), (some (45, true))⟩ <|
                   .op ⟨(some 53), .load false 1 (.t 52), (some (45, true))⟩ <|
                   .op ⟨(some 54), .bin .lss (.t 50) (.t 53), (some (45, true))⟩ <|
                   .op ⟨(some 55), .pick (.t 45) (.t 54) (.c (.bool false)), none⟩ <|
                   .done)) <|
                .cond (.t 55)
                 (.skip)
                 (.exit 6)) <|
               .block 7 <|
               .region [⟨(some 56), .mov (.t 13), none⟩,
                 ⟨(some 57), .bin .add (.t 56) (.c (.int .i64 1)), none⟩,
                 ⟨(some 13), .mov (.t 57), none⟩]) <|
             .draw false [5, 6, 8, 12, 15, 16, 17] (
               .op ⟨(some 59), .mov (.t 6), none⟩ <|
               .op ⟨(some 60), .mov (.t 13), none⟩ <|
               .op ⟨(some 61), .slice 4 (.t 59) none (some (.t 60)) none, none⟩ <|
               .op ⟨(some 63), .faddr 1 (.t 8), none⟩ <|
               .op ⟨(some 67), .mov (.t 6), none⟩ <|
               .op ⟨(some 68), .mov (.t 13), none⟩ <|
               .op ⟨(some 69), .slice 4 (.t 67) (some (.t 68)) none none, none⟩ <|
               .alt (.op ⟨(some 58), .buildSl 4 [] [], none⟩ <|
                .alt (.op ⟨(some 62), .app 4 32 (.t 58) (.t 61), none⟩ <|
                 .op ⟨(some 64), .load true 4 (.t 63), none⟩ <|
                 .op ⟨(some 65), .buildSl 4 [(.int .i64 0), (.int .i64 0), (.int .i64 0), (.bool false)] [(0, 4, (.t 64))], none⟩ <|
                 .op ⟨(some 66), .app 4 32 (.t 62) (.t 65), none⟩ <|
                 .op ⟨(some 70), .app 4 32 (.t 66) (.t 69), none⟩ <|
                 .op ⟨(some 6), .mov (.t 70), none⟩ <|
                 .done) <|
                .op ⟨(some 64), .load true 4 (.t 63), none⟩ <|
                .alt (.op ⟨(some 62), .app 4 32 (.t 58) (.t 61), none⟩ <|
                 .op ⟨(some 65), .buildSl 4 [(.int .i64 0), (.int .i64 0), (.int .i64 0), (.bool false)] [(0, 4, (.t 64))], none⟩ <|
                 .op ⟨(some 66), .app 4 32 (.t 62) (.t 65), none⟩ <|
                 .op ⟨(some 70), .app 4 32 (.t 66) (.t 69), none⟩ <|
                 .op ⟨(some 6), .mov (.t 70), none⟩ <|
                 .done) <|
                .op ⟨(some 65), .buildSl 4 [(.int .i64 0), (.int .i64 0), (.int .i64 0), (.bool false)] [(0, 4, (.t 64))], none⟩ <|
                .op ⟨(some 62), .app 4 32 (.t 58) (.t 61), none⟩ <|
                .op ⟨(some 66), .app 4 32 (.t 62) (.t 65), none⟩ <|
                .op ⟨(some 70), .app 4 32 (.t 66) (.t 69), none⟩ <|
                .op ⟨(some 6), .mov (.t 70), none⟩ <|
                .done) <|
               .op ⟨(some 64), .load true 4 (.t 63), none⟩ <|
               .alt (.op ⟨(some 58), .buildSl 4 [] [], none⟩ <|
                .alt (.op ⟨(some 62), .app 4 32 (.t 58) (.t 61), none⟩ <|
                 .op ⟨(some 65), .buildSl 4 [(.int .i64 0), (.int .i64 0), (.int .i64 0), (.bool false)] [(0, 4, (.t 64))], none⟩ <|
                 .op ⟨(some 66), .app 4 32 (.t 62) (.t 65), none⟩ <|
                 .op ⟨(some 70), .app 4 32 (.t 66) (.t 69), none⟩ <|
                 .op ⟨(some 6), .mov (.t 70), none⟩ <|
                 .done) <|
                .op ⟨(some 65), .buildSl 4 [(.int .i64 0), (.int .i64 0), (.int .i64 0), (.bool false)] [(0, 4, (.t 64))], none⟩ <|
                .op ⟨(some 62), .app 4 32 (.t 58) (.t 61), none⟩ <|
                .op ⟨(some 66), .app 4 32 (.t 62) (.t 65), none⟩ <|
                .op ⟨(some 70), .app 4 32 (.t 66) (.t 69), none⟩ <|
                .op ⟨(some 6), .mov (.t 70), none⟩ <|
                .done) <|
               .op ⟨(some 65), .buildSl 4 [(.int .i64 0), (.int .i64 0), (.int .i64 0), (.bool false)] [(0, 4, (.t 64))], none⟩ <|
               .op ⟨(some 58), .buildSl 4 [] [], none⟩ <|
               .op ⟨(some 62), .app 4 32 (.t 58) (.t 61), none⟩ <|
               .op ⟨(some 66), .app 4 32 (.t 62) (.t 65), none⟩ <|
               .op ⟨(some 70), .app 4 32 (.t 66) (.t 69), none⟩ <|
               .op ⟨(some 6), .mov (.t 70), none⟩ <|
               .done))))) <|
      .seq
      (.region [⟨(some 101), .mov (.t 5), none⟩,
         ⟨(some 102), .faddr 1 (.t 8), none⟩,
         ⟨(some 103), .load true 4 (.t 102), none⟩,
         ⟨(some 104), .call (.f 15) [(.t 101), (.t 103)], none⟩,
         ⟨(some 105), .mov (.t 12), none⟩,
         ⟨(some 106), .bin .neq (.t 104) (.t 105), none⟩]) <|
      .cond (.t 106)
       (.seq
        (.region [⟨(some 107), .mov (.t 5), none⟩,
           ⟨(some 108), .mov (.t 6), none⟩,
           ⟨(some 2), .mov (.t 107), none⟩,
           ⟨(some 3), .mov (.t 108), none⟩,
           ⟨(some 4), .mov (.c (.bool false)), none⟩]) <|
        .ret)
       (.skip))
     (.seq
      (.region [⟨(some 110), .bin .eql (.t 38) (.c (.int .u8 1)), none⟩,
         ⟨(some 109), .mov (.t 110), none⟩]) <|
      .cond (.t 109)
       (.seq
        (.seq
         (.region [⟨(some 111), .mov (.t 5), none⟩,
            ⟨(some 112), .faddr 1 (.t 8), none⟩,
            ⟨(some 113), .faddr 0 (.t 112), none⟩,
            ⟨(some 114), .load false 1 (.t 113), none⟩,
            ⟨(some 115), .call (.f 17) [(.t 111), (.t 114)], none⟩,
            ⟨(some 116), .mov (.t 9), none⟩,
            ⟨(some 117), .bin .geq (.t 116) (.c (.int .i64 0)), none⟩,
            ⟨(some 118), .eq true false [.bool] (.t 115) (.t 117), none⟩]) <|
         .cond (.t 118)
          (.seq
           (.region [⟨(some 119), .mov (.t 5), none⟩,
              ⟨(some 120), .mov (.t 6), none⟩,
              ⟨(some 2), .mov (.t 119), none⟩,
              ⟨(some 3), .mov (.t 120), none⟩,
              ⟨(some 4), .mov (.c (.bool false)), none⟩]) <|
           .ret)
          (.skip)) <|
        .seq
        (.region [⟨(some 121), .mov (.t 9), none⟩,
           ⟨(some 122), .bin .geq (.t 121) (.c (.int .i64 0)), none⟩]) <|
        .cond (.t 122)
         (.draw false [5, 6, 15, 16, 17] (
            .op ⟨(some 124), .mov (.t 6), none⟩ <|
            .op ⟨(some 125), .mov (.t 9), none⟩ <|
            .op ⟨(some 126), .slice 4 (.t 124) none (some (.t 125)) none, none⟩ <|
            .op ⟨(some 128), .mov (.t 6), none⟩ <|
            .op ⟨(some 129), .mov (.t 9), none⟩ <|
            .op ⟨(some 130), .bin .add (.t 129) (.c (.int .i64 1)), none⟩ <|
            .op ⟨(some 131), .slice 4 (.t 128) (some (.t 130)) none none, none⟩ <|
            .op ⟨(some 123), .buildSl 4 [] [], none⟩ <|
            .op ⟨(some 127), .app 4 32 (.t 123) (.t 126), none⟩ <|
            .op ⟨(some 132), .app 4 32 (.t 127) (.t 131), none⟩ <|
            .op ⟨(some 6), .mov (.t 132), none⟩ <|
            .done))
         (.skip))
       (.seq
        (.region [⟨(some 134), .bin .eql (.t 38) (.c (.int .u8 2)), none⟩,
           ⟨(some 133), .mov (.t 134), none⟩]) <|
        .cond (.t 133)
         (.seq
          (.seq
           (.region [⟨(some 135), .mov (.t 5), none⟩,
              ⟨(some 136), .faddr 1 (.t 8), none⟩,
              ⟨(some 137), .faddr 0 (.t 136), none⟩,
              ⟨(some 138), .load false 1 (.t 137), none⟩,
              ⟨(some 139), .faddr 1 (.t 8), none⟩,
              ⟨(some 140), .faddr 3 (.t 139), none⟩,
              ⟨(some 141), .load false 1 (.t 140), none⟩,
              ⟨(some 142), .call (.f 16) [(.t 135), (.t 138), (.t 141)], none⟩,
              ⟨(some 143), .mov (.t 9), none⟩,
              ⟨(some 144), .bin .geq (.t 143) (.c (.int .i64 0)), none⟩,
              ⟨(some 145), .eq true false [.bool] (.t 142) (.t 144), none⟩]) <|
           .cond (.t 145)
            (.seq
             (.region [⟨(some 146), .mov (.t 5), none⟩,
                ⟨(some 147), .mov (.t 6), none⟩,
                ⟨(some 2), .mov (.t 146), none⟩,
                ⟨(some 3), .mov (.t 147), none⟩,
                ⟨(some 4), .mov (.c (.bool false)), none⟩]) <|
             .ret)
            (.skip)) <|
          .seq
          (.region [⟨(some 148), .mov (.t 9), none⟩,
             ⟨(some 149), .bin .geq (.t 148) (.c (.int .i64 0)), none⟩]) <|
          .cond (.t 149)
           (.region [⟨(some 150), .mov (.t 6), none⟩,
              ⟨(some 151), .mov (.t 9), none⟩,
              ⟨(some 152), .faddr 1 (.t 8), none⟩,
              ⟨(some 153), .faddr 3 (.t 152), none⟩,
              ⟨(some 154), .load false 1 (.t 153), none⟩,
              ⟨(some 155), .iaddr 4 (.t 150) (.t 151), none⟩,
              ⟨(some 156), .faddr 3 (.t 155), none⟩,
              ⟨none, .store 1 (.t 156) (.t 154), none⟩])
           (.skip))
         (.skip)))) <|
   .region [⟨(some 157), .bin .add (.t 17) (.c (.int .i64 1)), none⟩,
     ⟨(some 17), .mov (.t 157), none⟩]) <|
 .seq
 (.region [⟨(some 158), .mov (.t 5), none⟩,
    ⟨(some 159), .mov (.t 6), none⟩,
    ⟨(some 2), .mov (.t 158), none⟩,
    ⟨(some 3), .mov (.t 159), none⟩,
    ⟨(some 4), .mov (.c (.bool true)), none⟩]) <|
 .ret, [.slot 2, .slot 3, .slot 4]⟩
theorem c7 : Code1 Try.prog 7 160 b7 := Code1.mk' Try.func7 (by kernel_rfl) (by kernel_rfl) Try.ntmps7

/-- fusee/weekly.Set.All -/
def b8 : IFn := ⟨
 .seq
 (.region [⟨(some 2), .mov (.c (.sl none 0 (some 0))), none⟩]) <|
 .seq
 (.seq
  (.region [⟨(some 3), .mov (.t 0), none⟩,
     ⟨(some 4), .eq false false [.ptr] (.t 3) (.c (.ptr none)), none⟩]) <|
  .cond (.t 4)
   (.seq
    (.region [⟨(some 2), .mov (.c (.sl none 0 (some 0))), none⟩]) <|
    .ret)
   (.skip)) <|
 .seq
 (.region [⟨(some 5), .mov (.t 0), none⟩,
    ⟨(some 6), .nilck (.t 5), none⟩,
    ⟨(some 7), .faddr 0 (.t 6), none⟩,
    ⟨(some 8), .load false 1 (.t 7), none⟩,
    ⟨(some 9), .call (.f 18) [(.t 8)], none⟩,
    ⟨(some 2), .mov (.t 9), none⟩]) <|
 .ret, [.slot 2]⟩
theorem c8 : Code1 Try.prog 8 10 b8 := Code1.mk' Try.func8 (by kernel_rfl) (by kernel_rfl) Try.ntmps8

/-- fusee/fuseelaw27.same -/
def b9 : IFn := ⟨
 .seq
 (.region [⟨(some 4), .mov (.c (.bool false)), none⟩]) <|
 .seq
 (.seq
  (.region [⟨(some 6), .mov (.t 0), none⟩,
     ⟨(some 7), .len .sl (.t 6), none⟩,
     ⟨(some 8), .mov (.t 1), none⟩,
     ⟨(some 9), .len .sl (.t 8), none⟩,
     ⟨(some 10), .bin .neq (.t 7) (.t 9), none⟩]) <|
  .cond (.t 10)
   (.seq
    (.region [⟨(some 4), .mov (.c (.bool false)), none⟩]) <|
    .ret)
   (.skip)) <|
 .seq
 (.seq
  (.region [⟨(some 11), .mov (.t 0), none⟩,
     ⟨(some 12), .len .sl (.t 11), none⟩,
     ⟨(some 13), .mov (.c (.int .i64 0)), none⟩]) <|
  .block 0 <|
  .loop [0, 1, 12, 13] <|
   .seq
   (.region [⟨(some 14), .bin .lss (.t 13) (.t 12), none⟩]) <|
   .seq
   (.cond (.t 14)
     (.skip)
     (.exit 0)) <|
   .seq
   (.block 1 <|
    .seq
    (.region [⟨(some 15), .mov (.t 13), none⟩,
       ⟨(some 5), .mov (.t 15), none⟩]) <|
    .seq
    (.draw false [0, 1, 12, 13, 24] (
       .op ⟨(some 16), .mov (.t 0), none⟩ <|
       .op ⟨(some 17), .mov (.t 5), none⟩ <|
       .op ⟨(some 18), .iaddr 1 (.t 16) (.t 17), none⟩ <|
       .op ⟨(some 19), .load false 1 (.t 18), none⟩ <|
       .op ⟨(some 20), .mov (.t 1), none⟩ <|
       .op ⟨(some 21), .mov (.t 5), none⟩ <|
       .op ⟨(some 22), .iaddr 1 (.t 20) (.t 21), none⟩ <|
       .op ⟨(some 23), .load false 1 (.t 22), none⟩ <|
       .op ⟨(some 24), .bin .neq (.t 19) (.t 23), none⟩ <|
       .done)) <|
    .cond (.t 24)
     (.seq
      (.region [⟨(some 4), .mov (.c (.bool false)), none⟩]) <|
      .ret)
     (.skip)) <|
   .region [⟨(some 25), .bin .add (.t 13) (.c (.int .i64 1)), none⟩,
     ⟨(some 13), .mov (.t 25), none⟩]) <|
 .seq
 (.region [⟨(some 4), .mov (.c (.bool true)), none⟩]) <|
 .ret, [.slot 4]⟩
theorem c9 : Code1 Try.prog 9 26 b9 := Code1.mk' Try.func9 (by kernel_rfl) (by kernel_rfl) Try.ntmps9

/-- fusee/weekly.Set.Rings -/
def b10 : IFn := ⟨
 .seq
 (.region [⟨(some 4), .mov (.c (.sl none 0 (some 0))), none⟩]) <|
 .seq
 (.region [⟨(some 5), .mov (.c (.sl none 0 (some 0))), none⟩]) <|
 .seq
 (.seq
  (.region [⟨(some 8), .mov (.t 0), none⟩,
     ⟨(some 9), .call (.f 8) [(.t 8)], none⟩,
     ⟨(some 10), .len .sl (.t 9), none⟩,
     ⟨(some 11), .mov (.c (.int .i64 0)), none⟩]) <|
  .block 0 <|
  .loop [1, 5, 9, 10, 11] <|
   .seq
   (.region [⟨(some 12), .bin .lss (.t 11) (.t 10), none⟩]) <|
   .seq
   (.cond (.t 12)
     (.skip)
     (.exit 0)) <|
   .seq
   (.block 1 <|
    .seq
    (.region [⟨(some 13), .iaddr 4 (.t 9) (.t 11), none⟩,
       ⟨(some 14), .load true 4 (.t 13), none⟩,
       ⟨(some 7), .alloc [(.int .i64 0), (.int .i64 0), (.int .i64 0), (.bool false)], none⟩,
       ⟨none, .store 4 (.t 7) (.t 14), none⟩]) <|
    .seq
    (.draw true [1, 5, 7, 9, 10, 11, 18] (
       .op ⟨(some 16), .mov (.t 1), none⟩ <|
       .alt (.op ⟨(some 15), .load true 4 (.t 7), none⟩ <|
        .op ⟨(some 17), .call (.f 20) [(.t 16)], none⟩ <|
        .op ⟨(some 18), .call (.f 19) [(.t 15), (.t 17)], none⟩ <|
        .done) <|
       .op ⟨(some 17), .call (.f 20) [(.t 16)], none⟩ <|
       .op ⟨(some 15), .load true 4 (.t 7), none⟩ <|
       .op ⟨(some 18), .call (.f 19) [(.t 15), (.t 17)], none⟩ <|
       .done)) <|
    .cond (.t 18)
     (.region [⟨(some 19), .mov (.t 5), none⟩,
        ⟨(some 20), .faddr 0 (.t 7), none⟩,
        ⟨(some 21), .load false 1 (.t 20), none⟩,
        ⟨(some 22), .buildSl 1 [(.int .i64 0)] [(0, 1, (.t 21))], none⟩,
        ⟨(some 23), .app 1 8 (.t 19) (.t 22), none⟩,
        ⟨(some 5), .mov (.t 23), none⟩])
     (.skip)) <|
   .region [⟨(some 24), .bin .add (.t 11) (.c (.int .i64 1)), none⟩,
     ⟨(some 11), .mov (.t 24), none⟩]) <|
 .seq
 (.region [⟨(some 25), .mov (.t 5), none⟩,
    ⟨(some 4), .mov (.t 25), none⟩]) <|
 .ret, [.slot 4]⟩
theorem c10 : Code1 Try.prog 10 26 b10 := Code1.mk' Try.func10 (by kernel_rfl) (by kernel_rfl) Try.ntmps10

/-- fusee/fuseelaw27.rings -/
def b11 : IFn := ⟨
 .seq
 (.region [⟨(some 4), .mov (.c (.sl none 0 (some 0))), none⟩]) <|
 .seq
 (.region [⟨(some 10), .mov (.t 1), none⟩,
    ⟨(some 11), .bin .rem (.t 10) (.c (.int .i64 10080)), none⟩,
    ⟨(some 5), .mov (.t 11), none⟩]) <|
 .seq
 (.seq
  (.region [⟨(some 12), .mov (.t 5), none⟩,
     ⟨(some 13), .bin .lss (.t 12) (.c (.int .i64 0)), none⟩]) <|
  .cond (.t 13)
   (.region [⟨(some 14), .mov (.t 5), none⟩,
      ⟨(some 15), .bin .add (.t 14) (.c (.int .i64 10080)), none⟩,
      ⟨(some 5), .mov (.t 15), none⟩])
   (.skip)) <|
 .seq
 (.region [⟨(some 6), .mov (.c (.sl none 0 (some 0))), none⟩]) <|
 .seq
 (.seq
  (.region [⟨(some 16), .mov (.t 0), none⟩,
     ⟨(some 17), .len .sl (.t 16), none⟩,
     ⟨(some 18), .mov (.c (.int .i64 0)), none⟩]) <|
  .block 0 <|
  .loop [5, 6, 16, 17, 18] <|
   .seq
   (.region [⟨(some 19), .bin .lss (.t 18) (.t 17), none⟩]) <|
   .seq
   (.cond (.t 19)
     (.skip)
     (.exit 0)) <|
   .seq
   (.block 1 <|
    .seq
    (.region [⟨(some 20), .iaddr 4 (.t 16) (.t 18), none⟩,
       ⟨(some 21), .load true 4 (.t 20), none⟩,
       ⟨(some 8), .alloc [(.int .i64 0), (.int .i64 0), (.int .i64 0), (.bool false)], none⟩,
       ⟨none, .store 4 (.t 8) (.t 21), none⟩]) <|
    .seq
    (.region [⟨(some 22), .faddr 2 (.t 8), none⟩,
       ⟨(some 23), .load false 1 (.t 22), none⟩,
       ⟨(some 9), .mov (.t 23), none⟩]) <|
    .seq
    (.seq
     (.region [⟨(some 24), .mov (.t 5), none⟩,
        ⟨(some 25), .bin .quo (.t 24) (.c (.int .i64 1440)), none⟩,
        ⟨(some 26), .mov (.c (.int .i64 0)), none⟩]) <|
     .block 2 <|
     .loop [5, 6, 8, 9, 16, 17, 18, 25, 26] <|
      .seq
      (.region [⟨(some 27), .bin .lss (.t 26) (.t 25), none⟩]) <|
      .seq
      (.cond (.t 27)
        (.skip)
        (.exit 2)) <|
      .seq
      (.block 3 <|
       .region [⟨(some 28), .mov (.t 9), none⟩,
         ⟨(some 29), .bin .quo (.t 28) (.c (.int .i64 2)), none⟩,
         ⟨(some 9), .mov (.t 29), none⟩]) <|
      .region [⟨(some 30), .bin .add (.t 26) (.c (.int .i64 1)), none⟩,
        ⟨(some 26), .mov (.t 30), none⟩]) <|
    .seq
    (.region [⟨(some 31), .faddr 3 (.t 8), none⟩,
       ⟨(some 32), .load false 1 (.t 31), none⟩,
       ⟨(some 33), .un .not (.t 32), none⟩,
       ⟨(some 34), .mov (.t 33), none⟩,
       ⟨(some 35), .mov (.t 9), (some (34, true))⟩,
       ⟨(some 36), .bin .rem (.t 35) (.c (.int .i64 2)), (some (34, true))⟩,
       ⟨(some 37), .bin .eql (.t 36) (.c (.int .i64 1)), (some (34, true))⟩,
       ⟨(some 38), .pick (.t 34) (.t 37) (.c (.bool false)), none⟩,
       ⟨(some 39), .mov (.t 38), none⟩,
       ⟨(some 40), .mov (.t 5), (some (39, true))⟩,
       ⟨(some 41), .bin .rem (.t 40) (.c (.int .i64 1440)), (some (39, true))⟩,
       ⟨(some 42), .faddr 1 (.t 8), (some (39, true))⟩,
       ⟨(some 43), .load false 1 (.t 42), (some (39, true))⟩,
       ⟨(some 44), .bin .eql (.t 41) (.t 43), (some (39, true))⟩,
       ⟨(some 45), .pick (.t 39) (.t 44) (.c (.bool false)), none⟩]) <|
    .cond (.t 45)
     (.region [⟨(some 46), .mov (.t 6), none⟩,
        ⟨(some 47), .faddr 0 (.t 8), none⟩,
        ⟨(some 48), .load false 1 (.t 47), none⟩,
        ⟨(some 49), .buildSl 1 [(.int .i64 0)] [(0, 1, (.t 48))], none⟩,
        ⟨(some 50), .app 1 8 (.t 46) (.t 49), none⟩,
        ⟨(some 6), .mov (.t 50), none⟩])
     (.skip)) <|
   .region [⟨(some 51), .bin .add (.t 18) (.c (.int .i64 1)), none⟩,
     ⟨(some 18), .mov (.t 51), none⟩]) <|
 .seq
 (.region [⟨(some 52), .mov (.t 6), none⟩,
    ⟨(some 4), .mov (.t 52), none⟩]) <|
 .ret, [.slot 4]⟩
theorem c11 : Code1 Try.prog 11 53 b11 := Code1.mk' Try.func11 (by kernel_rfl) (by kernel_rfl) Try.ntmps11

/-- fusee/weekly.Set.Next -/
def b12 : IFn := ⟨
 .seq
 (.region [⟨(some 4), .mov (.c (.int .i64 0)), none⟩,
    ⟨(some 5), .mov (.c (.sl none 0 (some 0))), none⟩]) <|
 .seq
 (.region [⟨(some 13), .mov (.t 1), none⟩,
    ⟨(some 14), .call (.f 20) [(.t 13)], none⟩,
    ⟨(some 6), .mov (.t 14), none⟩]) <|
 .seq
 (.region [⟨(some 7), .mov (.c (.int .i64 0)), none⟩]) <|
 .seq
 (.seq
  (.region [⟨(some 15), .mov (.t 0), none⟩,
     ⟨(some 16), .call (.f 8) [(.t 15)], none⟩,
     ⟨(some 17), .len .sl (.t 16), none⟩,
     ⟨(some 18), .mov (.c (.int .i64 0)), none⟩]) <|
  .block 0 <|
  .loop [0, 6, 7, 16, 17, 18] <|
   .seq
   (.region [⟨(some 19), .bin .lss (.t 18) (.t 17), none⟩]) <|
   .seq
   (.cond (.t 19)
     (.skip)
     (.exit 0)) <|
   .seq
   (.block 1 <|
    .seq
    (.region [⟨(some 20), .iaddr 4 (.t 16) (.t 18), none⟩,
       ⟨(some 21), .load true 4 (.t 20), none⟩,
       ⟨(some 9), .alloc [(.int .i64 0), (.int .i64 0), (.int .i64 0), (.bool false)], none⟩,
       ⟨none, .store 4 (.t 9) (.t 21), none⟩]) <|
    .seq
    (.region [⟨(some 22), .mov (.c (.int .i64 0)), none⟩]) <|
    .block 2 <|
    .loop [0, 6, 7, 9, 16, 17, 18, 22] <|
     .seq
     (.region [⟨(some 23), .bin .lss (.t 22) (.c (.int .i64 7)), none⟩]) <|
     .seq
     (.cond (.t 23)
       (.skip)
       (.exit 2)) <|
     .seq
     (.block 3 <|
      .seq
      (.region [⟨(some 24), .mov (.t 22), none⟩,
         ⟨(some 10), .mov (.t 24), none⟩]) <|
      .seq
      (.region [⟨(some 25), .mov (.t 10), none⟩,
         ⟨(some 26), .bin .mul (.t 25) (.c (.int .i64 1440)), none⟩,
         ⟨(some 27), .faddr 1 (.t 9), none⟩,
         ⟨(some 28), .load false 1 (.t 27), none⟩,
         ⟨(some 29), .bin .add (.t 26) (.t 28), none⟩,
         ⟨(some 11), .mov (.t 29), none⟩]) <|
      .seq
      (.region [⟨(some 30), .mov (.t 11), none⟩,
         ⟨(some 31), .mov (.t 6), none⟩,
         ⟨(some 32), .bin .sub (.t 30) (.t 31), none⟩,
         ⟨(some 33), .bin .sub (.t 32) (.c (.int .i64 1)), none⟩,
         ⟨(some 34), .call (.f 20) [(.t 33)], none⟩,
         ⟨(some 35), .bin .add (.t 34) (.c (.int .i64 1)), none⟩,
         ⟨(some 12), .mov (.t 35), none⟩]) <|
      .seq
      (.region [⟨(some 36), .load true 4 (.t 9), none⟩,
         ⟨(some 37), .mov (.t 11), none⟩,
         ⟨(some 38), .call (.f 19) [(.t 36), (.t 37)], none⟩,
         ⟨(some 39), .mov (.t 38), none⟩,
         ⟨(some 40), .mov (.t 7), (some (39, true))⟩,
         ⟨(some 41), .bin .eql (.t 40) (.c (.int .i64 0)), (some (39, true))⟩,
         ⟨(some 42), .mov (.t 41), (some (39, true))⟩,
         ⟨(some 43), .mov (.t 12), (some (42, false))⟩,
         ⟨(some 44), .mov (.t 7), (some (42, false))⟩,
         ⟨(some 45), .bin .lss (.t 43) (.t 44), (some (42, false))⟩,
         ⟨(some 46), .pick (.t 42) (.c (.bool true)) (.t 45), (some (39, true))⟩,
         ⟨(some 47), .pick (.t 39) (.t 46) (.c (.bool false)), none⟩]) <|
      .cond (.t 47)
       (.region [⟨(some 48), .mov (.t 12), none⟩,
          ⟨(some 7), .mov (.t 48), none⟩])
       (.skip)) <|
     .region [⟨(some 49), .bin .add (.t 22) (.c (.int .i64 1)), none⟩,
       ⟨(some 22), .mov (.t 49), none⟩]) <|
   .region [⟨(some 50), .bin .add (.t 18) (.c (.int .i64 1)), none⟩,
     ⟨(some 18), .mov (.t 50), none⟩]) <|
 .seq
 (.seq
  (.region [⟨(some 51), .mov (.t 7), none⟩,
     ⟨(some 52), .bin .eql (.t 51) (.c (.int .i64 0)), none⟩]) <|
  .cond (.t 52)
   (.seq
    (.region [⟨(some 4), .mov (.c (.int .i64 0)), none⟩,
       ⟨(some 5), .mov (.c (.sl none 0 (some 0))), none⟩]) <|
    .ret)
   (.skip)) <|
 .seq
 (.region [⟨(some 53), .mov (.t 7), none⟩,
    ⟨(some 54), .mov (.t 0), none⟩,
    ⟨(some 55), .mov (.t 6), none⟩,
    ⟨(some 56), .mov (.t 7), none⟩,
    ⟨(some 57), .bin .add (.t 55) (.t 56), none⟩,
    ⟨(some 58), .call (.f 10) [(.t 54), (.t 57)], none⟩,
    ⟨(some 4), .mov (.t 53), none⟩,
    ⟨(some 5), .mov (.t 58), none⟩]) <|
 .ret, [.slot 4, .slot 5]⟩
theorem c12 : Code1 Try.prog 12 59 b12 := Code1.mk' Try.func12 (by kernel_rfl) (by kernel_rfl) Try.ntmps12

/-- fusee/weekly.Set.Between -/
def b13 : IFn := ⟨
 .seq
 (.region [⟨(some 6), .mov (.c (.sl none 0 (some 0))), none⟩]) <|
 .seq
 (.region [⟨(some 7), .mov (.c (.sl none 0 (some 0))), none⟩]) <|
 .seq
 (.seq
  (.region [⟨(some 8), .mov (.c (.int .i64 0)), none⟩]) <|
  .block 0 <|
  .loop [0, 1, 2, 7, 8] <|
   .seq
   (.seq
    (.region [⟨(some 9), .mov (.t 8), none⟩,
       ⟨(some 10), .bin .lss (.t 9) (.c (.int .i64 20160)), none⟩,
       ⟨(some 11), .mov (.t 10), none⟩,
       ⟨(some 12), .mov (.t 1), (some (11, true))⟩,
       ⟨(some 13), .mov (.t 2), (some (11, true))⟩,
       ⟨(some 14), .bin .lss (.t 12) (.t 13), (some (11, true))⟩,
       ⟨(some 15), .pick (.t 11) (.t 14) (.c (.bool false)), none⟩]) <|
    .cond (.t 15)
     (.skip)
     (.exit 0)) <|
   .seq
   (.block 1 <|
    .region [⟨(some 20), .mov (.t 7), none⟩,
      ⟨(some 21), .mov (.t 0), none⟩,
      ⟨(some 22), .mov (.t 1), none⟩,
      ⟨(some 23), .call (.f 10) [(.t 21), (.t 22)], none⟩,
      ⟨(some 24), .app 1 8 (.t 20) (.t 23), none⟩,
      ⟨(some 7), .mov (.t 24), none⟩]) <|
   .region [⟨(some 16), .mov (.t 8), none⟩,
     ⟨(some 17), .bin .add (.t 16) (.c (.int .i64 1)), none⟩,
     ⟨(some 18), .mov (.t 1), none⟩,
     ⟨(some 19), .bin .add (.t 18) (.c (.int .i64 1)), none⟩,
     ⟨(some 8), .mov (.t 17), none⟩,
     ⟨(some 1), .mov (.t 19), none⟩]) <|
 .seq
 (.region [⟨(some 25), .mov (.t 7), none⟩,
    ⟨(some 6), .mov (.t 25), none⟩]) <|
 .ret, [.slot 6]⟩
theorem c13 : Code1 Try.prog 13 26 b13 := Code1.mk' Try.func13 (by kernel_rfl) (by kernel_rfl) Try.ntmps13

/-- fusee/weekly.New -/
def b14 : IFn := ⟨
 .seq
 (.region [⟨(some 0), .mov (.c (.ptr none)), none⟩]) <|
 .seq
 (.region [⟨(some 1), .build [(.sl none 0 (some 0))] [], none⟩,
    ⟨(some 2), .box (.t 1), none⟩,
    ⟨(some 0), .mov (.t 2), none⟩]) <|
 .ret, [.slot 0]⟩
theorem c14 : Code1 Try.prog 14 3 b14 := Code1.mk' Try.func14 (by kernel_rfl) (by kernel_rfl) Try.ntmps14

/-- fusee/weekly.Set.Add -/
def b15 : IFn := ⟨
 .seq
 (.region [⟨(some 3), .box (.t 1), none⟩,
    ⟨(some 4), .mov (.c (.int .i64 0)), none⟩]) <|
 .seq
 (.region [⟨(some 8), .mov (.t 0), none⟩,
    ⟨(some 9), .faddr 0 (.t 3), none⟩,
    ⟨(some 10), .load false 1 (.t 9), none⟩,
    ⟨(some 11), .call (.f 21) [(.t 8), (.t 10)], none⟩,
    ⟨(some 7), .mov (.t 11), none⟩,
    ⟨(some 12), .extract (.t 7) 0, none⟩,
    ⟨(some 13), .extract (.t 7) 1, none⟩,
    ⟨(some 5), .mov (.t 12), none⟩,
    ⟨(some 6), .mov (.t 13), none⟩]) <|
 .seq
 (.block 0 <|
  .seq
  (.region [⟨(some 15), .mov (.t 0), none⟩,
     ⟨(some 16), .eq false false [.ptr] (.t 15) (.c (.ptr none)), none⟩,
     ⟨(some 14), .mov (.t 16), none⟩]) <|
  .cond (.t 14)
   (.seq
    (.region [⟨(some 4), .mov (.c (.int .i64 1)), none⟩]) <|
    .ret)
   (.seq
    (.region [⟨(some 18), .load true 4 (.t 3), none⟩,
       ⟨(some 19), .call (.f 22) [(.t 18)], none⟩,
       ⟨(some 20), .un .not (.t 19), none⟩,
       ⟨(some 17), .mov (.t 20), none⟩]) <|
    .cond (.t 17)
     (.seq
      (.region [⟨(some 4), .mov (.c (.int .i64 2)), none⟩]) <|
      .ret)
     (.seq
      (.region [⟨(some 22), .mov (.t 6), none⟩,
         ⟨(some 21), .mov (.t 22), none⟩]) <|
      .cond (.t 21)
       (.seq
        (.region [⟨(some 4), .mov (.c (.int .i64 9)), none⟩]) <|
        .ret)
       (.seq
        (.region [⟨(some 24), .mov (.t 0), none⟩,
           ⟨(some 25), .nilck (.t 24), none⟩,
           ⟨(some 26), .faddr 0 (.t 25), none⟩,
           ⟨(some 27), .load false 1 (.t 26), none⟩,
           ⟨(some 28), .len .sl (.t 27), none⟩,
           ⟨(some 29), .bin .geq (.t 28) (.c (.int .i64 64)), none⟩,
           ⟨(some 23), .mov (.t 29), none⟩]) <|
        .cond (.t 23)
         (.seq
          (.region [⟨(some 4), .mov (.c (.int .i64 3)), none⟩]) <|
          .ret)
         (.skip))))) <|
 .seq
 (.draw false [] (
    .op ⟨(some 30), .mov (.t 0), none⟩ <|
    .op ⟨(some 31), .mov (.t 0), none⟩ <|
    .op ⟨(some 32), .nilck (.t 31), none⟩ <|
    .op ⟨(some 33), .faddr 0 (.t 32), none⟩ <|
    .op ⟨(some 34), .load false 1 (.t 33), none⟩ <|
    .op ⟨(some 35), .mov (.t 5), none⟩ <|
    .op ⟨(some 36), .load true 4 (.t 3), none⟩ <|
    .op ⟨(some 37), .buildSl 4 [(.int .i64 0), (.int .i64 0), (.int .i64 0), (.bool false)] [(0, 4, (.t 36))], none⟩ <|
    .op ⟨(some 38), .call (.f 23) [(.t 34), (.t 35), (.t 37)], none⟩ <|
    .op ⟨(some 39), .nilck (.t 30), none⟩ <|
    .op ⟨(some 40), .faddr 0 (.t 39), none⟩ <|
    .op ⟨none, .store 1 (.t 40) (.t 38), none⟩ <|
    .done)) <|
 .seq
 (.region [⟨(some 4), .mov (.c (.int .i64 0)), none⟩]) <|
 .ret, [.slot 4]⟩
theorem c15 : Code1 Try.prog 15 41 b15 := Code1.mk' Try.func15 (by kernel_rfl) (by kernel_rfl) Try.ntmps15

/-- fusee/weekly.Set.Switch -/
def b16 : IFn := ⟨
 .seq
 (.region [⟨(some 6), .mov (.c (.bool false)), none⟩]) <|
 .seq
 (.region [⟨(some 10), .mov (.t 0), none⟩,
    ⟨(some 11), .mov (.t 1), none⟩,
    ⟨(some 12), .call (.f 21) [(.t 10), (.t 11)], none⟩,
    ⟨(some 9), .mov (.t 12), none⟩,
    ⟨(some 13), .extract (.t 9) 0, none⟩,
    ⟨(some 14), .extract (.t 9) 1, none⟩,
    ⟨(some 7), .mov (.t 13), none⟩,
    ⟨(some 8), .mov (.t 14), none⟩]) <|
 .seq
 (.seq
  (.region [⟨(some 15), .mov (.t 8), none⟩]) <|
  .cond (.t 15)
   (.region [⟨(some 16), .mov (.t 0), none⟩,
      ⟨(some 17), .nilck (.t 16), none⟩,
      ⟨(some 18), .faddr 0 (.t 17), none⟩,
      ⟨(some 19), .load false 1 (.t 18), none⟩,
      ⟨(some 20), .mov (.t 7), none⟩,
      ⟨(some 21), .mov (.t 2), none⟩,
      ⟨(some 22), .iaddr 4 (.t 19) (.t 20), none⟩,
      ⟨(some 23), .faddr 3 (.t 22), none⟩,
      ⟨none, .store 1 (.t 23) (.t 21), none⟩])
   (.skip)) <|
 .seq
 (.region [⟨(some 24), .mov (.t 8), none⟩,
    ⟨(some 6), .mov (.t 24), none⟩]) <|
 .ret, [.slot 6]⟩
theorem c16 : Code1 Try.prog 16 25 b16 := Code1.mk' Try.func16 (by kernel_rfl) (by kernel_rfl) Try.ntmps16

/-- fusee/weekly.Set.Drop -/
def b17 : IFn := ⟨
 .seq
 (.region [⟨(some 4), .mov (.c (.bool false)), none⟩]) <|
 .seq
 (.region [⟨(some 8), .mov (.t 0), none⟩,
    ⟨(some 9), .mov (.t 1), none⟩,
    ⟨(some 10), .call (.f 21) [(.t 8), (.t 9)], none⟩,
    ⟨(some 7), .mov (.t 10), none⟩,
    ⟨(some 11), .extract (.t 7) 0, none⟩,
    ⟨(some 12), .extract (.t 7) 1, none⟩,
    ⟨(some 5), .mov (.t 11), none⟩,
    ⟨(some 6), .mov (.t 12), none⟩]) <|
 .seq
 (.seq
  (.region [⟨(some 13), .mov (.t 6), none⟩]) <|
  .cond (.t 13)
   (.region [⟨(some 14), .mov (.t 0), none⟩,
      ⟨(some 15), .mov (.t 0), none⟩,
      ⟨(some 16), .nilck (.t 15), none⟩,
      ⟨(some 17), .faddr 0 (.t 16), none⟩,
      ⟨(some 18), .load false 1 (.t 17), none⟩,
      ⟨(some 19), .mov (.t 5), none⟩,
      ⟨(some 20), .mov (.t 5), none⟩,
      ⟨(some 21), .bin .add (.t 20) (.c (.int .i64 1)), none⟩,
      ⟨(some 22), .call (.f 24) [(.t 18), (.t 19), (.t 21)], none⟩,
      ⟨(some 23), .nilck (.t 14), none⟩,
      ⟨(some 24), .faddr 0 (.t 23), none⟩,
      ⟨none, .store 1 (.t 24) (.t 22), none⟩])
   (.skip)) <|
 .seq
 (.region [⟨(some 25), .mov (.t 6), none⟩,
    ⟨(some 4), .mov (.t 25), none⟩]) <|
 .ret, [.slot 4]⟩
theorem c17 : Code1 Try.prog 17 26 b17 := Code1.mk' Try.func17 (by kernel_rfl) (by kernel_rfl) Try.ntmps17

/-- slices.Clone[[]fusee/weekly.Alarm,fusee/weekly.Alarm] -/
def b18 : IFn := ⟨
 .seq
 (.region [⟨(some 2), .mov (.c (.sl none 0 (some 0))), none⟩]) <|
 .seq
 (.seq
  (.region [⟨(some 3), .mov (.t 0), none⟩,
     ⟨(some 4), .eq false false [.sl] (.t 3) (.c (.sl none 0 (some 0))), none⟩]) <|
  .cond (.t 4)
   (.seq
    (.region [⟨(some 2), .mov (.c (.sl none 0 (some 0))), none⟩]) <|
    .ret)
   (.skip)) <|
 .seq
 (.region [⟨(some 5), .buildSl 4 [] [], none⟩,
    ⟨(some 6), .mov (.t 0), none⟩,
    ⟨(some 7), .app 4 32 (.t 5) (.t 6), none⟩,
    ⟨(some 2), .mov (.t 7), none⟩]) <|
 .ret, [.slot 2]⟩
theorem c18 : Code1 Try.prog 18 8 b18 := Code1.mk' Try.func18 (by kernel_rfl) (by kernel_rfl) Try.ntmps18

/-- fusee/weekly.Alarm.rings -/
def b19 : IFn := ⟨
 .seq
 (.region [⟨(some 2), .box (.t 0), none⟩,
    ⟨(some 4), .mov (.c (.bool false)), none⟩]) <|
 .seq
 (.region [⟨(some 5), .faddr 3 (.t 2), none⟩,
    ⟨(some 6), .load false 1 (.t 5), none⟩,
    ⟨(some 7), .un .not (.t 6), none⟩,
    ⟨(some 8), .mov (.t 7), none⟩,
    ⟨(some 9), .mov (.t 1), (some (8, true))⟩,
    ⟨(some 10), .bin .rem (.t 9) (.c (.int .i64 1440)), (some (8, true))⟩,
    ⟨(some 11), .faddr 1 (.t 2), (some (8, true))⟩,
    ⟨(some 12), .load false 1 (.t 11), (some (8, true))⟩,
    ⟨(some 13), .bin .eql (.t 10) (.t 12), (some (8, true))⟩,
    ⟨(some 14), .pick (.t 8) (.t 13) (.c (.bool false)), none⟩,
    ⟨(some 15), .mov (.t 14), none⟩,
    ⟨(some 16), .faddr 2 (.t 2), (some (15, true))⟩,
    ⟨(some 17), .load false 1 (.t 16), (some (15, true))⟩,
    ⟨(some 18), .mov (.t 1), (some (15, true))⟩,
    ⟨(some 19), .bin .quo (.t 18) (.c (.int .i64 1440)), (some (15, true))⟩,
    ⟨(some 20), .conv .u64 (.t 19), (some (15, true))⟩,
    ⟨(some 21), .bin .shr (.t 17) (.t 20), (some (15, true))⟩,
    ⟨(some 22), .bin .and (.t 21) (.c (.int .i64 1)), (some (15, true))⟩,
    ⟨(some 23), .bin .eql (.t 22) (.c (.int .i64 1)), (some (15, true))⟩,
    ⟨(some 24), .pick (.t 15) (.t 23) (.c (.bool false)), none⟩,
    ⟨(some 4), .mov (.t 24), none⟩]) <|
 .ret, [.slot 4]⟩
theorem c19 : Code1 Try.prog 19 25 b19 := Code1.mk' Try.func19 (by kernel_rfl) (by kernel_rfl) Try.ntmps19

/-- fusee/weekly.within -/
def b20 : IFn := ⟨
 .seq
 (.region [⟨(some 2), .mov (.c (.int .i64 0)), none⟩]) <|
 .seq
 (.region [⟨(some 3), .mov (.t 0), none⟩,
    ⟨(some 4), .bin .rem (.t 3) (.c (.int .i64 10080)), none⟩,
    ⟨(some 5), .bin .add (.t 4) (.c (.int .i64 10080)), none⟩,
    ⟨(some 6), .bin .rem (.t 5) (.c (.int .i64 10080)), none⟩,
    ⟨(some 2), .mov (.t 6), none⟩]) <|
 .ret, [.slot 2]⟩
theorem c20 : Code1 Try.prog 20 7 b20 := Code1.mk' Try.func20 (by kernel_rfl) (by kernel_rfl) Try.ntmps20

/-- fusee/weekly.Set.place -/
def b21 : IFn := ⟨
 .seq
 (.region [⟨(some 4), .mov (.c (.int .i64 0)), none⟩,
    ⟨(some 5), .mov (.c (.bool false)), none⟩]) <|
 .seq
 (.seq
  (.region [⟨(some 6), .mov (.t 0), none⟩,
     ⟨(some 7), .eq false false [.ptr] (.t 6) (.c (.ptr none)), none⟩]) <|
  .cond (.t 7)
   (.seq
    (.region [⟨(some 4), .mov (.c (.int .i64 0)), none⟩,
       ⟨(some 5), .mov (.c (.bool false)), none⟩]) <|
    .ret)
   (.skip)) <|
 .seq
 (.region [⟨(some 8), .mov (.t 0), none⟩,
    ⟨(some 9), .nilck (.t 8), none⟩,
    ⟨(some 10), .faddr 0 (.t 9), none⟩,
    ⟨(some 11), .load false 1 (.t 10), none⟩,
    ⟨(some 12), .mov (.t 1), none⟩,
    ⟨(some 13), .call (.f 25) [(.t 11), (.t 12), (.f 26)], none⟩,
    ⟨(some 14), .extract (.t 13) 0, none⟩,
    ⟨(some 15), .extract (.t 13) 1, none⟩,
    ⟨(some 4), .mov (.t 14), none⟩,
    ⟨(some 5), .mov (.t 15), none⟩]) <|
 .ret, [.slot 4, .slot 5]⟩
theorem c21 : Code1 Try.prog 21 16 b21 := Code1.mk' Try.func21 (by kernel_rfl) (by kernel_rfl) Try.ntmps21

/-- fusee/weekly.right -/
def b22 : IFn := ⟨
 .seq
 (.region [⟨(some 1), .box (.t 0), none⟩,
    ⟨(some 2), .mov (.c (.bool false)), none⟩]) <|
 .seq
 (.region [⟨(some 3), .faddr 1 (.t 1), none⟩,
    ⟨(some 4), .load false 1 (.t 3), none⟩,
    ⟨(some 5), .bin .geq (.t 4) (.c (.int .i64 0)), none⟩,
    ⟨(some 6), .mov (.t 5), none⟩,
    ⟨(some 7), .faddr 1 (.t 1), (some (6, true))⟩,
    ⟨(some 8), .load false 1 (.t 7), (some (6, true))⟩,
    ⟨(some 9), .bin .lss (.t 8) (.c (.int .i64 1440)), (some (6, true))⟩,
    ⟨(some 10), .pick (.t 6) (.t 9) (.c (.bool false)), none⟩,
    ⟨(some 11), .mov (.t 10), none⟩,
    ⟨(some 12), .faddr 2 (.t 1), (some (11, true))⟩,
    ⟨(some 13), .load false 1 (.t 12), (some (11, true))⟩,
    ⟨(some 14), .bin .gtr (.t 13) (.c (.int .i64 0)), (some (11, true))⟩,
    ⟨(some 15), .pick (.t 11) (.t 14) (.c (.bool false)), none⟩,
    ⟨(some 16), .mov (.t 15), none⟩,
    ⟨(some 17), .faddr 2 (.t 1), (some (16, true))⟩,
    ⟨(some 18), .load false 1 (.t 17), (some (16, true))⟩,
    ⟨(some 19), .bin .lss (.t 18) (.c (.int .i64 128)), (some (16, true))⟩,
    ⟨(some 20), .pick (.t 16) (.t 19) (.c (.bool false)), none⟩,
    ⟨(some 2), .mov (.t 20), none⟩]) <|
 .ret, [.slot 2]⟩
theorem c22 : Code1 Try.prog 22 21 b22 := Code1.mk' Try.func22 (by kernel_rfl) (by kernel_rfl) Try.ntmps22

/-- slices.Insert[[]fusee/weekly.Alarm,fusee/weekly.Alarm] -/
def b23 : IFn := ⟨
 .seq
 (.region [⟨(some 6), .mov (.c (.sl none 0 (some 0))), none⟩]) <|
 .seq
 (.region [⟨(some 10), .mov (.t 0), none⟩,
    ⟨(some 11), .mov (.t 1), none⟩,
    ⟨(some 12), .slice 4 (.t 10) (some (.t 11)) none none, none⟩]) <|
 .seq
 (.region [⟨(some 13), .mov (.t 2), none⟩,
    ⟨(some 14), .len .sl (.t 13), none⟩,
    ⟨(some 7), .mov (.t 14), none⟩]) <|
 .seq
 (.seq
  (.region [⟨(some 15), .mov (.t 7), none⟩,
     ⟨(some 16), .bin .eql (.t 15) (.c (.int .i64 0)), none⟩]) <|
  .cond (.t 16)
   (.seq
    (.region [⟨(some 17), .mov (.t 0), none⟩,
       ⟨(some 6), .mov (.t 17), none⟩]) <|
    .ret)
   (.skip)) <|
 .seq
 (.region [⟨(some 18), .mov (.t 0), none⟩,
    ⟨(some 19), .len .sl (.t 18), none⟩,
    ⟨(some 8), .mov (.t 19), none⟩]) <|
 .seq
 (.seq
  (.region [⟨(some 20), .mov (.t 1), none⟩,
     ⟨(some 21), .mov (.t 8), none⟩,
     ⟨(some 22), .bin .eql (.t 20) (.t 21), none⟩]) <|
  .cond (.t 22)
   (.seq
    (.region [⟨(some 23), .mov (.t 0), none⟩,
       ⟨(some 24), .mov (.t 2), none⟩,
       ⟨(some 25), .app 4 32 (.t 23) (.t 24), none⟩,
       ⟨(some 6), .mov (.t 25), none⟩]) <|
    .ret)
   (.skip)) <|
 .seq
 (.seq
  (.region [⟨(some 26), .mov (.t 8), none⟩,
     ⟨(some 27), .mov (.t 7), none⟩,
     ⟨(some 28), .bin .add (.t 26) (.t 27), none⟩,
     ⟨(some 29), .mov (.t 0), none⟩,
     ⟨(some 30), .cap (.t 29), none⟩,
     ⟨(some 31), .bin .gtr (.t 28) (.t 30), none⟩]) <|
  .cond (.t 31)
   (.seq
    (.region [⟨(some 32), .mov (.t 0), none⟩,
       ⟨(some 33), .mov (.t 1), none⟩,
       ⟨(some 34), .slice 4 (.t 32) none (some (.t 33)) none, none⟩,
       ⟨(some 35), .mov (.t 8), none⟩,
       ⟨(some 36), .mov (.t 7), none⟩,
       ⟨(some 37), .bin .add (.t 35) (.t 36), none⟩,
       ⟨(some 38), .mov (.t 1), none⟩,
       ⟨(some 39), .bin .sub (.t 37) (.t 38), none⟩,
       ⟨(some 40), .appZ [(.int .i64 0), (.int .i64 0), (.int .i64 0), (.bool false)] 32 (.t 34) (.t 39), none⟩,
       ⟨(some 9), .mov (.t 40), none⟩]) <|
    .seq
    (.region [⟨(some 41), .mov (.t 9), none⟩,
       ⟨(some 42), .mov (.t 1), none⟩,
       ⟨(some 43), .slice 4 (.t 41) (some (.t 42)) none none, none⟩,
       ⟨(some 44), .mov (.t 2), none⟩,
       ⟨(some 45), .copy 4 (.t 43) (.t 44), none⟩]) <|
    .seq
    (.draw false [9] (
       .op ⟨(some 46), .mov (.t 9), none⟩ <|
       .op ⟨(some 47), .mov (.t 1), none⟩ <|
       .op ⟨(some 48), .mov (.t 7), none⟩ <|
       .op ⟨(some 49), .bin .add (.t 47) (.t 48), none⟩ <|
       .op ⟨(some 50), .slice 4 (.t 46) (some (.t 49)) none none, none⟩ <|
       .op ⟨(some 51), .mov (.t 0), none⟩ <|
       .op ⟨(some 52), .mov (.t 1), none⟩ <|
       .op ⟨(some 53), .slice 4 (.t 51) (some (.t 52)) none none, none⟩ <|
       .op ⟨(some 54), .copy 4 (.t 50) (.t 53), none⟩ <|
       .done)) <|
    .seq
    (.region [⟨(some 55), .mov (.t 9), none⟩,
       ⟨(some 6), .mov (.t 55), none⟩]) <|
    .ret)
   (.skip)) <|
 .seq
 (.region [⟨(some 56), .mov (.t 0), none⟩,
    ⟨(some 57), .mov (.t 8), none⟩,
    ⟨(some 58), .mov (.t 7), none⟩,
    ⟨(some 59), .bin .add (.t 57) (.t 58), none⟩,
    ⟨(some 60), .slice 4 (.t 56) none (some (.t 59)) none, none⟩,
    ⟨(some 0), .mov (.t 60), none⟩]) <|
 .seq
 (.seq
  (.region [⟨(some 61), .mov (.t 2), none⟩,
     ⟨(some 62), .mov (.t 0), none⟩,
     ⟨(some 63), .mov (.t 1), none⟩,
     ⟨(some 64), .mov (.t 7), none⟩,
     ⟨(some 65), .bin .add (.t 63) (.t 64), none⟩,
     ⟨(some 66), .slice 4 (.t 62) (some (.t 65)) none none, none⟩,
     ⟨(some 67), .call (.f 28) [(.t 61), (.t 66)], none⟩,
     ⟨(some 68), .un .not (.t 67), none⟩]) <|
  .cond (.t 68)
   (.seq
    (.draw false [0, 1, 2] (
       .op ⟨(some 69), .mov (.t 0), none⟩ <|
       .op ⟨(some 70), .mov (.t 1), none⟩ <|
       .op ⟨(some 71), .mov (.t 7), none⟩ <|
       .op ⟨(some 72), .bin .add (.t 70) (.t 71), none⟩ <|
       .op ⟨(some 73), .slice 4 (.t 69) (some (.t 72)) none none, none⟩ <|
       .op ⟨(some 74), .mov (.t 0), none⟩ <|
       .op ⟨(some 75), .mov (.t 1), none⟩ <|
       .op ⟨(some 76), .slice 4 (.t 74) (some (.t 75)) none none, none⟩ <|
       .op ⟨(some 77), .copy 4 (.t 73) (.t 76), none⟩ <|
       .done)) <|
    .seq
    (.region [⟨(some 78), .mov (.t 0), none⟩,
       ⟨(some 79), .mov (.t 1), none⟩,
       ⟨(some 80), .slice 4 (.t 78) (some (.t 79)) none none, none⟩,
       ⟨(some 81), .mov (.t 2), none⟩,
       ⟨(some 82), .copy 4 (.t 80) (.t 81), none⟩]) <|
    .seq
    (.region [⟨(some 83), .mov (.t 0), none⟩,
       ⟨(some 6), .mov (.t 83), none⟩]) <|
    .ret)
   (.skip)) <|
 .seq
 (.region [⟨(some 84), .mov (.t 0), none⟩,
    ⟨(some 85), .mov (.t 8), none⟩,
    ⟨(some 86), .slice 4 (.t 84) (some (.t 85)) none none, none⟩,
    ⟨(some 87), .mov (.t 2), none⟩,
    ⟨(some 88), .copy 4 (.t 86) (.t 87), none⟩]) <|
 .seq
 (.region [⟨(some 89), .mov (.t 0), none⟩,
    ⟨(some 90), .mov (.t 1), none⟩,
    ⟨(some 91), .slice 4 (.t 89) (some (.t 90)) none none, none⟩,
    ⟨(some 92), .mov (.t 7), none⟩,
    ⟨(some 93), .call (.f 29) [(.t 91), (.t 92)], none⟩]) <|
 .seq
 (.region [⟨(some 94), .mov (.t 0), none⟩,
    ⟨(some 6), .mov (.t 94), none⟩]) <|
 .ret, [.slot 6]⟩
theorem c23 : Code1 Try.prog 23 95 b23 := Code1.mk' Try.func23 (by kernel_rfl) (by kernel_rfl) Try.ntmps23

/-- slices.Delete[[]fusee/weekly.Alarm,fusee/weekly.Alarm] -/
def b24 : IFn := ⟨
 .seq
 (.region [⟨(some 6), .mov (.c (.sl none 0 (some 0))), none⟩]) <|
 .seq
 (.region [⟨(some 8), .mov (.t 0), none⟩,
    ⟨(some 9), .mov (.t 1), none⟩,
    ⟨(some 10), .mov (.t 2), none⟩,
    ⟨(some 11), .mov (.t 0), none⟩,
    ⟨(some 12), .len .sl (.t 11), none⟩,
    ⟨(some 13), .slice 4 (.t 8) (some (.t 9)) (some (.t 10)) (some (.t 12)), none⟩]) <|
 .seq
 (.seq
  (.region [⟨(some 14), .mov (.t 1), none⟩,
     ⟨(some 15), .mov (.t 2), none⟩,
     ⟨(some 16), .bin .eql (.t 14) (.t 15), none⟩]) <|
  .cond (.t 16)
   (.seq
    (.region [⟨(some 17), .mov (.t 0), none⟩,
       ⟨(some 6), .mov (.t 17), none⟩]) <|
    .ret)
   (.skip)) <|
 .seq
 (.region [⟨(some 18), .mov (.t 0), none⟩,
    ⟨(some 19), .len .sl (.t 18), none⟩,
    ⟨(some 7), .mov (.t 19), none⟩]) <|
 .seq
 (.draw false [0, 7] (
    .op ⟨(some 20), .mov (.t 0), none⟩ <|
    .op ⟨(some 21), .mov (.t 1), none⟩ <|
    .op ⟨(some 22), .slice 4 (.t 20) none (some (.t 21)) none, none⟩ <|
    .op ⟨(some 23), .mov (.t 0), none⟩ <|
    .op ⟨(some 24), .mov (.t 2), none⟩ <|
    .op ⟨(some 25), .slice 4 (.t 23) (some (.t 24)) none none, none⟩ <|
    .op ⟨(some 26), .app 4 32 (.t 22) (.t 25), none⟩ <|
    .op ⟨(some 0), .mov (.t 26), none⟩ <|
    .done)) <|
 .seq
 (.region [⟨(some 27), .mov (.t 0), none⟩,
    ⟨(some 28), .mov (.t 0), none⟩,
    ⟨(some 29), .len .sl (.t 28), none⟩,
    ⟨(some 30), .mov (.t 7), none⟩,
    ⟨(some 31), .sliceM 4 (.t 27) (.t 29) (.t 30), none⟩,
    ⟨none, .clear [(.int .i64 0), (.int .i64 0), (.int .i64 0), (.bool false)] (.t 31), none⟩]) <|
 .seq
 (.region [⟨(some 32), .mov (.t 0), none⟩,
    ⟨(some 6), .mov (.t 32), none⟩]) <|
 .ret, [.slot 6]⟩
theorem c24 : Code1 Try.prog 24 33 b24 := Code1.mk' Try.func24 (by kernel_rfl) (by kernel_rfl) Try.ntmps24

/-- slices.BinarySearchFunc[[]fusee/weekly.Alarm,fusee/weekly.Alarm,int] -/
def b25 : IFn := ⟨
 .seq
 (.region [⟨(some 6), .mov (.c (.int .i64 0)), none⟩,
    ⟨(some 7), .mov (.c (.bool false)), none⟩]) <|
 .seq
 (.region [⟨(some 12), .mov (.t 0), none⟩,
    ⟨(some 13), .len .sl (.t 12), none⟩,
    ⟨(some 8), .mov (.t 13), none⟩]) <|
 .seq
 (.region [⟨(some 14), .mov (.t 8), none⟩,
    ⟨(some 9), .mov (.c (.int .i64 0)), none⟩,
    ⟨(some 10), .mov (.t 14), none⟩]) <|
 .seq
 (.block 0 <|
  .loop [0, 1, 2, 8, 9, 10] <|
   .seq
   (.seq
    (.region [⟨(some 15), .mov (.t 9), none⟩,
       ⟨(some 16), .mov (.t 10), none⟩,
       ⟨(some 17), .bin .lss (.t 15) (.t 16), none⟩]) <|
    .cond (.t 17)
     (.skip)
     (.exit 0)) <|
   .block 1 <|
   .seq
   (.region [⟨(some 18), .mov (.t 9), none⟩,
      ⟨(some 19), .mov (.t 10), none⟩,
      ⟨(some 20), .bin .add (.t 18) (.t 19), none⟩,
      ⟨(some 21), .conv .u64 (.t 20), none⟩,
      ⟨(some 22), .bin .shr (.t 21) (.c (.int .u64 1)), none⟩,
      ⟨(some 23), .conv .i64 (.t 22), none⟩,
      ⟨(some 11), .mov (.t 23), none⟩]) <|
   .seq
   (.region [⟨(some 24), .mov (.t 2), none⟩,
      ⟨(some 25), .mov (.t 0), none⟩,
      ⟨(some 26), .mov (.t 11), none⟩,
      ⟨(some 27), .iaddr 4 (.t 25) (.t 26), none⟩,
      ⟨(some 28), .load true 4 (.t 27), none⟩,
      ⟨(some 29), .mov (.t 1), none⟩,
      ⟨(some 30), .call (.t 24) [(.t 28), (.t 29)], none⟩,
      ⟨(some 31), .bin .lss (.t 30) (.c (.int .i64 0)), none⟩]) <|
   .cond (.t 31)
    (.region [⟨(some 32), .mov (.t 11), none⟩,
       ⟨(some 33), .bin .add (.t 32) (.c (.int .i64 1)), none⟩,
       ⟨(some 9), .mov (.t 33), none⟩])
    (.region [⟨(some 34), .mov (.t 11), none⟩,
       ⟨(some 10), .mov (.t 34), none⟩])) <|
 .seq
 (.region [⟨(some 35), .mov (.t 9), none⟩,
    ⟨(some 36), .mov (.t 9), none⟩,
    ⟨(some 37), .mov (.t 8), none⟩,
    ⟨(some 38), .bin .lss (.t 36) (.t 37), none⟩,
    ⟨(some 39), .mov (.t 38), none⟩,
    ⟨(some 40), .mov (.t 2), (some (39, true))⟩,
    ⟨(some 41), .mov (.t 0), (some (39, true))⟩,
    ⟨(some 42), .mov (.t 9), (some (39, true))⟩,
    ⟨(some 43), .iaddr 4 (.t 41) (.t 42), (some (39, true))⟩,
    ⟨(some 44), .load true 4 (.t 43), (some (39, true))⟩,
    ⟨(some 45), .mov (.t 1), (some (39, true))⟩,
    ⟨(some 46), .call (.t 40) [(.t 44), (.t 45)], (some (39, true))⟩,
    ⟨(some 47), .bin .eql (.t 46) (.c (.int .i64 0)), (some (39, true))⟩,
    ⟨(some 48), .pick (.t 39) (.t 47) (.c (.bool false)), none⟩,
    ⟨(some 6), .mov (.t 35), none⟩,
    ⟨(some 7), .mov (.t 48), none⟩]) <|
 .ret, [.slot 6, .slot 7]⟩
theorem c25 : Code1 Try.prog 25 49 b25 := Code1.mk' Try.func25 (by kernel_rfl) (by kernel_rfl) Try.ntmps25

/-- fusee/weekly.Set.place$1 -/
def b26 : IFn := ⟨
 .seq
 (.region [⟨(some 2), .box (.t 0), none⟩,
    ⟨(some 4), .mov (.c (.int .i64 0)), none⟩]) <|
 .seq
 (.region [⟨(some 5), .faddr 0 (.t 2), none⟩,
    ⟨(some 6), .load false 1 (.t 5), none⟩,
    ⟨(some 7), .mov (.t 1), none⟩,
    ⟨(some 8), .call (.f 27) [(.t 6), (.t 7)], none⟩,
    ⟨(some 4), .mov (.t 8), none⟩]) <|
 .ret, [.slot 4]⟩
theorem c26 : Code1 Try.prog 26 9 b26 := Code1.mk' Try.func26 (by kernel_rfl) (by kernel_rfl) Try.ntmps26

/-- cmp.Compare[int] -/
def b27 : IFn := ⟨
 .seq
 (.region [⟨(some 4), .mov (.c (.int .i64 0)), none⟩]) <|
 .seq
 (.region [⟨(some 7), .mov (.t 0), none⟩,
    ⟨(some 8), .call (.f 30) [(.t 7)], none⟩,
    ⟨(some 5), .mov (.t 8), none⟩]) <|
 .seq
 (.region [⟨(some 9), .mov (.t 1), none⟩,
    ⟨(some 10), .call (.f 30) [(.t 9)], none⟩,
    ⟨(some 6), .mov (.t 10), none⟩]) <|
 .seq
 (.seq
  (.region [⟨(some 11), .mov (.t 5), none⟩]) <|
  .cond (.t 11)
   (.seq
    (.seq
     (.region [⟨(some 12), .mov (.t 6), none⟩]) <|
     .cond (.t 12)
      (.seq
       (.region [⟨(some 4), .mov (.c (.int .i64 0)), none⟩]) <|
       .ret)
      (.skip)) <|
    .seq
    (.region [⟨(some 4), .mov (.c (.int .i64 (-1))), none⟩]) <|
    .ret)
   (.skip)) <|
 .seq
 (.seq
  (.region [⟨(some 13), .mov (.t 6), none⟩]) <|
  .cond (.t 13)
   (.seq
    (.region [⟨(some 4), .mov (.c (.int .i64 1)), none⟩]) <|
    .ret)
   (.skip)) <|
 .seq
 (.seq
  (.region [⟨(some 14), .mov (.t 0), none⟩,
     ⟨(some 15), .mov (.t 1), none⟩,
     ⟨(some 16), .bin .lss (.t 14) (.t 15), none⟩]) <|
  .cond (.t 16)
   (.seq
    (.region [⟨(some 4), .mov (.c (.int .i64 (-1))), none⟩]) <|
    .ret)
   (.skip)) <|
 .seq
 (.seq
  (.region [⟨(some 17), .mov (.t 0), none⟩,
     ⟨(some 18), .mov (.t 1), none⟩,
     ⟨(some 19), .bin .gtr (.t 17) (.t 18), none⟩]) <|
  .cond (.t 19)
   (.seq
    (.region [⟨(some 4), .mov (.c (.int .i64 1)), none⟩]) <|
    .ret)
   (.skip)) <|
 .seq
 (.region [⟨(some 4), .mov (.c (.int .i64 0)), none⟩]) <|
 .ret, [.slot 4]⟩
theorem c27 : Code1 Try.prog 27 20 b27 := Code1.mk' Try.func27 (by kernel_rfl) (by kernel_rfl) Try.ntmps27

/-- slices.rotateRight[fusee/weekly.Alarm] -/
def b29 : IFn := ⟨
 .region [⟨(some 4), .mov (.t 0), none⟩,
   ⟨(some 5), .mov (.t 0), none⟩,
   ⟨(some 6), .len .sl (.t 5), none⟩,
   ⟨(some 7), .mov (.t 1), none⟩,
   ⟨(some 8), .bin .sub (.t 6) (.t 7), none⟩,
   ⟨(some 9), .call (.f 31) [(.t 4), (.t 8)], none⟩], []⟩
theorem c29 : Code1 Try.prog 29 10 b29 := Code1.mk' Try.func29 (by kernel_rfl) (by kernel_rfl) Try.ntmps29

/-- cmp.isNaN[int] -/
def b30 : IFn := ⟨
 .seq
 (.region [⟨(some 2), .mov (.c (.bool false)), none⟩]) <|
 .seq
 (.region [⟨(some 3), .mov (.t 0), none⟩,
    ⟨(some 4), .mov (.t 0), none⟩,
    ⟨(some 5), .bin .neq (.t 3) (.t 4), none⟩,
    ⟨(some 2), .mov (.t 5), none⟩]) <|
 .ret, [.slot 2]⟩
theorem c30 : Code1 Try.prog 30 6 b30 := Code1.mk' Try.func30 (by kernel_rfl) (by kernel_rfl) Try.ntmps30

/-- slices.rotateLeft[fusee/weekly.Alarm] -/
def b31 : IFn := ⟨
 .seq
 (.region [⟨(some 4), .mov (.t 0), none⟩,
    ⟨(some 5), .mov (.t 1), none⟩,
    ⟨(some 6), .slice 4 (.t 4) none (some (.t 5)) none, none⟩,
    ⟨(some 7), .call (.f 32) [(.t 6)], none⟩]) <|
 .seq
 (.region [⟨(some 8), .mov (.t 0), none⟩,
    ⟨(some 9), .mov (.t 1), none⟩,
    ⟨(some 10), .slice 4 (.t 8) (some (.t 9)) none none, none⟩,
    ⟨(some 11), .call (.f 32) [(.t 10)], none⟩]) <|
 .region [⟨(some 12), .mov (.t 0), none⟩,
   ⟨(some 13), .call (.f 32) [(.t 12)], none⟩], []⟩
theorem c31 : Code1 Try.prog 31 14 b31 := Code1.mk' Try.func31 (by kernel_rfl) (by kernel_rfl) Try.ntmps31

/-- slices.Reverse[[]fusee/weekly.Alarm,fusee/weekly.Alarm] -/
def b32 : IFn := ⟨
 .seq
 (.region [⟨(some 4), .mov (.t 0), none⟩,
    ⟨(some 5), .len .sl (.t 4), none⟩,
    ⟨(some 6), .bin .sub (.t 5) (.c (.int .i64 1)), none⟩,
    ⟨(some 2), .mov (.c (.int .i64 0)), none⟩,
    ⟨(some 3), .mov (.t 6), none⟩]) <|
 .block 0 <|
 .loop [0, 2, 3] <|
  .seq
  (.seq
   (.region [⟨(some 7), .mov (.t 2), none⟩,
      ⟨(some 8), .mov (.t 3), none⟩,
      ⟨(some 9), .bin .lss (.t 7) (.t 8), none⟩]) <|
   .cond (.t 9)
    (.skip)
    (.exit 0)) <|
  .seq
  (.block 1 <|
   .draw false [0, 2, 3] (
     .op ⟨(some 14), .mov (.t 0), none⟩ <|
     .op ⟨(some 15), .mov (.t 2), none⟩ <|
     .op ⟨(some 16), .mov (.t 0), none⟩ <|
     .op ⟨(some 17), .mov (.t 3), none⟩ <|
     .op ⟨(some 18), .mov (.t 0), none⟩ <|
     .op ⟨(some 19), .mov (.t 3), none⟩ <|
     .op ⟨(some 20), .iaddr 4 (.t 18) (.t 19), none⟩ <|
     .op ⟨(some 21), .load true 4 (.t 20), none⟩ <|
     .op ⟨(some 22), .mov (.t 0), none⟩ <|
     .op ⟨(some 23), .mov (.t 2), none⟩ <|
     .op ⟨(some 24), .iaddr 4 (.t 22) (.t 23), none⟩ <|
     .op ⟨(some 25), .load true 4 (.t 24), none⟩ <|
     .op ⟨(some 26), .iaddr 4 (.t 14) (.t 15), none⟩ <|
     .op ⟨none, .store 4 (.t 26) (.t 21), none⟩ <|
     .op ⟨(some 27), .iaddr 4 (.t 16) (.t 17), none⟩ <|
     .op ⟨none, .store 4 (.t 27) (.t 25), none⟩ <|
     .done)) <|
  .region [⟨(some 10), .mov (.t 2), none⟩,
    ⟨(some 11), .bin .add (.t 10) (.c (.int .i64 1)), none⟩,
    ⟨(some 12), .mov (.t 3), none⟩,
    ⟨(some 13), .bin .sub (.t 12) (.c (.int .i64 1)), none⟩,
    ⟨(some 2), .mov (.t 11), none⟩,
    ⟨(some 3), .mov (.t 13), none⟩], []⟩
theorem c32 : Code1 Try.prog 32 28 b32 := Code1.mk' Try.func32 (by kernel_rfl) (by kernel_rfl) Try.ntmps32

/-- The functions that the facts at the head of each statement call. -/
abbrev code : CodeL := [(6, 99, b6), (8, 10, b8), (10, 26, b10), (12, 59, b12), (13, 26, b13), (14, 3, b14), (15, 41, b15), (16, 25, b16), (17, 26, b17), (18, 8, b18), (19, 25, b19), (20, 7, b20), (21, 16, b21), (22, 21, b22), (23, 95, b23), (24, 33, b24), (25, 49, b25), (26, 9, b26), (27, 20, b27), (29, 10, b29), (30, 6, b30), (31, 14, b31), (32, 28, b32)]
theorem codeOk : CodeOk Try.prog code := ⟨c6, c8, c10, c12, c13, c14, c15, c16, c17, c18, c19, c20, c21, c22, c23, c24, c25, c26, c27, c29, c30, c31, c32, trivial⟩

end Go.Proofs.Ytkalojiddaeekaa
