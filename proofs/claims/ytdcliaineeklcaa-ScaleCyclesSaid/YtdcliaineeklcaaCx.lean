/-
  THE CODE of the functions of this seat, as the plain machine's; each is what the compiler makes of the program's.
-/
import Derived.Test.YtdcliaineeklcaaChecked
import Derived.Test.YtdcliaineeklcaaAm24
import Derived.KernelRfl
namespace Go.Proofs.Ytdcliaineeklcaa
open Go Go.AM
set_option linter.unusedVariables false

theorem hm : Try.prog.follows .mixedOrders = true := by kernel_rfl

/-- fusee/fuseelaw04.ScaleNanos -/
def b3 : IFn := ⟨
 .seq
 (.region [⟨(some 2), .box (.t 0), none⟩,
    ⟨(some 4), .mov (.c (.bool false)), none⟩]) <|
 .seq
 (.seq
  (.region [⟨(some 6), .call (.f 7) [], none⟩,
     ⟨(some 7), .un .not (.t 6), none⟩]) <|
  .cond (.t 7)
   (.seq
    (.region [⟨(some 4), .mov (.c (.bool false)), none⟩]) <|
    .ret)
   (.skip)) <|
 .seq
 (.region [⟨(some 8), .load true 2 (.t 2), none⟩,
    ⟨(some 9), .mov (.t 1), none⟩,
    ⟨(some 10), .call (.f 8) [(.t 8), (.t 9)], none⟩,
    ⟨(some 5), .mov (.t 10), none⟩]) <|
 .seq
 (.seq
  (.draw true [1, 2, 5, 15] (
     .op ⟨(some 11), .load true 2 (.t 2), none⟩ <|
     .alt (.op ⟨(some 12), .call (.f 9) [(.t 11)], none⟩ <|
      .op ⟨(some 13), .load true 2 (.t 2), none⟩ <|
      .op ⟨(some 14), .call (.f 10) [(.t 13)], none⟩ <|
      .op ⟨(some 15), .eq true false [.bool] (.t 12) (.t 14), none⟩ <|
      .done) <|
     .op ⟨(some 13), .load true 2 (.t 2), none⟩ <|
     .op ⟨(some 12), .call (.f 9) [(.t 11)], none⟩ <|
     .op ⟨(some 14), .call (.f 10) [(.t 13)], none⟩ <|
     .op ⟨(some 15), .eq true false [.bool] (.t 12) (.t 14), none⟩ <|
     .done)) <|
  .cond (.t 15)
   (.seq
    (.region [⟨(some 4), .mov (.c (.bool false)), none⟩]) <|
    .ret)
   (.skip)) <|
 .seq
 (.seq
  (.region [⟨(some 16), .load true 2 (.t 2), none⟩,
     ⟨(some 17), .call (.f 10) [(.t 16)], none⟩,
     ⟨(some 18), .un .not (.t 17), none⟩]) <|
  .cond (.t 18)
   (.seq
    (.region [⟨(some 19), .mov (.t 5), none⟩,
       ⟨(some 20), .bin .eql (.t 19) (.c (.int .i64 0)), none⟩,
       ⟨(some 21), .mov (.t 20), none⟩,
       ⟨(some 22), .load true 2 (.t 2), (some (21, true))⟩,
       ⟨(some 23), .mov (.t 1), (some (21, true))⟩,
       ⟨(some 24), .call (.f 11) [(.t 22), (.t 23)], (some (21, true))⟩,
       ⟨(some 25), .bin .eql (.t 24) (.c (.int .i64 0)), (some (21, true))⟩,
       ⟨(some 26), .pick (.t 21) (.t 25) (.c (.bool false)), none⟩,
       ⟨(some 4), .mov (.t 26), none⟩]) <|
    .ret)
   (.skip)) <|
 .seq
 (.region [⟨(some 27), .mov (.t 5), none⟩,
    ⟨(some 28), .faddr 0 (.t 2), none⟩,
    ⟨(some 29), .load false 1 (.t 28), none⟩,
    ⟨(some 30), .faddr 1 (.t 2), none⟩,
    ⟨(some 31), .load false 1 (.t 30), none⟩,
    ⟨(some 32), .mov (.t 1), none⟩,
    ⟨(some 33), .call (.f 12) [(.t 29), (.t 31), (.t 32)], none⟩,
    ⟨(some 34), .bin .eql (.t 27) (.t 33), none⟩,
    ⟨(some 4), .mov (.t 34), none⟩]) <|
 .ret, [.slot 4]⟩
theorem c3 : Code1 Try.prog 3 35 b3 := Code1.mk' Try.func3 (by kernel_rfl) (by kernel_rfl) Try.ntmps3

/-- fusee/fuseelaw04.ScaleCycles -/
def b4 : IFn := ⟨
 .seq
 (.region [⟨(some 2), .box (.t 0), none⟩,
    ⟨(some 4), .mov (.c (.bool false)), none⟩]) <|
 .seq
 (.seq
  (.region [⟨(some 7), .call (.f 7) [], none⟩,
     ⟨(some 8), .un .not (.t 7), none⟩]) <|
  .cond (.t 8)
   (.seq
    (.region [⟨(some 4), .mov (.c (.bool false)), none⟩]) <|
    .ret)
   (.skip)) <|
 .seq
 (.seq
  (.region [⟨(some 9), .load true 2 (.t 2), none⟩,
     ⟨(some 10), .call (.f 10) [(.t 9)], none⟩,
     ⟨(some 11), .un .not (.t 10), none⟩]) <|
  .cond (.t 11)
   (.seq
    (.region [⟨(some 4), .mov (.c (.bool true)), none⟩]) <|
    .ret)
   (.skip)) <|
 .seq
 (.region [⟨(some 12), .load true 2 (.t 2), none⟩,
    ⟨(some 13), .mov (.t 1), none⟩,
    ⟨(some 14), .call (.f 11) [(.t 12), (.t 13)], none⟩,
    ⟨(some 5), .mov (.t 14), none⟩]) <|
 .seq
 (.region [⟨(some 15), .mov (.t 1), none⟩,
    ⟨(some 16), .max [(.t 15), (.c (.int .i64 0))], none⟩,
    ⟨(some 17), .min [(.t 16), (.c (.int .i64 4611686018427387903))], none⟩,
    ⟨(some 6), .mov (.t 17), none⟩]) <|
 .seq
 (.seq
  (.region [⟨(some 18), .mov (.t 5), none⟩,
     ⟨(some 19), .bin .lss (.t 18) (.c (.int .i64 0)), none⟩,
     ⟨(some 20), .mov (.t 19), none⟩,
     ⟨(some 21), .mov (.t 5), (some (20, false))⟩,
     ⟨(some 22), .bin .gtr (.t 21) (.c (.int .i64 4611686018427387903)), (some (20, false))⟩,
     ⟨(some 23), .pick (.t 20) (.c (.bool true)) (.t 22), none⟩]) <|
  .cond (.t 23)
   (.seq
    (.region [⟨(some 4), .mov (.c (.bool false)), none⟩]) <|
    .ret)
   (.skip)) <|
 .seq
 (.seq
  (.region [⟨(some 24), .faddr 0 (.t 2), none⟩,
     ⟨(some 25), .load false 1 (.t 24), none⟩,
     ⟨(some 26), .faddr 1 (.t 2), none⟩,
     ⟨(some 27), .load false 1 (.t 26), none⟩,
     ⟨(some 28), .mov (.t 5), none⟩,
     ⟨(some 29), .call (.f 12) [(.t 25), (.t 27), (.t 28)], none⟩,
     ⟨(some 30), .mov (.t 6), none⟩,
     ⟨(some 31), .bin .lss (.t 29) (.t 30), none⟩]) <|
  .cond (.t 31)
   (.seq
    (.region [⟨(some 32), .mov (.t 5), none⟩,
       ⟨(some 33), .bin .eql (.t 32) (.c (.int .i64 4611686018427387903)), none⟩,
       ⟨(some 4), .mov (.t 33), none⟩]) <|
    .ret)
   (.skip)) <|
 .seq
 (.region [⟨(some 34), .mov (.t 5), none⟩,
    ⟨(some 35), .bin .eql (.t 34) (.c (.int .i64 0)), none⟩,
    ⟨(some 36), .mov (.t 35), none⟩,
    ⟨(some 37), .faddr 0 (.t 2), (some (36, false))⟩,
    ⟨(some 38), .load false 1 (.t 37), (some (36, false))⟩,
    ⟨(some 39), .faddr 1 (.t 2), (some (36, false))⟩,
    ⟨(some 40), .load false 1 (.t 39), (some (36, false))⟩,
    ⟨(some 41), .mov (.t 5), (some (36, false))⟩,
    ⟨(some 42), .bin .sub (.t 41) (.c (.int .i64 1)), (some (36, false))⟩,
    ⟨(some 43), .call (.f 12) [(.t 38), (.t 40), (.t 42)], (some (36, false))⟩,
    ⟨(some 44), .mov (.t 6), (some (36, false))⟩,
    ⟨(some 45), .bin .lss (.t 43) (.t 44), (some (36, false))⟩,
    ⟨(some 46), .pick (.t 36) (.c (.bool true)) (.t 45), none⟩,
    ⟨(some 4), .mov (.t 46), none⟩]) <|
 .ret, [.slot 4]⟩
theorem c4 : Code1 Try.prog 4 47 b4 := Code1.mk' Try.func4 (by kernel_rfl) (by kernel_rfl) Try.ntmps4

/-- fusee/fuseelaw04.ScaleMakes -/
def b5 : IFn := ⟨
 .seq
 (.region [⟨(some 2), .mov (.c (.bool false)), none⟩]) <|
 .seq
 (.seq
  (.region [⟨(some 9), .call (.f 7) [], none⟩,
     ⟨(some 10), .un .not (.t 9), none⟩]) <|
  .cond (.t 10)
   (.seq
    (.region [⟨(some 2), .mov (.c (.bool false)), none⟩]) <|
    .ret)
   (.skip)) <|
 .seq
 (.region [⟨(some 12), .mov (.t 0), none⟩,
    ⟨(some 13), .call (.f 13) [(.t 12)], none⟩,
    ⟨(some 11), .mov (.t 13), none⟩,
    ⟨(some 14), .extract (.t 11) 0, none⟩,
    ⟨(some 15), .extract (.t 11) 1, none⟩,
    ⟨(some 3), .alloc [(.int .i64 0), (.int .i64 0)], none⟩,
    ⟨none, .store 2 (.t 3) (.t 14), none⟩,
    ⟨(some 4), .mov (.t 15), none⟩]) <|
 .seq
 (.seq
  (.region [⟨(some 16), .mov (.t 0), none⟩,
     ⟨(some 17), .bin .lss (.t 16) (.c (.int .i64 1)), none⟩,
     ⟨(some 18), .mov (.t 17), none⟩,
     ⟨(some 19), .mov (.t 0), (some (18, false))⟩,
     ⟨(some 20), .bin .gtr (.t 19) (.c (.int .i64 1099511627776)), (some (18, false))⟩,
     ⟨(some 21), .pick (.t 18) (.c (.bool true)) (.t 20), none⟩]) <|
  .cond (.t 21)
   (.seq
    (.region [⟨(some 22), .mov (.t 4), none⟩,
       ⟨(some 23), .un .not (.t 22), none⟩,
       ⟨(some 24), .mov (.t 23), none⟩,
       ⟨(some 25), .load true 2 (.t 3), (some (24, true))⟩,
       ⟨(some 26), .build [(.int .i64 0), (.int .i64 0)] [], (some (24, true))⟩,
       ⟨(some 27), .eq false true [.int, .int] (.t 25) (.t 26), (some (24, true))⟩,
       ⟨(some 28), .pick (.t 24) (.t 27) (.c (.bool false)), none⟩,
       ⟨(some 29), .mov (.t 28), none⟩,
       ⟨(some 30), .build [(.int .i64 0), (.int .i64 0)] [(0, 1, (.c (.int .i64 1)))], (some (29, true))⟩,
       ⟨(some 31), .mov (.t 0), (some (29, true))⟩,
       ⟨(some 32), .call (.f 14) [(.t 30), (.t 31)], (some (29, true))⟩,
       ⟨(some 33), .bin .eql (.t 32) (.c (.int .i64 0)), (some (29, true))⟩,
       ⟨(some 34), .pick (.t 29) (.t 33) (.c (.bool false)), none⟩,
       ⟨(some 2), .mov (.t 34), none⟩]) <|
    .ret)
   (.skip)) <|
 .seq
 (.seq
  (.region [⟨(some 35), .mov (.t 0), none⟩,
     ⟨(some 36), .bin .lss (.t 35) (.c (.int .i64 4)), none⟩]) <|
  .cond (.t 36)
   (.seq
    (.region [⟨(some 37), .mov (.t 4), none⟩,
       ⟨(some 38), .mov (.t 37), none⟩,
       ⟨(some 39), .load true 2 (.t 3), (some (38, true))⟩,
       ⟨(some 40), .call (.f 10) [(.t 39)], (some (38, true))⟩,
       ⟨(some 41), .pick (.t 38) (.t 40) (.c (.bool false)), none⟩,
       ⟨(some 2), .mov (.t 41), none⟩]) <|
    .ret)
   (.skip)) <|
 .seq
 (.region [⟨(some 5), .mov (.c (.int .i64 0)), none⟩,
    ⟨(some 6), .mov (.c (.int .i64 0)), none⟩,
    ⟨(some 7), .mov (.c (.bool false)), none⟩]) <|
 .seq
 (.seq
  (.region [⟨(some 42), .mov (.t 0), none⟩,
     ⟨(some 43), .bin .geq (.t 42) (.c (.int .i64 1000)), none⟩]) <|
  .cond (.t 43)
   (.seq
    (.region [⟨(some 45), .mov (.t 0), none⟩,
       ⟨(some 46), .call (.f 15) [(.t 45)], none⟩,
       ⟨(some 44), .mov (.t 46), none⟩,
       ⟨(some 47), .extract (.t 44) 0, none⟩,
       ⟨(some 48), .extract (.t 44) 1, none⟩,
       ⟨(some 49), .extract (.t 44) 2, none⟩,
       ⟨(some 5), .mov (.t 47), none⟩,
       ⟨(some 6), .mov (.t 48), none⟩,
       ⟨(some 7), .mov (.t 49), none⟩]) <|
    .seq
    (.region [⟨(some 50), .mov (.t 6), none⟩,
       ⟨(some 51), .bin .gtr (.t 50) (.c (.int .i64 32)), none⟩]) <|
    .cond (.t 51)
     (.seq
      (.region [⟨(some 2), .mov (.c (.bool false)), none⟩]) <|
      .ret)
     (.skip))
   (.skip)) <|
 .seq
 (.seq
  (.region [⟨(some 52), .mov (.t 4), none⟩,
     ⟨(some 53), .un .not (.t 52), none⟩]) <|
  .cond (.t 53)
   (.seq
    (.region [⟨(some 54), .faddr 0 (.t 3), none⟩,
       ⟨(some 55), .load false 1 (.t 54), none⟩,
       ⟨(some 56), .bin .eql (.t 55) (.c (.int .i64 0)), none⟩,
       ⟨(some 2), .mov (.t 56), none⟩]) <|
    .ret)
   (.skip)) <|
 .seq
 (.seq
  (.region [⟨(some 57), .load true 2 (.t 3), none⟩,
     ⟨(some 58), .mov (.t 0), none⟩,
     ⟨(some 59), .call (.f 14) [(.t 57), (.t 58)], none⟩,
     ⟨(some 8), .mov (.t 59), none⟩]) <|
  .seq
  (.region [⟨(some 60), .mov (.t 8), none⟩,
     ⟨(some 61), .faddr 0 (.t 3), none⟩,
     ⟨(some 62), .load false 1 (.t 61), none⟩,
     ⟨(some 63), .faddr 1 (.t 3), none⟩,
     ⟨(some 64), .load false 1 (.t 63), none⟩,
     ⟨(some 65), .mov (.t 0), none⟩,
     ⟨(some 66), .call (.f 12) [(.t 62), (.t 64), (.t 65)], none⟩,
     ⟨(some 67), .bin .sub (.t 66) (.c (.int .i64 1000000000)), none⟩,
     ⟨(some 68), .bin .neq (.t 60) (.t 67), none⟩]) <|
  .cond (.t 68)
   (.seq
    (.region [⟨(some 2), .mov (.c (.bool false)), none⟩]) <|
    .ret)
   (.skip)) <|
 .seq
 (.region [⟨(some 69), .mov (.t 0), none⟩,
    ⟨(some 70), .bin .lss (.t 69) (.c (.int .i64 1000)), none⟩,
    ⟨(some 71), .mov (.t 70), none⟩,
    ⟨(some 72), .mov (.t 7), (some (71, false))⟩,
    ⟨(some 73), .mov (.t 72), (some (71, false))⟩,
    ⟨(some 74), .load true 2 (.t 3), (some (73, true))⟩,
    ⟨(some 75), .mov (.t 5), (some (73, true))⟩,
    ⟨(some 76), .mov (.t 6), (some (73, true))⟩,
    ⟨(some 77), .build [(.int .i64 0), (.int .i64 0)] [(0, 1, (.t 75)), (1, 1, (.t 76))], (some (73, true))⟩,
    ⟨(some 78), .eq false true [.int, .int] (.t 74) (.t 77), (some (73, true))⟩,
    ⟨(some 79), .pick (.t 73) (.t 78) (.c (.bool false)), (some (71, false))⟩,
    ⟨(some 80), .pick (.t 71) (.c (.bool true)) (.t 79), none⟩,
    ⟨(some 2), .mov (.t 80), none⟩]) <|
 .ret, [.slot 2]⟩
theorem c5 : Code1 Try.prog 5 81 b5 := Code1.mk' Try.func5 (by kernel_rfl) (by kernel_rfl) Try.ntmps5

/-- fusee/fuseelaw04.ScaleRises -/
def b6 : IFn := ⟨
 .seq
 (.region [⟨(some 3), .box (.t 0), none⟩,
    ⟨(some 6), .mov (.c (.bool false)), none⟩]) <|
 .seq
 (.seq
  (.region [⟨(some 9), .call (.f 7) [], none⟩,
     ⟨(some 10), .un .not (.t 9), none⟩]) <|
  .cond (.t 10)
   (.seq
    (.region [⟨(some 6), .mov (.c (.bool false)), none⟩]) <|
    .ret)
   (.skip)) <|
 .seq
 (.region [⟨(some 11), .mov (.t 1), none⟩,
    ⟨(some 12), .mov (.t 2), none⟩,
    ⟨(some 13), .min [(.t 11), (.t 12)], none⟩,
    ⟨(some 14), .mov (.t 1), none⟩,
    ⟨(some 15), .mov (.t 2), none⟩,
    ⟨(some 16), .max [(.t 14), (.t 15)], none⟩,
    ⟨(some 7), .mov (.t 13), none⟩,
    ⟨(some 8), .mov (.t 16), none⟩]) <|
 .seq
 (.draw true [6] (
    .op ⟨(some 17), .load true 2 (.t 3), none⟩ <|
    .op ⟨(some 18), .mov (.t 7), none⟩ <|
    .op ⟨(some 21), .mov (.t 8), none⟩ <|
    .alt (.op ⟨(some 19), .call (.f 8) [(.t 17), (.t 18)], none⟩ <|
     .op ⟨(some 20), .load true 2 (.t 3), none⟩ <|
     .op ⟨(some 22), .call (.f 8) [(.t 20), (.t 21)], none⟩ <|
     .op ⟨(some 23), .bin .leq (.t 19) (.t 22), none⟩ <|
     .op ⟨(some 24), .mov (.t 23), none⟩ <|
     .op ⟨(some 25), .load true 2 (.t 3), (some (24, true))⟩ <|
     .op ⟨(some 26), .mov (.t 7), (some (24, true))⟩ <|
     .op ⟨(some 29), .mov (.t 8), (some (24, true))⟩ <|
     .alt (.op ⟨(some 27), .call (.f 11) [(.t 25), (.t 26)], (some (24, true))⟩ <|
      .op ⟨(some 28), .load true 2 (.t 3), (some (24, true))⟩ <|
      .op ⟨(some 30), .call (.f 11) [(.t 28), (.t 29)], (some (24, true))⟩ <|
      .op ⟨(some 31), .bin .leq (.t 27) (.t 30), (some (24, true))⟩ <|
      .op ⟨(some 32), .pick (.t 24) (.t 31) (.c (.bool false)), none⟩ <|
      .op ⟨(some 33), .mov (.t 32), none⟩ <|
      .op ⟨(some 34), .load true 2 (.t 3), (some (33, true))⟩ <|
      .op ⟨(some 35), .call (.f 8) [(.t 34), (.c (.int .i64 0))], (some (33, true))⟩ <|
      .op ⟨(some 36), .bin .eql (.t 35) (.c (.int .i64 0)), (some (33, true))⟩ <|
      .op ⟨(some 37), .pick (.t 33) (.t 36) (.c (.bool false)), none⟩ <|
      .op ⟨(some 38), .mov (.t 37), none⟩ <|
      .op ⟨(some 39), .load true 2 (.t 3), (some (38, true))⟩ <|
      .op ⟨(some 40), .call (.f 11) [(.t 39), (.c (.int .i64 0))], (some (38, true))⟩ <|
      .op ⟨(some 41), .bin .eql (.t 40) (.c (.int .i64 0)), (some (38, true))⟩ <|
      .op ⟨(some 42), .pick (.t 38) (.t 41) (.c (.bool false)), none⟩ <|
      .op ⟨(some 43), .mov (.t 42), none⟩ <|
      .op ⟨(some 44), .load true 2 (.t 3), (some (43, true))⟩ <|
      .op ⟨(some 45), .mov (.t 8), (some (43, true))⟩ <|
      .op ⟨(some 46), .call (.f 8) [(.t 44), (.t 45)], (some (43, true))⟩ <|
      .op ⟨(some 47), .bin .leq (.t 46) (.c (.int .i64 4611686018427387903)), (some (43, true))⟩ <|
      .op ⟨(some 48), .pick (.t 43) (.t 47) (.c (.bool false)), none⟩ <|
      .op ⟨(some 6), .mov (.t 48), none⟩ <|
      .done) <|
     .op ⟨(some 28), .load true 2 (.t 3), (some (24, true))⟩ <|
     .op ⟨(some 27), .call (.f 11) [(.t 25), (.t 26)], (some (24, true))⟩ <|
     .op ⟨(some 30), .call (.f 11) [(.t 28), (.t 29)], (some (24, true))⟩ <|
     .op ⟨(some 31), .bin .leq (.t 27) (.t 30), (some (24, true))⟩ <|
     .op ⟨(some 32), .pick (.t 24) (.t 31) (.c (.bool false)), none⟩ <|
     .op ⟨(some 33), .mov (.t 32), none⟩ <|
     .op ⟨(some 34), .load true 2 (.t 3), (some (33, true))⟩ <|
     .op ⟨(some 35), .call (.f 8) [(.t 34), (.c (.int .i64 0))], (some (33, true))⟩ <|
     .op ⟨(some 36), .bin .eql (.t 35) (.c (.int .i64 0)), (some (33, true))⟩ <|
     .op ⟨(some 37), .pick (.t 33) (.t 36) (.c (.bool false)), none⟩ <|
     .op ⟨(some 38), .mov (.t 37), none⟩ <|
     .op ⟨(some 39), .load true 2 (.t 3), (some (38, true))⟩ <|
     .op ⟨(some 40), .call (.f 11) [(.t 39), (.c (.int .i64 0))], (some (38, true))⟩ <|
     .op ⟨(some 41), .bin .eql (.t 40) (.c (.int .i64 0)), (some (38, true))⟩ <|
     .op ⟨(some 42), .pick (.t 38) (.t 41) (.c (.bool false)), none⟩ <|
     .op ⟨(some 43), .mov (.t 42), none⟩ <|
     .op ⟨(some 44), .load true 2 (.t 3), (some (43, true))⟩ <|
     .op ⟨(some 45), .mov (.t 8), (some (43, true))⟩ <|
     .op ⟨(some 46), .call (.f 8) [(.t 44), (.t 45)], (some (43, true))⟩ <|
     .op ⟨(some 47), .bin .leq (.t 46) (.c (.int .i64 4611686018427387903)), (some (43, true))⟩ <|
     .op ⟨(some 48), .pick (.t 43) (.t 47) (.c (.bool false)), none⟩ <|
     .op ⟨(some 6), .mov (.t 48), none⟩ <|
     .done) <|
    .op ⟨(some 20), .load true 2 (.t 3), none⟩ <|
    .op ⟨(some 19), .call (.f 8) [(.t 17), (.t 18)], none⟩ <|
    .op ⟨(some 22), .call (.f 8) [(.t 20), (.t 21)], none⟩ <|
    .op ⟨(some 23), .bin .leq (.t 19) (.t 22), none⟩ <|
    .op ⟨(some 24), .mov (.t 23), none⟩ <|
    .op ⟨(some 25), .load true 2 (.t 3), (some (24, true))⟩ <|
    .op ⟨(some 26), .mov (.t 7), (some (24, true))⟩ <|
    .op ⟨(some 29), .mov (.t 8), (some (24, true))⟩ <|
    .alt (.op ⟨(some 27), .call (.f 11) [(.t 25), (.t 26)], (some (24, true))⟩ <|
     .op ⟨(some 28), .load true 2 (.t 3), (some (24, true))⟩ <|
     .op ⟨(some 30), .call (.f 11) [(.t 28), (.t 29)], (some (24, true))⟩ <|
     .op ⟨(some 31), .bin .leq (.t 27) (.t 30), (some (24, true))⟩ <|
     .op ⟨(some 32), .pick (.t 24) (.t 31) (.c (.bool false)), none⟩ <|
     .op ⟨(some 33), .mov (.t 32), none⟩ <|
     .op ⟨(some 34), .load true 2 (.t 3), (some (33, true))⟩ <|
     .op ⟨(some 35), .call (.f 8) [(.t 34), (.c (.int .i64 0))], (some (33, true))⟩ <|
     .op ⟨(some 36), .bin .eql (.t 35) (.c (.int .i64 0)), (some (33, true))⟩ <|
     .op ⟨(some 37), .pick (.t 33) (.t 36) (.c (.bool false)), none⟩ <|
     .op ⟨(some 38), .mov (.t 37), none⟩ <|
     .op ⟨(some 39), .load true 2 (.t 3), (some (38, true))⟩ <|
     .op ⟨(some 40), .call (.f 11) [(.t 39), (.c (.int .i64 0))], (some (38, true))⟩ <|
     .op ⟨(some 41), .bin .eql (.t 40) (.c (.int .i64 0)), (some (38, true))⟩ <|
     .op ⟨(some 42), .pick (.t 38) (.t 41) (.c (.bool false)), none⟩ <|
     .op ⟨(some 43), .mov (.t 42), none⟩ <|
     .op ⟨(some 44), .load true 2 (.t 3), (some (43, true))⟩ <|
     .op ⟨(some 45), .mov (.t 8), (some (43, true))⟩ <|
     .op ⟨(some 46), .call (.f 8) [(.t 44), (.t 45)], (some (43, true))⟩ <|
     .op ⟨(some 47), .bin .leq (.t 46) (.c (.int .i64 4611686018427387903)), (some (43, true))⟩ <|
     .op ⟨(some 48), .pick (.t 43) (.t 47) (.c (.bool false)), none⟩ <|
     .op ⟨(some 6), .mov (.t 48), none⟩ <|
     .done) <|
    .op ⟨(some 28), .load true 2 (.t 3), (some (24, true))⟩ <|
    .op ⟨(some 27), .call (.f 11) [(.t 25), (.t 26)], (some (24, true))⟩ <|
    .op ⟨(some 30), .call (.f 11) [(.t 28), (.t 29)], (some (24, true))⟩ <|
    .op ⟨(some 31), .bin .leq (.t 27) (.t 30), (some (24, true))⟩ <|
    .op ⟨(some 32), .pick (.t 24) (.t 31) (.c (.bool false)), none⟩ <|
    .op ⟨(some 33), .mov (.t 32), none⟩ <|
    .op ⟨(some 34), .load true 2 (.t 3), (some (33, true))⟩ <|
    .op ⟨(some 35), .call (.f 8) [(.t 34), (.c (.int .i64 0))], (some (33, true))⟩ <|
    .op ⟨(some 36), .bin .eql (.t 35) (.c (.int .i64 0)), (some (33, true))⟩ <|
    .op ⟨(some 37), .pick (.t 33) (.t 36) (.c (.bool false)), none⟩ <|
    .op ⟨(some 38), .mov (.t 37), none⟩ <|
    .op ⟨(some 39), .load true 2 (.t 3), (some (38, true))⟩ <|
    .op ⟨(some 40), .call (.f 11) [(.t 39), (.c (.int .i64 0))], (some (38, true))⟩ <|
    .op ⟨(some 41), .bin .eql (.t 40) (.c (.int .i64 0)), (some (38, true))⟩ <|
    .op ⟨(some 42), .pick (.t 38) (.t 41) (.c (.bool false)), none⟩ <|
    .op ⟨(some 43), .mov (.t 42), none⟩ <|
    .op ⟨(some 44), .load true 2 (.t 3), (some (43, true))⟩ <|
    .op ⟨(some 45), .mov (.t 8), (some (43, true))⟩ <|
    .op ⟨(some 46), .call (.f 8) [(.t 44), (.t 45)], (some (43, true))⟩ <|
    .op ⟨(some 47), .bin .leq (.t 46) (.c (.int .i64 4611686018427387903)), (some (43, true))⟩ <|
    .op ⟨(some 48), .pick (.t 43) (.t 47) (.c (.bool false)), none⟩ <|
    .op ⟨(some 6), .mov (.t 48), none⟩ <|
    .done)) <|
 .ret, [.slot 6]⟩
theorem c6 : Code1 Try.prog 6 49 b6 := Code1.mk' Try.func6 (by kernel_rfl) (by kernel_rfl) Try.ntmps6

/-- fusee/fuseelaw04.fixed -/
def b7 : IFn := ⟨
 .seq
 (.region [⟨(some 0), .mov (.c (.bool false)), none⟩]) <|
 .seq
 (.region [⟨(some 6), .call (.f 13) [(.c (.int .i64 1000))], none⟩,
    ⟨(some 5), .mov (.t 6), none⟩,
    ⟨(some 7), .extract (.t 5) 0, none⟩,
    ⟨(some 8), .extract (.t 5) 1, none⟩,
    ⟨(some 1), .alloc [(.int .i64 0), (.int .i64 0)], none⟩,
    ⟨none, .store 2 (.t 1) (.t 7), none⟩,
    ⟨(some 2), .mov (.t 8), none⟩]) <|
 .seq
 (.region [⟨(some 10), .call (.f 13) [(.c (.int .i64 0))], none⟩,
    ⟨(some 9), .mov (.t 10), none⟩,
    ⟨(some 11), .extract (.t 9) 0, none⟩,
    ⟨(some 12), .extract (.t 9) 1, none⟩,
    ⟨(some 3), .alloc [(.int .i64 0), (.int .i64 0)], none⟩,
    ⟨none, .store 2 (.t 3) (.t 11), none⟩,
    ⟨(some 4), .mov (.t 12), none⟩]) <|
 .seq
 (.region [⟨(some 13), .mov (.t 2), none⟩,
    ⟨(some 14), .mov (.t 13), none⟩,
    ⟨(some 15), .load true 2 (.t 1), (some (14, true))⟩,
    ⟨(some 16), .call (.f 9) [(.t 15)], (some (14, true))⟩,
    ⟨(some 17), .pick (.t 14) (.t 16) (.c (.bool false)), none⟩,
    ⟨(some 18), .mov (.t 17), none⟩,
    ⟨(some 19), .load true 2 (.t 1), (some (18, true))⟩,
    ⟨(some 20), .call (.f 8) [(.t 19), (.c (.int .i64 1))], (some (18, true))⟩,
    ⟨(some 21), .bin .eql (.t 20) (.c (.int .i64 1000000)), (some (18, true))⟩,
    ⟨(some 22), .pick (.t 18) (.t 21) (.c (.bool false)), none⟩,
    ⟨(some 23), .mov (.t 22), none⟩,
    ⟨(some 24), .load true 2 (.t 1), (some (23, true))⟩,
    ⟨(some 25), .call (.f 11) [(.t 24), (.c (.int .i64 1000001))], (some (23, true))⟩,
    ⟨(some 26), .bin .eql (.t 25) (.c (.int .i64 2)), (some (23, true))⟩,
    ⟨(some 27), .pick (.t 23) (.t 26) (.c (.bool false)), none⟩,
    ⟨(some 28), .mov (.t 27), none⟩,
    ⟨(some 29), .mov (.t 4), (some (28, true))⟩,
    ⟨(some 30), .un .not (.t 29), (some (28, true))⟩,
    ⟨(some 31), .pick (.t 28) (.t 30) (.c (.bool false)), none⟩,
    ⟨(some 32), .mov (.t 31), none⟩,
    ⟨(some 33), .build [(.int .i64 0), (.int .i64 0)] [], (some (32, true))⟩,
    ⟨(some 34), .call (.f 8) [(.t 33), (.c (.int .i64 5))], (some (32, true))⟩,
    ⟨(some 35), .bin .eql (.t 34) (.c (.int .i64 0)), (some (32, true))⟩,
    ⟨(some 36), .pick (.t 32) (.t 35) (.c (.bool false)), none⟩,
    ⟨(some 37), .mov (.t 36), none⟩,
    ⟨(some 38), .build [(.int .i64 0), (.int .i64 0)] [(0, 1, (.c (.int .i64 3))), (1, 1, (.c (.int .i64 1)))], (some (37, true))⟩,
    ⟨(some 39), .call (.f 8) [(.t 38), (.c (.int .i64 5))], (some (37, true))⟩,
    ⟨(some 40), .bin .eql (.t 39) (.c (.int .i64 7)), (some (37, true))⟩,
    ⟨(some 41), .pick (.t 37) (.t 40) (.c (.bool false)), none⟩,
    ⟨(some 42), .mov (.t 41), none⟩,
    ⟨(some 43), .load true 2 (.t 1), (some (42, true))⟩,
    ⟨(some 44), .call (.f 14) [(.t 43), (.c (.int .i64 1000))], (some (42, true))⟩,
    ⟨(some 45), .bin .eql (.t 44) (.c (.int .i64 0)), (some (42, true))⟩,
    ⟨(some 46), .pick (.t 42) (.t 45) (.c (.bool false)), none⟩,
    ⟨(some 0), .mov (.t 46), none⟩]) <|
 .ret, [.slot 0]⟩
theorem c7 : Code1 Try.prog 7 47 b7 := Code1.mk' Try.func7 (by kernel_rfl) (by kernel_rfl) Try.ntmps7

/-- fusee/scale.Nanos -/
def b8 : IFn := ⟨
 .seq
 (.region [⟨(some 2), .box (.t 0), none⟩,
    ⟨(some 4), .mov (.c (.int .i64 0)), none⟩]) <|
 .seq
 (.seq
  (.region [⟨(some 8), .load true 2 (.t 2), none⟩,
     ⟨(some 9), .call (.f 9) [(.t 8)], none⟩,
     ⟨(some 10), .un .not (.t 9), none⟩]) <|
  .cond (.t 10)
   (.seq
    (.region [⟨(some 4), .mov (.c (.int .i64 0)), none⟩]) <|
    .ret)
   (.skip)) <|
 .seq
 (.draw true [2, 5, 6] (
    .op ⟨(some 12), .mov (.t 1), none⟩ <|
    .op ⟨(some 14), .faddr 0 (.t 2), none⟩ <|
    .alt (.op ⟨(some 13), .call (.f 17) [(.t 12)], none⟩ <|
     .op ⟨(some 15), .load false 1 (.t 14), none⟩ <|
     .op ⟨(some 16), .conv .u64 (.t 15), none⟩ <|
     .op ⟨(some 17), .call (.f 16) [(.t 13), (.t 16)], none⟩ <|
     .op ⟨(some 11), .mov (.t 17), none⟩ <|
     .op ⟨(some 18), .extract (.t 11) 0, none⟩ <|
     .op ⟨(some 19), .extract (.t 11) 1, none⟩ <|
     .op ⟨(some 5), .mov (.t 18), none⟩ <|
     .op ⟨(some 6), .mov (.t 19), none⟩ <|
     .done) <|
    .op ⟨(some 15), .load false 1 (.t 14), none⟩ <|
    .op ⟨(some 16), .conv .u64 (.t 15), none⟩ <|
    .op ⟨(some 13), .call (.f 17) [(.t 12)], none⟩ <|
    .op ⟨(some 17), .call (.f 16) [(.t 13), (.t 16)], none⟩ <|
    .op ⟨(some 11), .mov (.t 17), none⟩ <|
    .op ⟨(some 18), .extract (.t 11) 0, none⟩ <|
    .op ⟨(some 19), .extract (.t 11) 1, none⟩ <|
    .op ⟨(some 5), .mov (.t 18), none⟩ <|
    .op ⟨(some 6), .mov (.t 19), none⟩ <|
    .done)) <|
 .seq
 (.seq
  (.region [⟨(some 20), .mov (.t 5), none⟩,
     ⟨(some 21), .faddr 1 (.t 2), none⟩,
     ⟨(some 22), .load false 1 (.t 21), none⟩,
     ⟨(some 23), .conv .u64 (.t 22), none⟩,
     ⟨(some 24), .bin .shr (.t 20) (.t 23), none⟩,
     ⟨(some 25), .bin .neq (.t 24) (.c (.int .u64 0)), none⟩]) <|
  .cond (.t 25)
   (.seq
    (.region [⟨(some 4), .mov (.c (.int .i64 4611686018427387903)), none⟩]) <|
    .ret)
   (.skip)) <|
 .seq
 (.region [⟨(some 26), .mov (.t 6), none⟩,
    ⟨(some 27), .faddr 1 (.t 2), none⟩,
    ⟨(some 28), .load false 1 (.t 27), none⟩,
    ⟨(some 29), .conv .u64 (.t 28), none⟩,
    ⟨(some 30), .bin .shr (.t 26) (.t 29), none⟩,
    ⟨(some 7), .mov (.t 30), none⟩]) <|
 .seq
 (.seq
  (.region [⟨(some 31), .faddr 1 (.t 2), none⟩,
     ⟨(some 32), .load false 1 (.t 31), none⟩,
     ⟨(some 33), .bin .gtr (.t 32) (.c (.int .i64 0)), none⟩]) <|
  .cond (.t 33)
   (.region [⟨(some 34), .mov (.t 7), none⟩,
      ⟨(some 35), .mov (.t 5), none⟩,
      ⟨(some 36), .faddr 1 (.t 2), none⟩,
      ⟨(some 37), .load false 1 (.t 36), none⟩,
      ⟨(some 38), .bin .sub (.c (.int .i64 64)) (.t 37), none⟩,
      ⟨(some 39), .conv .u64 (.t 38), none⟩,
      ⟨(some 40), .bin .shl (.t 35) (.t 39), none⟩,
      ⟨(some 41), .bin .or (.t 34) (.t 40), none⟩,
      ⟨(some 7), .mov (.t 41), none⟩])
   (.skip)) <|
 .seq
 (.region [⟨(some 42), .mov (.t 7), none⟩,
    ⟨(some 43), .min [(.t 42), (.c (.int .u64 4611686018427387903))], none⟩,
    ⟨(some 44), .conv .i64 (.t 43), none⟩,
    ⟨(some 4), .mov (.t 44), none⟩]) <|
 .ret, [.slot 4]⟩
theorem c8 : Code1 Try.prog 8 45 b8 := Code1.mk' Try.func8 (by kernel_rfl) (by kernel_rfl) Try.ntmps8

/-- fusee/scale.Right -/
def b9 : IFn := ⟨
 .seq
 (.region [⟨(some 1), .box (.t 0), none⟩,
    ⟨(some 2), .mov (.c (.bool false)), none⟩]) <|
 .seq
 (.region [⟨(some 3), .faddr 0 (.t 1), none⟩,
    ⟨(some 4), .load false 1 (.t 3), none⟩,
    ⟨(some 5), .bin .geq (.t 4) (.c (.int .i64 1)), none⟩,
    ⟨(some 6), .mov (.t 5), none⟩,
    ⟨(some 7), .faddr 0 (.t 1), (some (6, true))⟩,
    ⟨(some 8), .load false 1 (.t 7), (some (6, true))⟩,
    ⟨(some 9), .bin .lss (.t 8) (.c (.int .i64 4294967296)), (some (6, true))⟩,
    ⟨(some 10), .pick (.t 6) (.t 9) (.c (.bool false)), none⟩,
    ⟨(some 11), .mov (.t 10), none⟩,
    ⟨(some 12), .faddr 1 (.t 1), (some (11, true))⟩,
    ⟨(some 13), .load false 1 (.t 12), (some (11, true))⟩,
    ⟨(some 14), .bin .geq (.t 13) (.c (.int .i64 0)), (some (11, true))⟩,
    ⟨(some 15), .pick (.t 11) (.t 14) (.c (.bool false)), none⟩,
    ⟨(some 16), .mov (.t 15), none⟩,
    ⟨(some 17), .faddr 1 (.t 1), (some (16, true))⟩,
    ⟨(some 18), .load false 1 (.t 17), (some (16, true))⟩,
    ⟨(some 19), .bin .leq (.t 18) (.c (.int .i64 32)), (some (16, true))⟩,
    ⟨(some 20), .pick (.t 16) (.t 19) (.c (.bool false)), none⟩,
    ⟨(some 2), .mov (.t 20), none⟩]) <|
 .ret, [.slot 2]⟩
theorem c9 : Code1 Try.prog 9 21 b9 := Code1.mk' Try.func9 (by kernel_rfl) (by kernel_rfl) Try.ntmps9

/-- fusee/fuseelaw04.right -/
def b10 : IFn := ⟨
 .seq
 (.region [⟨(some 1), .box (.t 0), none⟩,
    ⟨(some 2), .mov (.c (.bool false)), none⟩]) <|
 .seq
 (.region [⟨(some 3), .faddr 0 (.t 1), none⟩,
    ⟨(some 4), .load false 1 (.t 3), none⟩,
    ⟨(some 5), .bin .gtr (.t 4) (.c (.int .i64 0)), none⟩,
    ⟨(some 6), .mov (.t 5), none⟩,
    ⟨(some 7), .faddr 0 (.t 1), (some (6, true))⟩,
    ⟨(some 8), .load false 1 (.t 7), (some (6, true))⟩,
    ⟨(some 9), .bin .lss (.t 8) (.c (.int .i64 4294967296)), (some (6, true))⟩,
    ⟨(some 10), .pick (.t 6) (.t 9) (.c (.bool false)), none⟩,
    ⟨(some 11), .mov (.t 10), none⟩,
    ⟨(some 12), .faddr 1 (.t 1), (some (11, true))⟩,
    ⟨(some 13), .load false 1 (.t 12), (some (11, true))⟩,
    ⟨(some 14), .bin .geq (.t 13) (.c (.int .i64 0)), (some (11, true))⟩,
    ⟨(some 15), .pick (.t 11) (.t 14) (.c (.bool false)), none⟩,
    ⟨(some 16), .mov (.t 15), none⟩,
    ⟨(some 17), .faddr 1 (.t 1), (some (16, true))⟩,
    ⟨(some 18), .load false 1 (.t 17), (some (16, true))⟩,
    ⟨(some 19), .bin .leq (.t 18) (.c (.int .i64 32)), (some (16, true))⟩,
    ⟨(some 20), .pick (.t 16) (.t 19) (.c (.bool false)), none⟩,
    ⟨(some 2), .mov (.t 20), none⟩]) <|
 .ret, [.slot 2]⟩
theorem c10 : Code1 Try.prog 10 21 b10 := Code1.mk' Try.func10 (by kernel_rfl) (by kernel_rfl) Try.ntmps10

/-- fusee/scale.Cycles -/
def b11 : IFn := ⟨
 .seq
 (.region [⟨(some 2), .box (.t 0), none⟩,
    ⟨(some 4), .mov (.c (.int .i64 0)), none⟩]) <|
 .seq
 (.seq
  (.region [⟨(some 9), .load true 2 (.t 2), none⟩,
     ⟨(some 10), .call (.f 9) [(.t 9)], none⟩,
     ⟨(some 11), .un .not (.t 10), none⟩]) <|
  .cond (.t 11)
   (.seq
    (.region [⟨(some 4), .mov (.c (.int .i64 0)), none⟩]) <|
    .ret)
   (.skip)) <|
 .seq
 (.region [⟨(some 12), .mov (.t 1), none⟩,
    ⟨(some 13), .call (.f 17) [(.t 12)], none⟩,
    ⟨(some 14), .conv .i64 (.t 13), none⟩,
    ⟨(some 5), .mov (.t 14), none⟩]) <|
 .seq
 (.region [⟨(some 6), .mov (.c (.int .i64 0)), none⟩,
    ⟨(some 7), .mov (.c (.int .i64 4611686018427387903)), none⟩]) <|
 .seq
 (.block 0 <|
  .loop [2, 5, 6, 7] <|
   .seq
   (.seq
    (.region [⟨(some 15), .mov (.t 6), none⟩,
       ⟨(some 16), .mov (.t 7), none⟩,
       ⟨(some 17), .bin .lss (.t 15) (.t 16), none⟩]) <|
    .cond (.t 17)
     (.skip)
     (.exit 0)) <|
   .block 1 <|
   .seq
   (.region [⟨(some 18), .mov (.t 6), none⟩,
      ⟨(some 19), .mov (.t 7), none⟩,
      ⟨(some 20), .mov (.t 6), none⟩,
      ⟨(some 21), .bin .sub (.t 19) (.t 20), none⟩,
      ⟨(some 22), .bin .quo (.t 21) (.c (.int .i64 2)), none⟩,
      ⟨(some 23), .bin .add (.t 18) (.t 22), none⟩,
      ⟨(some 8), .mov (.t 23), none⟩]) <|
   .seq
   (.region [⟨(some 24), .load true 2 (.t 2), none⟩,
      ⟨(some 25), .mov (.t 8), none⟩,
      ⟨(some 26), .call (.f 8) [(.t 24), (.t 25)], none⟩,
      ⟨(some 27), .mov (.t 5), none⟩,
      ⟨(some 28), .bin .geq (.t 26) (.t 27), none⟩]) <|
   .cond (.t 28)
    (.region [⟨(some 29), .mov (.t 8), none⟩,
       ⟨(some 7), .mov (.t 29), none⟩])
    (.region [⟨(some 30), .mov (.t 8), none⟩,
       ⟨(some 31), .bin .add (.t 30) (.c (.int .i64 1)), none⟩,
       ⟨(some 6), .mov (.t 31), none⟩])) <|
 .seq
 (.region [⟨(some 32), .mov (.t 6), none⟩,
    ⟨(some 4), .mov (.t 32), none⟩]) <|
 .ret, [.slot 4]⟩
theorem c11 : Code1 Try.prog 11 33 b11 := Code1.mk' Try.func11 (by kernel_rfl) (by kernel_rfl) Try.ntmps11

/-- fusee/fuseeref04.Nanos -/
def b12 : IFn := ⟨
 .seq
 (.region [⟨(some 6), .mov (.c (.int .i64 0)), none⟩]) <|
 .seq
 (.region [⟨(some 11), .mov (.t 0), none⟩,
    ⟨(some 12), .mov (.t 2), none⟩,
    ⟨(some 13), .max [(.t 12), (.c (.int .i64 0))], none⟩,
    ⟨(some 14), .min [(.t 13), (.c (.int .i64 4611686018427387903))], none⟩,
    ⟨(some 15), .call (.f 18) [(.t 11), (.t 14)], none⟩,
    ⟨(some 7), .mov (.t 15), none⟩]) <|
 .seq
 (.seq
  (.region [⟨(some 8), .mov (.c (.int .i64 0)), none⟩]) <|
  .block 0 <|
  .loop [1, 7, 8] <|
   .seq
   (.seq
    (.region [⟨(some 16), .mov (.t 8), none⟩,
       ⟨(some 17), .mov (.t 1), none⟩,
       ⟨(some 18), .bin .lss (.t 16) (.t 17), none⟩]) <|
    .cond (.t 18)
     (.skip)
     (.exit 0)) <|
   .seq
   (.block 1 <|
    .region [⟨(some 21), .mov (.t 7), none⟩,
      ⟨(some 22), .call (.f 19) [(.t 21)], none⟩,
      ⟨(some 7), .mov (.t 22), none⟩]) <|
   .region [⟨(some 19), .mov (.t 8), none⟩,
     ⟨(some 20), .bin .add (.t 19) (.c (.int .i64 1)), none⟩,
     ⟨(some 8), .mov (.t 20), none⟩]) <|
 .seq
 (.region [⟨(some 9), .mov (.c (.int .i64 0)), none⟩]) <|
 .seq
 (.seq
  (.region [⟨(some 10), .mov (.c (.int .i64 8)), none⟩]) <|
  .block 2 <|
  .loop [7, 9, 10] <|
   .seq
   (.seq
    (.region [⟨(some 23), .mov (.t 10), none⟩,
       ⟨(some 24), .bin .geq (.t 23) (.c (.int .i64 0)), none⟩]) <|
    .cond (.t 24)
     (.skip)
     (.exit 2)) <|
   .seq
   (.block 3 <|
    .seq
    (.seq
     (.region [⟨(some 27), .mov (.t 9), none⟩,
        ⟨(some 28), .bin .geq (.t 27) (.c (.int .i64 70368744177664)), none⟩,
        ⟨(some 29), .mov (.t 28), none⟩,
        ⟨(some 30), .mov (.t 10), (some (29, true))⟩,
        ⟨(some 31), .bin .lss (.t 30) (.c (.int .i64 8)), (some (29, true))⟩,
        ⟨(some 32), .pick (.t 29) (.t 31) (.c (.bool false)), none⟩,
        ⟨(some 33), .mov (.t 32), none⟩,
        ⟨(some 34), .mov (.t 7), (some (33, true))⟩,
        ⟨(some 35), .mov (.t 10), (some (33, true))⟩,
        ⟨(some 36), .iaddr 1 (.t 34) (.t 35), (some (33, true))⟩,
        ⟨(some 37), .load false 1 (.t 36), (some (33, true))⟩,
        ⟨(some 38), .bin .gtr (.t 37) (.c (.int .i64 0)), (some (33, true))⟩,
        ⟨(some 39), .mov (.t 38), (some (33, true))⟩,
        ⟨(some 40), .mov (.t 9), (some (39, false))⟩,
        ⟨(some 41), .bin .gtr (.t 40) (.c (.int .i64 0)), (some (39, false))⟩,
        ⟨(some 42), .pick (.t 39) (.c (.bool true)) (.t 41), (some (33, true))⟩,
        ⟨(some 43), .pick (.t 33) (.t 42) (.c (.bool false)), none⟩,
        ⟨(some 44), .mov (.t 43), none⟩,
        ⟨(some 45), .mov (.t 9), (some (44, true))⟩,
        ⟨(some 46), .bin .gtr (.t 45) (.c (.int .i64 70368744177663)), (some (44, true))⟩,
        ⟨(some 47), .pick (.t 44) (.t 46) (.c (.bool false)), none⟩]) <|
     .cond (.t 47)
      (.seq
       (.region [⟨(some 6), .mov (.c (.int .i64 4611686018427387903)), none⟩]) <|
       .ret)
      (.skip)) <|
    .region [⟨(some 48), .mov (.t 9), none⟩,
      ⟨(some 49), .bin .mul (.t 48) (.c (.int .i64 65536)), none⟩,
      ⟨(some 50), .mov (.t 7), none⟩,
      ⟨(some 51), .mov (.t 10), none⟩,
      ⟨(some 52), .iaddr 1 (.t 50) (.t 51), none⟩,
      ⟨(some 53), .load false 1 (.t 52), none⟩,
      ⟨(some 54), .bin .add (.t 49) (.t 53), none⟩,
      ⟨(some 9), .mov (.t 54), none⟩]) <|
   .region [⟨(some 25), .mov (.t 10), none⟩,
     ⟨(some 26), .bin .sub (.t 25) (.c (.int .i64 1)), none⟩,
     ⟨(some 10), .mov (.t 26), none⟩]) <|
 .seq
 (.region [⟨(some 55), .mov (.t 9), none⟩,
    ⟨(some 56), .min [(.t 55), (.c (.int .i64 4611686018427387903))], none⟩,
    ⟨(some 6), .mov (.t 56), none⟩]) <|
 .ret, [.slot 6]⟩
theorem c12 : Code1 Try.prog 12 57 b12 := Code1.mk' Try.func12 (by kernel_rfl) (by kernel_rfl) Try.ntmps12

/-- fusee/scale.Make -/
def b13 : IFn := ⟨
 .seq
 (.region [⟨(some 2), .alloc [(.int .i64 0), (.int .i64 0)], none⟩,
    ⟨(some 3), .mov (.c (.bool false)), none⟩]) <|
 .seq
 (.seq
  (.region [⟨(some 10), .mov (.t 0), none⟩,
     ⟨(some 11), .bin .lss (.t 10) (.c (.int .i64 1)), none⟩,
     ⟨(some 12), .mov (.t 11), none⟩,
     ⟨(some 13), .mov (.t 0), (some (12, false))⟩,
     ⟨(some 14), .bin .gtr (.t 13) (.c (.int .i64 1099511627776)), (some (12, false))⟩,
     ⟨(some 15), .pick (.t 12) (.c (.bool true)) (.t 14), none⟩]) <|
  .cond (.t 15)
   (.seq
    (.region [⟨(some 16), .build [(.int .i64 0), (.int .i64 0)] [], none⟩,
       ⟨none, .store 2 (.t 2) (.t 16), none⟩,
       ⟨(some 3), .mov (.c (.bool false)), none⟩]) <|
    .ret)
   (.skip)) <|
 .seq
 (.seq
  (.region [⟨(some 4), .mov (.c (.int .i64 32)), none⟩]) <|
  .block 0 <|
  .loop [0, 2, 4] <|
   .seq
   (.seq
    (.region [⟨(some 17), .mov (.t 4), none⟩,
       ⟨(some 18), .bin .geq (.t 17) (.c (.int .i64 0)), none⟩]) <|
    .cond (.t 18)
     (.skip)
     (.exit 0)) <|
   .seq
   (.block 1 <|
    .seq
    (.region [⟨(some 22), .mov (.t 4), none⟩,
       ⟨(some 23), .conv .u64 (.t 22), none⟩,
       ⟨(some 24), .bin .shl (.c (.int .u64 1)) (.t 23), none⟩,
       ⟨(some 25), .call (.f 16) [(.c (.int .u64 1000000000)), (.t 24)], none⟩,
       ⟨(some 21), .mov (.t 25), none⟩,
       ⟨(some 26), .extract (.t 21) 0, none⟩,
       ⟨(some 27), .extract (.t 21) 1, none⟩,
       ⟨(some 5), .mov (.t 26), none⟩,
       ⟨(some 6), .mov (.t 27), none⟩]) <|
    .seq
    (.region [⟨(some 29), .mov (.t 6), none⟩,
       ⟨(some 30), .mov (.t 0), none⟩,
       ⟨(some 31), .conv .u64 (.t 30), none⟩,
       ⟨(some 32), .bin .quo (.t 31) (.c (.int .u64 2)), none⟩,
       ⟨(some 33), .call (.f 20) [(.t 29), (.t 32), (.c (.int .u64 0))], none⟩,
       ⟨(some 28), .mov (.t 33), none⟩,
       ⟨(some 34), .extract (.t 28) 0, none⟩,
       ⟨(some 35), .extract (.t 28) 1, none⟩,
       ⟨(some 6), .mov (.t 34), none⟩,
       ⟨(some 7), .mov (.t 35), none⟩]) <|
    .seq
    (.region [⟨(some 36), .mov (.t 5), none⟩,
       ⟨(some 37), .mov (.t 7), none⟩,
       ⟨(some 38), .bin .add (.t 36) (.t 37), none⟩,
       ⟨(some 5), .mov (.t 38), none⟩]) <|
    .seq
    (.seq
     (.region [⟨(some 39), .mov (.t 5), none⟩,
        ⟨(some 40), .mov (.t 0), none⟩,
        ⟨(some 41), .conv .u64 (.t 40), none⟩,
        ⟨(some 42), .bin .geq (.t 39) (.t 41), none⟩]) <|
     .cond (.t 42)
      (.exit 1)
      (.skip)) <|
    .seq
    (.region [⟨(some 44), .mov (.t 5), none⟩,
       ⟨(some 45), .mov (.t 6), none⟩,
       ⟨(some 46), .mov (.t 0), none⟩,
       ⟨(some 47), .conv .u64 (.t 46), none⟩,
       ⟨(some 48), .call (.f 21) [(.t 44), (.t 45), (.t 47)], none⟩,
       ⟨(some 43), .mov (.t 48), none⟩,
       ⟨(some 49), .extract (.t 43) 0, none⟩,
       ⟨(some 50), .extract (.t 43) 1, none⟩,
       ⟨(some 8), .mov (.t 49), none⟩,
       ⟨(some 9), .mov (.t 50), none⟩]) <|
    .seq
    (.region [⟨(some 51), .mov (.t 8), none⟩,
       ⟨(some 52), .bin .lss (.t 51) (.c (.int .u64 4294967296)), none⟩]) <|
    .cond (.t 52)
     (.seq
      (.region [⟨(some 53), .mov (.t 8), none⟩,
         ⟨(some 54), .conv .i64 (.t 53), none⟩,
         ⟨(some 55), .mov (.t 4), none⟩,
         ⟨(some 56), .build [(.int .i64 0), (.int .i64 0)] [(0, 1, (.t 54)), (1, 1, (.t 55))], none⟩,
         ⟨(some 57), .mov (.t 8), none⟩,
         ⟨(some 58), .bin .gtr (.t 57) (.c (.int .u64 0)), none⟩,
         ⟨none, .store 2 (.t 2) (.t 56), none⟩,
         ⟨(some 3), .mov (.t 58), none⟩]) <|
      .ret)
     (.skip)) <|
   .region [⟨(some 19), .mov (.t 4), none⟩,
     ⟨(some 20), .bin .sub (.t 19) (.c (.int .i64 1)), none⟩,
     ⟨(some 4), .mov (.t 20), none⟩]) <|
 .seq
 (.region [⟨(some 59), .build [(.int .i64 0), (.int .i64 0)] [], none⟩,
    ⟨none, .store 2 (.t 2) (.t 59), none⟩,
    ⟨(some 3), .mov (.c (.bool false)), none⟩]) <|
 .ret, [.cell 2 true 2, .slot 3]⟩
theorem c13 : Code1 Try.prog 13 60 b13 := Code1.mk' Try.func13 (by kernel_rfl) (by kernel_rfl) Try.ntmps13

/-- fusee/scale.Error -/
def b14 : IFn := ⟨
 .seq
 (.region [⟨(some 2), .box (.t 0), none⟩,
    ⟨(some 4), .mov (.c (.int .i64 0)), none⟩]) <|
 .seq
 (.seq
  (.region [⟨(some 5), .load true 2 (.t 2), none⟩,
     ⟨(some 6), .call (.f 9) [(.t 5)], none⟩,
     ⟨(some 7), .un .not (.t 6), none⟩,
     ⟨(some 8), .mov (.t 7), none⟩,
     ⟨(some 9), .mov (.t 1), (some (8, false))⟩,
     ⟨(some 10), .bin .lss (.t 9) (.c (.int .i64 1)), (some (8, false))⟩,
     ⟨(some 11), .pick (.t 8) (.c (.bool true)) (.t 10), none⟩,
     ⟨(some 12), .mov (.t 11), none⟩,
     ⟨(some 13), .mov (.t 1), (some (12, false))⟩,
     ⟨(some 14), .bin .gtr (.t 13) (.c (.int .i64 1099511627776)), (some (12, false))⟩,
     ⟨(some 15), .pick (.t 12) (.c (.bool true)) (.t 14), none⟩]) <|
  .cond (.t 15)
   (.seq
    (.region [⟨(some 4), .mov (.c (.int .i64 0)), none⟩]) <|
    .ret)
   (.skip)) <|
 .seq
 (.region [⟨(some 16), .load true 2 (.t 2), none⟩,
    ⟨(some 17), .mov (.t 1), none⟩,
    ⟨(some 18), .call (.f 8) [(.t 16), (.t 17)], none⟩,
    ⟨(some 19), .bin .sub (.t 18) (.c (.int .i64 1000000000)), none⟩,
    ⟨(some 4), .mov (.t 19), none⟩]) <|
 .ret, [.slot 4]⟩
theorem c14 : Code1 Try.prog 14 20 b14 := Code1.mk' Try.func14 (by kernel_rfl) (by kernel_rfl) Try.ntmps14

/-- fusee/fuseeref04.Make -/
def b15 : IFn := ⟨
 .seq
 (.region [⟨(some 2), .mov (.c (.int .i64 0)), none⟩,
    ⟨(some 3), .mov (.c (.int .i64 0)), none⟩,
    ⟨(some 4), .mov (.c (.bool false)), none⟩]) <|
 .seq
 (.seq
  (.region [⟨(some 5), .mov (.c (.int .i64 32)), none⟩]) <|
  .block 0 <|
  .loop [0, 5] <|
   .seq
   (.seq
    (.region [⟨(some 7), .mov (.t 5), none⟩,
       ⟨(some 8), .bin .geq (.t 7) (.c (.int .i64 0)), none⟩]) <|
    .cond (.t 8)
     (.skip)
     (.exit 0)) <|
   .seq
   (.block 1 <|
    .seq
    (.region [⟨(some 11), .mov (.t 5), none⟩,
       ⟨(some 12), .bin .shl (.c (.int .i64 1000000000)) (.t 11), none⟩,
       ⟨(some 13), .bin .mul (.c (.int .i64 2)) (.t 12), none⟩,
       ⟨(some 14), .mov (.t 0), none⟩,
       ⟨(some 15), .bin .quo (.t 13) (.t 14), none⟩,
       ⟨(some 16), .bin .add (.t 15) (.c (.int .i64 1)), none⟩,
       ⟨(some 17), .bin .quo (.t 16) (.c (.int .i64 2)), none⟩,
       ⟨(some 6), .mov (.t 17), none⟩]) <|
    .seq
    (.region [⟨(some 18), .mov (.t 6), none⟩,
       ⟨(some 19), .bin .lss (.t 18) (.c (.int .i64 4294967296)), none⟩]) <|
    .cond (.t 19)
     (.seq
      (.region [⟨(some 20), .mov (.t 6), none⟩,
         ⟨(some 21), .mov (.t 5), none⟩,
         ⟨(some 22), .mov (.t 6), none⟩,
         ⟨(some 23), .bin .gtr (.t 22) (.c (.int .i64 0)), none⟩,
         ⟨(some 2), .mov (.t 20), none⟩,
         ⟨(some 3), .mov (.t 21), none⟩,
         ⟨(some 4), .mov (.t 23), none⟩]) <|
      .ret)
     (.skip)) <|
   .region [⟨(some 9), .mov (.t 5), none⟩,
     ⟨(some 10), .bin .sub (.t 9) (.c (.int .i64 1)), none⟩,
     ⟨(some 5), .mov (.t 10), none⟩]) <|
 .seq
 (.region [⟨(some 2), .mov (.c (.int .i64 0)), none⟩,
    ⟨(some 3), .mov (.c (.int .i64 0)), none⟩,
    ⟨(some 4), .mov (.c (.bool false)), none⟩]) <|
 .ret, [.slot 2, .slot 3, .slot 4]⟩
theorem c15 : Code1 Try.prog 15 24 b15 := Code1.mk' Try.func15 (by kernel_rfl) (by kernel_rfl) Try.ntmps15

/-- math/bits.Mul64 -/
def b16 : IFn := ⟨
 .seq
 (.region [⟨(some 4), .mov (.c (.int .u64 0)), none⟩,
    ⟨(some 5), .mov (.c (.int .u64 0)), none⟩]) <|
 .seq
 (.region [⟨(some 14), .mov (.t 0), none⟩,
    ⟨(some 15), .bin .and (.t 14) (.c (.int .u64 4294967295)), none⟩,
    ⟨(some 6), .mov (.t 15), none⟩]) <|
 .seq
 (.region [⟨(some 16), .mov (.t 0), none⟩,
    ⟨(some 17), .bin .shr (.t 16) (.c (.int .u64 32)), none⟩,
    ⟨(some 7), .mov (.t 17), none⟩]) <|
 .seq
 (.region [⟨(some 18), .mov (.t 1), none⟩,
    ⟨(some 19), .bin .and (.t 18) (.c (.int .u64 4294967295)), none⟩,
    ⟨(some 8), .mov (.t 19), none⟩]) <|
 .seq
 (.region [⟨(some 20), .mov (.t 1), none⟩,
    ⟨(some 21), .bin .shr (.t 20) (.c (.int .u64 32)), none⟩,
    ⟨(some 9), .mov (.t 21), none⟩]) <|
 .seq
 (.region [⟨(some 22), .mov (.t 6), none⟩,
    ⟨(some 23), .mov (.t 8), none⟩,
    ⟨(some 24), .bin .mul (.t 22) (.t 23), none⟩,
    ⟨(some 10), .mov (.t 24), none⟩]) <|
 .seq
 (.region [⟨(some 25), .mov (.t 7), none⟩,
    ⟨(some 26), .mov (.t 8), none⟩,
    ⟨(some 27), .bin .mul (.t 25) (.t 26), none⟩,
    ⟨(some 28), .mov (.t 10), none⟩,
    ⟨(some 29), .bin .shr (.t 28) (.c (.int .u64 32)), none⟩,
    ⟨(some 30), .bin .add (.t 27) (.t 29), none⟩,
    ⟨(some 11), .mov (.t 30), none⟩]) <|
 .seq
 (.region [⟨(some 31), .mov (.t 11), none⟩,
    ⟨(some 32), .bin .and (.t 31) (.c (.int .u64 4294967295)), none⟩,
    ⟨(some 12), .mov (.t 32), none⟩]) <|
 .seq
 (.region [⟨(some 33), .mov (.t 11), none⟩,
    ⟨(some 34), .bin .shr (.t 33) (.c (.int .u64 32)), none⟩,
    ⟨(some 13), .mov (.t 34), none⟩]) <|
 .seq
 (.region [⟨(some 35), .mov (.t 12), none⟩,
    ⟨(some 36), .mov (.t 6), none⟩,
    ⟨(some 37), .mov (.t 9), none⟩,
    ⟨(some 38), .bin .mul (.t 36) (.t 37), none⟩,
    ⟨(some 39), .bin .add (.t 35) (.t 38), none⟩,
    ⟨(some 12), .mov (.t 39), none⟩]) <|
 .seq
 (.region [⟨(some 40), .mov (.t 7), none⟩,
    ⟨(some 41), .mov (.t 9), none⟩,
    ⟨(some 42), .bin .mul (.t 40) (.t 41), none⟩,
    ⟨(some 43), .mov (.t 13), none⟩,
    ⟨(some 44), .bin .add (.t 42) (.t 43), none⟩,
    ⟨(some 45), .mov (.t 12), none⟩,
    ⟨(some 46), .bin .shr (.t 45) (.c (.int .u64 32)), none⟩,
    ⟨(some 47), .bin .add (.t 44) (.t 46), none⟩,
    ⟨(some 4), .mov (.t 47), none⟩]) <|
 .seq
 (.region [⟨(some 48), .mov (.t 0), none⟩,
    ⟨(some 49), .mov (.t 1), none⟩,
    ⟨(some 50), .bin .mul (.t 48) (.t 49), none⟩,
    ⟨(some 5), .mov (.t 50), none⟩]) <|
 .ret, [.slot 4, .slot 5]⟩
theorem c16 : Code1 Try.prog 16 51 b16 := Code1.mk' Try.func16 (by kernel_rfl) (by kernel_rfl) Try.ntmps16

/-- fusee/scale.clamp -/
def b17 : IFn := ⟨
 .seq
 (.region [⟨(some 2), .mov (.c (.int .u64 0)), none⟩]) <|
 .seq
 (.region [⟨(some 3), .mov (.t 0), none⟩,
    ⟨(some 4), .max [(.t 3), (.c (.int .i64 0))], none⟩,
    ⟨(some 5), .min [(.t 4), (.c (.int .i64 4611686018427387903))], none⟩,
    ⟨(some 6), .conv .u64 (.t 5), none⟩,
    ⟨(some 2), .mov (.t 6), none⟩]) <|
 .ret, [.slot 2]⟩
theorem c17 : Code1 Try.prog 17 7 b17 := Code1.mk' Try.func17 (by kernel_rfl) (by kernel_rfl) Try.ntmps17

/-- fusee/fuseeref04.product -/
def b18 : IFn := ⟨
 .seq
 (.region [⟨(some 4), .mov (.c (.sl none 0 (some 0))), none⟩]) <|
 .seq
 (.region [⟨(some 12), .mkSl [(.int .i64 0)] 8 (.c (.int .i64 9)) (.c (.int .i64 9)), none⟩,
    ⟨(some 5), .mov (.t 12), none⟩]) <|
 .seq
 (.seq
  (.region [⟨(some 6), .mov (.c (.int .i64 0)), none⟩]) <|
  .block 0 <|
  .loop [0, 1, 5, 6] <|
   .seq
   (.seq
    (.region [⟨(some 13), .mov (.t 6), none⟩,
       ⟨(some 14), .bin .lss (.t 13) (.c (.int .i64 4)), none⟩]) <|
    .cond (.t 14)
     (.skip)
     (.exit 0)) <|
   .seq
   (.block 1 <|
    .seq
    (.region [⟨(some 7), .mov (.c (.int .i64 0)), none⟩]) <|
    .seq
    (.seq
     (.region [⟨(some 8), .mov (.c (.int .i64 0)), none⟩]) <|
     .block 2 <|
     .loop [0, 1, 5, 6, 7, 8] <|
      .seq
      (.seq
       (.region [⟨(some 17), .mov (.t 8), none⟩,
          ⟨(some 18), .bin .lss (.t 17) (.c (.int .i64 4)), none⟩]) <|
       .cond (.t 18)
        (.skip)
        (.exit 2)) <|
      .seq
      (.block 3 <|
       .seq
       (.region [⟨(some 21), .mov (.t 0), none⟩,
          ⟨(some 22), .mov (.t 6), none⟩,
          ⟨(some 23), .bin .mul (.c (.int .i64 16)) (.t 22), none⟩,
          ⟨(some 24), .bin .shr (.t 21) (.t 23), none⟩,
          ⟨(some 25), .bin .rem (.t 24) (.c (.int .i64 65536)), none⟩,
          ⟨(some 9), .mov (.t 25), none⟩]) <|
       .seq
       (.region [⟨(some 26), .mov (.t 1), none⟩,
          ⟨(some 27), .mov (.t 8), none⟩,
          ⟨(some 28), .bin .mul (.c (.int .i64 16)) (.t 27), none⟩,
          ⟨(some 29), .bin .shr (.t 26) (.t 28), none⟩,
          ⟨(some 30), .bin .rem (.t 29) (.c (.int .i64 65536)), none⟩,
          ⟨(some 10), .mov (.t 30), none⟩]) <|
       .seq
       (.region [⟨(some 31), .mov (.t 5), none⟩,
          ⟨(some 32), .mov (.t 6), none⟩,
          ⟨(some 33), .mov (.t 8), none⟩,
          ⟨(some 34), .bin .add (.t 32) (.t 33), none⟩,
          ⟨(some 35), .iaddr 1 (.t 31) (.t 34), none⟩,
          ⟨(some 36), .load false 1 (.t 35), none⟩,
          ⟨(some 37), .mov (.t 9), none⟩,
          ⟨(some 38), .mov (.t 10), none⟩,
          ⟨(some 39), .bin .mul (.t 37) (.t 38), none⟩,
          ⟨(some 40), .bin .add (.t 36) (.t 39), none⟩,
          ⟨(some 41), .mov (.t 7), none⟩,
          ⟨(some 42), .bin .add (.t 40) (.t 41), none⟩,
          ⟨(some 11), .mov (.t 42), none⟩]) <|
       .seq
       (.region [⟨(some 43), .mov (.t 5), none⟩,
          ⟨(some 44), .mov (.t 6), none⟩,
          ⟨(some 45), .mov (.t 8), none⟩,
          ⟨(some 46), .bin .add (.t 44) (.t 45), none⟩,
          ⟨(some 47), .mov (.t 11), none⟩,
          ⟨(some 48), .bin .rem (.t 47) (.c (.int .i64 65536)), none⟩,
          ⟨(some 49), .iaddr 1 (.t 43) (.t 46), none⟩,
          ⟨none, .store 1 (.t 49) (.t 48), none⟩]) <|
       .region [⟨(some 50), .mov (.t 11), none⟩,
         ⟨(some 51), .bin .quo (.t 50) (.c (.int .i64 65536)), none⟩,
         ⟨(some 7), .mov (.t 51), none⟩]) <|
      .region [⟨(some 19), .mov (.t 8), none⟩,
        ⟨(some 20), .bin .add (.t 19) (.c (.int .i64 1)), none⟩,
        ⟨(some 8), .mov (.t 20), none⟩]) <|
    .region [⟨(some 52), .mov (.t 5), none⟩,
      ⟨(some 53), .mov (.t 6), none⟩,
      ⟨(some 54), .bin .add (.t 53) (.c (.int .i64 4)), none⟩,
      ⟨(some 55), .mov (.t 5), none⟩,
      ⟨(some 56), .mov (.t 6), none⟩,
      ⟨(some 57), .bin .add (.t 56) (.c (.int .i64 4)), none⟩,
      ⟨(some 58), .iaddr 1 (.t 55) (.t 57), none⟩,
      ⟨(some 59), .load false 1 (.t 58), none⟩,
      ⟨(some 60), .mov (.t 7), none⟩,
      ⟨(some 61), .bin .add (.t 59) (.t 60), none⟩,
      ⟨(some 62), .iaddr 1 (.t 52) (.t 54), none⟩,
      ⟨none, .store 1 (.t 62) (.t 61), none⟩]) <|
   .region [⟨(some 15), .mov (.t 6), none⟩,
     ⟨(some 16), .bin .add (.t 15) (.c (.int .i64 1)), none⟩,
     ⟨(some 6), .mov (.t 16), none⟩]) <|
 .seq
 (.region [⟨(some 63), .mov (.t 5), none⟩,
    ⟨(some 4), .mov (.t 63), none⟩]) <|
 .ret, [.slot 4]⟩
theorem c18 : Code1 Try.prog 18 64 b18 := Code1.mk' Try.func18 (by kernel_rfl) (by kernel_rfl) Try.ntmps18

/-- fusee/fuseeref04.half -/
def b19 : IFn := ⟨
 .seq
 (.region [⟨(some 2), .mov (.c (.sl none 0 (some 0))), none⟩]) <|
 .seq
 (.region [⟨(some 6), .buildSl 1 [] [], none⟩,
    ⟨(some 7), .mov (.t 0), none⟩,
    ⟨(some 8), .app 1 8 (.t 6) (.t 7), none⟩,
    ⟨(some 3), .mov (.t 8), none⟩]) <|
 .seq
 (.seq
  (.region [⟨(some 9), .mov (.t 3), none⟩,
     ⟨(some 10), .len .sl (.t 9), none⟩,
     ⟨(some 11), .mov (.c (.int .i64 0)), none⟩]) <|
  .block 0 <|
  .loop [3, 10, 11] <|
   .seq
   (.region [⟨(some 12), .bin .lss (.t 11) (.t 10), none⟩]) <|
   .seq
   (.cond (.t 12)
     (.skip)
     (.exit 0)) <|
   .seq
   (.block 1 <|
    .seq
    (.region [⟨(some 13), .mov (.t 11), none⟩,
       ⟨(some 4), .mov (.t 13), none⟩]) <|
    .seq
    (.region [⟨(some 14), .mov (.t 3), none⟩,
       ⟨(some 15), .mov (.t 4), none⟩,
       ⟨(some 16), .iaddr 1 (.t 14) (.t 15), none⟩,
       ⟨(some 17), .load false 1 (.t 16), none⟩,
       ⟨(some 18), .bin .rem (.t 17) (.c (.int .i64 2)), none⟩,
       ⟨(some 5), .mov (.t 18), none⟩]) <|
    .seq
    (.region [⟨(some 19), .mov (.t 3), none⟩,
       ⟨(some 20), .mov (.t 4), none⟩,
       ⟨(some 21), .mov (.t 3), none⟩,
       ⟨(some 22), .mov (.t 4), none⟩,
       ⟨(some 23), .iaddr 1 (.t 21) (.t 22), none⟩,
       ⟨(some 24), .load false 1 (.t 23), none⟩,
       ⟨(some 25), .bin .quo (.t 24) (.c (.int .i64 2)), none⟩,
       ⟨(some 26), .iaddr 1 (.t 19) (.t 20), none⟩,
       ⟨none, .store 1 (.t 26) (.t 25), none⟩]) <|
    .seq
    (.region [⟨(some 27), .mov (.t 4), none⟩,
       ⟨(some 28), .bin .gtr (.t 27) (.c (.int .i64 0)), none⟩,
       ⟨(some 29), .mov (.t 28), none⟩,
       ⟨(some 30), .mov (.t 5), (some (29, true))⟩,
       ⟨(some 31), .bin .eql (.t 30) (.c (.int .i64 1)), (some (29, true))⟩,
       ⟨(some 32), .pick (.t 29) (.t 31) (.c (.bool false)), none⟩]) <|
    .cond (.t 32)
     (.region [⟨(some 33), .mov (.t 3), none⟩,
        ⟨(some 34), .mov (.t 4), none⟩,
        ⟨(some 35), .bin .sub (.t 34) (.c (.int .i64 1)), none⟩,
        ⟨(some 36), .mov (.t 3), none⟩,
        ⟨(some 37), .mov (.t 4), none⟩,
        ⟨(some 38), .bin .sub (.t 37) (.c (.int .i64 1)), none⟩,
        ⟨(some 39), .iaddr 1 (.t 36) (.t 38), none⟩,
        ⟨(some 40), .load false 1 (.t 39), none⟩,
        ⟨(some 41), .bin .add (.t 40) (.c (.int .i64 32768)), none⟩,
        ⟨(some 42), .iaddr 1 (.t 33) (.t 35), none⟩,
        ⟨none, .store 1 (.t 42) (.t 41), none⟩])
     (.skip)) <|
   .region [⟨(some 43), .bin .add (.t 11) (.c (.int .i64 1)), none⟩,
     ⟨(some 11), .mov (.t 43), none⟩]) <|
 .seq
 (.region [⟨(some 44), .mov (.t 3), none⟩,
    ⟨(some 2), .mov (.t 44), none⟩]) <|
 .ret, [.slot 2]⟩
theorem c19 : Code1 Try.prog 19 45 b19 := Code1.mk' Try.func19 (by kernel_rfl) (by kernel_rfl) Try.ntmps19

/-- math/bits.Div64 BAD -/
def b21 : IFn := ⟨
 .seq
 (.region [⟨(some 6), .mov (.c (.int .u64 0)), none⟩,
    ⟨(some 7), .mov (.c (.int .u64 0)), none⟩]) <|
 .seq
 (.seq
  (.region [⟨(some 19), .mov (.t 2), none⟩,
     ⟨(some 20), .bin .eql (.t 19) (.c (.int .u64 0)), none⟩]) <|
  .cond (.t 20)
   (.region [⟨(some 21), .load false 1 (.c .undef), none⟩,
      ⟨none, .bad, none⟩])
   (.skip)) <|
 .seq
 (.seq
  (.region [⟨(some 22), .mov (.t 2), none⟩,
     ⟨(some 23), .mov (.t 0), none⟩,
     ⟨(some 24), .bin .leq (.t 22) (.t 23), none⟩]) <|
  .cond (.t 24)
   (.region [⟨(some 25), .load false 1 (.c .undef), none⟩,
      ⟨none, .bad, none⟩])
   (.skip)) <|
 .seq
 (.seq
  (.region [⟨(some 26), .mov (.t 0), none⟩,
     ⟨(some 27), .bin .eql (.t 26) (.c (.int .u64 0)), none⟩]) <|
  .cond (.t 27)
   (.seq
    (.draw false [6, 7] (
       .op ⟨(some 28), .mov (.t 1), none⟩ <|
       .op ⟨(some 29), .mov (.t 2), none⟩ <|
       .op ⟨(some 30), .bin .quo (.t 28) (.t 29), none⟩ <|
       .op ⟨(some 31), .mov (.t 1), none⟩ <|
       .op ⟨(some 32), .mov (.t 2), none⟩ <|
       .op ⟨(some 33), .bin .rem (.t 31) (.t 32), none⟩ <|
       .op ⟨(some 6), .mov (.t 30), none⟩ <|
       .op ⟨(some 7), .mov (.t 33), none⟩ <|
       .done)) <|
    .ret)
   (.skip)) <|
 .seq
 (.region [⟨(some 34), .mov (.t 2), none⟩,
    ⟨(some 35), .call (.f 22) [(.t 34)], none⟩,
    ⟨(some 36), .conv .u64 (.t 35), none⟩,
    ⟨(some 8), .mov (.t 36), none⟩]) <|
 .seq
 (.region [⟨(some 37), .mov (.t 2), none⟩,
    ⟨(some 38), .mov (.t 8), none⟩,
    ⟨(some 39), .bin .shl (.t 37) (.t 38), none⟩,
    ⟨(some 2), .mov (.t 39), none⟩]) <|
 .seq
 (.region [⟨(some 40), .mov (.t 2), none⟩,
    ⟨(some 41), .bin .shr (.t 40) (.c (.int .u64 32)), none⟩,
    ⟨(some 9), .mov (.t 41), none⟩]) <|
 .seq
 (.region [⟨(some 42), .mov (.t 2), none⟩,
    ⟨(some 43), .bin .and (.t 42) (.c (.int .u64 4294967295)), none⟩,
    ⟨(some 10), .mov (.t 43), none⟩]) <|
 .seq
 (.region [⟨(some 44), .mov (.t 0), none⟩,
    ⟨(some 45), .mov (.t 8), none⟩,
    ⟨(some 46), .bin .shl (.t 44) (.t 45), none⟩,
    ⟨(some 47), .mov (.t 1), none⟩,
    ⟨(some 48), .mov (.t 8), none⟩,
    ⟨(some 49), .bin .sub (.c (.int .u64 64)) (.t 48), none⟩,
    ⟨(some 50), .bin .shr (.t 47) (.t 49), none⟩,
    ⟨(some 51), .bin .or (.t 46) (.t 50), none⟩,
    ⟨(some 11), .mov (.t 51), none⟩]) <|
 .seq
 (.region [⟨(some 52), .mov (.t 1), none⟩,
    ⟨(some 53), .mov (.t 8), none⟩,
    ⟨(some 54), .bin .shl (.t 52) (.t 53), none⟩,
    ⟨(some 12), .mov (.t 54), none⟩]) <|
 .seq
 (.region [⟨(some 55), .mov (.t 12), none⟩,
    ⟨(some 56), .bin .shr (.t 55) (.c (.int .u64 32)), none⟩,
    ⟨(some 13), .mov (.t 56), none⟩]) <|
 .seq
 (.region [⟨(some 57), .mov (.t 12), none⟩,
    ⟨(some 58), .bin .and (.t 57) (.c (.int .u64 4294967295)), none⟩,
    ⟨(some 14), .mov (.t 58), none⟩]) <|
 .seq
 (.region [⟨(some 59), .mov (.t 11), none⟩,
    ⟨(some 60), .mov (.t 9), none⟩,
    ⟨(some 61), .bin .quo (.t 59) (.t 60), none⟩,
    ⟨(some 15), .mov (.t 61), none⟩]) <|
 .seq
 (.region [⟨(some 62), .mov (.t 11), none⟩,
    ⟨(some 63), .mov (.t 15), none⟩,
    ⟨(some 64), .mov (.t 9), none⟩,
    ⟨(some 65), .bin .mul (.t 63) (.t 64), none⟩,
    ⟨(some 66), .bin .sub (.t 62) (.t 65), none⟩,
    ⟨(some 16), .mov (.t 66), none⟩]) <|
 .seq
 (.block 0 <|
  .loop [2, 8, 9, 10, 11, 13, 14, 15, 16] <|
   .seq
   (.seq
    (.region [⟨(some 67), .mov (.t 15), none⟩,
       ⟨(some 68), .bin .geq (.t 67) (.c (.int .u64 4294967296)), none⟩,
       ⟨(some 69), .mov (.t 68), none⟩,
       ⟨(some 70), .mov (.t 15), (some (69, false))⟩,
       ⟨(some 71), .mov (.t 10), (some (69, false))⟩,
       ⟨(some 72), .bin .mul (.t 70) (.t 71), (some (69, false))⟩,
       ⟨(some 73), .mov (.t 16), (some (69, false))⟩,
       ⟨(some 74), .bin .mul (.c (.int .u64 4294967296)) (.t 73), (some (69, false))⟩,
       ⟨(some 75), .mov (.t 13), (some (69, false))⟩,
       ⟨(some 76), .bin .add (.t 74) (.t 75), (some (69, false))⟩,
       ⟨(some 77), .bin .gtr (.t 72) (.t 76), (some (69, false))⟩,
       ⟨(some 78), .pick (.t 69) (.c (.bool true)) (.t 77), none⟩]) <|
    .cond (.t 78)
     (.skip)
     (.exit 0)) <|
   .block 1 <|
   .seq
   (.region [⟨(some 79), .mov (.t 15), none⟩,
      ⟨(some 80), .bin .sub (.t 79) (.c (.int .u64 1)), none⟩,
      ⟨(some 15), .mov (.t 80), none⟩]) <|
   .seq
   (.region [⟨(some 81), .mov (.t 16), none⟩,
      ⟨(some 82), .mov (.t 9), none⟩,
      ⟨(some 83), .bin .add (.t 81) (.t 82), none⟩,
      ⟨(some 16), .mov (.t 83), none⟩]) <|
   .seq
   (.region [⟨(some 84), .mov (.t 16), none⟩,
      ⟨(some 85), .bin .geq (.t 84) (.c (.int .u64 4294967296)), none⟩]) <|
   .cond (.t 85)
    (.exit 0)
    (.skip)) <|
 .seq
 (.region [⟨(some 86), .mov (.t 11), none⟩,
    ⟨(some 87), .bin .mul (.t 86) (.c (.int .u64 4294967296)), none⟩,
    ⟨(some 88), .mov (.t 13), none⟩,
    ⟨(some 89), .bin .add (.t 87) (.t 88), none⟩,
    ⟨(some 90), .mov (.t 15), none⟩,
    ⟨(some 91), .mov (.t 2), none⟩,
    ⟨(some 92), .bin .mul (.t 90) (.t 91), none⟩,
    ⟨(some 93), .bin .sub (.t 89) (.t 92), none⟩,
    ⟨(some 17), .mov (.t 93), none⟩]) <|
 .seq
 (.region [⟨(some 94), .mov (.t 17), none⟩,
    ⟨(some 95), .mov (.t 9), none⟩,
    ⟨(some 96), .bin .quo (.t 94) (.t 95), none⟩,
    ⟨(some 18), .mov (.t 96), none⟩]) <|
 .seq
 (.region [⟨(some 97), .mov (.t 17), none⟩,
    ⟨(some 98), .mov (.t 18), none⟩,
    ⟨(some 99), .mov (.t 9), none⟩,
    ⟨(some 100), .bin .mul (.t 98) (.t 99), none⟩,
    ⟨(some 101), .bin .sub (.t 97) (.t 100), none⟩,
    ⟨(some 16), .mov (.t 101), none⟩]) <|
 .seq
 (.block 2 <|
  .loop [2, 8, 9, 10, 14, 15, 16, 17, 18] <|
   .seq
   (.seq
    (.region [⟨(some 102), .mov (.t 18), none⟩,
       ⟨(some 103), .bin .geq (.t 102) (.c (.int .u64 4294967296)), none⟩,
       ⟨(some 104), .mov (.t 103), none⟩,
       ⟨(some 105), .mov (.t 18), (some (104, false))⟩,
       ⟨(some 106), .mov (.t 10), (some (104, false))⟩,
       ⟨(some 107), .bin .mul (.t 105) (.t 106), (some (104, false))⟩,
       ⟨(some 108), .mov (.t 16), (some (104, false))⟩,
       ⟨(some 109), .bin .mul (.c (.int .u64 4294967296)) (.t 108), (some (104, false))⟩,
       ⟨(some 110), .mov (.t 14), (some (104, false))⟩,
       ⟨(some 111), .bin .add (.t 109) (.t 110), (some (104, false))⟩,
       ⟨(some 112), .bin .gtr (.t 107) (.t 111), (some (104, false))⟩,
       ⟨(some 113), .pick (.t 104) (.c (.bool true)) (.t 112), none⟩]) <|
    .cond (.t 113)
     (.skip)
     (.exit 2)) <|
   .block 3 <|
   .seq
   (.region [⟨(some 114), .mov (.t 18), none⟩,
      ⟨(some 115), .bin .sub (.t 114) (.c (.int .u64 1)), none⟩,
      ⟨(some 18), .mov (.t 115), none⟩]) <|
   .seq
   (.region [⟨(some 116), .mov (.t 16), none⟩,
      ⟨(some 117), .mov (.t 9), none⟩,
      ⟨(some 118), .bin .add (.t 116) (.t 117), none⟩,
      ⟨(some 16), .mov (.t 118), none⟩]) <|
   .seq
   (.region [⟨(some 119), .mov (.t 16), none⟩,
      ⟨(some 120), .bin .geq (.t 119) (.c (.int .u64 4294967296)), none⟩]) <|
   .cond (.t 120)
    (.exit 2)
    (.skip)) <|
 .seq
 (.region [⟨(some 121), .mov (.t 15), none⟩,
    ⟨(some 122), .bin .mul (.t 121) (.c (.int .u64 4294967296)), none⟩,
    ⟨(some 123), .mov (.t 18), none⟩,
    ⟨(some 124), .bin .add (.t 122) (.t 123), none⟩,
    ⟨(some 125), .mov (.t 17), none⟩,
    ⟨(some 126), .bin .mul (.t 125) (.c (.int .u64 4294967296)), none⟩,
    ⟨(some 127), .mov (.t 14), none⟩,
    ⟨(some 128), .bin .add (.t 126) (.t 127), none⟩,
    ⟨(some 129), .mov (.t 18), none⟩,
    ⟨(some 130), .mov (.t 2), none⟩,
    ⟨(some 131), .bin .mul (.t 129) (.t 130), none⟩,
    ⟨(some 132), .bin .sub (.t 128) (.t 131), none⟩,
    ⟨(some 133), .mov (.t 8), none⟩,
    ⟨(some 134), .bin .shr (.t 132) (.t 133), none⟩,
    ⟨(some 6), .mov (.t 124), none⟩,
    ⟨(some 7), .mov (.t 134), none⟩]) <|
 .ret, [.slot 6, .slot 7]⟩
theorem c21 : Code1 Try.prog 21 135 b21 := Code1.mk' Try.func21 (by kernel_rfl) (by kernel_rfl) Try.ntmps21

/-- math/bits.LeadingZeros64 -/
def b22 : IFn := ⟨
 .seq
 (.region [⟨(some 2), .mov (.c (.int .i64 0)), none⟩]) <|
 .seq
 (.region [⟨(some 3), .mov (.t 0), none⟩,
    ⟨(some 4), .call (.f 23) [(.t 3)], none⟩,
    ⟨(some 5), .bin .sub (.c (.int .i64 64)) (.t 4), none⟩,
    ⟨(some 2), .mov (.t 5), none⟩]) <|
 .ret, [.slot 2]⟩
theorem c22 : Code1 Try.prog 22 6 b22 := Code1.mk' Try.func22 (by kernel_rfl) (by kernel_rfl) Try.ntmps22

/-- math/bits.Len64 -/
def b23 : IFn := ⟨
 .seq
 (.region [⟨(some 2), .mov (.c (.int .i64 0)), none⟩]) <|
 .seq
 (.seq
  (.region [⟨(some 3), .mov (.t 0), none⟩,
     ⟨(some 4), .bin .geq (.t 3) (.c (.int .u64 4294967296)), none⟩]) <|
  .cond (.t 4)
   (.seq
    (.region [⟨(some 5), .mov (.t 0), none⟩,
       ⟨(some 6), .bin .shr (.t 5) (.c (.int .u64 32)), none⟩,
       ⟨(some 0), .mov (.t 6), none⟩]) <|
    .region [⟨(some 2), .mov (.c (.int .i64 32)), none⟩])
   (.skip)) <|
 .seq
 (.seq
  (.region [⟨(some 7), .mov (.t 0), none⟩,
     ⟨(some 8), .bin .geq (.t 7) (.c (.int .u64 65536)), none⟩]) <|
  .cond (.t 8)
   (.seq
    (.region [⟨(some 9), .mov (.t 0), none⟩,
       ⟨(some 10), .bin .shr (.t 9) (.c (.int .u64 16)), none⟩,
       ⟨(some 0), .mov (.t 10), none⟩]) <|
    .region [⟨(some 11), .mov (.t 2), none⟩,
      ⟨(some 12), .bin .add (.t 11) (.c (.int .i64 16)), none⟩,
      ⟨(some 2), .mov (.t 12), none⟩])
   (.skip)) <|
 .seq
 (.seq
  (.region [⟨(some 13), .mov (.t 0), none⟩,
     ⟨(some 14), .bin .geq (.t 13) (.c (.int .u64 256)), none⟩]) <|
  .cond (.t 14)
   (.seq
    (.region [⟨(some 15), .mov (.t 0), none⟩,
       ⟨(some 16), .bin .shr (.t 15) (.c (.int .u64 8)), none⟩,
       ⟨(some 0), .mov (.t 16), none⟩]) <|
    .region [⟨(some 17), .mov (.t 2), none⟩,
      ⟨(some 18), .bin .add (.t 17) (.c (.int .i64 8)), none⟩,
      ⟨(some 2), .mov (.t 18), none⟩])
   (.skip)) <|
 .seq
 (.region [⟨(some 19), .mov (.t 2), none⟩,
    ⟨(some 20), .mov (.t 0), none⟩,
    ⟨(some 21), .conv .u8 (.t 20), none⟩,
    ⟨(some 22), .indexS (.c (.str ⟨#[0, 1, 2, 2, 3, 3, 3, 3, 4, 4, 4, 4, 4, 4, 4, 4, 5, 5, 5, 5, 5, 5, 5, 5, 5, 5, 5, 5, 5, 5, 5, 5, 6, 6, 6, 6, 6, 6, 6, 6, 6, 6, 6, 6, 6, 6, 6, 6, 6, 6, 6, 6, 6, 6, 6, 6, 6, 6, 6, 6, 6, 6, 6, 6, 7, 7, 7, 7, 7, 7, 7, 7, 7, 7, 7, 7, 7, 7, 7, 7, 7, 7, 7, 7, 7, 7, 7, 7, 7, 7, 7, 7, 7, 7, 7, 7, 7, 7, 7, 7, 7, 7, 7, 7, 7, 7, 7, 7, 7, 7, 7, 7, 7, 7, 7, 7, 7, 7, 7, 7, 7, 7, 7, 7, 7, 7, 7, 7, 8, 8, 8, 8, 8, 8, 8, 8, 8, 8, 8, 8, 8, 8, 8, 8, 8, 8, 8, 8, 8, 8, 8, 8, 8, 8, 8, 8, 8, 8, 8, 8, 8, 8, 8, 8, 8, 8, 8, 8, 8, 8, 8, 8, 8, 8, 8, 8, 8, 8, 8, 8, 8, 8, 8, 8, 8, 8, 8, 8, 8, 8, 8, 8, 8, 8, 8, 8, 8, 8, 8, 8, 8, 8, 8, 8, 8, 8, 8, 8, 8, 8, 8, 8, 8, 8, 8, 8, 8, 8, 8, 8, 8, 8, 8, 8, 8, 8, 8, 8, 8, 8, 8, 8, 8, 8, 8, 8, 8, 8, 8, 8, 8, 8, 8, 8, 8, 8, 8, 8, 8, 8, 8, 8, 8, 8, 8, 8]⟩)) (.t 21), none⟩,
    ⟨(some 23), .conv .i64 (.t 22), none⟩,
    ⟨(some 24), .bin .add (.t 19) (.t 23), none⟩,
    ⟨(some 2), .mov (.t 24), none⟩]) <|
 .ret, [.slot 2]⟩
theorem c23 : Code1 Try.prog 23 25 b23 := Code1.mk' Try.func23 (by kernel_rfl) (by kernel_rfl) Try.ntmps23

/-- The functions that the facts at the head of each statement call. -/
abbrev code : CodeL := [(7, 47, b7), (8, 45, b8), (9, 21, b9), (11, 33, b11), (12, 57, b12), (13, 60, b13), (14, 20, b14), (15, 24, b15), (16, 51, b16), (17, 7, b17), (18, 64, b18), (19, 45, b19), (21, 135, b21), (22, 6, b22), (23, 25, b23)]
theorem codeOk : CodeOk Try.prog code := ⟨c7, c8, c9, c11, c12, c13, c14, c15, c16, c17, c18, c19, c21, c22, c23, trivial⟩

end Go.Proofs.Ytdcliaineeklcaa
