/-
  THE CODE of the functions of this seat, as the plain machine's; each is what the compiler makes of the program's.
-/
import Derived.Test.YtginhgjbjfndfaaChecked
import Derived.Test.YtginhgjbjfndfaaAm24
import Derived.KernelRfl
namespace Go.Proofs.Ytginhgjbjfndfaa
open Go Go.AM
set_option linter.unusedVariables false

theorem hm : Try.prog.follows .mixedOrders = true := by kernel_rfl

/-- fusee/fuseelaw44.MarzulloAgrees -/
def b3 : IFn := ⟨
 .seq
 (.region [⟨(some 4), .mov (.c (.bool false)), none⟩]) <|
 .seq
 (.seq
  (.region [⟨(some 16), .call (.f 7) [], none⟩,
     ⟨(some 17), .un .not (.t 16), none⟩]) <|
  .cond (.t 17)
   (.seq
    (.region [⟨(some 4), .mov (.c (.bool false)), none⟩]) <|
    .ret)
   (.skip)) <|
 .seq
 (.seq
  (.region [⟨(some 18), .mov (.t 0), none⟩,
     ⟨(some 19), .len .sl (.t 18), none⟩,
     ⟨(some 20), .bin .gtr (.t 19) (.c (.int .i64 60)), none⟩]) <|
  .cond (.t 20)
   (.seq
    (.region [⟨(some 4), .mov (.c (.bool true)), none⟩]) <|
    .ret)
   (.skip)) <|
 .seq
 (.region [⟨(some 22), .mov (.t 0), none⟩,
    ⟨(some 23), .call (.f 8) [(.t 22)], none⟩,
    ⟨(some 21), .mov (.t 23), none⟩,
    ⟨(some 24), .extract (.t 21) 0, none⟩,
    ⟨(some 25), .extract (.t 21) 1, none⟩,
    ⟨(some 5), .alloc [(.int .i64 0), (.int .i64 0), (.int .i64 0)], none⟩,
    ⟨none, .store 3 (.t 5) (.t 24), none⟩,
    ⟨(some 6), .mov (.t 25), none⟩]) <|
 .seq
 (.seq
  (.region [⟨(some 26), .mov (.t 0), none⟩,
     ⟨(some 27), .mov (.t 1), none⟩,
     ⟨(some 28), .call (.f 9) [(.t 26), (.t 27)], none⟩,
     ⟨(some 29), .mov (.t 0), none⟩,
     ⟨(some 30), .mov (.t 1), none⟩,
     ⟨(some 31), .call (.f 10) [(.t 29), (.t 30)], none⟩,
     ⟨(some 32), .bin .neq (.t 28) (.t 31), none⟩]) <|
  .cond (.t 32)
   (.seq
    (.region [⟨(some 4), .mov (.c (.bool false)), none⟩]) <|
    .ret)
   (.skip)) <|
 .seq
 (.region [⟨(some 7), .mov (.c (.int .i64 0)), none⟩,
    ⟨(some 8), .mov (.c (.int .i64 0)), none⟩,
    ⟨(some 9), .mov (.c (.bool false)), none⟩]) <|
 .seq
 (.seq
  (.region [⟨(some 33), .mov (.t 0), none⟩,
     ⟨(some 34), .len .sl (.t 33), none⟩,
     ⟨(some 35), .mov (.c (.int .i64 0)), none⟩]) <|
  .block 0 <|
  .loop [0, 1, 5, 6, 7, 8, 9, 33, 34, 35] <|
   .seq
   (.region [⟨(some 36), .bin .lss (.t 35) (.t 34), none⟩]) <|
   .seq
   (.cond (.t 36)
     (.skip)
     (.exit 0)) <|
   .seq
   (.block 1 <|
    .seq
    (.region [⟨(some 37), .iaddr 2 (.t 33) (.t 35), none⟩,
       ⟨(some 38), .load true 2 (.t 37), none⟩,
       ⟨(some 11), .alloc [(.int .i64 0), (.int .i64 0)], none⟩,
       ⟨none, .store 2 (.t 11) (.t 38), none⟩]) <|
    .seq
    (.seq
     (.region [⟨(some 39), .load true 2 (.t 11), none⟩,
        ⟨(some 40), .call (.f 11) [(.t 39)], none⟩,
        ⟨(some 41), .un .not (.t 40), none⟩]) <|
     .cond (.t 41)
      (.exit 1)
      (.skip)) <|
    .seq
    (.region [⟨(some 42), .mov (.t 0), none⟩,
       ⟨(some 43), .faddr 0 (.t 11), none⟩,
       ⟨(some 44), .load false 1 (.t 43), none⟩,
       ⟨(some 45), .call (.f 10) [(.t 42), (.t 44)], none⟩,
       ⟨(some 12), .mov (.t 45), none⟩]) <|
    .seq
    (.region [⟨(some 46), .mov (.t 12), none⟩,
       ⟨(some 47), .mov (.t 7), none⟩,
       ⟨(some 48), .bin .gtr (.t 46) (.t 47), none⟩,
       ⟨(some 49), .mov (.t 48), none⟩,
       ⟨(some 50), .mov (.t 12), (some (49, false))⟩,
       ⟨(some 51), .mov (.t 7), (some (49, false))⟩,
       ⟨(some 52), .bin .eql (.t 50) (.t 51), (some (49, false))⟩,
       ⟨(some 53), .mov (.t 52), (some (49, false))⟩,
       ⟨(some 54), .faddr 0 (.t 11), (some (53, true))⟩,
       ⟨(some 55), .load false 1 (.t 54), (some (53, true))⟩,
       ⟨(some 56), .mov (.t 8), (some (53, true))⟩,
       ⟨(some 57), .bin .lss (.t 55) (.t 56), (some (53, true))⟩,
       ⟨(some 58), .pick (.t 53) (.t 57) (.c (.bool false)), (some (49, false))⟩,
       ⟨(some 59), .pick (.t 49) (.c (.bool true)) (.t 58), none⟩]) <|
    .cond (.t 59)
     (.draw false [0, 1, 5, 6, 7, 8, 9, 33, 34, 35] (
        .op ⟨(some 60), .mov (.t 12), none⟩ <|
        .op ⟨(some 61), .faddr 0 (.t 11), none⟩ <|
        .op ⟨(some 62), .load false 1 (.t 61), none⟩ <|
        .op ⟨(some 7), .mov (.t 60), none⟩ <|
        .op ⟨(some 8), .mov (.t 62), none⟩ <|
        .op ⟨(some 9), .mov (.c (.bool true)), none⟩ <|
        .done))
     (.skip)) <|
   .region [⟨(some 63), .bin .add (.t 35) (.c (.int .i64 1)), none⟩,
     ⟨(some 35), .mov (.t 63), none⟩]) <|
 .seq
 (.seq
  (.region [⟨(some 64), .mov (.t 9), none⟩,
     ⟨(some 65), .un .not (.t 64), none⟩]) <|
  .cond (.t 65)
   (.seq
    (.region [⟨(some 66), .mov (.t 6), none⟩,
       ⟨(some 67), .un .not (.t 66), none⟩,
       ⟨(some 68), .mov (.t 67), none⟩,
       ⟨(some 69), .load true 3 (.t 5), (some (68, true))⟩,
       ⟨(some 70), .build [(.int .i64 0), (.int .i64 0), (.int .i64 0)] [], (some (68, true))⟩,
       ⟨(some 71), .eq false true [.int, .int, .int] (.t 69) (.t 70), (some (68, true))⟩,
       ⟨(some 72), .pick (.t 68) (.t 71) (.c (.bool false)), none⟩,
       ⟨(some 4), .mov (.t 72), none⟩]) <|
    .ret)
   (.skip)) <|
 .seq
 (.region [⟨(some 13), .mov (.c (.int .i64 1152921504606846976)), none⟩]) <|
 .seq
 (.seq
  (.region [⟨(some 73), .mov (.t 0), none⟩,
     ⟨(some 74), .len .sl (.t 73), none⟩,
     ⟨(some 75), .mov (.c (.int .i64 0)), none⟩]) <|
  .block 2 <|
  .loop [0, 1, 5, 6, 7, 8, 13, 73, 74, 75] <|
   .seq
   (.region [⟨(some 76), .bin .lss (.t 75) (.t 74), none⟩]) <|
   .seq
   (.cond (.t 76)
     (.skip)
     (.exit 2)) <|
   .seq
   (.block 3 <|
    .seq
    (.region [⟨(some 77), .iaddr 2 (.t 73) (.t 75), none⟩,
       ⟨(some 78), .load true 2 (.t 77), none⟩,
       ⟨(some 15), .alloc [(.int .i64 0), (.int .i64 0)], none⟩,
       ⟨none, .store 2 (.t 15) (.t 78), none⟩]) <|
    .seq
    (.region [⟨(some 79), .load true 2 (.t 15), none⟩,
       ⟨(some 80), .call (.f 11) [(.t 79)], none⟩,
       ⟨(some 81), .mov (.t 80), none⟩,
       ⟨(some 82), .faddr 0 (.t 15), (some (81, true))⟩,
       ⟨(some 83), .load false 1 (.t 82), (some (81, true))⟩,
       ⟨(some 84), .mov (.t 8), (some (81, true))⟩,
       ⟨(some 85), .bin .leq (.t 83) (.t 84), (some (81, true))⟩,
       ⟨(some 86), .pick (.t 81) (.t 85) (.c (.bool false)), none⟩,
       ⟨(some 87), .mov (.t 86), none⟩,
       ⟨(some 88), .mov (.t 8), (some (87, true))⟩,
       ⟨(some 89), .faddr 1 (.t 15), (some (87, true))⟩,
       ⟨(some 90), .load false 1 (.t 89), (some (87, true))⟩,
       ⟨(some 91), .bin .leq (.t 88) (.t 90), (some (87, true))⟩,
       ⟨(some 92), .pick (.t 87) (.t 91) (.c (.bool false)), none⟩]) <|
    .cond (.t 92)
     (.region [⟨(some 93), .mov (.t 13), none⟩,
        ⟨(some 94), .faddr 1 (.t 15), none⟩,
        ⟨(some 95), .load false 1 (.t 94), none⟩,
        ⟨(some 96), .min [(.t 93), (.t 95)], none⟩,
        ⟨(some 13), .mov (.t 96), none⟩])
     (.skip)) <|
   .region [⟨(some 97), .bin .add (.t 75) (.c (.int .i64 1)), none⟩,
     ⟨(some 75), .mov (.t 97), none⟩]) <|
 .seq
 (.region [⟨(some 98), .mov (.t 6), none⟩,
    ⟨(some 99), .mov (.t 98), none⟩,
    ⟨(some 100), .load true 3 (.t 5), (some (99, true))⟩,
    ⟨(some 101), .mov (.t 8), (some (99, true))⟩,
    ⟨(some 102), .mov (.t 13), (some (99, true))⟩,
    ⟨(some 103), .mov (.t 7), (some (99, true))⟩,
    ⟨(some 104), .build [(.int .i64 0), (.int .i64 0), (.int .i64 0)] [(0, 1, (.t 101)), (1, 1, (.t 102)), (2, 1, (.t 103))], (some (99, true))⟩,
    ⟨(some 105), .eq false true [.int, .int, .int] (.t 100) (.t 104), (some (99, true))⟩,
    ⟨(some 106), .pick (.t 99) (.t 105) (.c (.bool false)), none⟩,
    ⟨(some 107), .mov (.t 106), none⟩,
    ⟨(some 108), .mov (.t 0), (some (107, true))⟩,
    ⟨(some 109), .mov (.t 1), (some (107, true))⟩,
    ⟨(some 110), .call (.f 10) [(.t 108), (.t 109)], (some (107, true))⟩,
    ⟨(some 111), .mov (.t 7), (some (107, true))⟩,
    ⟨(some 112), .bin .leq (.t 110) (.t 111), (some (107, true))⟩,
    ⟨(some 113), .pick (.t 107) (.t 112) (.c (.bool false)), none⟩,
    ⟨(some 4), .mov (.t 113), none⟩]) <|
 .ret, [.slot 4]⟩
theorem c3 : Code1 Try.prog 3 114 b3 := Code1.mk' Try.func3 (by kernel_rfl) (by kernel_rfl) Try.ntmps3

/-- fusee/fuseelaw44.MarzulloLiars -/
def b4 : IFn := ⟨
 .seq
 (.region [⟨(some 2), .mov (.c (.bool false)), none⟩]) <|
 .seq
 (.seq
  (.region [⟨(some 14), .call (.f 7) [], none⟩,
     ⟨(some 15), .un .not (.t 14), none⟩]) <|
  .cond (.t 15)
   (.seq
    (.region [⟨(some 2), .mov (.c (.bool false)), none⟩]) <|
    .ret)
   (.skip)) <|
 .seq
 (.seq
  (.region [⟨(some 16), .mov (.t 0), none⟩,
     ⟨(some 17), .len .sl (.t 16), none⟩,
     ⟨(some 18), .bin .gtr (.t 17) (.c (.int .i64 60)), none⟩]) <|
  .cond (.t 18)
   (.seq
    (.region [⟨(some 2), .mov (.c (.bool true)), none⟩]) <|
    .ret)
   (.skip)) <|
 .seq
 (.region [⟨(some 20), .mov (.t 0), none⟩,
    ⟨(some 21), .call (.f 8) [(.t 20)], none⟩,
    ⟨(some 19), .mov (.t 21), none⟩,
    ⟨(some 22), .extract (.t 19) 0, none⟩,
    ⟨(some 23), .extract (.t 19) 1, none⟩,
    ⟨(some 3), .alloc [(.int .i64 0), (.int .i64 0), (.int .i64 0)], none⟩,
    ⟨none, .store 3 (.t 3) (.t 22), none⟩,
    ⟨(some 4), .mov (.t 23), none⟩]) <|
 .seq
 (.region [⟨(some 25), .mov (.t 0), none⟩,
    ⟨(some 26), .call (.f 12) [(.t 25)], none⟩,
    ⟨(some 24), .mov (.t 26), none⟩,
    ⟨(some 27), .extract (.t 24) 0, none⟩,
    ⟨(some 28), .extract (.t 24) 1, none⟩,
    ⟨(some 5), .mov (.t 27), none⟩,
    ⟨(some 6), .mov (.t 28), none⟩]) <|
 .seq
 (.region [⟨(some 30), .mov (.t 0), none⟩,
    ⟨(some 31), .call (.f 13) [(.t 30)], none⟩,
    ⟨(some 29), .mov (.t 31), none⟩,
    ⟨(some 32), .extract (.t 29) 0, none⟩,
    ⟨(some 33), .extract (.t 29) 1, none⟩,
    ⟨(some 7), .mov (.t 32), none⟩,
    ⟨(some 8), .mov (.t 33), none⟩]) <|
 .seq
 (.region [⟨(some 9), .mov (.c (.int .i64 0)), none⟩,
    ⟨(some 10), .mov (.c (.int .i64 0)), none⟩]) <|
 .seq
 (.seq
  (.region [⟨(some 34), .mov (.t 0), none⟩,
     ⟨(some 35), .len .sl (.t 34), none⟩,
     ⟨(some 36), .mov (.c (.int .i64 0)), none⟩]) <|
  .block 0 <|
  .loop [3, 4, 5, 6, 7, 8, 9, 10, 34, 35, 36] <|
   .seq
   (.region [⟨(some 37), .bin .lss (.t 36) (.t 35), none⟩]) <|
   .seq
   (.cond (.t 37)
     (.skip)
     (.exit 0)) <|
   .seq
   (.block 1 <|
    .seq
    (.region [⟨(some 38), .mov (.t 36), none⟩,
       ⟨(some 39), .iaddr 2 (.t 34) (.t 36), none⟩,
       ⟨(some 40), .load true 2 (.t 39), none⟩,
       ⟨(some 12), .alloc [(.int .i64 0), (.int .i64 0)], none⟩,
       ⟨(some 11), .mov (.t 38), none⟩,
       ⟨none, .store 2 (.t 12) (.t 40), none⟩]) <|
    .seq
    (.seq
     (.region [⟨(some 41), .load true 2 (.t 12), none⟩,
        ⟨(some 42), .call (.f 11) [(.t 41)], none⟩,
        ⟨(some 43), .un .not (.t 42), none⟩]) <|
     .cond (.t 43)
      (.exit 1)
      (.skip)) <|
    .seq
    (.region [⟨(some 44), .mov (.t 9), none⟩,
       ⟨(some 45), .bin .add (.t 44) (.c (.int .i64 1)), none⟩,
       ⟨(some 9), .mov (.t 45), none⟩]) <|
    .seq
    (.seq
     (.region [⟨(some 46), .faddr 0 (.t 12), none⟩,
        ⟨(some 47), .load false 1 (.t 46), none⟩,
        ⟨(some 48), .faddr 0 (.t 3), none⟩,
        ⟨(some 49), .load false 1 (.t 48), none⟩,
        ⟨(some 50), .bin .leq (.t 47) (.t 49), none⟩,
        ⟨(some 51), .mov (.t 50), none⟩,
        ⟨(some 52), .faddr 1 (.t 3), (some (51, true))⟩,
        ⟨(some 53), .load false 1 (.t 52), (some (51, true))⟩,
        ⟨(some 54), .faddr 1 (.t 12), (some (51, true))⟩,
        ⟨(some 55), .load false 1 (.t 54), (some (51, true))⟩,
        ⟨(some 56), .bin .leq (.t 53) (.t 55), (some (51, true))⟩,
        ⟨(some 57), .pick (.t 51) (.t 56) (.c (.bool false)), none⟩]) <|
     .cond (.t 57)
      (.exit 1)
      (.skip)) <|
    .seq
    (.seq
     (.region [⟨(some 58), .mov (.t 6), none⟩,
        ⟨(some 59), .mov (.t 58), none⟩,
        ⟨(some 60), .mov (.t 10), (some (59, true))⟩,
        ⟨(some 61), .mov (.t 5), (some (59, true))⟩,
        ⟨(some 62), .len .sl (.t 61), (some (59, true))⟩,
        ⟨(some 63), .bin .geq (.t 60) (.t 62), (some (59, true))⟩,
        ⟨(some 64), .mov (.t 63), (some (59, true))⟩,
        ⟨(some 65), .mov (.t 5), (some (64, false))⟩,
        ⟨(some 66), .mov (.t 10), (some (64, false))⟩,
        ⟨(some 67), .iaddr 1 (.t 65) (.t 66), (some (64, false))⟩,
        ⟨(some 68), .load false 1 (.t 67), (some (64, false))⟩,
        ⟨(some 69), .mov (.t 11), (some (64, false))⟩,
        ⟨(some 70), .bin .neq (.t 68) (.t 69), (some (64, false))⟩,
        ⟨(some 71), .pick (.t 64) (.c (.bool true)) (.t 70), (some (59, true))⟩,
        ⟨(some 72), .pick (.t 59) (.t 71) (.c (.bool false)), none⟩]) <|
     .cond (.t 72)
      (.seq
       (.region [⟨(some 2), .mov (.c (.bool false)), none⟩]) <|
       .ret)
      (.skip)) <|
    .region [⟨(some 73), .mov (.t 10), none⟩,
      ⟨(some 74), .bin .add (.t 73) (.c (.int .i64 1)), none⟩,
      ⟨(some 10), .mov (.t 74), none⟩]) <|
   .region [⟨(some 75), .bin .add (.t 36) (.c (.int .i64 1)), none⟩,
     ⟨(some 36), .mov (.t 75), none⟩]) <|
 .seq
 (.region [⟨(some 76), .mov (.t 4), none⟩,
    ⟨(some 77), .mov (.t 76), none⟩,
    ⟨(some 78), .faddr 2 (.t 3), (some (77, true))⟩,
    ⟨(some 79), .load false 1 (.t 78), (some (77, true))⟩,
    ⟨(some 80), .bin .mul (.c (.int .i64 2)) (.t 79), (some (77, true))⟩,
    ⟨(some 81), .mov (.t 9), (some (77, true))⟩,
    ⟨(some 82), .bin .gtr (.t 80) (.t 81), (some (77, true))⟩,
    ⟨(some 83), .pick (.t 77) (.t 82) (.c (.bool false)), none⟩,
    ⟨(some 13), .mov (.t 83), none⟩]) <|
 .seq
 (.seq
  (.region [⟨(some 84), .mov (.t 6), none⟩,
     ⟨(some 85), .mov (.t 13), none⟩,
     ⟨(some 86), .eq true false [.bool] (.t 84) (.t 85), none⟩,
     ⟨(some 87), .mov (.t 86), none⟩,
     ⟨(some 88), .mov (.t 8), (some (87, false))⟩,
     ⟨(some 89), .mov (.t 13), (some (87, false))⟩,
     ⟨(some 90), .eq true false [.bool] (.t 88) (.t 89), (some (87, false))⟩,
     ⟨(some 91), .pick (.t 87) (.c (.bool true)) (.t 90), none⟩]) <|
  .cond (.t 91)
   (.seq
    (.region [⟨(some 2), .mov (.c (.bool false)), none⟩]) <|
    .ret)
   (.skip)) <|
 .seq
 (.seq
  (.region [⟨(some 92), .mov (.t 13), none⟩,
     ⟨(some 93), .un .not (.t 92), none⟩]) <|
  .cond (.t 93)
   (.seq
    (.region [⟨(some 94), .mov (.t 5), none⟩,
       ⟨(some 95), .len .sl (.t 94), none⟩,
       ⟨(some 96), .bin .eql (.t 95) (.c (.int .i64 0)), none⟩,
       ⟨(some 97), .mov (.t 96), none⟩,
       ⟨(some 98), .mov (.t 7), (some (97, true))⟩,
       ⟨(some 99), .bin .eql (.t 98) (.c (.int .i64 0)), (some (97, true))⟩,
       ⟨(some 100), .pick (.t 97) (.t 99) (.c (.bool false)), none⟩,
       ⟨(some 2), .mov (.t 100), none⟩]) <|
    .ret)
   (.skip)) <|
 .seq
 (.region [⟨(some 101), .mov (.t 10), none⟩,
    ⟨(some 102), .mov (.t 5), none⟩,
    ⟨(some 103), .len .sl (.t 102), none⟩,
    ⟨(some 104), .bin .eql (.t 101) (.t 103), none⟩,
    ⟨(some 105), .mov (.t 104), none⟩,
    ⟨(some 106), .mov (.t 9), (some (105, true))⟩,
    ⟨(some 107), .mov (.t 10), (some (105, true))⟩,
    ⟨(some 108), .bin .sub (.t 106) (.t 107), (some (105, true))⟩,
    ⟨(some 109), .faddr 2 (.t 3), (some (105, true))⟩,
    ⟨(some 110), .load false 1 (.t 109), (some (105, true))⟩,
    ⟨(some 111), .bin .eql (.t 108) (.t 110), (some (105, true))⟩,
    ⟨(some 112), .pick (.t 105) (.t 111) (.c (.bool false)), none⟩,
    ⟨(some 113), .mov (.t 112), none⟩,
    ⟨(some 114), .mov (.t 7), (some (113, true))⟩,
    ⟨(some 115), .faddr 0 (.t 3), (some (113, true))⟩,
    ⟨(some 116), .load false 1 (.t 115), (some (113, true))⟩,
    ⟨(some 117), .bin .geq (.t 114) (.t 116), (some (113, true))⟩,
    ⟨(some 118), .pick (.t 113) (.t 117) (.c (.bool false)), none⟩,
    ⟨(some 119), .mov (.t 118), none⟩,
    ⟨(some 120), .mov (.t 7), (some (119, true))⟩,
    ⟨(some 121), .faddr 1 (.t 3), (some (119, true))⟩,
    ⟨(some 122), .load false 1 (.t 121), (some (119, true))⟩,
    ⟨(some 123), .bin .leq (.t 120) (.t 122), (some (119, true))⟩,
    ⟨(some 124), .pick (.t 119) (.t 123) (.c (.bool false)), none⟩,
    ⟨(some 125), .mov (.t 124), none⟩,
    ⟨(some 126), .mov (.t 7), (some (125, true))⟩,
    ⟨(some 127), .faddr 0 (.t 3), (some (125, true))⟩,
    ⟨(some 128), .load false 1 (.t 127), (some (125, true))⟩,
    ⟨(some 129), .bin .sub (.t 126) (.t 128), (some (125, true))⟩,
    ⟨(some 130), .faddr 1 (.t 3), (some (125, true))⟩,
    ⟨(some 131), .load false 1 (.t 130), (some (125, true))⟩,
    ⟨(some 132), .mov (.t 7), (some (125, true))⟩,
    ⟨(some 133), .bin .sub (.t 131) (.t 132), (some (125, true))⟩,
    ⟨(some 134), .bin .leq (.t 129) (.t 133), (some (125, true))⟩,
    ⟨(some 135), .pick (.t 125) (.t 134) (.c (.bool false)), none⟩,
    ⟨(some 136), .mov (.t 135), none⟩,
    ⟨(some 137), .faddr 1 (.t 3), (some (136, true))⟩,
    ⟨(some 138), .load false 1 (.t 137), (some (136, true))⟩,
    ⟨(some 139), .mov (.t 7), (some (136, true))⟩,
    ⟨(some 140), .bin .sub (.t 138) (.t 139), (some (136, true))⟩,
    ⟨(some 141), .mov (.t 7), (some (136, true))⟩,
    ⟨(some 142), .faddr 0 (.t 3), (some (136, true))⟩,
    ⟨(some 143), .load false 1 (.t 142), (some (136, true))⟩,
    ⟨(some 144), .bin .sub (.t 141) (.t 143), (some (136, true))⟩,
    ⟨(some 145), .bin .sub (.t 140) (.t 144), (some (136, true))⟩,
    ⟨(some 146), .bin .leq (.t 145) (.c (.int .i64 1)), (some (136, true))⟩,
    ⟨(some 147), .pick (.t 136) (.t 146) (.c (.bool false)), none⟩,
    ⟨(some 2), .mov (.t 147), none⟩]) <|
 .ret, [.slot 2]⟩
theorem c4 : Code1 Try.prog 4 148 b4 := Code1.mk' Try.func4 (by kernel_rfl) (by kernel_rfl) Try.ntmps4

/-- fusee/fuseelaw44.MarzulloTrue -/
def b5 : IFn := ⟨
 .seq
 (.region [⟨(some 4), .mov (.c (.bool false)), none⟩]) <|
 .seq
 (.seq
  (.region [⟨(some 13), .call (.f 7) [], none⟩,
     ⟨(some 14), .un .not (.t 13), none⟩]) <|
  .cond (.t 14)
   (.seq
    (.region [⟨(some 4), .mov (.c (.bool false)), none⟩]) <|
    .ret)
   (.skip)) <|
 .seq
 (.seq
  (.region [⟨(some 15), .mov (.t 0), none⟩,
     ⟨(some 16), .len .sl (.t 15), none⟩,
     ⟨(some 17), .bin .gtr (.t 16) (.c (.int .i64 60)), none⟩]) <|
  .cond (.t 17)
   (.seq
    (.region [⟨(some 4), .mov (.c (.bool true)), none⟩]) <|
    .ret)
   (.skip)) <|
 .seq
 (.region [⟨(some 5), .mov (.c (.int .i64 0)), none⟩]) <|
 .seq
 (.seq
  (.region [⟨(some 18), .mov (.t 0), none⟩,
     ⟨(some 19), .len .sl (.t 18), none⟩,
     ⟨(some 20), .mov (.c (.int .i64 0)), none⟩]) <|
  .block 0 <|
  .loop [0, 1, 5, 18, 19, 20] <|
   .seq
   (.region [⟨(some 21), .bin .lss (.t 20) (.t 19), none⟩]) <|
   .seq
   (.cond (.t 21)
     (.skip)
     (.exit 0)) <|
   .seq
   (.block 1 <|
    .seq
    (.region [⟨(some 22), .iaddr 2 (.t 18) (.t 20), none⟩,
       ⟨(some 23), .load true 2 (.t 22), none⟩,
       ⟨(some 7), .alloc [(.int .i64 0), (.int .i64 0)], none⟩,
       ⟨none, .store 2 (.t 7) (.t 23), none⟩]) <|
    .seq
    (.region [⟨(some 24), .load true 2 (.t 7), none⟩,
       ⟨(some 25), .call (.f 11) [(.t 24)], none⟩]) <|
    .cond (.t 25)
     (.region [⟨(some 26), .mov (.t 5), none⟩,
        ⟨(some 27), .bin .add (.t 26) (.c (.int .i64 1)), none⟩,
        ⟨(some 5), .mov (.t 27), none⟩])
     (.skip)) <|
   .region [⟨(some 28), .bin .add (.t 20) (.c (.int .i64 1)), none⟩,
     ⟨(some 20), .mov (.t 28), none⟩]) <|
 .seq
 (.region [⟨(some 29), .mov (.t 0), none⟩,
    ⟨(some 30), .mov (.t 1), none⟩,
    ⟨(some 31), .conv .i64 (.t 30), none⟩,
    ⟨(some 32), .call (.f 9) [(.t 29), (.t 31)], none⟩,
    ⟨(some 8), .mov (.t 32), none⟩]) <|
 .seq
 (.region [⟨(some 34), .mov (.t 0), none⟩,
    ⟨(some 35), .call (.f 8) [(.t 34)], none⟩,
    ⟨(some 33), .mov (.t 35), none⟩,
    ⟨(some 36), .extract (.t 33) 0, none⟩,
    ⟨(some 37), .extract (.t 33) 1, none⟩,
    ⟨(some 9), .alloc [(.int .i64 0), (.int .i64 0), (.int .i64 0)], none⟩,
    ⟨none, .store 3 (.t 9) (.t 36), none⟩,
    ⟨(some 10), .mov (.t 37), none⟩]) <|
 .seq
 (.seq
  (.region [⟨(some 38), .mov (.t 8), none⟩,
     ⟨(some 39), .bin .mul (.c (.int .i64 2)) (.t 38), none⟩,
     ⟨(some 40), .mov (.t 5), none⟩,
     ⟨(some 41), .bin .leq (.t 39) (.t 40), none⟩]) <|
  .cond (.t 41)
   (.seq
    (.region [⟨(some 4), .mov (.c (.bool true)), none⟩]) <|
    .ret)
   (.skip)) <|
 .seq
 (.region [⟨(some 43), .mov (.t 0), none⟩,
    ⟨(some 44), .call (.f 12) [(.t 43)], none⟩,
    ⟨(some 42), .mov (.t 44), none⟩,
    ⟨(some 45), .extract (.t 42) 0, none⟩,
    ⟨(some 46), .extract (.t 42) 1, none⟩,
    ⟨(some 11), .mov (.t 45), none⟩,
    ⟨(some 12), .mov (.t 46), none⟩]) <|
 .seq
 (.draw true [4] (
    .op ⟨(some 47), .mov (.t 10), none⟩ <|
    .op ⟨(some 48), .mov (.t 47), none⟩ <|
    .op ⟨(some 49), .mov (.t 12), (some (48, true))⟩ <|
    .op ⟨(some 50), .pick (.t 48) (.t 49) (.c (.bool false)), none⟩ <|
    .op ⟨(some 51), .mov (.t 50), none⟩ <|
    .op ⟨(some 52), .faddr 2 (.t 9), (some (51, true))⟩ <|
    .op ⟨(some 53), .load false 1 (.t 52), (some (51, true))⟩ <|
    .op ⟨(some 54), .mov (.t 8), (some (51, true))⟩ <|
    .op ⟨(some 55), .bin .geq (.t 53) (.t 54), (some (51, true))⟩ <|
    .op ⟨(some 56), .pick (.t 51) (.t 55) (.c (.bool false)), none⟩ <|
    .op ⟨(some 57), .mov (.t 56), none⟩ <|
    .op ⟨(some 58), .mov (.t 0), (some (57, true))⟩ <|
    .op ⟨(some 59), .faddr 0 (.t 9), (some (57, true))⟩ <|
    .op ⟨(some 60), .load false 1 (.t 59), (some (57, true))⟩ <|
    .op ⟨(some 62), .faddr 2 (.t 9), (some (57, true))⟩ <|
    .alt (.op ⟨(some 61), .call (.f 9) [(.t 58), (.t 60)], (some (57, true))⟩ <|
     .op ⟨(some 63), .load false 1 (.t 62), (some (57, true))⟩ <|
     .op ⟨(some 64), .bin .eql (.t 61) (.t 63), (some (57, true))⟩ <|
     .op ⟨(some 65), .pick (.t 57) (.t 64) (.c (.bool false)), none⟩ <|
     .op ⟨(some 66), .mov (.t 65), none⟩ <|
     .op ⟨(some 67), .mov (.t 0), (some (66, true))⟩ <|
     .op ⟨(some 68), .faddr 1 (.t 9), (some (66, true))⟩ <|
     .op ⟨(some 69), .load false 1 (.t 68), (some (66, true))⟩ <|
     .op ⟨(some 71), .faddr 2 (.t 9), (some (66, true))⟩ <|
     .alt (.op ⟨(some 70), .call (.f 9) [(.t 67), (.t 69)], (some (66, true))⟩ <|
      .op ⟨(some 72), .load false 1 (.t 71), (some (66, true))⟩ <|
      .op ⟨(some 73), .bin .eql (.t 70) (.t 72), (some (66, true))⟩ <|
      .op ⟨(some 74), .pick (.t 66) (.t 73) (.c (.bool false)), none⟩ <|
      .op ⟨(some 4), .mov (.t 74), none⟩ <|
      .done) <|
     .op ⟨(some 72), .load false 1 (.t 71), (some (66, true))⟩ <|
     .op ⟨(some 70), .call (.f 9) [(.t 67), (.t 69)], (some (66, true))⟩ <|
     .op ⟨(some 73), .bin .eql (.t 70) (.t 72), (some (66, true))⟩ <|
     .op ⟨(some 74), .pick (.t 66) (.t 73) (.c (.bool false)), none⟩ <|
     .op ⟨(some 4), .mov (.t 74), none⟩ <|
     .done) <|
    .op ⟨(some 63), .load false 1 (.t 62), (some (57, true))⟩ <|
    .op ⟨(some 61), .call (.f 9) [(.t 58), (.t 60)], (some (57, true))⟩ <|
    .op ⟨(some 64), .bin .eql (.t 61) (.t 63), (some (57, true))⟩ <|
    .op ⟨(some 65), .pick (.t 57) (.t 64) (.c (.bool false)), none⟩ <|
    .op ⟨(some 66), .mov (.t 65), none⟩ <|
    .op ⟨(some 67), .mov (.t 0), (some (66, true))⟩ <|
    .op ⟨(some 68), .faddr 1 (.t 9), (some (66, true))⟩ <|
    .op ⟨(some 69), .load false 1 (.t 68), (some (66, true))⟩ <|
    .op ⟨(some 71), .faddr 2 (.t 9), (some (66, true))⟩ <|
    .alt (.op ⟨(some 70), .call (.f 9) [(.t 67), (.t 69)], (some (66, true))⟩ <|
     .op ⟨(some 72), .load false 1 (.t 71), (some (66, true))⟩ <|
     .op ⟨(some 73), .bin .eql (.t 70) (.t 72), (some (66, true))⟩ <|
     .op ⟨(some 74), .pick (.t 66) (.t 73) (.c (.bool false)), none⟩ <|
     .op ⟨(some 4), .mov (.t 74), none⟩ <|
     .done) <|
    .op ⟨(some 72), .load false 1 (.t 71), (some (66, true))⟩ <|
    .op ⟨(some 70), .call (.f 9) [(.t 67), (.t 69)], (some (66, true))⟩ <|
    .op ⟨(some 73), .bin .eql (.t 70) (.t 72), (some (66, true))⟩ <|
    .op ⟨(some 74), .pick (.t 66) (.t 73) (.c (.bool false)), none⟩ <|
    .op ⟨(some 4), .mov (.t 74), none⟩ <|
    .done)) <|
 .ret, [.slot 4]⟩
theorem c5 : Code1 Try.prog 5 75 b5 := Code1.mk' Try.func5 (by kernel_rfl) (by kernel_rfl) Try.ntmps5

/-- fusee/fuseelaw44.MarzulloSpans -/
def b6 : IFn := ⟨
 .seq
 (.region [⟨(some 6), .mov (.c (.bool false)), none⟩]) <|
 .seq
 (.seq
  (.region [⟨(some 10), .call (.f 7) [], none⟩,
     ⟨(some 11), .un .not (.t 10), none⟩]) <|
  .cond (.t 11)
   (.seq
    (.region [⟨(some 6), .mov (.c (.bool false)), none⟩]) <|
    .ret)
   (.skip)) <|
 .seq
 (.region [⟨(some 13), .mov (.t 0), none⟩,
    ⟨(some 14), .mov (.t 1), none⟩,
    ⟨(some 15), .mov (.t 2), none⟩,
    ⟨(some 16), .call (.f 14) [(.t 13), (.t 14), (.t 15)], none⟩,
    ⟨(some 12), .mov (.t 16), none⟩,
    ⟨(some 17), .extract (.t 12) 0, none⟩,
    ⟨(some 18), .extract (.t 12) 1, none⟩,
    ⟨(some 7), .alloc [(.int .i64 0), (.int .i64 0)], none⟩,
    ⟨none, .store 2 (.t 7) (.t 17), none⟩,
    ⟨(some 8), .mov (.t 18), none⟩]) <|
 .seq
 (.seq
  (.region [⟨(some 19), .mov (.t 1), none⟩,
     ⟨(some 20), .bin .lss (.t 19) (.c (.int .i64 0)), none⟩,
     ⟨(some 21), .mov (.t 20), none⟩,
     ⟨(some 22), .mov (.t 1), (some (21, false))⟩,
     ⟨(some 23), .bin .gtr (.t 22) (.c (.int .i64 1125899906842624)), (some (21, false))⟩,
     ⟨(some 24), .pick (.t 21) (.c (.bool true)) (.t 23), none⟩,
     ⟨(some 25), .mov (.t 24), none⟩,
     ⟨(some 26), .mov (.t 2), (some (25, false))⟩,
     ⟨(some 27), .bin .lss (.t 26) (.c (.int .i64 0)), (some (25, false))⟩,
     ⟨(some 28), .pick (.t 25) (.c (.bool true)) (.t 27), none⟩,
     ⟨(some 29), .mov (.t 28), none⟩,
     ⟨(some 30), .mov (.t 2), (some (29, false))⟩,
     ⟨(some 31), .bin .gtr (.t 30) (.c (.int .i64 1125899906842624)), (some (29, false))⟩,
     ⟨(some 32), .pick (.t 29) (.c (.bool true)) (.t 31), none⟩,
     ⟨(some 33), .mov (.t 32), none⟩,
     ⟨(some 34), .mov (.t 0), (some (33, false))⟩,
     ⟨(some 35), .bin .lss (.t 34) (.c (.int .i64 (-1125899906842624))), (some (33, false))⟩,
     ⟨(some 36), .pick (.t 33) (.c (.bool true)) (.t 35), none⟩,
     ⟨(some 37), .mov (.t 36), none⟩,
     ⟨(some 38), .mov (.t 0), (some (37, false))⟩,
     ⟨(some 39), .bin .gtr (.t 38) (.c (.int .i64 1125899906842624)), (some (37, false))⟩,
     ⟨(some 40), .pick (.t 37) (.c (.bool true)) (.t 39), none⟩]) <|
  .cond (.t 40)
   (.seq
    (.region [⟨(some 41), .mov (.t 8), none⟩,
       ⟨(some 42), .un .not (.t 41), none⟩,
       ⟨(some 43), .mov (.t 42), none⟩,
       ⟨(some 44), .load true 2 (.t 7), (some (43, true))⟩,
       ⟨(some 45), .build [(.int .i64 0), (.int .i64 0)] [], (some (43, true))⟩,
       ⟨(some 46), .eq false true [.int, .int] (.t 44) (.t 45), (some (43, true))⟩,
       ⟨(some 47), .pick (.t 43) (.t 46) (.c (.bool false)), none⟩,
       ⟨(some 6), .mov (.t 47), none⟩]) <|
    .ret)
   (.skip)) <|
 .seq
 (.region [⟨(some 48), .faddr 1 (.t 7), none⟩,
    ⟨(some 49), .load false 1 (.t 48), none⟩,
    ⟨(some 50), .mov (.t 0), none⟩,
    ⟨(some 51), .bin .sub (.t 49) (.t 50), none⟩,
    ⟨(some 9), .mov (.t 51), none⟩]) <|
 .seq
 (.region [⟨(some 52), .mov (.t 8), none⟩,
    ⟨(some 53), .mov (.t 52), none⟩,
    ⟨(some 54), .mov (.t 0), (some (53, true))⟩,
    ⟨(some 55), .faddr 0 (.t 7), (some (53, true))⟩,
    ⟨(some 56), .load false 1 (.t 55), (some (53, true))⟩,
    ⟨(some 57), .bin .sub (.t 54) (.t 56), (some (53, true))⟩,
    ⟨(some 58), .mov (.t 9), (some (53, true))⟩,
    ⟨(some 59), .bin .eql (.t 57) (.t 58), (some (53, true))⟩,
    ⟨(some 60), .pick (.t 53) (.t 59) (.c (.bool false)), none⟩,
    ⟨(some 61), .mov (.t 60), none⟩,
    ⟨(some 62), .mov (.t 9), (some (61, true))⟩,
    ⟨(some 63), .mov (.t 2), (some (61, true))⟩,
    ⟨(some 64), .bin .sub (.t 62) (.t 63), (some (61, true))⟩,
    ⟨(some 65), .bin .mul (.c (.int .i64 2)) (.t 64), (some (61, true))⟩,
    ⟨(some 66), .mov (.t 1), (some (61, true))⟩,
    ⟨(some 67), .bin .geq (.t 65) (.t 66), (some (61, true))⟩,
    ⟨(some 68), .pick (.t 61) (.t 67) (.c (.bool false)), none⟩,
    ⟨(some 69), .mov (.t 68), none⟩,
    ⟨(some 70), .mov (.t 9), (some (69, true))⟩,
    ⟨(some 71), .mov (.t 2), (some (69, true))⟩,
    ⟨(some 72), .bin .sub (.t 70) (.t 71), (some (69, true))⟩,
    ⟨(some 73), .bin .mul (.c (.int .i64 2)) (.t 72), (some (69, true))⟩,
    ⟨(some 74), .mov (.t 1), (some (69, true))⟩,
    ⟨(some 75), .bin .add (.t 74) (.c (.int .i64 1)), (some (69, true))⟩,
    ⟨(some 76), .bin .leq (.t 73) (.t 75), (some (69, true))⟩,
    ⟨(some 77), .pick (.t 69) (.t 76) (.c (.bool false)), none⟩,
    ⟨(some 6), .mov (.t 77), none⟩]) <|
 .ret, [.slot 6]⟩
theorem c6 : Code1 Try.prog 6 78 b6 := Code1.mk' Try.func6 (by kernel_rfl) (by kernel_rfl) Try.ntmps6

/-- fusee/fuseelaw44.fixed -/
def b7 : IFn := ⟨
 .seq
 (.region [⟨(some 0), .mov (.c (.bool false)), none⟩]) <|
 .seq
 (.region [⟨(some 12), .build [(.int .i64 0), (.int .i64 0)] [(0, 1, (.c (.int .i64 8))), (1, 1, (.c (.int .i64 12)))], none⟩,
    ⟨(some 13), .build [(.int .i64 0), (.int .i64 0)] [(0, 1, (.c (.int .i64 11))), (1, 1, (.c (.int .i64 13)))], none⟩,
    ⟨(some 14), .build [(.int .i64 0), (.int .i64 0)] [(0, 1, (.c (.int .i64 10))), (1, 1, (.c (.int .i64 12)))], none⟩,
    ⟨(some 15), .build [(.int .i64 0), (.int .i64 0)] [(0, 1, (.c (.int .i64 30))), (1, 1, (.c (.int .i64 40)))], none⟩,
    ⟨(some 16), .buildSl 2 [(.int .i64 0), (.int .i64 0), (.int .i64 0), (.int .i64 0), (.int .i64 0), (.int .i64 0), (.int .i64 0), (.int .i64 0)] [(0, 2, (.t 12)), (2, 2, (.t 13)), (4, 2, (.t 14)), (6, 2, (.t 15))], none⟩,
    ⟨(some 1), .mov (.t 16), none⟩]) <|
 .seq
 (.region [⟨(some 18), .mov (.t 1), none⟩,
    ⟨(some 19), .call (.f 8) [(.t 18)], none⟩,
    ⟨(some 17), .mov (.t 19), none⟩,
    ⟨(some 20), .extract (.t 17) 0, none⟩,
    ⟨(some 21), .extract (.t 17) 1, none⟩,
    ⟨(some 2), .alloc [(.int .i64 0), (.int .i64 0), (.int .i64 0)], none⟩,
    ⟨none, .store 3 (.t 2) (.t 20), none⟩,
    ⟨(some 3), .mov (.t 21), none⟩]) <|
 .seq
 (.region [⟨(some 23), .mov (.t 1), none⟩,
    ⟨(some 24), .call (.f 12) [(.t 23)], none⟩,
    ⟨(some 22), .mov (.t 24), none⟩,
    ⟨(some 25), .extract (.t 22) 0, none⟩,
    ⟨(some 26), .extract (.t 22) 1, none⟩,
    ⟨(some 4), .mov (.t 25), none⟩,
    ⟨(some 5), .mov (.t 26), none⟩]) <|
 .seq
 (.region [⟨(some 28), .mov (.t 1), none⟩,
    ⟨(some 29), .call (.f 13) [(.t 28)], none⟩,
    ⟨(some 27), .mov (.t 29), none⟩,
    ⟨(some 30), .extract (.t 27) 0, none⟩,
    ⟨(some 31), .extract (.t 27) 1, none⟩,
    ⟨(some 6), .mov (.t 30), none⟩,
    ⟨(some 7), .mov (.t 31), none⟩]) <|
 .seq
 (.region [⟨(some 33), .call (.f 14) [(.c (.int .i64 100)), (.c (.int .i64 7)), (.c (.int .i64 2))], none⟩,
    ⟨(some 32), .mov (.t 33), none⟩,
    ⟨(some 34), .extract (.t 32) 0, none⟩,
    ⟨(some 35), .extract (.t 32) 1, none⟩,
    ⟨(some 8), .alloc [(.int .i64 0), (.int .i64 0)], none⟩,
    ⟨none, .store 2 (.t 8) (.t 34), none⟩,
    ⟨(some 9), .mov (.t 35), none⟩]) <|
 .seq
 (.region [⟨(some 37), .call (.f 8) [(.c (.sl none 0 (some 0)))], none⟩,
    ⟨(some 36), .mov (.t 37), none⟩,
    ⟨(some 38), .extract (.t 36) 0, none⟩,
    ⟨(some 39), .extract (.t 36) 1, none⟩,
    ⟨(some 10), .alloc [(.int .i64 0), (.int .i64 0), (.int .i64 0)], none⟩,
    ⟨none, .store 3 (.t 10) (.t 38), none⟩,
    ⟨(some 11), .mov (.t 39), none⟩]) <|
 .seq
 (.region [⟨(some 40), .mov (.t 3), none⟩,
    ⟨(some 41), .mov (.t 40), none⟩,
    ⟨(some 42), .load true 3 (.t 2), (some (41, true))⟩,
    ⟨(some 43), .build [(.int .i64 0), (.int .i64 0), (.int .i64 0)] [(0, 1, (.c (.int .i64 11))), (1, 1, (.c (.int .i64 12))), (2, 1, (.c (.int .i64 3)))], (some (41, true))⟩,
    ⟨(some 44), .eq false true [.int, .int, .int] (.t 42) (.t 43), (some (41, true))⟩,
    ⟨(some 45), .pick (.t 41) (.t 44) (.c (.bool false)), none⟩,
    ⟨(some 46), .mov (.t 45), none⟩,
    ⟨(some 47), .mov (.t 5), (some (46, true))⟩,
    ⟨(some 48), .pick (.t 46) (.t 47) (.c (.bool false)), none⟩,
    ⟨(some 49), .mov (.t 48), none⟩,
    ⟨(some 50), .mov (.t 4), (some (49, true))⟩,
    ⟨(some 51), .len .sl (.t 50), (some (49, true))⟩,
    ⟨(some 52), .bin .eql (.t 51) (.c (.int .i64 1)), (some (49, true))⟩,
    ⟨(some 53), .pick (.t 49) (.t 52) (.c (.bool false)), none⟩,
    ⟨(some 54), .mov (.t 53), none⟩,
    ⟨(some 55), .mov (.t 4), (some (54, true))⟩,
    ⟨(some 56), .iaddr 1 (.t 55) (.c (.int .i64 0)), (some (54, true))⟩,
    ⟨(some 57), .load false 1 (.t 56), (some (54, true))⟩,
    ⟨(some 58), .bin .eql (.t 57) (.c (.int .i64 3)), (some (54, true))⟩,
    ⟨(some 59), .pick (.t 54) (.t 58) (.c (.bool false)), none⟩,
    ⟨(some 60), .mov (.t 59), none⟩,
    ⟨(some 61), .mov (.t 7), (some (60, true))⟩,
    ⟨(some 62), .pick (.t 60) (.t 61) (.c (.bool false)), none⟩,
    ⟨(some 63), .mov (.t 62), none⟩,
    ⟨(some 64), .mov (.t 6), (some (63, true))⟩,
    ⟨(some 65), .bin .eql (.t 64) (.c (.int .i64 11)), (some (63, true))⟩,
    ⟨(some 66), .pick (.t 63) (.t 65) (.c (.bool false)), none⟩,
    ⟨(some 67), .mov (.t 66), none⟩,
    ⟨(some 68), .mov (.t 9), (some (67, true))⟩,
    ⟨(some 69), .pick (.t 67) (.t 68) (.c (.bool false)), none⟩,
    ⟨(some 70), .mov (.t 69), none⟩,
    ⟨(some 71), .load true 2 (.t 8), (some (70, true))⟩,
    ⟨(some 72), .build [(.int .i64 0), (.int .i64 0)] [(0, 1, (.c (.int .i64 94))), (1, 1, (.c (.int .i64 106)))], (some (70, true))⟩,
    ⟨(some 73), .eq false true [.int, .int] (.t 71) (.t 72), (some (70, true))⟩,
    ⟨(some 74), .pick (.t 70) (.t 73) (.c (.bool false)), none⟩,
    ⟨(some 75), .mov (.t 74), none⟩,
    ⟨(some 76), .mov (.t 11), (some (75, true))⟩,
    ⟨(some 77), .un .not (.t 76), (some (75, true))⟩,
    ⟨(some 78), .pick (.t 75) (.t 77) (.c (.bool false)), none⟩,
    ⟨(some 79), .mov (.t 78), none⟩,
    ⟨(some 80), .mov (.t 1), (some (79, true))⟩,
    ⟨(some 81), .call (.f 9) [(.t 80), (.c (.int .i64 12))], (some (79, true))⟩,
    ⟨(some 82), .bin .eql (.t 81) (.c (.int .i64 3)), (some (79, true))⟩,
    ⟨(some 83), .pick (.t 79) (.t 82) (.c (.bool false)), none⟩,
    ⟨(some 0), .mov (.t 83), none⟩]) <|
 .ret, [.slot 0]⟩
theorem c7 : Code1 Try.prog 7 84 b7 := Code1.mk' Try.func7 (by kernel_rfl) (by kernel_rfl) Try.ntmps7

/-- fusee/marzullo.Agree -/
def b8 : IFn := ⟨
 .seq
 (.region [⟨(some 2), .alloc [(.int .i64 0), (.int .i64 0), (.int .i64 0)], none⟩,
    ⟨(some 3), .mov (.c (.bool false)), none⟩]) <|
 .seq
 (.region [⟨(some 4), .alloc [(.int .i64 0), (.int .i64 0), (.int .i64 0)], none⟩]) <|
 .seq
 (.region [⟨(some 5), .mov (.c (.int .i64 0)), none⟩,
    ⟨(some 6), .mov (.c (.bool false)), none⟩]) <|
 .seq
 (.seq
  (.region [⟨(some 9), .mov (.t 0), none⟩,
     ⟨(some 10), .call (.f 15) [(.t 9)], none⟩,
     ⟨(some 11), .len .sl (.t 10), none⟩,
     ⟨(some 12), .mov (.c (.int .i64 0)), none⟩]) <|
  .block 0 <|
  .loop [2, 4, 5, 6, 10, 11, 12] <|
   .seq
   (.region [⟨(some 13), .bin .lss (.t 12) (.t 11), none⟩]) <|
   .seq
   (.cond (.t 13)
     (.skip)
     (.exit 0)) <|
   .seq
   (.block 1 <|
    .seq
    (.region [⟨(some 14), .iaddr 2 (.t 10) (.t 12), none⟩,
       ⟨(some 15), .load true 2 (.t 14), none⟩,
       ⟨(some 8), .alloc [(.int .i64 0), (.int .i64 0)], none⟩,
       ⟨none, .store 2 (.t 8) (.t 15), none⟩]) <|
    .seq
    (.block 2 <|
     .seq
     (.region [⟨(some 17), .faddr 1 (.t 8), none⟩,
        ⟨(some 18), .load false 1 (.t 17), none⟩,
        ⟨(some 19), .bin .gtr (.t 18) (.c (.int .i64 0)), none⟩,
        ⟨(some 20), .mov (.t 19), none⟩,
        ⟨(some 21), .mov (.t 5), (some (20, true))⟩,
        ⟨(some 22), .bin .add (.t 21) (.c (.int .i64 1)), (some (20, true))⟩,
        ⟨(some 23), .faddr 2 (.t 4), (some (20, true))⟩,
        ⟨(some 24), .load false 1 (.t 23), (some (20, true))⟩,
        ⟨(some 25), .bin .gtr (.t 22) (.t 24), (some (20, true))⟩,
        ⟨(some 26), .pick (.t 20) (.t 25) (.c (.bool false)), none⟩,
        ⟨(some 16), .mov (.t 26), none⟩]) <|
     .cond (.t 16)
      (.region [⟨(some 27), .faddr 0 (.t 8), none⟩,
         ⟨(some 28), .load false 1 (.t 27), none⟩,
         ⟨(some 29), .faddr 0 (.t 8), none⟩,
         ⟨(some 30), .load false 1 (.t 29), none⟩,
         ⟨(some 31), .mov (.t 5), none⟩,
         ⟨(some 32), .bin .add (.t 31) (.c (.int .i64 1)), none⟩,
         ⟨(some 33), .build [(.int .i64 0), (.int .i64 0), (.int .i64 0)] [(0, 1, (.t 28)), (1, 1, (.t 30)), (2, 1, (.t 32))], none⟩,
         ⟨none, .store 3 (.t 4) (.t 33), none⟩,
         ⟨(some 6), .mov (.c (.bool true)), none⟩])
      (.seq
       (.region [⟨(some 35), .faddr 1 (.t 8), none⟩,
          ⟨(some 36), .load false 1 (.t 35), none⟩,
          ⟨(some 37), .bin .lss (.t 36) (.c (.int .i64 0)), none⟩,
          ⟨(some 38), .mov (.t 37), none⟩,
          ⟨(some 39), .mov (.t 6), (some (38, true))⟩,
          ⟨(some 40), .pick (.t 38) (.t 39) (.c (.bool false)), none⟩,
          ⟨(some 34), .mov (.t 40), none⟩]) <|
       .cond (.t 34)
        (.region [⟨(some 41), .faddr 0 (.t 8), none⟩,
           ⟨(some 42), .load false 1 (.t 41), none⟩,
           ⟨(some 43), .faddr 1 (.t 4), none⟩,
           ⟨none, .store 1 (.t 43) (.t 42), none⟩,
           ⟨(some 6), .mov (.c (.bool false)), none⟩])
        (.skip))) <|
    .region [⟨(some 44), .mov (.t 5), none⟩,
      ⟨(some 45), .faddr 1 (.t 8), none⟩,
      ⟨(some 46), .load false 1 (.t 45), none⟩,
      ⟨(some 47), .bin .add (.t 44) (.t 46), none⟩,
      ⟨(some 5), .mov (.t 47), none⟩]) <|
   .region [⟨(some 48), .bin .add (.t 12) (.c (.int .i64 1)), none⟩,
     ⟨(some 12), .mov (.t 48), none⟩]) <|
 .seq
 (.draw true [2, 3] (
    .op ⟨(some 49), .load true 3 (.t 4), none⟩ <|
    .op ⟨(some 50), .faddr 2 (.t 4), none⟩ <|
    .alt (.op ⟨(some 51), .load false 1 (.t 50), none⟩ <|
     .op ⟨(some 52), .bin .gtr (.t 51) (.c (.int .i64 0)), none⟩ <|
     .op ⟨none, .store 3 (.t 2) (.t 49), none⟩ <|
     .op ⟨(some 3), .mov (.t 52), none⟩ <|
     .done) <|
    .op ⟨none, .store 3 (.t 2) (.t 49), none⟩ <|
    .op ⟨(some 51), .load false 1 (.t 50), none⟩ <|
    .op ⟨(some 52), .bin .gtr (.t 51) (.c (.int .i64 0)), none⟩ <|
    .op ⟨(some 3), .mov (.t 52), none⟩ <|
    .done)) <|
 .ret, [.cell 2 true 3, .slot 3]⟩
theorem c8 : Code1 Try.prog 8 53 b8 := Code1.mk' Try.func8 (by kernel_rfl) (by kernel_rfl) Try.ntmps8

/-- fusee/marzullo.Count -/
def b9 : IFn := ⟨
 .seq
 (.region [⟨(some 4), .mov (.c (.int .i64 0)), none⟩]) <|
 .seq
 (.region [⟨(some 5), .mov (.c (.int .i64 0)), none⟩]) <|
 .seq
 (.seq
  (.region [⟨(some 8), .mov (.t 0), none⟩,
     ⟨(some 9), .len .sl (.t 8), none⟩,
     ⟨(some 10), .mov (.c (.int .i64 0)), none⟩]) <|
  .block 0 <|
  .loop [1, 5, 8, 9, 10] <|
   .seq
   (.region [⟨(some 11), .bin .lss (.t 10) (.t 9), none⟩]) <|
   .seq
   (.cond (.t 11)
     (.skip)
     (.exit 0)) <|
   .seq
   (.block 1 <|
    .seq
    (.region [⟨(some 12), .iaddr 2 (.t 8) (.t 10), none⟩,
       ⟨(some 13), .load true 2 (.t 12), none⟩,
       ⟨(some 7), .alloc [(.int .i64 0), (.int .i64 0)], none⟩,
       ⟨none, .store 2 (.t 7) (.t 13), none⟩]) <|
    .seq
    (.region [⟨(some 14), .load true 2 (.t 7), none⟩,
       ⟨(some 15), .mov (.t 1), none⟩,
       ⟨(some 16), .call (.f 16) [(.t 14), (.t 15)], none⟩]) <|
    .cond (.t 16)
     (.region [⟨(some 17), .mov (.t 5), none⟩,
        ⟨(some 18), .bin .add (.t 17) (.c (.int .i64 1)), none⟩,
        ⟨(some 5), .mov (.t 18), none⟩])
     (.skip)) <|
   .region [⟨(some 19), .bin .add (.t 10) (.c (.int .i64 1)), none⟩,
     ⟨(some 10), .mov (.t 19), none⟩]) <|
 .seq
 (.region [⟨(some 20), .mov (.t 5), none⟩,
    ⟨(some 4), .mov (.t 20), none⟩]) <|
 .ret, [.slot 4]⟩
theorem c9 : Code1 Try.prog 9 21 b9 := Code1.mk' Try.func9 (by kernel_rfl) (by kernel_rfl) Try.ntmps9

/-- fusee/fuseelaw44.count -/
def b10 : IFn := ⟨
 .seq
 (.region [⟨(some 4), .mov (.c (.int .i64 0)), none⟩]) <|
 .seq
 (.region [⟨(some 5), .mov (.c (.int .i64 0)), none⟩]) <|
 .seq
 (.seq
  (.region [⟨(some 8), .mov (.t 0), none⟩,
     ⟨(some 9), .len .sl (.t 8), none⟩,
     ⟨(some 10), .mov (.c (.int .i64 0)), none⟩]) <|
  .block 0 <|
  .loop [1, 5, 8, 9, 10] <|
   .seq
   (.region [⟨(some 11), .bin .lss (.t 10) (.t 9), none⟩]) <|
   .seq
   (.cond (.t 11)
     (.skip)
     (.exit 0)) <|
   .seq
   (.block 1 <|
    .seq
    (.region [⟨(some 12), .iaddr 2 (.t 8) (.t 10), none⟩,
       ⟨(some 13), .load true 2 (.t 12), none⟩,
       ⟨(some 7), .alloc [(.int .i64 0), (.int .i64 0)], none⟩,
       ⟨none, .store 2 (.t 7) (.t 13), none⟩]) <|
    .seq
    (.region [⟨(some 14), .load true 2 (.t 7), none⟩,
       ⟨(some 15), .call (.f 11) [(.t 14)], none⟩,
       ⟨(some 16), .mov (.t 15), none⟩,
       ⟨(some 17), .mov (.t 1), (some (16, true))⟩,
       ⟨(some 18), .faddr 0 (.t 7), (some (16, true))⟩,
       ⟨(some 19), .load false 1 (.t 18), (some (16, true))⟩,
       ⟨(some 20), .bin .geq (.t 17) (.t 19), (some (16, true))⟩,
       ⟨(some 21), .pick (.t 16) (.t 20) (.c (.bool false)), none⟩,
       ⟨(some 22), .mov (.t 21), none⟩,
       ⟨(some 23), .mov (.t 1), (some (22, true))⟩,
       ⟨(some 24), .faddr 1 (.t 7), (some (22, true))⟩,
       ⟨(some 25), .load false 1 (.t 24), (some (22, true))⟩,
       ⟨(some 26), .bin .leq (.t 23) (.t 25), (some (22, true))⟩,
       ⟨(some 27), .pick (.t 22) (.t 26) (.c (.bool false)), none⟩]) <|
    .cond (.t 27)
     (.region [⟨(some 28), .mov (.t 5), none⟩,
        ⟨(some 29), .bin .add (.t 28) (.c (.int .i64 1)), none⟩,
        ⟨(some 5), .mov (.t 29), none⟩])
     (.skip)) <|
   .region [⟨(some 30), .bin .add (.t 10) (.c (.int .i64 1)), none⟩,
     ⟨(some 10), .mov (.t 30), none⟩]) <|
 .seq
 (.region [⟨(some 31), .mov (.t 5), none⟩,
    ⟨(some 4), .mov (.t 31), none⟩]) <|
 .ret, [.slot 4]⟩
theorem c10 : Code1 Try.prog 10 32 b10 := Code1.mk' Try.func10 (by kernel_rfl) (by kernel_rfl) Try.ntmps10

/-- fusee/fuseelaw44.right -/
def b11 : IFn := ⟨
 .seq
 (.region [⟨(some 1), .box (.t 0), none⟩,
    ⟨(some 2), .mov (.c (.bool false)), none⟩]) <|
 .seq
 (.region [⟨(some 3), .faddr 0 (.t 1), none⟩,
    ⟨(some 4), .load false 1 (.t 3), none⟩,
    ⟨(some 5), .bin .geq (.t 4) (.c (.int .i64 (-1152921504606846976))), none⟩,
    ⟨(some 6), .mov (.t 5), none⟩,
    ⟨(some 7), .faddr 1 (.t 1), (some (6, true))⟩,
    ⟨(some 8), .load false 1 (.t 7), (some (6, true))⟩,
    ⟨(some 9), .bin .leq (.t 8) (.c (.int .i64 1152921504606846976)), (some (6, true))⟩,
    ⟨(some 10), .pick (.t 6) (.t 9) (.c (.bool false)), none⟩,
    ⟨(some 11), .mov (.t 10), none⟩,
    ⟨(some 12), .faddr 0 (.t 1), (some (11, true))⟩,
    ⟨(some 13), .load false 1 (.t 12), (some (11, true))⟩,
    ⟨(some 14), .faddr 1 (.t 1), (some (11, true))⟩,
    ⟨(some 15), .load false 1 (.t 14), (some (11, true))⟩,
    ⟨(some 16), .bin .leq (.t 13) (.t 15), (some (11, true))⟩,
    ⟨(some 17), .pick (.t 11) (.t 16) (.c (.bool false)), none⟩,
    ⟨(some 2), .mov (.t 17), none⟩]) <|
 .ret, [.slot 2]⟩
theorem c11 : Code1 Try.prog 11 18 b11 := Code1.mk' Try.func11 (by kernel_rfl) (by kernel_rfl) Try.ntmps11

/-- fusee/marzullo.Liars -/
def b12 : IFn := ⟨
 .seq
 (.region [⟨(some 2), .mov (.c (.sl none 0 (some 0))), none⟩,
    ⟨(some 3), .mov (.c (.bool false)), none⟩]) <|
 .seq
 (.region [⟨(some 10), .mov (.t 0), none⟩,
    ⟨(some 11), .call (.f 8) [(.t 10)], none⟩,
    ⟨(some 9), .mov (.t 11), none⟩,
    ⟨(some 12), .extract (.t 9) 0, none⟩,
    ⟨(some 13), .extract (.t 9) 1, none⟩,
    ⟨(some 4), .alloc [(.int .i64 0), (.int .i64 0), (.int .i64 0)], none⟩,
    ⟨none, .store 3 (.t 4) (.t 12), none⟩,
    ⟨(some 5), .mov (.t 13), none⟩]) <|
 .seq
 (.seq
  (.draw true [0, 4, 23] (
     .op ⟨(some 14), .mov (.t 5), none⟩ <|
     .op ⟨(some 15), .un .not (.t 14), none⟩ <|
     .op ⟨(some 16), .mov (.t 15), none⟩ <|
     .op ⟨(some 17), .faddr 2 (.t 4), (some (16, false))⟩ <|
     .op ⟨(some 20), .mov (.t 0), (some (16, false))⟩ <|
     .alt (.op ⟨(some 18), .load false 1 (.t 17), (some (16, false))⟩ <|
      .op ⟨(some 19), .bin .mul (.c (.int .i64 2)) (.t 18), (some (16, false))⟩ <|
      .op ⟨(some 21), .call (.f 17) [(.t 20)], (some (16, false))⟩ <|
      .op ⟨(some 22), .bin .leq (.t 19) (.t 21), (some (16, false))⟩ <|
      .op ⟨(some 23), .pick (.t 16) (.c (.bool true)) (.t 22), none⟩ <|
      .done) <|
     .op ⟨(some 21), .call (.f 17) [(.t 20)], (some (16, false))⟩ <|
     .op ⟨(some 18), .load false 1 (.t 17), (some (16, false))⟩ <|
     .op ⟨(some 19), .bin .mul (.c (.int .i64 2)) (.t 18), (some (16, false))⟩ <|
     .op ⟨(some 22), .bin .leq (.t 19) (.t 21), (some (16, false))⟩ <|
     .op ⟨(some 23), .pick (.t 16) (.c (.bool true)) (.t 22), none⟩ <|
     .done)) <|
  .cond (.t 23)
   (.seq
    (.region [⟨(some 2), .mov (.c (.sl none 0 (some 0))), none⟩,
       ⟨(some 3), .mov (.c (.bool false)), none⟩]) <|
    .ret)
   (.skip)) <|
 .seq
 (.region [⟨(some 6), .mov (.c (.sl none 0 (some 0))), none⟩]) <|
 .seq
 (.seq
  (.region [⟨(some 24), .mov (.t 0), none⟩,
     ⟨(some 25), .len .sl (.t 24), none⟩,
     ⟨(some 26), .mov (.c (.int .i64 0)), none⟩]) <|
  .block 0 <|
  .loop [4, 6, 24, 25, 26] <|
   .seq
   (.region [⟨(some 27), .bin .lss (.t 26) (.t 25), none⟩]) <|
   .seq
   (.cond (.t 27)
     (.skip)
     (.exit 0)) <|
   .seq
   (.block 1 <|
    .seq
    (.region [⟨(some 28), .mov (.t 26), none⟩,
       ⟨(some 29), .iaddr 2 (.t 24) (.t 26), none⟩,
       ⟨(some 30), .load true 2 (.t 29), none⟩,
       ⟨(some 8), .alloc [(.int .i64 0), (.int .i64 0)], none⟩,
       ⟨(some 7), .mov (.t 28), none⟩,
       ⟨none, .store 2 (.t 8) (.t 30), none⟩]) <|
    .seq
    (.region [⟨(some 31), .load true 2 (.t 8), none⟩,
       ⟨(some 32), .call (.f 18) [(.t 31)], none⟩,
       ⟨(some 33), .mov (.t 32), none⟩,
       ⟨(some 34), .load true 2 (.t 8), (some (33, true))⟩,
       ⟨(some 35), .faddr 0 (.t 4), (some (33, true))⟩,
       ⟨(some 36), .load false 1 (.t 35), (some (33, true))⟩,
       ⟨(some 37), .call (.f 16) [(.t 34), (.t 36)], (some (33, true))⟩,
       ⟨(some 38), .mov (.t 37), (some (33, true))⟩,
       ⟨(some 39), .load true 2 (.t 8), (some (38, true))⟩,
       ⟨(some 40), .faddr 1 (.t 4), (some (38, true))⟩,
       ⟨(some 41), .load false 1 (.t 40), (some (38, true))⟩,
       ⟨(some 42), .call (.f 16) [(.t 39), (.t 41)], (some (38, true))⟩,
       ⟨(some 43), .pick (.t 38) (.t 42) (.c (.bool false)), (some (33, true))⟩,
       ⟨(some 44), .un .not (.t 43), (some (33, true))⟩,
       ⟨(some 45), .pick (.t 33) (.t 44) (.c (.bool false)), none⟩]) <|
    .cond (.t 45)
     (.region [⟨(some 46), .mov (.t 6), none⟩,
        ⟨(some 47), .mov (.t 7), none⟩,
        ⟨(some 48), .buildSl 1 [(.int .i64 0)] [(0, 1, (.t 47))], none⟩,
        ⟨(some 49), .app 1 8 (.t 46) (.t 48), none⟩,
        ⟨(some 6), .mov (.t 49), none⟩])
     (.skip)) <|
   .region [⟨(some 50), .bin .add (.t 26) (.c (.int .i64 1)), none⟩,
     ⟨(some 26), .mov (.t 50), none⟩]) <|
 .seq
 (.region [⟨(some 51), .mov (.t 6), none⟩,
    ⟨(some 2), .mov (.t 51), none⟩,
    ⟨(some 3), .mov (.c (.bool true)), none⟩]) <|
 .ret, [.slot 2, .slot 3]⟩
theorem c12 : Code1 Try.prog 12 52 b12 := Code1.mk' Try.func12 (by kernel_rfl) (by kernel_rfl) Try.ntmps12

/-- fusee/marzullo.Middle -/
def b13 : IFn := ⟨
 .seq
 (.region [⟨(some 2), .mov (.c (.int .i64 0)), none⟩,
    ⟨(some 3), .mov (.c (.bool false)), none⟩]) <|
 .seq
 (.seq
  (.region [⟨(some 9), .mov (.t 0), none⟩,
     ⟨(some 10), .call (.f 12) [(.t 9)], none⟩,
     ⟨(some 8), .mov (.t 10), none⟩,
     ⟨(some 11), .extract (.t 8) 0, none⟩,
     ⟨(some 12), .extract (.t 8) 1, none⟩,
     ⟨(some 4), .mov (.t 11), none⟩,
     ⟨(some 5), .mov (.t 12), none⟩]) <|
  .seq
  (.region [⟨(some 13), .mov (.t 5), none⟩,
     ⟨(some 14), .un .not (.t 13), none⟩]) <|
  .cond (.t 14)
   (.seq
    (.region [⟨(some 2), .mov (.c (.int .i64 0)), none⟩,
       ⟨(some 3), .mov (.c (.bool false)), none⟩]) <|
    .ret)
   (.skip)) <|
 .seq
 (.region [⟨(some 16), .mov (.t 0), none⟩,
    ⟨(some 17), .call (.f 8) [(.t 16)], none⟩,
    ⟨(some 15), .mov (.t 17), none⟩,
    ⟨(some 18), .extract (.t 15) 0, none⟩,
    ⟨(some 19), .extract (.t 15) 1, none⟩,
    ⟨(some 6), .alloc [(.int .i64 0), (.int .i64 0), (.int .i64 0)], none⟩,
    ⟨none, .store 3 (.t 6) (.t 18), none⟩,
    ⟨(some 7), .mov (.t 19), none⟩]) <|
 .seq
 (.region [⟨(some 20), .faddr 0 (.t 6), none⟩,
    ⟨(some 21), .load false 1 (.t 20), none⟩,
    ⟨(some 22), .faddr 1 (.t 6), none⟩,
    ⟨(some 23), .load false 1 (.t 22), none⟩,
    ⟨(some 24), .faddr 0 (.t 6), none⟩,
    ⟨(some 25), .load false 1 (.t 24), none⟩,
    ⟨(some 26), .bin .sub (.t 23) (.t 25), none⟩,
    ⟨(some 27), .bin .quo (.t 26) (.c (.int .i64 2)), none⟩,
    ⟨(some 28), .bin .add (.t 21) (.t 27), none⟩,
    ⟨(some 2), .mov (.t 28), none⟩,
    ⟨(some 3), .mov (.c (.bool true)), none⟩]) <|
 .ret, [.slot 2, .slot 3]⟩
theorem c13 : Code1 Try.prog 13 29 b13 := Code1.mk' Try.func13 (by kernel_rfl) (by kernel_rfl) Try.ntmps13

/-- fusee/marzullo.Around -/
def b14 : IFn := ⟨
 .seq
 (.region [⟨(some 6), .alloc [(.int .i64 0), (.int .i64 0)], none⟩,
    ⟨(some 7), .mov (.c (.bool false)), none⟩]) <|
 .seq
 (.seq
  (.region [⟨(some 9), .mov (.t 1), none⟩,
     ⟨(some 10), .mov (.t 2), none⟩,
     ⟨(some 11), .min [(.t 9), (.t 10)], none⟩,
     ⟨(some 12), .bin .lss (.t 11) (.c (.int .i64 0)), none⟩,
     ⟨(some 13), .mov (.t 12), none⟩,
     ⟨(some 14), .mov (.t 1), (some (13, false))⟩,
     ⟨(some 15), .mov (.t 2), (some (13, false))⟩,
     ⟨(some 16), .max [(.t 14), (.t 15)], (some (13, false))⟩,
     ⟨(some 17), .bin .gtr (.t 16) (.c (.int .i64 1125899906842624)), (some (13, false))⟩,
     ⟨(some 18), .pick (.t 13) (.c (.bool true)) (.t 17), none⟩,
     ⟨(some 19), .mov (.t 18), none⟩,
     ⟨(some 20), .mov (.t 0), (some (19, false))⟩,
     ⟨(some 21), .bin .lss (.t 20) (.c (.int .i64 (-1125899906842624))), (some (19, false))⟩,
     ⟨(some 22), .pick (.t 19) (.c (.bool true)) (.t 21), none⟩,
     ⟨(some 23), .mov (.t 22), none⟩,
     ⟨(some 24), .mov (.t 0), (some (23, false))⟩,
     ⟨(some 25), .bin .gtr (.t 24) (.c (.int .i64 1125899906842624)), (some (23, false))⟩,
     ⟨(some 26), .pick (.t 23) (.c (.bool true)) (.t 25), none⟩]) <|
  .cond (.t 26)
   (.seq
    (.region [⟨(some 27), .build [(.int .i64 0), (.int .i64 0)] [], none⟩,
       ⟨none, .store 2 (.t 6) (.t 27), none⟩,
       ⟨(some 7), .mov (.c (.bool false)), none⟩]) <|
    .ret)
   (.skip)) <|
 .seq
 (.region [⟨(some 28), .mov (.t 1), none⟩,
    ⟨(some 29), .bin .add (.t 28) (.c (.int .i64 1)), none⟩,
    ⟨(some 30), .bin .quo (.t 29) (.c (.int .i64 2)), none⟩,
    ⟨(some 31), .mov (.t 2), none⟩,
    ⟨(some 32), .bin .add (.t 30) (.t 31), none⟩,
    ⟨(some 8), .mov (.t 32), none⟩]) <|
 .seq
 (.region [⟨(some 33), .mov (.t 0), none⟩,
    ⟨(some 34), .mov (.t 8), none⟩,
    ⟨(some 35), .bin .sub (.t 33) (.t 34), none⟩,
    ⟨(some 36), .mov (.t 0), none⟩,
    ⟨(some 37), .mov (.t 8), none⟩,
    ⟨(some 38), .bin .add (.t 36) (.t 37), none⟩,
    ⟨(some 39), .build [(.int .i64 0), (.int .i64 0)] [(0, 1, (.t 35)), (1, 1, (.t 38))], none⟩,
    ⟨none, .store 2 (.t 6) (.t 39), none⟩,
    ⟨(some 7), .mov (.c (.bool true)), none⟩]) <|
 .ret, [.cell 6 true 2, .slot 7]⟩
theorem c14 : Code1 Try.prog 14 40 b14 := Code1.mk' Try.func14 (by kernel_rfl) (by kernel_rfl) Try.ntmps14

/-- fusee/marzullo.edges -/
def b15 : IFn := ⟨
 .seq
 (.region [⟨(some 2), .mov (.c (.sl none 0 (some 0))), none⟩]) <|
 .seq
 (.region [⟨(some 3), .mov (.c (.sl none 0 (some 0))), none⟩]) <|
 .seq
 (.seq
  (.region [⟨(some 6), .mov (.t 0), none⟩,
     ⟨(some 7), .len .sl (.t 6), none⟩,
     ⟨(some 8), .mov (.c (.int .i64 0)), none⟩]) <|
  .block 0 <|
  .loop [3, 6, 7, 8] <|
   .seq
   (.region [⟨(some 9), .bin .lss (.t 8) (.t 7), none⟩]) <|
   .seq
   (.cond (.t 9)
     (.skip)
     (.exit 0)) <|
   .seq
   (.block 1 <|
    .seq
    (.region [⟨(some 10), .iaddr 2 (.t 6) (.t 8), none⟩,
       ⟨(some 11), .load true 2 (.t 10), none⟩,
       ⟨(some 5), .alloc [(.int .i64 0), (.int .i64 0)], none⟩,
       ⟨none, .store 2 (.t 5) (.t 11), none⟩]) <|
    .seq
    (.region [⟨(some 12), .load true 2 (.t 5), none⟩,
       ⟨(some 13), .call (.f 18) [(.t 12)], none⟩]) <|
    .cond (.t 13)
     (.region [⟨(some 14), .mov (.t 3), none⟩,
        ⟨(some 15), .faddr 0 (.t 5), none⟩,
        ⟨(some 16), .load false 1 (.t 15), none⟩,
        ⟨(some 17), .build [(.int .i64 0), (.int .i64 0)] [(0, 1, (.t 16)), (1, 1, (.c (.int .i64 1)))], none⟩,
        ⟨(some 18), .faddr 1 (.t 5), none⟩,
        ⟨(some 19), .load false 1 (.t 18), none⟩,
        ⟨(some 20), .build [(.int .i64 0), (.int .i64 0)] [(0, 1, (.t 19)), (1, 1, (.c (.int .i64 (-1))))], none⟩,
        ⟨(some 21), .buildSl 2 [(.int .i64 0), (.int .i64 0), (.int .i64 0), (.int .i64 0)] [(0, 2, (.t 17)), (2, 2, (.t 20))], none⟩,
        ⟨(some 22), .app 2 16 (.t 14) (.t 21), none⟩,
        ⟨(some 3), .mov (.t 22), none⟩])
     (.skip)) <|
   .region [⟨(some 23), .bin .add (.t 8) (.c (.int .i64 1)), none⟩,
     ⟨(some 8), .mov (.t 23), none⟩]) <|
 .seq
 (.region [⟨(some 24), .mov (.t 3), none⟩,
    ⟨(some 25), .call (.f 19) [(.t 24), (.f 20)], none⟩]) <|
 .seq
 (.region [⟨(some 26), .mov (.t 3), none⟩,
    ⟨(some 2), .mov (.t 26), none⟩]) <|
 .ret, [.slot 2]⟩
theorem c15 : Code1 Try.prog 15 27 b15 := Code1.mk' Try.func15 (by kernel_rfl) (by kernel_rfl) Try.ntmps15

/-- fusee/marzullo.Source.has -/
def b16 : IFn := ⟨
 .seq
 (.region [⟨(some 2), .box (.t 0), none⟩,
    ⟨(some 4), .mov (.c (.bool false)), none⟩]) <|
 .seq
 (.region [⟨(some 5), .load true 2 (.t 2), none⟩,
    ⟨(some 6), .call (.f 18) [(.t 5)], none⟩,
    ⟨(some 7), .mov (.t 6), none⟩,
    ⟨(some 8), .faddr 0 (.t 2), (some (7, true))⟩,
    ⟨(some 9), .load false 1 (.t 8), (some (7, true))⟩,
    ⟨(some 10), .mov (.t 1), (some (7, true))⟩,
    ⟨(some 11), .bin .leq (.t 9) (.t 10), (some (7, true))⟩,
    ⟨(some 12), .pick (.t 7) (.t 11) (.c (.bool false)), none⟩,
    ⟨(some 13), .mov (.t 12), none⟩,
    ⟨(some 14), .mov (.t 1), (some (13, true))⟩,
    ⟨(some 15), .faddr 1 (.t 2), (some (13, true))⟩,
    ⟨(some 16), .load false 1 (.t 15), (some (13, true))⟩,
    ⟨(some 17), .bin .leq (.t 14) (.t 16), (some (13, true))⟩,
    ⟨(some 18), .pick (.t 13) (.t 17) (.c (.bool false)), none⟩,
    ⟨(some 4), .mov (.t 18), none⟩]) <|
 .ret, [.slot 4]⟩
theorem c16 : Code1 Try.prog 16 19 b16 := Code1.mk' Try.func16 (by kernel_rfl) (by kernel_rfl) Try.ntmps16

/-- fusee/marzullo.rights -/
def b17 : IFn := ⟨
 .seq
 (.region [⟨(some 2), .mov (.c (.int .i64 0)), none⟩]) <|
 .seq
 (.region [⟨(some 3), .mov (.c (.int .i64 0)), none⟩]) <|
 .seq
 (.seq
  (.region [⟨(some 6), .mov (.t 0), none⟩,
     ⟨(some 7), .len .sl (.t 6), none⟩,
     ⟨(some 8), .mov (.c (.int .i64 0)), none⟩]) <|
  .block 0 <|
  .loop [3, 6, 7, 8] <|
   .seq
   (.region [⟨(some 9), .bin .lss (.t 8) (.t 7), none⟩]) <|
   .seq
   (.cond (.t 9)
     (.skip)
     (.exit 0)) <|
   .seq
   (.block 1 <|
    .seq
    (.region [⟨(some 10), .iaddr 2 (.t 6) (.t 8), none⟩,
       ⟨(some 11), .load true 2 (.t 10), none⟩,
       ⟨(some 5), .alloc [(.int .i64 0), (.int .i64 0)], none⟩,
       ⟨none, .store 2 (.t 5) (.t 11), none⟩]) <|
    .seq
    (.region [⟨(some 12), .load true 2 (.t 5), none⟩,
       ⟨(some 13), .call (.f 18) [(.t 12)], none⟩]) <|
    .cond (.t 13)
     (.region [⟨(some 14), .mov (.t 3), none⟩,
        ⟨(some 15), .bin .add (.t 14) (.c (.int .i64 1)), none⟩,
        ⟨(some 3), .mov (.t 15), none⟩])
     (.skip)) <|
   .region [⟨(some 16), .bin .add (.t 8) (.c (.int .i64 1)), none⟩,
     ⟨(some 8), .mov (.t 16), none⟩]) <|
 .seq
 (.region [⟨(some 17), .mov (.t 3), none⟩,
    ⟨(some 2), .mov (.t 17), none⟩]) <|
 .ret, [.slot 2]⟩
theorem c17 : Code1 Try.prog 17 18 b17 := Code1.mk' Try.func17 (by kernel_rfl) (by kernel_rfl) Try.ntmps17

/-- fusee/marzullo.Source.right -/
def b18 : IFn := ⟨
 .seq
 (.region [⟨(some 1), .box (.t 0), none⟩,
    ⟨(some 2), .mov (.c (.bool false)), none⟩]) <|
 .seq
 (.region [⟨(some 3), .faddr 0 (.t 1), none⟩,
    ⟨(some 4), .load false 1 (.t 3), none⟩,
    ⟨(some 5), .bin .geq (.t 4) (.c (.int .i64 (-1152921504606846976))), none⟩,
    ⟨(some 6), .mov (.t 5), none⟩,
    ⟨(some 7), .faddr 1 (.t 1), (some (6, true))⟩,
    ⟨(some 8), .load false 1 (.t 7), (some (6, true))⟩,
    ⟨(some 9), .bin .leq (.t 8) (.c (.int .i64 1152921504606846976)), (some (6, true))⟩,
    ⟨(some 10), .pick (.t 6) (.t 9) (.c (.bool false)), none⟩,
    ⟨(some 11), .mov (.t 10), none⟩,
    ⟨(some 12), .faddr 0 (.t 1), (some (11, true))⟩,
    ⟨(some 13), .load false 1 (.t 12), (some (11, true))⟩,
    ⟨(some 14), .faddr 1 (.t 1), (some (11, true))⟩,
    ⟨(some 15), .load false 1 (.t 14), (some (11, true))⟩,
    ⟨(some 16), .bin .leq (.t 13) (.t 15), (some (11, true))⟩,
    ⟨(some 17), .pick (.t 11) (.t 16) (.c (.bool false)), none⟩,
    ⟨(some 2), .mov (.t 17), none⟩]) <|
 .ret, [.slot 2]⟩
theorem c18 : Code1 Try.prog 18 18 b18 := Code1.mk' Try.func18 (by kernel_rfl) (by kernel_rfl) Try.ntmps18

/-- slices.SortFunc[[]fusee/marzullo.edge,fusee/marzullo.edge] -/
def b19 : IFn := ⟨
 .seq
 (.region [⟨(some 5), .mov (.t 0), none⟩,
    ⟨(some 6), .len .sl (.t 5), none⟩,
    ⟨(some 4), .mov (.t 6), none⟩]) <|
 .region [⟨(some 7), .mov (.t 0), none⟩,
   ⟨(some 8), .mov (.t 4), none⟩,
   ⟨(some 9), .mov (.t 4), none⟩,
   ⟨(some 10), .conv .u64 (.t 9), none⟩,
   ⟨(some 11), .call (.f 24) [(.t 10)], none⟩,
   ⟨(some 12), .mov (.t 1), none⟩,
   ⟨(some 13), .call (.f 23) [(.t 7), (.c (.int .i64 0)), (.t 8), (.t 11), (.t 12)], none⟩], []⟩
theorem c19 : Code1 Try.prog 19 14 b19 := Code1.mk' Try.func19 (by kernel_rfl) (by kernel_rfl) Try.ntmps19

/-- fusee/marzullo.edges$1 -/
def b20 : IFn := ⟨
 .seq
 (.region [⟨(some 2), .box (.t 0), none⟩,
    ⟨(some 3), .box (.t 1), none⟩,
    ⟨(some 4), .mov (.c (.int .i64 0)), none⟩]) <|
 .seq
 (.draw true [4] (
    .op ⟨(some 5), .faddr 0 (.t 2), none⟩ <|
    .op ⟨(some 6), .load false 1 (.t 5), none⟩ <|
    .op ⟨(some 7), .faddr 0 (.t 3), none⟩ <|
    .op ⟨(some 8), .load false 1 (.t 7), none⟩ <|
    .op ⟨(some 10), .faddr 1 (.t 3), none⟩ <|
    .op ⟨(some 12), .faddr 1 (.t 2), none⟩ <|
    .alt (.alt (.op ⟨(some 9), .call (.f 22) [(.t 6), (.t 8)], none⟩ <|
      .op ⟨(some 11), .load false 1 (.t 10), none⟩ <|
      .op ⟨(some 13), .load false 1 (.t 12), none⟩ <|
      .op ⟨(some 14), .call (.f 22) [(.t 11), (.t 13)], none⟩ <|
      .op ⟨(some 15), .buildSl 1 [(.int .i64 0), (.int .i64 0)] [(0, 1, (.t 9)), (1, 1, (.t 14))], none⟩ <|
      .op ⟨(some 16), .call (.f 21) [(.t 15)], none⟩ <|
      .op ⟨(some 4), .mov (.t 16), none⟩ <|
      .done) <|
     .op ⟨(some 11), .load false 1 (.t 10), none⟩ <|
     .alt (.op ⟨(some 9), .call (.f 22) [(.t 6), (.t 8)], none⟩ <|
      .op ⟨(some 13), .load false 1 (.t 12), none⟩ <|
      .op ⟨(some 14), .call (.f 22) [(.t 11), (.t 13)], none⟩ <|
      .op ⟨(some 15), .buildSl 1 [(.int .i64 0), (.int .i64 0)] [(0, 1, (.t 9)), (1, 1, (.t 14))], none⟩ <|
      .op ⟨(some 16), .call (.f 21) [(.t 15)], none⟩ <|
      .op ⟨(some 4), .mov (.t 16), none⟩ <|
      .done) <|
     .op ⟨(some 13), .load false 1 (.t 12), none⟩ <|
     .op ⟨(some 9), .call (.f 22) [(.t 6), (.t 8)], none⟩ <|
     .op ⟨(some 14), .call (.f 22) [(.t 11), (.t 13)], none⟩ <|
     .op ⟨(some 15), .buildSl 1 [(.int .i64 0), (.int .i64 0)] [(0, 1, (.t 9)), (1, 1, (.t 14))], none⟩ <|
     .op ⟨(some 16), .call (.f 21) [(.t 15)], none⟩ <|
     .op ⟨(some 4), .mov (.t 16), none⟩ <|
     .done) <|
    .op ⟨(some 13), .load false 1 (.t 12), none⟩ <|
    .alt (.op ⟨(some 9), .call (.f 22) [(.t 6), (.t 8)], none⟩ <|
     .op ⟨(some 11), .load false 1 (.t 10), none⟩ <|
     .op ⟨(some 14), .call (.f 22) [(.t 11), (.t 13)], none⟩ <|
     .op ⟨(some 15), .buildSl 1 [(.int .i64 0), (.int .i64 0)] [(0, 1, (.t 9)), (1, 1, (.t 14))], none⟩ <|
     .op ⟨(some 16), .call (.f 21) [(.t 15)], none⟩ <|
     .op ⟨(some 4), .mov (.t 16), none⟩ <|
     .done) <|
    .op ⟨(some 11), .load false 1 (.t 10), none⟩ <|
    .op ⟨(some 9), .call (.f 22) [(.t 6), (.t 8)], none⟩ <|
    .op ⟨(some 14), .call (.f 22) [(.t 11), (.t 13)], none⟩ <|
    .op ⟨(some 15), .buildSl 1 [(.int .i64 0), (.int .i64 0)] [(0, 1, (.t 9)), (1, 1, (.t 14))], none⟩ <|
    .op ⟨(some 16), .call (.f 21) [(.t 15)], none⟩ <|
    .op ⟨(some 4), .mov (.t 16), none⟩ <|
    .done)) <|
 .ret, [.slot 4]⟩
theorem c20 : Code1 Try.prog 20 17 b20 := Code1.mk' Try.func20 (by kernel_rfl) (by kernel_rfl) Try.ntmps20

/-- cmp.Or[int] -/
def b21 : IFn := ⟨
 .seq
 (.region [⟨(some 2), .mov (.c (.int .i64 0)), none⟩]) <|
 .seq
 (.region [⟨(some 3), .mov (.c (.int .i64 0)), none⟩]) <|
 .seq
 (.seq
  (.region [⟨(some 6), .mov (.t 0), none⟩,
     ⟨(some 7), .len .sl (.t 6), none⟩,
     ⟨(some 8), .mov (.c (.int .i64 0)), none⟩]) <|
  .block 0 <|
  .loop [3, 6, 7, 8] <|
   .seq
   (.region [⟨(some 9), .bin .lss (.t 8) (.t 7), none⟩]) <|
   .seq
   (.cond (.t 9)
     (.skip)
     (.exit 0)) <|
   .seq
   (.block 1 <|
    .seq
    (.region [⟨(some 10), .iaddr 1 (.t 6) (.t 8), none⟩,
       ⟨(some 11), .load false 1 (.t 10), none⟩,
       ⟨(some 5), .mov (.t 11), none⟩]) <|
    .seq
    (.region [⟨(some 12), .mov (.t 5), none⟩,
       ⟨(some 13), .mov (.t 3), none⟩,
       ⟨(some 14), .bin .neq (.t 12) (.t 13), none⟩]) <|
    .cond (.t 14)
     (.seq
      (.region [⟨(some 15), .mov (.t 5), none⟩,
         ⟨(some 2), .mov (.t 15), none⟩]) <|
      .ret)
     (.skip)) <|
   .region [⟨(some 16), .bin .add (.t 8) (.c (.int .i64 1)), none⟩,
     ⟨(some 8), .mov (.t 16), none⟩]) <|
 .seq
 (.region [⟨(some 17), .mov (.t 3), none⟩,
    ⟨(some 2), .mov (.t 17), none⟩]) <|
 .ret, [.slot 2]⟩
theorem c21 : Code1 Try.prog 21 18 b21 := Code1.mk' Try.func21 (by kernel_rfl) (by kernel_rfl) Try.ntmps21

/-- cmp.Compare[int] -/
def b22 : IFn := ⟨
 .seq
 (.region [⟨(some 4), .mov (.c (.int .i64 0)), none⟩]) <|
 .seq
 (.region [⟨(some 7), .mov (.t 0), none⟩,
    ⟨(some 8), .call (.f 25) [(.t 7)], none⟩,
    ⟨(some 5), .mov (.t 8), none⟩]) <|
 .seq
 (.region [⟨(some 9), .mov (.t 1), none⟩,
    ⟨(some 10), .call (.f 25) [(.t 9)], none⟩,
    ⟨(some 6), .mov (.t 10), none⟩]) <|
 .seq
 (.seq
  (.region [⟨(some 11), .mov (.t 5), none⟩]) <|
  .cond (.t 11)
   (.seq
    (.seq
     (.region [⟨(some 12), .mov (.t 6), none⟩]) <|
     .cond (.t 12)
      (.seq
       (.region [⟨(some 4), .mov (.c (.int .i64 0)), none⟩]) <|
       .ret)
      (.skip)) <|
    .seq
    (.region [⟨(some 4), .mov (.c (.int .i64 (-1))), none⟩]) <|
    .ret)
   (.skip)) <|
 .seq
 (.seq
  (.region [⟨(some 13), .mov (.t 6), none⟩]) <|
  .cond (.t 13)
   (.seq
    (.region [⟨(some 4), .mov (.c (.int .i64 1)), none⟩]) <|
    .ret)
   (.skip)) <|
 .seq
 (.seq
  (.region [⟨(some 14), .mov (.t 0), none⟩,
     ⟨(some 15), .mov (.t 1), none⟩,
     ⟨(some 16), .bin .lss (.t 14) (.t 15), none⟩]) <|
  .cond (.t 16)
   (.seq
    (.region [⟨(some 4), .mov (.c (.int .i64 (-1))), none⟩]) <|
    .ret)
   (.skip)) <|
 .seq
 (.seq
  (.region [⟨(some 17), .mov (.t 0), none⟩,
     ⟨(some 18), .mov (.t 1), none⟩,
     ⟨(some 19), .bin .gtr (.t 17) (.t 18), none⟩]) <|
  .cond (.t 19)
   (.seq
    (.region [⟨(some 4), .mov (.c (.int .i64 1)), none⟩]) <|
    .ret)
   (.skip)) <|
 .seq
 (.region [⟨(some 4), .mov (.c (.int .i64 0)), none⟩]) <|
 .ret, [.slot 4]⟩
theorem c22 : Code1 Try.prog 22 20 b22 := Code1.mk' Try.func22 (by kernel_rfl) (by kernel_rfl) Try.ntmps22

/-- slices.pdqsortCmpFunc[fusee/marzullo.edge] -/
def b23 : IFn := ⟨
 .seq
 (.region [⟨(some 10), .mov (.c (.bool true)), none⟩]) <|
 .seq
 (.region [⟨(some 11), .mov (.c (.bool true)), none⟩]) <|
 .block 0 <|
 .loop [0, 1, 2, 3, 4, 10, 11] <|
  .block 1 <|
  .seq
  (.region [⟨(some 21), .mov (.t 2), none⟩,
     ⟨(some 22), .mov (.t 1), none⟩,
     ⟨(some 23), .bin .sub (.t 21) (.t 22), none⟩,
     ⟨(some 12), .mov (.t 23), none⟩]) <|
  .seq
  (.seq
   (.region [⟨(some 24), .mov (.t 12), none⟩,
      ⟨(some 25), .bin .leq (.t 24) (.c (.int .i64 12)), none⟩]) <|
   .cond (.t 25)
    (.seq
     (.region [⟨(some 26), .mov (.t 0), none⟩,
        ⟨(some 27), .mov (.t 1), none⟩,
        ⟨(some 28), .mov (.t 2), none⟩,
        ⟨(some 29), .mov (.t 4), none⟩,
        ⟨(some 30), .call (.f 26) [(.t 26), (.t 27), (.t 28), (.t 29)], none⟩]) <|
     .ret)
    (.skip)) <|
  .seq
  (.seq
   (.region [⟨(some 31), .mov (.t 3), none⟩,
      ⟨(some 32), .bin .eql (.t 31) (.c (.int .i64 0)), none⟩]) <|
   .cond (.t 32)
    (.seq
     (.region [⟨(some 33), .mov (.t 0), none⟩,
        ⟨(some 34), .mov (.t 1), none⟩,
        ⟨(some 35), .mov (.t 2), none⟩,
        ⟨(some 36), .mov (.t 4), none⟩,
        ⟨(some 37), .call (.f 27) [(.t 33), (.t 34), (.t 35), (.t 36)], none⟩]) <|
     .ret)
    (.skip)) <|
  .seq
  (.seq
   (.region [⟨(some 38), .mov (.t 10), none⟩,
      ⟨(some 39), .un .not (.t 38), none⟩]) <|
   .cond (.t 39)
    (.seq
     (.region [⟨(some 40), .mov (.t 0), none⟩,
        ⟨(some 41), .mov (.t 1), none⟩,
        ⟨(some 42), .mov (.t 2), none⟩,
        ⟨(some 43), .mov (.t 4), none⟩,
        ⟨(some 44), .call (.f 28) [(.t 40), (.t 41), (.t 42), (.t 43)], none⟩]) <|
     .region [⟨(some 45), .mov (.t 3), none⟩,
       ⟨(some 46), .bin .sub (.t 45) (.c (.int .i64 1)), none⟩,
       ⟨(some 3), .mov (.t 46), none⟩])
    (.skip)) <|
  .seq
  (.region [⟨(some 48), .mov (.t 0), none⟩,
     ⟨(some 49), .mov (.t 1), none⟩,
     ⟨(some 50), .mov (.t 2), none⟩,
     ⟨(some 51), .mov (.t 4), none⟩,
     ⟨(some 52), .call (.f 29) [(.t 48), (.t 49), (.t 50), (.t 51)], none⟩,
     ⟨(some 47), .mov (.t 52), none⟩,
     ⟨(some 53), .extract (.t 47) 0, none⟩,
     ⟨(some 54), .extract (.t 47) 1, none⟩,
     ⟨(some 13), .mov (.t 53), none⟩,
     ⟨(some 14), .mov (.t 54), none⟩]) <|
  .seq
  (.seq
   (.region [⟨(some 55), .mov (.t 14), none⟩,
      ⟨(some 56), .bin .eql (.t 55) (.c (.int .i64 2)), none⟩]) <|
   .cond (.t 56)
    (.seq
     (.region [⟨(some 57), .mov (.t 0), none⟩,
        ⟨(some 58), .mov (.t 1), none⟩,
        ⟨(some 59), .mov (.t 2), none⟩,
        ⟨(some 60), .mov (.t 4), none⟩,
        ⟨(some 61), .call (.f 30) [(.t 57), (.t 58), (.t 59), (.t 60)], none⟩]) <|
     .seq
     (.region [⟨(some 62), .mov (.t 2), none⟩,
        ⟨(some 63), .bin .sub (.t 62) (.c (.int .i64 1)), none⟩,
        ⟨(some 64), .mov (.t 13), none⟩,
        ⟨(some 65), .mov (.t 1), none⟩,
        ⟨(some 66), .bin .sub (.t 64) (.t 65), none⟩,
        ⟨(some 67), .bin .sub (.t 63) (.t 66), none⟩,
        ⟨(some 13), .mov (.t 67), none⟩]) <|
     .region [⟨(some 14), .mov (.c (.int .i64 1)), none⟩])
    (.skip)) <|
  .seq
  (.seq
   (.region [⟨(some 68), .mov (.t 10), none⟩,
      ⟨(some 69), .mov (.t 68), none⟩,
      ⟨(some 70), .mov (.t 11), (some (69, true))⟩,
      ⟨(some 71), .pick (.t 69) (.t 70) (.c (.bool false)), none⟩,
      ⟨(some 72), .mov (.t 71), none⟩,
      ⟨(some 73), .mov (.t 14), (some (72, true))⟩,
      ⟨(some 74), .bin .eql (.t 73) (.c (.int .i64 1)), (some (72, true))⟩,
      ⟨(some 75), .pick (.t 72) (.t 74) (.c (.bool false)), none⟩]) <|
   .cond (.t 75)
    (.seq
     (.region [⟨(some 76), .mov (.t 0), none⟩,
        ⟨(some 77), .mov (.t 1), none⟩,
        ⟨(some 78), .mov (.t 2), none⟩,
        ⟨(some 79), .mov (.t 4), none⟩,
        ⟨(some 80), .call (.f 31) [(.t 76), (.t 77), (.t 78), (.t 79)], none⟩]) <|
     .cond (.t 80)
      (.ret)
      (.skip))
    (.skip)) <|
  .seq
  (.seq
   (.draw false [0, 1, 2, 3, 4, 10, 11, 12, 13, 97] (
      .op ⟨(some 81), .mov (.t 1), none⟩ <|
      .op ⟨(some 82), .bin .gtr (.t 81) (.c (.int .i64 0)), none⟩ <|
      .op ⟨(some 83), .mov (.t 82), none⟩ <|
      .op ⟨(some 84), .mov (.t 4), (some (83, true))⟩ <|
      .op ⟨(some 85), .mov (.t 0), (some (83, true))⟩ <|
      .op ⟨(some 86), .mov (.t 1), (some (83, true))⟩ <|
      .op ⟨(some 87), .bin .sub (.t 86) (.c (.int .i64 1)), (some (83, true))⟩ <|
      .op ⟨(some 88), .iaddr 2 (.t 85) (.t 87), (some (83, true))⟩ <|
      .op ⟨(some 89), .load true 2 (.t 88), (some (83, true))⟩ <|
      .op ⟨(some 90), .mov (.t 0), (some (83, true))⟩ <|
      .op ⟨(some 91), .mov (.t 13), (some (83, true))⟩ <|
      .op ⟨(some 92), .iaddr 2 (.t 90) (.t 91), (some (83, true))⟩ <|
      .op ⟨(some 93), .load true 2 (.t 92), (some (83, true))⟩ <|
      .op ⟨(some 94), .call (.t 84) [(.t 89), (.t 93)], (some (83, true))⟩ <|
      .op ⟨(some 95), .bin .lss (.t 94) (.c (.int .i64 0)), (some (83, true))⟩ <|
      .op ⟨(some 96), .un .not (.t 95), (some (83, true))⟩ <|
      .op ⟨(some 97), .pick (.t 83) (.t 96) (.c (.bool false)), none⟩ <|
      .done)) <|
   .cond (.t 97)
    (.seq
     (.region [⟨(some 98), .mov (.t 0), none⟩,
        ⟨(some 99), .mov (.t 1), none⟩,
        ⟨(some 100), .mov (.t 2), none⟩,
        ⟨(some 101), .mov (.t 13), none⟩,
        ⟨(some 102), .mov (.t 4), none⟩,
        ⟨(some 103), .call (.f 32) [(.t 98), (.t 99), (.t 100), (.t 101), (.t 102)], none⟩,
        ⟨(some 15), .mov (.t 103), none⟩]) <|
     .seq
     (.region [⟨(some 104), .mov (.t 15), none⟩,
        ⟨(some 1), .mov (.t 104), none⟩]) <|
     .exit 1)
    (.skip)) <|
  .seq
  (.region [⟨(some 106), .mov (.t 0), none⟩,
     ⟨(some 107), .mov (.t 1), none⟩,
     ⟨(some 108), .mov (.t 2), none⟩,
     ⟨(some 109), .mov (.t 13), none⟩,
     ⟨(some 110), .mov (.t 4), none⟩,
     ⟨(some 111), .call (.f 33) [(.t 106), (.t 107), (.t 108), (.t 109), (.t 110)], none⟩,
     ⟨(some 105), .mov (.t 111), none⟩,
     ⟨(some 112), .extract (.t 105) 0, none⟩,
     ⟨(some 113), .extract (.t 105) 1, none⟩,
     ⟨(some 16), .mov (.t 112), none⟩,
     ⟨(some 17), .mov (.t 113), none⟩]) <|
  .seq
  (.region [⟨(some 114), .mov (.t 17), none⟩,
     ⟨(some 11), .mov (.t 114), none⟩]) <|
  .seq
  (.region [⟨(some 115), .mov (.t 16), none⟩,
     ⟨(some 116), .mov (.t 1), none⟩,
     ⟨(some 117), .bin .sub (.t 115) (.t 116), none⟩,
     ⟨(some 118), .mov (.t 2), none⟩,
     ⟨(some 119), .mov (.t 16), none⟩,
     ⟨(some 120), .bin .sub (.t 118) (.t 119), none⟩,
     ⟨(some 18), .mov (.t 117), none⟩,
     ⟨(some 19), .mov (.t 120), none⟩]) <|
  .seq
  (.region [⟨(some 121), .mov (.t 12), none⟩,
     ⟨(some 122), .bin .quo (.t 121) (.c (.int .i64 8)), none⟩,
     ⟨(some 20), .mov (.t 122), none⟩]) <|
  .seq
  (.region [⟨(some 123), .mov (.t 18), none⟩,
     ⟨(some 124), .mov (.t 19), none⟩,
     ⟨(some 125), .bin .lss (.t 123) (.t 124), none⟩]) <|
  .cond (.t 125)
   (.seq
    (.region [⟨(some 126), .mov (.t 18), none⟩,
       ⟨(some 127), .mov (.t 20), none⟩,
       ⟨(some 128), .bin .geq (.t 126) (.t 127), none⟩,
       ⟨(some 10), .mov (.t 128), none⟩]) <|
    .seq
    (.region [⟨(some 129), .mov (.t 0), none⟩,
       ⟨(some 130), .mov (.t 1), none⟩,
       ⟨(some 131), .mov (.t 16), none⟩,
       ⟨(some 132), .mov (.t 3), none⟩,
       ⟨(some 133), .mov (.t 4), none⟩,
       ⟨(some 134), .call (.f 23) [(.t 129), (.t 130), (.t 131), (.t 132), (.t 133)], none⟩]) <|
    .region [⟨(some 135), .mov (.t 16), none⟩,
      ⟨(some 136), .bin .add (.t 135) (.c (.int .i64 1)), none⟩,
      ⟨(some 1), .mov (.t 136), none⟩])
   (.seq
    (.region [⟨(some 137), .mov (.t 19), none⟩,
       ⟨(some 138), .mov (.t 20), none⟩,
       ⟨(some 139), .bin .geq (.t 137) (.t 138), none⟩,
       ⟨(some 10), .mov (.t 139), none⟩]) <|
    .seq
    (.region [⟨(some 140), .mov (.t 0), none⟩,
       ⟨(some 141), .mov (.t 16), none⟩,
       ⟨(some 142), .bin .add (.t 141) (.c (.int .i64 1)), none⟩,
       ⟨(some 143), .mov (.t 2), none⟩,
       ⟨(some 144), .mov (.t 3), none⟩,
       ⟨(some 145), .mov (.t 4), none⟩,
       ⟨(some 146), .call (.f 23) [(.t 140), (.t 142), (.t 143), (.t 144), (.t 145)], none⟩]) <|
    .region [⟨(some 147), .mov (.t 16), none⟩,
      ⟨(some 2), .mov (.t 147), none⟩]), []⟩
theorem c23 : Code1 Try.prog 23 148 b23 := Code1.mk' Try.func23 (by kernel_rfl) (by kernel_rfl) Try.ntmps23

/-- math/bits.Len -/
def b24 : IFn := ⟨
 .seq
 (.region [⟨(some 2), .mov (.c (.int .i64 0)), none⟩]) <|
 .seq
 (.cond (.c (.bool false))
   (.seq
    (.region [⟨(some 3), .mov (.t 0), none⟩,
       ⟨(some 4), .conv .u32 (.t 3), none⟩,
       ⟨(some 5), .call (.f 34) [(.t 4)], none⟩,
       ⟨(some 2), .mov (.t 5), none⟩]) <|
    .ret)
   (.skip)) <|
 .seq
 (.region [⟨(some 6), .mov (.t 0), none⟩,
    ⟨(some 7), .call (.f 35) [(.t 6)], none⟩,
    ⟨(some 2), .mov (.t 7), none⟩]) <|
 .ret, [.slot 2]⟩
theorem c24 : Code1 Try.prog 24 8 b24 := Code1.mk' Try.func24 (by kernel_rfl) (by kernel_rfl) Try.ntmps24

/-- cmp.isNaN[int] -/
def b25 : IFn := ⟨
 .seq
 (.region [⟨(some 2), .mov (.c (.bool false)), none⟩]) <|
 .seq
 (.region [⟨(some 3), .mov (.t 0), none⟩,
    ⟨(some 4), .mov (.t 0), none⟩,
    ⟨(some 5), .bin .neq (.t 3) (.t 4), none⟩,
    ⟨(some 2), .mov (.t 5), none⟩]) <|
 .ret, [.slot 2]⟩
theorem c25 : Code1 Try.prog 25 6 b25 := Code1.mk' Try.func25 (by kernel_rfl) (by kernel_rfl) Try.ntmps25

/-- slices.insertionSortCmpFunc[fusee/marzullo.edge] -/
def b26 : IFn := ⟨
 .seq
 (.region [⟨(some 10), .mov (.t 1), none⟩,
    ⟨(some 11), .bin .add (.t 10) (.c (.int .i64 1)), none⟩,
    ⟨(some 8), .mov (.t 11), none⟩]) <|
 .block 0 <|
 .loop [0, 1, 2, 3, 8] <|
  .seq
  (.seq
   (.region [⟨(some 12), .mov (.t 8), none⟩,
      ⟨(some 13), .mov (.t 2), none⟩,
      ⟨(some 14), .bin .lss (.t 12) (.t 13), none⟩]) <|
   .cond (.t 14)
    (.skip)
    (.exit 0)) <|
  .seq
  (.block 1 <|
   .seq
   (.region [⟨(some 17), .mov (.t 8), none⟩,
      ⟨(some 9), .mov (.t 17), none⟩]) <|
   .block 2 <|
   .loop [0, 1, 2, 3, 8, 9] <|
    .seq
    (.seq
     (.draw false [0, 1, 2, 3, 8, 9, 34] (
        .op ⟨(some 18), .mov (.t 9), none⟩ <|
        .op ⟨(some 19), .mov (.t 1), none⟩ <|
        .op ⟨(some 20), .bin .gtr (.t 18) (.t 19), none⟩ <|
        .op ⟨(some 21), .mov (.t 20), none⟩ <|
        .op ⟨(some 22), .mov (.t 3), (some (21, true))⟩ <|
        .op ⟨(some 23), .mov (.t 0), (some (21, true))⟩ <|
        .op ⟨(some 24), .mov (.t 9), (some (21, true))⟩ <|
        .op ⟨(some 25), .iaddr 2 (.t 23) (.t 24), (some (21, true))⟩ <|
        .op ⟨(some 26), .load true 2 (.t 25), (some (21, true))⟩ <|
        .op ⟨(some 27), .mov (.t 0), (some (21, true))⟩ <|
        .op ⟨(some 28), .mov (.t 9), (some (21, true))⟩ <|
        .op ⟨(some 29), .bin .sub (.t 28) (.c (.int .i64 1)), (some (21, true))⟩ <|
        .op ⟨(some 30), .iaddr 2 (.t 27) (.t 29), (some (21, true))⟩ <|
        .op ⟨(some 31), .load true 2 (.t 30), (some (21, true))⟩ <|
        .op ⟨(some 32), .call (.t 22) [(.t 26), (.t 31)], (some (21, true))⟩ <|
        .op ⟨(some 33), .bin .lss (.t 32) (.c (.int .i64 0)), (some (21, true))⟩ <|
        .op ⟨(some 34), .pick (.t 21) (.t 33) (.c (.bool false)), none⟩ <|
        .done)) <|
     .cond (.t 34)
      (.skip)
      (.exit 2)) <|
    .seq
    (.block 3 <|
     .draw false [0, 1, 2, 3, 8, 9] (
       .op ⟨(some 37), .mov (.t 0), none⟩ <|
       .op ⟨(some 38), .mov (.t 9), none⟩ <|
       .op ⟨(some 39), .mov (.t 0), none⟩ <|
       .op ⟨(some 40), .mov (.t 9), none⟩ <|
       .op ⟨(some 41), .bin .sub (.t 40) (.c (.int .i64 1)), none⟩ <|
       .op ⟨(some 42), .mov (.t 0), none⟩ <|
       .op ⟨(some 43), .mov (.t 9), none⟩ <|
       .op ⟨(some 44), .bin .sub (.t 43) (.c (.int .i64 1)), none⟩ <|
       .op ⟨(some 45), .iaddr 2 (.t 42) (.t 44), none⟩ <|
       .op ⟨(some 46), .load true 2 (.t 45), none⟩ <|
       .op ⟨(some 47), .mov (.t 0), none⟩ <|
       .op ⟨(some 48), .mov (.t 9), none⟩ <|
       .op ⟨(some 49), .iaddr 2 (.t 47) (.t 48), none⟩ <|
       .op ⟨(some 50), .load true 2 (.t 49), none⟩ <|
       .op ⟨(some 51), .iaddr 2 (.t 37) (.t 38), none⟩ <|
       .op ⟨none, .store 2 (.t 51) (.t 46), none⟩ <|
       .op ⟨(some 52), .iaddr 2 (.t 39) (.t 41), none⟩ <|
       .op ⟨none, .store 2 (.t 52) (.t 50), none⟩ <|
       .done)) <|
    .region [⟨(some 35), .mov (.t 9), none⟩,
      ⟨(some 36), .bin .sub (.t 35) (.c (.int .i64 1)), none⟩,
      ⟨(some 9), .mov (.t 36), none⟩]) <|
  .region [⟨(some 15), .mov (.t 8), none⟩,
    ⟨(some 16), .bin .add (.t 15) (.c (.int .i64 1)), none⟩,
    ⟨(some 8), .mov (.t 16), none⟩], []⟩
theorem c26 : Code1 Try.prog 26 53 b26 := Code1.mk' Try.func26 (by kernel_rfl) (by kernel_rfl) Try.ntmps26

/-- slices.heapSortCmpFunc[fusee/marzullo.edge] -/
def b27 : IFn := ⟨
 .seq
 (.region [⟨(some 13), .mov (.t 1), none⟩,
    ⟨(some 8), .mov (.t 13), none⟩]) <|
 .seq
 (.region [⟨(some 9), .mov (.c (.int .i64 0)), none⟩]) <|
 .seq
 (.region [⟨(some 14), .mov (.t 2), none⟩,
    ⟨(some 15), .mov (.t 1), none⟩,
    ⟨(some 16), .bin .sub (.t 14) (.t 15), none⟩,
    ⟨(some 10), .mov (.t 16), none⟩]) <|
 .seq
 (.seq
  (.region [⟨(some 17), .mov (.t 10), none⟩,
     ⟨(some 18), .bin .sub (.t 17) (.c (.int .i64 1)), none⟩,
     ⟨(some 19), .bin .quo (.t 18) (.c (.int .i64 2)), none⟩,
     ⟨(some 11), .mov (.t 19), none⟩]) <|
  .block 0 <|
  .loop [0, 3, 8, 9, 10, 11] <|
   .seq
   (.seq
    (.region [⟨(some 20), .mov (.t 11), none⟩,
       ⟨(some 21), .bin .geq (.t 20) (.c (.int .i64 0)), none⟩]) <|
    .cond (.t 21)
     (.skip)
     (.exit 0)) <|
   .seq
   (.block 1 <|
    .region [⟨(some 24), .mov (.t 0), none⟩,
      ⟨(some 25), .mov (.t 11), none⟩,
      ⟨(some 26), .mov (.t 10), none⟩,
      ⟨(some 27), .mov (.t 8), none⟩,
      ⟨(some 28), .mov (.t 3), none⟩,
      ⟨(some 29), .call (.f 36) [(.t 24), (.t 25), (.t 26), (.t 27), (.t 28)], none⟩]) <|
   .region [⟨(some 22), .mov (.t 11), none⟩,
     ⟨(some 23), .bin .sub (.t 22) (.c (.int .i64 1)), none⟩,
     ⟨(some 11), .mov (.t 23), none⟩]) <|
 .seq
 (.region [⟨(some 30), .mov (.t 10), none⟩,
    ⟨(some 31), .bin .sub (.t 30) (.c (.int .i64 1)), none⟩,
    ⟨(some 12), .mov (.t 31), none⟩]) <|
 .block 2 <|
 .loop [0, 3, 8, 9, 12] <|
  .seq
  (.seq
   (.region [⟨(some 32), .mov (.t 12), none⟩,
      ⟨(some 33), .bin .geq (.t 32) (.c (.int .i64 0)), none⟩]) <|
   .cond (.t 33)
    (.skip)
    (.exit 2)) <|
  .seq
  (.block 3 <|
   .seq
   (.draw false [0, 3, 8, 9, 12] (
      .op ⟨(some 36), .mov (.t 0), none⟩ <|
      .op ⟨(some 37), .mov (.t 8), none⟩ <|
      .op ⟨(some 38), .mov (.t 0), none⟩ <|
      .op ⟨(some 39), .mov (.t 8), none⟩ <|
      .op ⟨(some 40), .mov (.t 12), none⟩ <|
      .op ⟨(some 41), .bin .add (.t 39) (.t 40), none⟩ <|
      .op ⟨(some 42), .mov (.t 0), none⟩ <|
      .op ⟨(some 43), .mov (.t 8), none⟩ <|
      .op ⟨(some 44), .mov (.t 12), none⟩ <|
      .op ⟨(some 45), .bin .add (.t 43) (.t 44), none⟩ <|
      .op ⟨(some 46), .iaddr 2 (.t 42) (.t 45), none⟩ <|
      .op ⟨(some 47), .load true 2 (.t 46), none⟩ <|
      .op ⟨(some 48), .mov (.t 0), none⟩ <|
      .op ⟨(some 49), .mov (.t 8), none⟩ <|
      .op ⟨(some 50), .iaddr 2 (.t 48) (.t 49), none⟩ <|
      .op ⟨(some 51), .load true 2 (.t 50), none⟩ <|
      .op ⟨(some 52), .iaddr 2 (.t 36) (.t 37), none⟩ <|
      .op ⟨none, .store 2 (.t 52) (.t 47), none⟩ <|
      .op ⟨(some 53), .iaddr 2 (.t 38) (.t 41), none⟩ <|
      .op ⟨none, .store 2 (.t 53) (.t 51), none⟩ <|
      .done)) <|
   .region [⟨(some 54), .mov (.t 0), none⟩,
     ⟨(some 55), .mov (.t 9), none⟩,
     ⟨(some 56), .mov (.t 12), none⟩,
     ⟨(some 57), .mov (.t 8), none⟩,
     ⟨(some 58), .mov (.t 3), none⟩,
     ⟨(some 59), .call (.f 36) [(.t 54), (.t 55), (.t 56), (.t 57), (.t 58)], none⟩]) <|
  .region [⟨(some 34), .mov (.t 12), none⟩,
    ⟨(some 35), .bin .sub (.t 34) (.c (.int .i64 1)), none⟩,
    ⟨(some 12), .mov (.t 35), none⟩], []⟩
theorem c27 : Code1 Try.prog 27 60 b27 := Code1.mk' Try.func27 (by kernel_rfl) (by kernel_rfl) Try.ntmps27

/-- slices.breakPatternsCmpFunc[fusee/marzullo.edge] -/
def b28 : IFn := ⟨
 .seq
 (.region [⟨(some 13), .mov (.t 2), none⟩,
    ⟨(some 14), .mov (.t 1), none⟩,
    ⟨(some 15), .bin .sub (.t 13) (.t 14), none⟩,
    ⟨(some 8), .mov (.t 15), none⟩]) <|
 .seq
 (.region [⟨(some 16), .mov (.t 8), none⟩,
    ⟨(some 17), .bin .geq (.t 16) (.c (.int .i64 8)), none⟩]) <|
 .cond (.t 17)
  (.seq
   (.region [⟨(some 18), .mov (.t 8), none⟩,
      ⟨(some 19), .conv .u64 (.t 18), none⟩,
      ⟨(some 9), .alloc [(.int .u64 0)], none⟩,
      ⟨none, .store 1 (.t 9) (.t 19), none⟩]) <|
   .seq
   (.region [⟨(some 20), .mov (.t 8), none⟩,
      ⟨(some 21), .call (.f 37) [(.t 20)], none⟩,
      ⟨(some 10), .mov (.t 21), none⟩]) <|
   .seq
   (.region [⟨(some 22), .mov (.t 1), none⟩,
      ⟨(some 23), .mov (.t 8), none⟩,
      ⟨(some 24), .bin .quo (.t 23) (.c (.int .i64 4)), none⟩,
      ⟨(some 25), .bin .mul (.t 24) (.c (.int .i64 2)), none⟩,
      ⟨(some 26), .bin .add (.t 22) (.t 25), none⟩,
      ⟨(some 27), .bin .sub (.t 26) (.c (.int .i64 1)), none⟩,
      ⟨(some 11), .mov (.t 27), none⟩]) <|
   .block 0 <|
   .loop [0, 1, 8, 9, 10, 11] <|
    .seq
    (.seq
     (.region [⟨(some 28), .mov (.t 11), none⟩,
        ⟨(some 29), .mov (.t 1), none⟩,
        ⟨(some 30), .mov (.t 8), none⟩,
        ⟨(some 31), .bin .quo (.t 30) (.c (.int .i64 4)), none⟩,
        ⟨(some 32), .bin .mul (.t 31) (.c (.int .i64 2)), none⟩,
        ⟨(some 33), .bin .add (.t 29) (.t 32), none⟩,
        ⟨(some 34), .bin .add (.t 33) (.c (.int .i64 1)), none⟩,
        ⟨(some 35), .bin .leq (.t 28) (.t 34), none⟩]) <|
     .cond (.t 35)
      (.skip)
      (.exit 0)) <|
    .seq
    (.block 1 <|
     .seq
     (.region [⟨(some 38), .call (.f 38) [(.t 9)], none⟩,
        ⟨(some 39), .mov (.t 10), none⟩,
        ⟨(some 40), .bin .sub (.t 39) (.c (.int .u64 1)), none⟩,
        ⟨(some 41), .bin .and (.t 38) (.t 40), none⟩,
        ⟨(some 42), .conv .i64 (.t 41), none⟩,
        ⟨(some 12), .mov (.t 42), none⟩]) <|
     .seq
     (.seq
      (.region [⟨(some 43), .mov (.t 12), none⟩,
         ⟨(some 44), .mov (.t 8), none⟩,
         ⟨(some 45), .bin .geq (.t 43) (.t 44), none⟩]) <|
      .cond (.t 45)
       (.region [⟨(some 46), .mov (.t 12), none⟩,
          ⟨(some 47), .mov (.t 8), none⟩,
          ⟨(some 48), .bin .sub (.t 46) (.t 47), none⟩,
          ⟨(some 12), .mov (.t 48), none⟩])
       (.skip)) <|
     .draw false [0, 1, 8, 9, 10, 11] (
       .op ⟨(some 49), .mov (.t 0), none⟩ <|
       .op ⟨(some 50), .mov (.t 11), none⟩ <|
       .op ⟨(some 51), .mov (.t 0), none⟩ <|
       .op ⟨(some 52), .mov (.t 1), none⟩ <|
       .op ⟨(some 53), .mov (.t 12), none⟩ <|
       .op ⟨(some 54), .bin .add (.t 52) (.t 53), none⟩ <|
       .op ⟨(some 55), .mov (.t 0), none⟩ <|
       .op ⟨(some 56), .mov (.t 1), none⟩ <|
       .op ⟨(some 57), .mov (.t 12), none⟩ <|
       .op ⟨(some 58), .bin .add (.t 56) (.t 57), none⟩ <|
       .op ⟨(some 59), .iaddr 2 (.t 55) (.t 58), none⟩ <|
       .op ⟨(some 60), .load true 2 (.t 59), none⟩ <|
       .op ⟨(some 61), .mov (.t 0), none⟩ <|
       .op ⟨(some 62), .mov (.t 11), none⟩ <|
       .op ⟨(some 63), .iaddr 2 (.t 61) (.t 62), none⟩ <|
       .op ⟨(some 64), .load true 2 (.t 63), none⟩ <|
       .op ⟨(some 65), .iaddr 2 (.t 49) (.t 50), none⟩ <|
       .op ⟨none, .store 2 (.t 65) (.t 60), none⟩ <|
       .op ⟨(some 66), .iaddr 2 (.t 51) (.t 54), none⟩ <|
       .op ⟨none, .store 2 (.t 66) (.t 64), none⟩ <|
       .done)) <|
    .region [⟨(some 36), .mov (.t 11), none⟩,
      ⟨(some 37), .bin .add (.t 36) (.c (.int .i64 1)), none⟩,
      ⟨(some 11), .mov (.t 37), none⟩])
  (.skip), []⟩
theorem c28 : Code1 Try.prog 28 67 b28 := Code1.mk' Try.func28 (by kernel_rfl) (by kernel_rfl) Try.ntmps28

/-- slices.choosePivotCmpFunc[fusee/marzullo.edge] -/
def b29 : IFn := ⟨
 .seq
 (.region [⟨(some 8), .mov (.c (.int .i64 0)), none⟩,
    ⟨(some 9), .mov (.c (.int .i64 0)), none⟩]) <|
 .seq
 (.region [⟨(some 15), .mov (.t 2), none⟩,
    ⟨(some 16), .mov (.t 1), none⟩,
    ⟨(some 17), .bin .sub (.t 15) (.t 16), none⟩,
    ⟨(some 10), .mov (.t 17), none⟩]) <|
 .seq
 (.region [⟨(some 11), .alloc [(.int .i64 0)], none⟩]) <|
 .seq
 (.region [⟨(some 18), .mov (.t 1), none⟩,
    ⟨(some 19), .mov (.t 10), none⟩,
    ⟨(some 20), .bin .quo (.t 19) (.c (.int .i64 4)), none⟩,
    ⟨(some 21), .bin .mul (.t 20) (.c (.int .i64 1)), none⟩,
    ⟨(some 22), .bin .add (.t 18) (.t 21), none⟩,
    ⟨(some 12), .mov (.t 22), none⟩]) <|
 .seq
 (.region [⟨(some 23), .mov (.t 1), none⟩,
    ⟨(some 24), .mov (.t 10), none⟩,
    ⟨(some 25), .bin .quo (.t 24) (.c (.int .i64 4)), none⟩,
    ⟨(some 26), .bin .mul (.t 25) (.c (.int .i64 2)), none⟩,
    ⟨(some 27), .bin .add (.t 23) (.t 26), none⟩,
    ⟨(some 13), .mov (.t 27), none⟩]) <|
 .seq
 (.region [⟨(some 28), .mov (.t 1), none⟩,
    ⟨(some 29), .mov (.t 10), none⟩,
    ⟨(some 30), .bin .quo (.t 29) (.c (.int .i64 4)), none⟩,
    ⟨(some 31), .bin .mul (.t 30) (.c (.int .i64 3)), none⟩,
    ⟨(some 32), .bin .add (.t 28) (.t 31), none⟩,
    ⟨(some 14), .mov (.t 32), none⟩]) <|
 .seq
 (.seq
  (.region [⟨(some 33), .mov (.t 10), none⟩,
     ⟨(some 34), .bin .geq (.t 33) (.c (.int .i64 8)), none⟩]) <|
  .cond (.t 34)
   (.seq
    (.seq
     (.region [⟨(some 35), .mov (.t 10), none⟩,
        ⟨(some 36), .bin .geq (.t 35) (.c (.int .i64 50)), none⟩]) <|
     .cond (.t 36)
      (.seq
       (.region [⟨(some 37), .mov (.t 0), none⟩,
          ⟨(some 38), .mov (.t 12), none⟩,
          ⟨(some 39), .mov (.t 3), none⟩,
          ⟨(some 40), .call (.f 39) [(.t 37), (.t 38), (.t 11), (.t 39)], none⟩,
          ⟨(some 12), .mov (.t 40), none⟩]) <|
       .seq
       (.region [⟨(some 41), .mov (.t 0), none⟩,
          ⟨(some 42), .mov (.t 13), none⟩,
          ⟨(some 43), .mov (.t 3), none⟩,
          ⟨(some 44), .call (.f 39) [(.t 41), (.t 42), (.t 11), (.t 43)], none⟩,
          ⟨(some 13), .mov (.t 44), none⟩]) <|
       .region [⟨(some 45), .mov (.t 0), none⟩,
         ⟨(some 46), .mov (.t 14), none⟩,
         ⟨(some 47), .mov (.t 3), none⟩,
         ⟨(some 48), .call (.f 39) [(.t 45), (.t 46), (.t 11), (.t 47)], none⟩,
         ⟨(some 14), .mov (.t 48), none⟩])
      (.skip)) <|
    .region [⟨(some 49), .mov (.t 0), none⟩,
      ⟨(some 50), .mov (.t 12), none⟩,
      ⟨(some 51), .mov (.t 13), none⟩,
      ⟨(some 52), .mov (.t 14), none⟩,
      ⟨(some 53), .mov (.t 3), none⟩,
      ⟨(some 54), .call (.f 40) [(.t 49), (.t 50), (.t 51), (.t 52), (.t 11), (.t 53)], none⟩,
      ⟨(some 13), .mov (.t 54), none⟩])
   (.skip)) <|
 .seq
 (.region [⟨(some 55), .load false 1 (.t 11), none⟩]) <|
 .block 0 <|
 .seq
 (.region [⟨(some 58), .bin .eql (.t 55) (.c (.int .i64 0)), none⟩,
    ⟨(some 57), .mov (.t 58), none⟩]) <|
 .cond (.t 57)
  (.seq
   (.region [⟨(some 59), .mov (.t 13), none⟩,
      ⟨(some 8), .mov (.t 59), none⟩,
      ⟨(some 9), .mov (.c (.int .i64 1)), none⟩]) <|
   .ret)
  (.seq
   (.region [⟨(some 61), .bin .eql (.t 55) (.c (.int .i64 12)), none⟩,
      ⟨(some 60), .mov (.t 61), none⟩]) <|
   .cond (.t 60)
    (.seq
     (.region [⟨(some 62), .mov (.t 13), none⟩,
        ⟨(some 8), .mov (.t 62), none⟩,
        ⟨(some 9), .mov (.c (.int .i64 2)), none⟩]) <|
     .ret)
    (.seq
     (.region [⟨(some 56), .mov (.t 13), none⟩,
        ⟨(some 8), .mov (.t 56), none⟩,
        ⟨(some 9), .mov (.c (.int .i64 0)), none⟩]) <|
     .ret)), [.slot 8, .slot 9]⟩
theorem c29 : Code1 Try.prog 29 63 b29 := Code1.mk' Try.func29 (by kernel_rfl) (by kernel_rfl) Try.ntmps29

/-- slices.reverseRangeCmpFunc[fusee/marzullo.edge] -/
def b30 : IFn := ⟨
 .seq
 (.region [⟨(some 10), .mov (.t 1), none⟩,
    ⟨(some 8), .mov (.t 10), none⟩]) <|
 .seq
 (.region [⟨(some 11), .mov (.t 2), none⟩,
    ⟨(some 12), .bin .sub (.t 11) (.c (.int .i64 1)), none⟩,
    ⟨(some 9), .mov (.t 12), none⟩]) <|
 .block 0 <|
 .loop [0, 8, 9] <|
  .seq
  (.seq
   (.region [⟨(some 13), .mov (.t 8), none⟩,
      ⟨(some 14), .mov (.t 9), none⟩,
      ⟨(some 15), .bin .lss (.t 13) (.t 14), none⟩]) <|
   .cond (.t 15)
    (.skip)
    (.exit 0)) <|
  .block 1 <|
  .seq
  (.draw false [0, 8, 9] (
     .op ⟨(some 16), .mov (.t 0), none⟩ <|
     .op ⟨(some 17), .mov (.t 8), none⟩ <|
     .op ⟨(some 18), .mov (.t 0), none⟩ <|
     .op ⟨(some 19), .mov (.t 9), none⟩ <|
     .op ⟨(some 20), .mov (.t 0), none⟩ <|
     .op ⟨(some 21), .mov (.t 9), none⟩ <|
     .op ⟨(some 22), .iaddr 2 (.t 20) (.t 21), none⟩ <|
     .op ⟨(some 23), .load true 2 (.t 22), none⟩ <|
     .op ⟨(some 24), .mov (.t 0), none⟩ <|
     .op ⟨(some 25), .mov (.t 8), none⟩ <|
     .op ⟨(some 26), .iaddr 2 (.t 24) (.t 25), none⟩ <|
     .op ⟨(some 27), .load true 2 (.t 26), none⟩ <|
     .op ⟨(some 28), .iaddr 2 (.t 16) (.t 17), none⟩ <|
     .op ⟨none, .store 2 (.t 28) (.t 23), none⟩ <|
     .op ⟨(some 29), .iaddr 2 (.t 18) (.t 19), none⟩ <|
     .op ⟨none, .store 2 (.t 29) (.t 27), none⟩ <|
     .done)) <|
  .seq
  (.region [⟨(some 30), .mov (.t 8), none⟩,
     ⟨(some 31), .bin .add (.t 30) (.c (.int .i64 1)), none⟩,
     ⟨(some 8), .mov (.t 31), none⟩]) <|
  .region [⟨(some 32), .mov (.t 9), none⟩,
    ⟨(some 33), .bin .sub (.t 32) (.c (.int .i64 1)), none⟩,
    ⟨(some 9), .mov (.t 33), none⟩], []⟩
theorem c30 : Code1 Try.prog 30 34 b30 := Code1.mk' Try.func30 (by kernel_rfl) (by kernel_rfl) Try.ntmps30

/-- slices.partialInsertionSortCmpFunc[fusee/marzullo.edge] -/
def b31 : IFn := ⟨
 .seq
 (.region [⟨(some 8), .mov (.c (.bool false)), none⟩]) <|
 .seq
 (.region [⟨(some 13), .mov (.t 1), none⟩,
    ⟨(some 14), .bin .add (.t 13) (.c (.int .i64 1)), none⟩,
    ⟨(some 9), .mov (.t 14), none⟩]) <|
 .seq
 (.seq
  (.region [⟨(some 10), .mov (.c (.int .i64 0)), none⟩]) <|
  .block 0 <|
  .loop [0, 1, 2, 3, 9, 10] <|
   .seq
   (.seq
    (.region [⟨(some 15), .mov (.t 10), none⟩,
       ⟨(some 16), .bin .lss (.t 15) (.c (.int .i64 5)), none⟩]) <|
    .cond (.t 16)
     (.skip)
     (.exit 0)) <|
   .seq
   (.block 1 <|
    .seq
    (.block 2 <|
     .loop [0, 1, 2, 3, 9, 10] <|
      .seq
      (.seq
       (.draw false [0, 1, 2, 3, 9, 10, 36] (
          .op ⟨(some 19), .mov (.t 9), none⟩ <|
          .op ⟨(some 20), .mov (.t 2), none⟩ <|
          .op ⟨(some 21), .bin .lss (.t 19) (.t 20), none⟩ <|
          .op ⟨(some 22), .mov (.t 21), none⟩ <|
          .op ⟨(some 23), .mov (.t 3), (some (22, true))⟩ <|
          .op ⟨(some 24), .mov (.t 0), (some (22, true))⟩ <|
          .op ⟨(some 25), .mov (.t 9), (some (22, true))⟩ <|
          .op ⟨(some 26), .iaddr 2 (.t 24) (.t 25), (some (22, true))⟩ <|
          .op ⟨(some 27), .load true 2 (.t 26), (some (22, true))⟩ <|
          .op ⟨(some 28), .mov (.t 0), (some (22, true))⟩ <|
          .op ⟨(some 29), .mov (.t 9), (some (22, true))⟩ <|
          .op ⟨(some 30), .bin .sub (.t 29) (.c (.int .i64 1)), (some (22, true))⟩ <|
          .op ⟨(some 31), .iaddr 2 (.t 28) (.t 30), (some (22, true))⟩ <|
          .op ⟨(some 32), .load true 2 (.t 31), (some (22, true))⟩ <|
          .op ⟨(some 33), .call (.t 23) [(.t 27), (.t 32)], (some (22, true))⟩ <|
          .op ⟨(some 34), .bin .lss (.t 33) (.c (.int .i64 0)), (some (22, true))⟩ <|
          .op ⟨(some 35), .un .not (.t 34), (some (22, true))⟩ <|
          .op ⟨(some 36), .pick (.t 22) (.t 35) (.c (.bool false)), none⟩ <|
          .done)) <|
       .cond (.t 36)
        (.skip)
        (.exit 2)) <|
      .block 3 <|
      .region [⟨(some 37), .mov (.t 9), none⟩,
        ⟨(some 38), .bin .add (.t 37) (.c (.int .i64 1)), none⟩,
        ⟨(some 9), .mov (.t 38), none⟩]) <|
    .seq
    (.seq
     (.region [⟨(some 39), .mov (.t 9), none⟩,
        ⟨(some 40), .mov (.t 2), none⟩,
        ⟨(some 41), .bin .eql (.t 39) (.t 40), none⟩]) <|
     .cond (.t 41)
      (.seq
       (.region [⟨(some 8), .mov (.c (.bool true)), none⟩]) <|
       .ret)
      (.skip)) <|
    .seq
    (.seq
     (.region [⟨(some 42), .mov (.t 2), none⟩,
        ⟨(some 43), .mov (.t 1), none⟩,
        ⟨(some 44), .bin .sub (.t 42) (.t 43), none⟩,
        ⟨(some 45), .bin .lss (.t 44) (.c (.int .i64 50)), none⟩]) <|
     .cond (.t 45)
      (.seq
       (.region [⟨(some 8), .mov (.c (.bool false)), none⟩]) <|
       .ret)
      (.skip)) <|
    .seq
    (.draw false [0, 1, 2, 3, 9, 10] (
       .op ⟨(some 46), .mov (.t 0), none⟩ <|
       .op ⟨(some 47), .mov (.t 9), none⟩ <|
       .op ⟨(some 48), .mov (.t 0), none⟩ <|
       .op ⟨(some 49), .mov (.t 9), none⟩ <|
       .op ⟨(some 50), .bin .sub (.t 49) (.c (.int .i64 1)), none⟩ <|
       .op ⟨(some 51), .mov (.t 0), none⟩ <|
       .op ⟨(some 52), .mov (.t 9), none⟩ <|
       .op ⟨(some 53), .bin .sub (.t 52) (.c (.int .i64 1)), none⟩ <|
       .op ⟨(some 54), .iaddr 2 (.t 51) (.t 53), none⟩ <|
       .op ⟨(some 55), .load true 2 (.t 54), none⟩ <|
       .op ⟨(some 56), .mov (.t 0), none⟩ <|
       .op ⟨(some 57), .mov (.t 9), none⟩ <|
       .op ⟨(some 58), .iaddr 2 (.t 56) (.t 57), none⟩ <|
       .op ⟨(some 59), .load true 2 (.t 58), none⟩ <|
       .op ⟨(some 60), .iaddr 2 (.t 46) (.t 47), none⟩ <|
       .op ⟨none, .store 2 (.t 60) (.t 55), none⟩ <|
       .op ⟨(some 61), .iaddr 2 (.t 48) (.t 50), none⟩ <|
       .op ⟨none, .store 2 (.t 61) (.t 59), none⟩ <|
       .done)) <|
    .seq
    (.seq
     (.region [⟨(some 62), .mov (.t 9), none⟩,
        ⟨(some 63), .mov (.t 1), none⟩,
        ⟨(some 64), .bin .sub (.t 62) (.t 63), none⟩,
        ⟨(some 65), .bin .geq (.t 64) (.c (.int .i64 2)), none⟩]) <|
     .cond (.t 65)
      (.seq
       (.region [⟨(some 66), .mov (.t 9), none⟩,
          ⟨(some 67), .bin .sub (.t 66) (.c (.int .i64 1)), none⟩,
          ⟨(some 11), .mov (.t 67), none⟩]) <|
       .block 4 <|
       .loop [0, 1, 2, 3, 9, 10, 11] <|
        .seq
        (.seq
         (.region [⟨(some 68), .mov (.t 11), none⟩,
            ⟨(some 69), .bin .geq (.t 68) (.c (.int .i64 1)), none⟩]) <|
         .cond (.t 69)
          (.skip)
          (.exit 4)) <|
        .seq
        (.block 5 <|
         .seq
         (.seq
          (.draw false [0, 1, 2, 3, 9, 10, 11, 84] (
             .op ⟨(some 72), .mov (.t 3), none⟩ <|
             .op ⟨(some 73), .mov (.t 0), none⟩ <|
             .op ⟨(some 74), .mov (.t 11), none⟩ <|
             .op ⟨(some 75), .iaddr 2 (.t 73) (.t 74), none⟩ <|
             .op ⟨(some 76), .load true 2 (.t 75), none⟩ <|
             .op ⟨(some 77), .mov (.t 0), none⟩ <|
             .op ⟨(some 78), .mov (.t 11), none⟩ <|
             .op ⟨(some 79), .bin .sub (.t 78) (.c (.int .i64 1)), none⟩ <|
             .op ⟨(some 80), .iaddr 2 (.t 77) (.t 79), none⟩ <|
             .op ⟨(some 81), .load true 2 (.t 80), none⟩ <|
             .op ⟨(some 82), .call (.t 72) [(.t 76), (.t 81)], none⟩ <|
             .op ⟨(some 83), .bin .lss (.t 82) (.c (.int .i64 0)), none⟩ <|
             .op ⟨(some 84), .un .not (.t 83), none⟩ <|
             .done)) <|
          .cond (.t 84)
           (.exit 4)
           (.skip)) <|
         .draw false [0, 1, 2, 3, 9, 10, 11] (
           .op ⟨(some 85), .mov (.t 0), none⟩ <|
           .op ⟨(some 86), .mov (.t 11), none⟩ <|
           .op ⟨(some 87), .mov (.t 0), none⟩ <|
           .op ⟨(some 88), .mov (.t 11), none⟩ <|
           .op ⟨(some 89), .bin .sub (.t 88) (.c (.int .i64 1)), none⟩ <|
           .op ⟨(some 90), .mov (.t 0), none⟩ <|
           .op ⟨(some 91), .mov (.t 11), none⟩ <|
           .op ⟨(some 92), .bin .sub (.t 91) (.c (.int .i64 1)), none⟩ <|
           .op ⟨(some 93), .iaddr 2 (.t 90) (.t 92), none⟩ <|
           .op ⟨(some 94), .load true 2 (.t 93), none⟩ <|
           .op ⟨(some 95), .mov (.t 0), none⟩ <|
           .op ⟨(some 96), .mov (.t 11), none⟩ <|
           .op ⟨(some 97), .iaddr 2 (.t 95) (.t 96), none⟩ <|
           .op ⟨(some 98), .load true 2 (.t 97), none⟩ <|
           .op ⟨(some 99), .iaddr 2 (.t 85) (.t 86), none⟩ <|
           .op ⟨none, .store 2 (.t 99) (.t 94), none⟩ <|
           .op ⟨(some 100), .iaddr 2 (.t 87) (.t 89), none⟩ <|
           .op ⟨none, .store 2 (.t 100) (.t 98), none⟩ <|
           .done)) <|
        .region [⟨(some 70), .mov (.t 11), none⟩,
          ⟨(some 71), .bin .sub (.t 70) (.c (.int .i64 1)), none⟩,
          ⟨(some 11), .mov (.t 71), none⟩])
      (.skip)) <|
    .seq
    (.region [⟨(some 101), .mov (.t 2), none⟩,
       ⟨(some 102), .mov (.t 9), none⟩,
       ⟨(some 103), .bin .sub (.t 101) (.t 102), none⟩,
       ⟨(some 104), .bin .geq (.t 103) (.c (.int .i64 2)), none⟩]) <|
    .cond (.t 104)
     (.seq
      (.region [⟨(some 105), .mov (.t 9), none⟩,
         ⟨(some 106), .bin .add (.t 105) (.c (.int .i64 1)), none⟩,
         ⟨(some 12), .mov (.t 106), none⟩]) <|
      .block 6 <|
      .loop [0, 1, 2, 3, 9, 10, 12] <|
       .seq
       (.seq
        (.region [⟨(some 107), .mov (.t 12), none⟩,
           ⟨(some 108), .mov (.t 2), none⟩,
           ⟨(some 109), .bin .lss (.t 107) (.t 108), none⟩]) <|
        .cond (.t 109)
         (.skip)
         (.exit 6)) <|
       .seq
       (.block 7 <|
        .seq
        (.seq
         (.draw false [0, 1, 2, 3, 9, 10, 12, 124] (
            .op ⟨(some 112), .mov (.t 3), none⟩ <|
            .op ⟨(some 113), .mov (.t 0), none⟩ <|
            .op ⟨(some 114), .mov (.t 12), none⟩ <|
            .op ⟨(some 115), .iaddr 2 (.t 113) (.t 114), none⟩ <|
            .op ⟨(some 116), .load true 2 (.t 115), none⟩ <|
            .op ⟨(some 117), .mov (.t 0), none⟩ <|
            .op ⟨(some 118), .mov (.t 12), none⟩ <|
            .op ⟨(some 119), .bin .sub (.t 118) (.c (.int .i64 1)), none⟩ <|
            .op ⟨(some 120), .iaddr 2 (.t 117) (.t 119), none⟩ <|
            .op ⟨(some 121), .load true 2 (.t 120), none⟩ <|
            .op ⟨(some 122), .call (.t 112) [(.t 116), (.t 121)], none⟩ <|
            .op ⟨(some 123), .bin .lss (.t 122) (.c (.int .i64 0)), none⟩ <|
            .op ⟨(some 124), .un .not (.t 123), none⟩ <|
            .done)) <|
         .cond (.t 124)
          (.exit 6)
          (.skip)) <|
        .draw false [0, 1, 2, 3, 9, 10, 12] (
          .op ⟨(some 125), .mov (.t 0), none⟩ <|
          .op ⟨(some 126), .mov (.t 12), none⟩ <|
          .op ⟨(some 127), .mov (.t 0), none⟩ <|
          .op ⟨(some 128), .mov (.t 12), none⟩ <|
          .op ⟨(some 129), .bin .sub (.t 128) (.c (.int .i64 1)), none⟩ <|
          .op ⟨(some 130), .mov (.t 0), none⟩ <|
          .op ⟨(some 131), .mov (.t 12), none⟩ <|
          .op ⟨(some 132), .bin .sub (.t 131) (.c (.int .i64 1)), none⟩ <|
          .op ⟨(some 133), .iaddr 2 (.t 130) (.t 132), none⟩ <|
          .op ⟨(some 134), .load true 2 (.t 133), none⟩ <|
          .op ⟨(some 135), .mov (.t 0), none⟩ <|
          .op ⟨(some 136), .mov (.t 12), none⟩ <|
          .op ⟨(some 137), .iaddr 2 (.t 135) (.t 136), none⟩ <|
          .op ⟨(some 138), .load true 2 (.t 137), none⟩ <|
          .op ⟨(some 139), .iaddr 2 (.t 125) (.t 126), none⟩ <|
          .op ⟨none, .store 2 (.t 139) (.t 134), none⟩ <|
          .op ⟨(some 140), .iaddr 2 (.t 127) (.t 129), none⟩ <|
          .op ⟨none, .store 2 (.t 140) (.t 138), none⟩ <|
          .done)) <|
       .region [⟨(some 110), .mov (.t 12), none⟩,
         ⟨(some 111), .bin .add (.t 110) (.c (.int .i64 1)), none⟩,
         ⟨(some 12), .mov (.t 111), none⟩])
     (.skip)) <|
   .region [⟨(some 17), .mov (.t 10), none⟩,
     ⟨(some 18), .bin .add (.t 17) (.c (.int .i64 1)), none⟩,
     ⟨(some 10), .mov (.t 18), none⟩]) <|
 .seq
 (.region [⟨(some 8), .mov (.c (.bool false)), none⟩]) <|
 .ret, [.slot 8]⟩
theorem c31 : Code1 Try.prog 31 141 b31 := Code1.mk' Try.func31 (by kernel_rfl) (by kernel_rfl) Try.ntmps31

/-- slices.partitionEqualCmpFunc[fusee/marzullo.edge] -/
def b32 : IFn := ⟨
 .seq
 (.region [⟨(some 10), .mov (.c (.int .i64 0)), none⟩]) <|
 .seq
 (.draw false [0, 1, 2, 4] (
    .op ⟨(some 13), .mov (.t 0), none⟩ <|
    .op ⟨(some 14), .mov (.t 1), none⟩ <|
    .op ⟨(some 15), .mov (.t 0), none⟩ <|
    .op ⟨(some 16), .mov (.t 3), none⟩ <|
    .op ⟨(some 17), .mov (.t 0), none⟩ <|
    .op ⟨(some 18), .mov (.t 3), none⟩ <|
    .op ⟨(some 19), .iaddr 2 (.t 17) (.t 18), none⟩ <|
    .op ⟨(some 20), .load true 2 (.t 19), none⟩ <|
    .op ⟨(some 21), .mov (.t 0), none⟩ <|
    .op ⟨(some 22), .mov (.t 1), none⟩ <|
    .op ⟨(some 23), .iaddr 2 (.t 21) (.t 22), none⟩ <|
    .op ⟨(some 24), .load true 2 (.t 23), none⟩ <|
    .op ⟨(some 25), .iaddr 2 (.t 13) (.t 14), none⟩ <|
    .op ⟨none, .store 2 (.t 25) (.t 20), none⟩ <|
    .op ⟨(some 26), .iaddr 2 (.t 15) (.t 16), none⟩ <|
    .op ⟨none, .store 2 (.t 26) (.t 24), none⟩ <|
    .done)) <|
 .seq
 (.region [⟨(some 27), .mov (.t 1), none⟩,
    ⟨(some 28), .bin .add (.t 27) (.c (.int .i64 1)), none⟩,
    ⟨(some 29), .mov (.t 2), none⟩,
    ⟨(some 30), .bin .sub (.t 29) (.c (.int .i64 1)), none⟩,
    ⟨(some 11), .mov (.t 28), none⟩,
    ⟨(some 12), .mov (.t 30), none⟩]) <|
 .seq
 (.block 0 <|
  .loop [0, 1, 4, 11, 12] <|
   .block 1 <|
   .seq
   (.block 2 <|
    .loop [0, 1, 4, 11, 12] <|
     .seq
     (.seq
      (.draw false [0, 1, 4, 11, 12, 47] (
         .op ⟨(some 31), .mov (.t 11), none⟩ <|
         .op ⟨(some 32), .mov (.t 12), none⟩ <|
         .op ⟨(some 33), .bin .leq (.t 31) (.t 32), none⟩ <|
         .op ⟨(some 34), .mov (.t 33), none⟩ <|
         .op ⟨(some 35), .mov (.t 4), (some (34, true))⟩ <|
         .op ⟨(some 36), .mov (.t 0), (some (34, true))⟩ <|
         .op ⟨(some 37), .mov (.t 1), (some (34, true))⟩ <|
         .op ⟨(some 38), .iaddr 2 (.t 36) (.t 37), (some (34, true))⟩ <|
         .op ⟨(some 39), .load true 2 (.t 38), (some (34, true))⟩ <|
         .op ⟨(some 40), .mov (.t 0), (some (34, true))⟩ <|
         .op ⟨(some 41), .mov (.t 11), (some (34, true))⟩ <|
         .op ⟨(some 42), .iaddr 2 (.t 40) (.t 41), (some (34, true))⟩ <|
         .op ⟨(some 43), .load true 2 (.t 42), (some (34, true))⟩ <|
         .op ⟨(some 44), .call (.t 35) [(.t 39), (.t 43)], (some (34, true))⟩ <|
         .op ⟨(some 45), .bin .lss (.t 44) (.c (.int .i64 0)), (some (34, true))⟩ <|
         .op ⟨(some 46), .un .not (.t 45), (some (34, true))⟩ <|
         .op ⟨(some 47), .pick (.t 34) (.t 46) (.c (.bool false)), none⟩ <|
         .done)) <|
      .cond (.t 47)
       (.skip)
       (.exit 2)) <|
     .block 3 <|
     .region [⟨(some 48), .mov (.t 11), none⟩,
       ⟨(some 49), .bin .add (.t 48) (.c (.int .i64 1)), none⟩,
       ⟨(some 11), .mov (.t 49), none⟩]) <|
   .seq
   (.block 4 <|
    .loop [0, 1, 4, 11, 12] <|
     .seq
     (.seq
      (.draw false [0, 1, 4, 11, 12, 65] (
         .op ⟨(some 50), .mov (.t 11), none⟩ <|
         .op ⟨(some 51), .mov (.t 12), none⟩ <|
         .op ⟨(some 52), .bin .leq (.t 50) (.t 51), none⟩ <|
         .op ⟨(some 53), .mov (.t 52), none⟩ <|
         .op ⟨(some 54), .mov (.t 4), (some (53, true))⟩ <|
         .op ⟨(some 55), .mov (.t 0), (some (53, true))⟩ <|
         .op ⟨(some 56), .mov (.t 1), (some (53, true))⟩ <|
         .op ⟨(some 57), .iaddr 2 (.t 55) (.t 56), (some (53, true))⟩ <|
         .op ⟨(some 58), .load true 2 (.t 57), (some (53, true))⟩ <|
         .op ⟨(some 59), .mov (.t 0), (some (53, true))⟩ <|
         .op ⟨(some 60), .mov (.t 12), (some (53, true))⟩ <|
         .op ⟨(some 61), .iaddr 2 (.t 59) (.t 60), (some (53, true))⟩ <|
         .op ⟨(some 62), .load true 2 (.t 61), (some (53, true))⟩ <|
         .op ⟨(some 63), .call (.t 54) [(.t 58), (.t 62)], (some (53, true))⟩ <|
         .op ⟨(some 64), .bin .lss (.t 63) (.c (.int .i64 0)), (some (53, true))⟩ <|
         .op ⟨(some 65), .pick (.t 53) (.t 64) (.c (.bool false)), none⟩ <|
         .done)) <|
      .cond (.t 65)
       (.skip)
       (.exit 4)) <|
     .block 5 <|
     .region [⟨(some 66), .mov (.t 12), none⟩,
       ⟨(some 67), .bin .sub (.t 66) (.c (.int .i64 1)), none⟩,
       ⟨(some 12), .mov (.t 67), none⟩]) <|
   .seq
   (.seq
    (.region [⟨(some 68), .mov (.t 11), none⟩,
       ⟨(some 69), .mov (.t 12), none⟩,
       ⟨(some 70), .bin .gtr (.t 68) (.t 69), none⟩]) <|
    .cond (.t 70)
     (.exit 0)
     (.skip)) <|
   .seq
   (.draw false [0, 1, 4, 11, 12] (
      .op ⟨(some 71), .mov (.t 0), none⟩ <|
      .op ⟨(some 72), .mov (.t 11), none⟩ <|
      .op ⟨(some 73), .mov (.t 0), none⟩ <|
      .op ⟨(some 74), .mov (.t 12), none⟩ <|
      .op ⟨(some 75), .mov (.t 0), none⟩ <|
      .op ⟨(some 76), .mov (.t 12), none⟩ <|
      .op ⟨(some 77), .iaddr 2 (.t 75) (.t 76), none⟩ <|
      .op ⟨(some 78), .load true 2 (.t 77), none⟩ <|
      .op ⟨(some 79), .mov (.t 0), none⟩ <|
      .op ⟨(some 80), .mov (.t 11), none⟩ <|
      .op ⟨(some 81), .iaddr 2 (.t 79) (.t 80), none⟩ <|
      .op ⟨(some 82), .load true 2 (.t 81), none⟩ <|
      .op ⟨(some 83), .iaddr 2 (.t 71) (.t 72), none⟩ <|
      .op ⟨none, .store 2 (.t 83) (.t 78), none⟩ <|
      .op ⟨(some 84), .iaddr 2 (.t 73) (.t 74), none⟩ <|
      .op ⟨none, .store 2 (.t 84) (.t 82), none⟩ <|
      .done)) <|
   .seq
   (.region [⟨(some 85), .mov (.t 11), none⟩,
      ⟨(some 86), .bin .add (.t 85) (.c (.int .i64 1)), none⟩,
      ⟨(some 11), .mov (.t 86), none⟩]) <|
   .region [⟨(some 87), .mov (.t 12), none⟩,
     ⟨(some 88), .bin .sub (.t 87) (.c (.int .i64 1)), none⟩,
     ⟨(some 12), .mov (.t 88), none⟩]) <|
 .seq
 (.region [⟨(some 89), .mov (.t 11), none⟩,
    ⟨(some 10), .mov (.t 89), none⟩]) <|
 .ret, [.slot 10]⟩
theorem c32 : Code1 Try.prog 32 90 b32 := Code1.mk' Try.func32 (by kernel_rfl) (by kernel_rfl) Try.ntmps32

/-- slices.partitionCmpFunc[fusee/marzullo.edge] -/
def b33 : IFn := ⟨
 .seq
 (.region [⟨(some 10), .mov (.c (.int .i64 0)), none⟩,
    ⟨(some 11), .mov (.c (.bool false)), none⟩]) <|
 .seq
 (.draw false [0, 1, 2, 4] (
    .op ⟨(some 14), .mov (.t 0), none⟩ <|
    .op ⟨(some 15), .mov (.t 1), none⟩ <|
    .op ⟨(some 16), .mov (.t 0), none⟩ <|
    .op ⟨(some 17), .mov (.t 3), none⟩ <|
    .op ⟨(some 18), .mov (.t 0), none⟩ <|
    .op ⟨(some 19), .mov (.t 3), none⟩ <|
    .op ⟨(some 20), .iaddr 2 (.t 18) (.t 19), none⟩ <|
    .op ⟨(some 21), .load true 2 (.t 20), none⟩ <|
    .op ⟨(some 22), .mov (.t 0), none⟩ <|
    .op ⟨(some 23), .mov (.t 1), none⟩ <|
    .op ⟨(some 24), .iaddr 2 (.t 22) (.t 23), none⟩ <|
    .op ⟨(some 25), .load true 2 (.t 24), none⟩ <|
    .op ⟨(some 26), .iaddr 2 (.t 14) (.t 15), none⟩ <|
    .op ⟨none, .store 2 (.t 26) (.t 21), none⟩ <|
    .op ⟨(some 27), .iaddr 2 (.t 16) (.t 17), none⟩ <|
    .op ⟨none, .store 2 (.t 27) (.t 25), none⟩ <|
    .done)) <|
 .seq
 (.region [⟨(some 28), .mov (.t 1), none⟩,
    ⟨(some 29), .bin .add (.t 28) (.c (.int .i64 1)), none⟩,
    ⟨(some 30), .mov (.t 2), none⟩,
    ⟨(some 31), .bin .sub (.t 30) (.c (.int .i64 1)), none⟩,
    ⟨(some 12), .mov (.t 29), none⟩,
    ⟨(some 13), .mov (.t 31), none⟩]) <|
 .seq
 (.block 0 <|
  .loop [0, 1, 4, 12, 13] <|
   .seq
   (.seq
    (.draw false [0, 1, 4, 12, 13, 47] (
       .op ⟨(some 32), .mov (.t 12), none⟩ <|
       .op ⟨(some 33), .mov (.t 13), none⟩ <|
       .op ⟨(some 34), .bin .leq (.t 32) (.t 33), none⟩ <|
       .op ⟨(some 35), .mov (.t 34), none⟩ <|
       .op ⟨(some 36), .mov (.t 4), (some (35, true))⟩ <|
       .op ⟨(some 37), .mov (.t 0), (some (35, true))⟩ <|
       .op ⟨(some 38), .mov (.t 12), (some (35, true))⟩ <|
       .op ⟨(some 39), .iaddr 2 (.t 37) (.t 38), (some (35, true))⟩ <|
       .op ⟨(some 40), .load true 2 (.t 39), (some (35, true))⟩ <|
       .op ⟨(some 41), .mov (.t 0), (some (35, true))⟩ <|
       .op ⟨(some 42), .mov (.t 1), (some (35, true))⟩ <|
       .op ⟨(some 43), .iaddr 2 (.t 41) (.t 42), (some (35, true))⟩ <|
       .op ⟨(some 44), .load true 2 (.t 43), (some (35, true))⟩ <|
       .op ⟨(some 45), .call (.t 36) [(.t 40), (.t 44)], (some (35, true))⟩ <|
       .op ⟨(some 46), .bin .lss (.t 45) (.c (.int .i64 0)), (some (35, true))⟩ <|
       .op ⟨(some 47), .pick (.t 35) (.t 46) (.c (.bool false)), none⟩ <|
       .done)) <|
    .cond (.t 47)
     (.skip)
     (.exit 0)) <|
   .block 1 <|
   .region [⟨(some 48), .mov (.t 12), none⟩,
     ⟨(some 49), .bin .add (.t 48) (.c (.int .i64 1)), none⟩,
     ⟨(some 12), .mov (.t 49), none⟩]) <|
 .seq
 (.block 2 <|
  .loop [0, 1, 4, 12, 13] <|
   .seq
   (.seq
    (.draw false [0, 1, 4, 12, 13, 66] (
       .op ⟨(some 50), .mov (.t 12), none⟩ <|
       .op ⟨(some 51), .mov (.t 13), none⟩ <|
       .op ⟨(some 52), .bin .leq (.t 50) (.t 51), none⟩ <|
       .op ⟨(some 53), .mov (.t 52), none⟩ <|
       .op ⟨(some 54), .mov (.t 4), (some (53, true))⟩ <|
       .op ⟨(some 55), .mov (.t 0), (some (53, true))⟩ <|
       .op ⟨(some 56), .mov (.t 13), (some (53, true))⟩ <|
       .op ⟨(some 57), .iaddr 2 (.t 55) (.t 56), (some (53, true))⟩ <|
       .op ⟨(some 58), .load true 2 (.t 57), (some (53, true))⟩ <|
       .op ⟨(some 59), .mov (.t 0), (some (53, true))⟩ <|
       .op ⟨(some 60), .mov (.t 1), (some (53, true))⟩ <|
       .op ⟨(some 61), .iaddr 2 (.t 59) (.t 60), (some (53, true))⟩ <|
       .op ⟨(some 62), .load true 2 (.t 61), (some (53, true))⟩ <|
       .op ⟨(some 63), .call (.t 54) [(.t 58), (.t 62)], (some (53, true))⟩ <|
       .op ⟨(some 64), .bin .lss (.t 63) (.c (.int .i64 0)), (some (53, true))⟩ <|
       .op ⟨(some 65), .un .not (.t 64), (some (53, true))⟩ <|
       .op ⟨(some 66), .pick (.t 53) (.t 65) (.c (.bool false)), none⟩ <|
       .done)) <|
    .cond (.t 66)
     (.skip)
     (.exit 2)) <|
   .block 3 <|
   .region [⟨(some 67), .mov (.t 13), none⟩,
     ⟨(some 68), .bin .sub (.t 67) (.c (.int .i64 1)), none⟩,
     ⟨(some 13), .mov (.t 68), none⟩]) <|
 .seq
 (.seq
  (.region [⟨(some 69), .mov (.t 12), none⟩,
     ⟨(some 70), .mov (.t 13), none⟩,
     ⟨(some 71), .bin .gtr (.t 69) (.t 70), none⟩]) <|
  .cond (.t 71)
   (.seq
    (.draw false [13] (
       .op ⟨(some 72), .mov (.t 0), none⟩ <|
       .op ⟨(some 73), .mov (.t 13), none⟩ <|
       .op ⟨(some 74), .mov (.t 0), none⟩ <|
       .op ⟨(some 75), .mov (.t 1), none⟩ <|
       .op ⟨(some 76), .mov (.t 0), none⟩ <|
       .op ⟨(some 77), .mov (.t 1), none⟩ <|
       .op ⟨(some 78), .iaddr 2 (.t 76) (.t 77), none⟩ <|
       .op ⟨(some 79), .load true 2 (.t 78), none⟩ <|
       .op ⟨(some 80), .mov (.t 0), none⟩ <|
       .op ⟨(some 81), .mov (.t 13), none⟩ <|
       .op ⟨(some 82), .iaddr 2 (.t 80) (.t 81), none⟩ <|
       .op ⟨(some 83), .load true 2 (.t 82), none⟩ <|
       .op ⟨(some 84), .iaddr 2 (.t 72) (.t 73), none⟩ <|
       .op ⟨none, .store 2 (.t 84) (.t 79), none⟩ <|
       .op ⟨(some 85), .iaddr 2 (.t 74) (.t 75), none⟩ <|
       .op ⟨none, .store 2 (.t 85) (.t 83), none⟩ <|
       .done)) <|
    .seq
    (.region [⟨(some 86), .mov (.t 13), none⟩,
       ⟨(some 10), .mov (.t 86), none⟩,
       ⟨(some 11), .mov (.c (.bool true)), none⟩]) <|
    .ret)
   (.skip)) <|
 .seq
 (.draw false [0, 1, 4, 12, 13] (
    .op ⟨(some 87), .mov (.t 0), none⟩ <|
    .op ⟨(some 88), .mov (.t 12), none⟩ <|
    .op ⟨(some 89), .mov (.t 0), none⟩ <|
    .op ⟨(some 90), .mov (.t 13), none⟩ <|
    .op ⟨(some 91), .mov (.t 0), none⟩ <|
    .op ⟨(some 92), .mov (.t 13), none⟩ <|
    .op ⟨(some 93), .iaddr 2 (.t 91) (.t 92), none⟩ <|
    .op ⟨(some 94), .load true 2 (.t 93), none⟩ <|
    .op ⟨(some 95), .mov (.t 0), none⟩ <|
    .op ⟨(some 96), .mov (.t 12), none⟩ <|
    .op ⟨(some 97), .iaddr 2 (.t 95) (.t 96), none⟩ <|
    .op ⟨(some 98), .load true 2 (.t 97), none⟩ <|
    .op ⟨(some 99), .iaddr 2 (.t 87) (.t 88), none⟩ <|
    .op ⟨none, .store 2 (.t 99) (.t 94), none⟩ <|
    .op ⟨(some 100), .iaddr 2 (.t 89) (.t 90), none⟩ <|
    .op ⟨none, .store 2 (.t 100) (.t 98), none⟩ <|
    .done)) <|
 .seq
 (.region [⟨(some 101), .mov (.t 12), none⟩,
    ⟨(some 102), .bin .add (.t 101) (.c (.int .i64 1)), none⟩,
    ⟨(some 12), .mov (.t 102), none⟩]) <|
 .seq
 (.region [⟨(some 103), .mov (.t 13), none⟩,
    ⟨(some 104), .bin .sub (.t 103) (.c (.int .i64 1)), none⟩,
    ⟨(some 13), .mov (.t 104), none⟩]) <|
 .seq
 (.block 4 <|
  .loop [0, 1, 4, 12, 13] <|
   .block 5 <|
   .seq
   (.block 6 <|
    .loop [0, 1, 4, 12, 13] <|
     .seq
     (.seq
      (.draw false [0, 1, 4, 12, 13, 120] (
         .op ⟨(some 105), .mov (.t 12), none⟩ <|
         .op ⟨(some 106), .mov (.t 13), none⟩ <|
         .op ⟨(some 107), .bin .leq (.t 105) (.t 106), none⟩ <|
         .op ⟨(some 108), .mov (.t 107), none⟩ <|
         .op ⟨(some 109), .mov (.t 4), (some (108, true))⟩ <|
         .op ⟨(some 110), .mov (.t 0), (some (108, true))⟩ <|
         .op ⟨(some 111), .mov (.t 12), (some (108, true))⟩ <|
         .op ⟨(some 112), .iaddr 2 (.t 110) (.t 111), (some (108, true))⟩ <|
         .op ⟨(some 113), .load true 2 (.t 112), (some (108, true))⟩ <|
         .op ⟨(some 114), .mov (.t 0), (some (108, true))⟩ <|
         .op ⟨(some 115), .mov (.t 1), (some (108, true))⟩ <|
         .op ⟨(some 116), .iaddr 2 (.t 114) (.t 115), (some (108, true))⟩ <|
         .op ⟨(some 117), .load true 2 (.t 116), (some (108, true))⟩ <|
         .op ⟨(some 118), .call (.t 109) [(.t 113), (.t 117)], (some (108, true))⟩ <|
         .op ⟨(some 119), .bin .lss (.t 118) (.c (.int .i64 0)), (some (108, true))⟩ <|
         .op ⟨(some 120), .pick (.t 108) (.t 119) (.c (.bool false)), none⟩ <|
         .done)) <|
      .cond (.t 120)
       (.skip)
       (.exit 6)) <|
     .block 7 <|
     .region [⟨(some 121), .mov (.t 12), none⟩,
       ⟨(some 122), .bin .add (.t 121) (.c (.int .i64 1)), none⟩,
       ⟨(some 12), .mov (.t 122), none⟩]) <|
   .seq
   (.block 8 <|
    .loop [0, 1, 4, 12, 13] <|
     .seq
     (.seq
      (.draw false [0, 1, 4, 12, 13, 139] (
         .op ⟨(some 123), .mov (.t 12), none⟩ <|
         .op ⟨(some 124), .mov (.t 13), none⟩ <|
         .op ⟨(some 125), .bin .leq (.t 123) (.t 124), none⟩ <|
         .op ⟨(some 126), .mov (.t 125), none⟩ <|
         .op ⟨(some 127), .mov (.t 4), (some (126, true))⟩ <|
         .op ⟨(some 128), .mov (.t 0), (some (126, true))⟩ <|
         .op ⟨(some 129), .mov (.t 13), (some (126, true))⟩ <|
         .op ⟨(some 130), .iaddr 2 (.t 128) (.t 129), (some (126, true))⟩ <|
         .op ⟨(some 131), .load true 2 (.t 130), (some (126, true))⟩ <|
         .op ⟨(some 132), .mov (.t 0), (some (126, true))⟩ <|
         .op ⟨(some 133), .mov (.t 1), (some (126, true))⟩ <|
         .op ⟨(some 134), .iaddr 2 (.t 132) (.t 133), (some (126, true))⟩ <|
         .op ⟨(some 135), .load true 2 (.t 134), (some (126, true))⟩ <|
         .op ⟨(some 136), .call (.t 127) [(.t 131), (.t 135)], (some (126, true))⟩ <|
         .op ⟨(some 137), .bin .lss (.t 136) (.c (.int .i64 0)), (some (126, true))⟩ <|
         .op ⟨(some 138), .un .not (.t 137), (some (126, true))⟩ <|
         .op ⟨(some 139), .pick (.t 126) (.t 138) (.c (.bool false)), none⟩ <|
         .done)) <|
      .cond (.t 139)
       (.skip)
       (.exit 8)) <|
     .block 9 <|
     .region [⟨(some 140), .mov (.t 13), none⟩,
       ⟨(some 141), .bin .sub (.t 140) (.c (.int .i64 1)), none⟩,
       ⟨(some 13), .mov (.t 141), none⟩]) <|
   .seq
   (.seq
    (.region [⟨(some 142), .mov (.t 12), none⟩,
       ⟨(some 143), .mov (.t 13), none⟩,
       ⟨(some 144), .bin .gtr (.t 142) (.t 143), none⟩]) <|
    .cond (.t 144)
     (.exit 4)
     (.skip)) <|
   .seq
   (.draw false [0, 1, 4, 12, 13] (
      .op ⟨(some 145), .mov (.t 0), none⟩ <|
      .op ⟨(some 146), .mov (.t 12), none⟩ <|
      .op ⟨(some 147), .mov (.t 0), none⟩ <|
      .op ⟨(some 148), .mov (.t 13), none⟩ <|
      .op ⟨(some 149), .mov (.t 0), none⟩ <|
      .op ⟨(some 150), .mov (.t 13), none⟩ <|
      .op ⟨(some 151), .iaddr 2 (.t 149) (.t 150), none⟩ <|
      .op ⟨(some 152), .load true 2 (.t 151), none⟩ <|
      .op ⟨(some 153), .mov (.t 0), none⟩ <|
      .op ⟨(some 154), .mov (.t 12), none⟩ <|
      .op ⟨(some 155), .iaddr 2 (.t 153) (.t 154), none⟩ <|
      .op ⟨(some 156), .load true 2 (.t 155), none⟩ <|
      .op ⟨(some 157), .iaddr 2 (.t 145) (.t 146), none⟩ <|
      .op ⟨none, .store 2 (.t 157) (.t 152), none⟩ <|
      .op ⟨(some 158), .iaddr 2 (.t 147) (.t 148), none⟩ <|
      .op ⟨none, .store 2 (.t 158) (.t 156), none⟩ <|
      .done)) <|
   .seq
   (.region [⟨(some 159), .mov (.t 12), none⟩,
      ⟨(some 160), .bin .add (.t 159) (.c (.int .i64 1)), none⟩,
      ⟨(some 12), .mov (.t 160), none⟩]) <|
   .region [⟨(some 161), .mov (.t 13), none⟩,
     ⟨(some 162), .bin .sub (.t 161) (.c (.int .i64 1)), none⟩,
     ⟨(some 13), .mov (.t 162), none⟩]) <|
 .seq
 (.draw false [13] (
    .op ⟨(some 163), .mov (.t 0), none⟩ <|
    .op ⟨(some 164), .mov (.t 13), none⟩ <|
    .op ⟨(some 165), .mov (.t 0), none⟩ <|
    .op ⟨(some 166), .mov (.t 1), none⟩ <|
    .op ⟨(some 167), .mov (.t 0), none⟩ <|
    .op ⟨(some 168), .mov (.t 1), none⟩ <|
    .op ⟨(some 169), .iaddr 2 (.t 167) (.t 168), none⟩ <|
    .op ⟨(some 170), .load true 2 (.t 169), none⟩ <|
    .op ⟨(some 171), .mov (.t 0), none⟩ <|
    .op ⟨(some 172), .mov (.t 13), none⟩ <|
    .op ⟨(some 173), .iaddr 2 (.t 171) (.t 172), none⟩ <|
    .op ⟨(some 174), .load true 2 (.t 173), none⟩ <|
    .op ⟨(some 175), .iaddr 2 (.t 163) (.t 164), none⟩ <|
    .op ⟨none, .store 2 (.t 175) (.t 170), none⟩ <|
    .op ⟨(some 176), .iaddr 2 (.t 165) (.t 166), none⟩ <|
    .op ⟨none, .store 2 (.t 176) (.t 174), none⟩ <|
    .done)) <|
 .seq
 (.region [⟨(some 177), .mov (.t 13), none⟩,
    ⟨(some 10), .mov (.t 177), none⟩,
    ⟨(some 11), .mov (.c (.bool false)), none⟩]) <|
 .ret, [.slot 10, .slot 11]⟩
theorem c33 : Code1 Try.prog 33 178 b33 := Code1.mk' Try.func33 (by kernel_rfl) (by kernel_rfl) Try.ntmps33

/-- math/bits.Len32 -/
def b34 : IFn := ⟨
 .seq
 (.region [⟨(some 2), .mov (.c (.int .i64 0)), none⟩]) <|
 .seq
 (.seq
  (.region [⟨(some 3), .mov (.t 0), none⟩,
     ⟨(some 4), .bin .geq (.t 3) (.c (.int .u32 65536)), none⟩]) <|
  .cond (.t 4)
   (.seq
    (.region [⟨(some 5), .mov (.t 0), none⟩,
       ⟨(some 6), .bin .shr (.t 5) (.c (.int .u64 16)), none⟩,
       ⟨(some 0), .mov (.t 6), none⟩]) <|
    .region [⟨(some 2), .mov (.c (.int .i64 16)), none⟩])
   (.skip)) <|
 .seq
 (.seq
  (.region [⟨(some 7), .mov (.t 0), none⟩,
     ⟨(some 8), .bin .geq (.t 7) (.c (.int .u32 256)), none⟩]) <|
  .cond (.t 8)
   (.seq
    (.region [⟨(some 9), .mov (.t 0), none⟩,
       ⟨(some 10), .bin .shr (.t 9) (.c (.int .u64 8)), none⟩,
       ⟨(some 0), .mov (.t 10), none⟩]) <|
    .region [⟨(some 11), .mov (.t 2), none⟩,
      ⟨(some 12), .bin .add (.t 11) (.c (.int .i64 8)), none⟩,
      ⟨(some 2), .mov (.t 12), none⟩])
   (.skip)) <|
 .seq
 (.region [⟨(some 13), .mov (.t 2), none⟩,
    ⟨(some 14), .mov (.t 0), none⟩,
    ⟨(some 15), .conv .u8 (.t 14), none⟩,
    ⟨(some 16), .indexS (.c (.str ⟨#[0, 1, 2, 2, 3, 3, 3, 3, 4, 4, 4, 4, 4, 4, 4, 4, 5, 5, 5, 5, 5, 5, 5, 5, 5, 5, 5, 5, 5, 5, 5, 5, 6, 6, 6, 6, 6, 6, 6, 6, 6, 6, 6, 6, 6, 6, 6, 6, 6, 6, 6, 6, 6, 6, 6, 6, 6, 6, 6, 6, 6, 6, 6, 6, 7, 7, 7, 7, 7, 7, 7, 7, 7, 7, 7, 7, 7, 7, 7, 7, 7, 7, 7, 7, 7, 7, 7, 7, 7, 7, 7, 7, 7, 7, 7, 7, 7, 7, 7, 7, 7, 7, 7, 7, 7, 7, 7, 7, 7, 7, 7, 7, 7, 7, 7, 7, 7, 7, 7, 7, 7, 7, 7, 7, 7, 7, 7, 7, 8, 8, 8, 8, 8, 8, 8, 8, 8, 8, 8, 8, 8, 8, 8, 8, 8, 8, 8, 8, 8, 8, 8, 8, 8, 8, 8, 8, 8, 8, 8, 8, 8, 8, 8, 8, 8, 8, 8, 8, 8, 8, 8, 8, 8, 8, 8, 8, 8, 8, 8, 8, 8, 8, 8, 8, 8, 8, 8, 8, 8, 8, 8, 8, 8, 8, 8, 8, 8, 8, 8, 8, 8, 8, 8, 8, 8, 8, 8, 8, 8, 8, 8, 8, 8, 8, 8, 8, 8, 8, 8, 8, 8, 8, 8, 8, 8, 8, 8, 8, 8, 8, 8, 8, 8, 8, 8, 8, 8, 8, 8, 8, 8, 8, 8, 8, 8, 8, 8, 8, 8, 8, 8, 8, 8, 8, 8, 8]⟩)) (.t 15), none⟩,
    ⟨(some 17), .conv .i64 (.t 16), none⟩,
    ⟨(some 18), .bin .add (.t 13) (.t 17), none⟩,
    ⟨(some 2), .mov (.t 18), none⟩]) <|
 .ret, [.slot 2]⟩
theorem c34 : Code1 Try.prog 34 19 b34 := Code1.mk' Try.func34 (by kernel_rfl) (by kernel_rfl) Try.ntmps34

/-- math/bits.Len64 -/
def b35 : IFn := ⟨
 .seq
 (.region [⟨(some 2), .mov (.c (.int .i64 0)), none⟩]) <|
 .seq
 (.seq
  (.region [⟨(some 3), .mov (.t 0), none⟩,
     ⟨(some 4), .bin .geq (.t 3) (.c (.int .u64 4294967296)), none⟩]) <|
  .cond (.t 4)
   (.seq
    (.region [⟨(some 5), .mov (.t 0), none⟩,
       ⟨(some 6), .bin .shr (.t 5) (.c (.int .u64 32)), none⟩,
       ⟨(some 0), .mov (.t 6), none⟩]) <|
    .region [⟨(some 2), .mov (.c (.int .i64 32)), none⟩])
   (.skip)) <|
 .seq
 (.seq
  (.region [⟨(some 7), .mov (.t 0), none⟩,
     ⟨(some 8), .bin .geq (.t 7) (.c (.int .u64 65536)), none⟩]) <|
  .cond (.t 8)
   (.seq
    (.region [⟨(some 9), .mov (.t 0), none⟩,
       ⟨(some 10), .bin .shr (.t 9) (.c (.int .u64 16)), none⟩,
       ⟨(some 0), .mov (.t 10), none⟩]) <|
    .region [⟨(some 11), .mov (.t 2), none⟩,
      ⟨(some 12), .bin .add (.t 11) (.c (.int .i64 16)), none⟩,
      ⟨(some 2), .mov (.t 12), none⟩])
   (.skip)) <|
 .seq
 (.seq
  (.region [⟨(some 13), .mov (.t 0), none⟩,
     ⟨(some 14), .bin .geq (.t 13) (.c (.int .u64 256)), none⟩]) <|
  .cond (.t 14)
   (.seq
    (.region [⟨(some 15), .mov (.t 0), none⟩,
       ⟨(some 16), .bin .shr (.t 15) (.c (.int .u64 8)), none⟩,
       ⟨(some 0), .mov (.t 16), none⟩]) <|
    .region [⟨(some 17), .mov (.t 2), none⟩,
      ⟨(some 18), .bin .add (.t 17) (.c (.int .i64 8)), none⟩,
      ⟨(some 2), .mov (.t 18), none⟩])
   (.skip)) <|
 .seq
 (.region [⟨(some 19), .mov (.t 2), none⟩,
    ⟨(some 20), .mov (.t 0), none⟩,
    ⟨(some 21), .conv .u8 (.t 20), none⟩,
    ⟨(some 22), .indexS (.c (.str ⟨#[0, 1, 2, 2, 3, 3, 3, 3, 4, 4, 4, 4, 4, 4, 4, 4, 5, 5, 5, 5, 5, 5, 5, 5, 5, 5, 5, 5, 5, 5, 5, 5, 6, 6, 6, 6, 6, 6, 6, 6, 6, 6, 6, 6, 6, 6, 6, 6, 6, 6, 6, 6, 6, 6, 6, 6, 6, 6, 6, 6, 6, 6, 6, 6, 7, 7, 7, 7, 7, 7, 7, 7, 7, 7, 7, 7, 7, 7, 7, 7, 7, 7, 7, 7, 7, 7, 7, 7, 7, 7, 7, 7, 7, 7, 7, 7, 7, 7, 7, 7, 7, 7, 7, 7, 7, 7, 7, 7, 7, 7, 7, 7, 7, 7, 7, 7, 7, 7, 7, 7, 7, 7, 7, 7, 7, 7, 7, 7, 8, 8, 8, 8, 8, 8, 8, 8, 8, 8, 8, 8, 8, 8, 8, 8, 8, 8, 8, 8, 8, 8, 8, 8, 8, 8, 8, 8, 8, 8, 8, 8, 8, 8, 8, 8, 8, 8, 8, 8, 8, 8, 8, 8, 8, 8, 8, 8, 8, 8, 8, 8, 8, 8, 8, 8, 8, 8, 8, 8, 8, 8, 8, 8, 8, 8, 8, 8, 8, 8, 8, 8, 8, 8, 8, 8, 8, 8, 8, 8, 8, 8, 8, 8, 8, 8, 8, 8, 8, 8, 8, 8, 8, 8, 8, 8, 8, 8, 8, 8, 8, 8, 8, 8, 8, 8, 8, 8, 8, 8, 8, 8, 8, 8, 8, 8, 8, 8, 8, 8, 8, 8, 8, 8, 8, 8, 8, 8]⟩)) (.t 21), none⟩,
    ⟨(some 23), .conv .i64 (.t 22), none⟩,
    ⟨(some 24), .bin .add (.t 19) (.t 23), none⟩,
    ⟨(some 2), .mov (.t 24), none⟩]) <|
 .ret, [.slot 2]⟩
theorem c35 : Code1 Try.prog 35 25 b35 := Code1.mk' Try.func35 (by kernel_rfl) (by kernel_rfl) Try.ntmps35

/-- slices.siftDownCmpFunc[fusee/marzullo.edge] -/
def b36 : IFn := ⟨
 .seq
 (.region [⟨(some 12), .mov (.t 1), none⟩,
    ⟨(some 10), .mov (.t 12), none⟩]) <|
 .block 0 <|
 .loop [0, 2, 3, 4, 10] <|
  .block 1 <|
  .seq
  (.region [⟨(some 13), .mov (.t 10), none⟩,
     ⟨(some 14), .bin .mul (.c (.int .i64 2)) (.t 13), none⟩,
     ⟨(some 15), .bin .add (.t 14) (.c (.int .i64 1)), none⟩,
     ⟨(some 11), .mov (.t 15), none⟩]) <|
  .seq
  (.seq
   (.region [⟨(some 16), .mov (.t 11), none⟩,
      ⟨(some 17), .mov (.t 2), none⟩,
      ⟨(some 18), .bin .geq (.t 16) (.t 17), none⟩]) <|
   .cond (.t 18)
    (.exit 0)
    (.skip)) <|
  .seq
  (.seq
   (.draw false [0, 2, 3, 4, 10, 11, 40] (
      .op ⟨(some 19), .mov (.t 11), none⟩ <|
      .op ⟨(some 20), .bin .add (.t 19) (.c (.int .i64 1)), none⟩ <|
      .op ⟨(some 21), .mov (.t 2), none⟩ <|
      .op ⟨(some 22), .bin .lss (.t 20) (.t 21), none⟩ <|
      .op ⟨(some 23), .mov (.t 22), none⟩ <|
      .op ⟨(some 24), .mov (.t 4), (some (23, true))⟩ <|
      .op ⟨(some 25), .mov (.t 0), (some (23, true))⟩ <|
      .op ⟨(some 26), .mov (.t 3), (some (23, true))⟩ <|
      .op ⟨(some 27), .mov (.t 11), (some (23, true))⟩ <|
      .op ⟨(some 28), .bin .add (.t 26) (.t 27), (some (23, true))⟩ <|
      .op ⟨(some 29), .iaddr 2 (.t 25) (.t 28), (some (23, true))⟩ <|
      .op ⟨(some 30), .load true 2 (.t 29), (some (23, true))⟩ <|
      .op ⟨(some 31), .mov (.t 0), (some (23, true))⟩ <|
      .op ⟨(some 32), .mov (.t 3), (some (23, true))⟩ <|
      .op ⟨(some 33), .mov (.t 11), (some (23, true))⟩ <|
      .op ⟨(some 34), .bin .add (.t 32) (.t 33), (some (23, true))⟩ <|
      .op ⟨(some 35), .bin .add (.t 34) (.c (.int .i64 1)), (some (23, true))⟩ <|
      .op ⟨(some 36), .iaddr 2 (.t 31) (.t 35), (some (23, true))⟩ <|
      .op ⟨(some 37), .load true 2 (.t 36), (some (23, true))⟩ <|
      .op ⟨(some 38), .call (.t 24) [(.t 30), (.t 37)], (some (23, true))⟩ <|
      .op ⟨(some 39), .bin .lss (.t 38) (.c (.int .i64 0)), (some (23, true))⟩ <|
      .op ⟨(some 40), .pick (.t 23) (.t 39) (.c (.bool false)), none⟩ <|
      .done)) <|
   .cond (.t 40)
    (.region [⟨(some 41), .mov (.t 11), none⟩,
       ⟨(some 42), .bin .add (.t 41) (.c (.int .i64 1)), none⟩,
       ⟨(some 11), .mov (.t 42), none⟩])
    (.skip)) <|
  .seq
  (.seq
   (.draw false [0, 2, 3, 4, 10, 11, 58] (
      .op ⟨(some 43), .mov (.t 4), none⟩ <|
      .op ⟨(some 44), .mov (.t 0), none⟩ <|
      .op ⟨(some 45), .mov (.t 3), none⟩ <|
      .op ⟨(some 46), .mov (.t 10), none⟩ <|
      .op ⟨(some 47), .bin .add (.t 45) (.t 46), none⟩ <|
      .op ⟨(some 48), .iaddr 2 (.t 44) (.t 47), none⟩ <|
      .op ⟨(some 49), .load true 2 (.t 48), none⟩ <|
      .op ⟨(some 50), .mov (.t 0), none⟩ <|
      .op ⟨(some 51), .mov (.t 3), none⟩ <|
      .op ⟨(some 52), .mov (.t 11), none⟩ <|
      .op ⟨(some 53), .bin .add (.t 51) (.t 52), none⟩ <|
      .op ⟨(some 54), .iaddr 2 (.t 50) (.t 53), none⟩ <|
      .op ⟨(some 55), .load true 2 (.t 54), none⟩ <|
      .op ⟨(some 56), .call (.t 43) [(.t 49), (.t 55)], none⟩ <|
      .op ⟨(some 57), .bin .lss (.t 56) (.c (.int .i64 0)), none⟩ <|
      .op ⟨(some 58), .un .not (.t 57), none⟩ <|
      .done)) <|
   .cond (.t 58)
    (.ret)
    (.skip)) <|
  .seq
  (.draw false [0, 2, 3, 4, 11] (
     .op ⟨(some 59), .mov (.t 0), none⟩ <|
     .op ⟨(some 60), .mov (.t 3), none⟩ <|
     .op ⟨(some 61), .mov (.t 10), none⟩ <|
     .op ⟨(some 62), .bin .add (.t 60) (.t 61), none⟩ <|
     .op ⟨(some 63), .mov (.t 0), none⟩ <|
     .op ⟨(some 64), .mov (.t 3), none⟩ <|
     .op ⟨(some 65), .mov (.t 11), none⟩ <|
     .op ⟨(some 66), .bin .add (.t 64) (.t 65), none⟩ <|
     .op ⟨(some 67), .mov (.t 0), none⟩ <|
     .op ⟨(some 68), .mov (.t 3), none⟩ <|
     .op ⟨(some 69), .mov (.t 11), none⟩ <|
     .op ⟨(some 70), .bin .add (.t 68) (.t 69), none⟩ <|
     .op ⟨(some 71), .iaddr 2 (.t 67) (.t 70), none⟩ <|
     .op ⟨(some 72), .load true 2 (.t 71), none⟩ <|
     .op ⟨(some 73), .mov (.t 0), none⟩ <|
     .op ⟨(some 74), .mov (.t 3), none⟩ <|
     .op ⟨(some 75), .mov (.t 10), none⟩ <|
     .op ⟨(some 76), .bin .add (.t 74) (.t 75), none⟩ <|
     .op ⟨(some 77), .iaddr 2 (.t 73) (.t 76), none⟩ <|
     .op ⟨(some 78), .load true 2 (.t 77), none⟩ <|
     .op ⟨(some 79), .iaddr 2 (.t 59) (.t 62), none⟩ <|
     .op ⟨none, .store 2 (.t 79) (.t 72), none⟩ <|
     .op ⟨(some 80), .iaddr 2 (.t 63) (.t 66), none⟩ <|
     .op ⟨none, .store 2 (.t 80) (.t 78), none⟩ <|
     .done)) <|
  .region [⟨(some 81), .mov (.t 11), none⟩,
    ⟨(some 10), .mov (.t 81), none⟩], []⟩
theorem c36 : Code1 Try.prog 36 82 b36 := Code1.mk' Try.func36 (by kernel_rfl) (by kernel_rfl) Try.ntmps36

/-- slices.nextPowerOfTwo -/
def b37 : IFn := ⟨
 .seq
 (.region [⟨(some 2), .mov (.c (.int .u64 0)), none⟩]) <|
 .seq
 (.region [⟨(some 3), .mov (.t 0), none⟩,
    ⟨(some 4), .conv .u64 (.t 3), none⟩,
    ⟨(some 5), .call (.f 24) [(.t 4)], none⟩,
    ⟨(some 6), .bin .shl (.c (.int .u64 1)) (.t 5), none⟩,
    ⟨(some 2), .mov (.t 6), none⟩]) <|
 .ret, [.slot 2]⟩
theorem c37 : Code1 Try.prog 37 7 b37 := Code1.mk' Try.func37 (by kernel_rfl) (by kernel_rfl) Try.ntmps37

/-- slices.xorshift.Next -/
def b38 : IFn := ⟨
 .seq
 (.region [⟨(some 2), .mov (.c (.int .u64 0)), none⟩]) <|
 .seq
 (.draw false [0] (
    .op ⟨(some 3), .mov (.t 0), none⟩ <|
    .op ⟨(some 4), .nilck (.t 3), none⟩ <|
    .op ⟨(some 5), .load false 1 (.t 4), none⟩ <|
    .op ⟨(some 6), .mov (.t 0), none⟩ <|
    .op ⟨(some 7), .nilck (.t 6), none⟩ <|
    .op ⟨(some 8), .load false 1 (.t 7), none⟩ <|
    .op ⟨(some 9), .bin .shl (.t 8) (.c (.int .u64 13)), none⟩ <|
    .op ⟨(some 10), .bin .xor (.t 5) (.t 9), none⟩ <|
    .op ⟨(some 11), .nilck (.t 3), none⟩ <|
    .op ⟨none, .store 1 (.t 11) (.t 10), none⟩ <|
    .done)) <|
 .seq
 (.draw false [0] (
    .op ⟨(some 12), .mov (.t 0), none⟩ <|
    .op ⟨(some 13), .nilck (.t 12), none⟩ <|
    .op ⟨(some 14), .load false 1 (.t 13), none⟩ <|
    .op ⟨(some 15), .mov (.t 0), none⟩ <|
    .op ⟨(some 16), .nilck (.t 15), none⟩ <|
    .op ⟨(some 17), .load false 1 (.t 16), none⟩ <|
    .op ⟨(some 18), .bin .shr (.t 17) (.c (.int .u64 7)), none⟩ <|
    .op ⟨(some 19), .bin .xor (.t 14) (.t 18), none⟩ <|
    .op ⟨(some 20), .nilck (.t 12), none⟩ <|
    .op ⟨none, .store 1 (.t 20) (.t 19), none⟩ <|
    .done)) <|
 .seq
 (.draw false [0] (
    .op ⟨(some 21), .mov (.t 0), none⟩ <|
    .op ⟨(some 22), .nilck (.t 21), none⟩ <|
    .op ⟨(some 23), .load false 1 (.t 22), none⟩ <|
    .op ⟨(some 24), .mov (.t 0), none⟩ <|
    .op ⟨(some 25), .nilck (.t 24), none⟩ <|
    .op ⟨(some 26), .load false 1 (.t 25), none⟩ <|
    .op ⟨(some 27), .bin .shl (.t 26) (.c (.int .u64 17)), none⟩ <|
    .op ⟨(some 28), .bin .xor (.t 23) (.t 27), none⟩ <|
    .op ⟨(some 29), .nilck (.t 21), none⟩ <|
    .op ⟨none, .store 1 (.t 29) (.t 28), none⟩ <|
    .done)) <|
 .seq
 (.region [⟨(some 30), .mov (.t 0), none⟩,
    ⟨(some 31), .nilck (.t 30), none⟩,
    ⟨(some 32), .load false 1 (.t 31), none⟩,
    ⟨(some 2), .mov (.t 32), none⟩]) <|
 .ret, [.slot 2]⟩
theorem c38 : Code1 Try.prog 38 33 b38 := Code1.mk' Try.func38 (by kernel_rfl) (by kernel_rfl) Try.ntmps38

/-- slices.medianAdjacentCmpFunc[fusee/marzullo.edge] -/
def b39 : IFn := ⟨
 .seq
 (.region [⟨(some 8), .mov (.c (.int .i64 0)), none⟩]) <|
 .seq
 (.region [⟨(some 9), .mov (.t 0), none⟩,
    ⟨(some 10), .mov (.t 1), none⟩,
    ⟨(some 11), .bin .sub (.t 10) (.c (.int .i64 1)), none⟩,
    ⟨(some 12), .mov (.t 1), none⟩,
    ⟨(some 13), .mov (.t 1), none⟩,
    ⟨(some 14), .bin .add (.t 13) (.c (.int .i64 1)), none⟩,
    ⟨(some 15), .mov (.t 2), none⟩,
    ⟨(some 16), .mov (.t 3), none⟩,
    ⟨(some 17), .call (.f 40) [(.t 9), (.t 11), (.t 12), (.t 14), (.t 15), (.t 16)], none⟩,
    ⟨(some 8), .mov (.t 17), none⟩]) <|
 .ret, [.slot 8]⟩
theorem c39 : Code1 Try.prog 39 18 b39 := Code1.mk' Try.func39 (by kernel_rfl) (by kernel_rfl) Try.ntmps39

/-- slices.medianCmpFunc[fusee/marzullo.edge] -/
def b40 : IFn := ⟨
 .seq
 (.region [⟨(some 12), .mov (.c (.int .i64 0)), none⟩]) <|
 .seq
 (.region [⟨(some 14), .mov (.t 0), none⟩,
    ⟨(some 15), .mov (.t 1), none⟩,
    ⟨(some 16), .mov (.t 2), none⟩,
    ⟨(some 17), .mov (.t 4), none⟩,
    ⟨(some 18), .mov (.t 5), none⟩,
    ⟨(some 19), .call (.f 41) [(.t 14), (.t 15), (.t 16), (.t 17), (.t 18)], none⟩,
    ⟨(some 13), .mov (.t 19), none⟩,
    ⟨(some 20), .extract (.t 13) 0, none⟩,
    ⟨(some 21), .extract (.t 13) 1, none⟩,
    ⟨(some 1), .mov (.t 20), none⟩,
    ⟨(some 2), .mov (.t 21), none⟩]) <|
 .seq
 (.region [⟨(some 23), .mov (.t 0), none⟩,
    ⟨(some 24), .mov (.t 2), none⟩,
    ⟨(some 25), .mov (.t 3), none⟩,
    ⟨(some 26), .mov (.t 4), none⟩,
    ⟨(some 27), .mov (.t 5), none⟩,
    ⟨(some 28), .call (.f 41) [(.t 23), (.t 24), (.t 25), (.t 26), (.t 27)], none⟩,
    ⟨(some 22), .mov (.t 28), none⟩,
    ⟨(some 29), .extract (.t 22) 0, none⟩,
    ⟨(some 30), .extract (.t 22) 1, none⟩,
    ⟨(some 2), .mov (.t 29), none⟩,
    ⟨(some 3), .mov (.t 30), none⟩]) <|
 .seq
 (.region [⟨(some 32), .mov (.t 0), none⟩,
    ⟨(some 33), .mov (.t 1), none⟩,
    ⟨(some 34), .mov (.t 2), none⟩,
    ⟨(some 35), .mov (.t 4), none⟩,
    ⟨(some 36), .mov (.t 5), none⟩,
    ⟨(some 37), .call (.f 41) [(.t 32), (.t 33), (.t 34), (.t 35), (.t 36)], none⟩,
    ⟨(some 31), .mov (.t 37), none⟩,
    ⟨(some 38), .extract (.t 31) 0, none⟩,
    ⟨(some 39), .extract (.t 31) 1, none⟩,
    ⟨(some 1), .mov (.t 38), none⟩,
    ⟨(some 2), .mov (.t 39), none⟩]) <|
 .seq
 (.region [⟨(some 40), .mov (.t 2), none⟩,
    ⟨(some 12), .mov (.t 40), none⟩]) <|
 .ret, [.slot 12]⟩
theorem c40 : Code1 Try.prog 40 41 b40 := Code1.mk' Try.func40 (by kernel_rfl) (by kernel_rfl) Try.ntmps40

/-- slices.order2CmpFunc[fusee/marzullo.edge] -/
def b41 : IFn := ⟨
 .seq
 (.region [⟨(some 10), .mov (.c (.int .i64 0)), none⟩,
    ⟨(some 11), .mov (.c (.int .i64 0)), none⟩]) <|
 .seq
 (.seq
  (.draw false [1, 2, 3, 22] (
     .op ⟨(some 12), .mov (.t 4), none⟩ <|
     .op ⟨(some 13), .mov (.t 0), none⟩ <|
     .op ⟨(some 14), .mov (.t 2), none⟩ <|
     .op ⟨(some 15), .iaddr 2 (.t 13) (.t 14), none⟩ <|
     .op ⟨(some 16), .load true 2 (.t 15), none⟩ <|
     .op ⟨(some 17), .mov (.t 0), none⟩ <|
     .op ⟨(some 18), .mov (.t 1), none⟩ <|
     .op ⟨(some 19), .iaddr 2 (.t 17) (.t 18), none⟩ <|
     .op ⟨(some 20), .load true 2 (.t 19), none⟩ <|
     .op ⟨(some 21), .call (.t 12) [(.t 16), (.t 20)], none⟩ <|
     .op ⟨(some 22), .bin .lss (.t 21) (.c (.int .i64 0)), none⟩ <|
     .done)) <|
  .cond (.t 22)
   (.seq
    (.region [⟨(some 23), .mov (.t 3), none⟩,
       ⟨(some 24), .nilck (.t 23), none⟩,
       ⟨(some 25), .load false 1 (.t 24), none⟩,
       ⟨(some 26), .bin .add (.t 25) (.c (.int .i64 1)), none⟩,
       ⟨(some 27), .nilck (.t 23), none⟩,
       ⟨none, .store 1 (.t 27) (.t 26), none⟩]) <|
    .seq
    (.region [⟨(some 28), .mov (.t 2), none⟩,
       ⟨(some 29), .mov (.t 1), none⟩,
       ⟨(some 10), .mov (.t 28), none⟩,
       ⟨(some 11), .mov (.t 29), none⟩]) <|
    .ret)
   (.skip)) <|
 .seq
 (.region [⟨(some 30), .mov (.t 1), none⟩,
    ⟨(some 31), .mov (.t 2), none⟩,
    ⟨(some 10), .mov (.t 30), none⟩,
    ⟨(some 11), .mov (.t 31), none⟩]) <|
 .ret, [.slot 10, .slot 11]⟩
theorem c41 : Code1 Try.prog 41 32 b41 := Code1.mk' Try.func41 (by kernel_rfl) (by kernel_rfl) Try.ntmps41

/-- The functions that the facts at the head of each statement call. -/
abbrev code : CodeL := [(7, 84, b7), (8, 53, b8), (9, 21, b9), (12, 52, b12), (13, 29, b13), (14, 40, b14), (15, 27, b15), (16, 19, b16), (17, 18, b17), (18, 18, b18), (19, 14, b19), (20, 17, b20), (21, 18, b21), (22, 20, b22), (23, 148, b23), (24, 8, b24), (25, 6, b25), (26, 53, b26), (27, 60, b27), (28, 67, b28), (29, 63, b29), (30, 34, b30), (31, 141, b31), (32, 90, b32), (33, 178, b33), (34, 19, b34), (35, 25, b35), (36, 82, b36), (37, 7, b37), (38, 33, b38), (39, 18, b39), (40, 41, b40), (41, 32, b41)]
theorem codeOk : CodeOk Try.prog code := ⟨c7, c8, c9, c12, c13, c14, c15, c16, c17, c18, c19, c20, c21, c22, c23, c24, c25, c26, c27, c28, c29, c30, c31, c32, c33, c34, c35, c36, c37, c38, c39, c40, c41, trivial⟩

end Go.Proofs.Ytginhgjbjfndfaa
