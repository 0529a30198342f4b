/-
  THE CODE of the functions of this seat, as the plain machine's; each is what the compiler makes of the program's.
-/
import Derived.Test.YtbbfpebmiamobaaChecked
import Derived.Test.YtbbfpebmiamobaaAm24
import Derived.KernelRfl
namespace Go.Proofs.Ytbbfpebmiamobaa
open Go Go.AM
set_option linter.unusedVariables false

theorem hm : Try.prog.follows .mixedOrders = true := by kernel_rfl

/-- fusee/fuseelaw32.SpanSets -/
def b3 : IFn := ⟨
 .seq
 (.region [⟨(some 4), .mov (.c (.bool false)), none⟩]) <|
 .seq
 (.seq
  (.region [⟨(some 16), .call (.f 7) [], none⟩,
     ⟨(some 17), .un .not (.t 16), none⟩]) <|
  .cond (.t 17)
   (.seq
    (.region [⟨(some 4), .mov (.c (.bool false)), none⟩]) <|
    .ret)
   (.skip)) <|
 .seq
 (.seq
  (.region [⟨(some 18), .mov (.t 0), none⟩,
     ⟨(some 19), .call (.f 8) [(.t 18)], none⟩,
     ⟨(some 20), .un .not (.t 19), none⟩,
     ⟨(some 21), .mov (.t 20), none⟩,
     ⟨(some 22), .mov (.t 1), (some (21, false))⟩,
     ⟨(some 23), .bin .lss (.t 22) (.c (.int .i64 (-2305843009213693952))), (some (21, false))⟩,
     ⟨(some 24), .pick (.t 21) (.c (.bool true)) (.t 23), none⟩,
     ⟨(some 25), .mov (.t 24), none⟩,
     ⟨(some 26), .mov (.t 1), (some (25, false))⟩,
     ⟨(some 27), .bin .gtr (.t 26) (.c (.int .i64 2305843009213693952)), (some (25, false))⟩,
     ⟨(some 28), .pick (.t 25) (.c (.bool true)) (.t 27), none⟩]) <|
  .cond (.t 28)
   (.seq
    (.region [⟨(some 4), .mov (.c (.bool true)), none⟩]) <|
    .ret)
   (.skip)) <|
 .seq
 (.region [⟨(some 29), .mov (.t 0), none⟩,
    ⟨(some 30), .call (.f 9) [(.t 29)], none⟩,
    ⟨(some 5), .mov (.t 30), none⟩]) <|
 .seq
 (.seq
  (.region [⟨(some 31), .mov (.t 5), none⟩,
     ⟨(some 32), .call (.f 10) [(.t 31)], none⟩,
     ⟨(some 33), .un .not (.t 32), none⟩]) <|
  .cond (.t 33)
   (.seq
    (.region [⟨(some 4), .mov (.c (.bool false)), none⟩]) <|
    .ret)
   (.skip)) <|
 .seq
 (.seq
  (.region [⟨(some 34), .mov (.t 5), none⟩,
     ⟨(some 35), .len .sl (.t 34), none⟩,
     ⟨(some 36), .mov (.c (.int .i64 0)), none⟩]) <|
  .block 0 <|
  .loop [0, 1, 5, 34, 35, 36] <|
   .seq
   (.region [⟨(some 37), .bin .lss (.t 36) (.t 35), none⟩]) <|
   .seq
   (.cond (.t 37)
     (.skip)
     (.exit 0)) <|
   .seq
   (.block 1 <|
    .seq
    (.region [⟨(some 38), .mov (.t 36), none⟩,
       ⟨(some 39), .iaddr 2 (.t 34) (.t 36), none⟩,
       ⟨(some 40), .load true 2 (.t 39), none⟩,
       ⟨(some 7), .alloc [(.int .i64 0), (.int .i64 0)], none⟩,
       ⟨(some 6), .mov (.t 38), none⟩,
       ⟨none, .store 2 (.t 7) (.t 40), none⟩]) <|
    .seq
    (.draw false [0, 1, 5, 34, 35, 36, 60] (
       .op ⟨(some 41), .faddr 0 (.t 7), none⟩ <|
       .op ⟨(some 42), .load false 1 (.t 41), none⟩ <|
       .op ⟨(some 43), .faddr 1 (.t 7), none⟩ <|
       .op ⟨(some 44), .load false 1 (.t 43), none⟩ <|
       .op ⟨(some 45), .bin .geq (.t 42) (.t 44), none⟩ <|
       .op ⟨(some 46), .mov (.t 45), none⟩ <|
       .op ⟨(some 47), .mov (.t 6), (some (46, false))⟩ <|
       .op ⟨(some 48), .bin .gtr (.t 47) (.c (.int .i64 0)), (some (46, false))⟩ <|
       .op ⟨(some 49), .mov (.t 48), (some (46, false))⟩ <|
       .op ⟨(some 50), .mov (.t 5), (some (49, true))⟩ <|
       .op ⟨(some 51), .mov (.t 6), (some (49, true))⟩ <|
       .op ⟨(some 52), .bin .sub (.t 51) (.c (.int .i64 1)), (some (49, true))⟩ <|
       .op ⟨(some 53), .iaddr 2 (.t 50) (.t 52), (some (49, true))⟩ <|
       .op ⟨(some 54), .faddr 1 (.t 53), (some (49, true))⟩ <|
       .op ⟨(some 55), .load false 1 (.t 54), (some (49, true))⟩ <|
       .op ⟨(some 56), .faddr 0 (.t 7), (some (49, true))⟩ <|
       .op ⟨(some 57), .load false 1 (.t 56), (some (49, true))⟩ <|
       .op ⟨(some 58), .bin .geq (.t 55) (.t 57), (some (49, true))⟩ <|
       .op ⟨(some 59), .pick (.t 49) (.t 58) (.c (.bool false)), (some (46, false))⟩ <|
       .op ⟨(some 60), .pick (.t 46) (.c (.bool true)) (.t 59), none⟩ <|
       .done)) <|
    .cond (.t 60)
     (.seq
      (.region [⟨(some 4), .mov (.c (.bool false)), none⟩]) <|
      .ret)
     (.skip)) <|
   .region [⟨(some 61), .bin .add (.t 36) (.c (.int .i64 1)), none⟩,
     ⟨(some 36), .mov (.t 61), none⟩]) <|
 .seq
 (.seq
  (.region [⟨(some 62), .mov (.t 0), none⟩,
     ⟨(some 63), .mov (.t 5), none⟩,
     ⟨(some 64), .buildSl 1 [(.sl none 0 (some 0)), (.sl none 0 (some 0))] [(0, 1, (.t 62)), (1, 1, (.t 63))], none⟩,
     ⟨(some 65), .call (.f 11) [(.t 64)], none⟩,
     ⟨(some 66), .mov (.t 1), none⟩,
     ⟨(some 67), .buildSl 1 [(.int .i64 0)] [(0, 1, (.t 66))], none⟩,
     ⟨(some 68), .app 1 8 (.t 65) (.t 67), none⟩,
     ⟨(some 69), .len .sl (.t 68), none⟩,
     ⟨(some 70), .mov (.c (.int .i64 0)), none⟩]) <|
  .block 2 <|
  .loop [0, 1, 5, 68, 69, 70] <|
   .seq
   (.region [⟨(some 71), .bin .lss (.t 70) (.t 69), none⟩]) <|
   .seq
   (.cond (.t 71)
     (.skip)
     (.exit 2)) <|
   .seq
   (.block 3 <|
    .seq
    (.region [⟨(some 72), .iaddr 1 (.t 68) (.t 70), none⟩,
       ⟨(some 73), .load false 1 (.t 72), none⟩,
       ⟨(some 9), .mov (.t 73), none⟩]) <|
    .seq
    (.region [⟨(some 74), .mov (.t 5), none⟩,
       ⟨(some 75), .mov (.t 9), none⟩,
       ⟨(some 76), .call (.f 12) [(.t 74), (.t 75)], none⟩,
       ⟨(some 77), .mov (.t 0), none⟩,
       ⟨(some 78), .mov (.t 9), none⟩,
       ⟨(some 79), .call (.f 13) [(.t 77), (.t 78)], none⟩,
       ⟨(some 80), .eq true false [.bool] (.t 76) (.t 79), none⟩,
       ⟨(some 81), .mov (.t 80), none⟩,
       ⟨(some 82), .mov (.t 5), (some (81, false))⟩,
       ⟨(some 83), .mov (.t 9), (some (81, false))⟩,
       ⟨(some 84), .call (.f 13) [(.t 82), (.t 83)], (some (81, false))⟩,
       ⟨(some 85), .mov (.t 0), (some (81, false))⟩,
       ⟨(some 86), .mov (.t 9), (some (81, false))⟩,
       ⟨(some 87), .call (.f 13) [(.t 85), (.t 86)], (some (81, false))⟩,
       ⟨(some 88), .eq true false [.bool] (.t 84) (.t 87), (some (81, false))⟩,
       ⟨(some 89), .pick (.t 81) (.c (.bool true)) (.t 88), none⟩]) <|
    .cond (.t 89)
     (.seq
      (.region [⟨(some 4), .mov (.c (.bool false)), none⟩]) <|
      .ret)
     (.skip)) <|
   .region [⟨(some 90), .bin .add (.t 70) (.c (.int .i64 1)), none⟩,
     ⟨(some 70), .mov (.t 90), none⟩]) <|
 .seq
 (.region [⟨(some 92), .mov (.t 5), none⟩,
    ⟨(some 93), .mov (.t 1), none⟩,
    ⟨(some 94), .call (.f 14) [(.t 92), (.t 93)], none⟩,
    ⟨(some 91), .mov (.t 94), none⟩,
    ⟨(some 95), .extract (.t 91) 0, none⟩,
    ⟨(some 96), .extract (.t 91) 1, none⟩,
    ⟨(some 10), .mov (.t 95), none⟩,
    ⟨(some 11), .mov (.t 96), none⟩]) <|
 .seq
 (.region [⟨(some 12), .mov (.c (.int .i64 0)), none⟩,
    ⟨(some 13), .mov (.c (.bool false)), none⟩]) <|
 .seq
 (.seq
  (.region [⟨(some 97), .mov (.t 0), none⟩,
     ⟨(some 98), .buildSl 1 [(.sl none 0 (some 0))] [(0, 1, (.t 97))], none⟩,
     ⟨(some 99), .call (.f 11) [(.t 98)], none⟩,
     ⟨(some 100), .mov (.t 1), none⟩,
     ⟨(some 101), .buildSl 1 [(.int .i64 0)] [(0, 1, (.t 100))], none⟩,
     ⟨(some 102), .app 1 8 (.t 99) (.t 101), none⟩,
     ⟨(some 103), .len .sl (.t 102), none⟩,
     ⟨(some 104), .mov (.c (.int .i64 0)), none⟩]) <|
  .block 4 <|
  .loop [0, 1, 10, 11, 12, 13, 102, 103, 104] <|
   .seq
   (.region [⟨(some 105), .bin .lss (.t 104) (.t 103), none⟩]) <|
   .seq
   (.cond (.t 105)
     (.skip)
     (.exit 4)) <|
   .seq
   (.block 5 <|
    .seq
    (.region [⟨(some 106), .iaddr 1 (.t 102) (.t 104), none⟩,
       ⟨(some 107), .load false 1 (.t 106), none⟩,
       ⟨(some 15), .mov (.t 107), none⟩]) <|
    .seq
    (.region [⟨(some 108), .mov (.t 15), none⟩,
       ⟨(some 109), .mov (.t 1), none⟩,
       ⟨(some 110), .bin .geq (.t 108) (.t 109), none⟩,
       ⟨(some 111), .mov (.t 110), none⟩,
       ⟨(some 112), .mov (.t 0), (some (111, true))⟩,
       ⟨(some 113), .mov (.t 15), (some (111, true))⟩,
       ⟨(some 114), .call (.f 13) [(.t 112), (.t 113)], (some (111, true))⟩,
       ⟨(some 115), .pick (.t 111) (.t 114) (.c (.bool false)), none⟩,
       ⟨(some 116), .mov (.t 115), none⟩,
       ⟨(some 117), .mov (.t 13), (some (116, true))⟩,
       ⟨(some 118), .un .not (.t 117), (some (116, true))⟩,
       ⟨(some 119), .mov (.t 118), (some (116, true))⟩,
       ⟨(some 120), .mov (.t 15), (some (119, false))⟩,
       ⟨(some 121), .mov (.t 12), (some (119, false))⟩,
       ⟨(some 122), .bin .lss (.t 120) (.t 121), (some (119, false))⟩,
       ⟨(some 123), .pick (.t 119) (.c (.bool true)) (.t 122), (some (116, true))⟩,
       ⟨(some 124), .pick (.t 116) (.t 123) (.c (.bool false)), none⟩]) <|
    .cond (.t 124)
     (.region [⟨(some 125), .mov (.t 15), none⟩,
        ⟨(some 12), .mov (.t 125), none⟩,
        ⟨(some 13), .mov (.c (.bool true)), none⟩])
     (.skip)) <|
   .region [⟨(some 126), .bin .add (.t 104) (.c (.int .i64 1)), none⟩,
     ⟨(some 104), .mov (.t 126), none⟩]) <|
 .seq
 (.region [⟨(some 127), .mov (.t 11), none⟩,
    ⟨(some 128), .mov (.t 13), none⟩,
    ⟨(some 129), .eq false false [.bool] (.t 127) (.t 128), none⟩,
    ⟨(some 130), .mov (.t 129), none⟩,
    ⟨(some 131), .mov (.t 10), (some (130, true))⟩,
    ⟨(some 132), .mov (.t 12), (some (130, true))⟩,
    ⟨(some 133), .bin .eql (.t 131) (.t 132), (some (130, true))⟩,
    ⟨(some 134), .pick (.t 130) (.t 133) (.c (.bool false)), none⟩,
    ⟨(some 4), .mov (.t 134), none⟩]) <|
 .ret, [.slot 4]⟩
theorem c3 : Code1 Try.prog 3 135 b3 := Code1.mk' Try.func3 (by kernel_rfl) (by kernel_rfl) Try.ntmps3

/-- fusee/fuseelaw32.SpanJoins -/
def b4 : IFn := ⟨
 .seq
 (.region [⟨(some 4), .mov (.c (.bool false)), none⟩]) <|
 .seq
 (.seq
  (.region [⟨(some 14), .call (.f 7) [], none⟩,
     ⟨(some 15), .un .not (.t 14), none⟩]) <|
  .cond (.t 15)
   (.seq
    (.region [⟨(some 4), .mov (.c (.bool false)), none⟩]) <|
    .ret)
   (.skip)) <|
 .seq
 (.seq
  (.region [⟨(some 16), .mov (.t 0), none⟩,
     ⟨(some 17), .call (.f 8) [(.t 16)], none⟩,
     ⟨(some 18), .un .not (.t 17), none⟩,
     ⟨(some 19), .mov (.t 18), none⟩,
     ⟨(some 20), .mov (.t 1), (some (19, false))⟩,
     ⟨(some 21), .call (.f 8) [(.t 20)], (some (19, false))⟩,
     ⟨(some 22), .un .not (.t 21), (some (19, false))⟩,
     ⟨(some 23), .pick (.t 19) (.c (.bool true)) (.t 22), none⟩]) <|
  .cond (.t 23)
   (.seq
    (.region [⟨(some 4), .mov (.c (.bool true)), none⟩]) <|
    .ret)
   (.skip)) <|
 .seq
 (.region [⟨(some 24), .mov (.t 0), none⟩,
    ⟨(some 25), .mov (.t 1), none⟩,
    ⟨(some 5), .mov (.t 24), none⟩,
    ⟨(some 6), .mov (.t 25), none⟩]) <|
 .seq
 (.region [⟨(some 26), .mov (.t 5), none⟩,
    ⟨(some 27), .mov (.t 6), none⟩,
    ⟨(some 28), .call (.f 15) [(.t 26), (.t 27)], none⟩,
    ⟨(some 29), .mov (.t 5), none⟩,
    ⟨(some 30), .mov (.t 6), none⟩,
    ⟨(some 31), .call (.f 16) [(.t 29), (.t 30)], none⟩,
    ⟨(some 32), .mov (.t 5), none⟩,
    ⟨(some 33), .mov (.t 6), none⟩,
    ⟨(some 34), .call (.f 17) [(.t 32), (.t 33)], none⟩,
    ⟨(some 7), .mov (.t 28), none⟩,
    ⟨(some 8), .mov (.t 31), none⟩,
    ⟨(some 9), .mov (.t 34), none⟩]) <|
 .seq
 (.seq
  (.region [⟨(some 35), .mov (.t 7), none⟩,
     ⟨(some 36), .call (.f 10) [(.t 35)], none⟩,
     ⟨(some 37), .un .not (.t 36), none⟩,
     ⟨(some 38), .mov (.t 37), none⟩,
     ⟨(some 39), .mov (.t 8), (some (38, false))⟩,
     ⟨(some 40), .call (.f 10) [(.t 39)], (some (38, false))⟩,
     ⟨(some 41), .un .not (.t 40), (some (38, false))⟩,
     ⟨(some 42), .pick (.t 38) (.c (.bool true)) (.t 41), none⟩,
     ⟨(some 43), .mov (.t 42), none⟩,
     ⟨(some 44), .mov (.t 9), (some (43, false))⟩,
     ⟨(some 45), .call (.f 10) [(.t 44)], (some (43, false))⟩,
     ⟨(some 46), .un .not (.t 45), (some (43, false))⟩,
     ⟨(some 47), .pick (.t 43) (.c (.bool true)) (.t 46), none⟩]) <|
  .cond (.t 47)
   (.seq
    (.region [⟨(some 4), .mov (.c (.bool false)), none⟩]) <|
    .ret)
   (.skip)) <|
 .seq
 (.seq
  (.region [⟨(some 48), .mov (.t 0), none⟩,
     ⟨(some 49), .mov (.t 1), none⟩,
     ⟨(some 50), .mov (.t 7), none⟩,
     ⟨(some 51), .mov (.t 8), none⟩,
     ⟨(some 52), .mov (.t 9), none⟩,
     ⟨(some 53), .buildSl 1 [(.sl none 0 (some 0)), (.sl none 0 (some 0)), (.sl none 0 (some 0)), (.sl none 0 (some 0)), (.sl none 0 (some 0))] [(0, 1, (.t 48)), (1, 1, (.t 49)), (2, 1, (.t 50)), (3, 1, (.t 51)), (4, 1, (.t 52))], none⟩,
     ⟨(some 54), .call (.f 11) [(.t 53)], none⟩,
     ⟨(some 55), .len .sl (.t 54), none⟩,
     ⟨(some 56), .mov (.c (.int .i64 0)), none⟩]) <|
  .block 0 <|
  .loop [0, 1, 7, 8, 9, 54, 55, 56] <|
   .seq
   (.region [⟨(some 57), .bin .lss (.t 56) (.t 55), none⟩]) <|
   .seq
   (.cond (.t 57)
     (.skip)
     (.exit 0)) <|
   .seq
   (.block 1 <|
    .seq
    (.region [⟨(some 58), .iaddr 1 (.t 54) (.t 56), none⟩,
       ⟨(some 59), .load false 1 (.t 58), none⟩,
       ⟨(some 11), .mov (.t 59), none⟩]) <|
    .seq
    (.region [⟨(some 60), .mov (.t 0), none⟩,
       ⟨(some 61), .mov (.t 11), none⟩,
       ⟨(some 62), .call (.f 13) [(.t 60), (.t 61)], none⟩,
       ⟨(some 63), .mov (.t 1), none⟩,
       ⟨(some 64), .mov (.t 11), none⟩,
       ⟨(some 65), .call (.f 13) [(.t 63), (.t 64)], none⟩,
       ⟨(some 12), .mov (.t 62), none⟩,
       ⟨(some 13), .mov (.t 65), none⟩]) <|
    .seq
    (.region [⟨(some 66), .mov (.t 7), none⟩,
       ⟨(some 67), .mov (.t 11), none⟩,
       ⟨(some 68), .call (.f 13) [(.t 66), (.t 67)], none⟩,
       ⟨(some 69), .mov (.t 12), none⟩,
       ⟨(some 70), .mov (.t 69), none⟩,
       ⟨(some 71), .mov (.t 13), (some (70, false))⟩,
       ⟨(some 72), .pick (.t 70) (.c (.bool true)) (.t 71), none⟩,
       ⟨(some 73), .eq true false [.bool] (.t 68) (.t 72), none⟩,
       ⟨(some 74), .mov (.t 73), none⟩,
       ⟨(some 75), .mov (.t 8), (some (74, false))⟩,
       ⟨(some 76), .mov (.t 11), (some (74, false))⟩,
       ⟨(some 77), .call (.f 13) [(.t 75), (.t 76)], (some (74, false))⟩,
       ⟨(some 78), .mov (.t 12), (some (74, false))⟩,
       ⟨(some 79), .mov (.t 78), (some (74, false))⟩,
       ⟨(some 80), .mov (.t 13), (some (79, true))⟩,
       ⟨(some 81), .pick (.t 79) (.t 80) (.c (.bool false)), (some (74, false))⟩,
       ⟨(some 82), .eq true false [.bool] (.t 77) (.t 81), (some (74, false))⟩,
       ⟨(some 83), .pick (.t 74) (.c (.bool true)) (.t 82), none⟩,
       ⟨(some 84), .mov (.t 83), none⟩,
       ⟨(some 85), .mov (.t 9), (some (84, false))⟩,
       ⟨(some 86), .mov (.t 11), (some (84, false))⟩,
       ⟨(some 87), .call (.f 13) [(.t 85), (.t 86)], (some (84, false))⟩,
       ⟨(some 88), .mov (.t 12), (some (84, false))⟩,
       ⟨(some 89), .mov (.t 88), (some (84, false))⟩,
       ⟨(some 90), .mov (.t 13), (some (89, true))⟩,
       ⟨(some 91), .un .not (.t 90), (some (89, true))⟩,
       ⟨(some 92), .pick (.t 89) (.t 91) (.c (.bool false)), (some (84, false))⟩,
       ⟨(some 93), .eq true false [.bool] (.t 87) (.t 92), (some (84, false))⟩,
       ⟨(some 94), .pick (.t 84) (.c (.bool true)) (.t 93), none⟩]) <|
    .cond (.t 94)
     (.seq
      (.region [⟨(some 4), .mov (.c (.bool false)), none⟩]) <|
      .ret)
     (.skip)) <|
   .region [⟨(some 95), .bin .add (.t 56) (.c (.int .i64 1)), none⟩,
     ⟨(some 56), .mov (.t 95), none⟩]) <|
 .seq
 (.region [⟨(some 4), .mov (.c (.bool true)), none⟩]) <|
 .ret, [.slot 4]⟩
theorem c4 : Code1 Try.prog 4 96 b4 := Code1.mk' Try.func4 (by kernel_rfl) (by kernel_rfl) Try.ntmps4

/-- fusee/fuseelaw32.SpanSums -/
def b5 : IFn := ⟨
 .seq
 (.region [⟨(some 4), .mov (.c (.bool false)), none⟩]) <|
 .seq
 (.seq
  (.region [⟨(some 7), .call (.f 7) [], none⟩,
     ⟨(some 8), .un .not (.t 7), none⟩]) <|
  .cond (.t 8)
   (.seq
    (.region [⟨(some 4), .mov (.c (.bool false)), none⟩]) <|
    .ret)
   (.skip)) <|
 .seq
 (.seq
  (.region [⟨(some 9), .mov (.t 0), none⟩,
     ⟨(some 10), .call (.f 8) [(.t 9)], none⟩,
     ⟨(some 11), .un .not (.t 10), none⟩,
     ⟨(some 12), .mov (.t 11), none⟩,
     ⟨(some 13), .mov (.t 1), (some (12, false))⟩,
     ⟨(some 14), .call (.f 8) [(.t 13)], (some (12, false))⟩,
     ⟨(some 15), .un .not (.t 14), (some (12, false))⟩,
     ⟨(some 16), .pick (.t 12) (.c (.bool true)) (.t 15), none⟩]) <|
  .cond (.t 16)
   (.seq
    (.region [⟨(some 4), .mov (.c (.bool true)), none⟩]) <|
    .ret)
   (.skip)) <|
 .seq
 (.region [⟨(some 17), .mov (.t 0), none⟩,
    ⟨(some 18), .call (.f 9) [(.t 17)], none⟩,
    ⟨(some 19), .mov (.t 1), none⟩,
    ⟨(some 20), .call (.f 9) [(.t 19)], none⟩,
    ⟨(some 5), .mov (.t 18), none⟩,
    ⟨(some 6), .mov (.t 20), none⟩]) <|
 .seq
 (.region [⟨(some 21), .mov (.t 5), none⟩,
    ⟨(some 22), .mov (.t 6), none⟩,
    ⟨(some 23), .call (.f 15) [(.t 21), (.t 22)], none⟩,
    ⟨(some 24), .call (.f 18) [(.t 23)], none⟩,
    ⟨(some 25), .mov (.t 5), none⟩,
    ⟨(some 26), .mov (.t 6), none⟩,
    ⟨(some 27), .call (.f 16) [(.t 25), (.t 26)], none⟩,
    ⟨(some 28), .call (.f 18) [(.t 27)], none⟩,
    ⟨(some 29), .bin .add (.t 24) (.t 28), none⟩,
    ⟨(some 30), .mov (.t 5), none⟩,
    ⟨(some 31), .call (.f 18) [(.t 30)], none⟩,
    ⟨(some 32), .mov (.t 6), none⟩,
    ⟨(some 33), .call (.f 18) [(.t 32)], none⟩,
    ⟨(some 34), .bin .add (.t 31) (.t 33), none⟩,
    ⟨(some 35), .bin .eql (.t 29) (.t 34), none⟩,
    ⟨(some 36), .mov (.t 35), none⟩,
    ⟨(some 37), .mov (.t 5), (some (36, true))⟩,
    ⟨(some 38), .mov (.t 6), (some (36, true))⟩,
    ⟨(some 39), .call (.f 17) [(.t 37), (.t 38)], (some (36, true))⟩,
    ⟨(some 40), .call (.f 18) [(.t 39)], (some (36, true))⟩,
    ⟨(some 41), .mov (.t 5), (some (36, true))⟩,
    ⟨(some 42), .mov (.t 6), (some (36, true))⟩,
    ⟨(some 43), .call (.f 16) [(.t 41), (.t 42)], (some (36, true))⟩,
    ⟨(some 44), .call (.f 18) [(.t 43)], (some (36, true))⟩,
    ⟨(some 45), .bin .add (.t 40) (.t 44), (some (36, true))⟩,
    ⟨(some 46), .mov (.t 5), (some (36, true))⟩,
    ⟨(some 47), .call (.f 18) [(.t 46)], (some (36, true))⟩,
    ⟨(some 48), .bin .eql (.t 45) (.t 47), (some (36, true))⟩,
    ⟨(some 49), .pick (.t 36) (.t 48) (.c (.bool false)), none⟩,
    ⟨(some 50), .mov (.t 49), none⟩,
    ⟨(some 51), .mov (.t 5), (some (50, true))⟩,
    ⟨(some 52), .mov (.t 6), (some (50, true))⟩,
    ⟨(some 53), .call (.f 17) [(.t 51), (.t 52)], (some (50, true))⟩,
    ⟨(some 54), .mov (.t 6), (some (50, true))⟩,
    ⟨(some 55), .call (.f 16) [(.t 53), (.t 54)], (some (50, true))⟩,
    ⟨(some 56), .call (.f 18) [(.t 55)], (some (50, true))⟩,
    ⟨(some 57), .bin .eql (.t 56) (.c (.int .i64 0)), (some (50, true))⟩,
    ⟨(some 58), .pick (.t 50) (.t 57) (.c (.bool false)), none⟩,
    ⟨(some 4), .mov (.t 58), none⟩]) <|
 .ret, [.slot 4]⟩
theorem c5 : Code1 Try.prog 5 59 b5 := Code1.mk' Try.func5 (by kernel_rfl) (by kernel_rfl) Try.ntmps5

/-- fusee/fuseelaw32.SpanFree -/
def b6 : IFn := ⟨
 .seq
 (.region [⟨(some 6), .mov (.c (.bool false)), none⟩]) <|
 .seq
 (.seq
  (.region [⟨(some 14), .call (.f 7) [], none⟩,
     ⟨(some 15), .un .not (.t 14), none⟩]) <|
  .cond (.t 15)
   (.seq
    (.region [⟨(some 6), .mov (.c (.bool false)), none⟩]) <|
    .ret)
   (.skip)) <|
 .seq
 (.seq
  (.region [⟨(some 16), .mov (.t 0), none⟩,
     ⟨(some 17), .call (.f 8) [(.t 16)], none⟩,
     ⟨(some 18), .un .not (.t 17), none⟩]) <|
  .cond (.t 18)
   (.seq
    (.region [⟨(some 6), .mov (.c (.bool true)), none⟩]) <|
    .ret)
   (.skip)) <|
 .seq
 (.region [⟨(some 19), .mov (.t 0), none⟩,
    ⟨(some 20), .call (.f 9) [(.t 19)], none⟩,
    ⟨(some 7), .mov (.t 20), none⟩]) <|
 .seq
 (.region [⟨(some 21), .mov (.t 2), none⟩,
    ⟨(some 22), .conv .i64 (.t 21), none⟩,
    ⟨(some 23), .max [(.t 22), (.c (.int .i64 1))], none⟩,
    ⟨(some 8), .mov (.t 23), none⟩]) <|
 .seq
 (.region [⟨(some 24), .mov (.t 7), none⟩,
    ⟨(some 25), .mov (.t 1), none⟩,
    ⟨(some 26), .conv .i64 (.t 25), none⟩,
    ⟨(some 27), .mov (.t 2), none⟩,
    ⟨(some 28), .conv .i64 (.t 27), none⟩,
    ⟨(some 29), .call (.f 19) [(.t 24), (.t 26), (.t 28)], none⟩,
    ⟨(some 9), .mov (.t 29), none⟩]) <|
 .seq
 (.seq
  (.region [⟨(some 30), .mov (.t 9), none⟩,
     ⟨(some 31), .mov (.t 1), none⟩,
     ⟨(some 32), .conv .i64 (.t 31), none⟩,
     ⟨(some 33), .bin .lss (.t 30) (.t 32), none⟩]) <|
  .cond (.t 33)
   (.seq
    (.region [⟨(some 6), .mov (.c (.bool false)), none⟩]) <|
    .ret)
   (.skip)) <|
 .seq
 (.seq
  (.region [⟨(some 34), .mov (.t 8), none⟩,
     ⟨(some 35), .mov (.c (.int .i64 0)), none⟩]) <|
  .block 0 <|
  .loop [0, 1, 8, 9, 34, 35] <|
   .seq
   (.region [⟨(some 36), .bin .lss (.t 35) (.t 34), none⟩]) <|
   .seq
   (.cond (.t 36)
     (.skip)
     (.exit 0)) <|
   .seq
   (.block 1 <|
    .seq
    (.region [⟨(some 37), .mov (.t 35), none⟩,
       ⟨(some 10), .mov (.t 37), none⟩]) <|
    .seq
    (.region [⟨(some 38), .mov (.t 0), none⟩,
       ⟨(some 39), .mov (.t 9), none⟩,
       ⟨(some 40), .mov (.t 10), none⟩,
       ⟨(some 41), .bin .add (.t 39) (.t 40), none⟩,
       ⟨(some 42), .call (.f 13) [(.t 38), (.t 41)], none⟩]) <|
    .cond (.t 42)
     (.seq
      (.region [⟨(some 6), .mov (.c (.bool false)), none⟩]) <|
      .ret)
     (.skip)) <|
   .region [⟨(some 43), .bin .add (.t 35) (.c (.int .i64 1)), none⟩,
     ⟨(some 35), .mov (.t 43), none⟩]) <|
 .seq
 (.seq
  (.region [⟨(some 44), .mov (.t 1), none⟩,
     ⟨(some 45), .conv .i64 (.t 44), none⟩,
     ⟨(some 11), .mov (.t 45), none⟩]) <|
  .block 2 <|
  .loop [0, 1, 8, 9, 11] <|
   .seq
   (.seq
    (.region [⟨(some 46), .mov (.t 11), none⟩,
       ⟨(some 47), .mov (.t 9), none⟩,
       ⟨(some 48), .bin .lss (.t 46) (.t 47), none⟩,
       ⟨(some 49), .mov (.t 48), none⟩,
       ⟨(some 50), .mov (.t 11), (some (49, true))⟩,
       ⟨(some 51), .mov (.t 1), (some (49, true))⟩,
       ⟨(some 52), .conv .i64 (.t 51), (some (49, true))⟩,
       ⟨(some 53), .bin .add (.t 52) (.c (.int .i64 300)), (some (49, true))⟩,
       ⟨(some 54), .bin .lss (.t 50) (.t 53), (some (49, true))⟩,
       ⟨(some 55), .pick (.t 49) (.t 54) (.c (.bool false)), none⟩]) <|
    .cond (.t 55)
     (.skip)
     (.exit 2)) <|
   .seq
   (.block 3 <|
    .seq
    (.region [⟨(some 12), .mov (.c (.bool true)), none⟩]) <|
    .seq
    (.seq
     (.region [⟨(some 58), .mov (.t 8), none⟩,
        ⟨(some 59), .mov (.c (.int .i64 0)), none⟩]) <|
     .block 4 <|
     .loop [0, 1, 8, 9, 11, 12, 58, 59] <|
      .seq
      (.region [⟨(some 60), .bin .lss (.t 59) (.t 58), none⟩]) <|
      .seq
      (.cond (.t 60)
        (.skip)
        (.exit 4)) <|
      .seq
      (.block 5 <|
       .seq
       (.region [⟨(some 61), .mov (.t 59), none⟩,
          ⟨(some 13), .mov (.t 61), none⟩]) <|
       .region [⟨(some 62), .mov (.t 12), none⟩,
         ⟨(some 63), .mov (.t 62), none⟩,
         ⟨(some 64), .mov (.t 0), (some (63, true))⟩,
         ⟨(some 65), .mov (.t 11), (some (63, true))⟩,
         ⟨(some 66), .mov (.t 13), (some (63, true))⟩,
         ⟨(some 67), .bin .add (.t 65) (.t 66), (some (63, true))⟩,
         ⟨(some 68), .call (.f 13) [(.t 64), (.t 67)], (some (63, true))⟩,
         ⟨(some 69), .un .not (.t 68), (some (63, true))⟩,
         ⟨(some 70), .pick (.t 63) (.t 69) (.c (.bool false)), none⟩,
         ⟨(some 12), .mov (.t 70), none⟩]) <|
      .region [⟨(some 71), .bin .add (.t 59) (.c (.int .i64 1)), none⟩,
        ⟨(some 59), .mov (.t 71), none⟩]) <|
    .seq
    (.region [⟨(some 72), .mov (.t 12), none⟩]) <|
    .cond (.t 72)
     (.seq
      (.region [⟨(some 6), .mov (.c (.bool false)), none⟩]) <|
      .ret)
     (.skip)) <|
   .region [⟨(some 56), .mov (.t 11), none⟩,
     ⟨(some 57), .bin .add (.t 56) (.c (.int .i64 1)), none⟩,
     ⟨(some 11), .mov (.t 57), none⟩]) <|
 .seq
 (.region [⟨(some 6), .mov (.c (.bool true)), none⟩]) <|
 .ret, [.slot 6]⟩
theorem c6 : Code1 Try.prog 6 73 b6 := Code1.mk' Try.func6 (by kernel_rfl) (by kernel_rfl) Try.ntmps6

/-- fusee/fuseelaw32.fixed -/
def b7 : IFn := ⟨
 .seq
 (.region [⟨(some 0), .mov (.c (.bool false)), none⟩]) <|
 .seq
 (.region [⟨(some 10), .build [(.int .i64 0), (.int .i64 0)] [(0, 1, (.c (.int .i64 3))), (1, 1, (.c (.int .i64 5)))], none⟩,
    ⟨(some 11), .build [(.int .i64 0), (.int .i64 0)] [(0, 1, (.c (.int .i64 1))), (1, 1, (.c (.int .i64 3)))], none⟩,
    ⟨(some 12), .build [(.int .i64 0), (.int .i64 0)] [(0, 1, (.c (.int .i64 9))), (1, 1, (.c (.int .i64 8)))], none⟩,
    ⟨(some 13), .buildSl 2 [(.int .i64 0), (.int .i64 0), (.int .i64 0), (.int .i64 0), (.int .i64 0), (.int .i64 0)] [(0, 2, (.t 10)), (2, 2, (.t 11)), (4, 2, (.t 12))], none⟩,
    ⟨(some 14), .call (.f 9) [(.t 13)], none⟩,
    ⟨(some 1), .mov (.t 14), none⟩]) <|
 .seq
 (.region [⟨(some 15), .build [(.int .i64 0), (.int .i64 0)] [(0, 1, (.c (.int .i64 4))), (1, 1, (.c (.int .i64 7)))], none⟩,
    ⟨(some 16), .buildSl 2 [(.int .i64 0), (.int .i64 0)] [(0, 2, (.t 15))], none⟩,
    ⟨(some 2), .mov (.t 16), none⟩]) <|
 .seq
 (.region [⟨(some 18), .mov (.t 1), none⟩,
    ⟨(some 19), .call (.f 14) [(.t 18), (.c (.int .i64 0))], none⟩,
    ⟨(some 17), .mov (.t 19), none⟩,
    ⟨(some 20), .extract (.t 17) 0, none⟩,
    ⟨(some 21), .extract (.t 17) 1, none⟩,
    ⟨(some 3), .mov (.t 20), none⟩,
    ⟨(some 4), .mov (.t 21), none⟩]) <|
 .seq
 (.region [⟨(some 23), .mov (.t 1), none⟩,
    ⟨(some 24), .call (.f 14) [(.t 23), (.c (.int .i64 5))], none⟩,
    ⟨(some 22), .mov (.t 24), none⟩,
    ⟨(some 25), .extract (.t 22) 0, none⟩,
    ⟨(some 26), .extract (.t 22) 1, none⟩,
    ⟨(some 5), .mov (.t 25), none⟩,
    ⟨(some 6), .mov (.t 26), none⟩]) <|
 .seq
 (.region [⟨(some 27), .mov (.t 1), none⟩,
    ⟨(some 28), .mov (.t 2), none⟩,
    ⟨(some 29), .call (.f 15) [(.t 27), (.t 28)], none⟩,
    ⟨(some 30), .mov (.t 1), none⟩,
    ⟨(some 31), .mov (.t 2), none⟩,
    ⟨(some 32), .call (.f 16) [(.t 30), (.t 31)], none⟩,
    ⟨(some 33), .mov (.t 1), none⟩,
    ⟨(some 34), .mov (.t 2), none⟩,
    ⟨(some 35), .call (.f 17) [(.t 33), (.t 34)], none⟩,
    ⟨(some 7), .mov (.t 29), none⟩,
    ⟨(some 8), .mov (.t 32), none⟩,
    ⟨(some 9), .mov (.t 35), none⟩]) <|
 .seq
 (.region [⟨(some 36), .mov (.t 1), none⟩,
    ⟨(some 37), .len .sl (.t 36), none⟩,
    ⟨(some 38), .bin .eql (.t 37) (.c (.int .i64 1)), none⟩,
    ⟨(some 39), .mov (.t 38), none⟩,
    ⟨(some 40), .mov (.t 1), (some (39, true))⟩,
    ⟨(some 41), .iaddr 2 (.t 40) (.c (.int .i64 0)), (some (39, true))⟩,
    ⟨(some 42), .load true 2 (.t 41), (some (39, true))⟩,
    ⟨(some 43), .build [(.int .i64 0), (.int .i64 0)] [(0, 1, (.c (.int .i64 1))), (1, 1, (.c (.int .i64 5)))], (some (39, true))⟩,
    ⟨(some 44), .eq false true [.int, .int] (.t 42) (.t 43), (some (39, true))⟩,
    ⟨(some 45), .pick (.t 39) (.t 44) (.c (.bool false)), none⟩,
    ⟨(some 46), .mov (.t 45), none⟩,
    ⟨(some 47), .mov (.t 4), (some (46, true))⟩,
    ⟨(some 48), .pick (.t 46) (.t 47) (.c (.bool false)), none⟩,
    ⟨(some 49), .mov (.t 48), none⟩,
    ⟨(some 50), .mov (.t 3), (some (49, true))⟩,
    ⟨(some 51), .bin .eql (.t 50) (.c (.int .i64 1)), (some (49, true))⟩,
    ⟨(some 52), .pick (.t 49) (.t 51) (.c (.bool false)), none⟩,
    ⟨(some 53), .mov (.t 52), none⟩,
    ⟨(some 54), .mov (.t 6), (some (53, true))⟩,
    ⟨(some 55), .un .not (.t 54), (some (53, true))⟩,
    ⟨(some 56), .pick (.t 53) (.t 55) (.c (.bool false)), none⟩,
    ⟨(some 57), .mov (.t 56), none⟩,
    ⟨(some 58), .mov (.t 1), (some (57, true))⟩,
    ⟨(some 59), .call (.f 18) [(.t 58)], (some (57, true))⟩,
    ⟨(some 60), .bin .eql (.t 59) (.c (.int .i64 4)), (some (57, true))⟩,
    ⟨(some 61), .pick (.t 57) (.t 60) (.c (.bool false)), none⟩,
    ⟨(some 62), .mov (.t 61), none⟩,
    ⟨(some 63), .mov (.t 7), (some (62, true))⟩,
    ⟨(some 64), .len .sl (.t 63), (some (62, true))⟩,
    ⟨(some 65), .bin .eql (.t 64) (.c (.int .i64 1)), (some (62, true))⟩,
    ⟨(some 66), .pick (.t 62) (.t 65) (.c (.bool false)), none⟩,
    ⟨(some 67), .mov (.t 66), none⟩,
    ⟨(some 68), .mov (.t 7), (some (67, true))⟩,
    ⟨(some 69), .iaddr 2 (.t 68) (.c (.int .i64 0)), (some (67, true))⟩,
    ⟨(some 70), .faddr 1 (.t 69), (some (67, true))⟩,
    ⟨(some 71), .load false 1 (.t 70), (some (67, true))⟩,
    ⟨(some 72), .bin .eql (.t 71) (.c (.int .i64 7)), (some (67, true))⟩,
    ⟨(some 73), .pick (.t 67) (.t 72) (.c (.bool false)), none⟩,
    ⟨(some 74), .mov (.t 73), none⟩,
    ⟨(some 75), .mov (.t 8), (some (74, true))⟩,
    ⟨(some 76), .len .sl (.t 75), (some (74, true))⟩,
    ⟨(some 77), .bin .eql (.t 76) (.c (.int .i64 1)), (some (74, true))⟩,
    ⟨(some 78), .pick (.t 74) (.t 77) (.c (.bool false)), none⟩,
    ⟨(some 79), .mov (.t 78), none⟩,
    ⟨(some 80), .mov (.t 8), (some (79, true))⟩,
    ⟨(some 81), .iaddr 2 (.t 80) (.c (.int .i64 0)), (some (79, true))⟩,
    ⟨(some 82), .faddr 0 (.t 81), (some (79, true))⟩,
    ⟨(some 83), .load false 1 (.t 82), (some (79, true))⟩,
    ⟨(some 84), .bin .eql (.t 83) (.c (.int .i64 4)), (some (79, true))⟩,
    ⟨(some 85), .pick (.t 79) (.t 84) (.c (.bool false)), none⟩,
    ⟨(some 86), .mov (.t 85), none⟩,
    ⟨(some 87), .mov (.t 9), (some (86, true))⟩,
    ⟨(some 88), .len .sl (.t 87), (some (86, true))⟩,
    ⟨(some 89), .bin .eql (.t 88) (.c (.int .i64 1)), (some (86, true))⟩,
    ⟨(some 90), .pick (.t 86) (.t 89) (.c (.bool false)), none⟩,
    ⟨(some 91), .mov (.t 90), none⟩,
    ⟨(some 92), .mov (.t 9), (some (91, true))⟩,
    ⟨(some 93), .iaddr 2 (.t 92) (.c (.int .i64 0)), (some (91, true))⟩,
    ⟨(some 94), .faddr 1 (.t 93), (some (91, true))⟩,
    ⟨(some 95), .load false 1 (.t 94), (some (91, true))⟩,
    ⟨(some 96), .bin .eql (.t 95) (.c (.int .i64 4)), (some (91, true))⟩,
    ⟨(some 97), .pick (.t 91) (.t 96) (.c (.bool false)), none⟩,
    ⟨(some 98), .mov (.t 97), none⟩,
    ⟨(some 99), .mov (.t 1), (some (98, true))⟩,
    ⟨(some 100), .call (.f 12) [(.t 99), (.c (.int .i64 4))], (some (98, true))⟩,
    ⟨(some 101), .pick (.t 98) (.t 100) (.c (.bool false)), none⟩,
    ⟨(some 102), .mov (.t 101), none⟩,
    ⟨(some 103), .mov (.t 1), (some (102, true))⟩,
    ⟨(some 104), .call (.f 12) [(.t 103), (.c (.int .i64 5))], (some (102, true))⟩,
    ⟨(some 105), .un .not (.t 104), (some (102, true))⟩,
    ⟨(some 106), .pick (.t 102) (.t 105) (.c (.bool false)), none⟩,
    ⟨(some 107), .mov (.t 106), none⟩,
    ⟨(some 108), .mov (.t 1), (some (107, true))⟩,
    ⟨(some 109), .call (.f 19) [(.t 108), (.c (.int .i64 2)), (.c (.int .i64 3))], (some (107, true))⟩,
    ⟨(some 110), .bin .eql (.t 109) (.c (.int .i64 5)), (some (107, true))⟩,
    ⟨(some 111), .pick (.t 107) (.t 110) (.c (.bool false)), none⟩,
    ⟨(some 112), .mov (.t 111), none⟩,
    ⟨(some 113), .mov (.t 1), (some (112, true))⟩,
    ⟨(some 114), .call (.f 19) [(.t 113), (.c (.int .i64 (-5))), (.c (.int .i64 3))], (some (112, true))⟩,
    ⟨(some 115), .bin .eql (.t 114) (.c (.int .i64 (-5))), (some (112, true))⟩,
    ⟨(some 116), .pick (.t 112) (.t 115) (.c (.bool false)), none⟩,
    ⟨(some 117), .mov (.t 116), none⟩,
    ⟨(some 118), .mov (.t 1), (some (117, true))⟩,
    ⟨(some 119), .call (.f 10) [(.t 118)], (some (117, true))⟩,
    ⟨(some 120), .pick (.t 117) (.t 119) (.c (.bool false)), none⟩,
    ⟨(some 121), .mov (.t 120), none⟩,
    ⟨(some 122), .build [(.int .i64 0), (.int .i64 0)] [], (some (121, true))⟩,
    ⟨(some 123), .buildSl 2 [(.int .i64 0), (.int .i64 0)] [(0, 2, (.t 122))], (some (121, true))⟩,
    ⟨(some 124), .call (.f 10) [(.t 123)], (some (121, true))⟩,
    ⟨(some 125), .un .not (.t 124), (some (121, true))⟩,
    ⟨(some 126), .pick (.t 121) (.t 125) (.c (.bool false)), none⟩,
    ⟨(some 0), .mov (.t 126), none⟩]) <|
 .ret, [.slot 0]⟩
theorem c7 : Code1 Try.prog 7 127 b7 := Code1.mk' Try.func7 (by kernel_rfl) (by kernel_rfl) Try.ntmps7

/-- fusee/fuseelaw32.few -/
def b8 : IFn := ⟨
 .seq
 (.region [⟨(some 2), .mov (.c (.bool false)), none⟩]) <|
 .seq
 (.seq
  (.region [⟨(some 5), .mov (.t 0), none⟩,
     ⟨(some 6), .len .sl (.t 5), none⟩,
     ⟨(some 7), .mov (.c (.int .i64 0)), none⟩]) <|
  .block 0 <|
  .loop [0, 5, 6, 7] <|
   .seq
   (.region [⟨(some 8), .bin .lss (.t 7) (.t 6), none⟩]) <|
   .seq
   (.cond (.t 8)
     (.skip)
     (.exit 0)) <|
   .seq
   (.block 1 <|
    .seq
    (.region [⟨(some 9), .iaddr 2 (.t 5) (.t 7), none⟩,
       ⟨(some 10), .load true 2 (.t 9), none⟩,
       ⟨(some 4), .alloc [(.int .i64 0), (.int .i64 0)], none⟩,
       ⟨none, .store 2 (.t 4) (.t 10), none⟩]) <|
    .seq
    (.region [⟨(some 11), .faddr 0 (.t 4), none⟩,
       ⟨(some 12), .load false 1 (.t 11), none⟩,
       ⟨(some 13), .bin .lss (.t 12) (.c (.int .i64 (-2305843009213693952))), none⟩,
       ⟨(some 14), .mov (.t 13), none⟩,
       ⟨(some 15), .faddr 0 (.t 4), (some (14, false))⟩,
       ⟨(some 16), .load false 1 (.t 15), (some (14, false))⟩,
       ⟨(some 17), .bin .gtr (.t 16) (.c (.int .i64 2305843009213693952)), (some (14, false))⟩,
       ⟨(some 18), .pick (.t 14) (.c (.bool true)) (.t 17), none⟩,
       ⟨(some 19), .mov (.t 18), none⟩,
       ⟨(some 20), .faddr 1 (.t 4), (some (19, false))⟩,
       ⟨(some 21), .load false 1 (.t 20), (some (19, false))⟩,
       ⟨(some 22), .bin .lss (.t 21) (.c (.int .i64 (-2305843009213693952))), (some (19, false))⟩,
       ⟨(some 23), .pick (.t 19) (.c (.bool true)) (.t 22), none⟩,
       ⟨(some 24), .mov (.t 23), none⟩,
       ⟨(some 25), .faddr 1 (.t 4), (some (24, false))⟩,
       ⟨(some 26), .load false 1 (.t 25), (some (24, false))⟩,
       ⟨(some 27), .bin .gtr (.t 26) (.c (.int .i64 2305843009213693952)), (some (24, false))⟩,
       ⟨(some 28), .pick (.t 24) (.c (.bool true)) (.t 27), none⟩]) <|
    .cond (.t 28)
     (.seq
      (.region [⟨(some 2), .mov (.c (.bool false)), none⟩]) <|
      .ret)
     (.skip)) <|
   .region [⟨(some 29), .bin .add (.t 7) (.c (.int .i64 1)), none⟩,
     ⟨(some 7), .mov (.t 29), none⟩]) <|
 .seq
 (.region [⟨(some 30), .mov (.t 0), none⟩,
    ⟨(some 31), .len .sl (.t 30), none⟩,
    ⟨(some 32), .bin .leq (.t 31) (.c (.int .i64 40)), none⟩,
    ⟨(some 2), .mov (.t 32), none⟩]) <|
 .ret, [.slot 2]⟩
theorem c8 : Code1 Try.prog 8 33 b8 := Code1.mk' Try.func8 (by kernel_rfl) (by kernel_rfl) Try.ntmps8

/-- fusee/span.Of -/
def b9 : IFn := ⟨
 .seq
 (.region [⟨(some 2), .mov (.c (.sl none 0 (some 0))), none⟩]) <|
 .seq
 (.region [⟨(some 8), .mov (.t 0), none⟩,
    ⟨(some 9), .call (.f 21) [(.t 8)], none⟩,
    ⟨(some 10), .call (.f 20) [(.t 9), (.f 22)], none⟩,
    ⟨(some 3), .mov (.t 10), none⟩]) <|
 .seq
 (.region [⟨(some 11), .mov (.t 3), none⟩,
    ⟨(some 12), .call (.f 24) [(.t 11), (.f 25)], none⟩]) <|
 .seq
 (.region [⟨(some 4), .mov (.c (.sl none 0 (some 0))), none⟩]) <|
 .seq
 (.seq
  (.region [⟨(some 13), .mov (.t 3), none⟩,
     ⟨(some 14), .len .sl (.t 13), none⟩,
     ⟨(some 15), .mov (.c (.int .i64 0)), none⟩]) <|
  .block 0 <|
  .loop [4, 13, 14, 15] <|
   .seq
   (.region [⟨(some 16), .bin .lss (.t 15) (.t 14), none⟩]) <|
   .seq
   (.cond (.t 16)
     (.skip)
     (.exit 0)) <|
   .seq
   (.block 1 <|
    .seq
    (.region [⟨(some 17), .iaddr 2 (.t 13) (.t 15), none⟩,
       ⟨(some 18), .load true 2 (.t 17), none⟩,
       ⟨(some 6), .alloc [(.int .i64 0), (.int .i64 0)], none⟩,
       ⟨none, .store 2 (.t 6) (.t 18), none⟩]) <|
    .seq
    (.region [⟨(some 19), .mov (.t 4), none⟩,
       ⟨(some 20), .len .sl (.t 19), none⟩,
       ⟨(some 7), .mov (.t 20), none⟩]) <|
    .seq
    (.draw false [4, 6, 7, 13, 14, 15, 33] (
       .op ⟨(some 21), .mov (.t 7), none⟩ <|
       .op ⟨(some 22), .bin .gtr (.t 21) (.c (.int .i64 0)), none⟩ <|
       .op ⟨(some 23), .mov (.t 22), none⟩ <|
       .op ⟨(some 24), .mov (.t 4), (some (23, true))⟩ <|
       .op ⟨(some 25), .mov (.t 7), (some (23, true))⟩ <|
       .op ⟨(some 26), .bin .sub (.t 25) (.c (.int .i64 1)), (some (23, true))⟩ <|
       .op ⟨(some 27), .iaddr 2 (.t 24) (.t 26), (some (23, true))⟩ <|
       .op ⟨(some 28), .faddr 1 (.t 27), (some (23, true))⟩ <|
       .op ⟨(some 29), .load false 1 (.t 28), (some (23, true))⟩ <|
       .op ⟨(some 30), .faddr 0 (.t 6), (some (23, true))⟩ <|
       .op ⟨(some 31), .load false 1 (.t 30), (some (23, true))⟩ <|
       .op ⟨(some 32), .bin .geq (.t 29) (.t 31), (some (23, true))⟩ <|
       .op ⟨(some 33), .pick (.t 23) (.t 32) (.c (.bool false)), none⟩ <|
       .done)) <|
    .cond (.t 33)
     (.draw false [4, 13, 14, 15] (
        .op ⟨(some 34), .mov (.t 4), none⟩ <|
        .op ⟨(some 35), .mov (.t 7), none⟩ <|
        .op ⟨(some 36), .bin .sub (.t 35) (.c (.int .i64 1)), none⟩ <|
        .op ⟨(some 37), .mov (.t 4), none⟩ <|
        .op ⟨(some 38), .mov (.t 7), none⟩ <|
        .op ⟨(some 39), .bin .sub (.t 38) (.c (.int .i64 1)), none⟩ <|
        .op ⟨(some 40), .iaddr 2 (.t 37) (.t 39), none⟩ <|
        .op ⟨(some 41), .faddr 1 (.t 40), none⟩ <|
        .op ⟨(some 42), .load false 1 (.t 41), none⟩ <|
        .op ⟨(some 43), .faddr 1 (.t 6), none⟩ <|
        .op ⟨(some 44), .load false 1 (.t 43), none⟩ <|
        .op ⟨(some 45), .max [(.t 42), (.t 44)], none⟩ <|
        .op ⟨(some 46), .iaddr 2 (.t 34) (.t 36), none⟩ <|
        .op ⟨(some 47), .faddr 1 (.t 46), none⟩ <|
        .op ⟨none, .store 1 (.t 47) (.t 45), none⟩ <|
        .done))
     (.region [⟨(some 48), .mov (.t 4), none⟩,
        ⟨(some 49), .load true 2 (.t 6), none⟩,
        ⟨(some 50), .buildSl 2 [(.int .i64 0), (.int .i64 0)] [(0, 2, (.t 49))], none⟩,
        ⟨(some 51), .app 2 16 (.t 48) (.t 50), none⟩,
        ⟨(some 4), .mov (.t 51), none⟩])) <|
   .region [⟨(some 52), .bin .add (.t 15) (.c (.int .i64 1)), none⟩,
     ⟨(some 15), .mov (.t 52), none⟩]) <|
 .seq
 (.region [⟨(some 53), .mov (.t 4), none⟩,
    ⟨(some 2), .mov (.t 53), none⟩]) <|
 .ret, [.slot 2]⟩
theorem c9 : Code1 Try.prog 9 54 b9 := Code1.mk' Try.func9 (by kernel_rfl) (by kernel_rfl) Try.ntmps9

/-- fusee/span.Right -/
def b10 : IFn := ⟨
 .seq
 (.region [⟨(some 2), .mov (.c (.bool false)), none⟩]) <|
 .seq
 (.seq
  (.region [⟨(some 5), .mov (.t 0), none⟩,
     ⟨(some 6), .len .sl (.t 5), none⟩,
     ⟨(some 7), .mov (.c (.int .i64 0)), none⟩]) <|
  .block 0 <|
  .loop [0, 5, 6, 7] <|
   .seq
   (.region [⟨(some 8), .bin .lss (.t 7) (.t 6), none⟩]) <|
   .seq
   (.cond (.t 8)
     (.skip)
     (.exit 0)) <|
   .seq
   (.block 1 <|
    .seq
    (.region [⟨(some 9), .mov (.t 7), none⟩,
       ⟨(some 10), .iaddr 2 (.t 5) (.t 7), none⟩,
       ⟨(some 11), .load true 2 (.t 10), none⟩,
       ⟨(some 4), .alloc [(.int .i64 0), (.int .i64 0)], none⟩,
       ⟨(some 3), .mov (.t 9), none⟩,
       ⟨none, .store 2 (.t 4) (.t 11), none⟩]) <|
    .seq
    (.draw false [0, 5, 6, 7, 29] (
       .op ⟨(some 12), .load true 2 (.t 4), none⟩ <|
       .op ⟨(some 13), .call (.f 23) [(.t 12)], none⟩ <|
       .op ⟨(some 14), .un .not (.t 13), none⟩ <|
       .op ⟨(some 15), .mov (.t 14), none⟩ <|
       .op ⟨(some 16), .mov (.t 3), (some (15, false))⟩ <|
       .op ⟨(some 17), .bin .gtr (.t 16) (.c (.int .i64 0)), (some (15, false))⟩ <|
       .op ⟨(some 18), .mov (.t 17), (some (15, false))⟩ <|
       .op ⟨(some 19), .mov (.t 0), (some (18, true))⟩ <|
       .op ⟨(some 20), .mov (.t 3), (some (18, true))⟩ <|
       .op ⟨(some 21), .bin .sub (.t 20) (.c (.int .i64 1)), (some (18, true))⟩ <|
       .op ⟨(some 22), .iaddr 2 (.t 19) (.t 21), (some (18, true))⟩ <|
       .op ⟨(some 23), .faddr 1 (.t 22), (some (18, true))⟩ <|
       .op ⟨(some 24), .load false 1 (.t 23), (some (18, true))⟩ <|
       .op ⟨(some 25), .faddr 0 (.t 4), (some (18, true))⟩ <|
       .op ⟨(some 26), .load false 1 (.t 25), (some (18, true))⟩ <|
       .op ⟨(some 27), .bin .geq (.t 24) (.t 26), (some (18, true))⟩ <|
       .op ⟨(some 28), .pick (.t 18) (.t 27) (.c (.bool false)), (some (15, false))⟩ <|
       .op ⟨(some 29), .pick (.t 15) (.c (.bool true)) (.t 28), none⟩ <|
       .done)) <|
    .cond (.t 29)
     (.seq
      (.region [⟨(some 2), .mov (.c (.bool false)), none⟩]) <|
      .ret)
     (.skip)) <|
   .region [⟨(some 30), .bin .add (.t 7) (.c (.int .i64 1)), none⟩,
     ⟨(some 7), .mov (.t 30), none⟩]) <|
 .seq
 (.region [⟨(some 2), .mov (.c (.bool true)), none⟩]) <|
 .ret, [.slot 2]⟩
theorem c10 : Code1 Try.prog 10 31 b10 := Code1.mk' Try.func10 (by kernel_rfl) (by kernel_rfl) Try.ntmps10

/-- fusee/fuseelaw32.times -/
def b11 : IFn := ⟨
 .seq
 (.region [⟨(some 2), .mov (.c (.sl none 0 (some 0))), none⟩]) <|
 .seq
 (.region [⟨(some 3), .mov (.c (.sl none 0 (some 0))), none⟩]) <|
 .seq
 (.seq
  (.region [⟨(some 8), .mov (.t 0), none⟩,
     ⟨(some 9), .len .sl (.t 8), none⟩,
     ⟨(some 10), .mov (.c (.int .i64 0)), none⟩]) <|
  .block 0 <|
  .loop [3, 8, 9, 10] <|
   .seq
   (.region [⟨(some 11), .bin .lss (.t 10) (.t 9), none⟩]) <|
   .seq
   (.cond (.t 11)
     (.skip)
     (.exit 0)) <|
   .seq
   (.block 1 <|
    .seq
    (.region [⟨(some 12), .iaddr 1 (.t 8) (.t 10), none⟩,
       ⟨(some 13), .load false 1 (.t 12), none⟩,
       ⟨(some 5), .mov (.t 13), none⟩]) <|
    .seq
    (.region [⟨(some 14), .mov (.t 5), none⟩,
       ⟨(some 15), .len .sl (.t 14), none⟩,
       ⟨(some 16), .mov (.c (.int .i64 0)), none⟩]) <|
    .block 2 <|
    .loop [3, 8, 9, 10, 14, 15, 16] <|
     .seq
     (.region [⟨(some 17), .bin .lss (.t 16) (.t 15), none⟩]) <|
     .seq
     (.cond (.t 17)
       (.skip)
       (.exit 2)) <|
     .seq
     (.block 3 <|
      .seq
      (.region [⟨(some 18), .iaddr 2 (.t 14) (.t 16), none⟩,
         ⟨(some 19), .load true 2 (.t 18), none⟩,
         ⟨(some 7), .alloc [(.int .i64 0), (.int .i64 0)], none⟩,
         ⟨none, .store 2 (.t 7) (.t 19), none⟩]) <|
      .region [⟨(some 20), .mov (.t 3), none⟩,
        ⟨(some 21), .faddr 0 (.t 7), none⟩,
        ⟨(some 22), .load false 1 (.t 21), none⟩,
        ⟨(some 23), .bin .sub (.t 22) (.c (.int .i64 1)), none⟩,
        ⟨(some 24), .faddr 0 (.t 7), none⟩,
        ⟨(some 25), .load false 1 (.t 24), none⟩,
        ⟨(some 26), .faddr 0 (.t 7), none⟩,
        ⟨(some 27), .load false 1 (.t 26), none⟩,
        ⟨(some 28), .bin .add (.t 27) (.c (.int .i64 1)), none⟩,
        ⟨(some 29), .faddr 1 (.t 7), none⟩,
        ⟨(some 30), .load false 1 (.t 29), none⟩,
        ⟨(some 31), .bin .sub (.t 30) (.c (.int .i64 1)), none⟩,
        ⟨(some 32), .faddr 1 (.t 7), none⟩,
        ⟨(some 33), .load false 1 (.t 32), none⟩,
        ⟨(some 34), .faddr 1 (.t 7), none⟩,
        ⟨(some 35), .load false 1 (.t 34), none⟩,
        ⟨(some 36), .bin .add (.t 35) (.c (.int .i64 1)), none⟩,
        ⟨(some 37), .buildSl 1 [(.int .i64 0), (.int .i64 0), (.int .i64 0), (.int .i64 0), (.int .i64 0), (.int .i64 0)] [(0, 1, (.t 23)), (1, 1, (.t 25)), (2, 1, (.t 28)), (3, 1, (.t 31)), (4, 1, (.t 33)), (5, 1, (.t 36))], none⟩,
        ⟨(some 38), .app 1 8 (.t 20) (.t 37), none⟩,
        ⟨(some 3), .mov (.t 38), none⟩]) <|
     .region [⟨(some 39), .bin .add (.t 16) (.c (.int .i64 1)), none⟩,
       ⟨(some 16), .mov (.t 39), none⟩]) <|
   .region [⟨(some 40), .bin .add (.t 10) (.c (.int .i64 1)), none⟩,
     ⟨(some 10), .mov (.t 40), none⟩]) <|
 .seq
 (.region [⟨(some 41), .mov (.t 3), none⟩,
    ⟨(some 2), .mov (.t 41), none⟩]) <|
 .ret, [.slot 2]⟩
theorem c11 : Code1 Try.prog 11 42 b11 := Code1.mk' Try.func11 (by kernel_rfl) (by kernel_rfl) Try.ntmps11

/-- fusee/span.Set.Has -/
def b12 : IFn := ⟨
 .seq
 (.region [⟨(some 4), .mov (.c (.bool false)), none⟩]) <|
 .seq
 (.region [⟨(some 8), .mov (.t 0), none⟩,
    ⟨(some 9), .mov (.t 1), none⟩,
    ⟨(some 10), .call (.f 14) [(.t 8), (.t 9)], none⟩,
    ⟨(some 7), .mov (.t 10), none⟩,
    ⟨(some 11), .extract (.t 7) 0, none⟩,
    ⟨(some 12), .extract (.t 7) 1, none⟩,
    ⟨(some 5), .mov (.t 11), none⟩,
    ⟨(some 6), .mov (.t 12), none⟩]) <|
 .seq
 (.region [⟨(some 13), .mov (.t 6), none⟩,
    ⟨(some 14), .mov (.t 13), none⟩,
    ⟨(some 15), .mov (.t 5), (some (14, true))⟩,
    ⟨(some 16), .mov (.t 1), (some (14, true))⟩,
    ⟨(some 17), .bin .eql (.t 15) (.t 16), (some (14, true))⟩,
    ⟨(some 18), .pick (.t 14) (.t 17) (.c (.bool false)), none⟩,
    ⟨(some 4), .mov (.t 18), none⟩]) <|
 .ret, [.slot 4]⟩
theorem c12 : Code1 Try.prog 12 19 b12 := Code1.mk' Try.func12 (by kernel_rfl) (by kernel_rfl) Try.ntmps12

/-- fusee/fuseelaw32.in -/
def b13 : IFn := ⟨
 .seq
 (.region [⟨(some 4), .mov (.c (.bool false)), none⟩]) <|
 .seq
 (.seq
  (.region [⟨(some 7), .mov (.t 0), none⟩,
     ⟨(some 8), .len .sl (.t 7), none⟩,
     ⟨(some 9), .mov (.c (.int .i64 0)), none⟩]) <|
  .block 0 <|
  .loop [1, 7, 8, 9] <|
   .seq
   (.region [⟨(some 10), .bin .lss (.t 9) (.t 8), none⟩]) <|
   .seq
   (.cond (.t 10)
     (.skip)
     (.exit 0)) <|
   .seq
   (.block 1 <|
    .seq
    (.region [⟨(some 11), .iaddr 2 (.t 7) (.t 9), none⟩,
       ⟨(some 12), .load true 2 (.t 11), none⟩,
       ⟨(some 6), .alloc [(.int .i64 0), (.int .i64 0)], none⟩,
       ⟨none, .store 2 (.t 6) (.t 12), none⟩]) <|
    .seq
    (.region [⟨(some 13), .faddr 0 (.t 6), none⟩,
       ⟨(some 14), .load false 1 (.t 13), none⟩,
       ⟨(some 15), .bin .geq (.t 14) (.c (.int .i64 (-1152921504606846976))), none⟩,
       ⟨(some 16), .mov (.t 15), none⟩,
       ⟨(some 17), .faddr 1 (.t 6), (some (16, true))⟩,
       ⟨(some 18), .load false 1 (.t 17), (some (16, true))⟩,
       ⟨(some 19), .bin .leq (.t 18) (.c (.int .i64 1152921504606846976)), (some (16, true))⟩,
       ⟨(some 20), .pick (.t 16) (.t 19) (.c (.bool false)), none⟩,
       ⟨(some 21), .mov (.t 20), none⟩,
       ⟨(some 22), .faddr 0 (.t 6), (some (21, true))⟩,
       ⟨(some 23), .load false 1 (.t 22), (some (21, true))⟩,
       ⟨(some 24), .mov (.t 1), (some (21, true))⟩,
       ⟨(some 25), .bin .leq (.t 23) (.t 24), (some (21, true))⟩,
       ⟨(some 26), .pick (.t 21) (.t 25) (.c (.bool false)), none⟩,
       ⟨(some 27), .mov (.t 26), none⟩,
       ⟨(some 28), .mov (.t 1), (some (27, true))⟩,
       ⟨(some 29), .faddr 1 (.t 6), (some (27, true))⟩,
       ⟨(some 30), .load false 1 (.t 29), (some (27, true))⟩,
       ⟨(some 31), .bin .lss (.t 28) (.t 30), (some (27, true))⟩,
       ⟨(some 32), .pick (.t 27) (.t 31) (.c (.bool false)), none⟩]) <|
    .cond (.t 32)
     (.seq
      (.region [⟨(some 4), .mov (.c (.bool true)), none⟩]) <|
      .ret)
     (.skip)) <|
   .region [⟨(some 33), .bin .add (.t 9) (.c (.int .i64 1)), none⟩,
     ⟨(some 9), .mov (.t 33), none⟩]) <|
 .seq
 (.region [⟨(some 4), .mov (.c (.bool false)), none⟩]) <|
 .ret, [.slot 4]⟩
theorem c13 : Code1 Try.prog 13 34 b13 := Code1.mk' Try.func13 (by kernel_rfl) (by kernel_rfl) Try.ntmps13

/-- fusee/span.Set.Next -/
def b14 : IFn := ⟨
 .seq
 (.region [⟨(some 4), .mov (.c (.int .i64 0)), none⟩,
    ⟨(some 5), .mov (.c (.bool false)), none⟩]) <|
 .seq
 (.seq
  (.region [⟨(some 8), .mov (.t 0), none⟩,
     ⟨(some 9), .call (.f 27) [(.t 8)], none⟩,
     ⟨(some 10), .len .sl (.t 9), none⟩,
     ⟨(some 11), .mov (.c (.int .i64 0)), none⟩]) <|
  .block 0 <|
  .loop [1, 9, 10, 11] <|
   .seq
   (.region [⟨(some 12), .bin .lss (.t 11) (.t 10), none⟩]) <|
   .seq
   (.cond (.t 12)
     (.skip)
     (.exit 0)) <|
   .seq
   (.block 1 <|
    .seq
    (.region [⟨(some 13), .iaddr 2 (.t 9) (.t 11), none⟩,
       ⟨(some 14), .load true 2 (.t 13), none⟩,
       ⟨(some 7), .alloc [(.int .i64 0), (.int .i64 0)], none⟩,
       ⟨none, .store 2 (.t 7) (.t 14), none⟩]) <|
    .seq
    (.region [⟨(some 15), .mov (.t 1), none⟩,
       ⟨(some 16), .faddr 1 (.t 7), none⟩,
       ⟨(some 17), .load false 1 (.t 16), none⟩,
       ⟨(some 18), .bin .lss (.t 15) (.t 17), none⟩]) <|
    .cond (.t 18)
     (.seq
      (.region [⟨(some 19), .mov (.t 1), none⟩,
         ⟨(some 20), .faddr 0 (.t 7), none⟩,
         ⟨(some 21), .load false 1 (.t 20), none⟩,
         ⟨(some 22), .max [(.t 19), (.t 21)], none⟩,
         ⟨(some 4), .mov (.t 22), none⟩,
         ⟨(some 5), .mov (.c (.bool true)), none⟩]) <|
      .ret)
     (.skip)) <|
   .region [⟨(some 23), .bin .add (.t 11) (.c (.int .i64 1)), none⟩,
     ⟨(some 11), .mov (.t 23), none⟩]) <|
 .seq
 (.region [⟨(some 4), .mov (.c (.int .i64 0)), none⟩,
    ⟨(some 5), .mov (.c (.bool false)), none⟩]) <|
 .ret, [.slot 4, .slot 5]⟩
theorem c14 : Code1 Try.prog 14 24 b14 := Code1.mk' Try.func14 (by kernel_rfl) (by kernel_rfl) Try.ntmps14

/-- fusee/span.Set.Or -/
def b15 : IFn := ⟨
 .seq
 (.region [⟨(some 4), .mov (.c (.sl none 0 (some 0))), none⟩]) <|
 .seq
 (.region [⟨(some 5), .mov (.t 0), none⟩,
    ⟨(some 6), .mov (.t 1), none⟩,
    ⟨(some 7), .call (.f 28) [(.t 5), (.t 6), (.f 29)], none⟩,
    ⟨(some 4), .mov (.t 7), none⟩]) <|
 .ret, [.slot 4]⟩
theorem c15 : Code1 Try.prog 15 8 b15 := Code1.mk' Try.func15 (by kernel_rfl) (by kernel_rfl) Try.ntmps15

/-- fusee/span.Set.And -/
def b16 : IFn := ⟨
 .seq
 (.region [⟨(some 4), .mov (.c (.sl none 0 (some 0))), none⟩]) <|
 .seq
 (.region [⟨(some 5), .mov (.t 0), none⟩,
    ⟨(some 6), .mov (.t 1), none⟩,
    ⟨(some 7), .call (.f 28) [(.t 5), (.t 6), (.f 30)], none⟩,
    ⟨(some 4), .mov (.t 7), none⟩]) <|
 .ret, [.slot 4]⟩
theorem c16 : Code1 Try.prog 16 8 b16 := Code1.mk' Try.func16 (by kernel_rfl) (by kernel_rfl) Try.ntmps16

/-- fusee/span.Set.Not -/
def b17 : IFn := ⟨
 .seq
 (.region [⟨(some 4), .mov (.c (.sl none 0 (some 0))), none⟩]) <|
 .seq
 (.region [⟨(some 5), .mov (.t 0), none⟩,
    ⟨(some 6), .mov (.t 1), none⟩,
    ⟨(some 7), .call (.f 28) [(.t 5), (.t 6), (.f 31)], none⟩,
    ⟨(some 4), .mov (.t 7), none⟩]) <|
 .ret, [.slot 4]⟩
theorem c17 : Code1 Try.prog 17 8 b17 := Code1.mk' Try.func17 (by kernel_rfl) (by kernel_rfl) Try.ntmps17

/-- fusee/span.Set.Len -/
def b18 : IFn := ⟨
 .seq
 (.region [⟨(some 2), .mov (.c (.int .i64 0)), none⟩]) <|
 .seq
 (.region [⟨(some 3), .mov (.c (.int .i64 0)), none⟩]) <|
 .seq
 (.seq
  (.region [⟨(some 6), .mov (.t 0), none⟩,
     ⟨(some 7), .call (.f 27) [(.t 6)], none⟩,
     ⟨(some 8), .len .sl (.t 7), none⟩,
     ⟨(some 9), .mov (.c (.int .i64 0)), none⟩]) <|
  .block 0 <|
  .loop [3, 7, 8, 9] <|
   .seq
   (.region [⟨(some 10), .bin .lss (.t 9) (.t 8), none⟩]) <|
   .seq
   (.cond (.t 10)
     (.skip)
     (.exit 0)) <|
   .seq
   (.block 1 <|
    .seq
    (.region [⟨(some 11), .iaddr 2 (.t 7) (.t 9), none⟩,
       ⟨(some 12), .load true 2 (.t 11), none⟩,
       ⟨(some 5), .alloc [(.int .i64 0), (.int .i64 0)], none⟩,
       ⟨none, .store 2 (.t 5) (.t 12), none⟩]) <|
    .region [⟨(some 13), .mov (.t 3), none⟩,
      ⟨(some 14), .faddr 1 (.t 5), none⟩,
      ⟨(some 15), .load false 1 (.t 14), none⟩,
      ⟨(some 16), .faddr 0 (.t 5), none⟩,
      ⟨(some 17), .load false 1 (.t 16), none⟩,
      ⟨(some 18), .bin .sub (.t 15) (.t 17), none⟩,
      ⟨(some 19), .bin .add (.t 13) (.t 18), none⟩,
      ⟨(some 3), .mov (.t 19), none⟩]) <|
   .region [⟨(some 20), .bin .add (.t 9) (.c (.int .i64 1)), none⟩,
     ⟨(some 9), .mov (.t 20), none⟩]) <|
 .seq
 (.region [⟨(some 21), .mov (.t 3), none⟩,
    ⟨(some 2), .mov (.t 21), none⟩]) <|
 .ret, [.slot 2]⟩
theorem c18 : Code1 Try.prog 18 22 b18 := Code1.mk' Try.func18 (by kernel_rfl) (by kernel_rfl) Try.ntmps18

/-- fusee/span.Set.Free -/
def b19 : IFn := ⟨
 .seq
 (.region [⟨(some 6), .mov (.c (.int .i64 0)), none⟩]) <|
 .seq
 (.seq
  (.region [⟨(some 9), .mov (.t 0), none⟩,
     ⟨(some 10), .call (.f 27) [(.t 9)], none⟩,
     ⟨(some 11), .len .sl (.t 10), none⟩,
     ⟨(some 12), .mov (.c (.int .i64 0)), none⟩]) <|
  .block 0 <|
  .loop [1, 2, 10, 11, 12] <|
   .seq
   (.region [⟨(some 13), .bin .lss (.t 12) (.t 11), none⟩]) <|
   .seq
   (.cond (.t 13)
     (.skip)
     (.exit 0)) <|
   .seq
   (.block 1 <|
    .seq
    (.region [⟨(some 14), .iaddr 2 (.t 10) (.t 12), none⟩,
       ⟨(some 15), .load true 2 (.t 14), none⟩,
       ⟨(some 8), .alloc [(.int .i64 0), (.int .i64 0)], none⟩,
       ⟨none, .store 2 (.t 8) (.t 15), none⟩]) <|
    .seq
    (.seq
     (.region [⟨(some 16), .mov (.t 1), none⟩,
        ⟨(some 17), .faddr 0 (.t 8), none⟩,
        ⟨(some 18), .load false 1 (.t 17), none⟩,
        ⟨(some 19), .bin .lss (.t 16) (.t 18), none⟩,
        ⟨(some 20), .mov (.t 19), none⟩,
        ⟨(some 21), .faddr 0 (.t 8), (some (20, true))⟩,
        ⟨(some 22), .load false 1 (.t 21), (some (20, true))⟩,
        ⟨(some 23), .conv .u64 (.t 22), (some (20, true))⟩,
        ⟨(some 24), .mov (.t 1), (some (20, true))⟩,
        ⟨(some 25), .conv .u64 (.t 24), (some (20, true))⟩,
        ⟨(some 26), .bin .sub (.t 23) (.t 25), (some (20, true))⟩,
        ⟨(some 27), .mov (.t 2), (some (20, true))⟩,
        ⟨(some 28), .max [(.t 27), (.c (.int .i64 1))], (some (20, true))⟩,
        ⟨(some 29), .conv .u64 (.t 28), (some (20, true))⟩,
        ⟨(some 30), .bin .geq (.t 26) (.t 29), (some (20, true))⟩,
        ⟨(some 31), .pick (.t 20) (.t 30) (.c (.bool false)), none⟩]) <|
     .cond (.t 31)
      (.seq
       (.region [⟨(some 32), .mov (.t 1), none⟩,
          ⟨(some 6), .mov (.t 32), none⟩]) <|
       .ret)
      (.skip)) <|
    .region [⟨(some 33), .mov (.t 1), none⟩,
      ⟨(some 34), .faddr 1 (.t 8), none⟩,
      ⟨(some 35), .load false 1 (.t 34), none⟩,
      ⟨(some 36), .max [(.t 33), (.t 35)], none⟩,
      ⟨(some 1), .mov (.t 36), none⟩]) <|
   .region [⟨(some 37), .bin .add (.t 12) (.c (.int .i64 1)), none⟩,
     ⟨(some 12), .mov (.t 37), none⟩]) <|
 .seq
 (.region [⟨(some 38), .mov (.t 1), none⟩,
    ⟨(some 6), .mov (.t 38), none⟩]) <|
 .ret, [.slot 6]⟩
theorem c19 : Code1 Try.prog 19 39 b19 := Code1.mk' Try.func19 (by kernel_rfl) (by kernel_rfl) Try.ntmps19

/-- slices.DeleteFunc[[]fusee/span.Span,fusee/span.Span] -/
def b20 : IFn := ⟨
 .seq
 (.region [⟨(some 4), .mov (.c (.sl none 0 (some 0))), none⟩]) <|
 .seq
 (.region [⟨(some 8), .mov (.t 0), none⟩,
    ⟨(some 9), .mov (.t 1), none⟩,
    ⟨(some 10), .call (.f 32) [(.t 8), (.t 9)], none⟩,
    ⟨(some 5), .mov (.t 10), none⟩]) <|
 .seq
 (.seq
  (.region [⟨(some 11), .mov (.t 5), none⟩,
     ⟨(some 12), .bin .eql (.t 11) (.c (.int .i64 (-1))), none⟩]) <|
  .cond (.t 12)
   (.seq
    (.region [⟨(some 13), .mov (.t 0), none⟩,
       ⟨(some 4), .mov (.t 13), none⟩]) <|
    .ret)
   (.skip)) <|
 .seq
 (.seq
  (.region [⟨(some 14), .mov (.t 5), none⟩,
     ⟨(some 15), .bin .add (.t 14) (.c (.int .i64 1)), none⟩,
     ⟨(some 6), .mov (.t 15), none⟩]) <|
  .block 0 <|
  .loop [0, 1, 5, 6] <|
   .seq
   (.seq
    (.region [⟨(some 16), .mov (.t 6), none⟩,
       ⟨(some 17), .mov (.t 0), none⟩,
       ⟨(some 18), .len .sl (.t 17), none⟩,
       ⟨(some 19), .bin .lss (.t 16) (.t 18), none⟩]) <|
    .cond (.t 19)
     (.skip)
     (.exit 0)) <|
   .seq
   (.block 1 <|
    .seq
    (.region [⟨(some 22), .mov (.t 0), none⟩,
       ⟨(some 23), .mov (.t 6), none⟩,
       ⟨(some 24), .iaddr 2 (.t 22) (.t 23), none⟩,
       ⟨(some 25), .load true 2 (.t 24), none⟩,
       ⟨(some 7), .alloc [(.int .i64 0), (.int .i64 0)], none⟩,
       ⟨none, .store 2 (.t 7) (.t 25), none⟩]) <|
    .seq
    (.region [⟨(some 26), .mov (.t 1), none⟩,
       ⟨(some 27), .load true 2 (.t 7), none⟩,
       ⟨(some 28), .call (.t 26) [(.t 27)], none⟩,
       ⟨(some 29), .un .not (.t 28), none⟩]) <|
    .cond (.t 29)
     (.seq
      (.region [⟨(some 30), .mov (.t 0), none⟩,
         ⟨(some 31), .mov (.t 5), none⟩,
         ⟨(some 32), .load true 2 (.t 7), none⟩,
         ⟨(some 33), .iaddr 2 (.t 30) (.t 31), none⟩,
         ⟨none, .store 2 (.t 33) (.t 32), none⟩]) <|
      .region [⟨(some 34), .mov (.t 5), none⟩,
        ⟨(some 35), .bin .add (.t 34) (.c (.int .i64 1)), none⟩,
        ⟨(some 5), .mov (.t 35), none⟩])
     (.skip)) <|
   .region [⟨(some 20), .mov (.t 6), none⟩,
     ⟨(some 21), .bin .add (.t 20) (.c (.int .i64 1)), none⟩,
     ⟨(some 6), .mov (.t 21), none⟩]) <|
 .seq
 (.region [⟨(some 36), .mov (.t 0), none⟩,
    ⟨(some 37), .mov (.t 5), none⟩,
    ⟨(some 38), .slice 2 (.t 36) (some (.t 37)) none none, none⟩,
    ⟨none, .clear [(.int .i64 0), (.int .i64 0)] (.t 38), none⟩]) <|
 .seq
 (.region [⟨(some 39), .mov (.t 0), none⟩,
    ⟨(some 40), .mov (.t 5), none⟩,
    ⟨(some 41), .slice 2 (.t 39) none (some (.t 40)) none, none⟩,
    ⟨(some 4), .mov (.t 41), none⟩]) <|
 .ret, [.slot 4]⟩
theorem c20 : Code1 Try.prog 20 42 b20 := Code1.mk' Try.func20 (by kernel_rfl) (by kernel_rfl) Try.ntmps20

/-- slices.Clone[[]fusee/span.Span,fusee/span.Span] -/
def b21 : IFn := ⟨
 .seq
 (.region [⟨(some 2), .mov (.c (.sl none 0 (some 0))), none⟩]) <|
 .seq
 (.seq
  (.region [⟨(some 3), .mov (.t 0), none⟩,
     ⟨(some 4), .eq false false [.sl] (.t 3) (.c (.sl none 0 (some 0))), none⟩]) <|
  .cond (.t 4)
   (.seq
    (.region [⟨(some 2), .mov (.c (.sl none 0 (some 0))), none⟩]) <|
    .ret)
   (.skip)) <|
 .seq
 (.region [⟨(some 5), .buildSl 2 [] [], none⟩,
    ⟨(some 6), .mov (.t 0), none⟩,
    ⟨(some 7), .app 2 16 (.t 5) (.t 6), none⟩,
    ⟨(some 2), .mov (.t 7), none⟩]) <|
 .ret, [.slot 2]⟩
theorem c21 : Code1 Try.prog 21 8 b21 := Code1.mk' Try.func21 (by kernel_rfl) (by kernel_rfl) Try.ntmps21

/-- fusee/span.Of$1 -/
def b22 : IFn := ⟨
 .seq
 (.region [⟨(some 1), .box (.t 0), none⟩,
    ⟨(some 2), .mov (.c (.bool false)), none⟩]) <|
 .seq
 (.region [⟨(some 3), .load true 2 (.t 1), none⟩,
    ⟨(some 4), .call (.f 23) [(.t 3)], none⟩,
    ⟨(some 5), .un .not (.t 4), none⟩,
    ⟨(some 2), .mov (.t 5), none⟩]) <|
 .ret, [.slot 2]⟩
theorem c22 : Code1 Try.prog 22 6 b22 := Code1.mk' Try.func22 (by kernel_rfl) (by kernel_rfl) Try.ntmps22

/-- fusee/span.Span.right -/
def b23 : IFn := ⟨
 .seq
 (.region [⟨(some 1), .box (.t 0), none⟩,
    ⟨(some 2), .mov (.c (.bool false)), none⟩]) <|
 .seq
 (.region [⟨(some 3), .faddr 0 (.t 1), none⟩,
    ⟨(some 4), .load false 1 (.t 3), none⟩,
    ⟨(some 5), .bin .geq (.t 4) (.c (.int .i64 (-1152921504606846976))), none⟩,
    ⟨(some 6), .mov (.t 5), none⟩,
    ⟨(some 7), .faddr 1 (.t 1), (some (6, true))⟩,
    ⟨(some 8), .load false 1 (.t 7), (some (6, true))⟩,
    ⟨(some 9), .bin .leq (.t 8) (.c (.int .i64 1152921504606846976)), (some (6, true))⟩,
    ⟨(some 10), .pick (.t 6) (.t 9) (.c (.bool false)), none⟩,
    ⟨(some 11), .mov (.t 10), none⟩,
    ⟨(some 12), .faddr 0 (.t 1), (some (11, true))⟩,
    ⟨(some 13), .load false 1 (.t 12), (some (11, true))⟩,
    ⟨(some 14), .faddr 1 (.t 1), (some (11, true))⟩,
    ⟨(some 15), .load false 1 (.t 14), (some (11, true))⟩,
    ⟨(some 16), .bin .lss (.t 13) (.t 15), (some (11, true))⟩,
    ⟨(some 17), .pick (.t 11) (.t 16) (.c (.bool false)), none⟩,
    ⟨(some 2), .mov (.t 17), none⟩]) <|
 .ret, [.slot 2]⟩
theorem c23 : Code1 Try.prog 23 18 b23 := Code1.mk' Try.func23 (by kernel_rfl) (by kernel_rfl) Try.ntmps23

/-- slices.SortFunc[[]fusee/span.Span,fusee/span.Span] -/
def b24 : IFn := ⟨
 .seq
 (.region [⟨(some 5), .mov (.t 0), none⟩,
    ⟨(some 6), .len .sl (.t 5), none⟩,
    ⟨(some 4), .mov (.t 6), none⟩]) <|
 .region [⟨(some 7), .mov (.t 0), none⟩,
   ⟨(some 8), .mov (.t 4), none⟩,
   ⟨(some 9), .mov (.t 4), none⟩,
   ⟨(some 10), .conv .u64 (.t 9), none⟩,
   ⟨(some 11), .call (.f 34) [(.t 10)], none⟩,
   ⟨(some 12), .mov (.t 1), none⟩,
   ⟨(some 13), .call (.f 33) [(.t 7), (.c (.int .i64 0)), (.t 8), (.t 11), (.t 12)], none⟩], []⟩
theorem c24 : Code1 Try.prog 24 14 b24 := Code1.mk' Try.func24 (by kernel_rfl) (by kernel_rfl) Try.ntmps24

/-- fusee/span.Of$2 -/
def b25 : IFn := ⟨
 .seq
 (.region [⟨(some 2), .box (.t 0), none⟩,
    ⟨(some 3), .box (.t 1), none⟩,
    ⟨(some 4), .mov (.c (.int .i64 0)), none⟩]) <|
 .seq
 (.region [⟨(some 5), .faddr 0 (.t 2), none⟩,
    ⟨(some 6), .load false 1 (.t 5), none⟩,
    ⟨(some 7), .faddr 0 (.t 3), none⟩,
    ⟨(some 8), .load false 1 (.t 7), none⟩,
    ⟨(some 9), .call (.f 26) [(.t 6), (.t 8)], none⟩,
    ⟨(some 4), .mov (.t 9), none⟩]) <|
 .ret, [.slot 4]⟩
theorem c25 : Code1 Try.prog 25 10 b25 := Code1.mk' Try.func25 (by kernel_rfl) (by kernel_rfl) Try.ntmps25

/-- cmp.Compare[int] -/
def b26 : IFn := ⟨
 .seq
 (.region [⟨(some 4), .mov (.c (.int .i64 0)), none⟩]) <|
 .seq
 (.region [⟨(some 7), .mov (.t 0), none⟩,
    ⟨(some 8), .call (.f 35) [(.t 7)], none⟩,
    ⟨(some 5), .mov (.t 8), none⟩]) <|
 .seq
 (.region [⟨(some 9), .mov (.t 1), none⟩,
    ⟨(some 10), .call (.f 35) [(.t 9)], none⟩,
    ⟨(some 6), .mov (.t 10), none⟩]) <|
 .seq
 (.seq
  (.region [⟨(some 11), .mov (.t 5), none⟩]) <|
  .cond (.t 11)
   (.seq
    (.seq
     (.region [⟨(some 12), .mov (.t 6), none⟩]) <|
     .cond (.t 12)
      (.seq
       (.region [⟨(some 4), .mov (.c (.int .i64 0)), none⟩]) <|
       .ret)
      (.skip)) <|
    .seq
    (.region [⟨(some 4), .mov (.c (.int .i64 (-1))), none⟩]) <|
    .ret)
   (.skip)) <|
 .seq
 (.seq
  (.region [⟨(some 13), .mov (.t 6), none⟩]) <|
  .cond (.t 13)
   (.seq
    (.region [⟨(some 4), .mov (.c (.int .i64 1)), none⟩]) <|
    .ret)
   (.skip)) <|
 .seq
 (.seq
  (.region [⟨(some 14), .mov (.t 0), none⟩,
     ⟨(some 15), .mov (.t 1), none⟩,
     ⟨(some 16), .bin .lss (.t 14) (.t 15), none⟩]) <|
  .cond (.t 16)
   (.seq
    (.region [⟨(some 4), .mov (.c (.int .i64 (-1))), none⟩]) <|
    .ret)
   (.skip)) <|
 .seq
 (.seq
  (.region [⟨(some 17), .mov (.t 0), none⟩,
     ⟨(some 18), .mov (.t 1), none⟩,
     ⟨(some 19), .bin .gtr (.t 17) (.t 18), none⟩]) <|
  .cond (.t 19)
   (.seq
    (.region [⟨(some 4), .mov (.c (.int .i64 1)), none⟩]) <|
    .ret)
   (.skip)) <|
 .seq
 (.region [⟨(some 4), .mov (.c (.int .i64 0)), none⟩]) <|
 .ret, [.slot 4]⟩
theorem c26 : Code1 Try.prog 26 20 b26 := Code1.mk' Try.func26 (by kernel_rfl) (by kernel_rfl) Try.ntmps26

/-- fusee/span.Set.whole -/
def b27 : IFn := ⟨
 .seq
 (.region [⟨(some 2), .mov (.c (.sl none 0 (some 0))), none⟩]) <|
 .seq
 (.seq
  (.region [⟨(some 3), .mov (.t 0), none⟩,
     ⟨(some 4), .call (.f 10) [(.t 3)], none⟩]) <|
  .cond (.t 4)
   (.seq
    (.region [⟨(some 5), .mov (.t 0), none⟩,
       ⟨(some 2), .mov (.t 5), none⟩]) <|
    .ret)
   (.skip)) <|
 .seq
 (.region [⟨(some 6), .mov (.t 0), none⟩,
    ⟨(some 7), .call (.f 9) [(.t 6)], none⟩,
    ⟨(some 2), .mov (.t 7), none⟩]) <|
 .ret, [.slot 2]⟩
theorem c27 : Code1 Try.prog 27 8 b27 := Code1.mk' Try.func27 (by kernel_rfl) (by kernel_rfl) Try.ntmps27

/-- fusee/span.join -/
def b28 : IFn := ⟨
 .seq
 (.region [⟨(some 6), .mov (.c (.sl none 0 (some 0))), none⟩]) <|
 .seq
 (.region [⟨(some 7), .mov (.c (.sl none 0 (some 0))), none⟩]) <|
 .seq
 (.region [⟨(some 8), .mov (.c (.int .i64 0)), none⟩,
    ⟨(some 9), .mov (.c (.int .i64 0)), none⟩]) <|
 .seq
 (.region [⟨(some 13), .mov (.t 0), none⟩,
    ⟨(some 14), .call (.f 27) [(.t 13)], none⟩,
    ⟨(some 15), .mov (.t 1), none⟩,
    ⟨(some 16), .call (.f 27) [(.t 15)], none⟩,
    ⟨(some 17), .call (.f 36) [(.t 14), (.t 16)], none⟩,
    ⟨(some 10), .mov (.t 17), none⟩]) <|
 .seq
 (.seq
  (.region [⟨(some 18), .mov (.t 10), none⟩,
     ⟨(some 19), .len .sl (.t 18), none⟩,
     ⟨(some 20), .mov (.c (.int .i64 0)), none⟩]) <|
  .block 0 <|
  .loop [2, 7, 8, 9, 10, 18, 19, 20] <|
   .seq
   (.region [⟨(some 21), .bin .lss (.t 20) (.t 19), none⟩]) <|
   .seq
   (.cond (.t 21)
     (.skip)
     (.exit 0)) <|
   .seq
   (.block 1 <|
    .seq
    (.region [⟨(some 22), .mov (.t 20), none⟩,
       ⟨(some 23), .iaddr 3 (.t 18) (.t 20), none⟩,
       ⟨(some 24), .load true 3 (.t 23), none⟩,
       ⟨(some 12), .alloc [(.int .i64 0), (.int .i64 0), (.int .i64 0)], none⟩,
       ⟨(some 11), .mov (.t 22), none⟩,
       ⟨none, .store 3 (.t 12) (.t 24), none⟩]) <|
    .seq
    (.draw false [2, 7, 8, 9, 10, 11, 12, 18, 19, 20] (
       .op ⟨(some 25), .mov (.t 8), none⟩ <|
       .op ⟨(some 26), .faddr 1 (.t 12), none⟩ <|
       .op ⟨(some 27), .load false 1 (.t 26), none⟩ <|
       .op ⟨(some 28), .bin .add (.t 25) (.t 27), none⟩ <|
       .op ⟨(some 29), .mov (.t 9), none⟩ <|
       .op ⟨(some 30), .faddr 2 (.t 12), none⟩ <|
       .op ⟨(some 31), .load false 1 (.t 30), none⟩ <|
       .op ⟨(some 32), .bin .add (.t 29) (.t 31), none⟩ <|
       .op ⟨(some 8), .mov (.t 28), none⟩ <|
       .op ⟨(some 9), .mov (.t 32), none⟩ <|
       .done)) <|
    .seq
    (.region [⟨(some 33), .mov (.t 11), none⟩,
       ⟨(some 34), .bin .add (.t 33) (.c (.int .i64 1)), none⟩,
       ⟨(some 35), .mov (.t 10), none⟩,
       ⟨(some 36), .len .sl (.t 35), none⟩,
       ⟨(some 37), .bin .lss (.t 34) (.t 36), none⟩,
       ⟨(some 38), .mov (.t 37), none⟩,
       ⟨(some 39), .mov (.t 2), (some (38, true))⟩,
       ⟨(some 40), .mov (.t 8), (some (38, true))⟩,
       ⟨(some 41), .bin .gtr (.t 40) (.c (.int .i64 0)), (some (38, true))⟩,
       ⟨(some 42), .mov (.t 9), (some (38, true))⟩,
       ⟨(some 43), .bin .gtr (.t 42) (.c (.int .i64 0)), (some (38, true))⟩,
       ⟨(some 44), .call (.t 39) [(.t 41), (.t 43)], (some (38, true))⟩,
       ⟨(some 45), .pick (.t 38) (.t 44) (.c (.bool false)), none⟩]) <|
    .cond (.t 45)
     (.draw false [2, 7, 8, 9, 10, 18, 19, 20] (
        .op ⟨(some 46), .mov (.t 7), none⟩ <|
        .op ⟨(some 47), .faddr 0 (.t 12), none⟩ <|
        .op ⟨(some 48), .load false 1 (.t 47), none⟩ <|
        .op ⟨(some 49), .mov (.t 10), none⟩ <|
        .op ⟨(some 50), .mov (.t 11), none⟩ <|
        .op ⟨(some 51), .bin .add (.t 50) (.c (.int .i64 1)), none⟩ <|
        .op ⟨(some 52), .iaddr 3 (.t 49) (.t 51), none⟩ <|
        .op ⟨(some 53), .faddr 0 (.t 52), none⟩ <|
        .op ⟨(some 54), .load false 1 (.t 53), none⟩ <|
        .op ⟨(some 55), .build [(.int .i64 0), (.int .i64 0)] [(0, 1, (.t 48)), (1, 1, (.t 54))], none⟩ <|
        .op ⟨(some 56), .buildSl 2 [(.int .i64 0), (.int .i64 0)] [(0, 2, (.t 55))], none⟩ <|
        .op ⟨(some 57), .app 2 16 (.t 46) (.t 56), none⟩ <|
        .op ⟨(some 7), .mov (.t 57), none⟩ <|
        .done))
     (.skip)) <|
   .region [⟨(some 58), .bin .add (.t 20) (.c (.int .i64 1)), none⟩,
     ⟨(some 20), .mov (.t 58), none⟩]) <|
 .seq
 (.region [⟨(some 59), .mov (.t 7), none⟩,
    ⟨(some 60), .call (.f 9) [(.t 59)], none⟩,
    ⟨(some 6), .mov (.t 60), none⟩]) <|
 .ret, [.slot 6]⟩
theorem c28 : Code1 Try.prog 28 61 b28 := Code1.mk' Try.func28 (by kernel_rfl) (by kernel_rfl) Try.ntmps28

/-- fusee/span.Set.Or$1 -/
def b29 : IFn := ⟨
 .seq
 (.region [⟨(some 4), .mov (.c (.bool false)), none⟩]) <|
 .seq
 (.region [⟨(some 5), .mov (.t 0), none⟩,
    ⟨(some 6), .mov (.t 5), none⟩,
    ⟨(some 7), .mov (.t 1), (some (6, false))⟩,
    ⟨(some 8), .pick (.t 6) (.c (.bool true)) (.t 7), none⟩,
    ⟨(some 4), .mov (.t 8), none⟩]) <|
 .ret, [.slot 4]⟩
theorem c29 : Code1 Try.prog 29 9 b29 := Code1.mk' Try.func29 (by kernel_rfl) (by kernel_rfl) Try.ntmps29

/-- fusee/span.Set.And$1 -/
def b30 : IFn := ⟨
 .seq
 (.region [⟨(some 4), .mov (.c (.bool false)), none⟩]) <|
 .seq
 (.region [⟨(some 5), .mov (.t 0), none⟩,
    ⟨(some 6), .mov (.t 5), none⟩,
    ⟨(some 7), .mov (.t 1), (some (6, true))⟩,
    ⟨(some 8), .pick (.t 6) (.t 7) (.c (.bool false)), none⟩,
    ⟨(some 4), .mov (.t 8), none⟩]) <|
 .ret, [.slot 4]⟩
theorem c30 : Code1 Try.prog 30 9 b30 := Code1.mk' Try.func30 (by kernel_rfl) (by kernel_rfl) Try.ntmps30

/-- fusee/span.Set.Not$1 -/
def b31 : IFn := ⟨
 .seq
 (.region [⟨(some 4), .mov (.c (.bool false)), none⟩]) <|
 .seq
 (.region [⟨(some 5), .mov (.t 0), none⟩,
    ⟨(some 6), .mov (.t 5), none⟩,
    ⟨(some 7), .mov (.t 1), (some (6, true))⟩,
    ⟨(some 8), .un .not (.t 7), (some (6, true))⟩,
    ⟨(some 9), .pick (.t 6) (.t 8) (.c (.bool false)), none⟩,
    ⟨(some 4), .mov (.t 9), none⟩]) <|
 .ret, [.slot 4]⟩
theorem c31 : Code1 Try.prog 31 10 b31 := Code1.mk' Try.func31 (by kernel_rfl) (by kernel_rfl) Try.ntmps31

/-- slices.IndexFunc[[]fusee/span.Span,fusee/span.Span] -/
def b32 : IFn := ⟨
 .seq
 (.region [⟨(some 4), .mov (.c (.int .i64 0)), none⟩]) <|
 .seq
 (.seq
  (.region [⟨(some 6), .mov (.t 0), none⟩,
     ⟨(some 7), .len .sl (.t 6), none⟩,
     ⟨(some 8), .mov (.c (.int .i64 0)), none⟩]) <|
  .block 0 <|
  .loop [0, 1, 7, 8] <|
   .seq
   (.region [⟨(some 9), .bin .lss (.t 8) (.t 7), none⟩]) <|
   .seq
   (.cond (.t 9)
     (.skip)
     (.exit 0)) <|
   .seq
   (.block 1 <|
    .seq
    (.region [⟨(some 10), .mov (.t 8), none⟩,
       ⟨(some 5), .mov (.t 10), none⟩]) <|
    .seq
    (.region [⟨(some 11), .mov (.t 1), none⟩,
       ⟨(some 12), .mov (.t 0), none⟩,
       ⟨(some 13), .mov (.t 5), none⟩,
       ⟨(some 14), .iaddr 2 (.t 12) (.t 13), none⟩,
       ⟨(some 15), .load true 2 (.t 14), none⟩,
       ⟨(some 16), .call (.t 11) [(.t 15)], none⟩]) <|
    .cond (.t 16)
     (.seq
      (.region [⟨(some 17), .mov (.t 5), none⟩,
         ⟨(some 4), .mov (.t 17), none⟩]) <|
      .ret)
     (.skip)) <|
   .region [⟨(some 18), .bin .add (.t 8) (.c (.int .i64 1)), none⟩,
     ⟨(some 8), .mov (.t 18), none⟩]) <|
 .seq
 (.region [⟨(some 4), .mov (.c (.int .i64 (-1))), none⟩]) <|
 .ret, [.slot 4]⟩
theorem c32 : Code1 Try.prog 32 19 b32 := Code1.mk' Try.func32 (by kernel_rfl) (by kernel_rfl) Try.ntmps32

/-- slices.pdqsortCmpFunc[fusee/span.Span] -/
def b33 : IFn := ⟨
 .seq
 (.region [⟨(some 10), .mov (.c (.bool true)), none⟩]) <|
 .seq
 (.region [⟨(some 11), .mov (.c (.bool true)), none⟩]) <|
 .block 0 <|
 .loop [0, 1, 2, 3, 4, 10, 11] <|
  .block 1 <|
  .seq
  (.region [⟨(some 21), .mov (.t 2), none⟩,
     ⟨(some 22), .mov (.t 1), none⟩,
     ⟨(some 23), .bin .sub (.t 21) (.t 22), none⟩,
     ⟨(some 12), .mov (.t 23), none⟩]) <|
  .seq
  (.seq
   (.region [⟨(some 24), .mov (.t 12), none⟩,
      ⟨(some 25), .bin .leq (.t 24) (.c (.int .i64 12)), none⟩]) <|
   .cond (.t 25)
    (.seq
     (.region [⟨(some 26), .mov (.t 0), none⟩,
        ⟨(some 27), .mov (.t 1), none⟩,
        ⟨(some 28), .mov (.t 2), none⟩,
        ⟨(some 29), .mov (.t 4), none⟩,
        ⟨(some 30), .call (.f 37) [(.t 26), (.t 27), (.t 28), (.t 29)], none⟩]) <|
     .ret)
    (.skip)) <|
  .seq
  (.seq
   (.region [⟨(some 31), .mov (.t 3), none⟩,
      ⟨(some 32), .bin .eql (.t 31) (.c (.int .i64 0)), none⟩]) <|
   .cond (.t 32)
    (.seq
     (.region [⟨(some 33), .mov (.t 0), none⟩,
        ⟨(some 34), .mov (.t 1), none⟩,
        ⟨(some 35), .mov (.t 2), none⟩,
        ⟨(some 36), .mov (.t 4), none⟩,
        ⟨(some 37), .call (.f 38) [(.t 33), (.t 34), (.t 35), (.t 36)], none⟩]) <|
     .ret)
    (.skip)) <|
  .seq
  (.seq
   (.region [⟨(some 38), .mov (.t 10), none⟩,
      ⟨(some 39), .un .not (.t 38), none⟩]) <|
   .cond (.t 39)
    (.seq
     (.region [⟨(some 40), .mov (.t 0), none⟩,
        ⟨(some 41), .mov (.t 1), none⟩,
        ⟨(some 42), .mov (.t 2), none⟩,
        ⟨(some 43), .mov (.t 4), none⟩,
        ⟨(some 44), .call (.f 39) [(.t 40), (.t 41), (.t 42), (.t 43)], none⟩]) <|
     .region [⟨(some 45), .mov (.t 3), none⟩,
       ⟨(some 46), .bin .sub (.t 45) (.c (.int .i64 1)), none⟩,
       ⟨(some 3), .mov (.t 46), none⟩])
    (.skip)) <|
  .seq
  (.region [⟨(some 48), .mov (.t 0), none⟩,
     ⟨(some 49), .mov (.t 1), none⟩,
     ⟨(some 50), .mov (.t 2), none⟩,
     ⟨(some 51), .mov (.t 4), none⟩,
     ⟨(some 52), .call (.f 40) [(.t 48), (.t 49), (.t 50), (.t 51)], none⟩,
     ⟨(some 47), .mov (.t 52), none⟩,
     ⟨(some 53), .extract (.t 47) 0, none⟩,
     ⟨(some 54), .extract (.t 47) 1, none⟩,
     ⟨(some 13), .mov (.t 53), none⟩,
     ⟨(some 14), .mov (.t 54), none⟩]) <|
  .seq
  (.seq
   (.region [⟨(some 55), .mov (.t 14), none⟩,
      ⟨(some 56), .bin .eql (.t 55) (.c (.int .i64 2)), none⟩]) <|
   .cond (.t 56)
    (.seq
     (.region [⟨(some 57), .mov (.t 0), none⟩,
        ⟨(some 58), .mov (.t 1), none⟩,
        ⟨(some 59), .mov (.t 2), none⟩,
        ⟨(some 60), .mov (.t 4), none⟩,
        ⟨(some 61), .call (.f 41) [(.t 57), (.t 58), (.t 59), (.t 60)], none⟩]) <|
     .seq
     (.region [⟨(some 62), .mov (.t 2), none⟩,
        ⟨(some 63), .bin .sub (.t 62) (.c (.int .i64 1)), none⟩,
        ⟨(some 64), .mov (.t 13), none⟩,
        ⟨(some 65), .mov (.t 1), none⟩,
        ⟨(some 66), .bin .sub (.t 64) (.t 65), none⟩,
        ⟨(some 67), .bin .sub (.t 63) (.t 66), none⟩,
        ⟨(some 13), .mov (.t 67), none⟩]) <|
     .region [⟨(some 14), .mov (.c (.int .i64 1)), none⟩])
    (.skip)) <|
  .seq
  (.seq
   (.region [⟨(some 68), .mov (.t 10), none⟩,
      ⟨(some 69), .mov (.t 68), none⟩,
      ⟨(some 70), .mov (.t 11), (some (69, true))⟩,
      ⟨(some 71), .pick (.t 69) (.t 70) (.c (.bool false)), none⟩,
      ⟨(some 72), .mov (.t 71), none⟩,
      ⟨(some 73), .mov (.t 14), (some (72, true))⟩,
      ⟨(some 74), .bin .eql (.t 73) (.c (.int .i64 1)), (some (72, true))⟩,
      ⟨(some 75), .pick (.t 72) (.t 74) (.c (.bool false)), none⟩]) <|
   .cond (.t 75)
    (.seq
     (.region [⟨(some 76), .mov (.t 0), none⟩,
        ⟨(some 77), .mov (.t 1), none⟩,
        ⟨(some 78), .mov (.t 2), none⟩,
        ⟨(some 79), .mov (.t 4), none⟩,
        ⟨(some 80), .call (.f 42) [(.t 76), (.t 77), (.t 78), (.t 79)], none⟩]) <|
     .cond (.t 80)
      (.ret)
      (.skip))
    (.skip)) <|
  .seq
  (.seq
   (.draw false [0, 1, 2, 3, 4, 10, 11, 12, 13, 97] (
      .op ⟨(some 81), .mov (.t 1), none⟩ <|
      .op ⟨(some 82), .bin .gtr (.t 81) (.c (.int .i64 0)), none⟩ <|
      .op ⟨(some 83), .mov (.t 82), none⟩ <|
      .op ⟨(some 84), .mov (.t 4), (some (83, true))⟩ <|
      .op ⟨(some 85), .mov (.t 0), (some (83, true))⟩ <|
      .op ⟨(some 86), .mov (.t 1), (some (83, true))⟩ <|
      .op ⟨(some 87), .bin .sub (.t 86) (.c (.int .i64 1)), (some (83, true))⟩ <|
      .op ⟨(some 88), .iaddr 2 (.t 85) (.t 87), (some (83, true))⟩ <|
      .op ⟨(some 89), .load true 2 (.t 88), (some (83, true))⟩ <|
      .op ⟨(some 90), .mov (.t 0), (some (83, true))⟩ <|
      .op ⟨(some 91), .mov (.t 13), (some (83, true))⟩ <|
      .op ⟨(some 92), .iaddr 2 (.t 90) (.t 91), (some (83, true))⟩ <|
      .op ⟨(some 93), .load true 2 (.t 92), (some (83, true))⟩ <|
      .op ⟨(some 94), .call (.t 84) [(.t 89), (.t 93)], (some (83, true))⟩ <|
      .op ⟨(some 95), .bin .lss (.t 94) (.c (.int .i64 0)), (some (83, true))⟩ <|
      .op ⟨(some 96), .un .not (.t 95), (some (83, true))⟩ <|
      .op ⟨(some 97), .pick (.t 83) (.t 96) (.c (.bool false)), none⟩ <|
      .done)) <|
   .cond (.t 97)
    (.seq
     (.region [⟨(some 98), .mov (.t 0), none⟩,
        ⟨(some 99), .mov (.t 1), none⟩,
        ⟨(some 100), .mov (.t 2), none⟩,
        ⟨(some 101), .mov (.t 13), none⟩,
        ⟨(some 102), .mov (.t 4), none⟩,
        ⟨(some 103), .call (.f 43) [(.t 98), (.t 99), (.t 100), (.t 101), (.t 102)], none⟩,
        ⟨(some 15), .mov (.t 103), none⟩]) <|
     .seq
     (.region [⟨(some 104), .mov (.t 15), none⟩,
        ⟨(some 1), .mov (.t 104), none⟩]) <|
     .exit 1)
    (.skip)) <|
  .seq
  (.region [⟨(some 106), .mov (.t 0), none⟩,
     ⟨(some 107), .mov (.t 1), none⟩,
     ⟨(some 108), .mov (.t 2), none⟩,
     ⟨(some 109), .mov (.t 13), none⟩,
     ⟨(some 110), .mov (.t 4), none⟩,
     ⟨(some 111), .call (.f 44) [(.t 106), (.t 107), (.t 108), (.t 109), (.t 110)], none⟩,
     ⟨(some 105), .mov (.t 111), none⟩,
     ⟨(some 112), .extract (.t 105) 0, none⟩,
     ⟨(some 113), .extract (.t 105) 1, none⟩,
     ⟨(some 16), .mov (.t 112), none⟩,
     ⟨(some 17), .mov (.t 113), none⟩]) <|
  .seq
  (.region [⟨(some 114), .mov (.t 17), none⟩,
     ⟨(some 11), .mov (.t 114), none⟩]) <|
  .seq
  (.region [⟨(some 115), .mov (.t 16), none⟩,
     ⟨(some 116), .mov (.t 1), none⟩,
     ⟨(some 117), .bin .sub (.t 115) (.t 116), none⟩,
     ⟨(some 118), .mov (.t 2), none⟩,
     ⟨(some 119), .mov (.t 16), none⟩,
     ⟨(some 120), .bin .sub (.t 118) (.t 119), none⟩,
     ⟨(some 18), .mov (.t 117), none⟩,
     ⟨(some 19), .mov (.t 120), none⟩]) <|
  .seq
  (.region [⟨(some 121), .mov (.t 12), none⟩,
     ⟨(some 122), .bin .quo (.t 121) (.c (.int .i64 8)), none⟩,
     ⟨(some 20), .mov (.t 122), none⟩]) <|
  .seq
  (.region [⟨(some 123), .mov (.t 18), none⟩,
     ⟨(some 124), .mov (.t 19), none⟩,
     ⟨(some 125), .bin .lss (.t 123) (.t 124), none⟩]) <|
  .cond (.t 125)
   (.seq
    (.region [⟨(some 126), .mov (.t 18), none⟩,
       ⟨(some 127), .mov (.t 20), none⟩,
       ⟨(some 128), .bin .geq (.t 126) (.t 127), none⟩,
       ⟨(some 10), .mov (.t 128), none⟩]) <|
    .seq
    (.region [⟨(some 129), .mov (.t 0), none⟩,
       ⟨(some 130), .mov (.t 1), none⟩,
       ⟨(some 131), .mov (.t 16), none⟩,
       ⟨(some 132), .mov (.t 3), none⟩,
       ⟨(some 133), .mov (.t 4), none⟩,
       ⟨(some 134), .call (.f 33) [(.t 129), (.t 130), (.t 131), (.t 132), (.t 133)], none⟩]) <|
    .region [⟨(some 135), .mov (.t 16), none⟩,
      ⟨(some 136), .bin .add (.t 135) (.c (.int .i64 1)), none⟩,
      ⟨(some 1), .mov (.t 136), none⟩])
   (.seq
    (.region [⟨(some 137), .mov (.t 19), none⟩,
       ⟨(some 138), .mov (.t 20), none⟩,
       ⟨(some 139), .bin .geq (.t 137) (.t 138), none⟩,
       ⟨(some 10), .mov (.t 139), none⟩]) <|
    .seq
    (.region [⟨(some 140), .mov (.t 0), none⟩,
       ⟨(some 141), .mov (.t 16), none⟩,
       ⟨(some 142), .bin .add (.t 141) (.c (.int .i64 1)), none⟩,
       ⟨(some 143), .mov (.t 2), none⟩,
       ⟨(some 144), .mov (.t 3), none⟩,
       ⟨(some 145), .mov (.t 4), none⟩,
       ⟨(some 146), .call (.f 33) [(.t 140), (.t 142), (.t 143), (.t 144), (.t 145)], none⟩]) <|
    .region [⟨(some 147), .mov (.t 16), none⟩,
      ⟨(some 2), .mov (.t 147), none⟩]), []⟩
theorem c33 : Code1 Try.prog 33 148 b33 := Code1.mk' Try.func33 (by kernel_rfl) (by kernel_rfl) Try.ntmps33

/-- math/bits.Len -/
def b34 : IFn := ⟨
 .seq
 (.region [⟨(some 2), .mov (.c (.int .i64 0)), none⟩]) <|
 .seq
 (.cond (.c (.bool false))
   (.seq
    (.region [⟨(some 3), .mov (.t 0), none⟩,
       ⟨(some 4), .conv .u32 (.t 3), none⟩,
       ⟨(some 5), .call (.f 45) [(.t 4)], none⟩,
       ⟨(some 2), .mov (.t 5), none⟩]) <|
    .ret)
   (.skip)) <|
 .seq
 (.region [⟨(some 6), .mov (.t 0), none⟩,
    ⟨(some 7), .call (.f 46) [(.t 6)], none⟩,
    ⟨(some 2), .mov (.t 7), none⟩]) <|
 .ret, [.slot 2]⟩
theorem c34 : Code1 Try.prog 34 8 b34 := Code1.mk' Try.func34 (by kernel_rfl) (by kernel_rfl) Try.ntmps34

/-- cmp.isNaN[int] -/
def b35 : IFn := ⟨
 .seq
 (.region [⟨(some 2), .mov (.c (.bool false)), none⟩]) <|
 .seq
 (.region [⟨(some 3), .mov (.t 0), none⟩,
    ⟨(some 4), .mov (.t 0), none⟩,
    ⟨(some 5), .bin .neq (.t 3) (.t 4), none⟩,
    ⟨(some 2), .mov (.t 5), none⟩]) <|
 .ret, [.slot 2]⟩
theorem c35 : Code1 Try.prog 35 6 b35 := Code1.mk' Try.func35 (by kernel_rfl) (by kernel_rfl) Try.ntmps35

/-- fusee/span.edges -/
def b36 : IFn := ⟨
 .seq
 (.region [⟨(some 4), .mov (.c (.sl none 0 (some 0))), none⟩]) <|
 .seq
 (.region [⟨(some 5), .mov (.c (.sl none 0 (some 0))), none⟩]) <|
 .seq
 (.seq
  (.region [⟨(some 10), .mov (.t 0), none⟩,
     ⟨(some 11), .len .sl (.t 10), none⟩,
     ⟨(some 12), .mov (.c (.int .i64 0)), none⟩]) <|
  .block 0 <|
  .loop [1, 5, 10, 11, 12] <|
   .seq
   (.region [⟨(some 13), .bin .lss (.t 12) (.t 11), none⟩]) <|
   .seq
   (.cond (.t 13)
     (.skip)
     (.exit 0)) <|
   .seq
   (.block 1 <|
    .seq
    (.region [⟨(some 14), .iaddr 2 (.t 10) (.t 12), none⟩,
       ⟨(some 15), .load true 2 (.t 14), none⟩,
       ⟨(some 7), .alloc [(.int .i64 0), (.int .i64 0)], none⟩,
       ⟨none, .store 2 (.t 7) (.t 15), none⟩]) <|
    .region [⟨(some 16), .mov (.t 5), none⟩,
      ⟨(some 17), .faddr 0 (.t 7), none⟩,
      ⟨(some 18), .load false 1 (.t 17), none⟩,
      ⟨(some 19), .build [(.int .i64 0), (.int .i64 0), (.int .i64 0)] [(0, 1, (.t 18)), (1, 1, (.c (.int .i64 1))), (2, 1, (.c (.int .i64 0)))], none⟩,
      ⟨(some 20), .faddr 1 (.t 7), none⟩,
      ⟨(some 21), .load false 1 (.t 20), none⟩,
      ⟨(some 22), .build [(.int .i64 0), (.int .i64 0), (.int .i64 0)] [(0, 1, (.t 21)), (1, 1, (.c (.int .i64 (-1)))), (2, 1, (.c (.int .i64 0)))], none⟩,
      ⟨(some 23), .buildSl 3 [(.int .i64 0), (.int .i64 0), (.int .i64 0), (.int .i64 0), (.int .i64 0), (.int .i64 0)] [(0, 3, (.t 19)), (3, 3, (.t 22))], none⟩,
      ⟨(some 24), .app 3 24 (.t 16) (.t 23), none⟩,
      ⟨(some 5), .mov (.t 24), none⟩]) <|
   .region [⟨(some 25), .bin .add (.t 12) (.c (.int .i64 1)), none⟩,
     ⟨(some 12), .mov (.t 25), none⟩]) <|
 .seq
 (.seq
  (.region [⟨(some 26), .mov (.t 1), none⟩,
     ⟨(some 27), .len .sl (.t 26), none⟩,
     ⟨(some 28), .mov (.c (.int .i64 0)), none⟩]) <|
  .block 2 <|
  .loop [5, 26, 27, 28] <|
   .seq
   (.region [⟨(some 29), .bin .lss (.t 28) (.t 27), none⟩]) <|
   .seq
   (.cond (.t 29)
     (.skip)
     (.exit 2)) <|
   .seq
   (.block 3 <|
    .seq
    (.region [⟨(some 30), .iaddr 2 (.t 26) (.t 28), none⟩,
       ⟨(some 31), .load true 2 (.t 30), none⟩,
       ⟨(some 9), .alloc [(.int .i64 0), (.int .i64 0)], none⟩,
       ⟨none, .store 2 (.t 9) (.t 31), none⟩]) <|
    .region [⟨(some 32), .mov (.t 5), none⟩,
      ⟨(some 33), .faddr 0 (.t 9), none⟩,
      ⟨(some 34), .load false 1 (.t 33), none⟩,
      ⟨(some 35), .build [(.int .i64 0), (.int .i64 0), (.int .i64 0)] [(0, 1, (.t 34)), (1, 1, (.c (.int .i64 0))), (2, 1, (.c (.int .i64 1)))], none⟩,
      ⟨(some 36), .faddr 1 (.t 9), none⟩,
      ⟨(some 37), .load false 1 (.t 36), none⟩,
      ⟨(some 38), .build [(.int .i64 0), (.int .i64 0), (.int .i64 0)] [(0, 1, (.t 37)), (1, 1, (.c (.int .i64 0))), (2, 1, (.c (.int .i64 (-1))))], none⟩,
      ⟨(some 39), .buildSl 3 [(.int .i64 0), (.int .i64 0), (.int .i64 0), (.int .i64 0), (.int .i64 0), (.int .i64 0)] [(0, 3, (.t 35)), (3, 3, (.t 38))], none⟩,
      ⟨(some 40), .app 3 24 (.t 32) (.t 39), none⟩,
      ⟨(some 5), .mov (.t 40), none⟩]) <|
   .region [⟨(some 41), .bin .add (.t 28) (.c (.int .i64 1)), none⟩,
     ⟨(some 28), .mov (.t 41), none⟩]) <|
 .seq
 (.region [⟨(some 42), .mov (.t 5), none⟩,
    ⟨(some 43), .call (.f 47) [(.t 42), (.f 48)], none⟩]) <|
 .seq
 (.region [⟨(some 44), .mov (.t 5), none⟩,
    ⟨(some 4), .mov (.t 44), none⟩]) <|
 .ret, [.slot 4]⟩
theorem c36 : Code1 Try.prog 36 45 b36 := Code1.mk' Try.func36 (by kernel_rfl) (by kernel_rfl) Try.ntmps36

/-- slices.insertionSortCmpFunc[fusee/span.Span] -/
def b37 : IFn := ⟨
 .seq
 (.region [⟨(some 10), .mov (.t 1), none⟩,
    ⟨(some 11), .bin .add (.t 10) (.c (.int .i64 1)), none⟩,
    ⟨(some 8), .mov (.t 11), none⟩]) <|
 .block 0 <|
 .loop [0, 1, 2, 3, 8] <|
  .seq
  (.seq
   (.region [⟨(some 12), .mov (.t 8), none⟩,
      ⟨(some 13), .mov (.t 2), none⟩,
      ⟨(some 14), .bin .lss (.t 12) (.t 13), none⟩]) <|
   .cond (.t 14)
    (.skip)
    (.exit 0)) <|
  .seq
  (.block 1 <|
   .seq
   (.region [⟨(some 17), .mov (.t 8), none⟩,
      ⟨(some 9), .mov (.t 17), none⟩]) <|
   .block 2 <|
   .loop [0, 1, 2, 3, 8, 9] <|
    .seq
    (.seq
     (.draw false [0, 1, 2, 3, 8, 9, 34] (
        .op ⟨(some 18), .mov (.t 9), none⟩ <|
        .op ⟨(some 19), .mov (.t 1), none⟩ <|
        .op ⟨(some 20), .bin .gtr (.t 18) (.t 19), none⟩ <|
        .op ⟨(some 21), .mov (.t 20), none⟩ <|
        .op ⟨(some 22), .mov (.t 3), (some (21, true))⟩ <|
        .op ⟨(some 23), .mov (.t 0), (some (21, true))⟩ <|
        .op ⟨(some 24), .mov (.t 9), (some (21, true))⟩ <|
        .op ⟨(some 25), .iaddr 2 (.t 23) (.t 24), (some (21, true))⟩ <|
        .op ⟨(some 26), .load true 2 (.t 25), (some (21, true))⟩ <|
        .op ⟨(some 27), .mov (.t 0), (some (21, true))⟩ <|
        .op ⟨(some 28), .mov (.t 9), (some (21, true))⟩ <|
        .op ⟨(some 29), .bin .sub (.t 28) (.c (.int .i64 1)), (some (21, true))⟩ <|
        .op ⟨(some 30), .iaddr 2 (.t 27) (.t 29), (some (21, true))⟩ <|
        .op ⟨(some 31), .load true 2 (.t 30), (some (21, true))⟩ <|
        .op ⟨(some 32), .call (.t 22) [(.t 26), (.t 31)], (some (21, true))⟩ <|
        .op ⟨(some 33), .bin .lss (.t 32) (.c (.int .i64 0)), (some (21, true))⟩ <|
        .op ⟨(some 34), .pick (.t 21) (.t 33) (.c (.bool false)), none⟩ <|
        .done)) <|
     .cond (.t 34)
      (.skip)
      (.exit 2)) <|
    .seq
    (.block 3 <|
     .draw false [0, 1, 2, 3, 8, 9] (
       .op ⟨(some 37), .mov (.t 0), none⟩ <|
       .op ⟨(some 38), .mov (.t 9), none⟩ <|
       .op ⟨(some 39), .mov (.t 0), none⟩ <|
       .op ⟨(some 40), .mov (.t 9), none⟩ <|
       .op ⟨(some 41), .bin .sub (.t 40) (.c (.int .i64 1)), none⟩ <|
       .op ⟨(some 42), .mov (.t 0), none⟩ <|
       .op ⟨(some 43), .mov (.t 9), none⟩ <|
       .op ⟨(some 44), .bin .sub (.t 43) (.c (.int .i64 1)), none⟩ <|
       .op ⟨(some 45), .iaddr 2 (.t 42) (.t 44), none⟩ <|
       .op ⟨(some 46), .load true 2 (.t 45), none⟩ <|
       .op ⟨(some 47), .mov (.t 0), none⟩ <|
       .op ⟨(some 48), .mov (.t 9), none⟩ <|
       .op ⟨(some 49), .iaddr 2 (.t 47) (.t 48), none⟩ <|
       .op ⟨(some 50), .load true 2 (.t 49), none⟩ <|
       .op ⟨(some 51), .iaddr 2 (.t 37) (.t 38), none⟩ <|
       .op ⟨none, .store 2 (.t 51) (.t 46), none⟩ <|
       .op ⟨(some 52), .iaddr 2 (.t 39) (.t 41), none⟩ <|
       .op ⟨none, .store 2 (.t 52) (.t 50), none⟩ <|
       .done)) <|
    .region [⟨(some 35), .mov (.t 9), none⟩,
      ⟨(some 36), .bin .sub (.t 35) (.c (.int .i64 1)), none⟩,
      ⟨(some 9), .mov (.t 36), none⟩]) <|
  .region [⟨(some 15), .mov (.t 8), none⟩,
    ⟨(some 16), .bin .add (.t 15) (.c (.int .i64 1)), none⟩,
    ⟨(some 8), .mov (.t 16), none⟩], []⟩
theorem c37 : Code1 Try.prog 37 53 b37 := Code1.mk' Try.func37 (by kernel_rfl) (by kernel_rfl) Try.ntmps37

/-- slices.heapSortCmpFunc[fusee/span.Span] -/
def b38 : IFn := ⟨
 .seq
 (.region [⟨(some 13), .mov (.t 1), none⟩,
    ⟨(some 8), .mov (.t 13), none⟩]) <|
 .seq
 (.region [⟨(some 9), .mov (.c (.int .i64 0)), none⟩]) <|
 .seq
 (.region [⟨(some 14), .mov (.t 2), none⟩,
    ⟨(some 15), .mov (.t 1), none⟩,
    ⟨(some 16), .bin .sub (.t 14) (.t 15), none⟩,
    ⟨(some 10), .mov (.t 16), none⟩]) <|
 .seq
 (.seq
  (.region [⟨(some 17), .mov (.t 10), none⟩,
     ⟨(some 18), .bin .sub (.t 17) (.c (.int .i64 1)), none⟩,
     ⟨(some 19), .bin .quo (.t 18) (.c (.int .i64 2)), none⟩,
     ⟨(some 11), .mov (.t 19), none⟩]) <|
  .block 0 <|
  .loop [0, 3, 8, 9, 10, 11] <|
   .seq
   (.seq
    (.region [⟨(some 20), .mov (.t 11), none⟩,
       ⟨(some 21), .bin .geq (.t 20) (.c (.int .i64 0)), none⟩]) <|
    .cond (.t 21)
     (.skip)
     (.exit 0)) <|
   .seq
   (.block 1 <|
    .region [⟨(some 24), .mov (.t 0), none⟩,
      ⟨(some 25), .mov (.t 11), none⟩,
      ⟨(some 26), .mov (.t 10), none⟩,
      ⟨(some 27), .mov (.t 8), none⟩,
      ⟨(some 28), .mov (.t 3), none⟩,
      ⟨(some 29), .call (.f 49) [(.t 24), (.t 25), (.t 26), (.t 27), (.t 28)], none⟩]) <|
   .region [⟨(some 22), .mov (.t 11), none⟩,
     ⟨(some 23), .bin .sub (.t 22) (.c (.int .i64 1)), none⟩,
     ⟨(some 11), .mov (.t 23), none⟩]) <|
 .seq
 (.region [⟨(some 30), .mov (.t 10), none⟩,
    ⟨(some 31), .bin .sub (.t 30) (.c (.int .i64 1)), none⟩,
    ⟨(some 12), .mov (.t 31), none⟩]) <|
 .block 2 <|
 .loop [0, 3, 8, 9, 12] <|
  .seq
  (.seq
   (.region [⟨(some 32), .mov (.t 12), none⟩,
      ⟨(some 33), .bin .geq (.t 32) (.c (.int .i64 0)), none⟩]) <|
   .cond (.t 33)
    (.skip)
    (.exit 2)) <|
  .seq
  (.block 3 <|
   .seq
   (.draw false [0, 3, 8, 9, 12] (
      .op ⟨(some 36), .mov (.t 0), none⟩ <|
      .op ⟨(some 37), .mov (.t 8), none⟩ <|
      .op ⟨(some 38), .mov (.t 0), none⟩ <|
      .op ⟨(some 39), .mov (.t 8), none⟩ <|
      .op ⟨(some 40), .mov (.t 12), none⟩ <|
      .op ⟨(some 41), .bin .add (.t 39) (.t 40), none⟩ <|
      .op ⟨(some 42), .mov (.t 0), none⟩ <|
      .op ⟨(some 43), .mov (.t 8), none⟩ <|
      .op ⟨(some 44), .mov (.t 12), none⟩ <|
      .op ⟨(some 45), .bin .add (.t 43) (.t 44), none⟩ <|
      .op ⟨(some 46), .iaddr 2 (.t 42) (.t 45), none⟩ <|
      .op ⟨(some 47), .load true 2 (.t 46), none⟩ <|
      .op ⟨(some 48), .mov (.t 0), none⟩ <|
      .op ⟨(some 49), .mov (.t 8), none⟩ <|
      .op ⟨(some 50), .iaddr 2 (.t 48) (.t 49), none⟩ <|
      .op ⟨(some 51), .load true 2 (.t 50), none⟩ <|
      .op ⟨(some 52), .iaddr 2 (.t 36) (.t 37), none⟩ <|
      .op ⟨none, .store 2 (.t 52) (.t 47), none⟩ <|
      .op ⟨(some 53), .iaddr 2 (.t 38) (.t 41), none⟩ <|
      .op ⟨none, .store 2 (.t 53) (.t 51), none⟩ <|
      .done)) <|
   .region [⟨(some 54), .mov (.t 0), none⟩,
     ⟨(some 55), .mov (.t 9), none⟩,
     ⟨(some 56), .mov (.t 12), none⟩,
     ⟨(some 57), .mov (.t 8), none⟩,
     ⟨(some 58), .mov (.t 3), none⟩,
     ⟨(some 59), .call (.f 49) [(.t 54), (.t 55), (.t 56), (.t 57), (.t 58)], none⟩]) <|
  .region [⟨(some 34), .mov (.t 12), none⟩,
    ⟨(some 35), .bin .sub (.t 34) (.c (.int .i64 1)), none⟩,
    ⟨(some 12), .mov (.t 35), none⟩], []⟩
theorem c38 : Code1 Try.prog 38 60 b38 := Code1.mk' Try.func38 (by kernel_rfl) (by kernel_rfl) Try.ntmps38

/-- slices.breakPatternsCmpFunc[fusee/span.Span] -/
def b39 : IFn := ⟨
 .seq
 (.region [⟨(some 13), .mov (.t 2), none⟩,
    ⟨(some 14), .mov (.t 1), none⟩,
    ⟨(some 15), .bin .sub (.t 13) (.t 14), none⟩,
    ⟨(some 8), .mov (.t 15), none⟩]) <|
 .seq
 (.region [⟨(some 16), .mov (.t 8), none⟩,
    ⟨(some 17), .bin .geq (.t 16) (.c (.int .i64 8)), none⟩]) <|
 .cond (.t 17)
  (.seq
   (.region [⟨(some 18), .mov (.t 8), none⟩,
      ⟨(some 19), .conv .u64 (.t 18), none⟩,
      ⟨(some 9), .alloc [(.int .u64 0)], none⟩,
      ⟨none, .store 1 (.t 9) (.t 19), none⟩]) <|
   .seq
   (.region [⟨(some 20), .mov (.t 8), none⟩,
      ⟨(some 21), .call (.f 50) [(.t 20)], none⟩,
      ⟨(some 10), .mov (.t 21), none⟩]) <|
   .seq
   (.region [⟨(some 22), .mov (.t 1), none⟩,
      ⟨(some 23), .mov (.t 8), none⟩,
      ⟨(some 24), .bin .quo (.t 23) (.c (.int .i64 4)), none⟩,
      ⟨(some 25), .bin .mul (.t 24) (.c (.int .i64 2)), none⟩,
      ⟨(some 26), .bin .add (.t 22) (.t 25), none⟩,
      ⟨(some 27), .bin .sub (.t 26) (.c (.int .i64 1)), none⟩,
      ⟨(some 11), .mov (.t 27), none⟩]) <|
   .block 0 <|
   .loop [0, 1, 8, 9, 10, 11] <|
    .seq
    (.seq
     (.region [⟨(some 28), .mov (.t 11), none⟩,
        ⟨(some 29), .mov (.t 1), none⟩,
        ⟨(some 30), .mov (.t 8), none⟩,
        ⟨(some 31), .bin .quo (.t 30) (.c (.int .i64 4)), none⟩,
        ⟨(some 32), .bin .mul (.t 31) (.c (.int .i64 2)), none⟩,
        ⟨(some 33), .bin .add (.t 29) (.t 32), none⟩,
        ⟨(some 34), .bin .add (.t 33) (.c (.int .i64 1)), none⟩,
        ⟨(some 35), .bin .leq (.t 28) (.t 34), none⟩]) <|
     .cond (.t 35)
      (.skip)
      (.exit 0)) <|
    .seq
    (.block 1 <|
     .seq
     (.region [⟨(some 38), .call (.f 51) [(.t 9)], none⟩,
        ⟨(some 39), .mov (.t 10), none⟩,
        ⟨(some 40), .bin .sub (.t 39) (.c (.int .u64 1)), none⟩,
        ⟨(some 41), .bin .and (.t 38) (.t 40), none⟩,
        ⟨(some 42), .conv .i64 (.t 41), none⟩,
        ⟨(some 12), .mov (.t 42), none⟩]) <|
     .seq
     (.seq
      (.region [⟨(some 43), .mov (.t 12), none⟩,
         ⟨(some 44), .mov (.t 8), none⟩,
         ⟨(some 45), .bin .geq (.t 43) (.t 44), none⟩]) <|
      .cond (.t 45)
       (.region [⟨(some 46), .mov (.t 12), none⟩,
          ⟨(some 47), .mov (.t 8), none⟩,
          ⟨(some 48), .bin .sub (.t 46) (.t 47), none⟩,
          ⟨(some 12), .mov (.t 48), none⟩])
       (.skip)) <|
     .draw false [0, 1, 8, 9, 10, 11] (
       .op ⟨(some 49), .mov (.t 0), none⟩ <|
       .op ⟨(some 50), .mov (.t 11), none⟩ <|
       .op ⟨(some 51), .mov (.t 0), none⟩ <|
       .op ⟨(some 52), .mov (.t 1), none⟩ <|
       .op ⟨(some 53), .mov (.t 12), none⟩ <|
       .op ⟨(some 54), .bin .add (.t 52) (.t 53), none⟩ <|
       .op ⟨(some 55), .mov (.t 0), none⟩ <|
       .op ⟨(some 56), .mov (.t 1), none⟩ <|
       .op ⟨(some 57), .mov (.t 12), none⟩ <|
       .op ⟨(some 58), .bin .add (.t 56) (.t 57), none⟩ <|
       .op ⟨(some 59), .iaddr 2 (.t 55) (.t 58), none⟩ <|
       .op ⟨(some 60), .load true 2 (.t 59), none⟩ <|
       .op ⟨(some 61), .mov (.t 0), none⟩ <|
       .op ⟨(some 62), .mov (.t 11), none⟩ <|
       .op ⟨(some 63), .iaddr 2 (.t 61) (.t 62), none⟩ <|
       .op ⟨(some 64), .load true 2 (.t 63), none⟩ <|
       .op ⟨(some 65), .iaddr 2 (.t 49) (.t 50), none⟩ <|
       .op ⟨none, .store 2 (.t 65) (.t 60), none⟩ <|
       .op ⟨(some 66), .iaddr 2 (.t 51) (.t 54), none⟩ <|
       .op ⟨none, .store 2 (.t 66) (.t 64), none⟩ <|
       .done)) <|
    .region [⟨(some 36), .mov (.t 11), none⟩,
      ⟨(some 37), .bin .add (.t 36) (.c (.int .i64 1)), none⟩,
      ⟨(some 11), .mov (.t 37), none⟩])
  (.skip), []⟩
theorem c39 : Code1 Try.prog 39 67 b39 := Code1.mk' Try.func39 (by kernel_rfl) (by kernel_rfl) Try.ntmps39

/-- slices.choosePivotCmpFunc[fusee/span.Span] -/
def b40 : IFn := ⟨
 .seq
 (.region [⟨(some 8), .mov (.c (.int .i64 0)), none⟩,
    ⟨(some 9), .mov (.c (.int .i64 0)), none⟩]) <|
 .seq
 (.region [⟨(some 15), .mov (.t 2), none⟩,
    ⟨(some 16), .mov (.t 1), none⟩,
    ⟨(some 17), .bin .sub (.t 15) (.t 16), none⟩,
    ⟨(some 10), .mov (.t 17), none⟩]) <|
 .seq
 (.region [⟨(some 11), .alloc [(.int .i64 0)], none⟩]) <|
 .seq
 (.region [⟨(some 18), .mov (.t 1), none⟩,
    ⟨(some 19), .mov (.t 10), none⟩,
    ⟨(some 20), .bin .quo (.t 19) (.c (.int .i64 4)), none⟩,
    ⟨(some 21), .bin .mul (.t 20) (.c (.int .i64 1)), none⟩,
    ⟨(some 22), .bin .add (.t 18) (.t 21), none⟩,
    ⟨(some 12), .mov (.t 22), none⟩]) <|
 .seq
 (.region [⟨(some 23), .mov (.t 1), none⟩,
    ⟨(some 24), .mov (.t 10), none⟩,
    ⟨(some 25), .bin .quo (.t 24) (.c (.int .i64 4)), none⟩,
    ⟨(some 26), .bin .mul (.t 25) (.c (.int .i64 2)), none⟩,
    ⟨(some 27), .bin .add (.t 23) (.t 26), none⟩,
    ⟨(some 13), .mov (.t 27), none⟩]) <|
 .seq
 (.region [⟨(some 28), .mov (.t 1), none⟩,
    ⟨(some 29), .mov (.t 10), none⟩,
    ⟨(some 30), .bin .quo (.t 29) (.c (.int .i64 4)), none⟩,
    ⟨(some 31), .bin .mul (.t 30) (.c (.int .i64 3)), none⟩,
    ⟨(some 32), .bin .add (.t 28) (.t 31), none⟩,
    ⟨(some 14), .mov (.t 32), none⟩]) <|
 .seq
 (.seq
  (.region [⟨(some 33), .mov (.t 10), none⟩,
     ⟨(some 34), .bin .geq (.t 33) (.c (.int .i64 8)), none⟩]) <|
  .cond (.t 34)
   (.seq
    (.seq
     (.region [⟨(some 35), .mov (.t 10), none⟩,
        ⟨(some 36), .bin .geq (.t 35) (.c (.int .i64 50)), none⟩]) <|
     .cond (.t 36)
      (.seq
       (.region [⟨(some 37), .mov (.t 0), none⟩,
          ⟨(some 38), .mov (.t 12), none⟩,
          ⟨(some 39), .mov (.t 3), none⟩,
          ⟨(some 40), .call (.f 52) [(.t 37), (.t 38), (.t 11), (.t 39)], none⟩,
          ⟨(some 12), .mov (.t 40), none⟩]) <|
       .seq
       (.region [⟨(some 41), .mov (.t 0), none⟩,
          ⟨(some 42), .mov (.t 13), none⟩,
          ⟨(some 43), .mov (.t 3), none⟩,
          ⟨(some 44), .call (.f 52) [(.t 41), (.t 42), (.t 11), (.t 43)], none⟩,
          ⟨(some 13), .mov (.t 44), none⟩]) <|
       .region [⟨(some 45), .mov (.t 0), none⟩,
         ⟨(some 46), .mov (.t 14), none⟩,
         ⟨(some 47), .mov (.t 3), none⟩,
         ⟨(some 48), .call (.f 52) [(.t 45), (.t 46), (.t 11), (.t 47)], none⟩,
         ⟨(some 14), .mov (.t 48), none⟩])
      (.skip)) <|
    .region [⟨(some 49), .mov (.t 0), none⟩,
      ⟨(some 50), .mov (.t 12), none⟩,
      ⟨(some 51), .mov (.t 13), none⟩,
      ⟨(some 52), .mov (.t 14), none⟩,
      ⟨(some 53), .mov (.t 3), none⟩,
      ⟨(some 54), .call (.f 53) [(.t 49), (.t 50), (.t 51), (.t 52), (.t 11), (.t 53)], none⟩,
      ⟨(some 13), .mov (.t 54), none⟩])
   (.skip)) <|
 .seq
 (.region [⟨(some 55), .load false 1 (.t 11), none⟩]) <|
 .block 0 <|
 .seq
 (.region [⟨(some 58), .bin .eql (.t 55) (.c (.int .i64 0)), none⟩,
    ⟨(some 57), .mov (.t 58), none⟩]) <|
 .cond (.t 57)
  (.seq
   (.region [⟨(some 59), .mov (.t 13), none⟩,
      ⟨(some 8), .mov (.t 59), none⟩,
      ⟨(some 9), .mov (.c (.int .i64 1)), none⟩]) <|
   .ret)
  (.seq
   (.region [⟨(some 61), .bin .eql (.t 55) (.c (.int .i64 12)), none⟩,
      ⟨(some 60), .mov (.t 61), none⟩]) <|
   .cond (.t 60)
    (.seq
     (.region [⟨(some 62), .mov (.t 13), none⟩,
        ⟨(some 8), .mov (.t 62), none⟩,
        ⟨(some 9), .mov (.c (.int .i64 2)), none⟩]) <|
     .ret)
    (.seq
     (.region [⟨(some 56), .mov (.t 13), none⟩,
        ⟨(some 8), .mov (.t 56), none⟩,
        ⟨(some 9), .mov (.c (.int .i64 0)), none⟩]) <|
     .ret)), [.slot 8, .slot 9]⟩
theorem c40 : Code1 Try.prog 40 63 b40 := Code1.mk' Try.func40 (by kernel_rfl) (by kernel_rfl) Try.ntmps40

/-- slices.reverseRangeCmpFunc[fusee/span.Span] -/
def b41 : IFn := ⟨
 .seq
 (.region [⟨(some 10), .mov (.t 1), none⟩,
    ⟨(some 8), .mov (.t 10), none⟩]) <|
 .seq
 (.region [⟨(some 11), .mov (.t 2), none⟩,
    ⟨(some 12), .bin .sub (.t 11) (.c (.int .i64 1)), none⟩,
    ⟨(some 9), .mov (.t 12), none⟩]) <|
 .block 0 <|
 .loop [0, 8, 9] <|
  .seq
  (.seq
   (.region [⟨(some 13), .mov (.t 8), none⟩,
      ⟨(some 14), .mov (.t 9), none⟩,
      ⟨(some 15), .bin .lss (.t 13) (.t 14), none⟩]) <|
   .cond (.t 15)
    (.skip)
    (.exit 0)) <|
  .block 1 <|
  .seq
  (.draw false [0, 8, 9] (
     .op ⟨(some 16), .mov (.t 0), none⟩ <|
     .op ⟨(some 17), .mov (.t 8), none⟩ <|
     .op ⟨(some 18), .mov (.t 0), none⟩ <|
     .op ⟨(some 19), .mov (.t 9), none⟩ <|
     .op ⟨(some 20), .mov (.t 0), none⟩ <|
     .op ⟨(some 21), .mov (.t 9), none⟩ <|
     .op ⟨(some 22), .iaddr 2 (.t 20) (.t 21), none⟩ <|
     .op ⟨(some 23), .load true 2 (.t 22), none⟩ <|
     .op ⟨(some 24), .mov (.t 0), none⟩ <|
     .op ⟨(some 25), .mov (.t 8), none⟩ <|
     .op ⟨(some 26), .iaddr 2 (.t 24) (.t 25), none⟩ <|
     .op ⟨(some 27), .load true 2 (.t 26), none⟩ <|
     .op ⟨(some 28), .iaddr 2 (.t 16) (.t 17), none⟩ <|
     .op ⟨none, .store 2 (.t 28) (.t 23), none⟩ <|
     .op ⟨(some 29), .iaddr 2 (.t 18) (.t 19), none⟩ <|
     .op ⟨none, .store 2 (.t 29) (.t 27), none⟩ <|
     .done)) <|
  .seq
  (.region [⟨(some 30), .mov (.t 8), none⟩,
     ⟨(some 31), .bin .add (.t 30) (.c (.int .i64 1)), none⟩,
     ⟨(some 8), .mov (.t 31), none⟩]) <|
  .region [⟨(some 32), .mov (.t 9), none⟩,
    ⟨(some 33), .bin .sub (.t 32) (.c (.int .i64 1)), none⟩,
    ⟨(some 9), .mov (.t 33), none⟩], []⟩
theorem c41 : Code1 Try.prog 41 34 b41 := Code1.mk' Try.func41 (by kernel_rfl) (by kernel_rfl) Try.ntmps41

/-- slices.partialInsertionSortCmpFunc[fusee/span.Span] -/
def b42 : IFn := ⟨
 .seq
 (.region [⟨(some 8), .mov (.c (.bool false)), none⟩]) <|
 .seq
 (.region [⟨(some 13), .mov (.t 1), none⟩,
    ⟨(some 14), .bin .add (.t 13) (.c (.int .i64 1)), none⟩,
    ⟨(some 9), .mov (.t 14), none⟩]) <|
 .seq
 (.seq
  (.region [⟨(some 10), .mov (.c (.int .i64 0)), none⟩]) <|
  .block 0 <|
  .loop [0, 1, 2, 3, 9, 10] <|
   .seq
   (.seq
    (.region [⟨(some 15), .mov (.t 10), none⟩,
       ⟨(some 16), .bin .lss (.t 15) (.c (.int .i64 5)), none⟩]) <|
    .cond (.t 16)
     (.skip)
     (.exit 0)) <|
   .seq
   (.block 1 <|
    .seq
    (.block 2 <|
     .loop [0, 1, 2, 3, 9, 10] <|
      .seq
      (.seq
       (.draw false [0, 1, 2, 3, 9, 10, 36] (
          .op ⟨(some 19), .mov (.t 9), none⟩ <|
          .op ⟨(some 20), .mov (.t 2), none⟩ <|
          .op ⟨(some 21), .bin .lss (.t 19) (.t 20), none⟩ <|
          .op ⟨(some 22), .mov (.t 21), none⟩ <|
          .op ⟨(some 23), .mov (.t 3), (some (22, true))⟩ <|
          .op ⟨(some 24), .mov (.t 0), (some (22, true))⟩ <|
          .op ⟨(some 25), .mov (.t 9), (some (22, true))⟩ <|
          .op ⟨(some 26), .iaddr 2 (.t 24) (.t 25), (some (22, true))⟩ <|
          .op ⟨(some 27), .load true 2 (.t 26), (some (22, true))⟩ <|
          .op ⟨(some 28), .mov (.t 0), (some (22, true))⟩ <|
          .op ⟨(some 29), .mov (.t 9), (some (22, true))⟩ <|
          .op ⟨(some 30), .bin .sub (.t 29) (.c (.int .i64 1)), (some (22, true))⟩ <|
          .op ⟨(some 31), .iaddr 2 (.t 28) (.t 30), (some (22, true))⟩ <|
          .op ⟨(some 32), .load true 2 (.t 31), (some (22, true))⟩ <|
          .op ⟨(some 33), .call (.t 23) [(.t 27), (.t 32)], (some (22, true))⟩ <|
          .op ⟨(some 34), .bin .lss (.t 33) (.c (.int .i64 0)), (some (22, true))⟩ <|
          .op ⟨(some 35), .un .not (.t 34), (some (22, true))⟩ <|
          .op ⟨(some 36), .pick (.t 22) (.t 35) (.c (.bool false)), none⟩ <|
          .done)) <|
       .cond (.t 36)
        (.skip)
        (.exit 2)) <|
      .block 3 <|
      .region [⟨(some 37), .mov (.t 9), none⟩,
        ⟨(some 38), .bin .add (.t 37) (.c (.int .i64 1)), none⟩,
        ⟨(some 9), .mov (.t 38), none⟩]) <|
    .seq
    (.seq
     (.region [⟨(some 39), .mov (.t 9), none⟩,
        ⟨(some 40), .mov (.t 2), none⟩,
        ⟨(some 41), .bin .eql (.t 39) (.t 40), none⟩]) <|
     .cond (.t 41)
      (.seq
       (.region [⟨(some 8), .mov (.c (.bool true)), none⟩]) <|
       .ret)
      (.skip)) <|
    .seq
    (.seq
     (.region [⟨(some 42), .mov (.t 2), none⟩,
        ⟨(some 43), .mov (.t 1), none⟩,
        ⟨(some 44), .bin .sub (.t 42) (.t 43), none⟩,
        ⟨(some 45), .bin .lss (.t 44) (.c (.int .i64 50)), none⟩]) <|
     .cond (.t 45)
      (.seq
       (.region [⟨(some 8), .mov (.c (.bool false)), none⟩]) <|
       .ret)
      (.skip)) <|
    .seq
    (.draw false [0, 1, 2, 3, 9, 10] (
       .op ⟨(some 46), .mov (.t 0), none⟩ <|
       .op ⟨(some 47), .mov (.t 9), none⟩ <|
       .op ⟨(some 48), .mov (.t 0), none⟩ <|
       .op ⟨(some 49), .mov (.t 9), none⟩ <|
       .op ⟨(some 50), .bin .sub (.t 49) (.c (.int .i64 1)), none⟩ <|
       .op ⟨(some 51), .mov (.t 0), none⟩ <|
       .op ⟨(some 52), .mov (.t 9), none⟩ <|
       .op ⟨(some 53), .bin .sub (.t 52) (.c (.int .i64 1)), none⟩ <|
       .op ⟨(some 54), .iaddr 2 (.t 51) (.t 53), none⟩ <|
       .op ⟨(some 55), .load true 2 (.t 54), none⟩ <|
       .op ⟨(some 56), .mov (.t 0), none⟩ <|
       .op ⟨(some 57), .mov (.t 9), none⟩ <|
       .op ⟨(some 58), .iaddr 2 (.t 56) (.t 57), none⟩ <|
       .op ⟨(some 59), .load true 2 (.t 58), none⟩ <|
       .op ⟨(some 60), .iaddr 2 (.t 46) (.t 47), none⟩ <|
       .op ⟨none, .store 2 (.t 60) (.t 55), none⟩ <|
       .op ⟨(some 61), .iaddr 2 (.t 48) (.t 50), none⟩ <|
       .op ⟨none, .store 2 (.t 61) (.t 59), none⟩ <|
       .done)) <|
    .seq
    (.seq
     (.region [⟨(some 62), .mov (.t 9), none⟩,
        ⟨(some 63), .mov (.t 1), none⟩,
        ⟨(some 64), .bin .sub (.t 62) (.t 63), none⟩,
        ⟨(some 65), .bin .geq (.t 64) (.c (.int .i64 2)), none⟩]) <|
     .cond (.t 65)
      (.seq
       (.region [⟨(some 66), .mov (.t 9), none⟩,
          ⟨(some 67), .bin .sub (.t 66) (.c (.int .i64 1)), none⟩,
          ⟨(some 11), .mov (.t 67), none⟩]) <|
       .block 4 <|
       .loop [0, 1, 2, 3, 9, 10, 11] <|
        .seq
        (.seq
         (.region [⟨(some 68), .mov (.t 11), none⟩,
            ⟨(some 69), .bin .geq (.t 68) (.c (.int .i64 1)), none⟩]) <|
         .cond (.t 69)
          (.skip)
          (.exit 4)) <|
        .seq
        (.block 5 <|
         .seq
         (.seq
          (.draw false [0, 1, 2, 3, 9, 10, 11, 84] (
             .op ⟨(some 72), .mov (.t 3), none⟩ <|
             .op ⟨(some 73), .mov (.t 0), none⟩ <|
             .op ⟨(some 74), .mov (.t 11), none⟩ <|
             .op ⟨(some 75), .iaddr 2 (.t 73) (.t 74), none⟩ <|
             .op ⟨(some 76), .load true 2 (.t 75), none⟩ <|
             .op ⟨(some 77), .mov (.t 0), none⟩ <|
             .op ⟨(some 78), .mov (.t 11), none⟩ <|
             .op ⟨(some 79), .bin .sub (.t 78) (.c (.int .i64 1)), none⟩ <|
             .op ⟨(some 80), .iaddr 2 (.t 77) (.t 79), none⟩ <|
             .op ⟨(some 81), .load true 2 (.t 80), none⟩ <|
             .op ⟨(some 82), .call (.t 72) [(.t 76), (.t 81)], none⟩ <|
             .op ⟨(some 83), .bin .lss (.t 82) (.c (.int .i64 0)), none⟩ <|
             .op ⟨(some 84), .un .not (.t 83), none⟩ <|
             .done)) <|
          .cond (.t 84)
           (.exit 4)
           (.skip)) <|
         .draw false [0, 1, 2, 3, 9, 10, 11] (
           .op ⟨(some 85), .mov (.t 0), none⟩ <|
           .op ⟨(some 86), .mov (.t 11), none⟩ <|
           .op ⟨(some 87), .mov (.t 0), none⟩ <|
           .op ⟨(some 88), .mov (.t 11), none⟩ <|
           .op ⟨(some 89), .bin .sub (.t 88) (.c (.int .i64 1)), none⟩ <|
           .op ⟨(some 90), .mov (.t 0), none⟩ <|
           .op ⟨(some 91), .mov (.t 11), none⟩ <|
           .op ⟨(some 92), .bin .sub (.t 91) (.c (.int .i64 1)), none⟩ <|
           .op ⟨(some 93), .iaddr 2 (.t 90) (.t 92), none⟩ <|
           .op ⟨(some 94), .load true 2 (.t 93), none⟩ <|
           .op ⟨(some 95), .mov (.t 0), none⟩ <|
           .op ⟨(some 96), .mov (.t 11), none⟩ <|
           .op ⟨(some 97), .iaddr 2 (.t 95) (.t 96), none⟩ <|
           .op ⟨(some 98), .load true 2 (.t 97), none⟩ <|
           .op ⟨(some 99), .iaddr 2 (.t 85) (.t 86), none⟩ <|
           .op ⟨none, .store 2 (.t 99) (.t 94), none⟩ <|
           .op ⟨(some 100), .iaddr 2 (.t 87) (.t 89), none⟩ <|
           .op ⟨none, .store 2 (.t 100) (.t 98), none⟩ <|
           .done)) <|
        .region [⟨(some 70), .mov (.t 11), none⟩,
          ⟨(some 71), .bin .sub (.t 70) (.c (.int .i64 1)), none⟩,
          ⟨(some 11), .mov (.t 71), none⟩])
      (.skip)) <|
    .seq
    (.region [⟨(some 101), .mov (.t 2), none⟩,
       ⟨(some 102), .mov (.t 9), none⟩,
       ⟨(some 103), .bin .sub (.t 101) (.t 102), none⟩,
       ⟨(some 104), .bin .geq (.t 103) (.c (.int .i64 2)), none⟩]) <|
    .cond (.t 104)
     (.seq
      (.region [⟨(some 105), .mov (.t 9), none⟩,
         ⟨(some 106), .bin .add (.t 105) (.c (.int .i64 1)), none⟩,
         ⟨(some 12), .mov (.t 106), none⟩]) <|
      .block 6 <|
      .loop [0, 1, 2, 3, 9, 10, 12] <|
       .seq
       (.seq
        (.region [⟨(some 107), .mov (.t 12), none⟩,
           ⟨(some 108), .mov (.t 2), none⟩,
           ⟨(some 109), .bin .lss (.t 107) (.t 108), none⟩]) <|
        .cond (.t 109)
         (.skip)
         (.exit 6)) <|
       .seq
       (.block 7 <|
        .seq
        (.seq
         (.draw false [0, 1, 2, 3, 9, 10, 12, 124] (
            .op ⟨(some 112), .mov (.t 3), none⟩ <|
            .op ⟨(some 113), .mov (.t 0), none⟩ <|
            .op ⟨(some 114), .mov (.t 12), none⟩ <|
            .op ⟨(some 115), .iaddr 2 (.t 113) (.t 114), none⟩ <|
            .op ⟨(some 116), .load true 2 (.t 115), none⟩ <|
            .op ⟨(some 117), .mov (.t 0), none⟩ <|
            .op ⟨(some 118), .mov (.t 12), none⟩ <|
            .op ⟨(some 119), .bin .sub (.t 118) (.c (.int .i64 1)), none⟩ <|
            .op ⟨(some 120), .iaddr 2 (.t 117) (.t 119), none⟩ <|
            .op ⟨(some 121), .load true 2 (.t 120), none⟩ <|
            .op ⟨(some 122), .call (.t 112) [(.t 116), (.t 121)], none⟩ <|
            .op ⟨(some 123), .bin .lss (.t 122) (.c (.int .i64 0)), none⟩ <|
            .op ⟨(some 124), .un .not (.t 123), none⟩ <|
            .done)) <|
         .cond (.t 124)
          (.exit 6)
          (.skip)) <|
        .draw false [0, 1, 2, 3, 9, 10, 12] (
          .op ⟨(some 125), .mov (.t 0), none⟩ <|
          .op ⟨(some 126), .mov (.t 12), none⟩ <|
          .op ⟨(some 127), .mov (.t 0), none⟩ <|
          .op ⟨(some 128), .mov (.t 12), none⟩ <|
          .op ⟨(some 129), .bin .sub (.t 128) (.c (.int .i64 1)), none⟩ <|
          .op ⟨(some 130), .mov (.t 0), none⟩ <|
          .op ⟨(some 131), .mov (.t 12), none⟩ <|
          .op ⟨(some 132), .bin .sub (.t 131) (.c (.int .i64 1)), none⟩ <|
          .op ⟨(some 133), .iaddr 2 (.t 130) (.t 132), none⟩ <|
          .op ⟨(some 134), .load true 2 (.t 133), none⟩ <|
          .op ⟨(some 135), .mov (.t 0), none⟩ <|
          .op ⟨(some 136), .mov (.t 12), none⟩ <|
          .op ⟨(some 137), .iaddr 2 (.t 135) (.t 136), none⟩ <|
          .op ⟨(some 138), .load true 2 (.t 137), none⟩ <|
          .op ⟨(some 139), .iaddr 2 (.t 125) (.t 126), none⟩ <|
          .op ⟨none, .store 2 (.t 139) (.t 134), none⟩ <|
          .op ⟨(some 140), .iaddr 2 (.t 127) (.t 129), none⟩ <|
          .op ⟨none, .store 2 (.t 140) (.t 138), none⟩ <|
          .done)) <|
       .region [⟨(some 110), .mov (.t 12), none⟩,
         ⟨(some 111), .bin .add (.t 110) (.c (.int .i64 1)), none⟩,
         ⟨(some 12), .mov (.t 111), none⟩])
     (.skip)) <|
   .region [⟨(some 17), .mov (.t 10), none⟩,
     ⟨(some 18), .bin .add (.t 17) (.c (.int .i64 1)), none⟩,
     ⟨(some 10), .mov (.t 18), none⟩]) <|
 .seq
 (.region [⟨(some 8), .mov (.c (.bool false)), none⟩]) <|
 .ret, [.slot 8]⟩
theorem c42 : Code1 Try.prog 42 141 b42 := Code1.mk' Try.func42 (by kernel_rfl) (by kernel_rfl) Try.ntmps42

/-- slices.partitionEqualCmpFunc[fusee/span.Span] -/
def b43 : IFn := ⟨
 .seq
 (.region [⟨(some 10), .mov (.c (.int .i64 0)), none⟩]) <|
 .seq
 (.draw false [0, 1, 2, 4] (
    .op ⟨(some 13), .mov (.t 0), none⟩ <|
    .op ⟨(some 14), .mov (.t 1), none⟩ <|
    .op ⟨(some 15), .mov (.t 0), none⟩ <|
    .op ⟨(some 16), .mov (.t 3), none⟩ <|
    .op ⟨(some 17), .mov (.t 0), none⟩ <|
    .op ⟨(some 18), .mov (.t 3), none⟩ <|
    .op ⟨(some 19), .iaddr 2 (.t 17) (.t 18), none⟩ <|
    .op ⟨(some 20), .load true 2 (.t 19), none⟩ <|
    .op ⟨(some 21), .mov (.t 0), none⟩ <|
    .op ⟨(some 22), .mov (.t 1), none⟩ <|
    .op ⟨(some 23), .iaddr 2 (.t 21) (.t 22), none⟩ <|
    .op ⟨(some 24), .load true 2 (.t 23), none⟩ <|
    .op ⟨(some 25), .iaddr 2 (.t 13) (.t 14), none⟩ <|
    .op ⟨none, .store 2 (.t 25) (.t 20), none⟩ <|
    .op ⟨(some 26), .iaddr 2 (.t 15) (.t 16), none⟩ <|
    .op ⟨none, .store 2 (.t 26) (.t 24), none⟩ <|
    .done)) <|
 .seq
 (.region [⟨(some 27), .mov (.t 1), none⟩,
    ⟨(some 28), .bin .add (.t 27) (.c (.int .i64 1)), none⟩,
    ⟨(some 29), .mov (.t 2), none⟩,
    ⟨(some 30), .bin .sub (.t 29) (.c (.int .i64 1)), none⟩,
    ⟨(some 11), .mov (.t 28), none⟩,
    ⟨(some 12), .mov (.t 30), none⟩]) <|
 .seq
 (.block 0 <|
  .loop [0, 1, 4, 11, 12] <|
   .block 1 <|
   .seq
   (.block 2 <|
    .loop [0, 1, 4, 11, 12] <|
     .seq
     (.seq
      (.draw false [0, 1, 4, 11, 12, 47] (
         .op ⟨(some 31), .mov (.t 11), none⟩ <|
         .op ⟨(some 32), .mov (.t 12), none⟩ <|
         .op ⟨(some 33), .bin .leq (.t 31) (.t 32), none⟩ <|
         .op ⟨(some 34), .mov (.t 33), none⟩ <|
         .op ⟨(some 35), .mov (.t 4), (some (34, true))⟩ <|
         .op ⟨(some 36), .mov (.t 0), (some (34, true))⟩ <|
         .op ⟨(some 37), .mov (.t 1), (some (34, true))⟩ <|
         .op ⟨(some 38), .iaddr 2 (.t 36) (.t 37), (some (34, true))⟩ <|
         .op ⟨(some 39), .load true 2 (.t 38), (some (34, true))⟩ <|
         .op ⟨(some 40), .mov (.t 0), (some (34, true))⟩ <|
         .op ⟨(some 41), .mov (.t 11), (some (34, true))⟩ <|
         .op ⟨(some 42), .iaddr 2 (.t 40) (.t 41), (some (34, true))⟩ <|
         .op ⟨(some 43), .load true 2 (.t 42), (some (34, true))⟩ <|
         .op ⟨(some 44), .call (.t 35) [(.t 39), (.t 43)], (some (34, true))⟩ <|
         .op ⟨(some 45), .bin .lss (.t 44) (.c (.int .i64 0)), (some (34, true))⟩ <|
         .op ⟨(some 46), .un .not (.t 45), (some (34, true))⟩ <|
         .op ⟨(some 47), .pick (.t 34) (.t 46) (.c (.bool false)), none⟩ <|
         .done)) <|
      .cond (.t 47)
       (.skip)
       (.exit 2)) <|
     .block 3 <|
     .region [⟨(some 48), .mov (.t 11), none⟩,
       ⟨(some 49), .bin .add (.t 48) (.c (.int .i64 1)), none⟩,
       ⟨(some 11), .mov (.t 49), none⟩]) <|
   .seq
   (.block 4 <|
    .loop [0, 1, 4, 11, 12] <|
     .seq
     (.seq
      (.draw false [0, 1, 4, 11, 12, 65] (
         .op ⟨(some 50), .mov (.t 11), none⟩ <|
         .op ⟨(some 51), .mov (.t 12), none⟩ <|
         .op ⟨(some 52), .bin .leq (.t 50) (.t 51), none⟩ <|
         .op ⟨(some 53), .mov (.t 52), none⟩ <|
         .op ⟨(some 54), .mov (.t 4), (some (53, true))⟩ <|
         .op ⟨(some 55), .mov (.t 0), (some (53, true))⟩ <|
         .op ⟨(some 56), .mov (.t 1), (some (53, true))⟩ <|
         .op ⟨(some 57), .iaddr 2 (.t 55) (.t 56), (some (53, true))⟩ <|
         .op ⟨(some 58), .load true 2 (.t 57), (some (53, true))⟩ <|
         .op ⟨(some 59), .mov (.t 0), (some (53, true))⟩ <|
         .op ⟨(some 60), .mov (.t 12), (some (53, true))⟩ <|
         .op ⟨(some 61), .iaddr 2 (.t 59) (.t 60), (some (53, true))⟩ <|
         .op ⟨(some 62), .load true 2 (.t 61), (some (53, true))⟩ <|
         .op ⟨(some 63), .call (.t 54) [(.t 58), (.t 62)], (some (53, true))⟩ <|
         .op ⟨(some 64), .bin .lss (.t 63) (.c (.int .i64 0)), (some (53, true))⟩ <|
         .op ⟨(some 65), .pick (.t 53) (.t 64) (.c (.bool false)), none⟩ <|
         .done)) <|
      .cond (.t 65)
       (.skip)
       (.exit 4)) <|
     .block 5 <|
     .region [⟨(some 66), .mov (.t 12), none⟩,
       ⟨(some 67), .bin .sub (.t 66) (.c (.int .i64 1)), none⟩,
       ⟨(some 12), .mov (.t 67), none⟩]) <|
   .seq
   (.seq
    (.region [⟨(some 68), .mov (.t 11), none⟩,
       ⟨(some 69), .mov (.t 12), none⟩,
       ⟨(some 70), .bin .gtr (.t 68) (.t 69), none⟩]) <|
    .cond (.t 70)
     (.exit 0)
     (.skip)) <|
   .seq
   (.draw false [0, 1, 4, 11, 12] (
      .op ⟨(some 71), .mov (.t 0), none⟩ <|
      .op ⟨(some 72), .mov (.t 11), none⟩ <|
      .op ⟨(some 73), .mov (.t 0), none⟩ <|
      .op ⟨(some 74), .mov (.t 12), none⟩ <|
      .op ⟨(some 75), .mov (.t 0), none⟩ <|
      .op ⟨(some 76), .mov (.t 12), none⟩ <|
      .op ⟨(some 77), .iaddr 2 (.t 75) (.t 76), none⟩ <|
      .op ⟨(some 78), .load true 2 (.t 77), none⟩ <|
      .op ⟨(some 79), .mov (.t 0), none⟩ <|
      .op ⟨(some 80), .mov (.t 11), none⟩ <|
      .op ⟨(some 81), .iaddr 2 (.t 79) (.t 80), none⟩ <|
      .op ⟨(some 82), .load true 2 (.t 81), none⟩ <|
      .op ⟨(some 83), .iaddr 2 (.t 71) (.t 72), none⟩ <|
      .op ⟨none, .store 2 (.t 83) (.t 78), none⟩ <|
      .op ⟨(some 84), .iaddr 2 (.t 73) (.t 74), none⟩ <|
      .op ⟨none, .store 2 (.t 84) (.t 82), none⟩ <|
      .done)) <|
   .seq
   (.region [⟨(some 85), .mov (.t 11), none⟩,
      ⟨(some 86), .bin .add (.t 85) (.c (.int .i64 1)), none⟩,
      ⟨(some 11), .mov (.t 86), none⟩]) <|
   .region [⟨(some 87), .mov (.t 12), none⟩,
     ⟨(some 88), .bin .sub (.t 87) (.c (.int .i64 1)), none⟩,
     ⟨(some 12), .mov (.t 88), none⟩]) <|
 .seq
 (.region [⟨(some 89), .mov (.t 11), none⟩,
    ⟨(some 10), .mov (.t 89), none⟩]) <|
 .ret, [.slot 10]⟩
theorem c43 : Code1 Try.prog 43 90 b43 := Code1.mk' Try.func43 (by kernel_rfl) (by kernel_rfl) Try.ntmps43

/-- slices.partitionCmpFunc[fusee/span.Span] -/
def b44 : IFn := ⟨
 .seq
 (.region [⟨(some 10), .mov (.c (.int .i64 0)), none⟩,
    ⟨(some 11), .mov (.c (.bool false)), none⟩]) <|
 .seq
 (.draw false [0, 1, 2, 4] (
    .op ⟨(some 14), .mov (.t 0), none⟩ <|
    .op ⟨(some 15), .mov (.t 1), none⟩ <|
    .op ⟨(some 16), .mov (.t 0), none⟩ <|
    .op ⟨(some 17), .mov (.t 3), none⟩ <|
    .op ⟨(some 18), .mov (.t 0), none⟩ <|
    .op ⟨(some 19), .mov (.t 3), none⟩ <|
    .op ⟨(some 20), .iaddr 2 (.t 18) (.t 19), none⟩ <|
    .op ⟨(some 21), .load true 2 (.t 20), none⟩ <|
    .op ⟨(some 22), .mov (.t 0), none⟩ <|
    .op ⟨(some 23), .mov (.t 1), none⟩ <|
    .op ⟨(some 24), .iaddr 2 (.t 22) (.t 23), none⟩ <|
    .op ⟨(some 25), .load true 2 (.t 24), none⟩ <|
    .op ⟨(some 26), .iaddr 2 (.t 14) (.t 15), none⟩ <|
    .op ⟨none, .store 2 (.t 26) (.t 21), none⟩ <|
    .op ⟨(some 27), .iaddr 2 (.t 16) (.t 17), none⟩ <|
    .op ⟨none, .store 2 (.t 27) (.t 25), none⟩ <|
    .done)) <|
 .seq
 (.region [⟨(some 28), .mov (.t 1), none⟩,
    ⟨(some 29), .bin .add (.t 28) (.c (.int .i64 1)), none⟩,
    ⟨(some 30), .mov (.t 2), none⟩,
    ⟨(some 31), .bin .sub (.t 30) (.c (.int .i64 1)), none⟩,
    ⟨(some 12), .mov (.t 29), none⟩,
    ⟨(some 13), .mov (.t 31), none⟩]) <|
 .seq
 (.block 0 <|
  .loop [0, 1, 4, 12, 13] <|
   .seq
   (.seq
    (.draw false [0, 1, 4, 12, 13, 47] (
       .op ⟨(some 32), .mov (.t 12), none⟩ <|
       .op ⟨(some 33), .mov (.t 13), none⟩ <|
       .op ⟨(some 34), .bin .leq (.t 32) (.t 33), none⟩ <|
       .op ⟨(some 35), .mov (.t 34), none⟩ <|
       .op ⟨(some 36), .mov (.t 4), (some (35, true))⟩ <|
       .op ⟨(some 37), .mov (.t 0), (some (35, true))⟩ <|
       .op ⟨(some 38), .mov (.t 12), (some (35, true))⟩ <|
       .op ⟨(some 39), .iaddr 2 (.t 37) (.t 38), (some (35, true))⟩ <|
       .op ⟨(some 40), .load true 2 (.t 39), (some (35, true))⟩ <|
       .op ⟨(some 41), .mov (.t 0), (some (35, true))⟩ <|
       .op ⟨(some 42), .mov (.t 1), (some (35, true))⟩ <|
       .op ⟨(some 43), .iaddr 2 (.t 41) (.t 42), (some (35, true))⟩ <|
       .op ⟨(some 44), .load true 2 (.t 43), (some (35, true))⟩ <|
       .op ⟨(some 45), .call (.t 36) [(.t 40), (.t 44)], (some (35, true))⟩ <|
       .op ⟨(some 46), .bin .lss (.t 45) (.c (.int .i64 0)), (some (35, true))⟩ <|
       .op ⟨(some 47), .pick (.t 35) (.t 46) (.c (.bool false)), none⟩ <|
       .done)) <|
    .cond (.t 47)
     (.skip)
     (.exit 0)) <|
   .block 1 <|
   .region [⟨(some 48), .mov (.t 12), none⟩,
     ⟨(some 49), .bin .add (.t 48) (.c (.int .i64 1)), none⟩,
     ⟨(some 12), .mov (.t 49), none⟩]) <|
 .seq
 (.block 2 <|
  .loop [0, 1, 4, 12, 13] <|
   .seq
   (.seq
    (.draw false [0, 1, 4, 12, 13, 66] (
       .op ⟨(some 50), .mov (.t 12), none⟩ <|
       .op ⟨(some 51), .mov (.t 13), none⟩ <|
       .op ⟨(some 52), .bin .leq (.t 50) (.t 51), none⟩ <|
       .op ⟨(some 53), .mov (.t 52), none⟩ <|
       .op ⟨(some 54), .mov (.t 4), (some (53, true))⟩ <|
       .op ⟨(some 55), .mov (.t 0), (some (53, true))⟩ <|
       .op ⟨(some 56), .mov (.t 13), (some (53, true))⟩ <|
       .op ⟨(some 57), .iaddr 2 (.t 55) (.t 56), (some (53, true))⟩ <|
       .op ⟨(some 58), .load true 2 (.t 57), (some (53, true))⟩ <|
       .op ⟨(some 59), .mov (.t 0), (some (53, true))⟩ <|
       .op ⟨(some 60), .mov (.t 1), (some (53, true))⟩ <|
       .op ⟨(some 61), .iaddr 2 (.t 59) (.t 60), (some (53, true))⟩ <|
       .op ⟨(some 62), .load true 2 (.t 61), (some (53, true))⟩ <|
       .op ⟨(some 63), .call (.t 54) [(.t 58), (.t 62)], (some (53, true))⟩ <|
       .op ⟨(some 64), .bin .lss (.t 63) (.c (.int .i64 0)), (some (53, true))⟩ <|
       .op ⟨(some 65), .un .not (.t 64), (some (53, true))⟩ <|
       .op ⟨(some 66), .pick (.t 53) (.t 65) (.c (.bool false)), none⟩ <|
       .done)) <|
    .cond (.t 66)
     (.skip)
     (.exit 2)) <|
   .block 3 <|
   .region [⟨(some 67), .mov (.t 13), none⟩,
     ⟨(some 68), .bin .sub (.t 67) (.c (.int .i64 1)), none⟩,
     ⟨(some 13), .mov (.t 68), none⟩]) <|
 .seq
 (.seq
  (.region [⟨(some 69), .mov (.t 12), none⟩,
     ⟨(some 70), .mov (.t 13), none⟩,
     ⟨(some 71), .bin .gtr (.t 69) (.t 70), none⟩]) <|
  .cond (.t 71)
   (.seq
    (.draw false [13] (
       .op ⟨(some 72), .mov (.t 0), none⟩ <|
       .op ⟨(some 73), .mov (.t 13), none⟩ <|
       .op ⟨(some 74), .mov (.t 0), none⟩ <|
       .op ⟨(some 75), .mov (.t 1), none⟩ <|
       .op ⟨(some 76), .mov (.t 0), none⟩ <|
       .op ⟨(some 77), .mov (.t 1), none⟩ <|
       .op ⟨(some 78), .iaddr 2 (.t 76) (.t 77), none⟩ <|
       .op ⟨(some 79), .load true 2 (.t 78), none⟩ <|
       .op ⟨(some 80), .mov (.t 0), none⟩ <|
       .op ⟨(some 81), .mov (.t 13), none⟩ <|
       .op ⟨(some 82), .iaddr 2 (.t 80) (.t 81), none⟩ <|
       .op ⟨(some 83), .load true 2 (.t 82), none⟩ <|
       .op ⟨(some 84), .iaddr 2 (.t 72) (.t 73), none⟩ <|
       .op ⟨none, .store 2 (.t 84) (.t 79), none⟩ <|
       .op ⟨(some 85), .iaddr 2 (.t 74) (.t 75), none⟩ <|
       .op ⟨none, .store 2 (.t 85) (.t 83), none⟩ <|
       .done)) <|
    .seq
    (.region [⟨(some 86), .mov (.t 13), none⟩,
       ⟨(some 10), .mov (.t 86), none⟩,
       ⟨(some 11), .mov (.c (.bool true)), none⟩]) <|
    .ret)
   (.skip)) <|
 .seq
 (.draw false [0, 1, 4, 12, 13] (
    .op ⟨(some 87), .mov (.t 0), none⟩ <|
    .op ⟨(some 88), .mov (.t 12), none⟩ <|
    .op ⟨(some 89), .mov (.t 0), none⟩ <|
    .op ⟨(some 90), .mov (.t 13), none⟩ <|
    .op ⟨(some 91), .mov (.t 0), none⟩ <|
    .op ⟨(some 92), .mov (.t 13), none⟩ <|
    .op ⟨(some 93), .iaddr 2 (.t 91) (.t 92), none⟩ <|
    .op ⟨(some 94), .load true 2 (.t 93), none⟩ <|
    .op ⟨(some 95), .mov (.t 0), none⟩ <|
    .op ⟨(some 96), .mov (.t 12), none⟩ <|
    .op ⟨(some 97), .iaddr 2 (.t 95) (.t 96), none⟩ <|
    .op ⟨(some 98), .load true 2 (.t 97), none⟩ <|
    .op ⟨(some 99), .iaddr 2 (.t 87) (.t 88), none⟩ <|
    .op ⟨none, .store 2 (.t 99) (.t 94), none⟩ <|
    .op ⟨(some 100), .iaddr 2 (.t 89) (.t 90), none⟩ <|
    .op ⟨none, .store 2 (.t 100) (.t 98), none⟩ <|
    .done)) <|
 .seq
 (.region [⟨(some 101), .mov (.t 12), none⟩,
    ⟨(some 102), .bin .add (.t 101) (.c (.int .i64 1)), none⟩,
    ⟨(some 12), .mov (.t 102), none⟩]) <|
 .seq
 (.region [⟨(some 103), .mov (.t 13), none⟩,
    ⟨(some 104), .bin .sub (.t 103) (.c (.int .i64 1)), none⟩,
    ⟨(some 13), .mov (.t 104), none⟩]) <|
 .seq
 (.block 4 <|
  .loop [0, 1, 4, 12, 13] <|
   .block 5 <|
   .seq
   (.block 6 <|
    .loop [0, 1, 4, 12, 13] <|
     .seq
     (.seq
      (.draw false [0, 1, 4, 12, 13, 120] (
         .op ⟨(some 105), .mov (.t 12), none⟩ <|
         .op ⟨(some 106), .mov (.t 13), none⟩ <|
         .op ⟨(some 107), .bin .leq (.t 105) (.t 106), none⟩ <|
         .op ⟨(some 108), .mov (.t 107), none⟩ <|
         .op ⟨(some 109), .mov (.t 4), (some (108, true))⟩ <|
         .op ⟨(some 110), .mov (.t 0), (some (108, true))⟩ <|
         .op ⟨(some 111), .mov (.t 12), (some (108, true))⟩ <|
         .op ⟨(some 112), .iaddr 2 (.t 110) (.t 111), (some (108, true))⟩ <|
         .op ⟨(some 113), .load true 2 (.t 112), (some (108, true))⟩ <|
         .op ⟨(some 114), .mov (.t 0), (some (108, true))⟩ <|
         .op ⟨(some 115), .mov (.t 1), (some (108, true))⟩ <|
         .op ⟨(some 116), .iaddr 2 (.t 114) (.t 115), (some (108, true))⟩ <|
         .op ⟨(some 117), .load true 2 (.t 116), (some (108, true))⟩ <|
         .op ⟨(some 118), .call (.t 109) [(.t 113), (.t 117)], (some (108, true))⟩ <|
         .op ⟨(some 119), .bin .lss (.t 118) (.c (.int .i64 0)), (some (108, true))⟩ <|
         .op ⟨(some 120), .pick (.t 108) (.t 119) (.c (.bool false)), none⟩ <|
         .done)) <|
      .cond (.t 120)
       (.skip)
       (.exit 6)) <|
     .block 7 <|
     .region [⟨(some 121), .mov (.t 12), none⟩,
       ⟨(some 122), .bin .add (.t 121) (.c (.int .i64 1)), none⟩,
       ⟨(some 12), .mov (.t 122), none⟩]) <|
   .seq
   (.block 8 <|
    .loop [0, 1, 4, 12, 13] <|
     .seq
     (.seq
      (.draw false [0, 1, 4, 12, 13, 139] (
         .op ⟨(some 123), .mov (.t 12), none⟩ <|
         .op ⟨(some 124), .mov (.t 13), none⟩ <|
         .op ⟨(some 125), .bin .leq (.t 123) (.t 124), none⟩ <|
         .op ⟨(some 126), .mov (.t 125), none⟩ <|
         .op ⟨(some 127), .mov (.t 4), (some (126, true))⟩ <|
         .op ⟨(some 128), .mov (.t 0), (some (126, true))⟩ <|
         .op ⟨(some 129), .mov (.t 13), (some (126, true))⟩ <|
         .op ⟨(some 130), .iaddr 2 (.t 128) (.t 129), (some (126, true))⟩ <|
         .op ⟨(some 131), .load true 2 (.t 130), (some (126, true))⟩ <|
         .op ⟨(some 132), .mov (.t 0), (some (126, true))⟩ <|
         .op ⟨(some 133), .mov (.t 1), (some (126, true))⟩ <|
         .op ⟨(some 134), .iaddr 2 (.t 132) (.t 133), (some (126, true))⟩ <|
         .op ⟨(some 135), .load true 2 (.t 134), (some (126, true))⟩ <|
         .op ⟨(some 136), .call (.t 127) [(.t 131), (.t 135)], (some (126, true))⟩ <|
         .op ⟨(some 137), .bin .lss (.t 136) (.c (.int .i64 0)), (some (126, true))⟩ <|
         .op ⟨(some 138), .un .not (.t 137), (some (126, true))⟩ <|
         .op ⟨(some 139), .pick (.t 126) (.t 138) (.c (.bool false)), none⟩ <|
         .done)) <|
      .cond (.t 139)
       (.skip)
       (.exit 8)) <|
     .block 9 <|
     .region [⟨(some 140), .mov (.t 13), none⟩,
       ⟨(some 141), .bin .sub (.t 140) (.c (.int .i64 1)), none⟩,
       ⟨(some 13), .mov (.t 141), none⟩]) <|
   .seq
   (.seq
    (.region [⟨(some 142), .mov (.t 12), none⟩,
       ⟨(some 143), .mov (.t 13), none⟩,
       ⟨(some 144), .bin .gtr (.t 142) (.t 143), none⟩]) <|
    .cond (.t 144)
     (.exit 4)
     (.skip)) <|
   .seq
   (.draw false [0, 1, 4, 12, 13] (
      .op ⟨(some 145), .mov (.t 0), none⟩ <|
      .op ⟨(some 146), .mov (.t 12), none⟩ <|
      .op ⟨(some 147), .mov (.t 0), none⟩ <|
      .op ⟨(some 148), .mov (.t 13), none⟩ <|
      .op ⟨(some 149), .mov (.t 0), none⟩ <|
      .op ⟨(some 150), .mov (.t 13), none⟩ <|
      .op ⟨(some 151), .iaddr 2 (.t 149) (.t 150), none⟩ <|
      .op ⟨(some 152), .load true 2 (.t 151), none⟩ <|
      .op ⟨(some 153), .mov (.t 0), none⟩ <|
      .op ⟨(some 154), .mov (.t 12), none⟩ <|
      .op ⟨(some 155), .iaddr 2 (.t 153) (.t 154), none⟩ <|
      .op ⟨(some 156), .load true 2 (.t 155), none⟩ <|
      .op ⟨(some 157), .iaddr 2 (.t 145) (.t 146), none⟩ <|
      .op ⟨none, .store 2 (.t 157) (.t 152), none⟩ <|
      .op ⟨(some 158), .iaddr 2 (.t 147) (.t 148), none⟩ <|
      .op ⟨none, .store 2 (.t 158) (.t 156), none⟩ <|
      .done)) <|
   .seq
   (.region [⟨(some 159), .mov (.t 12), none⟩,
      ⟨(some 160), .bin .add (.t 159) (.c (.int .i64 1)), none⟩,
      ⟨(some 12), .mov (.t 160), none⟩]) <|
   .region [⟨(some 161), .mov (.t 13), none⟩,
     ⟨(some 162), .bin .sub (.t 161) (.c (.int .i64 1)), none⟩,
     ⟨(some 13), .mov (.t 162), none⟩]) <|
 .seq
 (.draw false [13] (
    .op ⟨(some 163), .mov (.t 0), none⟩ <|
    .op ⟨(some 164), .mov (.t 13), none⟩ <|
    .op ⟨(some 165), .mov (.t 0), none⟩ <|
    .op ⟨(some 166), .mov (.t 1), none⟩ <|
    .op ⟨(some 167), .mov (.t 0), none⟩ <|
    .op ⟨(some 168), .mov (.t 1), none⟩ <|
    .op ⟨(some 169), .iaddr 2 (.t 167) (.t 168), none⟩ <|
    .op ⟨(some 170), .load true 2 (.t 169), none⟩ <|
    .op ⟨(some 171), .mov (.t 0), none⟩ <|
    .op ⟨(some 172), .mov (.t 13), none⟩ <|
    .op ⟨(some 173), .iaddr 2 (.t 171) (.t 172), none⟩ <|
    .op ⟨(some 174), .load true 2 (.t 173), none⟩ <|
    .op ⟨(some 175), .iaddr 2 (.t 163) (.t 164), none⟩ <|
    .op ⟨none, .store 2 (.t 175) (.t 170), none⟩ <|
    .op ⟨(some 176), .iaddr 2 (.t 165) (.t 166), none⟩ <|
    .op ⟨none, .store 2 (.t 176) (.t 174), none⟩ <|
    .done)) <|
 .seq
 (.region [⟨(some 177), .mov (.t 13), none⟩,
    ⟨(some 10), .mov (.t 177), none⟩,
    ⟨(some 11), .mov (.c (.bool false)), none⟩]) <|
 .ret, [.slot 10, .slot 11]⟩
theorem c44 : Code1 Try.prog 44 178 b44 := Code1.mk' Try.func44 (by kernel_rfl) (by kernel_rfl) Try.ntmps44

/-- math/bits.Len32 -/
def b45 : IFn := ⟨
 .seq
 (.region [⟨(some 2), .mov (.c (.int .i64 0)), none⟩]) <|
 .seq
 (.seq
  (.region [⟨(some 3), .mov (.t 0), none⟩,
     ⟨(some 4), .bin .geq (.t 3) (.c (.int .u32 65536)), none⟩]) <|
  .cond (.t 4)
   (.seq
    (.region [⟨(some 5), .mov (.t 0), none⟩,
       ⟨(some 6), .bin .shr (.t 5) (.c (.int .u64 16)), none⟩,
       ⟨(some 0), .mov (.t 6), none⟩]) <|
    .region [⟨(some 2), .mov (.c (.int .i64 16)), none⟩])
   (.skip)) <|
 .seq
 (.seq
  (.region [⟨(some 7), .mov (.t 0), none⟩,
     ⟨(some 8), .bin .geq (.t 7) (.c (.int .u32 256)), none⟩]) <|
  .cond (.t 8)
   (.seq
    (.region [⟨(some 9), .mov (.t 0), none⟩,
       ⟨(some 10), .bin .shr (.t 9) (.c (.int .u64 8)), none⟩,
       ⟨(some 0), .mov (.t 10), none⟩]) <|
    .region [⟨(some 11), .mov (.t 2), none⟩,
      ⟨(some 12), .bin .add (.t 11) (.c (.int .i64 8)), none⟩,
      ⟨(some 2), .mov (.t 12), none⟩])
   (.skip)) <|
 .seq
 (.region [⟨(some 13), .mov (.t 2), none⟩,
    ⟨(some 14), .mov (.t 0), none⟩,
    ⟨(some 15), .conv .u8 (.t 14), none⟩,
    ⟨(some 16), .indexS (.c (.str ⟨#[0, 1, 2, 2, 3, 3, 3, 3, 4, 4, 4, 4, 4, 4, 4, 4, 5, 5, 5, 5, 5, 5, 5, 5, 5, 5, 5, 5, 5, 5, 5, 5, 6, 6, 6, 6, 6, 6, 6, 6, 6, 6, 6, 6, 6, 6, 6, 6, 6, 6, 6, 6, 6, 6, 6, 6, 6, 6, 6, 6, 6, 6, 6, 6, 7, 7, 7, 7, 7, 7, 7, 7, 7, 7, 7, 7, 7, 7, 7, 7, 7, 7, 7, 7, 7, 7, 7, 7, 7, 7, 7, 7, 7, 7, 7, 7, 7, 7, 7, 7, 7, 7, 7, 7, 7, 7, 7, 7, 7, 7, 7, 7, 7, 7, 7, 7, 7, 7, 7, 7, 7, 7, 7, 7, 7, 7, 7, 7, 8, 8, 8, 8, 8, 8, 8, 8, 8, 8, 8, 8, 8, 8, 8, 8, 8, 8, 8, 8, 8, 8, 8, 8, 8, 8, 8, 8, 8, 8, 8, 8, 8, 8, 8, 8, 8, 8, 8, 8, 8, 8, 8, 8, 8, 8, 8, 8, 8, 8, 8, 8, 8, 8, 8, 8, 8, 8, 8, 8, 8, 8, 8, 8, 8, 8, 8, 8, 8, 8, 8, 8, 8, 8, 8, 8, 8, 8, 8, 8, 8, 8, 8, 8, 8, 8, 8, 8, 8, 8, 8, 8, 8, 8, 8, 8, 8, 8, 8, 8, 8, 8, 8, 8, 8, 8, 8, 8, 8, 8, 8, 8, 8, 8, 8, 8, 8, 8, 8, 8, 8, 8, 8, 8, 8, 8, 8, 8]⟩)) (.t 15), none⟩,
    ⟨(some 17), .conv .i64 (.t 16), none⟩,
    ⟨(some 18), .bin .add (.t 13) (.t 17), none⟩,
    ⟨(some 2), .mov (.t 18), none⟩]) <|
 .ret, [.slot 2]⟩
theorem c45 : Code1 Try.prog 45 19 b45 := Code1.mk' Try.func45 (by kernel_rfl) (by kernel_rfl) Try.ntmps45

/-- math/bits.Len64 -/
def b46 : IFn := ⟨
 .seq
 (.region [⟨(some 2), .mov (.c (.int .i64 0)), none⟩]) <|
 .seq
 (.seq
  (.region [⟨(some 3), .mov (.t 0), none⟩,
     ⟨(some 4), .bin .geq (.t 3) (.c (.int .u64 4294967296)), none⟩]) <|
  .cond (.t 4)
   (.seq
    (.region [⟨(some 5), .mov (.t 0), none⟩,
       ⟨(some 6), .bin .shr (.t 5) (.c (.int .u64 32)), none⟩,
       ⟨(some 0), .mov (.t 6), none⟩]) <|
    .region [⟨(some 2), .mov (.c (.int .i64 32)), none⟩])
   (.skip)) <|
 .seq
 (.seq
  (.region [⟨(some 7), .mov (.t 0), none⟩,
     ⟨(some 8), .bin .geq (.t 7) (.c (.int .u64 65536)), none⟩]) <|
  .cond (.t 8)
   (.seq
    (.region [⟨(some 9), .mov (.t 0), none⟩,
       ⟨(some 10), .bin .shr (.t 9) (.c (.int .u64 16)), none⟩,
       ⟨(some 0), .mov (.t 10), none⟩]) <|
    .region [⟨(some 11), .mov (.t 2), none⟩,
      ⟨(some 12), .bin .add (.t 11) (.c (.int .i64 16)), none⟩,
      ⟨(some 2), .mov (.t 12), none⟩])
   (.skip)) <|
 .seq
 (.seq
  (.region [⟨(some 13), .mov (.t 0), none⟩,
     ⟨(some 14), .bin .geq (.t 13) (.c (.int .u64 256)), none⟩]) <|
  .cond (.t 14)
   (.seq
    (.region [⟨(some 15), .mov (.t 0), none⟩,
       ⟨(some 16), .bin .shr (.t 15) (.c (.int .u64 8)), none⟩,
       ⟨(some 0), .mov (.t 16), none⟩]) <|
    .region [⟨(some 17), .mov (.t 2), none⟩,
      ⟨(some 18), .bin .add (.t 17) (.c (.int .i64 8)), none⟩,
      ⟨(some 2), .mov (.t 18), none⟩])
   (.skip)) <|
 .seq
 (.region [⟨(some 19), .mov (.t 2), none⟩,
    ⟨(some 20), .mov (.t 0), none⟩,
    ⟨(some 21), .conv .u8 (.t 20), none⟩,
    ⟨(some 22), .indexS (.c (.str ⟨#[0, 1, 2, 2, 3, 3, 3, 3, 4, 4, 4, 4, 4, 4, 4, 4, 5, 5, 5, 5, 5, 5, 5, 5, 5, 5, 5, 5, 5, 5, 5, 5, 6, 6, 6, 6, 6, 6, 6, 6, 6, 6, 6, 6, 6, 6, 6, 6, 6, 6, 6, 6, 6, 6, 6, 6, 6, 6, 6, 6, 6, 6, 6, 6, 7, 7, 7, 7, 7, 7, 7, 7, 7, 7, 7, 7, 7, 7, 7, 7, 7, 7, 7, 7, 7, 7, 7, 7, 7, 7, 7, 7, 7, 7, 7, 7, 7, 7, 7, 7, 7, 7, 7, 7, 7, 7, 7, 7, 7, 7, 7, 7, 7, 7, 7, 7, 7, 7, 7, 7, 7, 7, 7, 7, 7, 7, 7, 7, 8, 8, 8, 8, 8, 8, 8, 8, 8, 8, 8, 8, 8, 8, 8, 8, 8, 8, 8, 8, 8, 8, 8, 8, 8, 8, 8, 8, 8, 8, 8, 8, 8, 8, 8, 8, 8, 8, 8, 8, 8, 8, 8, 8, 8, 8, 8, 8, 8, 8, 8, 8, 8, 8, 8, 8, 8, 8, 8, 8, 8, 8, 8, 8, 8, 8, 8, 8, 8, 8, 8, 8, 8, 8, 8, 8, 8, 8, 8, 8, 8, 8, 8, 8, 8, 8, 8, 8, 8, 8, 8, 8, 8, 8, 8, 8, 8, 8, 8, 8, 8, 8, 8, 8, 8, 8, 8, 8, 8, 8, 8, 8, 8, 8, 8, 8, 8, 8, 8, 8, 8, 8, 8, 8, 8, 8, 8, 8]⟩)) (.t 21), none⟩,
    ⟨(some 23), .conv .i64 (.t 22), none⟩,
    ⟨(some 24), .bin .add (.t 19) (.t 23), none⟩,
    ⟨(some 2), .mov (.t 24), none⟩]) <|
 .ret, [.slot 2]⟩
theorem c46 : Code1 Try.prog 46 25 b46 := Code1.mk' Try.func46 (by kernel_rfl) (by kernel_rfl) Try.ntmps46

/-- slices.SortFunc[[]fusee/span.edge,fusee/span.edge] -/
def b47 : IFn := ⟨
 .seq
 (.region [⟨(some 5), .mov (.t 0), none⟩,
    ⟨(some 6), .len .sl (.t 5), none⟩,
    ⟨(some 4), .mov (.t 6), none⟩]) <|
 .region [⟨(some 7), .mov (.t 0), none⟩,
   ⟨(some 8), .mov (.t 4), none⟩,
   ⟨(some 9), .mov (.t 4), none⟩,
   ⟨(some 10), .conv .u64 (.t 9), none⟩,
   ⟨(some 11), .call (.f 34) [(.t 10)], none⟩,
   ⟨(some 12), .mov (.t 1), none⟩,
   ⟨(some 13), .call (.f 54) [(.t 7), (.c (.int .i64 0)), (.t 8), (.t 11), (.t 12)], none⟩], []⟩
theorem c47 : Code1 Try.prog 47 14 b47 := Code1.mk' Try.func47 (by kernel_rfl) (by kernel_rfl) Try.ntmps47

/-- fusee/span.edges$1 -/
def b48 : IFn := ⟨
 .seq
 (.region [⟨(some 2), .box (.t 0), none⟩,
    ⟨(some 3), .box (.t 1), none⟩,
    ⟨(some 4), .mov (.c (.int .i64 0)), none⟩]) <|
 .seq
 (.region [⟨(some 5), .faddr 0 (.t 2), none⟩,
    ⟨(some 6), .load false 1 (.t 5), none⟩,
    ⟨(some 7), .faddr 0 (.t 3), none⟩,
    ⟨(some 8), .load false 1 (.t 7), none⟩,
    ⟨(some 9), .call (.f 26) [(.t 6), (.t 8)], none⟩,
    ⟨(some 4), .mov (.t 9), none⟩]) <|
 .ret, [.slot 4]⟩
theorem c48 : Code1 Try.prog 48 10 b48 := Code1.mk' Try.func48 (by kernel_rfl) (by kernel_rfl) Try.ntmps48

/-- slices.siftDownCmpFunc[fusee/span.Span] -/
def b49 : IFn := ⟨
 .seq
 (.region [⟨(some 12), .mov (.t 1), none⟩,
    ⟨(some 10), .mov (.t 12), none⟩]) <|
 .block 0 <|
 .loop [0, 2, 3, 4, 10] <|
  .block 1 <|
  .seq
  (.region [⟨(some 13), .mov (.t 10), none⟩,
     ⟨(some 14), .bin .mul (.c (.int .i64 2)) (.t 13), none⟩,
     ⟨(some 15), .bin .add (.t 14) (.c (.int .i64 1)), none⟩,
     ⟨(some 11), .mov (.t 15), none⟩]) <|
  .seq
  (.seq
   (.region [⟨(some 16), .mov (.t 11), none⟩,
      ⟨(some 17), .mov (.t 2), none⟩,
      ⟨(some 18), .bin .geq (.t 16) (.t 17), none⟩]) <|
   .cond (.t 18)
    (.exit 0)
    (.skip)) <|
  .seq
  (.seq
   (.draw false [0, 2, 3, 4, 10, 11, 40] (
      .op ⟨(some 19), .mov (.t 11), none⟩ <|
      .op ⟨(some 20), .bin .add (.t 19) (.c (.int .i64 1)), none⟩ <|
      .op ⟨(some 21), .mov (.t 2), none⟩ <|
      .op ⟨(some 22), .bin .lss (.t 20) (.t 21), none⟩ <|
      .op ⟨(some 23), .mov (.t 22), none⟩ <|
      .op ⟨(some 24), .mov (.t 4), (some (23, true))⟩ <|
      .op ⟨(some 25), .mov (.t 0), (some (23, true))⟩ <|
      .op ⟨(some 26), .mov (.t 3), (some (23, true))⟩ <|
      .op ⟨(some 27), .mov (.t 11), (some (23, true))⟩ <|
      .op ⟨(some 28), .bin .add (.t 26) (.t 27), (some (23, true))⟩ <|
      .op ⟨(some 29), .iaddr 2 (.t 25) (.t 28), (some (23, true))⟩ <|
      .op ⟨(some 30), .load true 2 (.t 29), (some (23, true))⟩ <|
      .op ⟨(some 31), .mov (.t 0), (some (23, true))⟩ <|
      .op ⟨(some 32), .mov (.t 3), (some (23, true))⟩ <|
      .op ⟨(some 33), .mov (.t 11), (some (23, true))⟩ <|
      .op ⟨(some 34), .bin .add (.t 32) (.t 33), (some (23, true))⟩ <|
      .op ⟨(some 35), .bin .add (.t 34) (.c (.int .i64 1)), (some (23, true))⟩ <|
      .op ⟨(some 36), .iaddr 2 (.t 31) (.t 35), (some (23, true))⟩ <|
      .op ⟨(some 37), .load true 2 (.t 36), (some (23, true))⟩ <|
      .op ⟨(some 38), .call (.t 24) [(.t 30), (.t 37)], (some (23, true))⟩ <|
      .op ⟨(some 39), .bin .lss (.t 38) (.c (.int .i64 0)), (some (23, true))⟩ <|
      .op ⟨(some 40), .pick (.t 23) (.t 39) (.c (.bool false)), none⟩ <|
      .done)) <|
   .cond (.t 40)
    (.region [⟨(some 41), .mov (.t 11), none⟩,
       ⟨(some 42), .bin .add (.t 41) (.c (.int .i64 1)), none⟩,
       ⟨(some 11), .mov (.t 42), none⟩])
    (.skip)) <|
  .seq
  (.seq
   (.draw false [0, 2, 3, 4, 10, 11, 58] (
      .op ⟨(some 43), .mov (.t 4), none⟩ <|
      .op ⟨(some 44), .mov (.t 0), none⟩ <|
      .op ⟨(some 45), .mov (.t 3), none⟩ <|
      .op ⟨(some 46), .mov (.t 10), none⟩ <|
      .op ⟨(some 47), .bin .add (.t 45) (.t 46), none⟩ <|
      .op ⟨(some 48), .iaddr 2 (.t 44) (.t 47), none⟩ <|
      .op ⟨(some 49), .load true 2 (.t 48), none⟩ <|
      .op ⟨(some 50), .mov (.t 0), none⟩ <|
      .op ⟨(some 51), .mov (.t 3), none⟩ <|
      .op ⟨(some 52), .mov (.t 11), none⟩ <|
      .op ⟨(some 53), .bin .add (.t 51) (.t 52), none⟩ <|
      .op ⟨(some 54), .iaddr 2 (.t 50) (.t 53), none⟩ <|
      .op ⟨(some 55), .load true 2 (.t 54), none⟩ <|
      .op ⟨(some 56), .call (.t 43) [(.t 49), (.t 55)], none⟩ <|
      .op ⟨(some 57), .bin .lss (.t 56) (.c (.int .i64 0)), none⟩ <|
      .op ⟨(some 58), .un .not (.t 57), none⟩ <|
      .done)) <|
   .cond (.t 58)
    (.ret)
    (.skip)) <|
  .seq
  (.draw false [0, 2, 3, 4, 11] (
     .op ⟨(some 59), .mov (.t 0), none⟩ <|
     .op ⟨(some 60), .mov (.t 3), none⟩ <|
     .op ⟨(some 61), .mov (.t 10), none⟩ <|
     .op ⟨(some 62), .bin .add (.t 60) (.t 61), none⟩ <|
     .op ⟨(some 63), .mov (.t 0), none⟩ <|
     .op ⟨(some 64), .mov (.t 3), none⟩ <|
     .op ⟨(some 65), .mov (.t 11), none⟩ <|
     .op ⟨(some 66), .bin .add (.t 64) (.t 65), none⟩ <|
     .op ⟨(some 67), .mov (.t 0), none⟩ <|
     .op ⟨(some 68), .mov (.t 3), none⟩ <|
     .op ⟨(some 69), .mov (.t 11), none⟩ <|
     .op ⟨(some 70), .bin .add (.t 68) (.t 69), none⟩ <|
     .op ⟨(some 71), .iaddr 2 (.t 67) (.t 70), none⟩ <|
     .op ⟨(some 72), .load true 2 (.t 71), none⟩ <|
     .op ⟨(some 73), .mov (.t 0), none⟩ <|
     .op ⟨(some 74), .mov (.t 3), none⟩ <|
     .op ⟨(some 75), .mov (.t 10), none⟩ <|
     .op ⟨(some 76), .bin .add (.t 74) (.t 75), none⟩ <|
     .op ⟨(some 77), .iaddr 2 (.t 73) (.t 76), none⟩ <|
     .op ⟨(some 78), .load true 2 (.t 77), none⟩ <|
     .op ⟨(some 79), .iaddr 2 (.t 59) (.t 62), none⟩ <|
     .op ⟨none, .store 2 (.t 79) (.t 72), none⟩ <|
     .op ⟨(some 80), .iaddr 2 (.t 63) (.t 66), none⟩ <|
     .op ⟨none, .store 2 (.t 80) (.t 78), none⟩ <|
     .done)) <|
  .region [⟨(some 81), .mov (.t 11), none⟩,
    ⟨(some 10), .mov (.t 81), none⟩], []⟩
theorem c49 : Code1 Try.prog 49 82 b49 := Code1.mk' Try.func49 (by kernel_rfl) (by kernel_rfl) Try.ntmps49

/-- slices.nextPowerOfTwo -/
def b50 : IFn := ⟨
 .seq
 (.region [⟨(some 2), .mov (.c (.int .u64 0)), none⟩]) <|
 .seq
 (.region [⟨(some 3), .mov (.t 0), none⟩,
    ⟨(some 4), .conv .u64 (.t 3), none⟩,
    ⟨(some 5), .call (.f 34) [(.t 4)], none⟩,
    ⟨(some 6), .bin .shl (.c (.int .u64 1)) (.t 5), none⟩,
    ⟨(some 2), .mov (.t 6), none⟩]) <|
 .ret, [.slot 2]⟩
theorem c50 : Code1 Try.prog 50 7 b50 := Code1.mk' Try.func50 (by kernel_rfl) (by kernel_rfl) Try.ntmps50

/-- slices.xorshift.Next -/
def b51 : IFn := ⟨
 .seq
 (.region [⟨(some 2), .mov (.c (.int .u64 0)), none⟩]) <|
 .seq
 (.draw false [0] (
    .op ⟨(some 3), .mov (.t 0), none⟩ <|
    .op ⟨(some 4), .nilck (.t 3), none⟩ <|
    .op ⟨(some 5), .load false 1 (.t 4), none⟩ <|
    .op ⟨(some 6), .mov (.t 0), none⟩ <|
    .op ⟨(some 7), .nilck (.t 6), none⟩ <|
    .op ⟨(some 8), .load false 1 (.t 7), none⟩ <|
    .op ⟨(some 9), .bin .shl (.t 8) (.c (.int .u64 13)), none⟩ <|
    .op ⟨(some 10), .bin .xor (.t 5) (.t 9), none⟩ <|
    .op ⟨(some 11), .nilck (.t 3), none⟩ <|
    .op ⟨none, .store 1 (.t 11) (.t 10), none⟩ <|
    .done)) <|
 .seq
 (.draw false [0] (
    .op ⟨(some 12), .mov (.t 0), none⟩ <|
    .op ⟨(some 13), .nilck (.t 12), none⟩ <|
    .op ⟨(some 14), .load false 1 (.t 13), none⟩ <|
    .op ⟨(some 15), .mov (.t 0), none⟩ <|
    .op ⟨(some 16), .nilck (.t 15), none⟩ <|
    .op ⟨(some 17), .load false 1 (.t 16), none⟩ <|
    .op ⟨(some 18), .bin .shr (.t 17) (.c (.int .u64 7)), none⟩ <|
    .op ⟨(some 19), .bin .xor (.t 14) (.t 18), none⟩ <|
    .op ⟨(some 20), .nilck (.t 12), none⟩ <|
    .op ⟨none, .store 1 (.t 20) (.t 19), none⟩ <|
    .done)) <|
 .seq
 (.draw false [0] (
    .op ⟨(some 21), .mov (.t 0), none⟩ <|
    .op ⟨(some 22), .nilck (.t 21), none⟩ <|
    .op ⟨(some 23), .load false 1 (.t 22), none⟩ <|
    .op ⟨(some 24), .mov (.t 0), none⟩ <|
    .op ⟨(some 25), .nilck (.t 24), none⟩ <|
    .op ⟨(some 26), .load false 1 (.t 25), none⟩ <|
    .op ⟨(some 27), .bin .shl (.t 26) (.c (.int .u64 17)), none⟩ <|
    .op ⟨(some 28), .bin .xor (.t 23) (.t 27), none⟩ <|
    .op ⟨(some 29), .nilck (.t 21), none⟩ <|
    .op ⟨none, .store 1 (.t 29) (.t 28), none⟩ <|
    .done)) <|
 .seq
 (.region [⟨(some 30), .mov (.t 0), none⟩,
    ⟨(some 31), .nilck (.t 30), none⟩,
    ⟨(some 32), .load false 1 (.t 31), none⟩,
    ⟨(some 2), .mov (.t 32), none⟩]) <|
 .ret, [.slot 2]⟩
theorem c51 : Code1 Try.prog 51 33 b51 := Code1.mk' Try.func51 (by kernel_rfl) (by kernel_rfl) Try.ntmps51

/-- slices.medianAdjacentCmpFunc[fusee/span.Span] -/
def b52 : IFn := ⟨
 .seq
 (.region [⟨(some 8), .mov (.c (.int .i64 0)), none⟩]) <|
 .seq
 (.region [⟨(some 9), .mov (.t 0), none⟩,
    ⟨(some 10), .mov (.t 1), none⟩,
    ⟨(some 11), .bin .sub (.t 10) (.c (.int .i64 1)), none⟩,
    ⟨(some 12), .mov (.t 1), none⟩,
    ⟨(some 13), .mov (.t 1), none⟩,
    ⟨(some 14), .bin .add (.t 13) (.c (.int .i64 1)), none⟩,
    ⟨(some 15), .mov (.t 2), none⟩,
    ⟨(some 16), .mov (.t 3), none⟩,
    ⟨(some 17), .call (.f 53) [(.t 9), (.t 11), (.t 12), (.t 14), (.t 15), (.t 16)], none⟩,
    ⟨(some 8), .mov (.t 17), none⟩]) <|
 .ret, [.slot 8]⟩
theorem c52 : Code1 Try.prog 52 18 b52 := Code1.mk' Try.func52 (by kernel_rfl) (by kernel_rfl) Try.ntmps52

/-- slices.medianCmpFunc[fusee/span.Span] -/
def b53 : IFn := ⟨
 .seq
 (.region [⟨(some 12), .mov (.c (.int .i64 0)), none⟩]) <|
 .seq
 (.region [⟨(some 14), .mov (.t 0), none⟩,
    ⟨(some 15), .mov (.t 1), none⟩,
    ⟨(some 16), .mov (.t 2), none⟩,
    ⟨(some 17), .mov (.t 4), none⟩,
    ⟨(some 18), .mov (.t 5), none⟩,
    ⟨(some 19), .call (.f 55) [(.t 14), (.t 15), (.t 16), (.t 17), (.t 18)], none⟩,
    ⟨(some 13), .mov (.t 19), none⟩,
    ⟨(some 20), .extract (.t 13) 0, none⟩,
    ⟨(some 21), .extract (.t 13) 1, none⟩,
    ⟨(some 1), .mov (.t 20), none⟩,
    ⟨(some 2), .mov (.t 21), none⟩]) <|
 .seq
 (.region [⟨(some 23), .mov (.t 0), none⟩,
    ⟨(some 24), .mov (.t 2), none⟩,
    ⟨(some 25), .mov (.t 3), none⟩,
    ⟨(some 26), .mov (.t 4), none⟩,
    ⟨(some 27), .mov (.t 5), none⟩,
    ⟨(some 28), .call (.f 55) [(.t 23), (.t 24), (.t 25), (.t 26), (.t 27)], none⟩,
    ⟨(some 22), .mov (.t 28), none⟩,
    ⟨(some 29), .extract (.t 22) 0, none⟩,
    ⟨(some 30), .extract (.t 22) 1, none⟩,
    ⟨(some 2), .mov (.t 29), none⟩,
    ⟨(some 3), .mov (.t 30), none⟩]) <|
 .seq
 (.region [⟨(some 32), .mov (.t 0), none⟩,
    ⟨(some 33), .mov (.t 1), none⟩,
    ⟨(some 34), .mov (.t 2), none⟩,
    ⟨(some 35), .mov (.t 4), none⟩,
    ⟨(some 36), .mov (.t 5), none⟩,
    ⟨(some 37), .call (.f 55) [(.t 32), (.t 33), (.t 34), (.t 35), (.t 36)], none⟩,
    ⟨(some 31), .mov (.t 37), none⟩,
    ⟨(some 38), .extract (.t 31) 0, none⟩,
    ⟨(some 39), .extract (.t 31) 1, none⟩,
    ⟨(some 1), .mov (.t 38), none⟩,
    ⟨(some 2), .mov (.t 39), none⟩]) <|
 .seq
 (.region [⟨(some 40), .mov (.t 2), none⟩,
    ⟨(some 12), .mov (.t 40), none⟩]) <|
 .ret, [.slot 12]⟩
theorem c53 : Code1 Try.prog 53 41 b53 := Code1.mk' Try.func53 (by kernel_rfl) (by kernel_rfl) Try.ntmps53

/-- slices.pdqsortCmpFunc[fusee/span.edge] -/
def b54 : IFn := ⟨
 .seq
 (.region [⟨(some 10), .mov (.c (.bool true)), none⟩]) <|
 .seq
 (.region [⟨(some 11), .mov (.c (.bool true)), none⟩]) <|
 .block 0 <|
 .loop [0, 1, 2, 3, 4, 10, 11] <|
  .block 1 <|
  .seq
  (.region [⟨(some 21), .mov (.t 2), none⟩,
     ⟨(some 22), .mov (.t 1), none⟩,
     ⟨(some 23), .bin .sub (.t 21) (.t 22), none⟩,
     ⟨(some 12), .mov (.t 23), none⟩]) <|
  .seq
  (.seq
   (.region [⟨(some 24), .mov (.t 12), none⟩,
      ⟨(some 25), .bin .leq (.t 24) (.c (.int .i64 12)), none⟩]) <|
   .cond (.t 25)
    (.seq
     (.region [⟨(some 26), .mov (.t 0), none⟩,
        ⟨(some 27), .mov (.t 1), none⟩,
        ⟨(some 28), .mov (.t 2), none⟩,
        ⟨(some 29), .mov (.t 4), none⟩,
        ⟨(some 30), .call (.f 56) [(.t 26), (.t 27), (.t 28), (.t 29)], none⟩]) <|
     .ret)
    (.skip)) <|
  .seq
  (.seq
   (.region [⟨(some 31), .mov (.t 3), none⟩,
      ⟨(some 32), .bin .eql (.t 31) (.c (.int .i64 0)), none⟩]) <|
   .cond (.t 32)
    (.seq
     (.region [⟨(some 33), .mov (.t 0), none⟩,
        ⟨(some 34), .mov (.t 1), none⟩,
        ⟨(some 35), .mov (.t 2), none⟩,
        ⟨(some 36), .mov (.t 4), none⟩,
        ⟨(some 37), .call (.f 57) [(.t 33), (.t 34), (.t 35), (.t 36)], none⟩]) <|
     .ret)
    (.skip)) <|
  .seq
  (.seq
   (.region [⟨(some 38), .mov (.t 10), none⟩,
      ⟨(some 39), .un .not (.t 38), none⟩]) <|
   .cond (.t 39)
    (.seq
     (.region [⟨(some 40), .mov (.t 0), none⟩,
        ⟨(some 41), .mov (.t 1), none⟩,
        ⟨(some 42), .mov (.t 2), none⟩,
        ⟨(some 43), .mov (.t 4), none⟩,
        ⟨(some 44), .call (.f 58) [(.t 40), (.t 41), (.t 42), (.t 43)], none⟩]) <|
     .region [⟨(some 45), .mov (.t 3), none⟩,
       ⟨(some 46), .bin .sub (.t 45) (.c (.int .i64 1)), none⟩,
       ⟨(some 3), .mov (.t 46), none⟩])
    (.skip)) <|
  .seq
  (.region [⟨(some 48), .mov (.t 0), none⟩,
     ⟨(some 49), .mov (.t 1), none⟩,
     ⟨(some 50), .mov (.t 2), none⟩,
     ⟨(some 51), .mov (.t 4), none⟩,
     ⟨(some 52), .call (.f 59) [(.t 48), (.t 49), (.t 50), (.t 51)], none⟩,
     ⟨(some 47), .mov (.t 52), none⟩,
     ⟨(some 53), .extract (.t 47) 0, none⟩,
     ⟨(some 54), .extract (.t 47) 1, none⟩,
     ⟨(some 13), .mov (.t 53), none⟩,
     ⟨(some 14), .mov (.t 54), none⟩]) <|
  .seq
  (.seq
   (.region [⟨(some 55), .mov (.t 14), none⟩,
      ⟨(some 56), .bin .eql (.t 55) (.c (.int .i64 2)), none⟩]) <|
   .cond (.t 56)
    (.seq
     (.region [⟨(some 57), .mov (.t 0), none⟩,
        ⟨(some 58), .mov (.t 1), none⟩,
        ⟨(some 59), .mov (.t 2), none⟩,
        ⟨(some 60), .mov (.t 4), none⟩,
        ⟨(some 61), .call (.f 60) [(.t 57), (.t 58), (.t 59), (.t 60)], none⟩]) <|
     .seq
     (.region [⟨(some 62), .mov (.t 2), none⟩,
        ⟨(some 63), .bin .sub (.t 62) (.c (.int .i64 1)), none⟩,
        ⟨(some 64), .mov (.t 13), none⟩,
        ⟨(some 65), .mov (.t 1), none⟩,
        ⟨(some 66), .bin .sub (.t 64) (.t 65), none⟩,
        ⟨(some 67), .bin .sub (.t 63) (.t 66), none⟩,
        ⟨(some 13), .mov (.t 67), none⟩]) <|
     .region [⟨(some 14), .mov (.c (.int .i64 1)), none⟩])
    (.skip)) <|
  .seq
  (.seq
   (.region [⟨(some 68), .mov (.t 10), none⟩,
      ⟨(some 69), .mov (.t 68), none⟩,
      ⟨(some 70), .mov (.t 11), (some (69, true))⟩,
      ⟨(some 71), .pick (.t 69) (.t 70) (.c (.bool false)), none⟩,
      ⟨(some 72), .mov (.t 71), none⟩,
      ⟨(some 73), .mov (.t 14), (some (72, true))⟩,
      ⟨(some 74), .bin .eql (.t 73) (.c (.int .i64 1)), (some (72, true))⟩,
      ⟨(some 75), .pick (.t 72) (.t 74) (.c (.bool false)), none⟩]) <|
   .cond (.t 75)
    (.seq
     (.region [⟨(some 76), .mov (.t 0), none⟩,
        ⟨(some 77), .mov (.t 1), none⟩,
        ⟨(some 78), .mov (.t 2), none⟩,
        ⟨(some 79), .mov (.t 4), none⟩,
        ⟨(some 80), .call (.f 61) [(.t 76), (.t 77), (.t 78), (.t 79)], none⟩]) <|
     .cond (.t 80)
      (.ret)
      (.skip))
    (.skip)) <|
  .seq
  (.seq
   (.draw false [0, 1, 2, 3, 4, 10, 11, 12, 13, 97] (
      .op ⟨(some 81), .mov (.t 1), none⟩ <|
      .op ⟨(some 82), .bin .gtr (.t 81) (.c (.int .i64 0)), none⟩ <|
      .op ⟨(some 83), .mov (.t 82), none⟩ <|
      .op ⟨(some 84), .mov (.t 4), (some (83, true))⟩ <|
      .op ⟨(some 85), .mov (.t 0), (some (83, true))⟩ <|
      .op ⟨(some 86), .mov (.t 1), (some (83, true))⟩ <|
      .op ⟨(some 87), .bin .sub (.t 86) (.c (.int .i64 1)), (some (83, true))⟩ <|
      .op ⟨(some 88), .iaddr 3 (.t 85) (.t 87), (some (83, true))⟩ <|
      .op ⟨(some 89), .load true 3 (.t 88), (some (83, true))⟩ <|
      .op ⟨(some 90), .mov (.t 0), (some (83, true))⟩ <|
      .op ⟨(some 91), .mov (.t 13), (some (83, true))⟩ <|
      .op ⟨(some 92), .iaddr 3 (.t 90) (.t 91), (some (83, true))⟩ <|
      .op ⟨(some 93), .load true 3 (.t 92), (some (83, true))⟩ <|
      .op ⟨(some 94), .call (.t 84) [(.t 89), (.t 93)], (some (83, true))⟩ <|
      .op ⟨(some 95), .bin .lss (.t 94) (.c (.int .i64 0)), (some (83, true))⟩ <|
      .op ⟨(some 96), .un .not (.t 95), (some (83, true))⟩ <|
      .op ⟨(some 97), .pick (.t 83) (.t 96) (.c (.bool false)), none⟩ <|
      .done)) <|
   .cond (.t 97)
    (.seq
     (.region [⟨(some 98), .mov (.t 0), none⟩,
        ⟨(some 99), .mov (.t 1), none⟩,
        ⟨(some 100), .mov (.t 2), none⟩,
        ⟨(some 101), .mov (.t 13), none⟩,
        ⟨(some 102), .mov (.t 4), none⟩,
        ⟨(some 103), .call (.f 62) [(.t 98), (.t 99), (.t 100), (.t 101), (.t 102)], none⟩,
        ⟨(some 15), .mov (.t 103), none⟩]) <|
     .seq
     (.region [⟨(some 104), .mov (.t 15), none⟩,
        ⟨(some 1), .mov (.t 104), none⟩]) <|
     .exit 1)
    (.skip)) <|
  .seq
  (.region [⟨(some 106), .mov (.t 0), none⟩,
     ⟨(some 107), .mov (.t 1), none⟩,
     ⟨(some 108), .mov (.t 2), none⟩,
     ⟨(some 109), .mov (.t 13), none⟩,
     ⟨(some 110), .mov (.t 4), none⟩,
     ⟨(some 111), .call (.f 63) [(.t 106), (.t 107), (.t 108), (.t 109), (.t 110)], none⟩,
     ⟨(some 105), .mov (.t 111), none⟩,
     ⟨(some 112), .extract (.t 105) 0, none⟩,
     ⟨(some 113), .extract (.t 105) 1, none⟩,
     ⟨(some 16), .mov (.t 112), none⟩,
     ⟨(some 17), .mov (.t 113), none⟩]) <|
  .seq
  (.region [⟨(some 114), .mov (.t 17), none⟩,
     ⟨(some 11), .mov (.t 114), none⟩]) <|
  .seq
  (.region [⟨(some 115), .mov (.t 16), none⟩,
     ⟨(some 116), .mov (.t 1), none⟩,
     ⟨(some 117), .bin .sub (.t 115) (.t 116), none⟩,
     ⟨(some 118), .mov (.t 2), none⟩,
     ⟨(some 119), .mov (.t 16), none⟩,
     ⟨(some 120), .bin .sub (.t 118) (.t 119), none⟩,
     ⟨(some 18), .mov (.t 117), none⟩,
     ⟨(some 19), .mov (.t 120), none⟩]) <|
  .seq
  (.region [⟨(some 121), .mov (.t 12), none⟩,
     ⟨(some 122), .bin .quo (.t 121) (.c (.int .i64 8)), none⟩,
     ⟨(some 20), .mov (.t 122), none⟩]) <|
  .seq
  (.region [⟨(some 123), .mov (.t 18), none⟩,
     ⟨(some 124), .mov (.t 19), none⟩,
     ⟨(some 125), .bin .lss (.t 123) (.t 124), none⟩]) <|
  .cond (.t 125)
   (.seq
    (.region [⟨(some 126), .mov (.t 18), none⟩,
       ⟨(some 127), .mov (.t 20), none⟩,
       ⟨(some 128), .bin .geq (.t 126) (.t 127), none⟩,
       ⟨(some 10), .mov (.t 128), none⟩]) <|
    .seq
    (.region [⟨(some 129), .mov (.t 0), none⟩,
       ⟨(some 130), .mov (.t 1), none⟩,
       ⟨(some 131), .mov (.t 16), none⟩,
       ⟨(some 132), .mov (.t 3), none⟩,
       ⟨(some 133), .mov (.t 4), none⟩,
       ⟨(some 134), .call (.f 54) [(.t 129), (.t 130), (.t 131), (.t 132), (.t 133)], none⟩]) <|
    .region [⟨(some 135), .mov (.t 16), none⟩,
      ⟨(some 136), .bin .add (.t 135) (.c (.int .i64 1)), none⟩,
      ⟨(some 1), .mov (.t 136), none⟩])
   (.seq
    (.region [⟨(some 137), .mov (.t 19), none⟩,
       ⟨(some 138), .mov (.t 20), none⟩,
       ⟨(some 139), .bin .geq (.t 137) (.t 138), none⟩,
       ⟨(some 10), .mov (.t 139), none⟩]) <|
    .seq
    (.region [⟨(some 140), .mov (.t 0), none⟩,
       ⟨(some 141), .mov (.t 16), none⟩,
       ⟨(some 142), .bin .add (.t 141) (.c (.int .i64 1)), none⟩,
       ⟨(some 143), .mov (.t 2), none⟩,
       ⟨(some 144), .mov (.t 3), none⟩,
       ⟨(some 145), .mov (.t 4), none⟩,
       ⟨(some 146), .call (.f 54) [(.t 140), (.t 142), (.t 143), (.t 144), (.t 145)], none⟩]) <|
    .region [⟨(some 147), .mov (.t 16), none⟩,
      ⟨(some 2), .mov (.t 147), none⟩]), []⟩
theorem c54 : Code1 Try.prog 54 148 b54 := Code1.mk' Try.func54 (by kernel_rfl) (by kernel_rfl) Try.ntmps54

/-- slices.order2CmpFunc[fusee/span.Span] -/
def b55 : IFn := ⟨
 .seq
 (.region [⟨(some 10), .mov (.c (.int .i64 0)), none⟩,
    ⟨(some 11), .mov (.c (.int .i64 0)), none⟩]) <|
 .seq
 (.seq
  (.draw false [1, 2, 3, 22] (
     .op ⟨(some 12), .mov (.t 4), none⟩ <|
     .op ⟨(some 13), .mov (.t 0), none⟩ <|
     .op ⟨(some 14), .mov (.t 2), none⟩ <|
     .op ⟨(some 15), .iaddr 2 (.t 13) (.t 14), none⟩ <|
     .op ⟨(some 16), .load true 2 (.t 15), none⟩ <|
     .op ⟨(some 17), .mov (.t 0), none⟩ <|
     .op ⟨(some 18), .mov (.t 1), none⟩ <|
     .op ⟨(some 19), .iaddr 2 (.t 17) (.t 18), none⟩ <|
     .op ⟨(some 20), .load true 2 (.t 19), none⟩ <|
     .op ⟨(some 21), .call (.t 12) [(.t 16), (.t 20)], none⟩ <|
     .op ⟨(some 22), .bin .lss (.t 21) (.c (.int .i64 0)), none⟩ <|
     .done)) <|
  .cond (.t 22)
   (.seq
    (.region [⟨(some 23), .mov (.t 3), none⟩,
       ⟨(some 24), .nilck (.t 23), none⟩,
       ⟨(some 25), .load false 1 (.t 24), none⟩,
       ⟨(some 26), .bin .add (.t 25) (.c (.int .i64 1)), none⟩,
       ⟨(some 27), .nilck (.t 23), none⟩,
       ⟨none, .store 1 (.t 27) (.t 26), none⟩]) <|
    .seq
    (.region [⟨(some 28), .mov (.t 2), none⟩,
       ⟨(some 29), .mov (.t 1), none⟩,
       ⟨(some 10), .mov (.t 28), none⟩,
       ⟨(some 11), .mov (.t 29), none⟩]) <|
    .ret)
   (.skip)) <|
 .seq
 (.region [⟨(some 30), .mov (.t 1), none⟩,
    ⟨(some 31), .mov (.t 2), none⟩,
    ⟨(some 10), .mov (.t 30), none⟩,
    ⟨(some 11), .mov (.t 31), none⟩]) <|
 .ret, [.slot 10, .slot 11]⟩
theorem c55 : Code1 Try.prog 55 32 b55 := Code1.mk' Try.func55 (by kernel_rfl) (by kernel_rfl) Try.ntmps55

/-- slices.insertionSortCmpFunc[fusee/span.edge] -/
def b56 : IFn := ⟨
 .seq
 (.region [⟨(some 10), .mov (.t 1), none⟩,
    ⟨(some 11), .bin .add (.t 10) (.c (.int .i64 1)), none⟩,
    ⟨(some 8), .mov (.t 11), none⟩]) <|
 .block 0 <|
 .loop [0, 1, 2, 3, 8] <|
  .seq
  (.seq
   (.region [⟨(some 12), .mov (.t 8), none⟩,
      ⟨(some 13), .mov (.t 2), none⟩,
      ⟨(some 14), .bin .lss (.t 12) (.t 13), none⟩]) <|
   .cond (.t 14)
    (.skip)
    (.exit 0)) <|
  .seq
  (.block 1 <|
   .seq
   (.region [⟨(some 17), .mov (.t 8), none⟩,
      ⟨(some 9), .mov (.t 17), none⟩]) <|
   .block 2 <|
   .loop [0, 1, 2, 3, 8, 9] <|
    .seq
    (.seq
     (.draw false [0, 1, 2, 3, 8, 9, 34] (
        .op ⟨(some 18), .mov (.t 9), none⟩ <|
        .op ⟨(some 19), .mov (.t 1), none⟩ <|
        .op ⟨(some 20), .bin .gtr (.t 18) (.t 19), none⟩ <|
        .op ⟨(some 21), .mov (.t 20), none⟩ <|
        .op ⟨(some 22), .mov (.t 3), (some (21, true))⟩ <|
        .op ⟨(some 23), .mov (.t 0), (some (21, true))⟩ <|
        .op ⟨(some 24), .mov (.t 9), (some (21, true))⟩ <|
        .op ⟨(some 25), .iaddr 3 (.t 23) (.t 24), (some (21, true))⟩ <|
        .op ⟨(some 26), .load true 3 (.t 25), (some (21, true))⟩ <|
        .op ⟨(some 27), .mov (.t 0), (some (21, true))⟩ <|
        .op ⟨(some 28), .mov (.t 9), (some (21, true))⟩ <|
        .op ⟨(some 29), .bin .sub (.t 28) (.c (.int .i64 1)), (some (21, true))⟩ <|
        .op ⟨(some 30), .iaddr 3 (.t 27) (.t 29), (some (21, true))⟩ <|
        .op ⟨(some 31), .load true 3 (.t 30), (some (21, true))⟩ <|
        .op ⟨(some 32), .call (.t 22) [(.t 26), (.t 31)], (some (21, true))⟩ <|
        .op ⟨(some 33), .bin .lss (.t 32) (.c (.int .i64 0)), (some (21, true))⟩ <|
        .op ⟨(some 34), .pick (.t 21) (.t 33) (.c (.bool false)), none⟩ <|
        .done)) <|
     .cond (.t 34)
      (.skip)
      (.exit 2)) <|
    .seq
    (.block 3 <|
     .draw false [0, 1, 2, 3, 8, 9] (
       .op ⟨(some 37), .mov (.t 0), none⟩ <|
       .op ⟨(some 38), .mov (.t 9), none⟩ <|
       .op ⟨(some 39), .mov (.t 0), none⟩ <|
       .op ⟨(some 40), .mov (.t 9), none⟩ <|
       .op ⟨(some 41), .bin .sub (.t 40) (.c (.int .i64 1)), none⟩ <|
       .op ⟨(some 42), .mov (.t 0), none⟩ <|
       .op ⟨(some 43), .mov (.t 9), none⟩ <|
       .op ⟨(some 44), .bin .sub (.t 43) (.c (.int .i64 1)), none⟩ <|
       .op ⟨(some 45), .iaddr 3 (.t 42) (.t 44), none⟩ <|
       .op ⟨(some 46), .load true 3 (.t 45), none⟩ <|
       .op ⟨(some 47), .mov (.t 0), none⟩ <|
       .op ⟨(some 48), .mov (.t 9), none⟩ <|
       .op ⟨(some 49), .iaddr 3 (.t 47) (.t 48), none⟩ <|
       .op ⟨(some 50), .load true 3 (.t 49), none⟩ <|
       .op ⟨(some 51), .iaddr 3 (.t 37) (.t 38), none⟩ <|
       .op ⟨none, .store 3 (.t 51) (.t 46), none⟩ <|
       .op ⟨(some 52), .iaddr 3 (.t 39) (.t 41), none⟩ <|
       .op ⟨none, .store 3 (.t 52) (.t 50), none⟩ <|
       .done)) <|
    .region [⟨(some 35), .mov (.t 9), none⟩,
      ⟨(some 36), .bin .sub (.t 35) (.c (.int .i64 1)), none⟩,
      ⟨(some 9), .mov (.t 36), none⟩]) <|
  .region [⟨(some 15), .mov (.t 8), none⟩,
    ⟨(some 16), .bin .add (.t 15) (.c (.int .i64 1)), none⟩,
    ⟨(some 8), .mov (.t 16), none⟩], []⟩
theorem c56 : Code1 Try.prog 56 53 b56 := Code1.mk' Try.func56 (by kernel_rfl) (by kernel_rfl) Try.ntmps56

/-- slices.heapSortCmpFunc[fusee/span.edge] -/
def b57 : IFn := ⟨
 .seq
 (.region [⟨(some 13), .mov (.t 1), none⟩,
    ⟨(some 8), .mov (.t 13), none⟩]) <|
 .seq
 (.region [⟨(some 9), .mov (.c (.int .i64 0)), none⟩]) <|
 .seq
 (.region [⟨(some 14), .mov (.t 2), none⟩,
    ⟨(some 15), .mov (.t 1), none⟩,
    ⟨(some 16), .bin .sub (.t 14) (.t 15), none⟩,
    ⟨(some 10), .mov (.t 16), none⟩]) <|
 .seq
 (.seq
  (.region [⟨(some 17), .mov (.t 10), none⟩,
     ⟨(some 18), .bin .sub (.t 17) (.c (.int .i64 1)), none⟩,
     ⟨(some 19), .bin .quo (.t 18) (.c (.int .i64 2)), none⟩,
     ⟨(some 11), .mov (.t 19), none⟩]) <|
  .block 0 <|
  .loop [0, 3, 8, 9, 10, 11] <|
   .seq
   (.seq
    (.region [⟨(some 20), .mov (.t 11), none⟩,
       ⟨(some 21), .bin .geq (.t 20) (.c (.int .i64 0)), none⟩]) <|
    .cond (.t 21)
     (.skip)
     (.exit 0)) <|
   .seq
   (.block 1 <|
    .region [⟨(some 24), .mov (.t 0), none⟩,
      ⟨(some 25), .mov (.t 11), none⟩,
      ⟨(some 26), .mov (.t 10), none⟩,
      ⟨(some 27), .mov (.t 8), none⟩,
      ⟨(some 28), .mov (.t 3), none⟩,
      ⟨(some 29), .call (.f 64) [(.t 24), (.t 25), (.t 26), (.t 27), (.t 28)], none⟩]) <|
   .region [⟨(some 22), .mov (.t 11), none⟩,
     ⟨(some 23), .bin .sub (.t 22) (.c (.int .i64 1)), none⟩,
     ⟨(some 11), .mov (.t 23), none⟩]) <|
 .seq
 (.region [⟨(some 30), .mov (.t 10), none⟩,
    ⟨(some 31), .bin .sub (.t 30) (.c (.int .i64 1)), none⟩,
    ⟨(some 12), .mov (.t 31), none⟩]) <|
 .block 2 <|
 .loop [0, 3, 8, 9, 12] <|
  .seq
  (.seq
   (.region [⟨(some 32), .mov (.t 12), none⟩,
      ⟨(some 33), .bin .geq (.t 32) (.c (.int .i64 0)), none⟩]) <|
   .cond (.t 33)
    (.skip)
    (.exit 2)) <|
  .seq
  (.block 3 <|
   .seq
   (.draw false [0, 3, 8, 9, 12] (
      .op ⟨(some 36), .mov (.t 0), none⟩ <|
      .op ⟨(some 37), .mov (.t 8), none⟩ <|
      .op ⟨(some 38), .mov (.t 0), none⟩ <|
      .op ⟨(some 39), .mov (.t 8), none⟩ <|
      .op ⟨(some 40), .mov (.t 12), none⟩ <|
      .op ⟨(some 41), .bin .add (.t 39) (.t 40), none⟩ <|
      .op ⟨(some 42), .mov (.t 0), none⟩ <|
      .op ⟨(some 43), .mov (.t 8), none⟩ <|
      .op ⟨(some 44), .mov (.t 12), none⟩ <|
      .op ⟨(some 45), .bin .add (.t 43) (.t 44), none⟩ <|
      .op ⟨(some 46), .iaddr 3 (.t 42) (.t 45), none⟩ <|
      .op ⟨(some 47), .load true 3 (.t 46), none⟩ <|
      .op ⟨(some 48), .mov (.t 0), none⟩ <|
      .op ⟨(some 49), .mov (.t 8), none⟩ <|
      .op ⟨(some 50), .iaddr 3 (.t 48) (.t 49), none⟩ <|
      .op ⟨(some 51), .load true 3 (.t 50), none⟩ <|
      .op ⟨(some 52), .iaddr 3 (.t 36) (.t 37), none⟩ <|
      .op ⟨none, .store 3 (.t 52) (.t 47), none⟩ <|
      .op ⟨(some 53), .iaddr 3 (.t 38) (.t 41), none⟩ <|
      .op ⟨none, .store 3 (.t 53) (.t 51), none⟩ <|
      .done)) <|
   .region [⟨(some 54), .mov (.t 0), none⟩,
     ⟨(some 55), .mov (.t 9), none⟩,
     ⟨(some 56), .mov (.t 12), none⟩,
     ⟨(some 57), .mov (.t 8), none⟩,
     ⟨(some 58), .mov (.t 3), none⟩,
     ⟨(some 59), .call (.f 64) [(.t 54), (.t 55), (.t 56), (.t 57), (.t 58)], none⟩]) <|
  .region [⟨(some 34), .mov (.t 12), none⟩,
    ⟨(some 35), .bin .sub (.t 34) (.c (.int .i64 1)), none⟩,
    ⟨(some 12), .mov (.t 35), none⟩], []⟩
theorem c57 : Code1 Try.prog 57 60 b57 := Code1.mk' Try.func57 (by kernel_rfl) (by kernel_rfl) Try.ntmps57

/-- slices.breakPatternsCmpFunc[fusee/span.edge] -/
def b58 : IFn := ⟨
 .seq
 (.region [⟨(some 13), .mov (.t 2), none⟩,
    ⟨(some 14), .mov (.t 1), none⟩,
    ⟨(some 15), .bin .sub (.t 13) (.t 14), none⟩,
    ⟨(some 8), .mov (.t 15), none⟩]) <|
 .seq
 (.region [⟨(some 16), .mov (.t 8), none⟩,
    ⟨(some 17), .bin .geq (.t 16) (.c (.int .i64 8)), none⟩]) <|
 .cond (.t 17)
  (.seq
   (.region [⟨(some 18), .mov (.t 8), none⟩,
      ⟨(some 19), .conv .u64 (.t 18), none⟩,
      ⟨(some 9), .alloc [(.int .u64 0)], none⟩,
      ⟨none, .store 1 (.t 9) (.t 19), none⟩]) <|
   .seq
   (.region [⟨(some 20), .mov (.t 8), none⟩,
      ⟨(some 21), .call (.f 50) [(.t 20)], none⟩,
      ⟨(some 10), .mov (.t 21), none⟩]) <|
   .seq
   (.region [⟨(some 22), .mov (.t 1), none⟩,
      ⟨(some 23), .mov (.t 8), none⟩,
      ⟨(some 24), .bin .quo (.t 23) (.c (.int .i64 4)), none⟩,
      ⟨(some 25), .bin .mul (.t 24) (.c (.int .i64 2)), none⟩,
      ⟨(some 26), .bin .add (.t 22) (.t 25), none⟩,
      ⟨(some 27), .bin .sub (.t 26) (.c (.int .i64 1)), none⟩,
      ⟨(some 11), .mov (.t 27), none⟩]) <|
   .block 0 <|
   .loop [0, 1, 8, 9, 10, 11] <|
    .seq
    (.seq
     (.region [⟨(some 28), .mov (.t 11), none⟩,
        ⟨(some 29), .mov (.t 1), none⟩,
        ⟨(some 30), .mov (.t 8), none⟩,
        ⟨(some 31), .bin .quo (.t 30) (.c (.int .i64 4)), none⟩,
        ⟨(some 32), .bin .mul (.t 31) (.c (.int .i64 2)), none⟩,
        ⟨(some 33), .bin .add (.t 29) (.t 32), none⟩,
        ⟨(some 34), .bin .add (.t 33) (.c (.int .i64 1)), none⟩,
        ⟨(some 35), .bin .leq (.t 28) (.t 34), none⟩]) <|
     .cond (.t 35)
      (.skip)
      (.exit 0)) <|
    .seq
    (.block 1 <|
     .seq
     (.region [⟨(some 38), .call (.f 51) [(.t 9)], none⟩,
        ⟨(some 39), .mov (.t 10), none⟩,
        ⟨(some 40), .bin .sub (.t 39) (.c (.int .u64 1)), none⟩,
        ⟨(some 41), .bin .and (.t 38) (.t 40), none⟩,
        ⟨(some 42), .conv .i64 (.t 41), none⟩,
        ⟨(some 12), .mov (.t 42), none⟩]) <|
     .seq
     (.seq
      (.region [⟨(some 43), .mov (.t 12), none⟩,
         ⟨(some 44), .mov (.t 8), none⟩,
         ⟨(some 45), .bin .geq (.t 43) (.t 44), none⟩]) <|
      .cond (.t 45)
       (.region [⟨(some 46), .mov (.t 12), none⟩,
          ⟨(some 47), .mov (.t 8), none⟩,
          ⟨(some 48), .bin .sub (.t 46) (.t 47), none⟩,
          ⟨(some 12), .mov (.t 48), none⟩])
       (.skip)) <|
     .draw false [0, 1, 8, 9, 10, 11] (
       .op ⟨(some 49), .mov (.t 0), none⟩ <|
       .op ⟨(some 50), .mov (.t 11), none⟩ <|
       .op ⟨(some 51), .mov (.t 0), none⟩ <|
       .op ⟨(some 52), .mov (.t 1), none⟩ <|
       .op ⟨(some 53), .mov (.t 12), none⟩ <|
       .op ⟨(some 54), .bin .add (.t 52) (.t 53), none⟩ <|
       .op ⟨(some 55), .mov (.t 0), none⟩ <|
       .op ⟨(some 56), .mov (.t 1), none⟩ <|
       .op ⟨(some 57), .mov (.t 12), none⟩ <|
       .op ⟨(some 58), .bin .add (.t 56) (.t 57), none⟩ <|
       .op ⟨(some 59), .iaddr 3 (.t 55) (.t 58), none⟩ <|
       .op ⟨(some 60), .load true 3 (.t 59), none⟩ <|
       .op ⟨(some 61), .mov (.t 0), none⟩ <|
       .op ⟨(some 62), .mov (.t 11), none⟩ <|
       .op ⟨(some 63), .iaddr 3 (.t 61) (.t 62), none⟩ <|
       .op ⟨(some 64), .load true 3 (.t 63), none⟩ <|
       .op ⟨(some 65), .iaddr 3 (.t 49) (.t 50), none⟩ <|
       .op ⟨none, .store 3 (.t 65) (.t 60), none⟩ <|
       .op ⟨(some 66), .iaddr 3 (.t 51) (.t 54), none⟩ <|
       .op ⟨none, .store 3 (.t 66) (.t 64), none⟩ <|
       .done)) <|
    .region [⟨(some 36), .mov (.t 11), none⟩,
      ⟨(some 37), .bin .add (.t 36) (.c (.int .i64 1)), none⟩,
      ⟨(some 11), .mov (.t 37), none⟩])
  (.skip), []⟩
theorem c58 : Code1 Try.prog 58 67 b58 := Code1.mk' Try.func58 (by kernel_rfl) (by kernel_rfl) Try.ntmps58

/-- slices.choosePivotCmpFunc[fusee/span.edge] -/
def b59 : IFn := ⟨
 .seq
 (.region [⟨(some 8), .mov (.c (.int .i64 0)), none⟩,
    ⟨(some 9), .mov (.c (.int .i64 0)), none⟩]) <|
 .seq
 (.region [⟨(some 15), .mov (.t 2), none⟩,
    ⟨(some 16), .mov (.t 1), none⟩,
    ⟨(some 17), .bin .sub (.t 15) (.t 16), none⟩,
    ⟨(some 10), .mov (.t 17), none⟩]) <|
 .seq
 (.region [⟨(some 11), .alloc [(.int .i64 0)], none⟩]) <|
 .seq
 (.region [⟨(some 18), .mov (.t 1), none⟩,
    ⟨(some 19), .mov (.t 10), none⟩,
    ⟨(some 20), .bin .quo (.t 19) (.c (.int .i64 4)), none⟩,
    ⟨(some 21), .bin .mul (.t 20) (.c (.int .i64 1)), none⟩,
    ⟨(some 22), .bin .add (.t 18) (.t 21), none⟩,
    ⟨(some 12), .mov (.t 22), none⟩]) <|
 .seq
 (.region [⟨(some 23), .mov (.t 1), none⟩,
    ⟨(some 24), .mov (.t 10), none⟩,
    ⟨(some 25), .bin .quo (.t 24) (.c (.int .i64 4)), none⟩,
    ⟨(some 26), .bin .mul (.t 25) (.c (.int .i64 2)), none⟩,
    ⟨(some 27), .bin .add (.t 23) (.t 26), none⟩,
    ⟨(some 13), .mov (.t 27), none⟩]) <|
 .seq
 (.region [⟨(some 28), .mov (.t 1), none⟩,
    ⟨(some 29), .mov (.t 10), none⟩,
    ⟨(some 30), .bin .quo (.t 29) (.c (.int .i64 4)), none⟩,
    ⟨(some 31), .bin .mul (.t 30) (.c (.int .i64 3)), none⟩,
    ⟨(some 32), .bin .add (.t 28) (.t 31), none⟩,
    ⟨(some 14), .mov (.t 32), none⟩]) <|
 .seq
 (.seq
  (.region [⟨(some 33), .mov (.t 10), none⟩,
     ⟨(some 34), .bin .geq (.t 33) (.c (.int .i64 8)), none⟩]) <|
  .cond (.t 34)
   (.seq
    (.seq
     (.region [⟨(some 35), .mov (.t 10), none⟩,
        ⟨(some 36), .bin .geq (.t 35) (.c (.int .i64 50)), none⟩]) <|
     .cond (.t 36)
      (.seq
       (.region [⟨(some 37), .mov (.t 0), none⟩,
          ⟨(some 38), .mov (.t 12), none⟩,
          ⟨(some 39), .mov (.t 3), none⟩,
          ⟨(some 40), .call (.f 65) [(.t 37), (.t 38), (.t 11), (.t 39)], none⟩,
          ⟨(some 12), .mov (.t 40), none⟩]) <|
       .seq
       (.region [⟨(some 41), .mov (.t 0), none⟩,
          ⟨(some 42), .mov (.t 13), none⟩,
          ⟨(some 43), .mov (.t 3), none⟩,
          ⟨(some 44), .call (.f 65) [(.t 41), (.t 42), (.t 11), (.t 43)], none⟩,
          ⟨(some 13), .mov (.t 44), none⟩]) <|
       .region [⟨(some 45), .mov (.t 0), none⟩,
         ⟨(some 46), .mov (.t 14), none⟩,
         ⟨(some 47), .mov (.t 3), none⟩,
         ⟨(some 48), .call (.f 65) [(.t 45), (.t 46), (.t 11), (.t 47)], none⟩,
         ⟨(some 14), .mov (.t 48), none⟩])
      (.skip)) <|
    .region [⟨(some 49), .mov (.t 0), none⟩,
      ⟨(some 50), .mov (.t 12), none⟩,
      ⟨(some 51), .mov (.t 13), none⟩,
      ⟨(some 52), .mov (.t 14), none⟩,
      ⟨(some 53), .mov (.t 3), none⟩,
      ⟨(some 54), .call (.f 66) [(.t 49), (.t 50), (.t 51), (.t 52), (.t 11), (.t 53)], none⟩,
      ⟨(some 13), .mov (.t 54), none⟩])
   (.skip)) <|
 .seq
 (.region [⟨(some 55), .load false 1 (.t 11), none⟩]) <|
 .block 0 <|
 .seq
 (.region [⟨(some 58), .bin .eql (.t 55) (.c (.int .i64 0)), none⟩,
    ⟨(some 57), .mov (.t 58), none⟩]) <|
 .cond (.t 57)
  (.seq
   (.region [⟨(some 59), .mov (.t 13), none⟩,
      ⟨(some 8), .mov (.t 59), none⟩,
      ⟨(some 9), .mov (.c (.int .i64 1)), none⟩]) <|
   .ret)
  (.seq
   (.region [⟨(some 61), .bin .eql (.t 55) (.c (.int .i64 12)), none⟩,
      ⟨(some 60), .mov (.t 61), none⟩]) <|
   .cond (.t 60)
    (.seq
     (.region [⟨(some 62), .mov (.t 13), none⟩,
        ⟨(some 8), .mov (.t 62), none⟩,
        ⟨(some 9), .mov (.c (.int .i64 2)), none⟩]) <|
     .ret)
    (.seq
     (.region [⟨(some 56), .mov (.t 13), none⟩,
        ⟨(some 8), .mov (.t 56), none⟩,
        ⟨(some 9), .mov (.c (.int .i64 0)), none⟩]) <|
     .ret)), [.slot 8, .slot 9]⟩
theorem c59 : Code1 Try.prog 59 63 b59 := Code1.mk' Try.func59 (by kernel_rfl) (by kernel_rfl) Try.ntmps59

/-- slices.reverseRangeCmpFunc[fusee/span.edge] -/
def b60 : IFn := ⟨
 .seq
 (.region [⟨(some 10), .mov (.t 1), none⟩,
    ⟨(some 8), .mov (.t 10), none⟩]) <|
 .seq
 (.region [⟨(some 11), .mov (.t 2), none⟩,
    ⟨(some 12), .bin .sub (.t 11) (.c (.int .i64 1)), none⟩,
    ⟨(some 9), .mov (.t 12), none⟩]) <|
 .block 0 <|
 .loop [0, 8, 9] <|
  .seq
  (.seq
   (.region [⟨(some 13), .mov (.t 8), none⟩,
      ⟨(some 14), .mov (.t 9), none⟩,
      ⟨(some 15), .bin .lss (.t 13) (.t 14), none⟩]) <|
   .cond (.t 15)
    (.skip)
    (.exit 0)) <|
  .block 1 <|
  .seq
  (.draw false [0, 8, 9] (
     .op ⟨(some 16), .mov (.t 0), none⟩ <|
     .op ⟨(some 17), .mov (.t 8), none⟩ <|
     .op ⟨(some 18), .mov (.t 0), none⟩ <|
     .op ⟨(some 19), .mov (.t 9), none⟩ <|
     .op ⟨(some 20), .mov (.t 0), none⟩ <|
     .op ⟨(some 21), .mov (.t 9), none⟩ <|
     .op ⟨(some 22), .iaddr 3 (.t 20) (.t 21), none⟩ <|
     .op ⟨(some 23), .load true 3 (.t 22), none⟩ <|
     .op ⟨(some 24), .mov (.t 0), none⟩ <|
     .op ⟨(some 25), .mov (.t 8), none⟩ <|
     .op ⟨(some 26), .iaddr 3 (.t 24) (.t 25), none⟩ <|
     .op ⟨(some 27), .load true 3 (.t 26), none⟩ <|
     .op ⟨(some 28), .iaddr 3 (.t 16) (.t 17), none⟩ <|
     .op ⟨none, .store 3 (.t 28) (.t 23), none⟩ <|
     .op ⟨(some 29), .iaddr 3 (.t 18) (.t 19), none⟩ <|
     .op ⟨none, .store 3 (.t 29) (.t 27), none⟩ <|
     .done)) <|
  .seq
  (.region [⟨(some 30), .mov (.t 8), none⟩,
     ⟨(some 31), .bin .add (.t 30) (.c (.int .i64 1)), none⟩,
     ⟨(some 8), .mov (.t 31), none⟩]) <|
  .region [⟨(some 32), .mov (.t 9), none⟩,
    ⟨(some 33), .bin .sub (.t 32) (.c (.int .i64 1)), none⟩,
    ⟨(some 9), .mov (.t 33), none⟩], []⟩
theorem c60 : Code1 Try.prog 60 34 b60 := Code1.mk' Try.func60 (by kernel_rfl) (by kernel_rfl) Try.ntmps60

/-- slices.partialInsertionSortCmpFunc[fusee/span.edge] -/
def b61 : IFn := ⟨
 .seq
 (.region [⟨(some 8), .mov (.c (.bool false)), none⟩]) <|
 .seq
 (.region [⟨(some 13), .mov (.t 1), none⟩,
    ⟨(some 14), .bin .add (.t 13) (.c (.int .i64 1)), none⟩,
    ⟨(some 9), .mov (.t 14), none⟩]) <|
 .seq
 (.seq
  (.region [⟨(some 10), .mov (.c (.int .i64 0)), none⟩]) <|
  .block 0 <|
  .loop [0, 1, 2, 3, 9, 10] <|
   .seq
   (.seq
    (.region [⟨(some 15), .mov (.t 10), none⟩,
       ⟨(some 16), .bin .lss (.t 15) (.c (.int .i64 5)), none⟩]) <|
    .cond (.t 16)
     (.skip)
     (.exit 0)) <|
   .seq
   (.block 1 <|
    .seq
    (.block 2 <|
     .loop [0, 1, 2, 3, 9, 10] <|
      .seq
      (.seq
       (.draw false [0, 1, 2, 3, 9, 10, 36] (
          .op ⟨(some 19), .mov (.t 9), none⟩ <|
          .op ⟨(some 20), .mov (.t 2), none⟩ <|
          .op ⟨(some 21), .bin .lss (.t 19) (.t 20), none⟩ <|
          .op ⟨(some 22), .mov (.t 21), none⟩ <|
          .op ⟨(some 23), .mov (.t 3), (some (22, true))⟩ <|
          .op ⟨(some 24), .mov (.t 0), (some (22, true))⟩ <|
          .op ⟨(some 25), .mov (.t 9), (some (22, true))⟩ <|
          .op ⟨(some 26), .iaddr 3 (.t 24) (.t 25), (some (22, true))⟩ <|
          .op ⟨(some 27), .load true 3 (.t 26), (some (22, true))⟩ <|
          .op ⟨(some 28), .mov (.t 0), (some (22, true))⟩ <|
          .op ⟨(some 29), .mov (.t 9), (some (22, true))⟩ <|
          .op ⟨(some 30), .bin .sub (.t 29) (.c (.int .i64 1)), (some (22, true))⟩ <|
          .op ⟨(some 31), .iaddr 3 (.t 28) (.t 30), (some (22, true))⟩ <|
          .op ⟨(some 32), .load true 3 (.t 31), (some (22, true))⟩ <|
          .op ⟨(some 33), .call (.t 23) [(.t 27), (.t 32)], (some (22, true))⟩ <|
          .op ⟨(some 34), .bin .lss (.t 33) (.c (.int .i64 0)), (some (22, true))⟩ <|
          .op ⟨(some 35), .un .not (.t 34), (some (22, true))⟩ <|
          .op ⟨(some 36), .pick (.t 22) (.t 35) (.c (.bool false)), none⟩ <|
          .done)) <|
       .cond (.t 36)
        (.skip)
        (.exit 2)) <|
      .block 3 <|
      .region [⟨(some 37), .mov (.t 9), none⟩,
        ⟨(some 38), .bin .add (.t 37) (.c (.int .i64 1)), none⟩,
        ⟨(some 9), .mov (.t 38), none⟩]) <|
    .seq
    (.seq
     (.region [⟨(some 39), .mov (.t 9), none⟩,
        ⟨(some 40), .mov (.t 2), none⟩,
        ⟨(some 41), .bin .eql (.t 39) (.t 40), none⟩]) <|
     .cond (.t 41)
      (.seq
       (.region [⟨(some 8), .mov (.c (.bool true)), none⟩]) <|
       .ret)
      (.skip)) <|
    .seq
    (.seq
     (.region [⟨(some 42), .mov (.t 2), none⟩,
        ⟨(some 43), .mov (.t 1), none⟩,
        ⟨(some 44), .bin .sub (.t 42) (.t 43), none⟩,
        ⟨(some 45), .bin .lss (.t 44) (.c (.int .i64 50)), none⟩]) <|
     .cond (.t 45)
      (.seq
       (.region [⟨(some 8), .mov (.c (.bool false)), none⟩]) <|
       .ret)
      (.skip)) <|
    .seq
    (.draw false [0, 1, 2, 3, 9, 10] (
       .op ⟨(some 46), .mov (.t 0), none⟩ <|
       .op ⟨(some 47), .mov (.t 9), none⟩ <|
       .op ⟨(some 48), .mov (.t 0), none⟩ <|
       .op ⟨(some 49), .mov (.t 9), none⟩ <|
       .op ⟨(some 50), .bin .sub (.t 49) (.c (.int .i64 1)), none⟩ <|
       .op ⟨(some 51), .mov (.t 0), none⟩ <|
       .op ⟨(some 52), .mov (.t 9), none⟩ <|
       .op ⟨(some 53), .bin .sub (.t 52) (.c (.int .i64 1)), none⟩ <|
       .op ⟨(some 54), .iaddr 3 (.t 51) (.t 53), none⟩ <|
       .op ⟨(some 55), .load true 3 (.t 54), none⟩ <|
       .op ⟨(some 56), .mov (.t 0), none⟩ <|
       .op ⟨(some 57), .mov (.t 9), none⟩ <|
       .op ⟨(some 58), .iaddr 3 (.t 56) (.t 57), none⟩ <|
       .op ⟨(some 59), .load true 3 (.t 58), none⟩ <|
       .op ⟨(some 60), .iaddr 3 (.t 46) (.t 47), none⟩ <|
       .op ⟨none, .store 3 (.t 60) (.t 55), none⟩ <|
       .op ⟨(some 61), .iaddr 3 (.t 48) (.t 50), none⟩ <|
       .op ⟨none, .store 3 (.t 61) (.t 59), none⟩ <|
       .done)) <|
    .seq
    (.seq
     (.region [⟨(some 62), .mov (.t 9), none⟩,
        ⟨(some 63), .mov (.t 1), none⟩,
        ⟨(some 64), .bin .sub (.t 62) (.t 63), none⟩,
        ⟨(some 65), .bin .geq (.t 64) (.c (.int .i64 2)), none⟩]) <|
     .cond (.t 65)
      (.seq
       (.region [⟨(some 66), .mov (.t 9), none⟩,
          ⟨(some 67), .bin .sub (.t 66) (.c (.int .i64 1)), none⟩,
          ⟨(some 11), .mov (.t 67), none⟩]) <|
       .block 4 <|
       .loop [0, 1, 2, 3, 9, 10, 11] <|
        .seq
        (.seq
         (.region [⟨(some 68), .mov (.t 11), none⟩,
            ⟨(some 69), .bin .geq (.t 68) (.c (.int .i64 1)), none⟩]) <|
         .cond (.t 69)
          (.skip)
          (.exit 4)) <|
        .seq
        (.block 5 <|
         .seq
         (.seq
          (.draw false [0, 1, 2, 3, 9, 10, 11, 84] (
             .op ⟨(some 72), .mov (.t 3), none⟩ <|
             .op ⟨(some 73), .mov (.t 0), none⟩ <|
             .op ⟨(some 74), .mov (.t 11), none⟩ <|
             .op ⟨(some 75), .iaddr 3 (.t 73) (.t 74), none⟩ <|
             .op ⟨(some 76), .load true 3 (.t 75), none⟩ <|
             .op ⟨(some 77), .mov (.t 0), none⟩ <|
             .op ⟨(some 78), .mov (.t 11), none⟩ <|
             .op ⟨(some 79), .bin .sub (.t 78) (.c (.int .i64 1)), none⟩ <|
             .op ⟨(some 80), .iaddr 3 (.t 77) (.t 79), none⟩ <|
             .op ⟨(some 81), .load true 3 (.t 80), none⟩ <|
             .op ⟨(some 82), .call (.t 72) [(.t 76), (.t 81)], none⟩ <|
             .op ⟨(some 83), .bin .lss (.t 82) (.c (.int .i64 0)), none⟩ <|
             .op ⟨(some 84), .un .not (.t 83), none⟩ <|
             .done)) <|
          .cond (.t 84)
           (.exit 4)
           (.skip)) <|
         .draw false [0, 1, 2, 3, 9, 10, 11] (
           .op ⟨(some 85), .mov (.t 0), none⟩ <|
           .op ⟨(some 86), .mov (.t 11), none⟩ <|
           .op ⟨(some 87), .mov (.t 0), none⟩ <|
           .op ⟨(some 88), .mov (.t 11), none⟩ <|
           .op ⟨(some 89), .bin .sub (.t 88) (.c (.int .i64 1)), none⟩ <|
           .op ⟨(some 90), .mov (.t 0), none⟩ <|
           .op ⟨(some 91), .mov (.t 11), none⟩ <|
           .op ⟨(some 92), .bin .sub (.t 91) (.c (.int .i64 1)), none⟩ <|
           .op ⟨(some 93), .iaddr 3 (.t 90) (.t 92), none⟩ <|
           .op ⟨(some 94), .load true 3 (.t 93), none⟩ <|
           .op ⟨(some 95), .mov (.t 0), none⟩ <|
           .op ⟨(some 96), .mov (.t 11), none⟩ <|
           .op ⟨(some 97), .iaddr 3 (.t 95) (.t 96), none⟩ <|
           .op ⟨(some 98), .load true 3 (.t 97), none⟩ <|
           .op ⟨(some 99), .iaddr 3 (.t 85) (.t 86), none⟩ <|
           .op ⟨none, .store 3 (.t 99) (.t 94), none⟩ <|
           .op ⟨(some 100), .iaddr 3 (.t 87) (.t 89), none⟩ <|
           .op ⟨none, .store 3 (.t 100) (.t 98), none⟩ <|
           .done)) <|
        .region [⟨(some 70), .mov (.t 11), none⟩,
          ⟨(some 71), .bin .sub (.t 70) (.c (.int .i64 1)), none⟩,
          ⟨(some 11), .mov (.t 71), none⟩])
      (.skip)) <|
    .seq
    (.region [⟨(some 101), .mov (.t 2), none⟩,
       ⟨(some 102), .mov (.t 9), none⟩,
       ⟨(some 103), .bin .sub (.t 101) (.t 102), none⟩,
       ⟨(some 104), .bin .geq (.t 103) (.c (.int .i64 2)), none⟩]) <|
    .cond (.t 104)
     (.seq
      (.region [⟨(some 105), .mov (.t 9), none⟩,
         ⟨(some 106), .bin .add (.t 105) (.c (.int .i64 1)), none⟩,
         ⟨(some 12), .mov (.t 106), none⟩]) <|
      .block 6 <|
      .loop [0, 1, 2, 3, 9, 10, 12] <|
       .seq
       (.seq
        (.region [⟨(some 107), .mov (.t 12), none⟩,
           ⟨(some 108), .mov (.t 2), none⟩,
           ⟨(some 109), .bin .lss (.t 107) (.t 108), none⟩]) <|
        .cond (.t 109)
         (.skip)
         (.exit 6)) <|
       .seq
       (.block 7 <|
        .seq
        (.seq
         (.draw false [0, 1, 2, 3, 9, 10, 12, 124] (
            .op ⟨(some 112), .mov (.t 3), none⟩ <|
            .op ⟨(some 113), .mov (.t 0), none⟩ <|
            .op ⟨(some 114), .mov (.t 12), none⟩ <|
            .op ⟨(some 115), .iaddr 3 (.t 113) (.t 114), none⟩ <|
            .op ⟨(some 116), .load true 3 (.t 115), none⟩ <|
            .op ⟨(some 117), .mov (.t 0), none⟩ <|
            .op ⟨(some 118), .mov (.t 12), none⟩ <|
            .op ⟨(some 119), .bin .sub (.t 118) (.c (.int .i64 1)), none⟩ <|
            .op ⟨(some 120), .iaddr 3 (.t 117) (.t 119), none⟩ <|
            .op ⟨(some 121), .load true 3 (.t 120), none⟩ <|
            .op ⟨(some 122), .call (.t 112) [(.t 116), (.t 121)], none⟩ <|
            .op ⟨(some 123), .bin .lss (.t 122) (.c (.int .i64 0)), none⟩ <|
            .op ⟨(some 124), .un .not (.t 123), none⟩ <|
            .done)) <|
         .cond (.t 124)
          (.exit 6)
          (.skip)) <|
        .draw false [0, 1, 2, 3, 9, 10, 12] (
          .op ⟨(some 125), .mov (.t 0), none⟩ <|
          .op ⟨(some 126), .mov (.t 12), none⟩ <|
          .op ⟨(some 127), .mov (.t 0), none⟩ <|
          .op ⟨(some 128), .mov (.t 12), none⟩ <|
          .op ⟨(some 129), .bin .sub (.t 128) (.c (.int .i64 1)), none⟩ <|
          .op ⟨(some 130), .mov (.t 0), none⟩ <|
          .op ⟨(some 131), .mov (.t 12), none⟩ <|
          .op ⟨(some 132), .bin .sub (.t 131) (.c (.int .i64 1)), none⟩ <|
          .op ⟨(some 133), .iaddr 3 (.t 130) (.t 132), none⟩ <|
          .op ⟨(some 134), .load true 3 (.t 133), none⟩ <|
          .op ⟨(some 135), .mov (.t 0), none⟩ <|
          .op ⟨(some 136), .mov (.t 12), none⟩ <|
          .op ⟨(some 137), .iaddr 3 (.t 135) (.t 136), none⟩ <|
          .op ⟨(some 138), .load true 3 (.t 137), none⟩ <|
          .op ⟨(some 139), .iaddr 3 (.t 125) (.t 126), none⟩ <|
          .op ⟨none, .store 3 (.t 139) (.t 134), none⟩ <|
          .op ⟨(some 140), .iaddr 3 (.t 127) (.t 129), none⟩ <|
          .op ⟨none, .store 3 (.t 140) (.t 138), none⟩ <|
          .done)) <|
       .region [⟨(some 110), .mov (.t 12), none⟩,
         ⟨(some 111), .bin .add (.t 110) (.c (.int .i64 1)), none⟩,
         ⟨(some 12), .mov (.t 111), none⟩])
     (.skip)) <|
   .region [⟨(some 17), .mov (.t 10), none⟩,
     ⟨(some 18), .bin .add (.t 17) (.c (.int .i64 1)), none⟩,
     ⟨(some 10), .mov (.t 18), none⟩]) <|
 .seq
 (.region [⟨(some 8), .mov (.c (.bool false)), none⟩]) <|
 .ret, [.slot 8]⟩
theorem c61 : Code1 Try.prog 61 141 b61 := Code1.mk' Try.func61 (by kernel_rfl) (by kernel_rfl) Try.ntmps61

/-- slices.partitionEqualCmpFunc[fusee/span.edge] -/
def b62 : IFn := ⟨
 .seq
 (.region [⟨(some 10), .mov (.c (.int .i64 0)), none⟩]) <|
 .seq
 (.draw false [0, 1, 2, 4] (
    .op ⟨(some 13), .mov (.t 0), none⟩ <|
    .op ⟨(some 14), .mov (.t 1), none⟩ <|
    .op ⟨(some 15), .mov (.t 0), none⟩ <|
    .op ⟨(some 16), .mov (.t 3), none⟩ <|
    .op ⟨(some 17), .mov (.t 0), none⟩ <|
    .op ⟨(some 18), .mov (.t 3), none⟩ <|
    .op ⟨(some 19), .iaddr 3 (.t 17) (.t 18), none⟩ <|
    .op ⟨(some 20), .load true 3 (.t 19), none⟩ <|
    .op ⟨(some 21), .mov (.t 0), none⟩ <|
    .op ⟨(some 22), .mov (.t 1), none⟩ <|
    .op ⟨(some 23), .iaddr 3 (.t 21) (.t 22), none⟩ <|
    .op ⟨(some 24), .load true 3 (.t 23), none⟩ <|
    .op ⟨(some 25), .iaddr 3 (.t 13) (.t 14), none⟩ <|
    .op ⟨none, .store 3 (.t 25) (.t 20), none⟩ <|
    .op ⟨(some 26), .iaddr 3 (.t 15) (.t 16), none⟩ <|
    .op ⟨none, .store 3 (.t 26) (.t 24), none⟩ <|
    .done)) <|
 .seq
 (.region [⟨(some 27), .mov (.t 1), none⟩,
    ⟨(some 28), .bin .add (.t 27) (.c (.int .i64 1)), none⟩,
    ⟨(some 29), .mov (.t 2), none⟩,
    ⟨(some 30), .bin .sub (.t 29) (.c (.int .i64 1)), none⟩,
    ⟨(some 11), .mov (.t 28), none⟩,
    ⟨(some 12), .mov (.t 30), none⟩]) <|
 .seq
 (.block 0 <|
  .loop [0, 1, 4, 11, 12] <|
   .block 1 <|
   .seq
   (.block 2 <|
    .loop [0, 1, 4, 11, 12] <|
     .seq
     (.seq
      (.draw false [0, 1, 4, 11, 12, 47] (
         .op ⟨(some 31), .mov (.t 11), none⟩ <|
         .op ⟨(some 32), .mov (.t 12), none⟩ <|
         .op ⟨(some 33), .bin .leq (.t 31) (.t 32), none⟩ <|
         .op ⟨(some 34), .mov (.t 33), none⟩ <|
         .op ⟨(some 35), .mov (.t 4), (some (34, true))⟩ <|
         .op ⟨(some 36), .mov (.t 0), (some (34, true))⟩ <|
         .op ⟨(some 37), .mov (.t 1), (some (34, true))⟩ <|
         .op ⟨(some 38), .iaddr 3 (.t 36) (.t 37), (some (34, true))⟩ <|
         .op ⟨(some 39), .load true 3 (.t 38), (some (34, true))⟩ <|
         .op ⟨(some 40), .mov (.t 0), (some (34, true))⟩ <|
         .op ⟨(some 41), .mov (.t 11), (some (34, true))⟩ <|
         .op ⟨(some 42), .iaddr 3 (.t 40) (.t 41), (some (34, true))⟩ <|
         .op ⟨(some 43), .load true 3 (.t 42), (some (34, true))⟩ <|
         .op ⟨(some 44), .call (.t 35) [(.t 39), (.t 43)], (some (34, true))⟩ <|
         .op ⟨(some 45), .bin .lss (.t 44) (.c (.int .i64 0)), (some (34, true))⟩ <|
         .op ⟨(some 46), .un .not (.t 45), (some (34, true))⟩ <|
         .op ⟨(some 47), .pick (.t 34) (.t 46) (.c (.bool false)), none⟩ <|
         .done)) <|
      .cond (.t 47)
       (.skip)
       (.exit 2)) <|
     .block 3 <|
     .region [⟨(some 48), .mov (.t 11), none⟩,
       ⟨(some 49), .bin .add (.t 48) (.c (.int .i64 1)), none⟩,
       ⟨(some 11), .mov (.t 49), none⟩]) <|
   .seq
   (.block 4 <|
    .loop [0, 1, 4, 11, 12] <|
     .seq
     (.seq
      (.draw false [0, 1, 4, 11, 12, 65] (
         .op ⟨(some 50), .mov (.t 11), none⟩ <|
         .op ⟨(some 51), .mov (.t 12), none⟩ <|
         .op ⟨(some 52), .bin .leq (.t 50) (.t 51), none⟩ <|
         .op ⟨(some 53), .mov (.t 52), none⟩ <|
         .op ⟨(some 54), .mov (.t 4), (some (53, true))⟩ <|
         .op ⟨(some 55), .mov (.t 0), (some (53, true))⟩ <|
         .op ⟨(some 56), .mov (.t 1), (some (53, true))⟩ <|
         .op ⟨(some 57), .iaddr 3 (.t 55) (.t 56), (some (53, true))⟩ <|
         .op ⟨(some 58), .load true 3 (.t 57), (some (53, true))⟩ <|
         .op ⟨(some 59), .mov (.t 0), (some (53, true))⟩ <|
         .op ⟨(some 60), .mov (.t 12), (some (53, true))⟩ <|
         .op ⟨(some 61), .iaddr 3 (.t 59) (.t 60), (some (53, true))⟩ <|
         .op ⟨(some 62), .load true 3 (.t 61), (some (53, true))⟩ <|
         .op ⟨(some 63), .call (.t 54) [(.t 58), (.t 62)], (some (53, true))⟩ <|
         .op ⟨(some 64), .bin .lss (.t 63) (.c (.int .i64 0)), (some (53, true))⟩ <|
         .op ⟨(some 65), .pick (.t 53) (.t 64) (.c (.bool false)), none⟩ <|
         .done)) <|
      .cond (.t 65)
       (.skip)
       (.exit 4)) <|
     .block 5 <|
     .region [⟨(some 66), .mov (.t 12), none⟩,
       ⟨(some 67), .bin .sub (.t 66) (.c (.int .i64 1)), none⟩,
       ⟨(some 12), .mov (.t 67), none⟩]) <|
   .seq
   (.seq
    (.region [⟨(some 68), .mov (.t 11), none⟩,
       ⟨(some 69), .mov (.t 12), none⟩,
       ⟨(some 70), .bin .gtr (.t 68) (.t 69), none⟩]) <|
    .cond (.t 70)
     (.exit 0)
     (.skip)) <|
   .seq
   (.draw false [0, 1, 4, 11, 12] (
      .op ⟨(some 71), .mov (.t 0), none⟩ <|
      .op ⟨(some 72), .mov (.t 11), none⟩ <|
      .op ⟨(some 73), .mov (.t 0), none⟩ <|
      .op ⟨(some 74), .mov (.t 12), none⟩ <|
      .op ⟨(some 75), .mov (.t 0), none⟩ <|
      .op ⟨(some 76), .mov (.t 12), none⟩ <|
      .op ⟨(some 77), .iaddr 3 (.t 75) (.t 76), none⟩ <|
      .op ⟨(some 78), .load true 3 (.t 77), none⟩ <|
      .op ⟨(some 79), .mov (.t 0), none⟩ <|
      .op ⟨(some 80), .mov (.t 11), none⟩ <|
      .op ⟨(some 81), .iaddr 3 (.t 79) (.t 80), none⟩ <|
      .op ⟨(some 82), .load true 3 (.t 81), none⟩ <|
      .op ⟨(some 83), .iaddr 3 (.t 71) (.t 72), none⟩ <|
      .op ⟨none, .store 3 (.t 83) (.t 78), none⟩ <|
      .op ⟨(some 84), .iaddr 3 (.t 73) (.t 74), none⟩ <|
      .op ⟨none, .store 3 (.t 84) (.t 82), none⟩ <|
      .done)) <|
   .seq
   (.region [⟨(some 85), .mov (.t 11), none⟩,
      ⟨(some 86), .bin .add (.t 85) (.c (.int .i64 1)), none⟩,
      ⟨(some 11), .mov (.t 86), none⟩]) <|
   .region [⟨(some 87), .mov (.t 12), none⟩,
     ⟨(some 88), .bin .sub (.t 87) (.c (.int .i64 1)), none⟩,
     ⟨(some 12), .mov (.t 88), none⟩]) <|
 .seq
 (.region [⟨(some 89), .mov (.t 11), none⟩,
    ⟨(some 10), .mov (.t 89), none⟩]) <|
 .ret, [.slot 10]⟩
theorem c62 : Code1 Try.prog 62 90 b62 := Code1.mk' Try.func62 (by kernel_rfl) (by kernel_rfl) Try.ntmps62

/-- slices.partitionCmpFunc[fusee/span.edge] -/
def b63 : IFn := ⟨
 .seq
 (.region [⟨(some 10), .mov (.c (.int .i64 0)), none⟩,
    ⟨(some 11), .mov (.c (.bool false)), none⟩]) <|
 .seq
 (.draw false [0, 1, 2, 4] (
    .op ⟨(some 14), .mov (.t 0), none⟩ <|
    .op ⟨(some 15), .mov (.t 1), none⟩ <|
    .op ⟨(some 16), .mov (.t 0), none⟩ <|
    .op ⟨(some 17), .mov (.t 3), none⟩ <|
    .op ⟨(some 18), .mov (.t 0), none⟩ <|
    .op ⟨(some 19), .mov (.t 3), none⟩ <|
    .op ⟨(some 20), .iaddr 3 (.t 18) (.t 19), none⟩ <|
    .op ⟨(some 21), .load true 3 (.t 20), none⟩ <|
    .op ⟨(some 22), .mov (.t 0), none⟩ <|
    .op ⟨(some 23), .mov (.t 1), none⟩ <|
    .op ⟨(some 24), .iaddr 3 (.t 22) (.t 23), none⟩ <|
    .op ⟨(some 25), .load true 3 (.t 24), none⟩ <|
    .op ⟨(some 26), .iaddr 3 (.t 14) (.t 15), none⟩ <|
    .op ⟨none, .store 3 (.t 26) (.t 21), none⟩ <|
    .op ⟨(some 27), .iaddr 3 (.t 16) (.t 17), none⟩ <|
    .op ⟨none, .store 3 (.t 27) (.t 25), none⟩ <|
    .done)) <|
 .seq
 (.region [⟨(some 28), .mov (.t 1), none⟩,
    ⟨(some 29), .bin .add (.t 28) (.c (.int .i64 1)), none⟩,
    ⟨(some 30), .mov (.t 2), none⟩,
    ⟨(some 31), .bin .sub (.t 30) (.c (.int .i64 1)), none⟩,
    ⟨(some 12), .mov (.t 29), none⟩,
    ⟨(some 13), .mov (.t 31), none⟩]) <|
 .seq
 (.block 0 <|
  .loop [0, 1, 4, 12, 13] <|
   .seq
   (.seq
    (.draw false [0, 1, 4, 12, 13, 47] (
       .op ⟨(some 32), .mov (.t 12), none⟩ <|
       .op ⟨(some 33), .mov (.t 13), none⟩ <|
       .op ⟨(some 34), .bin .leq (.t 32) (.t 33), none⟩ <|
       .op ⟨(some 35), .mov (.t 34), none⟩ <|
       .op ⟨(some 36), .mov (.t 4), (some (35, true))⟩ <|
       .op ⟨(some 37), .mov (.t 0), (some (35, true))⟩ <|
       .op ⟨(some 38), .mov (.t 12), (some (35, true))⟩ <|
       .op ⟨(some 39), .iaddr 3 (.t 37) (.t 38), (some (35, true))⟩ <|
       .op ⟨(some 40), .load true 3 (.t 39), (some (35, true))⟩ <|
       .op ⟨(some 41), .mov (.t 0), (some (35, true))⟩ <|
       .op ⟨(some 42), .mov (.t 1), (some (35, true))⟩ <|
       .op ⟨(some 43), .iaddr 3 (.t 41) (.t 42), (some (35, true))⟩ <|
       .op ⟨(some 44), .load true 3 (.t 43), (some (35, true))⟩ <|
       .op ⟨(some 45), .call (.t 36) [(.t 40), (.t 44)], (some (35, true))⟩ <|
       .op ⟨(some 46), .bin .lss (.t 45) (.c (.int .i64 0)), (some (35, true))⟩ <|
       .op ⟨(some 47), .pick (.t 35) (.t 46) (.c (.bool false)), none⟩ <|
       .done)) <|
    .cond (.t 47)
     (.skip)
     (.exit 0)) <|
   .block 1 <|
   .region [⟨(some 48), .mov (.t 12), none⟩,
     ⟨(some 49), .bin .add (.t 48) (.c (.int .i64 1)), none⟩,
     ⟨(some 12), .mov (.t 49), none⟩]) <|
 .seq
 (.block 2 <|
  .loop [0, 1, 4, 12, 13] <|
   .seq
   (.seq
    (.draw false [0, 1, 4, 12, 13, 66] (
       .op ⟨(some 50), .mov (.t 12), none⟩ <|
       .op ⟨(some 51), .mov (.t 13), none⟩ <|
       .op ⟨(some 52), .bin .leq (.t 50) (.t 51), none⟩ <|
       .op ⟨(some 53), .mov (.t 52), none⟩ <|
       .op ⟨(some 54), .mov (.t 4), (some (53, true))⟩ <|
       .op ⟨(some 55), .mov (.t 0), (some (53, true))⟩ <|
       .op ⟨(some 56), .mov (.t 13), (some (53, true))⟩ <|
       .op ⟨(some 57), .iaddr 3 (.t 55) (.t 56), (some (53, true))⟩ <|
       .op ⟨(some 58), .load true 3 (.t 57), (some (53, true))⟩ <|
       .op ⟨(some 59), .mov (.t 0), (some (53, true))⟩ <|
       .op ⟨(some 60), .mov (.t 1), (some (53, true))⟩ <|
       .op ⟨(some 61), .iaddr 3 (.t 59) (.t 60), (some (53, true))⟩ <|
       .op ⟨(some 62), .load true 3 (.t 61), (some (53, true))⟩ <|
       .op ⟨(some 63), .call (.t 54) [(.t 58), (.t 62)], (some (53, true))⟩ <|
       .op ⟨(some 64), .bin .lss (.t 63) (.c (.int .i64 0)), (some (53, true))⟩ <|
       .op ⟨(some 65), .un .not (.t 64), (some (53, true))⟩ <|
       .op ⟨(some 66), .pick (.t 53) (.t 65) (.c (.bool false)), none⟩ <|
       .done)) <|
    .cond (.t 66)
     (.skip)
     (.exit 2)) <|
   .block 3 <|
   .region [⟨(some 67), .mov (.t 13), none⟩,
     ⟨(some 68), .bin .sub (.t 67) (.c (.int .i64 1)), none⟩,
     ⟨(some 13), .mov (.t 68), none⟩]) <|
 .seq
 (.seq
  (.region [⟨(some 69), .mov (.t 12), none⟩,
     ⟨(some 70), .mov (.t 13), none⟩,
     ⟨(some 71), .bin .gtr (.t 69) (.t 70), none⟩]) <|
  .cond (.t 71)
   (.seq
    (.draw false [13] (
       .op ⟨(some 72), .mov (.t 0), none⟩ <|
       .op ⟨(some 73), .mov (.t 13), none⟩ <|
       .op ⟨(some 74), .mov (.t 0), none⟩ <|
       .op ⟨(some 75), .mov (.t 1), none⟩ <|
       .op ⟨(some 76), .mov (.t 0), none⟩ <|
       .op ⟨(some 77), .mov (.t 1), none⟩ <|
       .op ⟨(some 78), .iaddr 3 (.t 76) (.t 77), none⟩ <|
       .op ⟨(some 79), .load true 3 (.t 78), none⟩ <|
       .op ⟨(some 80), .mov (.t 0), none⟩ <|
       .op ⟨(some 81), .mov (.t 13), none⟩ <|
       .op ⟨(some 82), .iaddr 3 (.t 80) (.t 81), none⟩ <|
       .op ⟨(some 83), .load true 3 (.t 82), none⟩ <|
       .op ⟨(some 84), .iaddr 3 (.t 72) (.t 73), none⟩ <|
       .op ⟨none, .store 3 (.t 84) (.t 79), none⟩ <|
       .op ⟨(some 85), .iaddr 3 (.t 74) (.t 75), none⟩ <|
       .op ⟨none, .store 3 (.t 85) (.t 83), none⟩ <|
       .done)) <|
    .seq
    (.region [⟨(some 86), .mov (.t 13), none⟩,
       ⟨(some 10), .mov (.t 86), none⟩,
       ⟨(some 11), .mov (.c (.bool true)), none⟩]) <|
    .ret)
   (.skip)) <|
 .seq
 (.draw false [0, 1, 4, 12, 13] (
    .op ⟨(some 87), .mov (.t 0), none⟩ <|
    .op ⟨(some 88), .mov (.t 12), none⟩ <|
    .op ⟨(some 89), .mov (.t 0), none⟩ <|
    .op ⟨(some 90), .mov (.t 13), none⟩ <|
    .op ⟨(some 91), .mov (.t 0), none⟩ <|
    .op ⟨(some 92), .mov (.t 13), none⟩ <|
    .op ⟨(some 93), .iaddr 3 (.t 91) (.t 92), none⟩ <|
    .op ⟨(some 94), .load true 3 (.t 93), none⟩ <|
    .op ⟨(some 95), .mov (.t 0), none⟩ <|
    .op ⟨(some 96), .mov (.t 12), none⟩ <|
    .op ⟨(some 97), .iaddr 3 (.t 95) (.t 96), none⟩ <|
    .op ⟨(some 98), .load true 3 (.t 97), none⟩ <|
    .op ⟨(some 99), .iaddr 3 (.t 87) (.t 88), none⟩ <|
    .op ⟨none, .store 3 (.t 99) (.t 94), none⟩ <|
    .op ⟨(some 100), .iaddr 3 (.t 89) (.t 90), none⟩ <|
    .op ⟨none, .store 3 (.t 100) (.t 98), none⟩ <|
    .done)) <|
 .seq
 (.region [⟨(some 101), .mov (.t 12), none⟩,
    ⟨(some 102), .bin .add (.t 101) (.c (.int .i64 1)), none⟩,
    ⟨(some 12), .mov (.t 102), none⟩]) <|
 .seq
 (.region [⟨(some 103), .mov (.t 13), none⟩,
    ⟨(some 104), .bin .sub (.t 103) (.c (.int .i64 1)), none⟩,
    ⟨(some 13), .mov (.t 104), none⟩]) <|
 .seq
 (.block 4 <|
  .loop [0, 1, 4, 12, 13] <|
   .block 5 <|
   .seq
   (.block 6 <|
    .loop [0, 1, 4, 12, 13] <|
     .seq
     (.seq
      (.draw false [0, 1, 4, 12, 13, 120] (
         .op ⟨(some 105), .mov (.t 12), none⟩ <|
         .op ⟨(some 106), .mov (.t 13), none⟩ <|
         .op ⟨(some 107), .bin .leq (.t 105) (.t 106), none⟩ <|
         .op ⟨(some 108), .mov (.t 107), none⟩ <|
         .op ⟨(some 109), .mov (.t 4), (some (108, true))⟩ <|
         .op ⟨(some 110), .mov (.t 0), (some (108, true))⟩ <|
         .op ⟨(some 111), .mov (.t 12), (some (108, true))⟩ <|
         .op ⟨(some 112), .iaddr 3 (.t 110) (.t 111), (some (108, true))⟩ <|
         .op ⟨(some 113), .load true 3 (.t 112), (some (108, true))⟩ <|
         .op ⟨(some 114), .mov (.t 0), (some (108, true))⟩ <|
         .op ⟨(some 115), .mov (.t 1), (some (108, true))⟩ <|
         .op ⟨(some 116), .iaddr 3 (.t 114) (.t 115), (some (108, true))⟩ <|
         .op ⟨(some 117), .load true 3 (.t 116), (some (108, true))⟩ <|
         .op ⟨(some 118), .call (.t 109) [(.t 113), (.t 117)], (some (108, true))⟩ <|
         .op ⟨(some 119), .bin .lss (.t 118) (.c (.int .i64 0)), (some (108, true))⟩ <|
         .op ⟨(some 120), .pick (.t 108) (.t 119) (.c (.bool false)), none⟩ <|
         .done)) <|
      .cond (.t 120)
       (.skip)
       (.exit 6)) <|
     .block 7 <|
     .region [⟨(some 121), .mov (.t 12), none⟩,
       ⟨(some 122), .bin .add (.t 121) (.c (.int .i64 1)), none⟩,
       ⟨(some 12), .mov (.t 122), none⟩]) <|
   .seq
   (.block 8 <|
    .loop [0, 1, 4, 12, 13] <|
     .seq
     (.seq
      (.draw false [0, 1, 4, 12, 13, 139] (
         .op ⟨(some 123), .mov (.t 12), none⟩ <|
         .op ⟨(some 124), .mov (.t 13), none⟩ <|
         .op ⟨(some 125), .bin .leq (.t 123) (.t 124), none⟩ <|
         .op ⟨(some 126), .mov (.t 125), none⟩ <|
         .op ⟨(some 127), .mov (.t 4), (some (126, true))⟩ <|
         .op ⟨(some 128), .mov (.t 0), (some (126, true))⟩ <|
         .op ⟨(some 129), .mov (.t 13), (some (126, true))⟩ <|
         .op ⟨(some 130), .iaddr 3 (.t 128) (.t 129), (some (126, true))⟩ <|
         .op ⟨(some 131), .load true 3 (.t 130), (some (126, true))⟩ <|
         .op ⟨(some 132), .mov (.t 0), (some (126, true))⟩ <|
         .op ⟨(some 133), .mov (.t 1), (some (126, true))⟩ <|
         .op ⟨(some 134), .iaddr 3 (.t 132) (.t 133), (some (126, true))⟩ <|
         .op ⟨(some 135), .load true 3 (.t 134), (some (126, true))⟩ <|
         .op ⟨(some 136), .call (.t 127) [(.t 131), (.t 135)], (some (126, true))⟩ <|
         .op ⟨(some 137), .bin .lss (.t 136) (.c (.int .i64 0)), (some (126, true))⟩ <|
         .op ⟨(some 138), .un .not (.t 137), (some (126, true))⟩ <|
         .op ⟨(some 139), .pick (.t 126) (.t 138) (.c (.bool false)), none⟩ <|
         .done)) <|
      .cond (.t 139)
       (.skip)
       (.exit 8)) <|
     .block 9 <|
     .region [⟨(some 140), .mov (.t 13), none⟩,
       ⟨(some 141), .bin .sub (.t 140) (.c (.int .i64 1)), none⟩,
       ⟨(some 13), .mov (.t 141), none⟩]) <|
   .seq
   (.seq
    (.region [⟨(some 142), .mov (.t 12), none⟩,
       ⟨(some 143), .mov (.t 13), none⟩,
       ⟨(some 144), .bin .gtr (.t 142) (.t 143), none⟩]) <|
    .cond (.t 144)
     (.exit 4)
     (.skip)) <|
   .seq
   (.draw false [0, 1, 4, 12, 13] (
      .op ⟨(some 145), .mov (.t 0), none⟩ <|
      .op ⟨(some 146), .mov (.t 12), none⟩ <|
      .op ⟨(some 147), .mov (.t 0), none⟩ <|
      .op ⟨(some 148), .mov (.t 13), none⟩ <|
      .op ⟨(some 149), .mov (.t 0), none⟩ <|
      .op ⟨(some 150), .mov (.t 13), none⟩ <|
      .op ⟨(some 151), .iaddr 3 (.t 149) (.t 150), none⟩ <|
      .op ⟨(some 152), .load true 3 (.t 151), none⟩ <|
      .op ⟨(some 153), .mov (.t 0), none⟩ <|
      .op ⟨(some 154), .mov (.t 12), none⟩ <|
      .op ⟨(some 155), .iaddr 3 (.t 153) (.t 154), none⟩ <|
      .op ⟨(some 156), .load true 3 (.t 155), none⟩ <|
      .op ⟨(some 157), .iaddr 3 (.t 145) (.t 146), none⟩ <|
      .op ⟨none, .store 3 (.t 157) (.t 152), none⟩ <|
      .op ⟨(some 158), .iaddr 3 (.t 147) (.t 148), none⟩ <|
      .op ⟨none, .store 3 (.t 158) (.t 156), none⟩ <|
      .done)) <|
   .seq
   (.region [⟨(some 159), .mov (.t 12), none⟩,
      ⟨(some 160), .bin .add (.t 159) (.c (.int .i64 1)), none⟩,
      ⟨(some 12), .mov (.t 160), none⟩]) <|
   .region [⟨(some 161), .mov (.t 13), none⟩,
     ⟨(some 162), .bin .sub (.t 161) (.c (.int .i64 1)), none⟩,
     ⟨(some 13), .mov (.t 162), none⟩]) <|
 .seq
 (.draw false [13] (
    .op ⟨(some 163), .mov (.t 0), none⟩ <|
    .op ⟨(some 164), .mov (.t 13), none⟩ <|
    .op ⟨(some 165), .mov (.t 0), none⟩ <|
    .op ⟨(some 166), .mov (.t 1), none⟩ <|
    .op ⟨(some 167), .mov (.t 0), none⟩ <|
    .op ⟨(some 168), .mov (.t 1), none⟩ <|
    .op ⟨(some 169), .iaddr 3 (.t 167) (.t 168), none⟩ <|
    .op ⟨(some 170), .load true 3 (.t 169), none⟩ <|
    .op ⟨(some 171), .mov (.t 0), none⟩ <|
    .op ⟨(some 172), .mov (.t 13), none⟩ <|
    .op ⟨(some 173), .iaddr 3 (.t 171) (.t 172), none⟩ <|
    .op ⟨(some 174), .load true 3 (.t 173), none⟩ <|
    .op ⟨(some 175), .iaddr 3 (.t 163) (.t 164), none⟩ <|
    .op ⟨none, .store 3 (.t 175) (.t 170), none⟩ <|
    .op ⟨(some 176), .iaddr 3 (.t 165) (.t 166), none⟩ <|
    .op ⟨none, .store 3 (.t 176) (.t 174), none⟩ <|
    .done)) <|
 .seq
 (.region [⟨(some 177), .mov (.t 13), none⟩,
    ⟨(some 10), .mov (.t 177), none⟩,
    ⟨(some 11), .mov (.c (.bool false)), none⟩]) <|
 .ret, [.slot 10, .slot 11]⟩
theorem c63 : Code1 Try.prog 63 178 b63 := Code1.mk' Try.func63 (by kernel_rfl) (by kernel_rfl) Try.ntmps63

/-- slices.siftDownCmpFunc[fusee/span.edge] -/
def b64 : IFn := ⟨
 .seq
 (.region [⟨(some 12), .mov (.t 1), none⟩,
    ⟨(some 10), .mov (.t 12), none⟩]) <|
 .block 0 <|
 .loop [0, 2, 3, 4, 10] <|
  .block 1 <|
  .seq
  (.region [⟨(some 13), .mov (.t 10), none⟩,
     ⟨(some 14), .bin .mul (.c (.int .i64 2)) (.t 13), none⟩,
     ⟨(some 15), .bin .add (.t 14) (.c (.int .i64 1)), none⟩,
     ⟨(some 11), .mov (.t 15), none⟩]) <|
  .seq
  (.seq
   (.region [⟨(some 16), .mov (.t 11), none⟩,
      ⟨(some 17), .mov (.t 2), none⟩,
      ⟨(some 18), .bin .geq (.t 16) (.t 17), none⟩]) <|
   .cond (.t 18)
    (.exit 0)
    (.skip)) <|
  .seq
  (.seq
   (.draw false [0, 2, 3, 4, 10, 11, 40] (
      .op ⟨(some 19), .mov (.t 11), none⟩ <|
      .op ⟨(some 20), .bin .add (.t 19) (.c (.int .i64 1)), none⟩ <|
      .op ⟨(some 21), .mov (.t 2), none⟩ <|
      .op ⟨(some 22), .bin .lss (.t 20) (.t 21), none⟩ <|
      .op ⟨(some 23), .mov (.t 22), none⟩ <|
      .op ⟨(some 24), .mov (.t 4), (some (23, true))⟩ <|
      .op ⟨(some 25), .mov (.t 0), (some (23, true))⟩ <|
      .op ⟨(some 26), .mov (.t 3), (some (23, true))⟩ <|
      .op ⟨(some 27), .mov (.t 11), (some (23, true))⟩ <|
      .op ⟨(some 28), .bin .add (.t 26) (.t 27), (some (23, true))⟩ <|
      .op ⟨(some 29), .iaddr 3 (.t 25) (.t 28), (some (23, true))⟩ <|
      .op ⟨(some 30), .load true 3 (.t 29), (some (23, true))⟩ <|
      .op ⟨(some 31), .mov (.t 0), (some (23, true))⟩ <|
      .op ⟨(some 32), .mov (.t 3), (some (23, true))⟩ <|
      .op ⟨(some 33), .mov (.t 11), (some (23, true))⟩ <|
      .op ⟨(some 34), .bin .add (.t 32) (.t 33), (some (23, true))⟩ <|
      .op ⟨(some 35), .bin .add (.t 34) (.c (.int .i64 1)), (some (23, true))⟩ <|
      .op ⟨(some 36), .iaddr 3 (.t 31) (.t 35), (some (23, true))⟩ <|
      .op ⟨(some 37), .load true 3 (.t 36), (some (23, true))⟩ <|
      .op ⟨(some 38), .call (.t 24) [(.t 30), (.t 37)], (some (23, true))⟩ <|
      .op ⟨(some 39), .bin .lss (.t 38) (.c (.int .i64 0)), (some (23, true))⟩ <|
      .op ⟨(some 40), .pick (.t 23) (.t 39) (.c (.bool false)), none⟩ <|
      .done)) <|
   .cond (.t 40)
    (.region [⟨(some 41), .mov (.t 11), none⟩,
       ⟨(some 42), .bin .add (.t 41) (.c (.int .i64 1)), none⟩,
       ⟨(some 11), .mov (.t 42), none⟩])
    (.skip)) <|
  .seq
  (.seq
   (.draw false [0, 2, 3, 4, 10, 11, 58] (
      .op ⟨(some 43), .mov (.t 4), none⟩ <|
      .op ⟨(some 44), .mov (.t 0), none⟩ <|
      .op ⟨(some 45), .mov (.t 3), none⟩ <|
      .op ⟨(some 46), .mov (.t 10), none⟩ <|
      .op ⟨(some 47), .bin .add (.t 45) (.t 46), none⟩ <|
      .op ⟨(some 48), .iaddr 3 (.t 44) (.t 47), none⟩ <|
      .op ⟨(some 49), .load true 3 (.t 48), none⟩ <|
      .op ⟨(some 50), .mov (.t 0), none⟩ <|
      .op ⟨(some 51), .mov (.t 3), none⟩ <|
      .op ⟨(some 52), .mov (.t 11), none⟩ <|
      .op ⟨(some 53), .bin .add (.t 51) (.t 52), none⟩ <|
      .op ⟨(some 54), .iaddr 3 (.t 50) (.t 53), none⟩ <|
      .op ⟨(some 55), .load true 3 (.t 54), none⟩ <|
      .op ⟨(some 56), .call (.t 43) [(.t 49), (.t 55)], none⟩ <|
      .op ⟨(some 57), .bin .lss (.t 56) (.c (.int .i64 0)), none⟩ <|
      .op ⟨(some 58), .un .not (.t 57), none⟩ <|
      .done)) <|
   .cond (.t 58)
    (.ret)
    (.skip)) <|
  .seq
  (.draw false [0, 2, 3, 4, 11] (
     .op ⟨(some 59), .mov (.t 0), none⟩ <|
     .op ⟨(some 60), .mov (.t 3), none⟩ <|
     .op ⟨(some 61), .mov (.t 10), none⟩ <|
     .op ⟨(some 62), .bin .add (.t 60) (.t 61), none⟩ <|
     .op ⟨(some 63), .mov (.t 0), none⟩ <|
     .op ⟨(some 64), .mov (.t 3), none⟩ <|
     .op ⟨(some 65), .mov (.t 11), none⟩ <|
     .op ⟨(some 66), .bin .add (.t 64) (.t 65), none⟩ <|
     .op ⟨(some 67), .mov (.t 0), none⟩ <|
     .op ⟨(some 68), .mov (.t 3), none⟩ <|
     .op ⟨(some 69), .mov (.t 11), none⟩ <|
     .op ⟨(some 70), .bin .add (.t 68) (.t 69), none⟩ <|
     .op ⟨(some 71), .iaddr 3 (.t 67) (.t 70), none⟩ <|
     .op ⟨(some 72), .load true 3 (.t 71), none⟩ <|
     .op ⟨(some 73), .mov (.t 0), none⟩ <|
     .op ⟨(some 74), .mov (.t 3), none⟩ <|
     .op ⟨(some 75), .mov (.t 10), none⟩ <|
     .op ⟨(some 76), .bin .add (.t 74) (.t 75), none⟩ <|
     .op ⟨(some 77), .iaddr 3 (.t 73) (.t 76), none⟩ <|
     .op ⟨(some 78), .load true 3 (.t 77), none⟩ <|
     .op ⟨(some 79), .iaddr 3 (.t 59) (.t 62), none⟩ <|
     .op ⟨none, .store 3 (.t 79) (.t 72), none⟩ <|
     .op ⟨(some 80), .iaddr 3 (.t 63) (.t 66), none⟩ <|
     .op ⟨none, .store 3 (.t 80) (.t 78), none⟩ <|
     .done)) <|
  .region [⟨(some 81), .mov (.t 11), none⟩,
    ⟨(some 10), .mov (.t 81), none⟩], []⟩
theorem c64 : Code1 Try.prog 64 82 b64 := Code1.mk' Try.func64 (by kernel_rfl) (by kernel_rfl) Try.ntmps64

/-- slices.medianAdjacentCmpFunc[fusee/span.edge] -/
def b65 : IFn := ⟨
 .seq
 (.region [⟨(some 8), .mov (.c (.int .i64 0)), none⟩]) <|
 .seq
 (.region [⟨(some 9), .mov (.t 0), none⟩,
    ⟨(some 10), .mov (.t 1), none⟩,
    ⟨(some 11), .bin .sub (.t 10) (.c (.int .i64 1)), none⟩,
    ⟨(some 12), .mov (.t 1), none⟩,
    ⟨(some 13), .mov (.t 1), none⟩,
    ⟨(some 14), .bin .add (.t 13) (.c (.int .i64 1)), none⟩,
    ⟨(some 15), .mov (.t 2), none⟩,
    ⟨(some 16), .mov (.t 3), none⟩,
    ⟨(some 17), .call (.f 66) [(.t 9), (.t 11), (.t 12), (.t 14), (.t 15), (.t 16)], none⟩,
    ⟨(some 8), .mov (.t 17), none⟩]) <|
 .ret, [.slot 8]⟩
theorem c65 : Code1 Try.prog 65 18 b65 := Code1.mk' Try.func65 (by kernel_rfl) (by kernel_rfl) Try.ntmps65

/-- slices.medianCmpFunc[fusee/span.edge] -/
def b66 : IFn := ⟨
 .seq
 (.region [⟨(some 12), .mov (.c (.int .i64 0)), none⟩]) <|
 .seq
 (.region [⟨(some 14), .mov (.t 0), none⟩,
    ⟨(some 15), .mov (.t 1), none⟩,
    ⟨(some 16), .mov (.t 2), none⟩,
    ⟨(some 17), .mov (.t 4), none⟩,
    ⟨(some 18), .mov (.t 5), none⟩,
    ⟨(some 19), .call (.f 67) [(.t 14), (.t 15), (.t 16), (.t 17), (.t 18)], none⟩,
    ⟨(some 13), .mov (.t 19), none⟩,
    ⟨(some 20), .extract (.t 13) 0, none⟩,
    ⟨(some 21), .extract (.t 13) 1, none⟩,
    ⟨(some 1), .mov (.t 20), none⟩,
    ⟨(some 2), .mov (.t 21), none⟩]) <|
 .seq
 (.region [⟨(some 23), .mov (.t 0), none⟩,
    ⟨(some 24), .mov (.t 2), none⟩,
    ⟨(some 25), .mov (.t 3), none⟩,
    ⟨(some 26), .mov (.t 4), none⟩,
    ⟨(some 27), .mov (.t 5), none⟩,
    ⟨(some 28), .call (.f 67) [(.t 23), (.t 24), (.t 25), (.t 26), (.t 27)], none⟩,
    ⟨(some 22), .mov (.t 28), none⟩,
    ⟨(some 29), .extract (.t 22) 0, none⟩,
    ⟨(some 30), .extract (.t 22) 1, none⟩,
    ⟨(some 2), .mov (.t 29), none⟩,
    ⟨(some 3), .mov (.t 30), none⟩]) <|
 .seq
 (.region [⟨(some 32), .mov (.t 0), none⟩,
    ⟨(some 33), .mov (.t 1), none⟩,
    ⟨(some 34), .mov (.t 2), none⟩,
    ⟨(some 35), .mov (.t 4), none⟩,
    ⟨(some 36), .mov (.t 5), none⟩,
    ⟨(some 37), .call (.f 67) [(.t 32), (.t 33), (.t 34), (.t 35), (.t 36)], none⟩,
    ⟨(some 31), .mov (.t 37), none⟩,
    ⟨(some 38), .extract (.t 31) 0, none⟩,
    ⟨(some 39), .extract (.t 31) 1, none⟩,
    ⟨(some 1), .mov (.t 38), none⟩,
    ⟨(some 2), .mov (.t 39), none⟩]) <|
 .seq
 (.region [⟨(some 40), .mov (.t 2), none⟩,
    ⟨(some 12), .mov (.t 40), none⟩]) <|
 .ret, [.slot 12]⟩
theorem c66 : Code1 Try.prog 66 41 b66 := Code1.mk' Try.func66 (by kernel_rfl) (by kernel_rfl) Try.ntmps66

/-- slices.order2CmpFunc[fusee/span.edge] -/
def b67 : IFn := ⟨
 .seq
 (.region [⟨(some 10), .mov (.c (.int .i64 0)), none⟩,
    ⟨(some 11), .mov (.c (.int .i64 0)), none⟩]) <|
 .seq
 (.seq
  (.draw false [1, 2, 3, 22] (
     .op ⟨(some 12), .mov (.t 4), none⟩ <|
     .op ⟨(some 13), .mov (.t 0), none⟩ <|
     .op ⟨(some 14), .mov (.t 2), none⟩ <|
     .op ⟨(some 15), .iaddr 3 (.t 13) (.t 14), none⟩ <|
     .op ⟨(some 16), .load true 3 (.t 15), none⟩ <|
     .op ⟨(some 17), .mov (.t 0), none⟩ <|
     .op ⟨(some 18), .mov (.t 1), none⟩ <|
     .op ⟨(some 19), .iaddr 3 (.t 17) (.t 18), none⟩ <|
     .op ⟨(some 20), .load true 3 (.t 19), none⟩ <|
     .op ⟨(some 21), .call (.t 12) [(.t 16), (.t 20)], none⟩ <|
     .op ⟨(some 22), .bin .lss (.t 21) (.c (.int .i64 0)), none⟩ <|
     .done)) <|
  .cond (.t 22)
   (.seq
    (.region [⟨(some 23), .mov (.t 3), none⟩,
       ⟨(some 24), .nilck (.t 23), none⟩,
       ⟨(some 25), .load false 1 (.t 24), none⟩,
       ⟨(some 26), .bin .add (.t 25) (.c (.int .i64 1)), none⟩,
       ⟨(some 27), .nilck (.t 23), none⟩,
       ⟨none, .store 1 (.t 27) (.t 26), none⟩]) <|
    .seq
    (.region [⟨(some 28), .mov (.t 2), none⟩,
       ⟨(some 29), .mov (.t 1), none⟩,
       ⟨(some 10), .mov (.t 28), none⟩,
       ⟨(some 11), .mov (.t 29), none⟩]) <|
    .ret)
   (.skip)) <|
 .seq
 (.region [⟨(some 30), .mov (.t 1), none⟩,
    ⟨(some 31), .mov (.t 2), none⟩,
    ⟨(some 10), .mov (.t 30), none⟩,
    ⟨(some 11), .mov (.t 31), none⟩]) <|
 .ret, [.slot 10, .slot 11]⟩
theorem c67 : Code1 Try.prog 67 32 b67 := Code1.mk' Try.func67 (by kernel_rfl) (by kernel_rfl) Try.ntmps67

/-- The functions that the facts at the head of each statement call. -/
abbrev code : CodeL := [(7, 127, b7), (9, 54, b9), (10, 31, b10), (12, 19, b12), (14, 24, b14), (15, 8, b15), (16, 8, b16), (17, 8, b17), (18, 22, b18), (19, 39, b19), (20, 42, b20), (21, 8, b21), (22, 6, b22), (23, 18, b23), (24, 14, b24), (25, 10, b25), (26, 20, b26), (27, 8, b27), (28, 61, b28), (29, 9, b29), (30, 9, b30), (31, 10, b31), (32, 19, b32), (33, 148, b33), (34, 8, b34), (35, 6, b35), (36, 45, b36), (37, 53, b37), (38, 60, b38), (39, 67, b39), (40, 63, b40), (41, 34, b41), (42, 141, b42), (43, 90, b43), (44, 178, b44), (45, 19, b45), (46, 25, b46), (47, 14, b47), (48, 10, b48), (49, 82, b49), (50, 7, b50), (51, 33, b51), (52, 18, b52), (53, 41, b53), (54, 148, b54), (55, 32, b55), (56, 53, b56), (57, 60, b57), (58, 67, b58), (59, 63, b59), (60, 34, b60), (61, 141, b61), (62, 90, b62), (63, 178, b63), (64, 82, b64), (65, 18, b65), (66, 41, b66), (67, 32, b67)]
theorem codeOk : CodeOk Try.prog code := ⟨c7, c9, c10, c12, c14, c15, c16, c17, c18, c19, c20, c21, c22, c23, c24, c25, c26, c27, c28, c29, c30, c31, c32, c33, c34, c35, c36, c37, c38, c39, c40, c41, c42, c43, c44, c45, c46, c47, c48, c49, c50, c51, c52, c53, c54, c55, c56, c57, c58, c59, c60, c61, c62, c63, c64, c65, c66, c67, trivial⟩

end Go.Proofs.Ytbbfpebmiamobaa
