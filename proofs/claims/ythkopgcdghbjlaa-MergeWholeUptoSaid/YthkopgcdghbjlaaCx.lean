/-
  THE CODE of the functions of this seat, as the plain machine's; each is what the compiler makes of the program's.
-/
import Derived.Test.YthkopgcdghbjlaaChecked
import Derived.Test.YthkopgcdghbjlaaAm32
import Derived.KernelRfl
namespace Go.Proofs.Ythkopgcdghbjlaa
open Go Go.AM
set_option linter.unusedVariables false

theorem hm : Try.prog.follows .mixedOrders = true := by kernel_rfl

/-- fusee/fuseelaw45.MergeRows -/
def b3 : IFn := ⟨
 .seq
 (.region [⟨(some 2), .mov (.c (.bool false)), none⟩]) <|
 .seq
 (.seq
  (.region [⟨(some 13), .call (.f 5) [], none⟩,
     ⟨(some 14), .un .not (.t 13), none⟩]) <|
  .cond (.t 14)
   (.seq
    (.region [⟨(some 2), .mov (.c (.bool false)), none⟩]) <|
    .ret)
   (.skip)) <|
 .seq
 (.region [⟨(some 3), .mov (.c (.int .i64 0)), none⟩]) <|
 .seq
 (.region [⟨(some 15), .mov (.t 0), none⟩,
    ⟨(some 16), .len .sl (.t 15), none⟩,
    ⟨(some 17), .bin .leq (.t 16) (.c (.int .i64 64)), none⟩,
    ⟨(some 4), .mov (.t 17), none⟩]) <|
 .seq
 (.region [⟨(some 5), .mov (.c (.sl none 0 (some 0))), none⟩]) <|
 .seq
 (.seq
  (.region [⟨(some 18), .mov (.t 0), none⟩,
     ⟨(some 19), .len .sl (.t 18), none⟩,
     ⟨(some 20), .mov (.c (.int .i64 0)), none⟩]) <|
  .block 0 <|
  .loop [0, 3, 4, 5, 18, 19, 20] <|
   .seq
   (.region [⟨(some 21), .bin .lss (.t 20) (.t 19), none⟩]) <|
   .seq
   (.cond (.t 21)
     (.skip)
     (.exit 0)) <|
   .seq
   (.block 1 <|
    .seq
    (.region [⟨(some 22), .mov (.t 20), none⟩,
       ⟨(some 23), .iaddr 1 (.t 18) (.t 20), none⟩,
       ⟨(some 24), .load false 1 (.t 23), none⟩,
       ⟨(some 6), .mov (.t 22), none⟩,
       ⟨(some 7), .mov (.t 24), none⟩]) <|
    .seq
    (.seq
     (.region [⟨(some 25), .mov (.t 3), none⟩,
        ⟨(some 26), .mov (.t 7), none⟩,
        ⟨(some 27), .len .sl (.t 26), none⟩,
        ⟨(some 28), .bin .add (.t 25) (.t 27), none⟩,
        ⟨(some 3), .mov (.t 28), none⟩]) <|
     .seq
     (.region [⟨(some 29), .mov (.t 3), none⟩,
        ⟨(some 30), .bin .gtr (.t 29) (.c (.int .i64 150)), none⟩]) <|
     .cond (.t 30)
      (.seq
       (.region [⟨(some 2), .mov (.c (.bool true)), none⟩]) <|
       .ret)
      (.skip)) <|
    .seq
    (.region [⟨(some 31), .mov (.t 7), none⟩,
       ⟨(some 32), .len .sl (.t 31), none⟩,
       ⟨(some 33), .mov (.c (.int .i64 0)), none⟩]) <|
    .block 2 <|
    .loop [0, 3, 4, 5, 6, 7, 18, 19, 20, 31, 32, 33] <|
     .seq
     (.region [⟨(some 34), .bin .lss (.t 33) (.t 32), none⟩]) <|
     .seq
     (.cond (.t 34)
       (.skip)
       (.exit 2)) <|
     .seq
     (.block 3 <|
      .seq
      (.region [⟨(some 35), .mov (.t 33), none⟩,
         ⟨(some 36), .iaddr 2 (.t 31) (.t 33), none⟩,
         ⟨(some 37), .load true 2 (.t 36), none⟩,
         ⟨(some 9), .alloc [(.int .i64 0), (.int .i64 0)], none⟩,
         ⟨(some 8), .mov (.t 35), none⟩,
         ⟨none, .store 2 (.t 9) (.t 37), none⟩]) <|
      .seq
      (.draw false [0, 3, 4, 5, 6, 7, 9, 18, 19, 20, 31, 32, 33] (
         .op ⟨(some 38), .mov (.t 4), none⟩ <|
         .op ⟨(some 39), .mov (.t 38), none⟩ <|
         .op ⟨(some 40), .mov (.t 8), (some (39, true))⟩ <|
         .op ⟨(some 41), .bin .eql (.t 40) (.c (.int .i64 0)), (some (39, true))⟩ <|
         .op ⟨(some 42), .mov (.t 41), (some (39, true))⟩ <|
         .op ⟨(some 43), .mov (.t 7), (some (42, false))⟩ <|
         .op ⟨(some 44), .mov (.t 8), (some (42, false))⟩ <|
         .op ⟨(some 45), .bin .sub (.t 44) (.c (.int .i64 1)), (some (42, false))⟩ <|
         .op ⟨(some 46), .iaddr 2 (.t 43) (.t 45), (some (42, false))⟩ <|
         .op ⟨(some 47), .faddr 0 (.t 46), (some (42, false))⟩ <|
         .op ⟨(some 48), .load false 1 (.t 47), (some (42, false))⟩ <|
         .op ⟨(some 49), .faddr 0 (.t 9), (some (42, false))⟩ <|
         .op ⟨(some 50), .load false 1 (.t 49), (some (42, false))⟩ <|
         .op ⟨(some 51), .bin .leq (.t 48) (.t 50), (some (42, false))⟩ <|
         .op ⟨(some 52), .pick (.t 42) (.c (.bool true)) (.t 51), (some (39, true))⟩ <|
         .op ⟨(some 53), .pick (.t 39) (.t 52) (.c (.bool false)), none⟩ <|
         .op ⟨(some 4), .mov (.t 53), none⟩ <|
         .done)) <|
      .region [⟨(some 54), .mov (.t 5), none⟩,
        ⟨(some 55), .faddr 0 (.t 9), none⟩,
        ⟨(some 56), .load false 1 (.t 55), none⟩,
        ⟨(some 57), .faddr 1 (.t 9), none⟩,
        ⟨(some 58), .load false 1 (.t 57), none⟩,
        ⟨(some 59), .mov (.t 6), none⟩,
        ⟨(some 60), .call (.f 7) [(.t 56), (.t 58), (.t 59)], none⟩,
        ⟨(some 61), .call (.f 6) [(.t 54), (.t 60)], none⟩,
        ⟨(some 5), .mov (.t 61), none⟩]) <|
     .region [⟨(some 62), .bin .add (.t 33) (.c (.int .i64 1)), none⟩,
       ⟨(some 33), .mov (.t 62), none⟩]) <|
   .region [⟨(some 63), .bin .add (.t 20) (.c (.int .i64 1)), none⟩,
     ⟨(some 20), .mov (.t 63), none⟩]) <|
 .seq
 (.region [⟨(some 65), .mov (.t 0), none⟩,
    ⟨(some 66), .call (.f 8) [(.t 65)], none⟩,
    ⟨(some 64), .mov (.t 66), none⟩,
    ⟨(some 67), .extract (.t 64) 0, none⟩,
    ⟨(some 68), .extract (.t 64) 1, none⟩,
    ⟨(some 10), .mov (.t 67), none⟩,
    ⟨(some 11), .mov (.t 68), none⟩]) <|
 .seq
 (.seq
  (.region [⟨(some 69), .mov (.t 4), none⟩,
     ⟨(some 70), .un .not (.t 69), none⟩]) <|
  .cond (.t 70)
   (.seq
    (.region [⟨(some 71), .mov (.t 11), none⟩,
       ⟨(some 72), .bin .eql (.t 71) (.c (.int .i64 2)), none⟩,
       ⟨(some 73), .mov (.t 72), none⟩,
       ⟨(some 74), .mov (.t 10), (some (73, true))⟩,
       ⟨(some 75), .len .sl (.t 74), (some (73, true))⟩,
       ⟨(some 76), .bin .eql (.t 75) (.c (.int .i64 0)), (some (73, true))⟩,
       ⟨(some 77), .pick (.t 73) (.t 76) (.c (.bool false)), none⟩,
       ⟨(some 2), .mov (.t 77), none⟩]) <|
    .ret)
   (.skip)) <|
 .seq
 (.seq
  (.region [⟨(some 78), .mov (.t 11), none⟩,
     ⟨(some 79), .bin .neq (.t 78) (.c (.int .i64 0)), none⟩,
     ⟨(some 80), .mov (.t 79), none⟩,
     ⟨(some 81), .mov (.t 10), (some (80, false))⟩,
     ⟨(some 82), .len .sl (.t 81), (some (80, false))⟩,
     ⟨(some 83), .mov (.t 5), (some (80, false))⟩,
     ⟨(some 84), .len .sl (.t 83), (some (80, false))⟩,
     ⟨(some 85), .bin .neq (.t 82) (.t 84), (some (80, false))⟩,
     ⟨(some 86), .pick (.t 80) (.c (.bool true)) (.t 85), none⟩]) <|
  .cond (.t 86)
   (.seq
    (.region [⟨(some 2), .mov (.c (.bool false)), none⟩]) <|
    .ret)
   (.skip)) <|
 .seq
 (.seq
  (.region [⟨(some 87), .mov (.t 10), none⟩,
     ⟨(some 88), .len .sl (.t 87), none⟩,
     ⟨(some 89), .mov (.c (.int .i64 0)), none⟩]) <|
  .block 4 <|
  .loop [5, 10, 88, 89] <|
   .seq
   (.region [⟨(some 90), .bin .lss (.t 89) (.t 88), none⟩]) <|
   .seq
   (.cond (.t 90)
     (.skip)
     (.exit 4)) <|
   .seq
   (.block 5 <|
    .seq
    (.region [⟨(some 91), .mov (.t 89), none⟩,
       ⟨(some 12), .mov (.t 91), none⟩]) <|
    .seq
    (.draw false [5, 10, 88, 89, 100] (
       .op ⟨(some 92), .mov (.t 10), none⟩ <|
       .op ⟨(some 93), .mov (.t 12), none⟩ <|
       .op ⟨(some 94), .iaddr 3 (.t 92) (.t 93), none⟩ <|
       .op ⟨(some 95), .load true 3 (.t 94), none⟩ <|
       .op ⟨(some 96), .mov (.t 5), none⟩ <|
       .op ⟨(some 97), .mov (.t 12), none⟩ <|
       .op ⟨(some 98), .iaddr 3 (.t 96) (.t 97), none⟩ <|
       .op ⟨(some 99), .load true 3 (.t 98), none⟩ <|
       .op ⟨(some 100), .eq true true [.int, .int, .int] (.t 95) (.t 99), none⟩ <|
       .done)) <|
    .cond (.t 100)
     (.seq
      (.region [⟨(some 2), .mov (.c (.bool false)), none⟩]) <|
      .ret)
     (.skip)) <|
   .region [⟨(some 101), .bin .add (.t 89) (.c (.int .i64 1)), none⟩,
     ⟨(some 89), .mov (.t 101), none⟩]) <|
 .seq
 (.region [⟨(some 2), .mov (.c (.bool true)), none⟩]) <|
 .ret, [.slot 2]⟩
theorem c3 : Code1 Try.prog 3 102 b3 := Code1.mk' Try.func3 (by kernel_rfl) (by kernel_rfl) Try.ntmps3

/-- fusee/fuseelaw45.MergeWhole -/
def b4 : IFn := ⟨
 .seq
 (.region [⟨(some 4), .mov (.c (.bool false)), none⟩]) <|
 .seq
 (.seq
  (.region [⟨(some 19), .call (.f 5) [], none⟩,
     ⟨(some 20), .un .not (.t 19), none⟩]) <|
  .cond (.t 20)
   (.seq
    (.region [⟨(some 4), .mov (.c (.bool false)), none⟩]) <|
    .ret)
   (.skip)) <|
 .seq
 (.region [⟨(some 22), .mov (.t 0), none⟩,
    ⟨(some 23), .call (.f 8) [(.t 22)], none⟩,
    ⟨(some 21), .mov (.t 23), none⟩,
    ⟨(some 24), .extract (.t 21) 0, none⟩,
    ⟨(some 25), .extract (.t 21) 1, none⟩,
    ⟨(some 5), .mov (.t 24), none⟩,
    ⟨(some 6), .mov (.t 25), none⟩]) <|
 .seq
 (.seq
  (.region [⟨(some 26), .mov (.t 6), none⟩,
     ⟨(some 27), .bin .neq (.t 26) (.c (.int .i64 0)), none⟩,
     ⟨(some 28), .mov (.t 27), none⟩,
     ⟨(some 29), .mov (.t 0), (some (28, false))⟩,
     ⟨(some 30), .len .sl (.t 29), (some (28, false))⟩,
     ⟨(some 31), .bin .eql (.t 30) (.c (.int .i64 0)), (some (28, false))⟩,
     ⟨(some 32), .pick (.t 28) (.c (.bool true)) (.t 31), none⟩,
     ⟨(some 33), .mov (.t 32), none⟩,
     ⟨(some 34), .mov (.t 5), (some (33, false))⟩,
     ⟨(some 35), .len .sl (.t 34), (some (33, false))⟩,
     ⟨(some 36), .bin .gtr (.t 35) (.c (.int .i64 200)), (some (33, false))⟩,
     ⟨(some 37), .pick (.t 33) (.c (.bool true)) (.t 36), none⟩]) <|
  .cond (.t 37)
   (.seq
    (.region [⟨(some 4), .mov (.c (.bool true)), none⟩]) <|
    .ret)
   (.skip)) <|
 .seq
 (.region [⟨(some 38), .mov (.t 0), none⟩,
    ⟨(some 39), .len .sl (.t 38), none⟩,
    ⟨(some 40), .call (.f 9) [(.t 39)], none⟩,
    ⟨(some 7), .mov (.t 40), none⟩]) <|
 .seq
 (.region [⟨(some 41), .mov (.t 0), none⟩,
    ⟨(some 42), .len .sl (.t 41), none⟩,
    ⟨(some 43), .mkSl [(.int .i64 0)] 8 (.t 42) (.t 42), none⟩,
    ⟨(some 8), .mov (.t 43), none⟩]) <|
 .seq
 (.region [⟨(some 9), .mov (.c (.sl none 0 (some 0))), none⟩]) <|
 .seq
 (.seq
  (.region [⟨(some 44), .mov (.t 1), none⟩,
     ⟨(some 45), .len .sl (.t 44), none⟩,
     ⟨(some 46), .mov (.c (.int .i64 0)), none⟩]) <|
  .block 0 <|
  .loop [0, 5, 7, 8, 9, 44, 45, 46] <|
   .seq
   (.region [⟨(some 47), .bin .lss (.t 46) (.t 45), none⟩]) <|
   .seq
   (.cond (.t 47)
     (.skip)
     (.exit 0)) <|
   .seq
   (.block 1 <|
    .seq
    (.region [⟨(some 48), .iaddr 1 (.t 44) (.t 46), none⟩,
       ⟨(some 49), .load false 1 (.t 48), none⟩,
       ⟨(some 11), .mov (.t 49), none⟩]) <|
    .seq
    (.region [⟨(some 50), .mov (.t 11), none⟩,
       ⟨(some 51), .conv .i64 (.t 50), none⟩,
       ⟨(some 52), .mov (.t 0), none⟩,
       ⟨(some 53), .len .sl (.t 52), none⟩,
       ⟨(some 54), .bin .rem (.t 51) (.t 53), none⟩,
       ⟨(some 12), .mov (.t 54), none⟩]) <|
    .seq
    (.seq
     (.draw false [0, 5, 7, 8, 9, 12, 44, 45, 46, 64] (
        .op ⟨(some 55), .mov (.t 8), none⟩ <|
        .op ⟨(some 56), .mov (.t 12), none⟩ <|
        .op ⟨(some 57), .iaddr 1 (.t 55) (.t 56), none⟩ <|
        .op ⟨(some 58), .load false 1 (.t 57), none⟩ <|
        .op ⟨(some 59), .mov (.t 0), none⟩ <|
        .op ⟨(some 60), .mov (.t 12), none⟩ <|
        .op ⟨(some 61), .iaddr 1 (.t 59) (.t 60), none⟩ <|
        .op ⟨(some 62), .load false 1 (.t 61), none⟩ <|
        .op ⟨(some 63), .len .sl (.t 62), none⟩ <|
        .op ⟨(some 64), .bin .lss (.t 58) (.t 63), none⟩ <|
        .done)) <|
     .cond (.t 64)
      (.seq
       (.seq
        (.draw false [0, 5, 7, 8, 9, 12, 44, 45, 46, 78] (
           .op ⟨(some 65), .mov (.t 7), none⟩ <|
           .op ⟨(some 66), .mov (.t 12), none⟩ <|
           .op ⟨(some 67), .mov (.t 0), none⟩ <|
           .op ⟨(some 68), .mov (.t 12), none⟩ <|
           .op ⟨(some 69), .iaddr 1 (.t 67) (.t 68), none⟩ <|
           .op ⟨(some 70), .load false 1 (.t 69), none⟩ <|
           .op ⟨(some 71), .mov (.t 8), none⟩ <|
           .op ⟨(some 72), .mov (.t 12), none⟩ <|
           .op ⟨(some 73), .iaddr 1 (.t 71) (.t 72), none⟩ <|
           .op ⟨(some 74), .load false 1 (.t 73), none⟩ <|
           .op ⟨(some 75), .iaddr 2 (.t 70) (.t 74), none⟩ <|
           .op ⟨(some 76), .load true 2 (.t 75), none⟩ <|
           .op ⟨(some 77), .call (.f 10) [(.t 65), (.t 66), (.t 76)], none⟩ <|
           .op ⟨(some 78), .bin .neq (.t 77) (.c (.int .i64 0)), none⟩ <|
           .done)) <|
        .cond (.t 78)
         (.seq
          (.region [⟨(some 4), .mov (.c (.bool false)), none⟩]) <|
          .ret)
         (.skip)) <|
       .region [⟨(some 79), .mov (.t 8), none⟩,
         ⟨(some 80), .mov (.t 12), none⟩,
         ⟨(some 81), .iaddr 1 (.t 79) (.t 80), none⟩,
         ⟨(some 82), .load false 1 (.t 81), none⟩,
         ⟨(some 83), .bin .add (.t 82) (.c (.int .i64 1)), none⟩,
         ⟨(some 84), .iaddr 1 (.t 79) (.t 80), none⟩,
         ⟨none, .store 1 (.t 84) (.t 83), none⟩])
      (.skip)) <|
    .seq
    (.region [⟨(some 86), .mov (.t 7), none⟩,
       ⟨(some 87), .call (.f 11) [(.t 86)], none⟩,
       ⟨(some 85), .mov (.t 87), none⟩,
       ⟨(some 88), .extract (.t 85) 0, none⟩,
       ⟨(some 89), .extract (.t 85) 1, none⟩,
       ⟨(some 13), .alloc [(.int .i64 0), (.int .i64 0), (.int .i64 0)], none⟩,
       ⟨none, .store 3 (.t 13) (.t 88), none⟩,
       ⟨(some 14), .mov (.t 89), none⟩]) <|
    .seq
    (.region [⟨(some 90), .mov (.t 14), none⟩]) <|
    .cond (.t 90)
     (.region [⟨(some 91), .mov (.t 9), none⟩,
        ⟨(some 92), .load true 3 (.t 13), none⟩,
        ⟨(some 93), .buildSl 3 [(.int .i64 0), (.int .i64 0), (.int .i64 0)] [(0, 3, (.t 92))], none⟩,
        ⟨(some 94), .app 3 24 (.t 91) (.t 93), none⟩,
        ⟨(some 9), .mov (.t 94), none⟩])
     (.skip)) <|
   .region [⟨(some 95), .bin .add (.t 46) (.c (.int .i64 1)), none⟩,
     ⟨(some 46), .mov (.t 95), none⟩]) <|
 .seq
 (.seq
  (.region [⟨(some 96), .mov (.t 0), none⟩,
     ⟨(some 97), .len .sl (.t 96), none⟩,
     ⟨(some 98), .mov (.c (.int .i64 0)), none⟩]) <|
  .block 2 <|
  .loop [0, 5, 7, 8, 9, 97, 98] <|
   .seq
   (.region [⟨(some 99), .bin .lss (.t 98) (.t 97), none⟩]) <|
   .seq
   (.cond (.t 99)
     (.skip)
     (.exit 2)) <|
   .seq
   (.block 3 <|
    .seq
    (.region [⟨(some 100), .mov (.t 98), none⟩,
       ⟨(some 15), .mov (.t 100), none⟩]) <|
    .seq
    (.block 4 <|
     .loop [0, 5, 7, 8, 9, 15, 97, 98] <|
      .seq
      (.seq
       (.draw false [0, 5, 7, 8, 9, 15, 97, 98, 110] (
          .op ⟨(some 101), .mov (.t 8), none⟩ <|
          .op ⟨(some 102), .mov (.t 15), none⟩ <|
          .op ⟨(some 103), .iaddr 1 (.t 101) (.t 102), none⟩ <|
          .op ⟨(some 104), .load false 1 (.t 103), none⟩ <|
          .op ⟨(some 105), .mov (.t 0), none⟩ <|
          .op ⟨(some 106), .mov (.t 15), none⟩ <|
          .op ⟨(some 107), .iaddr 1 (.t 105) (.t 106), none⟩ <|
          .op ⟨(some 108), .load false 1 (.t 107), none⟩ <|
          .op ⟨(some 109), .len .sl (.t 108), none⟩ <|
          .op ⟨(some 110), .bin .lss (.t 104) (.t 109), none⟩ <|
          .done)) <|
       .cond (.t 110)
        (.skip)
        (.exit 4)) <|
      .seq
      (.block 5 <|
       .seq
       (.draw false [0, 5, 7, 8, 9, 15, 97, 98, 130] (
          .op ⟨(some 117), .mov (.t 7), none⟩ <|
          .op ⟨(some 118), .mov (.t 15), none⟩ <|
          .op ⟨(some 119), .mov (.t 0), none⟩ <|
          .op ⟨(some 120), .mov (.t 15), none⟩ <|
          .op ⟨(some 121), .iaddr 1 (.t 119) (.t 120), none⟩ <|
          .op ⟨(some 122), .load false 1 (.t 121), none⟩ <|
          .op ⟨(some 123), .mov (.t 8), none⟩ <|
          .op ⟨(some 124), .mov (.t 15), none⟩ <|
          .op ⟨(some 125), .iaddr 1 (.t 123) (.t 124), none⟩ <|
          .op ⟨(some 126), .load false 1 (.t 125), none⟩ <|
          .op ⟨(some 127), .iaddr 2 (.t 122) (.t 126), none⟩ <|
          .op ⟨(some 128), .load true 2 (.t 127), none⟩ <|
          .op ⟨(some 129), .call (.f 10) [(.t 117), (.t 118), (.t 128)], none⟩ <|
          .op ⟨(some 130), .bin .neq (.t 129) (.c (.int .i64 0)), none⟩ <|
          .done)) <|
       .cond (.t 130)
        (.seq
         (.region [⟨(some 4), .mov (.c (.bool false)), none⟩]) <|
         .ret)
        (.skip)) <|
      .region [⟨(some 111), .mov (.t 8), none⟩,
        ⟨(some 112), .mov (.t 15), none⟩,
        ⟨(some 113), .iaddr 1 (.t 111) (.t 112), none⟩,
        ⟨(some 114), .load false 1 (.t 113), none⟩,
        ⟨(some 115), .bin .add (.t 114) (.c (.int .i64 1)), none⟩,
        ⟨(some 116), .iaddr 1 (.t 111) (.t 112), none⟩,
        ⟨none, .store 1 (.t 116) (.t 115), none⟩]) <|
    .region [⟨(some 131), .mov (.t 7), none⟩,
      ⟨(some 132), .mov (.t 15), none⟩,
      ⟨(some 133), .call (.f 12) [(.t 131), (.t 132)], none⟩]) <|
   .region [⟨(some 134), .bin .add (.t 98) (.c (.int .i64 1)), none⟩,
     ⟨(some 98), .mov (.t 134), none⟩]) <|
 .seq
 (.seq
  (.region [⟨(some 136), .mov (.t 7), none⟩,
     ⟨(some 137), .call (.f 11) [(.t 136)], none⟩,
     ⟨(some 135), .mov (.t 137), none⟩,
     ⟨(some 138), .extract (.t 135) 0, none⟩,
     ⟨(some 139), .extract (.t 135) 1, none⟩,
     ⟨(some 16), .alloc [(.int .i64 0), (.int .i64 0), (.int .i64 0)], none⟩,
     ⟨none, .store 3 (.t 16) (.t 138), none⟩,
     ⟨(some 17), .mov (.t 139), none⟩]) <|
  .block 6 <|
  .loop [5, 7, 9, 16, 17] <|
   .seq
   (.seq
    (.region [⟨(some 140), .mov (.t 17), none⟩]) <|
    .cond (.t 140)
     (.skip)
     (.exit 6)) <|
   .seq
   (.block 7 <|
    .region [⟨(some 146), .mov (.t 9), none⟩,
      ⟨(some 147), .load true 3 (.t 16), none⟩,
      ⟨(some 148), .buildSl 3 [(.int .i64 0), (.int .i64 0), (.int .i64 0)] [(0, 3, (.t 147))], none⟩,
      ⟨(some 149), .app 3 24 (.t 146) (.t 148), none⟩,
      ⟨(some 9), .mov (.t 149), none⟩]) <|
   .seq
   (.seq
    (.region [⟨(some 150), .load true 3 (.t 16), none⟩]) <|
    .region [⟨(some 16), .alloc [(.int .i64 0), (.int .i64 0), (.int .i64 0)], none⟩,
      ⟨none, .store 3 (.t 16) (.t 150), none⟩]) <|
   .region [⟨(some 142), .mov (.t 7), none⟩,
     ⟨(some 143), .call (.f 11) [(.t 142)], none⟩,
     ⟨(some 141), .mov (.t 143), none⟩,
     ⟨(some 144), .extract (.t 141) 0, none⟩,
     ⟨(some 145), .extract (.t 141) 1, none⟩,
     ⟨none, .store 3 (.t 16) (.t 144), none⟩,
     ⟨(some 17), .mov (.t 145), none⟩]) <|
 .seq
 (.seq
  (.region [⟨(some 151), .mov (.t 9), none⟩,
     ⟨(some 152), .len .sl (.t 151), none⟩,
     ⟨(some 153), .mov (.t 5), none⟩,
     ⟨(some 154), .len .sl (.t 153), none⟩,
     ⟨(some 155), .bin .neq (.t 152) (.t 154), none⟩,
     ⟨(some 156), .mov (.t 155), none⟩,
     ⟨(some 157), .mov (.t 7), (some (156, false))⟩,
     ⟨(some 158), .call (.f 13) [(.t 157)], (some (156, false))⟩,
     ⟨(some 159), .bin .neq (.t 158) (.c (.int .i64 0)), (some (156, false))⟩,
     ⟨(some 160), .pick (.t 156) (.c (.bool true)) (.t 159), none⟩]) <|
  .cond (.t 160)
   (.seq
    (.region [⟨(some 4), .mov (.c (.bool false)), none⟩]) <|
    .ret)
   (.skip)) <|
 .seq
 (.seq
  (.region [⟨(some 161), .mov (.t 9), none⟩,
     ⟨(some 162), .len .sl (.t 161), none⟩,
     ⟨(some 163), .mov (.c (.int .i64 0)), none⟩]) <|
  .block 8 <|
  .loop [5, 9, 162, 163] <|
   .seq
   (.region [⟨(some 164), .bin .lss (.t 163) (.t 162), none⟩]) <|
   .seq
   (.cond (.t 164)
     (.skip)
     (.exit 8)) <|
   .seq
   (.block 9 <|
    .seq
    (.region [⟨(some 165), .mov (.t 163), none⟩,
       ⟨(some 18), .mov (.t 165), none⟩]) <|
    .seq
    (.draw false [5, 9, 162, 163, 174] (
       .op ⟨(some 166), .mov (.t 9), none⟩ <|
       .op ⟨(some 167), .mov (.t 18), none⟩ <|
       .op ⟨(some 168), .iaddr 3 (.t 166) (.t 167), none⟩ <|
       .op ⟨(some 169), .load true 3 (.t 168), none⟩ <|
       .op ⟨(some 170), .mov (.t 5), none⟩ <|
       .op ⟨(some 171), .mov (.t 18), none⟩ <|
       .op ⟨(some 172), .iaddr 3 (.t 170) (.t 171), none⟩ <|
       .op ⟨(some 173), .load true 3 (.t 172), none⟩ <|
       .op ⟨(some 174), .eq true true [.int, .int, .int] (.t 169) (.t 173), none⟩ <|
       .done)) <|
    .cond (.t 174)
     (.seq
      (.region [⟨(some 4), .mov (.c (.bool false)), none⟩]) <|
      .ret)
     (.skip)) <|
   .region [⟨(some 175), .bin .add (.t 163) (.c (.int .i64 1)), none⟩,
     ⟨(some 163), .mov (.t 175), none⟩]) <|
 .seq
 (.region [⟨(some 4), .mov (.c (.bool true)), none⟩]) <|
 .ret, [.slot 4]⟩
theorem c4 : Code1 Try.prog 4 176 b4 := Code1.mk' Try.func4 (by kernel_rfl) (by kernel_rfl) Try.ntmps4

/-- fusee/fuseelaw45.fixed -/
def b5 : IFn := ⟨
 .seq
 (.region [⟨(some 0), .mov (.c (.bool false)), none⟩]) <|
 .seq
 (.region [⟨(some 16), .build [(.int .i64 0), (.int .i64 0)] [(0, 1, (.c (.int .i64 1)))], none⟩,
    ⟨(some 17), .build [(.int .i64 0), (.int .i64 0)] [(0, 1, (.c (.int .i64 4)))], none⟩,
    ⟨(some 18), .buildSl 2 [(.int .i64 0), (.int .i64 0), (.int .i64 0), (.int .i64 0)] [(0, 2, (.t 16)), (2, 2, (.t 17))], none⟩,
    ⟨(some 19), .build [(.int .i64 0), (.int .i64 0)] [(0, 1, (.c (.int .i64 2))), (1, 1, (.c (.int .i64 9)))], none⟩,
    ⟨(some 20), .buildSl 2 [(.int .i64 0), (.int .i64 0)] [(0, 2, (.t 19))], none⟩,
    ⟨(some 21), .buildSl 1 [(.sl none 0 (some 0)), (.sl none 0 (some 0))] [(0, 1, (.t 18)), (1, 1, (.t 20))], none⟩,
    ⟨(some 22), .call (.f 8) [(.t 21)], none⟩,
    ⟨(some 15), .mov (.t 22), none⟩,
    ⟨(some 23), .extract (.t 15) 0, none⟩,
    ⟨(some 24), .extract (.t 15) 1, none⟩,
    ⟨(some 1), .mov (.t 23), none⟩,
    ⟨(some 2), .mov (.t 24), none⟩]) <|
 .seq
 (.region [⟨(some 25), .call (.f 9) [(.c (.int .i64 2))], none⟩,
    ⟨(some 3), .mov (.t 25), none⟩]) <|
 .seq
 (.region [⟨(some 26), .mov (.t 3), none⟩,
    ⟨(some 27), .build [(.int .i64 0), (.int .i64 0)] [(0, 1, (.c (.int .i64 3)))], none⟩,
    ⟨(some 28), .call (.f 10) [(.t 26), (.c (.int .i64 0)), (.t 27)], none⟩,
    ⟨(some 4), .mov (.t 28), none⟩]) <|
 .seq
 (.region [⟨(some 30), .mov (.t 3), none⟩,
    ⟨(some 31), .call (.f 11) [(.t 30)], none⟩,
    ⟨(some 29), .mov (.t 31), none⟩,
    ⟨(some 32), .extract (.t 29) 0, none⟩,
    ⟨(some 33), .extract (.t 29) 1, none⟩,
    ⟨(some 5), .alloc [(.int .i64 0), (.int .i64 0), (.int .i64 0)], none⟩,
    ⟨none, .store 3 (.t 5) (.t 32), none⟩,
    ⟨(some 6), .mov (.t 33), none⟩]) <|
 .seq
 (.region [⟨(some 34), .mov (.t 3), none⟩,
    ⟨(some 35), .call (.f 12) [(.t 34), (.c (.int .i64 1))], none⟩,
    ⟨(some 7), .mov (.t 35), none⟩]) <|
 .seq
 (.region [⟨(some 37), .mov (.t 3), none⟩,
    ⟨(some 38), .call (.f 11) [(.t 37)], none⟩,
    ⟨(some 36), .mov (.t 38), none⟩,
    ⟨(some 39), .extract (.t 36) 0, none⟩,
    ⟨(some 40), .extract (.t 36) 1, none⟩,
    ⟨(some 8), .alloc [(.int .i64 0), (.int .i64 0), (.int .i64 0)], none⟩,
    ⟨none, .store 3 (.t 8) (.t 39), none⟩,
    ⟨(some 9), .mov (.t 40), none⟩]) <|
 .seq
 (.region [⟨(some 41), .mov (.t 3), none⟩,
    ⟨(some 42), .build [(.int .i64 0), (.int .i64 0)] [], none⟩,
    ⟨(some 43), .call (.f 10) [(.t 41), (.c (.int .i64 1)), (.t 42)], none⟩,
    ⟨(some 10), .mov (.t 43), none⟩]) <|
 .seq
 (.region [⟨(some 44), .mov (.t 3), none⟩,
    ⟨(some 45), .build [(.int .i64 0), (.int .i64 0)] [(0, 1, (.c (.int .i64 2)))], none⟩,
    ⟨(some 46), .call (.f 10) [(.t 44), (.c (.int .i64 0)), (.t 45)], none⟩,
    ⟨(some 11), .mov (.t 46), none⟩]) <|
 .seq
 (.region [⟨(some 12), .mov (.c (.ptr none)), none⟩]) <|
 .seq
 (.region [⟨(some 48), .mov (.t 12), none⟩,
    ⟨(some 49), .call (.f 11) [(.t 48)], none⟩,
    ⟨(some 47), .mov (.t 49), none⟩,
    ⟨(some 50), .extract (.t 47) 0, none⟩,
    ⟨(some 51), .extract (.t 47) 1, none⟩,
    ⟨(some 13), .alloc [(.int .i64 0), (.int .i64 0), (.int .i64 0)], none⟩,
    ⟨none, .store 3 (.t 13) (.t 50), none⟩,
    ⟨(some 14), .mov (.t 51), none⟩]) <|
 .seq
 (.draw true [0] (
    .op ⟨(some 52), .mov (.t 2), none⟩ <|
    .op ⟨(some 53), .bin .eql (.t 52) (.c (.int .i64 0)), none⟩ <|
    .op ⟨(some 54), .mov (.t 53), none⟩ <|
    .op ⟨(some 55), .mov (.t 1), (some (54, true))⟩ <|
    .op ⟨(some 56), .len .sl (.t 55), (some (54, true))⟩ <|
    .op ⟨(some 57), .bin .eql (.t 56) (.c (.int .i64 3)), (some (54, true))⟩ <|
    .op ⟨(some 58), .pick (.t 54) (.t 57) (.c (.bool false)), none⟩ <|
    .op ⟨(some 59), .mov (.t 58), none⟩ <|
    .op ⟨(some 60), .mov (.t 1), (some (59, true))⟩ <|
    .op ⟨(some 61), .iaddr 3 (.t 60) (.c (.int .i64 1)), (some (59, true))⟩ <|
    .alt (.op ⟨(some 62), .load true 3 (.t 61), (some (59, true))⟩ <|
     .op ⟨(some 63), .call (.f 7) [(.c (.int .i64 2)), (.c (.int .i64 9)), (.c (.int .i64 1))], (some (59, true))⟩ <|
     .op ⟨(some 64), .eq false true [.int, .int, .int] (.t 62) (.t 63), (some (59, true))⟩ <|
     .op ⟨(some 65), .pick (.t 59) (.t 64) (.c (.bool false)), none⟩ <|
     .op ⟨(some 66), .mov (.t 65), none⟩ <|
     .op ⟨(some 67), .mov (.t 4), (some (66, true))⟩ <|
     .op ⟨(some 68), .bin .eql (.t 67) (.c (.int .i64 0)), (some (66, true))⟩ <|
     .op ⟨(some 69), .pick (.t 66) (.t 68) (.c (.bool false)), none⟩ <|
     .op ⟨(some 70), .mov (.t 69), none⟩ <|
     .op ⟨(some 71), .mov (.t 6), (some (70, true))⟩ <|
     .op ⟨(some 72), .un .not (.t 71), (some (70, true))⟩ <|
     .op ⟨(some 73), .pick (.t 70) (.t 72) (.c (.bool false)), none⟩ <|
     .op ⟨(some 74), .mov (.t 73), none⟩ <|
     .op ⟨(some 75), .mov (.t 7), (some (74, true))⟩ <|
     .op ⟨(some 76), .bin .eql (.t 75) (.c (.int .i64 0)), (some (74, true))⟩ <|
     .op ⟨(some 77), .pick (.t 74) (.t 76) (.c (.bool false)), none⟩ <|
     .op ⟨(some 78), .mov (.t 77), none⟩ <|
     .op ⟨(some 79), .mov (.t 9), (some (78, true))⟩ <|
     .op ⟨(some 80), .pick (.t 78) (.t 79) (.c (.bool false)), none⟩ <|
     .op ⟨(some 81), .mov (.t 80), none⟩ <|
     .alt (.op ⟨(some 82), .load true 3 (.t 8), (some (81, true))⟩ <|
      .op ⟨(some 83), .call (.f 7) [(.c (.int .i64 3)), (.c (.int .i64 0)), (.c (.int .i64 0))], (some (81, true))⟩ <|
      .op ⟨(some 84), .eq false true [.int, .int, .int] (.t 82) (.t 83), (some (81, true))⟩ <|
      .op ⟨(some 85), .pick (.t 81) (.t 84) (.c (.bool false)), none⟩ <|
      .op ⟨(some 86), .mov (.t 85), none⟩ <|
      .op ⟨(some 87), .mov (.t 10), (some (86, true))⟩ <|
      .op ⟨(some 88), .bin .eql (.t 87) (.c (.int .i64 8)), (some (86, true))⟩ <|
      .op ⟨(some 89), .pick (.t 86) (.t 88) (.c (.bool false)), none⟩ <|
      .op ⟨(some 90), .mov (.t 89), none⟩ <|
      .op ⟨(some 91), .mov (.t 11), (some (90, true))⟩ <|
      .op ⟨(some 92), .bin .eql (.t 91) (.c (.int .i64 2)), (some (90, true))⟩ <|
      .op ⟨(some 93), .pick (.t 90) (.t 92) (.c (.bool false)), none⟩ <|
      .op ⟨(some 94), .mov (.t 93), none⟩ <|
      .op ⟨(some 95), .mov (.t 3), (some (94, true))⟩ <|
      .op ⟨(some 96), .call (.f 13) [(.t 95)], (some (94, true))⟩ <|
      .op ⟨(some 97), .bin .eql (.t 96) (.c (.int .i64 0)), (some (94, true))⟩ <|
      .op ⟨(some 98), .pick (.t 94) (.t 97) (.c (.bool false)), none⟩ <|
      .op ⟨(some 99), .mov (.t 98), none⟩ <|
      .op ⟨(some 100), .call (.f 9) [(.c (.int .i64 0))], (some (99, true))⟩ <|
      .op ⟨(some 101), .eq false false [.ptr] (.t 100) (.c (.ptr none)), (some (99, true))⟩ <|
      .op ⟨(some 102), .pick (.t 99) (.t 101) (.c (.bool false)), none⟩ <|
      .op ⟨(some 103), .mov (.t 102), none⟩ <|
      .op ⟨(some 104), .mov (.t 14), (some (103, true))⟩ <|
      .op ⟨(some 105), .un .not (.t 104), (some (103, true))⟩ <|
      .op ⟨(some 106), .pick (.t 103) (.t 105) (.c (.bool false)), none⟩ <|
      .op ⟨(some 107), .mov (.t 106), none⟩ <|
      .op ⟨(some 108), .mov (.t 12), (some (107, true))⟩ <|
      .op ⟨(some 109), .build [(.int .i64 0), (.int .i64 0)] [], (some (107, true))⟩ <|
      .op ⟨(some 110), .call (.f 10) [(.t 108), (.c (.int .i64 0)), (.t 109)], (some (107, true))⟩ <|
      .op ⟨(some 111), .bin .eql (.t 110) (.c (.int .i64 1)), (some (107, true))⟩ <|
      .op ⟨(some 112), .pick (.t 107) (.t 111) (.c (.bool false)), none⟩ <|
      .op ⟨(some 0), .mov (.t 112), none⟩ <|
      .done) <|
     .op ⟨(some 83), .call (.f 7) [(.c (.int .i64 3)), (.c (.int .i64 0)), (.c (.int .i64 0))], (some (81, true))⟩ <|
     .op ⟨(some 82), .load true 3 (.t 8), (some (81, true))⟩ <|
     .op ⟨(some 84), .eq false true [.int, .int, .int] (.t 82) (.t 83), (some (81, true))⟩ <|
     .op ⟨(some 85), .pick (.t 81) (.t 84) (.c (.bool false)), none⟩ <|
     .op ⟨(some 86), .mov (.t 85), none⟩ <|
     .op ⟨(some 87), .mov (.t 10), (some (86, true))⟩ <|
     .op ⟨(some 88), .bin .eql (.t 87) (.c (.int .i64 8)), (some (86, true))⟩ <|
     .op ⟨(some 89), .pick (.t 86) (.t 88) (.c (.bool false)), none⟩ <|
     .op ⟨(some 90), .mov (.t 89), none⟩ <|
     .op ⟨(some 91), .mov (.t 11), (some (90, true))⟩ <|
     .op ⟨(some 92), .bin .eql (.t 91) (.c (.int .i64 2)), (some (90, true))⟩ <|
     .op ⟨(some 93), .pick (.t 90) (.t 92) (.c (.bool false)), none⟩ <|
     .op ⟨(some 94), .mov (.t 93), none⟩ <|
     .op ⟨(some 95), .mov (.t 3), (some (94, true))⟩ <|
     .op ⟨(some 96), .call (.f 13) [(.t 95)], (some (94, true))⟩ <|
     .op ⟨(some 97), .bin .eql (.t 96) (.c (.int .i64 0)), (some (94, true))⟩ <|
     .op ⟨(some 98), .pick (.t 94) (.t 97) (.c (.bool false)), none⟩ <|
     .op ⟨(some 99), .mov (.t 98), none⟩ <|
     .op ⟨(some 100), .call (.f 9) [(.c (.int .i64 0))], (some (99, true))⟩ <|
     .op ⟨(some 101), .eq false false [.ptr] (.t 100) (.c (.ptr none)), (some (99, true))⟩ <|
     .op ⟨(some 102), .pick (.t 99) (.t 101) (.c (.bool false)), none⟩ <|
     .op ⟨(some 103), .mov (.t 102), none⟩ <|
     .op ⟨(some 104), .mov (.t 14), (some (103, true))⟩ <|
     .op ⟨(some 105), .un .not (.t 104), (some (103, true))⟩ <|
     .op ⟨(some 106), .pick (.t 103) (.t 105) (.c (.bool false)), none⟩ <|
     .op ⟨(some 107), .mov (.t 106), none⟩ <|
     .op ⟨(some 108), .mov (.t 12), (some (107, true))⟩ <|
     .op ⟨(some 109), .build [(.int .i64 0), (.int .i64 0)] [], (some (107, true))⟩ <|
     .op ⟨(some 110), .call (.f 10) [(.t 108), (.c (.int .i64 0)), (.t 109)], (some (107, true))⟩ <|
     .op ⟨(some 111), .bin .eql (.t 110) (.c (.int .i64 1)), (some (107, true))⟩ <|
     .op ⟨(some 112), .pick (.t 107) (.t 111) (.c (.bool false)), none⟩ <|
     .op ⟨(some 0), .mov (.t 112), none⟩ <|
     .done) <|
    .op ⟨(some 63), .call (.f 7) [(.c (.int .i64 2)), (.c (.int .i64 9)), (.c (.int .i64 1))], (some (59, true))⟩ <|
    .op ⟨(some 62), .load true 3 (.t 61), (some (59, true))⟩ <|
    .op ⟨(some 64), .eq false true [.int, .int, .int] (.t 62) (.t 63), (some (59, true))⟩ <|
    .op ⟨(some 65), .pick (.t 59) (.t 64) (.c (.bool false)), none⟩ <|
    .op ⟨(some 66), .mov (.t 65), none⟩ <|
    .op ⟨(some 67), .mov (.t 4), (some (66, true))⟩ <|
    .op ⟨(some 68), .bin .eql (.t 67) (.c (.int .i64 0)), (some (66, true))⟩ <|
    .op ⟨(some 69), .pick (.t 66) (.t 68) (.c (.bool false)), none⟩ <|
    .op ⟨(some 70), .mov (.t 69), none⟩ <|
    .op ⟨(some 71), .mov (.t 6), (some (70, true))⟩ <|
    .op ⟨(some 72), .un .not (.t 71), (some (70, true))⟩ <|
    .op ⟨(some 73), .pick (.t 70) (.t 72) (.c (.bool false)), none⟩ <|
    .op ⟨(some 74), .mov (.t 73), none⟩ <|
    .op ⟨(some 75), .mov (.t 7), (some (74, true))⟩ <|
    .op ⟨(some 76), .bin .eql (.t 75) (.c (.int .i64 0)), (some (74, true))⟩ <|
    .op ⟨(some 77), .pick (.t 74) (.t 76) (.c (.bool false)), none⟩ <|
    .op ⟨(some 78), .mov (.t 77), none⟩ <|
    .op ⟨(some 79), .mov (.t 9), (some (78, true))⟩ <|
    .op ⟨(some 80), .pick (.t 78) (.t 79) (.c (.bool false)), none⟩ <|
    .op ⟨(some 81), .mov (.t 80), none⟩ <|
    .alt (.op ⟨(some 82), .load true 3 (.t 8), (some (81, true))⟩ <|
     .op ⟨(some 83), .call (.f 7) [(.c (.int .i64 3)), (.c (.int .i64 0)), (.c (.int .i64 0))], (some (81, true))⟩ <|
     .op ⟨(some 84), .eq false true [.int, .int, .int] (.t 82) (.t 83), (some (81, true))⟩ <|
     .op ⟨(some 85), .pick (.t 81) (.t 84) (.c (.bool false)), none⟩ <|
     .op ⟨(some 86), .mov (.t 85), none⟩ <|
     .op ⟨(some 87), .mov (.t 10), (some (86, true))⟩ <|
     .op ⟨(some 88), .bin .eql (.t 87) (.c (.int .i64 8)), (some (86, true))⟩ <|
     .op ⟨(some 89), .pick (.t 86) (.t 88) (.c (.bool false)), none⟩ <|
     .op ⟨(some 90), .mov (.t 89), none⟩ <|
     .op ⟨(some 91), .mov (.t 11), (some (90, true))⟩ <|
     .op ⟨(some 92), .bin .eql (.t 91) (.c (.int .i64 2)), (some (90, true))⟩ <|
     .op ⟨(some 93), .pick (.t 90) (.t 92) (.c (.bool false)), none⟩ <|
     .op ⟨(some 94), .mov (.t 93), none⟩ <|
     .op ⟨(some 95), .mov (.t 3), (some (94, true))⟩ <|
     .op ⟨(some 96), .call (.f 13) [(.t 95)], (some (94, true))⟩ <|
     .op ⟨(some 97), .bin .eql (.t 96) (.c (.int .i64 0)), (some (94, true))⟩ <|
     .op ⟨(some 98), .pick (.t 94) (.t 97) (.c (.bool false)), none⟩ <|
     .op ⟨(some 99), .mov (.t 98), none⟩ <|
     .op ⟨(some 100), .call (.f 9) [(.c (.int .i64 0))], (some (99, true))⟩ <|
     .op ⟨(some 101), .eq false false [.ptr] (.t 100) (.c (.ptr none)), (some (99, true))⟩ <|
     .op ⟨(some 102), .pick (.t 99) (.t 101) (.c (.bool false)), none⟩ <|
     .op ⟨(some 103), .mov (.t 102), none⟩ <|
     .op ⟨(some 104), .mov (.t 14), (some (103, true))⟩ <|
     .op ⟨(some 105), .un .not (.t 104), (some (103, true))⟩ <|
     .op ⟨(some 106), .pick (.t 103) (.t 105) (.c (.bool false)), none⟩ <|
     .op ⟨(some 107), .mov (.t 106), none⟩ <|
     .op ⟨(some 108), .mov (.t 12), (some (107, true))⟩ <|
     .op ⟨(some 109), .build [(.int .i64 0), (.int .i64 0)] [], (some (107, true))⟩ <|
     .op ⟨(some 110), .call (.f 10) [(.t 108), (.c (.int .i64 0)), (.t 109)], (some (107, true))⟩ <|
     .op ⟨(some 111), .bin .eql (.t 110) (.c (.int .i64 1)), (some (107, true))⟩ <|
     .op ⟨(some 112), .pick (.t 107) (.t 111) (.c (.bool false)), none⟩ <|
     .op ⟨(some 0), .mov (.t 112), none⟩ <|
     .done) <|
    .op ⟨(some 83), .call (.f 7) [(.c (.int .i64 3)), (.c (.int .i64 0)), (.c (.int .i64 0))], (some (81, true))⟩ <|
    .op ⟨(some 82), .load true 3 (.t 8), (some (81, true))⟩ <|
    .op ⟨(some 84), .eq false true [.int, .int, .int] (.t 82) (.t 83), (some (81, true))⟩ <|
    .op ⟨(some 85), .pick (.t 81) (.t 84) (.c (.bool false)), none⟩ <|
    .op ⟨(some 86), .mov (.t 85), none⟩ <|
    .op ⟨(some 87), .mov (.t 10), (some (86, true))⟩ <|
    .op ⟨(some 88), .bin .eql (.t 87) (.c (.int .i64 8)), (some (86, true))⟩ <|
    .op ⟨(some 89), .pick (.t 86) (.t 88) (.c (.bool false)), none⟩ <|
    .op ⟨(some 90), .mov (.t 89), none⟩ <|
    .op ⟨(some 91), .mov (.t 11), (some (90, true))⟩ <|
    .op ⟨(some 92), .bin .eql (.t 91) (.c (.int .i64 2)), (some (90, true))⟩ <|
    .op ⟨(some 93), .pick (.t 90) (.t 92) (.c (.bool false)), none⟩ <|
    .op ⟨(some 94), .mov (.t 93), none⟩ <|
    .op ⟨(some 95), .mov (.t 3), (some (94, true))⟩ <|
    .op ⟨(some 96), .call (.f 13) [(.t 95)], (some (94, true))⟩ <|
    .op ⟨(some 97), .bin .eql (.t 96) (.c (.int .i64 0)), (some (94, true))⟩ <|
    .op ⟨(some 98), .pick (.t 94) (.t 97) (.c (.bool false)), none⟩ <|
    .op ⟨(some 99), .mov (.t 98), none⟩ <|
    .op ⟨(some 100), .call (.f 9) [(.c (.int .i64 0))], (some (99, true))⟩ <|
    .op ⟨(some 101), .eq false false [.ptr] (.t 100) (.c (.ptr none)), (some (99, true))⟩ <|
    .op ⟨(some 102), .pick (.t 99) (.t 101) (.c (.bool false)), none⟩ <|
    .op ⟨(some 103), .mov (.t 102), none⟩ <|
    .op ⟨(some 104), .mov (.t 14), (some (103, true))⟩ <|
    .op ⟨(some 105), .un .not (.t 104), (some (103, true))⟩ <|
    .op ⟨(some 106), .pick (.t 103) (.t 105) (.c (.bool false)), none⟩ <|
    .op ⟨(some 107), .mov (.t 106), none⟩ <|
    .op ⟨(some 108), .mov (.t 12), (some (107, true))⟩ <|
    .op ⟨(some 109), .build [(.int .i64 0), (.int .i64 0)] [], (some (107, true))⟩ <|
    .op ⟨(some 110), .call (.f 10) [(.t 108), (.c (.int .i64 0)), (.t 109)], (some (107, true))⟩ <|
    .op ⟨(some 111), .bin .eql (.t 110) (.c (.int .i64 1)), (some (107, true))⟩ <|
    .op ⟨(some 112), .pick (.t 107) (.t 111) (.c (.bool false)), none⟩ <|
    .op ⟨(some 0), .mov (.t 112), none⟩ <|
    .done)) <|
 .ret, [.slot 0]⟩
theorem c5 : Code1 Try.prog 5 113 b5 := Code1.mk' Try.func5 (by kernel_rfl) (by kernel_rfl) Try.ntmps5

/-- fusee/fuseelaw45.put -/
def b6 : IFn := ⟨
 .seq
 (.region [⟨(some 3), .box (.t 1), none⟩,
    ⟨(some 4), .mov (.c (.sl none 0 (some 0))), none⟩]) <|
 .seq
 (.region [⟨(some 5), .mov (.c (.int .i64 0)), none⟩]) <|
 .seq
 (.block 0 <|
  .loop [0, 3, 5] <|
   .seq
   (.seq
    (.draw false [0, 3, 5, 18] (
       .op ⟨(some 6), .mov (.t 5), none⟩ <|
       .op ⟨(some 7), .mov (.t 0), none⟩ <|
       .op ⟨(some 8), .len .sl (.t 7), none⟩ <|
       .op ⟨(some 9), .bin .lss (.t 6) (.t 8), none⟩ <|
       .op ⟨(some 10), .mov (.t 9), none⟩ <|
       .op ⟨(some 11), .load true 3 (.t 3), (some (10, true))⟩ <|
       .op ⟨(some 12), .mov (.t 0), (some (10, true))⟩ <|
       .op ⟨(some 13), .mov (.t 5), (some (10, true))⟩ <|
       .op ⟨(some 14), .iaddr 3 (.t 12) (.t 13), (some (10, true))⟩ <|
       .op ⟨(some 15), .load true 3 (.t 14), (some (10, true))⟩ <|
       .op ⟨(some 16), .call (.f 14) [(.t 11), (.t 15)], (some (10, true))⟩ <|
       .op ⟨(some 17), .un .not (.t 16), (some (10, true))⟩ <|
       .op ⟨(some 18), .pick (.t 10) (.t 17) (.c (.bool false)), none⟩ <|
       .done)) <|
    .cond (.t 18)
     (.skip)
     (.exit 0)) <|
   .block 1 <|
   .region [⟨(some 19), .mov (.t 5), none⟩,
     ⟨(some 20), .bin .add (.t 19) (.c (.int .i64 1)), none⟩,
     ⟨(some 5), .mov (.t 20), none⟩]) <|
 .seq
 (.draw false [4] (
    .op ⟨(some 22), .mov (.t 0), none⟩ <|
    .op ⟨(some 23), .mov (.t 5), none⟩ <|
    .op ⟨(some 24), .slice 3 (.t 22) none (some (.t 23)) none, none⟩ <|
    .op ⟨(some 29), .mov (.t 0), none⟩ <|
    .op ⟨(some 30), .mov (.t 5), none⟩ <|
    .op ⟨(some 31), .slice 3 (.t 29) (some (.t 30)) none none, none⟩ <|
    .alt (.op ⟨(some 21), .buildSl 3 [] [], none⟩ <|
     .alt (.op ⟨(some 25), .app 3 24 (.t 21) (.t 24), none⟩ <|
      .op ⟨(some 26), .load true 3 (.t 3), none⟩ <|
      .op ⟨(some 27), .buildSl 3 [(.int .i64 0), (.int .i64 0), (.int .i64 0)] [(0, 3, (.t 26))], none⟩ <|
      .op ⟨(some 28), .app 3 24 (.t 25) (.t 27), none⟩ <|
      .op ⟨(some 32), .app 3 24 (.t 28) (.t 31), none⟩ <|
      .op ⟨(some 4), .mov (.t 32), none⟩ <|
      .done) <|
     .op ⟨(some 26), .load true 3 (.t 3), none⟩ <|
     .alt (.op ⟨(some 25), .app 3 24 (.t 21) (.t 24), none⟩ <|
      .op ⟨(some 27), .buildSl 3 [(.int .i64 0), (.int .i64 0), (.int .i64 0)] [(0, 3, (.t 26))], none⟩ <|
      .op ⟨(some 28), .app 3 24 (.t 25) (.t 27), none⟩ <|
      .op ⟨(some 32), .app 3 24 (.t 28) (.t 31), none⟩ <|
      .op ⟨(some 4), .mov (.t 32), none⟩ <|
      .done) <|
     .op ⟨(some 27), .buildSl 3 [(.int .i64 0), (.int .i64 0), (.int .i64 0)] [(0, 3, (.t 26))], none⟩ <|
     .op ⟨(some 25), .app 3 24 (.t 21) (.t 24), none⟩ <|
     .op ⟨(some 28), .app 3 24 (.t 25) (.t 27), none⟩ <|
     .op ⟨(some 32), .app 3 24 (.t 28) (.t 31), none⟩ <|
     .op ⟨(some 4), .mov (.t 32), none⟩ <|
     .done) <|
    .op ⟨(some 26), .load true 3 (.t 3), none⟩ <|
    .alt (.op ⟨(some 21), .buildSl 3 [] [], none⟩ <|
     .alt (.op ⟨(some 25), .app 3 24 (.t 21) (.t 24), none⟩ <|
      .op ⟨(some 27), .buildSl 3 [(.int .i64 0), (.int .i64 0), (.int .i64 0)] [(0, 3, (.t 26))], none⟩ <|
      .op ⟨(some 28), .app 3 24 (.t 25) (.t 27), none⟩ <|
      .op ⟨(some 32), .app 3 24 (.t 28) (.t 31), none⟩ <|
      .op ⟨(some 4), .mov (.t 32), none⟩ <|
      .done) <|
     .op ⟨(some 27), .buildSl 3 [(.int .i64 0), (.int .i64 0), (.int .i64 0)] [(0, 3, (.t 26))], none⟩ <|
     .op ⟨(some 25), .app 3 24 (.t 21) (.t 24), none⟩ <|
     .op ⟨(some 28), .app 3 24 (.t 25) (.t 27), none⟩ <|
     .op ⟨(some 32), .app 3 24 (.t 28) (.t 31), none⟩ <|
     .op ⟨(some 4), .mov (.t 32), none⟩ <|
     .done) <|
    .op ⟨(some 27), .buildSl 3 [(.int .i64 0), (.int .i64 0), (.int .i64 0)] [(0, 3, (.t 26))], none⟩ <|
    .op ⟨(some 21), .buildSl 3 [] [], none⟩ <|
    .op ⟨(some 25), .app 3 24 (.t 21) (.t 24), none⟩ <|
    .op ⟨(some 28), .app 3 24 (.t 25) (.t 27), none⟩ <|
    .op ⟨(some 32), .app 3 24 (.t 28) (.t 31), none⟩ <|
    .op ⟨(some 4), .mov (.t 32), none⟩ <|
    .done)) <|
 .ret, [.slot 4]⟩
theorem c6 : Code1 Try.prog 6 33 b6 := Code1.mk' Try.func6 (by kernel_rfl) (by kernel_rfl) Try.ntmps6

/-- fusee/fuseelaw45.out -/
def b7 : IFn := ⟨
 .seq
 (.region [⟨(some 6), .alloc [(.int .i64 0), (.int .i64 0), (.int .i64 0)], none⟩]) <|
 .seq
 (.region [⟨(some 7), .mov (.t 0), none⟩,
    ⟨(some 8), .mov (.t 1), none⟩,
    ⟨(some 9), .build [(.int .i64 0), (.int .i64 0)] [(0, 1, (.t 7)), (1, 1, (.t 8))], none⟩,
    ⟨(some 10), .mov (.t 2), none⟩,
    ⟨(some 11), .build [(.int .i64 0), (.int .i64 0), (.int .i64 0)] [(0, 2, (.t 9)), (2, 1, (.t 10))], none⟩,
    ⟨none, .store 3 (.t 6) (.t 11), none⟩]) <|
 .ret, [.cell 6 true 3]⟩
theorem c7 : Code1 Try.prog 7 12 b7 := Code1.mk' Try.func7 (by kernel_rfl) (by kernel_rfl) Try.ntmps7

/-- fusee/merge.Rows -/
def b8 : IFn := ⟨
 .seq
 (.region [⟨(some 2), .mov (.c (.sl none 0 (some 0))), none⟩,
    ⟨(some 3), .mov (.c (.int .i64 0)), none⟩]) <|
 .seq
 (.region [⟨(some 4), .mov (.c (.sl none 0 (some 0))), none⟩]) <|
 .seq
 (.seq
  (.region [⟨(some 9), .mov (.t 0), none⟩,
     ⟨(some 10), .len .sl (.t 9), none⟩,
     ⟨(some 11), .bin .gtr (.t 10) (.c (.int .i64 64)), none⟩]) <|
  .cond (.t 11)
   (.seq
    (.region [⟨(some 2), .mov (.c (.sl none 0 (some 0))), none⟩,
       ⟨(some 3), .mov (.c (.int .i64 2)), none⟩]) <|
    .ret)
   (.skip)) <|
 .seq
 (.seq
  (.region [⟨(some 12), .mov (.t 0), none⟩,
     ⟨(some 13), .len .sl (.t 12), none⟩,
     ⟨(some 14), .mov (.c (.int .i64 0)), none⟩]) <|
  .block 0 <|
  .loop [4, 12, 13, 14] <|
   .seq
   (.region [⟨(some 15), .bin .lss (.t 14) (.t 13), none⟩]) <|
   .seq
   (.cond (.t 15)
     (.skip)
     (.exit 0)) <|
   .seq
   (.block 1 <|
    .seq
    (.region [⟨(some 16), .mov (.t 14), none⟩,
       ⟨(some 17), .iaddr 1 (.t 12) (.t 14), none⟩,
       ⟨(some 18), .load false 1 (.t 17), none⟩,
       ⟨(some 5), .mov (.t 16), none⟩,
       ⟨(some 6), .mov (.t 18), none⟩]) <|
    .seq
    (.seq
     (.region [⟨(some 19), .mov (.t 6), none⟩,
        ⟨(some 20), .call (.f 15) [(.t 19), (.f 16)], none⟩,
        ⟨(some 21), .un .not (.t 20), none⟩]) <|
     .cond (.t 21)
      (.seq
       (.region [⟨(some 2), .mov (.c (.sl none 0 (some 0))), none⟩,
          ⟨(some 3), .mov (.c (.int .i64 2)), none⟩]) <|
       .ret)
      (.skip)) <|
    .seq
    (.region [⟨(some 22), .mov (.t 6), none⟩,
       ⟨(some 23), .len .sl (.t 22), none⟩,
       ⟨(some 24), .mov (.c (.int .i64 0)), none⟩]) <|
    .block 2 <|
    .loop [4, 5, 12, 13, 14, 22, 23, 24] <|
     .seq
     (.region [⟨(some 25), .bin .lss (.t 24) (.t 23), none⟩]) <|
     .seq
     (.cond (.t 25)
       (.skip)
       (.exit 2)) <|
     .seq
     (.block 3 <|
      .seq
      (.region [⟨(some 26), .iaddr 2 (.t 22) (.t 24), none⟩,
         ⟨(some 27), .load true 2 (.t 26), none⟩,
         ⟨(some 8), .alloc [(.int .i64 0), (.int .i64 0)], none⟩,
         ⟨none, .store 2 (.t 8) (.t 27), none⟩]) <|
      .region [⟨(some 28), .mov (.t 4), none⟩,
        ⟨(some 29), .load true 2 (.t 8), none⟩,
        ⟨(some 30), .mov (.t 5), none⟩,
        ⟨(some 31), .build [(.int .i64 0), (.int .i64 0), (.int .i64 0)] [(0, 2, (.t 29)), (2, 1, (.t 30))], none⟩,
        ⟨(some 32), .buildSl 3 [(.int .i64 0), (.int .i64 0), (.int .i64 0)] [(0, 3, (.t 31))], none⟩,
        ⟨(some 33), .app 3 24 (.t 28) (.t 32), none⟩,
        ⟨(some 4), .mov (.t 33), none⟩]) <|
     .region [⟨(some 34), .bin .add (.t 24) (.c (.int .i64 1)), none⟩,
       ⟨(some 24), .mov (.t 34), none⟩]) <|
   .region [⟨(some 35), .bin .add (.t 14) (.c (.int .i64 1)), none⟩,
     ⟨(some 14), .mov (.t 35), none⟩]) <|
 .seq
 (.region [⟨(some 36), .mov (.t 4), none⟩,
    ⟨(some 37), .call (.f 18) [(.t 36), (.f 19)], none⟩]) <|
 .seq
 (.region [⟨(some 38), .mov (.t 4), none⟩,
    ⟨(some 2), .mov (.t 38), none⟩,
    ⟨(some 3), .mov (.c (.int .i64 0)), none⟩]) <|
 .ret, [.slot 2, .slot 3]⟩
theorem c8 : Code1 Try.prog 8 39 b8 := Code1.mk' Try.func8 (by kernel_rfl) (by kernel_rfl) Try.ntmps8

/-- fusee/merge.New -/
def b9 : IFn := ⟨
 .seq
 (.region [⟨(some 2), .mov (.c (.ptr none)), none⟩]) <|
 .seq
 (.seq
  (.region [⟨(some 3), .mov (.t 0), none⟩,
     ⟨(some 4), .bin .lss (.t 3) (.c (.int .i64 1)), none⟩,
     ⟨(some 5), .mov (.t 4), none⟩,
     ⟨(some 6), .mov (.t 0), (some (5, false))⟩,
     ⟨(some 7), .bin .gtr (.t 6) (.c (.int .i64 64)), (some (5, false))⟩,
     ⟨(some 8), .pick (.t 5) (.c (.bool true)) (.t 7), none⟩]) <|
  .cond (.t 8)
   (.seq
    (.region [⟨(some 2), .mov (.c (.ptr none)), none⟩]) <|
    .ret)
   (.skip)) <|
 .seq
 (.region [⟨(some 9), .mov (.t 0), none⟩,
    ⟨(some 10), .mkSl [(.sl none 0 (some 0)), (.int .i64 0), (.bool false), (.bool false), (.bool false)] 40 (.t 9) (.t 9), none⟩,
    ⟨(some 11), .mov (.t 0), none⟩,
    ⟨(some 12), .build [(.sl none 0 (some 0)), (.sl none 0 (some 0)), (.int .i64 0), (.int .i64 0)] [(0, 1, (.t 10)), (3, 1, (.t 11))], none⟩,
    ⟨(some 13), .box (.t 12), none⟩,
    ⟨(some 2), .mov (.t 13), none⟩]) <|
 .ret, [.slot 2]⟩
theorem c9 : Code1 Try.prog 9 14 b9 := Code1.mk' Try.func9 (by kernel_rfl) (by kernel_rfl) Try.ntmps9

/-- fusee/merge.Merger.Put -/
def b10 : IFn := ⟨
 .seq
 (.region [⟨(some 5), .box (.t 2), none⟩,
    ⟨(some 6), .mov (.c (.int .i64 0)), none⟩]) <|
 .seq
 (.region [⟨(some 8), .mov (.t 0), none⟩,
    ⟨(some 9), .mov (.t 1), none⟩,
    ⟨(some 10), .call (.f 20) [(.t 8), (.t 9)], none⟩,
    ⟨(some 7), .mov (.t 10), none⟩]) <|
 .seq
 (.block 0 <|
  .seq
  (.region [⟨(some 12), .mov (.t 7), none⟩,
     ⟨(some 13), .eq false false [.ptr] (.t 12) (.c (.ptr none)), none⟩,
     ⟨(some 11), .mov (.t 13), none⟩]) <|
  .cond (.t 11)
   (.seq
    (.region [⟨(some 14), .mov (.t 0), none⟩,
       ⟨(some 15), .call (.f 21) [(.t 14)], none⟩,
       ⟨(some 6), .mov (.t 15), none⟩]) <|
    .ret)
   (.seq
    (.region [⟨(some 17), .mov (.t 7), none⟩,
       ⟨(some 18), .nilck (.t 17), none⟩,
       ⟨(some 19), .faddr 4 (.t 18), none⟩,
       ⟨(some 20), .load false 1 (.t 19), none⟩,
       ⟨(some 16), .mov (.t 20), none⟩]) <|
    .cond (.t 16)
     (.seq
      (.region [⟨(some 6), .mov (.c (.int .i64 8)), none⟩]) <|
      .ret)
     (.seq
      (.draw false [0, 1, 5, 7, 21] (
         .op ⟨(some 22), .mov (.t 7), none⟩ <|
         .op ⟨(some 23), .nilck (.t 22), none⟩ <|
         .op ⟨(some 24), .faddr 2 (.t 23), none⟩ <|
         .op ⟨(some 25), .load false 1 (.t 24), none⟩ <|
         .op ⟨(some 26), .mov (.t 25), none⟩ <|
         .op ⟨(some 27), .faddr 0 (.t 5), (some (26, true))⟩ <|
         .op ⟨(some 28), .load false 1 (.t 27), (some (26, true))⟩ <|
         .op ⟨(some 29), .mov (.t 7), (some (26, true))⟩ <|
         .op ⟨(some 30), .nilck (.t 29), (some (26, true))⟩ <|
         .op ⟨(some 31), .faddr 1 (.t 30), (some (26, true))⟩ <|
         .op ⟨(some 32), .load false 1 (.t 31), (some (26, true))⟩ <|
         .op ⟨(some 33), .bin .lss (.t 28) (.t 32), (some (26, true))⟩ <|
         .op ⟨(some 34), .pick (.t 26) (.t 33) (.c (.bool false)), none⟩ <|
         .op ⟨(some 21), .mov (.t 34), none⟩ <|
         .done)) <|
      .cond (.t 21)
       (.seq
        (.region [⟨(some 6), .mov (.c (.int .i64 2)), none⟩]) <|
        .ret)
       (.seq
        (.region [⟨(some 36), .mov (.t 0), none⟩,
           ⟨(some 37), .nilck (.t 36), none⟩,
           ⟨(some 38), .faddr 2 (.t 37), none⟩,
           ⟨(some 39), .load false 1 (.t 38), none⟩,
           ⟨(some 40), .bin .geq (.t 39) (.c (.int .i64 4096)), none⟩,
           ⟨(some 35), .mov (.t 40), none⟩]) <|
        .cond (.t 35)
         (.seq
          (.region [⟨(some 6), .mov (.c (.int .i64 3)), none⟩]) <|
          .ret)
         (.skip))))) <|
 .seq
 (.draw false [0, 1, 5, 7] (
    .op ⟨(some 41), .mov (.t 7), none⟩ <|
    .op ⟨(some 42), .mov (.t 7), none⟩ <|
    .op ⟨(some 43), .nilck (.t 42), none⟩ <|
    .op ⟨(some 44), .faddr 0 (.t 43), none⟩ <|
    .op ⟨(some 45), .load false 1 (.t 44), none⟩ <|
    .op ⟨(some 46), .load true 2 (.t 5), none⟩ <|
    .op ⟨(some 47), .buildSl 2 [(.int .i64 0), (.int .i64 0)] [(0, 2, (.t 46))], none⟩ <|
    .op ⟨(some 48), .app 2 16 (.t 45) (.t 47), none⟩ <|
    .op ⟨(some 49), .nilck (.t 41), none⟩ <|
    .op ⟨(some 50), .faddr 0 (.t 49), none⟩ <|
    .op ⟨none, .store 1 (.t 50) (.t 48), none⟩ <|
    .done)) <|
 .seq
 (.region [⟨(some 51), .mov (.t 7), none⟩,
    ⟨(some 52), .mov (.t 7), none⟩,
    ⟨(some 53), .faddr 0 (.t 5), none⟩,
    ⟨(some 54), .load false 1 (.t 53), none⟩,
    ⟨(some 55), .nilck (.t 51), none⟩,
    ⟨(some 56), .faddr 1 (.t 55), none⟩,
    ⟨none, .store 1 (.t 56) (.t 54), none⟩,
    ⟨(some 57), .nilck (.t 52), none⟩,
    ⟨(some 58), .faddr 2 (.t 57), none⟩,
    ⟨none, .store 1 (.t 58) (.c (.bool true)), none⟩]) <|
 .seq
 (.region [⟨(some 59), .mov (.t 0), none⟩,
    ⟨(some 60), .nilck (.t 59), none⟩,
    ⟨(some 61), .faddr 2 (.t 60), none⟩,
    ⟨(some 62), .load false 1 (.t 61), none⟩,
    ⟨(some 63), .bin .add (.t 62) (.c (.int .i64 1)), none⟩,
    ⟨(some 64), .nilck (.t 59), none⟩,
    ⟨(some 65), .faddr 2 (.t 64), none⟩,
    ⟨none, .store 1 (.t 65) (.t 63), none⟩]) <|
 .seq
 (.seq
  (.region [⟨(some 66), .mov (.t 7), none⟩,
     ⟨(some 67), .nilck (.t 66), none⟩,
     ⟨(some 68), .faddr 3 (.t 67), none⟩,
     ⟨(some 69), .load false 1 (.t 68), none⟩,
     ⟨(some 70), .un .not (.t 69), none⟩]) <|
  .cond (.t 70)
   (.seq
    (.region [⟨(some 71), .mov (.t 0), none⟩,
       ⟨(some 72), .nilck (.t 71), none⟩,
       ⟨(some 73), .faddr 3 (.t 72), none⟩,
       ⟨(some 74), .load false 1 (.t 73), none⟩,
       ⟨(some 75), .bin .sub (.t 74) (.c (.int .i64 1)), none⟩,
       ⟨(some 76), .nilck (.t 71), none⟩,
       ⟨(some 77), .faddr 3 (.t 76), none⟩,
       ⟨none, .store 1 (.t 77) (.t 75), none⟩]) <|
    .region [⟨(some 78), .mov (.t 0), none⟩,
      ⟨(some 79), .mov (.t 1), none⟩,
      ⟨(some 80), .call (.f 22) [(.t 78), (.t 79)], none⟩])
   (.skip)) <|
 .seq
 (.region [⟨(some 6), .mov (.c (.int .i64 0)), none⟩]) <|
 .ret, [.slot 6]⟩
theorem c10 : Code1 Try.prog 10 81 b10 := Code1.mk' Try.func10 (by kernel_rfl) (by kernel_rfl) Try.ntmps10

/-- fusee/merge.Merger.Take -/
def b11 : IFn := ⟨
 .seq
 (.region [⟨(some 2), .alloc [(.int .i64 0), (.int .i64 0), (.int .i64 0)], none⟩,
    ⟨(some 3), .mov (.c (.bool false)), none⟩]) <|
 .seq
 (.seq
  (.region [⟨(some 7), .mov (.t 0), none⟩,
     ⟨(some 8), .call (.f 23) [(.t 7)], none⟩,
     ⟨(some 9), .un .not (.t 8), none⟩]) <|
  .cond (.t 9)
   (.seq
    (.region [⟨(some 10), .build [(.int .i64 0), (.int .i64 0), (.int .i64 0)] [], none⟩,
       ⟨none, .store 3 (.t 2) (.t 10), none⟩,
       ⟨(some 3), .mov (.c (.bool false)), none⟩]) <|
    .ret)
   (.skip)) <|
 .seq
 (.region [⟨(some 12), .mov (.t 0), none⟩,
    ⟨(some 13), .nilck (.t 12), none⟩,
    ⟨(some 14), .faddr 1 (.t 13), none⟩,
    ⟨(some 15), .mkIfc 63 (.t 14), none⟩,
    ⟨(some 16), .call (.f 24) [(.t 15)], none⟩,
    ⟨(some 17), .tassert 30 (.agg [(.int .i64 0), (.int .i64 0), (.int .i64 0)]) (.t 16) true, none⟩,
    ⟨(some 11), .mov (.t 17), none⟩,
    ⟨(some 18), .extract (.t 11) 0, none⟩,
    ⟨(some 19), .extract (.t 11) 1, none⟩,
    ⟨(some 4), .alloc [(.int .i64 0), (.int .i64 0), (.int .i64 0)], none⟩,
    ⟨none, .store 3 (.t 4) (.t 18), none⟩,
    ⟨(some 5), .mov (.t 19), none⟩]) <|
 .seq
 (.region [⟨(some 20), .mov (.t 0), none⟩,
    ⟨(some 21), .nilck (.t 20), none⟩,
    ⟨(some 22), .faddr 2 (.t 21), none⟩,
    ⟨(some 23), .load false 1 (.t 22), none⟩,
    ⟨(some 24), .bin .sub (.t 23) (.c (.int .i64 1)), none⟩,
    ⟨(some 25), .nilck (.t 20), none⟩,
    ⟨(some 26), .faddr 2 (.t 25), none⟩,
    ⟨none, .store 1 (.t 26) (.t 24), none⟩]) <|
 .seq
 (.region [⟨(some 27), .mov (.t 0), none⟩,
    ⟨(some 28), .faddr 2 (.t 4), none⟩,
    ⟨(some 29), .load false 1 (.t 28), none⟩,
    ⟨(some 30), .call (.f 22) [(.t 27), (.t 29)], none⟩]) <|
 .seq
 (.seq
  (.draw false [0, 2, 4, 6] (
     .op ⟨(some 31), .mov (.t 0), none⟩ <|
     .op ⟨(some 32), .nilck (.t 31), none⟩ <|
     .op ⟨(some 33), .faddr 0 (.t 32), none⟩ <|
     .op ⟨(some 34), .load false 1 (.t 33), none⟩ <|
     .op ⟨(some 35), .faddr 2 (.t 4), none⟩ <|
     .op ⟨(some 36), .load false 1 (.t 35), none⟩ <|
     .op ⟨(some 37), .iaddr 5 (.t 34) (.t 36), none⟩ <|
     .op ⟨(some 6), .mov (.t 37), none⟩ <|
     .done)) <|
  .seq
  (.region [⟨(some 38), .mov (.t 6), none⟩,
     ⟨(some 39), .nilck (.t 38), none⟩,
     ⟨(some 40), .faddr 3 (.t 39), none⟩,
     ⟨(some 41), .load false 1 (.t 40), none⟩,
     ⟨(some 42), .un .not (.t 41), none⟩,
     ⟨(some 43), .mov (.t 42), none⟩,
     ⟨(some 44), .mov (.t 6), (some (43, true))⟩,
     ⟨(some 45), .nilck (.t 44), (some (43, true))⟩,
     ⟨(some 46), .faddr 4 (.t 45), (some (43, true))⟩,
     ⟨(some 47), .load false 1 (.t 46), (some (43, true))⟩,
     ⟨(some 48), .un .not (.t 47), (some (43, true))⟩,
     ⟨(some 49), .pick (.t 43) (.t 48) (.c (.bool false)), none⟩]) <|
  .cond (.t 49)
   (.region [⟨(some 50), .mov (.t 0), none⟩,
      ⟨(some 51), .nilck (.t 50), none⟩,
      ⟨(some 52), .faddr 3 (.t 51), none⟩,
      ⟨(some 53), .load false 1 (.t 52), none⟩,
      ⟨(some 54), .bin .add (.t 53) (.c (.int .i64 1)), none⟩,
      ⟨(some 55), .nilck (.t 50), none⟩,
      ⟨(some 56), .faddr 3 (.t 55), none⟩,
      ⟨none, .store 1 (.t 56) (.t 54), none⟩])
   (.skip)) <|
 .seq
 (.region [⟨(some 57), .load true 3 (.t 4), none⟩,
    ⟨none, .store 3 (.t 2) (.t 57), none⟩,
    ⟨(some 3), .mov (.c (.bool true)), none⟩]) <|
 .ret, [.cell 2 true 3, .slot 3]⟩
theorem c11 : Code1 Try.prog 11 58 b11 := Code1.mk' Try.func11 (by kernel_rfl) (by kernel_rfl) Try.ntmps11

/-- fusee/merge.Merger.Close -/
def b12 : IFn := ⟨
 .seq
 (.region [⟨(some 4), .mov (.c (.int .i64 0)), none⟩]) <|
 .seq
 (.region [⟨(some 6), .mov (.t 0), none⟩,
    ⟨(some 7), .mov (.t 1), none⟩,
    ⟨(some 8), .call (.f 20) [(.t 6), (.t 7)], none⟩,
    ⟨(some 5), .mov (.t 8), none⟩]) <|
 .seq
 (.block 0 <|
  .seq
  (.region [⟨(some 10), .mov (.t 5), none⟩,
     ⟨(some 11), .eq false false [.ptr] (.t 10) (.c (.ptr none)), none⟩,
     ⟨(some 9), .mov (.t 11), none⟩]) <|
  .cond (.t 9)
   (.seq
    (.region [⟨(some 12), .mov (.t 0), none⟩,
       ⟨(some 13), .call (.f 21) [(.t 12)], none⟩,
       ⟨(some 4), .mov (.t 13), none⟩]) <|
    .ret)
   (.seq
    (.region [⟨(some 15), .mov (.t 5), none⟩,
       ⟨(some 16), .nilck (.t 15), none⟩,
       ⟨(some 17), .faddr 4 (.t 16), none⟩,
       ⟨(some 18), .load false 1 (.t 17), none⟩,
       ⟨(some 14), .mov (.t 18), none⟩]) <|
    .cond (.t 14)
     (.seq
      (.region [⟨(some 4), .mov (.c (.int .i64 8)), none⟩]) <|
      .ret)
     (.skip))) <|
 .seq
 (.region [⟨(some 19), .mov (.t 5), none⟩,
    ⟨(some 20), .nilck (.t 19), none⟩,
    ⟨(some 21), .faddr 4 (.t 20), none⟩,
    ⟨none, .store 1 (.t 21) (.c (.bool true)), none⟩]) <|
 .seq
 (.seq
  (.region [⟨(some 22), .mov (.t 5), none⟩,
     ⟨(some 23), .nilck (.t 22), none⟩,
     ⟨(some 24), .faddr 3 (.t 23), none⟩,
     ⟨(some 25), .load false 1 (.t 24), none⟩,
     ⟨(some 26), .un .not (.t 25), none⟩]) <|
  .cond (.t 26)
   (.region [⟨(some 27), .mov (.t 0), none⟩,
      ⟨(some 28), .nilck (.t 27), none⟩,
      ⟨(some 29), .faddr 3 (.t 28), none⟩,
      ⟨(some 30), .load false 1 (.t 29), none⟩,
      ⟨(some 31), .bin .sub (.t 30) (.c (.int .i64 1)), none⟩,
      ⟨(some 32), .nilck (.t 27), none⟩,
      ⟨(some 33), .faddr 3 (.t 32), none⟩,
      ⟨none, .store 1 (.t 33) (.t 31), none⟩])
   (.skip)) <|
 .seq
 (.region [⟨(some 4), .mov (.c (.int .i64 0)), none⟩]) <|
 .ret, [.slot 4]⟩
theorem c12 : Code1 Try.prog 12 34 b12 := Code1.mk' Try.func12 (by kernel_rfl) (by kernel_rfl) Try.ntmps12

/-- fusee/merge.Merger.Len -/
def b13 : IFn := ⟨
 .seq
 (.region [⟨(some 2), .mov (.c (.int .i64 0)), none⟩]) <|
 .seq
 (.seq
  (.region [⟨(some 3), .mov (.t 0), none⟩,
     ⟨(some 4), .eq false false [.ptr] (.t 3) (.c (.ptr none)), none⟩]) <|
  .cond (.t 4)
   (.seq
    (.region [⟨(some 2), .mov (.c (.int .i64 0)), none⟩]) <|
    .ret)
   (.skip)) <|
 .seq
 (.region [⟨(some 5), .mov (.t 0), none⟩,
    ⟨(some 6), .nilck (.t 5), none⟩,
    ⟨(some 7), .faddr 2 (.t 6), none⟩,
    ⟨(some 8), .load false 1 (.t 7), none⟩,
    ⟨(some 2), .mov (.t 8), none⟩]) <|
 .ret, [.slot 2]⟩
theorem c13 : Code1 Try.prog 13 9 b13 := Code1.mk' Try.func13 (by kernel_rfl) (by kernel_rfl) Try.ntmps13

/-- fusee/fuseelaw45.ahead -/
def b14 : IFn := ⟨
 .seq
 (.region [⟨(some 2), .box (.t 0), none⟩,
    ⟨(some 3), .box (.t 1), none⟩,
    ⟨(some 4), .mov (.c (.bool false)), none⟩]) <|
 .seq
 (.region [⟨(some 5), .faddr 0 (.t 2), none⟩,
    ⟨(some 6), .faddr 0 (.t 5), none⟩,
    ⟨(some 7), .load false 1 (.t 6), none⟩,
    ⟨(some 8), .faddr 0 (.t 3), none⟩,
    ⟨(some 9), .faddr 0 (.t 8), none⟩,
    ⟨(some 10), .load false 1 (.t 9), none⟩,
    ⟨(some 11), .bin .lss (.t 7) (.t 10), none⟩,
    ⟨(some 12), .mov (.t 11), none⟩,
    ⟨(some 13), .faddr 0 (.t 2), (some (12, false))⟩,
    ⟨(some 14), .faddr 0 (.t 13), (some (12, false))⟩,
    ⟨(some 15), .load false 1 (.t 14), (some (12, false))⟩,
    ⟨(some 16), .faddr 0 (.t 3), (some (12, false))⟩,
    ⟨(some 17), .faddr 0 (.t 16), (some (12, false))⟩,
    ⟨(some 18), .load false 1 (.t 17), (some (12, false))⟩,
    ⟨(some 19), .bin .eql (.t 15) (.t 18), (some (12, false))⟩,
    ⟨(some 20), .mov (.t 19), (some (12, false))⟩,
    ⟨(some 21), .faddr 2 (.t 2), (some (20, true))⟩,
    ⟨(some 22), .load false 1 (.t 21), (some (20, true))⟩,
    ⟨(some 23), .faddr 2 (.t 3), (some (20, true))⟩,
    ⟨(some 24), .load false 1 (.t 23), (some (20, true))⟩,
    ⟨(some 25), .bin .lss (.t 22) (.t 24), (some (20, true))⟩,
    ⟨(some 26), .pick (.t 20) (.t 25) (.c (.bool false)), (some (12, false))⟩,
    ⟨(some 27), .pick (.t 12) (.c (.bool true)) (.t 26), none⟩,
    ⟨(some 4), .mov (.t 27), none⟩]) <|
 .ret, [.slot 4]⟩
theorem c14 : Code1 Try.prog 14 28 b14 := Code1.mk' Try.func14 (by kernel_rfl) (by kernel_rfl) Try.ntmps14

/-- slices.IsSortedFunc[[]fusee/merge.Item,fusee/merge.Item] -/
def b15 : IFn := ⟨
 .seq
 (.region [⟨(some 4), .mov (.c (.bool false)), none⟩]) <|
 .seq
 (.seq
  (.region [⟨(some 6), .mov (.t 0), none⟩,
     ⟨(some 7), .len .sl (.t 6), none⟩,
     ⟨(some 8), .bin .sub (.t 7) (.c (.int .i64 1)), none⟩,
     ⟨(some 5), .mov (.t 8), none⟩]) <|
  .block 0 <|
  .loop [0, 1, 5] <|
   .seq
   (.seq
    (.region [⟨(some 9), .mov (.t 5), none⟩,
       ⟨(some 10), .bin .gtr (.t 9) (.c (.int .i64 0)), none⟩]) <|
    .cond (.t 10)
     (.skip)
     (.exit 0)) <|
   .seq
   (.block 1 <|
    .seq
    (.draw false [0, 1, 5, 24] (
       .op ⟨(some 13), .mov (.t 1), none⟩ <|
       .op ⟨(some 14), .mov (.t 0), none⟩ <|
       .op ⟨(some 15), .mov (.t 5), none⟩ <|
       .op ⟨(some 16), .iaddr 2 (.t 14) (.t 15), none⟩ <|
       .op ⟨(some 17), .load true 2 (.t 16), none⟩ <|
       .op ⟨(some 18), .mov (.t 0), none⟩ <|
       .op ⟨(some 19), .mov (.t 5), none⟩ <|
       .op ⟨(some 20), .bin .sub (.t 19) (.c (.int .i64 1)), none⟩ <|
       .op ⟨(some 21), .iaddr 2 (.t 18) (.t 20), none⟩ <|
       .op ⟨(some 22), .load true 2 (.t 21), none⟩ <|
       .op ⟨(some 23), .call (.t 13) [(.t 17), (.t 22)], none⟩ <|
       .op ⟨(some 24), .bin .lss (.t 23) (.c (.int .i64 0)), none⟩ <|
       .done)) <|
    .cond (.t 24)
     (.seq
      (.region [⟨(some 4), .mov (.c (.bool false)), none⟩]) <|
      .ret)
     (.skip)) <|
   .region [⟨(some 11), .mov (.t 5), none⟩,
     ⟨(some 12), .bin .sub (.t 11) (.c (.int .i64 1)), none⟩,
     ⟨(some 5), .mov (.t 12), none⟩]) <|
 .seq
 (.region [⟨(some 4), .mov (.c (.bool true)), none⟩]) <|
 .ret, [.slot 4]⟩
theorem c15 : Code1 Try.prog 15 25 b15 := Code1.mk' Try.func15 (by kernel_rfl) (by kernel_rfl) Try.ntmps15

/-- fusee/merge.Rows$1 -/
def b16 : IFn := ⟨
 .seq
 (.region [⟨(some 2), .box (.t 0), none⟩,
    ⟨(some 3), .box (.t 1), none⟩,
    ⟨(some 4), .mov (.c (.int .i64 0)), none⟩]) <|
 .seq
 (.region [⟨(some 5), .faddr 0 (.t 2), none⟩,
    ⟨(some 6), .load false 1 (.t 5), none⟩,
    ⟨(some 7), .faddr 0 (.t 3), none⟩,
    ⟨(some 8), .load false 1 (.t 7), none⟩,
    ⟨(some 9), .call (.f 17) [(.t 6), (.t 8)], none⟩,
    ⟨(some 4), .mov (.t 9), none⟩]) <|
 .ret, [.slot 4]⟩
theorem c16 : Code1 Try.prog 16 10 b16 := Code1.mk' Try.func16 (by kernel_rfl) (by kernel_rfl) Try.ntmps16

/-- cmp.Compare[int] -/
def b17 : IFn := ⟨
 .seq
 (.region [⟨(some 4), .mov (.c (.int .i64 0)), none⟩]) <|
 .seq
 (.region [⟨(some 7), .mov (.t 0), none⟩,
    ⟨(some 8), .call (.f 25) [(.t 7)], none⟩,
    ⟨(some 5), .mov (.t 8), none⟩]) <|
 .seq
 (.region [⟨(some 9), .mov (.t 1), none⟩,
    ⟨(some 10), .call (.f 25) [(.t 9)], none⟩,
    ⟨(some 6), .mov (.t 10), none⟩]) <|
 .seq
 (.seq
  (.region [⟨(some 11), .mov (.t 5), none⟩]) <|
  .cond (.t 11)
   (.seq
    (.seq
     (.region [⟨(some 12), .mov (.t 6), none⟩]) <|
     .cond (.t 12)
      (.seq
       (.region [⟨(some 4), .mov (.c (.int .i64 0)), none⟩]) <|
       .ret)
      (.skip)) <|
    .seq
    (.region [⟨(some 4), .mov (.c (.int .i64 (-1))), none⟩]) <|
    .ret)
   (.skip)) <|
 .seq
 (.seq
  (.region [⟨(some 13), .mov (.t 6), none⟩]) <|
  .cond (.t 13)
   (.seq
    (.region [⟨(some 4), .mov (.c (.int .i64 1)), none⟩]) <|
    .ret)
   (.skip)) <|
 .seq
 (.seq
  (.region [⟨(some 14), .mov (.t 0), none⟩,
     ⟨(some 15), .mov (.t 1), none⟩,
     ⟨(some 16), .bin .lss (.t 14) (.t 15), none⟩]) <|
  .cond (.t 16)
   (.seq
    (.region [⟨(some 4), .mov (.c (.int .i64 (-1))), none⟩]) <|
    .ret)
   (.skip)) <|
 .seq
 (.seq
  (.region [⟨(some 17), .mov (.t 0), none⟩,
     ⟨(some 18), .mov (.t 1), none⟩,
     ⟨(some 19), .bin .gtr (.t 17) (.t 18), none⟩]) <|
  .cond (.t 19)
   (.seq
    (.region [⟨(some 4), .mov (.c (.int .i64 1)), none⟩]) <|
    .ret)
   (.skip)) <|
 .seq
 (.region [⟨(some 4), .mov (.c (.int .i64 0)), none⟩]) <|
 .ret, [.slot 4]⟩
theorem c17 : Code1 Try.prog 17 20 b17 := Code1.mk' Try.func17 (by kernel_rfl) (by kernel_rfl) Try.ntmps17

/-- slices.SortStableFunc[[]fusee/merge.Out,fusee/merge.Out] -/
def b18 : IFn := ⟨
 .region [⟨(some 4), .mov (.t 0), none⟩,
   ⟨(some 5), .mov (.t 0), none⟩,
   ⟨(some 6), .len .sl (.t 5), none⟩,
   ⟨(some 7), .mov (.t 1), none⟩,
   ⟨(some 8), .call (.f 26) [(.t 4), (.t 6), (.t 7)], none⟩], []⟩
theorem c18 : Code1 Try.prog 18 9 b18 := Code1.mk' Try.func18 (by kernel_rfl) (by kernel_rfl) Try.ntmps18

/-- fusee/merge.order -/
def b19 : IFn := ⟨
 .seq
 (.region [⟨(some 2), .box (.t 0), none⟩,
    ⟨(some 3), .box (.t 1), none⟩,
    ⟨(some 4), .mov (.c (.int .i64 0)), none⟩]) <|
 .seq
 (.draw true [4] (
    .op ⟨(some 5), .faddr 0 (.t 2), none⟩ <|
    .op ⟨(some 6), .faddr 0 (.t 5), none⟩ <|
    .op ⟨(some 7), .load false 1 (.t 6), none⟩ <|
    .op ⟨(some 8), .faddr 0 (.t 3), none⟩ <|
    .op ⟨(some 9), .faddr 0 (.t 8), none⟩ <|
    .op ⟨(some 10), .load false 1 (.t 9), none⟩ <|
    .op ⟨(some 12), .faddr 2 (.t 2), none⟩ <|
    .op ⟨(some 14), .faddr 2 (.t 3), none⟩ <|
    .alt (.alt (.op ⟨(some 11), .call (.f 17) [(.t 7), (.t 10)], none⟩ <|
      .op ⟨(some 13), .load false 1 (.t 12), none⟩ <|
      .op ⟨(some 15), .load false 1 (.t 14), none⟩ <|
      .op ⟨(some 16), .call (.f 17) [(.t 13), (.t 15)], none⟩ <|
      .op ⟨(some 17), .buildSl 1 [(.int .i64 0), (.int .i64 0)] [(0, 1, (.t 11)), (1, 1, (.t 16))], none⟩ <|
      .op ⟨(some 18), .call (.f 27) [(.t 17)], none⟩ <|
      .op ⟨(some 4), .mov (.t 18), none⟩ <|
      .done) <|
     .op ⟨(some 13), .load false 1 (.t 12), none⟩ <|
     .alt (.op ⟨(some 11), .call (.f 17) [(.t 7), (.t 10)], none⟩ <|
      .op ⟨(some 15), .load false 1 (.t 14), none⟩ <|
      .op ⟨(some 16), .call (.f 17) [(.t 13), (.t 15)], none⟩ <|
      .op ⟨(some 17), .buildSl 1 [(.int .i64 0), (.int .i64 0)] [(0, 1, (.t 11)), (1, 1, (.t 16))], none⟩ <|
      .op ⟨(some 18), .call (.f 27) [(.t 17)], none⟩ <|
      .op ⟨(some 4), .mov (.t 18), none⟩ <|
      .done) <|
     .op ⟨(some 15), .load false 1 (.t 14), none⟩ <|
     .op ⟨(some 11), .call (.f 17) [(.t 7), (.t 10)], none⟩ <|
     .op ⟨(some 16), .call (.f 17) [(.t 13), (.t 15)], none⟩ <|
     .op ⟨(some 17), .buildSl 1 [(.int .i64 0), (.int .i64 0)] [(0, 1, (.t 11)), (1, 1, (.t 16))], none⟩ <|
     .op ⟨(some 18), .call (.f 27) [(.t 17)], none⟩ <|
     .op ⟨(some 4), .mov (.t 18), none⟩ <|
     .done) <|
    .op ⟨(some 15), .load false 1 (.t 14), none⟩ <|
    .alt (.op ⟨(some 11), .call (.f 17) [(.t 7), (.t 10)], none⟩ <|
     .op ⟨(some 13), .load false 1 (.t 12), none⟩ <|
     .op ⟨(some 16), .call (.f 17) [(.t 13), (.t 15)], none⟩ <|
     .op ⟨(some 17), .buildSl 1 [(.int .i64 0), (.int .i64 0)] [(0, 1, (.t 11)), (1, 1, (.t 16))], none⟩ <|
     .op ⟨(some 18), .call (.f 27) [(.t 17)], none⟩ <|
     .op ⟨(some 4), .mov (.t 18), none⟩ <|
     .done) <|
    .op ⟨(some 13), .load false 1 (.t 12), none⟩ <|
    .op ⟨(some 11), .call (.f 17) [(.t 7), (.t 10)], none⟩ <|
    .op ⟨(some 16), .call (.f 17) [(.t 13), (.t 15)], none⟩ <|
    .op ⟨(some 17), .buildSl 1 [(.int .i64 0), (.int .i64 0)] [(0, 1, (.t 11)), (1, 1, (.t 16))], none⟩ <|
    .op ⟨(some 18), .call (.f 27) [(.t 17)], none⟩ <|
    .op ⟨(some 4), .mov (.t 18), none⟩ <|
    .done)) <|
 .ret, [.slot 4]⟩
theorem c19 : Code1 Try.prog 19 19 b19 := Code1.mk' Try.func19 (by kernel_rfl) (by kernel_rfl) Try.ntmps19

/-- fusee/merge.Merger.at -/
def b20 : IFn := ⟨
 .seq
 (.region [⟨(some 4), .mov (.c (.ptr none)), none⟩]) <|
 .seq
 (.seq
  (.region [⟨(some 5), .mov (.t 0), none⟩,
     ⟨(some 6), .eq false false [.ptr] (.t 5) (.c (.ptr none)), none⟩,
     ⟨(some 7), .mov (.t 6), none⟩,
     ⟨(some 8), .mov (.t 1), (some (7, false))⟩,
     ⟨(some 9), .bin .lss (.t 8) (.c (.int .i64 0)), (some (7, false))⟩,
     ⟨(some 10), .pick (.t 7) (.c (.bool true)) (.t 9), none⟩,
     ⟨(some 11), .mov (.t 10), none⟩,
     ⟨(some 12), .mov (.t 1), (some (11, false))⟩,
     ⟨(some 13), .mov (.t 0), (some (11, false))⟩,
     ⟨(some 14), .nilck (.t 13), (some (11, false))⟩,
     ⟨(some 15), .faddr 0 (.t 14), (some (11, false))⟩,
     ⟨(some 16), .load false 1 (.t 15), (some (11, false))⟩,
     ⟨(some 17), .len .sl (.t 16), (some (11, false))⟩,
     ⟨(some 18), .bin .geq (.t 12) (.t 17), (some (11, false))⟩,
     ⟨(some 19), .pick (.t 11) (.c (.bool true)) (.t 18), none⟩]) <|
  .cond (.t 19)
   (.seq
    (.region [⟨(some 4), .mov (.c (.ptr none)), none⟩]) <|
    .ret)
   (.skip)) <|
 .seq
 (.region [⟨(some 20), .mov (.t 0), none⟩,
    ⟨(some 21), .nilck (.t 20), none⟩,
    ⟨(some 22), .faddr 0 (.t 21), none⟩,
    ⟨(some 23), .load false 1 (.t 22), none⟩,
    ⟨(some 24), .mov (.t 1), none⟩,
    ⟨(some 25), .iaddr 5 (.t 23) (.t 24), none⟩,
    ⟨(some 4), .mov (.t 25), none⟩]) <|
 .ret, [.slot 4]⟩
theorem c20 : Code1 Try.prog 20 26 b20 := Code1.mk' Try.func20 (by kernel_rfl) (by kernel_rfl) Try.ntmps20

/-- fusee/merge.Merger.missing -/
def b21 : IFn := ⟨
 .seq
 (.region [⟨(some 2), .mov (.c (.int .i64 0)), none⟩]) <|
 .seq
 (.seq
  (.region [⟨(some 3), .mov (.t 0), none⟩,
     ⟨(some 4), .eq false false [.ptr] (.t 3) (.c (.ptr none)), none⟩]) <|
  .cond (.t 4)
   (.seq
    (.region [⟨(some 2), .mov (.c (.int .i64 1)), none⟩]) <|
    .ret)
   (.skip)) <|
 .seq
 (.region [⟨(some 2), .mov (.c (.int .i64 2)), none⟩]) <|
 .ret, [.slot 2]⟩
theorem c21 : Code1 Try.prog 21 5 b21 := Code1.mk' Try.func21 (by kernel_rfl) (by kernel_rfl) Try.ntmps21

/-- fusee/merge.Merger.lift -/
def b22 : IFn := ⟨
 .seq
 (.region [⟨(some 5), .mov (.t 0), none⟩,
    ⟨(some 6), .nilck (.t 5), none⟩,
    ⟨(some 7), .faddr 0 (.t 6), none⟩,
    ⟨(some 8), .load false 1 (.t 7), none⟩,
    ⟨(some 9), .mov (.t 1), none⟩,
    ⟨(some 10), .iaddr 5 (.t 8) (.t 9), none⟩,
    ⟨(some 4), .mov (.t 10), none⟩]) <|
 .seq
 (.region [⟨(some 11), .mov (.t 4), none⟩,
    ⟨(some 12), .mov (.t 4), none⟩,
    ⟨(some 13), .nilck (.t 12), none⟩,
    ⟨(some 14), .faddr 0 (.t 13), none⟩,
    ⟨(some 15), .load false 1 (.t 14), none⟩,
    ⟨(some 16), .len .sl (.t 15), none⟩,
    ⟨(some 17), .bin .gtr (.t 16) (.c (.int .i64 0)), none⟩,
    ⟨(some 18), .nilck (.t 11), none⟩,
    ⟨(some 19), .faddr 3 (.t 18), none⟩,
    ⟨none, .store 1 (.t 19) (.t 17), none⟩]) <|
 .seq
 (.region [⟨(some 20), .mov (.t 4), none⟩,
    ⟨(some 21), .nilck (.t 20), none⟩,
    ⟨(some 22), .faddr 3 (.t 21), none⟩,
    ⟨(some 23), .load false 1 (.t 22), none⟩]) <|
 .cond (.t 23)
  (.seq
   (.draw false [4] (
      .op ⟨(some 24), .mov (.t 0), none⟩ <|
      .op ⟨(some 25), .nilck (.t 24), none⟩ <|
      .op ⟨(some 26), .faddr 1 (.t 25), none⟩ <|
      .op ⟨(some 27), .mkIfc 63 (.t 26), none⟩ <|
      .op ⟨(some 28), .mov (.t 4), none⟩ <|
      .op ⟨(some 29), .nilck (.t 28), none⟩ <|
      .op ⟨(some 30), .faddr 0 (.t 29), none⟩ <|
      .op ⟨(some 31), .load false 1 (.t 30), none⟩ <|
      .op ⟨(some 32), .iaddr 2 (.t 31) (.c (.int .i64 0)), none⟩ <|
      .op ⟨(some 33), .load true 2 (.t 32), none⟩ <|
      .op ⟨(some 34), .mov (.t 1), none⟩ <|
      .op ⟨(some 35), .build [(.int .i64 0), (.int .i64 0), (.int .i64 0)] [(0, 2, (.t 33)), (2, 1, (.t 34))], none⟩ <|
      .op ⟨(some 36), .mkIfc 30 (.t 35), none⟩ <|
      .op ⟨(some 37), .call (.f 28) [(.t 27), (.t 36)], none⟩ <|
      .done)) <|
   .region [⟨(some 38), .mov (.t 4), none⟩,
     ⟨(some 39), .mov (.t 4), none⟩,
     ⟨(some 40), .nilck (.t 39), none⟩,
     ⟨(some 41), .faddr 0 (.t 40), none⟩,
     ⟨(some 42), .load false 1 (.t 41), none⟩,
     ⟨(some 43), .slice 2 (.t 42) (some (.c (.int .i64 1))) none none, none⟩,
     ⟨(some 44), .nilck (.t 38), none⟩,
     ⟨(some 45), .faddr 0 (.t 44), none⟩,
     ⟨none, .store 1 (.t 45) (.t 43), none⟩])
  (.skip), []⟩
theorem c22 : Code1 Try.prog 22 46 b22 := Code1.mk' Try.func22 (by kernel_rfl) (by kernel_rfl) Try.ntmps22

/-- fusee/merge.Merger.ready -/
def b23 : IFn := ⟨
 .seq
 (.region [⟨(some 2), .mov (.c (.bool false)), none⟩]) <|
 .seq
 (.region [⟨(some 3), .mov (.t 0), none⟩,
    ⟨(some 4), .eq true false [.ptr] (.t 3) (.c (.ptr none)), none⟩,
    ⟨(some 5), .mov (.t 4), none⟩,
    ⟨(some 6), .mov (.t 0), (some (5, true))⟩,
    ⟨(some 7), .nilck (.t 6), (some (5, true))⟩,
    ⟨(some 8), .faddr 3 (.t 7), (some (5, true))⟩,
    ⟨(some 9), .load false 1 (.t 8), (some (5, true))⟩,
    ⟨(some 10), .bin .eql (.t 9) (.c (.int .i64 0)), (some (5, true))⟩,
    ⟨(some 11), .pick (.t 5) (.t 10) (.c (.bool false)), none⟩,
    ⟨(some 12), .mov (.t 11), none⟩,
    ⟨(some 13), .mov (.t 0), (some (12, true))⟩,
    ⟨(some 14), .nilck (.t 13), (some (12, true))⟩,
    ⟨(some 15), .faddr 2 (.t 14), (some (12, true))⟩,
    ⟨(some 16), .load false 1 (.t 15), (some (12, true))⟩,
    ⟨(some 17), .bin .gtr (.t 16) (.c (.int .i64 0)), (some (12, true))⟩,
    ⟨(some 18), .pick (.t 12) (.t 17) (.c (.bool false)), none⟩,
    ⟨(some 2), .mov (.t 18), none⟩]) <|
 .ret, [.slot 2]⟩
theorem c23 : Code1 Try.prog 23 19 b23 := Code1.mk' Try.func23 (by kernel_rfl) (by kernel_rfl) Try.ntmps23

/-- container/heap.Pop -/
def b24 : IFn := ⟨
 .seq
 (.region [⟨(some 2), .mov (.c .nilIfc), none⟩]) <|
 .seq
 (.region [⟨(some 4), .mov (.t 0), none⟩,
    ⟨(some 5), .invoke [(17, 48, none), (37, 13, none), (53, 51, none), (63, 51, some (false, 1))] (.t 4) [], none⟩,
    ⟨(some 6), .bin .sub (.t 5) (.c (.int .i64 1)), none⟩,
    ⟨(some 3), .mov (.t 6), none⟩]) <|
 .seq
 (.region [⟨(some 7), .mov (.t 0), none⟩,
    ⟨(some 8), .mov (.t 3), none⟩,
    ⟨(some 9), .invoke [(53, 53, none), (63, 53, some (false, 1))] (.t 7) [(.c (.int .i64 0)), (.t 8)], none⟩]) <|
 .seq
 (.region [⟨(some 10), .mov (.t 0), none⟩,
    ⟨(some 11), .mov (.t 3), none⟩,
    ⟨(some 12), .call (.f 29) [(.t 10), (.c (.int .i64 0)), (.t 11)], none⟩]) <|
 .seq
 (.region [⟨(some 13), .mov (.t 0), none⟩,
    ⟨(some 14), .invoke [(63, 54, none)] (.t 13) [], none⟩,
    ⟨(some 2), .mov (.t 14), none⟩]) <|
 .ret, [.slot 2]⟩
theorem c24 : Code1 Try.prog 24 15 b24 := Code1.mk' Try.func24 (by kernel_rfl) (by kernel_rfl) Try.ntmps24

/-- cmp.isNaN[int] -/
def b25 : IFn := ⟨
 .seq
 (.region [⟨(some 2), .mov (.c (.bool false)), none⟩]) <|
 .seq
 (.region [⟨(some 3), .mov (.t 0), none⟩,
    ⟨(some 4), .mov (.t 0), none⟩,
    ⟨(some 5), .bin .neq (.t 3) (.t 4), none⟩,
    ⟨(some 2), .mov (.t 5), none⟩]) <|
 .ret, [.slot 2]⟩
theorem c25 : Code1 Try.prog 25 6 b25 := Code1.mk' Try.func25 (by kernel_rfl) (by kernel_rfl) Try.ntmps25

/-- slices.stableCmpFunc[fusee/merge.Out] -/
def b26 : IFn := ⟨
 .seq
 (.region [⟨(some 6), .mov (.c (.int .i64 20)), none⟩]) <|
 .seq
 (.region [⟨(some 10), .mov (.t 6), none⟩,
    ⟨(some 7), .mov (.c (.int .i64 0)), none⟩,
    ⟨(some 8), .mov (.t 10), none⟩]) <|
 .seq
 (.block 0 <|
  .loop [0, 1, 2, 6, 7, 8] <|
   .seq
   (.seq
    (.region [⟨(some 11), .mov (.t 8), none⟩,
       ⟨(some 12), .mov (.t 1), none⟩,
       ⟨(some 13), .bin .leq (.t 11) (.t 12), none⟩]) <|
    .cond (.t 13)
     (.skip)
     (.exit 0)) <|
   .block 1 <|
   .seq
   (.region [⟨(some 14), .mov (.t 0), none⟩,
      ⟨(some 15), .mov (.t 7), none⟩,
      ⟨(some 16), .mov (.t 8), none⟩,
      ⟨(some 17), .mov (.t 2), none⟩,
      ⟨(some 18), .call (.f 30) [(.t 14), (.t 15), (.t 16), (.t 17)], none⟩]) <|
   .seq
   (.region [⟨(some 19), .mov (.t 8), none⟩,
      ⟨(some 7), .mov (.t 19), none⟩]) <|
   .region [⟨(some 20), .mov (.t 8), none⟩,
     ⟨(some 21), .mov (.t 6), none⟩,
     ⟨(some 22), .bin .add (.t 20) (.t 21), none⟩,
     ⟨(some 8), .mov (.t 22), none⟩]) <|
 .seq
 (.region [⟨(some 23), .mov (.t 0), none⟩,
    ⟨(some 24), .mov (.t 7), none⟩,
    ⟨(some 25), .mov (.t 1), none⟩,
    ⟨(some 26), .mov (.t 2), none⟩,
    ⟨(some 27), .call (.f 30) [(.t 23), (.t 24), (.t 25), (.t 26)], none⟩]) <|
 .block 2 <|
 .loop [0, 1, 2, 6] <|
  .seq
  (.seq
   (.region [⟨(some 28), .mov (.t 6), none⟩,
      ⟨(some 29), .mov (.t 1), none⟩,
      ⟨(some 30), .bin .lss (.t 28) (.t 29), none⟩]) <|
   .cond (.t 30)
    (.skip)
    (.exit 2)) <|
  .block 3 <|
  .seq
  (.region [⟨(some 31), .mov (.t 6), none⟩,
     ⟨(some 32), .bin .mul (.c (.int .i64 2)) (.t 31), none⟩,
     ⟨(some 7), .mov (.c (.int .i64 0)), none⟩,
     ⟨(some 8), .mov (.t 32), none⟩]) <|
  .seq
  (.block 4 <|
   .loop [0, 1, 2, 6, 7, 8] <|
    .seq
    (.seq
     (.region [⟨(some 33), .mov (.t 8), none⟩,
        ⟨(some 34), .mov (.t 1), none⟩,
        ⟨(some 35), .bin .leq (.t 33) (.t 34), none⟩]) <|
     .cond (.t 35)
      (.skip)
      (.exit 4)) <|
    .block 5 <|
    .seq
    (.region [⟨(some 36), .mov (.t 0), none⟩,
       ⟨(some 37), .mov (.t 7), none⟩,
       ⟨(some 38), .mov (.t 7), none⟩,
       ⟨(some 39), .mov (.t 6), none⟩,
       ⟨(some 40), .bin .add (.t 38) (.t 39), none⟩,
       ⟨(some 41), .mov (.t 8), none⟩,
       ⟨(some 42), .mov (.t 2), none⟩,
       ⟨(some 43), .call (.f 31) [(.t 36), (.t 37), (.t 40), (.t 41), (.t 42)], none⟩]) <|
    .seq
    (.region [⟨(some 44), .mov (.t 8), none⟩,
       ⟨(some 7), .mov (.t 44), none⟩]) <|
    .region [⟨(some 45), .mov (.t 8), none⟩,
      ⟨(some 46), .mov (.t 6), none⟩,
      ⟨(some 47), .bin .mul (.c (.int .i64 2)) (.t 46), none⟩,
      ⟨(some 48), .bin .add (.t 45) (.t 47), none⟩,
      ⟨(some 8), .mov (.t 48), none⟩]) <|
  .seq
  (.seq
   (.region [⟨(some 49), .mov (.t 7), none⟩,
      ⟨(some 50), .mov (.t 6), none⟩,
      ⟨(some 51), .bin .add (.t 49) (.t 50), none⟩,
      ⟨(some 9), .mov (.t 51), none⟩]) <|
   .seq
   (.region [⟨(some 52), .mov (.t 9), none⟩,
      ⟨(some 53), .mov (.t 1), none⟩,
      ⟨(some 54), .bin .lss (.t 52) (.t 53), none⟩]) <|
   .cond (.t 54)
    (.region [⟨(some 55), .mov (.t 0), none⟩,
       ⟨(some 56), .mov (.t 7), none⟩,
       ⟨(some 57), .mov (.t 9), none⟩,
       ⟨(some 58), .mov (.t 1), none⟩,
       ⟨(some 59), .mov (.t 2), none⟩,
       ⟨(some 60), .call (.f 31) [(.t 55), (.t 56), (.t 57), (.t 58), (.t 59)], none⟩])
    (.skip)) <|
  .region [⟨(some 61), .mov (.t 6), none⟩,
    ⟨(some 62), .bin .mul (.t 61) (.c (.int .i64 2)), none⟩,
    ⟨(some 6), .mov (.t 62), none⟩], []⟩
theorem c26 : Code1 Try.prog 26 63 b26 := Code1.mk' Try.func26 (by kernel_rfl) (by kernel_rfl) Try.ntmps26

/-- cmp.Or[int] -/
def b27 : IFn := ⟨
 .seq
 (.region [⟨(some 2), .mov (.c (.int .i64 0)), none⟩]) <|
 .seq
 (.region [⟨(some 3), .mov (.c (.int .i64 0)), none⟩]) <|
 .seq
 (.seq
  (.region [⟨(some 6), .mov (.t 0), none⟩,
     ⟨(some 7), .len .sl (.t 6), none⟩,
     ⟨(some 8), .mov (.c (.int .i64 0)), none⟩]) <|
  .block 0 <|
  .loop [3, 6, 7, 8] <|
   .seq
   (.region [⟨(some 9), .bin .lss (.t 8) (.t 7), none⟩]) <|
   .seq
   (.cond (.t 9)
     (.skip)
     (.exit 0)) <|
   .seq
   (.block 1 <|
    .seq
    (.region [⟨(some 10), .iaddr 1 (.t 6) (.t 8), none⟩,
       ⟨(some 11), .load false 1 (.t 10), none⟩,
       ⟨(some 5), .mov (.t 11), none⟩]) <|
    .seq
    (.region [⟨(some 12), .mov (.t 5), none⟩,
       ⟨(some 13), .mov (.t 3), none⟩,
       ⟨(some 14), .bin .neq (.t 12) (.t 13), none⟩]) <|
    .cond (.t 14)
     (.seq
      (.region [⟨(some 15), .mov (.t 5), none⟩,
         ⟨(some 2), .mov (.t 15), none⟩]) <|
      .ret)
     (.skip)) <|
   .region [⟨(some 16), .bin .add (.t 8) (.c (.int .i64 1)), none⟩,
     ⟨(some 8), .mov (.t 16), none⟩]) <|
 .seq
 (.region [⟨(some 17), .mov (.t 3), none⟩,
    ⟨(some 2), .mov (.t 17), none⟩]) <|
 .ret, [.slot 2]⟩
theorem c27 : Code1 Try.prog 27 18 b27 := Code1.mk' Try.func27 (by kernel_rfl) (by kernel_rfl) Try.ntmps27

/-- container/heap.Push -/
def b28 : IFn := ⟨
 .seq
 (.region [⟨(some 4), .mov (.t 0), none⟩,
    ⟨(some 5), .mov (.t 1), none⟩,
    ⟨(some 6), .invoke [(63, 55, none)] (.t 4) [(.t 5)], none⟩]) <|
 .region [⟨(some 7), .mov (.t 0), none⟩,
   ⟨(some 8), .mov (.t 0), none⟩,
   ⟨(some 9), .invoke [(17, 48, none), (37, 13, none), (53, 51, none), (63, 51, some (false, 1))] (.t 8) [], none⟩,
   ⟨(some 10), .bin .sub (.t 9) (.c (.int .i64 1)), none⟩,
   ⟨(some 11), .call (.f 32) [(.t 7), (.t 10)], none⟩], []⟩
theorem c28 : Code1 Try.prog 28 12 b28 := Code1.mk' Try.func28 (by kernel_rfl) (by kernel_rfl) Try.ntmps28

/-- container/heap.down -/
def b29 : IFn := ⟨
 .seq
 (.region [⟨(some 6), .mov (.c (.bool false)), none⟩]) <|
 .seq
 (.region [⟨(some 11), .mov (.t 1), none⟩,
    ⟨(some 7), .mov (.t 11), none⟩]) <|
 .seq
 (.block 0 <|
  .loop [0, 1, 2, 7] <|
   .block 1 <|
   .seq
   (.region [⟨(some 12), .mov (.t 7), none⟩,
      ⟨(some 13), .bin .mul (.c (.int .i64 2)) (.t 12), none⟩,
      ⟨(some 14), .bin .add (.t 13) (.c (.int .i64 1)), none⟩,
      ⟨(some 8), .mov (.t 14), none⟩]) <|
   .seq
   (.seq
    (.region [⟨(some 15), .mov (.t 8), none⟩,
       ⟨(some 16), .mov (.t 2), none⟩,
       ⟨(some 17), .bin .geq (.t 15) (.t 16), none⟩,
       ⟨(some 18), .mov (.t 17), none⟩,
       ⟨(some 19), .mov (.t 8), (some (18, false))⟩,
       ⟨(some 20), .bin .lss (.t 19) (.c (.int .i64 0)), (some (18, false))⟩,
       ⟨(some 21), .pick (.t 18) (.c (.bool true)) (.t 20), none⟩]) <|
    .cond (.t 21)
     (.exit 0)
     (.skip)) <|
   .seq
   (.region [⟨(some 22), .mov (.t 8), none⟩,
      ⟨(some 9), .mov (.t 22), none⟩]) <|
   .seq
   (.seq
    (.region [⟨(some 23), .mov (.t 8), none⟩,
       ⟨(some 24), .bin .add (.t 23) (.c (.int .i64 1)), none⟩,
       ⟨(some 10), .mov (.t 24), none⟩]) <|
    .seq
    (.region [⟨(some 25), .mov (.t 10), none⟩,
       ⟨(some 26), .mov (.t 2), none⟩,
       ⟨(some 27), .bin .lss (.t 25) (.t 26), none⟩,
       ⟨(some 28), .mov (.t 27), none⟩,
       ⟨(some 29), .mov (.t 0), (some (28, true))⟩,
       ⟨(some 30), .mov (.t 10), (some (28, true))⟩,
       ⟨(some 31), .mov (.t 8), (some (28, true))⟩,
       ⟨(some 32), .invoke [(53, 52, none), (63, 52, some (false, 1))] (.t 29) [(.t 30), (.t 31)], (some (28, true))⟩,
       ⟨(some 33), .pick (.t 28) (.t 32) (.c (.bool false)), none⟩]) <|
    .cond (.t 33)
     (.region [⟨(some 34), .mov (.t 10), none⟩,
        ⟨(some 9), .mov (.t 34), none⟩])
     (.skip)) <|
   .seq
   (.seq
    (.region [⟨(some 35), .mov (.t 0), none⟩,
       ⟨(some 36), .mov (.t 9), none⟩,
       ⟨(some 37), .mov (.t 7), none⟩,
       ⟨(some 38), .invoke [(53, 52, none), (63, 52, some (false, 1))] (.t 35) [(.t 36), (.t 37)], none⟩,
       ⟨(some 39), .un .not (.t 38), none⟩]) <|
    .cond (.t 39)
     (.exit 0)
     (.skip)) <|
   .seq
   (.region [⟨(some 40), .mov (.t 0), none⟩,
      ⟨(some 41), .mov (.t 7), none⟩,
      ⟨(some 42), .mov (.t 9), none⟩,
      ⟨(some 43), .invoke [(53, 53, none), (63, 53, some (false, 1))] (.t 40) [(.t 41), (.t 42)], none⟩]) <|
   .region [⟨(some 44), .mov (.t 9), none⟩,
     ⟨(some 7), .mov (.t 44), none⟩]) <|
 .seq
 (.region [⟨(some 45), .mov (.t 7), none⟩,
    ⟨(some 46), .mov (.t 1), none⟩,
    ⟨(some 47), .bin .gtr (.t 45) (.t 46), none⟩,
    ⟨(some 6), .mov (.t 47), none⟩]) <|
 .ret, [.slot 6]⟩
theorem c29 : Code1 Try.prog 29 48 b29 := Code1.mk' Try.func29 (by kernel_rfl) (by kernel_rfl) Try.ntmps29

/-- slices.insertionSortCmpFunc[fusee/merge.Out] -/
def b30 : IFn := ⟨
 .seq
 (.region [⟨(some 10), .mov (.t 1), none⟩,
    ⟨(some 11), .bin .add (.t 10) (.c (.int .i64 1)), none⟩,
    ⟨(some 8), .mov (.t 11), none⟩]) <|
 .block 0 <|
 .loop [0, 1, 2, 3, 8] <|
  .seq
  (.seq
   (.region [⟨(some 12), .mov (.t 8), none⟩,
      ⟨(some 13), .mov (.t 2), none⟩,
      ⟨(some 14), .bin .lss (.t 12) (.t 13), none⟩]) <|
   .cond (.t 14)
    (.skip)
    (.exit 0)) <|
  .seq
  (.block 1 <|
   .seq
   (.region [⟨(some 17), .mov (.t 8), none⟩,
      ⟨(some 9), .mov (.t 17), none⟩]) <|
   .block 2 <|
   .loop [0, 1, 2, 3, 8, 9] <|
    .seq
    (.seq
     (.draw false [0, 1, 2, 3, 8, 9, 34] (
        .op ⟨(some 18), .mov (.t 9), none⟩ <|
        .op ⟨(some 19), .mov (.t 1), none⟩ <|
        .op ⟨(some 20), .bin .gtr (.t 18) (.t 19), none⟩ <|
        .op ⟨(some 21), .mov (.t 20), none⟩ <|
        .op ⟨(some 22), .mov (.t 3), (some (21, true))⟩ <|
        .op ⟨(some 23), .mov (.t 0), (some (21, true))⟩ <|
        .op ⟨(some 24), .mov (.t 9), (some (21, true))⟩ <|
        .op ⟨(some 25), .iaddr 3 (.t 23) (.t 24), (some (21, true))⟩ <|
        .op ⟨(some 26), .load true 3 (.t 25), (some (21, true))⟩ <|
        .op ⟨(some 27), .mov (.t 0), (some (21, true))⟩ <|
        .op ⟨(some 28), .mov (.t 9), (some (21, true))⟩ <|
        .op ⟨(some 29), .bin .sub (.t 28) (.c (.int .i64 1)), (some (21, true))⟩ <|
        .op ⟨(some 30), .iaddr 3 (.t 27) (.t 29), (some (21, true))⟩ <|
        .op ⟨(some 31), .load true 3 (.t 30), (some (21, true))⟩ <|
        .op ⟨(some 32), .call (.t 22) [(.t 26), (.t 31)], (some (21, true))⟩ <|
        .op ⟨(some 33), .bin .lss (.t 32) (.c (.int .i64 0)), (some (21, true))⟩ <|
        .op ⟨(some 34), .pick (.t 21) (.t 33) (.c (.bool false)), none⟩ <|
        .done)) <|
     .cond (.t 34)
      (.skip)
      (.exit 2)) <|
    .seq
    (.block 3 <|
     .draw false [0, 1, 2, 3, 8, 9] (
       .op ⟨(some 37), .mov (.t 0), none⟩ <|
       .op ⟨(some 38), .mov (.t 9), none⟩ <|
       .op ⟨(some 39), .mov (.t 0), none⟩ <|
       .op ⟨(some 40), .mov (.t 9), none⟩ <|
       .op ⟨(some 41), .bin .sub (.t 40) (.c (.int .i64 1)), none⟩ <|
       .op ⟨(some 42), .mov (.t 0), none⟩ <|
       .op ⟨(some 43), .mov (.t 9), none⟩ <|
       .op ⟨(some 44), .bin .sub (.t 43) (.c (.int .i64 1)), none⟩ <|
       .op ⟨(some 45), .iaddr 3 (.t 42) (.t 44), none⟩ <|
       .op ⟨(some 46), .load true 3 (.t 45), none⟩ <|
       .op ⟨(some 47), .mov (.t 0), none⟩ <|
       .op ⟨(some 48), .mov (.t 9), none⟩ <|
       .op ⟨(some 49), .iaddr 3 (.t 47) (.t 48), none⟩ <|
       .op ⟨(some 50), .load true 3 (.t 49), none⟩ <|
       .op ⟨(some 51), .iaddr 3 (.t 37) (.t 38), none⟩ <|
       .op ⟨none, .store 3 (.t 51) (.t 46), none⟩ <|
       .op ⟨(some 52), .iaddr 3 (.t 39) (.t 41), none⟩ <|
       .op ⟨none, .store 3 (.t 52) (.t 50), none⟩ <|
       .done)) <|
    .region [⟨(some 35), .mov (.t 9), none⟩,
      ⟨(some 36), .bin .sub (.t 35) (.c (.int .i64 1)), none⟩,
      ⟨(some 9), .mov (.t 36), none⟩]) <|
  .region [⟨(some 15), .mov (.t 8), none⟩,
    ⟨(some 16), .bin .add (.t 15) (.c (.int .i64 1)), none⟩,
    ⟨(some 8), .mov (.t 16), none⟩], []⟩
theorem c30 : Code1 Try.prog 30 53 b30 := Code1.mk' Try.func30 (by kernel_rfl) (by kernel_rfl) Try.ntmps30

/-- slices.symMergeCmpFunc[fusee/merge.Out] -/
def b31 : IFn := ⟨
 .seq
 (.seq
  (.region [⟨(some 25), .mov (.t 2), none⟩,
     ⟨(some 26), .mov (.t 1), none⟩,
     ⟨(some 27), .bin .sub (.t 25) (.t 26), none⟩,
     ⟨(some 28), .bin .eql (.t 27) (.c (.int .i64 1)), none⟩]) <|
  .cond (.t 28)
   (.seq
    (.region [⟨(some 29), .mov (.t 2), none⟩,
       ⟨(some 10), .mov (.t 29), none⟩]) <|
    .seq
    (.region [⟨(some 30), .mov (.t 3), none⟩,
       ⟨(some 11), .mov (.t 30), none⟩]) <|
    .seq
    (.block 0 <|
     .loop [0, 1, 4, 10, 11] <|
      .seq
      (.seq
       (.region [⟨(some 31), .mov (.t 10), none⟩,
          ⟨(some 32), .mov (.t 11), none⟩,
          ⟨(some 33), .bin .lss (.t 31) (.t 32), none⟩]) <|
       .cond (.t 33)
        (.skip)
        (.exit 0)) <|
      .block 1 <|
      .seq
      (.region [⟨(some 34), .mov (.t 10), none⟩,
         ⟨(some 35), .mov (.t 11), none⟩,
         ⟨(some 36), .bin .add (.t 34) (.t 35), none⟩,
         ⟨(some 37), .conv .u64 (.t 36), none⟩,
         ⟨(some 38), .bin .shr (.t 37) (.c (.int .u64 1)), none⟩,
         ⟨(some 39), .conv .i64 (.t 38), none⟩,
         ⟨(some 12), .mov (.t 39), none⟩]) <|
      .seq
      (.draw false [0, 1, 4, 10, 11, 12, 50] (
         .op ⟨(some 40), .mov (.t 4), none⟩ <|
         .op ⟨(some 41), .mov (.t 0), none⟩ <|
         .op ⟨(some 42), .mov (.t 12), none⟩ <|
         .op ⟨(some 43), .iaddr 3 (.t 41) (.t 42), none⟩ <|
         .op ⟨(some 44), .load true 3 (.t 43), none⟩ <|
         .op ⟨(some 45), .mov (.t 0), none⟩ <|
         .op ⟨(some 46), .mov (.t 1), none⟩ <|
         .op ⟨(some 47), .iaddr 3 (.t 45) (.t 46), none⟩ <|
         .op ⟨(some 48), .load true 3 (.t 47), none⟩ <|
         .op ⟨(some 49), .call (.t 40) [(.t 44), (.t 48)], none⟩ <|
         .op ⟨(some 50), .bin .lss (.t 49) (.c (.int .i64 0)), none⟩ <|
         .done)) <|
      .cond (.t 50)
       (.region [⟨(some 51), .mov (.t 12), none⟩,
          ⟨(some 52), .bin .add (.t 51) (.c (.int .i64 1)), none⟩,
          ⟨(some 10), .mov (.t 52), none⟩])
       (.region [⟨(some 53), .mov (.t 12), none⟩,
          ⟨(some 11), .mov (.t 53), none⟩])) <|
    .seq
    (.seq
     (.region [⟨(some 54), .mov (.t 1), none⟩,
        ⟨(some 13), .mov (.t 54), none⟩]) <|
     .block 2 <|
     .loop [0, 10, 13] <|
      .seq
      (.seq
       (.region [⟨(some 55), .mov (.t 13), none⟩,
          ⟨(some 56), .mov (.t 10), none⟩,
          ⟨(some 57), .bin .sub (.t 56) (.c (.int .i64 1)), none⟩,
          ⟨(some 58), .bin .lss (.t 55) (.t 57), none⟩]) <|
       .cond (.t 58)
        (.skip)
        (.exit 2)) <|
      .seq
      (.block 3 <|
       .draw false [0, 10, 13] (
         .op ⟨(some 61), .mov (.t 0), none⟩ <|
         .op ⟨(some 62), .mov (.t 13), none⟩ <|
         .op ⟨(some 63), .mov (.t 0), none⟩ <|
         .op ⟨(some 64), .mov (.t 13), none⟩ <|
         .op ⟨(some 65), .bin .add (.t 64) (.c (.int .i64 1)), none⟩ <|
         .op ⟨(some 66), .mov (.t 0), none⟩ <|
         .op ⟨(some 67), .mov (.t 13), none⟩ <|
         .op ⟨(some 68), .bin .add (.t 67) (.c (.int .i64 1)), none⟩ <|
         .op ⟨(some 69), .iaddr 3 (.t 66) (.t 68), none⟩ <|
         .op ⟨(some 70), .load true 3 (.t 69), none⟩ <|
         .op ⟨(some 71), .mov (.t 0), none⟩ <|
         .op ⟨(some 72), .mov (.t 13), none⟩ <|
         .op ⟨(some 73), .iaddr 3 (.t 71) (.t 72), none⟩ <|
         .op ⟨(some 74), .load true 3 (.t 73), none⟩ <|
         .op ⟨(some 75), .iaddr 3 (.t 61) (.t 62), none⟩ <|
         .op ⟨none, .store 3 (.t 75) (.t 70), none⟩ <|
         .op ⟨(some 76), .iaddr 3 (.t 63) (.t 65), none⟩ <|
         .op ⟨none, .store 3 (.t 76) (.t 74), none⟩ <|
         .done)) <|
      .region [⟨(some 59), .mov (.t 13), none⟩,
        ⟨(some 60), .bin .add (.t 59) (.c (.int .i64 1)), none⟩,
        ⟨(some 13), .mov (.t 60), none⟩]) <|
    .ret)
   (.skip)) <|
 .seq
 (.seq
  (.region [⟨(some 77), .mov (.t 3), none⟩,
     ⟨(some 78), .mov (.t 2), none⟩,
     ⟨(some 79), .bin .sub (.t 77) (.t 78), none⟩,
     ⟨(some 80), .bin .eql (.t 79) (.c (.int .i64 1)), none⟩]) <|
  .cond (.t 80)
   (.seq
    (.region [⟨(some 81), .mov (.t 1), none⟩,
       ⟨(some 14), .mov (.t 81), none⟩]) <|
    .seq
    (.region [⟨(some 82), .mov (.t 2), none⟩,
       ⟨(some 15), .mov (.t 82), none⟩]) <|
    .seq
    (.block 4 <|
     .loop [0, 2, 4, 14, 15] <|
      .seq
      (.seq
       (.region [⟨(some 83), .mov (.t 14), none⟩,
          ⟨(some 84), .mov (.t 15), none⟩,
          ⟨(some 85), .bin .lss (.t 83) (.t 84), none⟩]) <|
       .cond (.t 85)
        (.skip)
        (.exit 4)) <|
      .block 5 <|
      .seq
      (.region [⟨(some 86), .mov (.t 14), none⟩,
         ⟨(some 87), .mov (.t 15), none⟩,
         ⟨(some 88), .bin .add (.t 86) (.t 87), none⟩,
         ⟨(some 89), .conv .u64 (.t 88), none⟩,
         ⟨(some 90), .bin .shr (.t 89) (.c (.int .u64 1)), none⟩,
         ⟨(some 91), .conv .i64 (.t 90), none⟩,
         ⟨(some 16), .mov (.t 91), none⟩]) <|
      .seq
      (.draw false [0, 2, 4, 14, 15, 16, 103] (
         .op ⟨(some 92), .mov (.t 4), none⟩ <|
         .op ⟨(some 93), .mov (.t 0), none⟩ <|
         .op ⟨(some 94), .mov (.t 2), none⟩ <|
         .op ⟨(some 95), .iaddr 3 (.t 93) (.t 94), none⟩ <|
         .op ⟨(some 96), .load true 3 (.t 95), none⟩ <|
         .op ⟨(some 97), .mov (.t 0), none⟩ <|
         .op ⟨(some 98), .mov (.t 16), none⟩ <|
         .op ⟨(some 99), .iaddr 3 (.t 97) (.t 98), none⟩ <|
         .op ⟨(some 100), .load true 3 (.t 99), none⟩ <|
         .op ⟨(some 101), .call (.t 92) [(.t 96), (.t 100)], none⟩ <|
         .op ⟨(some 102), .bin .lss (.t 101) (.c (.int .i64 0)), none⟩ <|
         .op ⟨(some 103), .un .not (.t 102), none⟩ <|
         .done)) <|
      .cond (.t 103)
       (.region [⟨(some 104), .mov (.t 16), none⟩,
          ⟨(some 105), .bin .add (.t 104) (.c (.int .i64 1)), none⟩,
          ⟨(some 14), .mov (.t 105), none⟩])
       (.region [⟨(some 106), .mov (.t 16), none⟩,
          ⟨(some 15), .mov (.t 106), none⟩])) <|
    .seq
    (.seq
     (.region [⟨(some 107), .mov (.t 2), none⟩,
        ⟨(some 17), .mov (.t 107), none⟩]) <|
     .block 6 <|
     .loop [0, 14, 17] <|
      .seq
      (.seq
       (.region [⟨(some 108), .mov (.t 17), none⟩,
          ⟨(some 109), .mov (.t 14), none⟩,
          ⟨(some 110), .bin .gtr (.t 108) (.t 109), none⟩]) <|
       .cond (.t 110)
        (.skip)
        (.exit 6)) <|
      .seq
      (.block 7 <|
       .draw false [0, 14, 17] (
         .op ⟨(some 113), .mov (.t 0), none⟩ <|
         .op ⟨(some 114), .mov (.t 17), none⟩ <|
         .op ⟨(some 115), .mov (.t 0), none⟩ <|
         .op ⟨(some 116), .mov (.t 17), none⟩ <|
         .op ⟨(some 117), .bin .sub (.t 116) (.c (.int .i64 1)), none⟩ <|
         .op ⟨(some 118), .mov (.t 0), none⟩ <|
         .op ⟨(some 119), .mov (.t 17), none⟩ <|
         .op ⟨(some 120), .bin .sub (.t 119) (.c (.int .i64 1)), none⟩ <|
         .op ⟨(some 121), .iaddr 3 (.t 118) (.t 120), none⟩ <|
         .op ⟨(some 122), .load true 3 (.t 121), none⟩ <|
         .op ⟨(some 123), .mov (.t 0), none⟩ <|
         .op ⟨(some 124), .mov (.t 17), none⟩ <|
         .op ⟨(some 125), .iaddr 3 (.t 123) (.t 124), none⟩ <|
         .op ⟨(some 126), .load true 3 (.t 125), none⟩ <|
         .op ⟨(some 127), .iaddr 3 (.t 113) (.t 114), none⟩ <|
         .op ⟨none, .store 3 (.t 127) (.t 122), none⟩ <|
         .op ⟨(some 128), .iaddr 3 (.t 115) (.t 117), none⟩ <|
         .op ⟨none, .store 3 (.t 128) (.t 126), none⟩ <|
         .done)) <|
      .region [⟨(some 111), .mov (.t 17), none⟩,
        ⟨(some 112), .bin .sub (.t 111) (.c (.int .i64 1)), none⟩,
        ⟨(some 17), .mov (.t 112), none⟩]) <|
    .ret)
   (.skip)) <|
 .seq
 (.region [⟨(some 129), .mov (.t 1), none⟩,
    ⟨(some 130), .mov (.t 3), none⟩,
    ⟨(some 131), .bin .add (.t 129) (.t 130), none⟩,
    ⟨(some 132), .conv .u64 (.t 131), none⟩,
    ⟨(some 133), .bin .shr (.t 132) (.c (.int .u64 1)), none⟩,
    ⟨(some 134), .conv .i64 (.t 133), none⟩,
    ⟨(some 18), .mov (.t 134), none⟩]) <|
 .seq
 (.region [⟨(some 135), .mov (.t 18), none⟩,
    ⟨(some 136), .mov (.t 2), none⟩,
    ⟨(some 137), .bin .add (.t 135) (.t 136), none⟩,
    ⟨(some 19), .mov (.t 137), none⟩]) <|
 .seq
 (.region [⟨(some 20), .mov (.c (.int .i64 0)), none⟩,
    ⟨(some 21), .mov (.c (.int .i64 0)), none⟩]) <|
 .seq
 (.seq
  (.region [⟨(some 138), .mov (.t 2), none⟩,
     ⟨(some 139), .mov (.t 18), none⟩,
     ⟨(some 140), .bin .gtr (.t 138) (.t 139), none⟩]) <|
  .cond (.t 140)
   (.seq
    (.region [⟨(some 141), .mov (.t 19), none⟩,
       ⟨(some 142), .mov (.t 3), none⟩,
       ⟨(some 143), .bin .sub (.t 141) (.t 142), none⟩,
       ⟨(some 20), .mov (.t 143), none⟩]) <|
    .region [⟨(some 144), .mov (.t 18), none⟩,
      ⟨(some 21), .mov (.t 144), none⟩])
   (.seq
    (.region [⟨(some 145), .mov (.t 1), none⟩,
       ⟨(some 20), .mov (.t 145), none⟩]) <|
    .region [⟨(some 146), .mov (.t 2), none⟩,
      ⟨(some 21), .mov (.t 146), none⟩])) <|
 .seq
 (.region [⟨(some 147), .mov (.t 19), none⟩,
    ⟨(some 148), .bin .sub (.t 147) (.c (.int .i64 1)), none⟩,
    ⟨(some 22), .mov (.t 148), none⟩]) <|
 .seq
 (.block 8 <|
  .loop [0, 1, 2, 3, 4, 18, 19, 20, 21, 22] <|
   .seq
   (.seq
    (.region [⟨(some 149), .mov (.t 20), none⟩,
       ⟨(some 150), .mov (.t 21), none⟩,
       ⟨(some 151), .bin .lss (.t 149) (.t 150), none⟩]) <|
    .cond (.t 151)
     (.skip)
     (.exit 8)) <|
   .block 9 <|
   .seq
   (.region [⟨(some 152), .mov (.t 20), none⟩,
      ⟨(some 153), .mov (.t 21), none⟩,
      ⟨(some 154), .bin .add (.t 152) (.t 153), none⟩,
      ⟨(some 155), .conv .u64 (.t 154), none⟩,
      ⟨(some 156), .bin .shr (.t 155) (.c (.int .u64 1)), none⟩,
      ⟨(some 157), .conv .i64 (.t 156), none⟩,
      ⟨(some 23), .mov (.t 157), none⟩]) <|
   .seq
   (.draw false [0, 1, 2, 3, 4, 18, 19, 20, 21, 22, 23, 171] (
      .op ⟨(some 158), .mov (.t 4), none⟩ <|
      .op ⟨(some 159), .mov (.t 0), none⟩ <|
      .op ⟨(some 160), .mov (.t 22), none⟩ <|
      .op ⟨(some 161), .mov (.t 23), none⟩ <|
      .op ⟨(some 162), .bin .sub (.t 160) (.t 161), none⟩ <|
      .op ⟨(some 163), .iaddr 3 (.t 159) (.t 162), none⟩ <|
      .op ⟨(some 164), .load true 3 (.t 163), none⟩ <|
      .op ⟨(some 165), .mov (.t 0), none⟩ <|
      .op ⟨(some 166), .mov (.t 23), none⟩ <|
      .op ⟨(some 167), .iaddr 3 (.t 165) (.t 166), none⟩ <|
      .op ⟨(some 168), .load true 3 (.t 167), none⟩ <|
      .op ⟨(some 169), .call (.t 158) [(.t 164), (.t 168)], none⟩ <|
      .op ⟨(some 170), .bin .lss (.t 169) (.c (.int .i64 0)), none⟩ <|
      .op ⟨(some 171), .un .not (.t 170), none⟩ <|
      .done)) <|
   .cond (.t 171)
    (.region [⟨(some 172), .mov (.t 23), none⟩,
       ⟨(some 173), .bin .add (.t 172) (.c (.int .i64 1)), none⟩,
       ⟨(some 20), .mov (.t 173), none⟩])
    (.region [⟨(some 174), .mov (.t 23), none⟩,
       ⟨(some 21), .mov (.t 174), none⟩])) <|
 .seq
 (.region [⟨(some 175), .mov (.t 19), none⟩,
    ⟨(some 176), .mov (.t 20), none⟩,
    ⟨(some 177), .bin .sub (.t 175) (.t 176), none⟩,
    ⟨(some 24), .mov (.t 177), none⟩]) <|
 .seq
 (.seq
  (.region [⟨(some 178), .mov (.t 20), none⟩,
     ⟨(some 179), .mov (.t 2), none⟩,
     ⟨(some 180), .bin .lss (.t 178) (.t 179), none⟩,
     ⟨(some 181), .mov (.t 180), none⟩,
     ⟨(some 182), .mov (.t 2), (some (181, true))⟩,
     ⟨(some 183), .mov (.t 24), (some (181, true))⟩,
     ⟨(some 184), .bin .lss (.t 182) (.t 183), (some (181, true))⟩,
     ⟨(some 185), .pick (.t 181) (.t 184) (.c (.bool false)), none⟩]) <|
  .cond (.t 185)
   (.region [⟨(some 186), .mov (.t 0), none⟩,
      ⟨(some 187), .mov (.t 20), none⟩,
      ⟨(some 188), .mov (.t 2), none⟩,
      ⟨(some 189), .mov (.t 24), none⟩,
      ⟨(some 190), .mov (.t 4), none⟩,
      ⟨(some 191), .call (.f 33) [(.t 186), (.t 187), (.t 188), (.t 189), (.t 190)], none⟩])
   (.skip)) <|
 .seq
 (.seq
  (.region [⟨(some 192), .mov (.t 1), none⟩,
     ⟨(some 193), .mov (.t 20), none⟩,
     ⟨(some 194), .bin .lss (.t 192) (.t 193), none⟩,
     ⟨(some 195), .mov (.t 194), none⟩,
     ⟨(some 196), .mov (.t 20), (some (195, true))⟩,
     ⟨(some 197), .mov (.t 18), (some (195, true))⟩,
     ⟨(some 198), .bin .lss (.t 196) (.t 197), (some (195, true))⟩,
     ⟨(some 199), .pick (.t 195) (.t 198) (.c (.bool false)), none⟩]) <|
  .cond (.t 199)
   (.region [⟨(some 200), .mov (.t 0), none⟩,
      ⟨(some 201), .mov (.t 1), none⟩,
      ⟨(some 202), .mov (.t 20), none⟩,
      ⟨(some 203), .mov (.t 18), none⟩,
      ⟨(some 204), .mov (.t 4), none⟩,
      ⟨(some 205), .call (.f 31) [(.t 200), (.t 201), (.t 202), (.t 203), (.t 204)], none⟩])
   (.skip)) <|
 .seq
 (.region [⟨(some 206), .mov (.t 18), none⟩,
    ⟨(some 207), .mov (.t 24), none⟩,
    ⟨(some 208), .bin .lss (.t 206) (.t 207), none⟩,
    ⟨(some 209), .mov (.t 208), none⟩,
    ⟨(some 210), .mov (.t 24), (some (209, true))⟩,
    ⟨(some 211), .mov (.t 3), (some (209, true))⟩,
    ⟨(some 212), .bin .lss (.t 210) (.t 211), (some (209, true))⟩,
    ⟨(some 213), .pick (.t 209) (.t 212) (.c (.bool false)), none⟩]) <|
 .cond (.t 213)
  (.region [⟨(some 214), .mov (.t 0), none⟩,
     ⟨(some 215), .mov (.t 18), none⟩,
     ⟨(some 216), .mov (.t 24), none⟩,
     ⟨(some 217), .mov (.t 3), none⟩,
     ⟨(some 218), .mov (.t 4), none⟩,
     ⟨(some 219), .call (.f 31) [(.t 214), (.t 215), (.t 216), (.t 217), (.t 218)], none⟩])
  (.skip), []⟩
theorem c31 : Code1 Try.prog 31 220 b31 := Code1.mk' Try.func31 (by kernel_rfl) (by kernel_rfl) Try.ntmps31

/-- container/heap.up -/
def b32 : IFn := ⟨
 .block 0 <|
 .loop [0, 1] <|
  .block 1 <|
  .seq
  (.region [⟨(some 5), .mov (.t 1), none⟩,
     ⟨(some 6), .bin .sub (.t 5) (.c (.int .i64 1)), none⟩,
     ⟨(some 7), .bin .quo (.t 6) (.c (.int .i64 2)), none⟩,
     ⟨(some 4), .mov (.t 7), none⟩]) <|
  .seq
  (.seq
   (.region [⟨(some 8), .mov (.t 4), none⟩,
      ⟨(some 9), .mov (.t 1), none⟩,
      ⟨(some 10), .bin .eql (.t 8) (.t 9), none⟩,
      ⟨(some 11), .mov (.t 10), none⟩,
      ⟨(some 12), .mov (.t 0), (some (11, false))⟩,
      ⟨(some 13), .mov (.t 1), (some (11, false))⟩,
      ⟨(some 14), .mov (.t 4), (some (11, false))⟩,
      ⟨(some 15), .invoke [(53, 52, none), (63, 52, some (false, 1))] (.t 12) [(.t 13), (.t 14)], (some (11, false))⟩,
      ⟨(some 16), .un .not (.t 15), (some (11, false))⟩,
      ⟨(some 17), .pick (.t 11) (.c (.bool true)) (.t 16), none⟩]) <|
   .cond (.t 17)
    (.exit 0)
    (.skip)) <|
  .seq
  (.region [⟨(some 18), .mov (.t 0), none⟩,
     ⟨(some 19), .mov (.t 4), none⟩,
     ⟨(some 20), .mov (.t 1), none⟩,
     ⟨(some 21), .invoke [(53, 53, none), (63, 53, some (false, 1))] (.t 18) [(.t 19), (.t 20)], none⟩]) <|
  .region [⟨(some 22), .mov (.t 4), none⟩,
    ⟨(some 1), .mov (.t 22), none⟩], []⟩
theorem c32 : Code1 Try.prog 32 23 b32 := Code1.mk' Try.func32 (by kernel_rfl) (by kernel_rfl) Try.ntmps32

/-- slices.rotateCmpFunc[fusee/merge.Out] -/
def b33 : IFn := ⟨
 .seq
 (.region [⟨(some 12), .mov (.t 2), none⟩,
    ⟨(some 13), .mov (.t 1), none⟩,
    ⟨(some 14), .bin .sub (.t 12) (.t 13), none⟩,
    ⟨(some 10), .mov (.t 14), none⟩]) <|
 .seq
 (.region [⟨(some 15), .mov (.t 3), none⟩,
    ⟨(some 16), .mov (.t 2), none⟩,
    ⟨(some 17), .bin .sub (.t 15) (.t 16), none⟩,
    ⟨(some 11), .mov (.t 17), none⟩]) <|
 .seq
 (.block 0 <|
  .loop [0, 2, 4, 10, 11] <|
   .seq
   (.seq
    (.region [⟨(some 18), .mov (.t 10), none⟩,
       ⟨(some 19), .mov (.t 11), none⟩,
       ⟨(some 20), .bin .neq (.t 18) (.t 19), none⟩]) <|
    .cond (.t 20)
     (.skip)
     (.exit 0)) <|
   .block 1 <|
   .seq
   (.region [⟨(some 21), .mov (.t 10), none⟩,
      ⟨(some 22), .mov (.t 11), none⟩,
      ⟨(some 23), .bin .gtr (.t 21) (.t 22), none⟩]) <|
   .cond (.t 23)
    (.seq
     (.region [⟨(some 24), .mov (.t 0), none⟩,
        ⟨(some 25), .mov (.t 2), none⟩,
        ⟨(some 26), .mov (.t 10), none⟩,
        ⟨(some 27), .bin .sub (.t 25) (.t 26), none⟩,
        ⟨(some 28), .mov (.t 2), none⟩,
        ⟨(some 29), .mov (.t 11), none⟩,
        ⟨(some 30), .mov (.t 4), none⟩,
        ⟨(some 31), .call (.f 34) [(.t 24), (.t 27), (.t 28), (.t 29), (.t 30)], none⟩]) <|
     .region [⟨(some 32), .mov (.t 10), none⟩,
       ⟨(some 33), .mov (.t 11), none⟩,
       ⟨(some 34), .bin .sub (.t 32) (.t 33), none⟩,
       ⟨(some 10), .mov (.t 34), none⟩])
    (.seq
     (.region [⟨(some 35), .mov (.t 0), none⟩,
        ⟨(some 36), .mov (.t 2), none⟩,
        ⟨(some 37), .mov (.t 10), none⟩,
        ⟨(some 38), .bin .sub (.t 36) (.t 37), none⟩,
        ⟨(some 39), .mov (.t 2), none⟩,
        ⟨(some 40), .mov (.t 11), none⟩,
        ⟨(some 41), .bin .add (.t 39) (.t 40), none⟩,
        ⟨(some 42), .mov (.t 10), none⟩,
        ⟨(some 43), .bin .sub (.t 41) (.t 42), none⟩,
        ⟨(some 44), .mov (.t 10), none⟩,
        ⟨(some 45), .mov (.t 4), none⟩,
        ⟨(some 46), .call (.f 34) [(.t 35), (.t 38), (.t 43), (.t 44), (.t 45)], none⟩]) <|
     .region [⟨(some 47), .mov (.t 11), none⟩,
       ⟨(some 48), .mov (.t 10), none⟩,
       ⟨(some 49), .bin .sub (.t 47) (.t 48), none⟩,
       ⟨(some 11), .mov (.t 49), none⟩])) <|
 .region [⟨(some 50), .mov (.t 0), none⟩,
   ⟨(some 51), .mov (.t 2), none⟩,
   ⟨(some 52), .mov (.t 10), none⟩,
   ⟨(some 53), .bin .sub (.t 51) (.t 52), none⟩,
   ⟨(some 54), .mov (.t 2), none⟩,
   ⟨(some 55), .mov (.t 10), none⟩,
   ⟨(some 56), .mov (.t 4), none⟩,
   ⟨(some 57), .call (.f 34) [(.t 50), (.t 53), (.t 54), (.t 55), (.t 56)], none⟩], []⟩
theorem c33 : Code1 Try.prog 33 58 b33 := Code1.mk' Try.func33 (by kernel_rfl) (by kernel_rfl) Try.ntmps33

/-- slices.swapRangeCmpFunc[fusee/merge.Out] -/
def b34 : IFn := ⟨
 .seq
 (.region [⟨(some 10), .mov (.c (.int .i64 0)), none⟩]) <|
 .block 0 <|
 .loop [0, 1, 2, 3, 10] <|
  .seq
  (.seq
   (.region [⟨(some 11), .mov (.t 10), none⟩,
      ⟨(some 12), .mov (.t 3), none⟩,
      ⟨(some 13), .bin .lss (.t 11) (.t 12), none⟩]) <|
   .cond (.t 13)
    (.skip)
    (.exit 0)) <|
  .seq
  (.block 1 <|
   .draw false [0, 1, 2, 3, 10] (
     .op ⟨(some 16), .mov (.t 0), none⟩ <|
     .op ⟨(some 17), .mov (.t 1), none⟩ <|
     .op ⟨(some 18), .mov (.t 10), none⟩ <|
     .op ⟨(some 19), .bin .add (.t 17) (.t 18), none⟩ <|
     .op ⟨(some 20), .mov (.t 0), none⟩ <|
     .op ⟨(some 21), .mov (.t 2), none⟩ <|
     .op ⟨(some 22), .mov (.t 10), none⟩ <|
     .op ⟨(some 23), .bin .add (.t 21) (.t 22), none⟩ <|
     .op ⟨(some 24), .mov (.t 0), none⟩ <|
     .op ⟨(some 25), .mov (.t 2), none⟩ <|
     .op ⟨(some 26), .mov (.t 10), none⟩ <|
     .op ⟨(some 27), .bin .add (.t 25) (.t 26), none⟩ <|
     .op ⟨(some 28), .iaddr 3 (.t 24) (.t 27), none⟩ <|
     .op ⟨(some 29), .load true 3 (.t 28), none⟩ <|
     .op ⟨(some 30), .mov (.t 0), none⟩ <|
     .op ⟨(some 31), .mov (.t 1), none⟩ <|
     .op ⟨(some 32), .mov (.t 10), none⟩ <|
     .op ⟨(some 33), .bin .add (.t 31) (.t 32), none⟩ <|
     .op ⟨(some 34), .iaddr 3 (.t 30) (.t 33), none⟩ <|
     .op ⟨(some 35), .load true 3 (.t 34), none⟩ <|
     .op ⟨(some 36), .iaddr 3 (.t 16) (.t 19), none⟩ <|
     .op ⟨none, .store 3 (.t 36) (.t 29), none⟩ <|
     .op ⟨(some 37), .iaddr 3 (.t 20) (.t 23), none⟩ <|
     .op ⟨none, .store 3 (.t 37) (.t 35), none⟩ <|
     .done)) <|
  .region [⟨(some 14), .mov (.t 10), none⟩,
    ⟨(some 15), .bin .add (.t 14) (.c (.int .i64 1)), none⟩,
    ⟨(some 10), .mov (.t 15), none⟩], []⟩
theorem c34 : Code1 Try.prog 34 38 b34 := Code1.mk' Try.func34 (by kernel_rfl) (by kernel_rfl) Try.ntmps34

/-- fusee/merge.fronts.Len -/
def b51 : IFn := ⟨
 .seq
 (.region [⟨(some 2), .mov (.c (.int .i64 0)), none⟩]) <|
 .seq
 (.region [⟨(some 3), .mov (.t 0), none⟩,
    ⟨(some 4), .len .sl (.t 3), none⟩,
    ⟨(some 2), .mov (.t 4), none⟩]) <|
 .ret, [.slot 2]⟩
theorem c51 : Code1 Try.prog 51 5 b51 := Code1.mk' Try.func51 (by kernel_rfl) (by kernel_rfl) Try.ntmps51

/-- fusee/merge.fronts.Less -/
def b52 : IFn := ⟨
 .seq
 (.region [⟨(some 6), .mov (.c (.bool false)), none⟩]) <|
 .seq
 (.draw false [6] (
    .op ⟨(some 7), .mov (.t 0), none⟩ <|
    .op ⟨(some 8), .mov (.t 1), none⟩ <|
    .op ⟨(some 9), .iaddr 3 (.t 7) (.t 8), none⟩ <|
    .op ⟨(some 10), .load true 3 (.t 9), none⟩ <|
    .op ⟨(some 11), .mov (.t 0), none⟩ <|
    .op ⟨(some 12), .mov (.t 2), none⟩ <|
    .op ⟨(some 13), .iaddr 3 (.t 11) (.t 12), none⟩ <|
    .op ⟨(some 14), .load true 3 (.t 13), none⟩ <|
    .op ⟨(some 15), .call (.f 19) [(.t 10), (.t 14)], none⟩ <|
    .op ⟨(some 16), .bin .lss (.t 15) (.c (.int .i64 0)), none⟩ <|
    .op ⟨(some 6), .mov (.t 16), none⟩ <|
    .done)) <|
 .ret, [.slot 6]⟩
theorem c52 : Code1 Try.prog 52 17 b52 := Code1.mk' Try.func52 (by kernel_rfl) (by kernel_rfl) Try.ntmps52

/-- fusee/merge.fronts.Swap -/
def b53 : IFn := ⟨
 .draw false [] (
   .op ⟨(some 6), .mov (.t 0), none⟩ <|
   .op ⟨(some 7), .mov (.t 1), none⟩ <|
   .op ⟨(some 8), .mov (.t 0), none⟩ <|
   .op ⟨(some 9), .mov (.t 2), none⟩ <|
   .op ⟨(some 10), .mov (.t 0), none⟩ <|
   .op ⟨(some 11), .mov (.t 2), none⟩ <|
   .op ⟨(some 12), .iaddr 3 (.t 10) (.t 11), none⟩ <|
   .op ⟨(some 13), .load true 3 (.t 12), none⟩ <|
   .op ⟨(some 14), .mov (.t 0), none⟩ <|
   .op ⟨(some 15), .mov (.t 1), none⟩ <|
   .op ⟨(some 16), .iaddr 3 (.t 14) (.t 15), none⟩ <|
   .op ⟨(some 17), .load true 3 (.t 16), none⟩ <|
   .op ⟨(some 18), .iaddr 3 (.t 6) (.t 7), none⟩ <|
   .op ⟨none, .store 3 (.t 18) (.t 13), none⟩ <|
   .op ⟨(some 19), .iaddr 3 (.t 8) (.t 9), none⟩ <|
   .op ⟨none, .store 3 (.t 19) (.t 17), none⟩ <|
   .done), []⟩
theorem c53 : Code1 Try.prog 53 20 b53 := Code1.mk' Try.func53 (by kernel_rfl) (by kernel_rfl) Try.ntmps53

/-- fusee/merge.fronts.Pop -/
def b54 : IFn := ⟨
 .seq
 (.region [⟨(some 2), .mov (.c .nilIfc), none⟩]) <|
 .seq
 (.region [⟨(some 5), .mov (.t 0), none⟩,
    ⟨(some 6), .nilck (.t 5), none⟩,
    ⟨(some 7), .load false 1 (.t 6), none⟩,
    ⟨(some 8), .len .sl (.t 7), none⟩,
    ⟨(some 9), .bin .sub (.t 8) (.c (.int .i64 1)), none⟩,
    ⟨(some 3), .mov (.t 9), none⟩]) <|
 .seq
 (.region [⟨(some 10), .mov (.t 0), none⟩,
    ⟨(some 11), .nilck (.t 10), none⟩,
    ⟨(some 12), .load false 1 (.t 11), none⟩,
    ⟨(some 13), .mov (.t 3), none⟩,
    ⟨(some 14), .iaddr 3 (.t 12) (.t 13), none⟩,
    ⟨(some 15), .load true 3 (.t 14), none⟩,
    ⟨(some 4), .alloc [(.int .i64 0), (.int .i64 0), (.int .i64 0)], none⟩,
    ⟨none, .store 3 (.t 4) (.t 15), none⟩]) <|
 .seq
 (.region [⟨(some 16), .mov (.t 0), none⟩,
    ⟨(some 17), .mov (.t 0), none⟩,
    ⟨(some 18), .nilck (.t 17), none⟩,
    ⟨(some 19), .load false 1 (.t 18), none⟩,
    ⟨(some 20), .mov (.t 3), none⟩,
    ⟨(some 21), .slice 3 (.t 19) none (some (.t 20)) none, none⟩,
    ⟨(some 22), .nilck (.t 16), none⟩,
    ⟨none, .store 1 (.t 22) (.t 21), none⟩]) <|
 .seq
 (.region [⟨(some 23), .load true 3 (.t 4), none⟩,
    ⟨(some 24), .mkIfc 30 (.t 23), none⟩,
    ⟨(some 2), .mov (.t 24), none⟩]) <|
 .ret, [.slot 2]⟩
theorem c54 : Code1 Try.prog 54 25 b54 := Code1.mk' Try.func54 (by kernel_rfl) (by kernel_rfl) Try.ntmps54

/-- fusee/merge.fronts.Push -/
def b55 : IFn := ⟨
 .seq
 (.region [⟨(some 7), .mov (.t 1), none⟩,
    ⟨(some 8), .tassert 30 (.agg [(.int .i64 0), (.int .i64 0), (.int .i64 0)]) (.t 7) true, none⟩,
    ⟨(some 6), .mov (.t 8), none⟩,
    ⟨(some 9), .extract (.t 6) 0, none⟩,
    ⟨(some 10), .extract (.t 6) 1, none⟩,
    ⟨(some 4), .alloc [(.int .i64 0), (.int .i64 0), (.int .i64 0)], none⟩,
    ⟨none, .store 3 (.t 4) (.t 9), none⟩,
    ⟨(some 5), .mov (.t 10), none⟩]) <|
 .seq
 (.region [⟨(some 11), .mov (.t 5), none⟩]) <|
 .cond (.t 11)
  (.draw false [] (
     .op ⟨(some 12), .mov (.t 0), none⟩ <|
     .op ⟨(some 13), .mov (.t 0), none⟩ <|
     .op ⟨(some 14), .nilck (.t 13), none⟩ <|
     .op ⟨(some 15), .load false 1 (.t 14), none⟩ <|
     .op ⟨(some 16), .load true 3 (.t 4), none⟩ <|
     .op ⟨(some 17), .buildSl 3 [(.int .i64 0), (.int .i64 0), (.int .i64 0)] [(0, 3, (.t 16))], none⟩ <|
     .op ⟨(some 18), .app 3 24 (.t 15) (.t 17), none⟩ <|
     .op ⟨(some 19), .nilck (.t 12), none⟩ <|
     .op ⟨none, .store 1 (.t 19) (.t 18), none⟩ <|
     .done))
  (.skip), []⟩
theorem c55 : Code1 Try.prog 55 20 b55 := Code1.mk' Try.func55 (by kernel_rfl) (by kernel_rfl) Try.ntmps55

/-- The functions that the facts at the head of each statement call. -/
abbrev code : CodeL := [(5, 113, b5), (8, 39, b8), (9, 14, b9), (10, 81, b10), (11, 58, b11), (12, 34, b12), (13, 9, b13), (15, 25, b15), (16, 10, b16), (17, 20, b17), (18, 9, b18), (19, 19, b19), (20, 26, b20), (21, 5, b21), (22, 46, b22), (23, 19, b23), (24, 15, b24), (25, 6, b25), (26, 63, b26), (27, 18, b27), (28, 12, b28), (29, 48, b29), (30, 53, b30), (31, 220, b31), (32, 23, b32), (33, 58, b33), (34, 38, b34), (51, 5, b51), (52, 17, b52), (53, 20, b53), (54, 25, b54), (55, 20, b55)]
theorem codeOk : CodeOk Try.prog code := ⟨c5, c8, c9, c10, c11, c12, c13, c15, c16, c17, c18, c19, c20, c21, c22, c23, c24, c25, c26, c27, c28, c29, c30, c31, c32, c33, c34, c51, c52, c53, c54, c55, trivial⟩

end Go.Proofs.Ythkopgcdghbjlaa
