/-
  THE CODE of the functions of this seat, as the plain machine's; each is what the compiler makes of the program's.
-/
import Derived.Test.YtbacmgdlhbfddaaChecked
import Derived.Test.YtbacmgdlhbfddaaAm32
import Derived.KernelRfl
namespace Go.Proofs.Ytbacmgdlhbfddaa
open Go Go.AM
set_option linter.unusedVariables false

theorem hm : Try.prog.follows .mixedOrders = true := by kernel_rfl

/-- fusee/fuseelaw40.AgendaFinds -/
def b3 : IFn := ⟨
 .seq
 (.region [⟨(some 10), .mov (.c (.bool false)), none⟩]) <|
 .seq
 (.seq
  (.region [⟨(some 22), .call (.f 5) [], none⟩,
     ⟨(some 23), .un .not (.t 22), none⟩]) <|
  .cond (.t 23)
   (.seq
    (.region [⟨(some 10), .mov (.c (.bool false)), none⟩]) <|
    .ret)
   (.skip)) <|
 .seq
 (.seq
  (.region [⟨(some 24), .mov (.t 1), none⟩,
     ⟨(some 25), .len .sl (.t 24), none⟩,
     ⟨(some 26), .bin .gtr (.t 25) (.c (.int .i64 40)), none⟩]) <|
  .cond (.t 26)
   (.seq
    (.region [⟨(some 10), .mov (.c (.bool true)), none⟩]) <|
    .ret)
   (.skip)) <|
 .seq
 (.region [⟨(some 28), .mov (.t 0), none⟩,
    ⟨(some 29), .bin .rem (.t 28) (.c (.int .u8 64)), none⟩,
    ⟨(some 30), .conv .i64 (.t 29), none⟩,
    ⟨(some 31), .bin .add (.c (.int .i64 1)) (.t 30), none⟩,
    ⟨(some 32), .mov (.t 1), none⟩,
    ⟨(some 33), .call (.f 6) [(.t 31), (.t 32)], none⟩,
    ⟨(some 27), .mov (.t 33), none⟩,
    ⟨(some 34), .extract (.t 27) 0, none⟩,
    ⟨(some 35), .extract (.t 27) 1, none⟩,
    ⟨(some 36), .extract (.t 27) 2, none⟩,
    ⟨(some 11), .mov (.t 34), none⟩,
    ⟨(some 12), .mov (.t 35), none⟩,
    ⟨(some 13), .mov (.t 36), none⟩]) <|
 .seq
 (.seq
  (.region [⟨(some 37), .mov (.t 13), none⟩,
     ⟨(some 38), .un .not (.t 37), none⟩]) <|
  .cond (.t 38)
   (.seq
    (.region [⟨(some 10), .mov (.c (.bool false)), none⟩]) <|
    .ret)
   (.skip)) <|
 .seq
 (.region [⟨(some 40), .mov (.t 11), none⟩,
    ⟨(some 41), .mov (.t 2), none⟩,
    ⟨(some 42), .mov (.t 3), none⟩,
    ⟨(some 43), .conv .i64 (.t 42), none⟩,
    ⟨(some 44), .mov (.t 4), none⟩,
    ⟨(some 45), .conv .i64 (.t 44), none⟩,
    ⟨(some 46), .call (.f 7) [(.t 40), (.t 41), (.t 43), (.t 45)], none⟩,
    ⟨(some 39), .mov (.t 46), none⟩,
    ⟨(some 47), .extract (.t 39) 0, none⟩,
    ⟨(some 48), .extract (.t 39) 1, none⟩,
    ⟨(some 14), .mov (.t 47), none⟩,
    ⟨(some 15), .mov (.t 48), none⟩]) <|
 .seq
 (.seq
  (.region [⟨(some 49), .mov (.t 4), none⟩,
     ⟨(some 50), .bin .eql (.t 49) (.c (.int .u8 0)), none⟩]) <|
  .cond (.t 50)
   (.seq
    (.region [⟨(some 51), .mov (.t 15), none⟩,
       ⟨(some 52), .un .not (.t 51), none⟩,
       ⟨(some 53), .mov (.t 52), none⟩,
       ⟨(some 54), .mov (.t 14), (some (53, true))⟩,
       ⟨(some 55), .bin .eql (.t 54) (.c (.int .i64 0)), (some (53, true))⟩,
       ⟨(some 56), .pick (.t 53) (.t 55) (.c (.bool false)), none⟩,
       ⟨(some 10), .mov (.t 56), none⟩]) <|
    .ret)
   (.skip)) <|
 .seq
 (.seq
  (.region [⟨(some 57), .mov (.t 15), none⟩,
     ⟨(some 58), .un .not (.t 57), none⟩]) <|
  .cond (.t 58)
   (.seq
    (.region [⟨(some 59), .mov (.t 12), none⟩,
       ⟨(some 60), .len .sl (.t 59), none⟩,
       ⟨(some 61), .bin .gtr (.t 60) (.c (.int .i64 0)), none⟩,
       ⟨(some 10), .mov (.t 61), none⟩]) <|
    .ret)
   (.skip)) <|
 .seq
 (.seq
  (.region [⟨(some 62), .mov (.t 14), none⟩,
     ⟨(some 63), .mov (.t 3), none⟩,
     ⟨(some 64), .conv .i64 (.t 63), none⟩,
     ⟨(some 65), .bin .lss (.t 62) (.t 64), none⟩]) <|
  .cond (.t 65)
   (.seq
    (.region [⟨(some 10), .mov (.c (.bool false)), none⟩]) <|
    .ret)
   (.skip)) <|
 .seq
 (.seq
  (.region [⟨(some 66), .mov (.t 3), none⟩,
     ⟨(some 67), .conv .i64 (.t 66), none⟩,
     ⟨(some 16), .mov (.t 67), none⟩]) <|
  .block 0 <|
  .loop [2, 3, 4, 12, 14, 16] <|
   .seq
   (.seq
    (.region [⟨(some 68), .mov (.t 16), none⟩,
       ⟨(some 69), .mov (.t 14), none⟩,
       ⟨(some 70), .bin .leq (.t 68) (.t 69), none⟩,
       ⟨(some 71), .mov (.t 70), none⟩,
       ⟨(some 72), .mov (.t 16), (some (71, true))⟩,
       ⟨(some 73), .mov (.t 3), (some (71, true))⟩,
       ⟨(some 74), .conv .i64 (.t 73), (some (71, true))⟩,
       ⟨(some 75), .bin .add (.t 74) (.c (.int .i64 400)), (some (71, true))⟩,
       ⟨(some 76), .bin .lss (.t 72) (.t 75), (some (71, true))⟩,
       ⟨(some 77), .pick (.t 71) (.t 76) (.c (.bool false)), none⟩]) <|
    .cond (.t 77)
     (.skip)
     (.exit 0)) <|
   .seq
   (.block 1 <|
    .seq
    (.region [⟨(some 17), .mov (.c (.bool true)), none⟩]) <|
    .seq
    (.seq
     (.region [⟨(some 80), .mov (.t 12), none⟩,
        ⟨(some 81), .len .sl (.t 80), none⟩,
        ⟨(some 82), .mov (.c (.int .i64 0)), none⟩]) <|
     .block 2 <|
     .loop [2, 3, 4, 12, 14, 16, 17, 80, 81, 82] <|
      .seq
      (.region [⟨(some 83), .bin .lss (.t 82) (.t 81), none⟩]) <|
      .seq
      (.cond (.t 83)
        (.skip)
        (.exit 2)) <|
      .seq
      (.block 3 <|
       .seq
       (.region [⟨(some 84), .iaddr 4 (.t 80) (.t 82), none⟩,
          ⟨(some 85), .load true 4 (.t 84), none⟩,
          ⟨(some 19), .alloc [(.int .i64 0), (.int .i64 0), (.int .i64 0), (.int .u64 0)], none⟩,
          ⟨none, .store 4 (.t 19) (.t 85), none⟩]) <|
       .region [⟨(some 86), .mov (.t 17), none⟩,
         ⟨(some 87), .mov (.t 86), none⟩,
         ⟨(some 88), .faddr 3 (.t 19), (some (87, true))⟩,
         ⟨(some 89), .load false 1 (.t 88), (some (87, true))⟩,
         ⟨(some 90), .mov (.t 2), (some (87, true))⟩,
         ⟨(some 91), .bin .and (.t 89) (.t 90), (some (87, true))⟩,
         ⟨(some 92), .bin .eql (.t 91) (.c (.int .u64 0)), (some (87, true))⟩,
         ⟨(some 93), .mov (.t 92), (some (87, true))⟩,
         ⟨(some 94), .faddr 1 (.t 19), (some (93, false))⟩,
         ⟨(some 95), .faddr 0 (.t 94), (some (93, false))⟩,
         ⟨(some 96), .load false 1 (.t 95), (some (93, false))⟩,
         ⟨(some 97), .mov (.t 16), (some (93, false))⟩,
         ⟨(some 98), .max [(.t 96), (.t 97)], (some (93, false))⟩,
         ⟨(some 99), .faddr 1 (.t 19), (some (93, false))⟩,
         ⟨(some 100), .faddr 1 (.t 99), (some (93, false))⟩,
         ⟨(some 101), .load false 1 (.t 100), (some (93, false))⟩,
         ⟨(some 102), .mov (.t 16), (some (93, false))⟩,
         ⟨(some 103), .mov (.t 4), (some (93, false))⟩,
         ⟨(some 104), .conv .i64 (.t 103), (some (93, false))⟩,
         ⟨(some 105), .bin .add (.t 102) (.t 104), (some (93, false))⟩,
         ⟨(some 106), .min [(.t 101), (.t 105)], (some (93, false))⟩,
         ⟨(some 107), .bin .geq (.t 98) (.t 106), (some (93, false))⟩,
         ⟨(some 108), .pick (.t 93) (.c (.bool true)) (.t 107), (some (87, true))⟩,
         ⟨(some 109), .pick (.t 87) (.t 108) (.c (.bool false)), none⟩,
         ⟨(some 17), .mov (.t 109), none⟩]) <|
      .region [⟨(some 110), .bin .add (.t 82) (.c (.int .i64 1)), none⟩,
        ⟨(some 82), .mov (.t 110), none⟩]) <|
    .seq
    (.region [⟨(some 111), .mov (.t 17), none⟩,
       ⟨(some 112), .mov (.t 16), none⟩,
       ⟨(some 113), .mov (.t 14), none⟩,
       ⟨(some 114), .bin .eql (.t 112) (.t 113), none⟩,
       ⟨(some 115), .eq true false [.bool] (.t 111) (.t 114), none⟩]) <|
    .cond (.t 115)
     (.seq
      (.region [⟨(some 10), .mov (.c (.bool false)), none⟩]) <|
      .ret)
     (.skip)) <|
   .region [⟨(some 78), .mov (.t 16), none⟩,
     ⟨(some 79), .bin .add (.t 78) (.c (.int .i64 1)), none⟩,
     ⟨(some 16), .mov (.t 79), none⟩]) <|
 .seq
 (.seq
  (.region [⟨(some 116), .mov (.t 12), none⟩,
     ⟨(some 117), .len .sl (.t 116), none⟩,
     ⟨(some 118), .mov (.c (.int .i64 0)), none⟩]) <|
  .block 4 <|
  .loop [2, 4, 14, 116, 117, 118] <|
   .seq
   (.region [⟨(some 119), .bin .lss (.t 118) (.t 117), none⟩]) <|
   .seq
   (.cond (.t 119)
     (.skip)
     (.exit 4)) <|
   .seq
   (.block 5 <|
    .seq
    (.region [⟨(some 120), .iaddr 4 (.t 116) (.t 118), none⟩,
       ⟨(some 121), .load true 4 (.t 120), none⟩,
       ⟨(some 21), .alloc [(.int .i64 0), (.int .i64 0), (.int .i64 0), (.int .u64 0)], none⟩,
       ⟨none, .store 4 (.t 21) (.t 121), none⟩]) <|
    .seq
    (.region [⟨(some 122), .faddr 3 (.t 21), none⟩,
       ⟨(some 123), .load false 1 (.t 122), none⟩,
       ⟨(some 124), .mov (.t 2), none⟩,
       ⟨(some 125), .bin .and (.t 123) (.t 124), none⟩,
       ⟨(some 126), .bin .neq (.t 125) (.c (.int .u64 0)), none⟩,
       ⟨(some 127), .mov (.t 126), none⟩,
       ⟨(some 128), .faddr 1 (.t 21), (some (127, true))⟩,
       ⟨(some 129), .faddr 0 (.t 128), (some (127, true))⟩,
       ⟨(some 130), .load false 1 (.t 129), (some (127, true))⟩,
       ⟨(some 131), .mov (.t 14), (some (127, true))⟩,
       ⟨(some 132), .max [(.t 130), (.t 131)], (some (127, true))⟩,
       ⟨(some 133), .faddr 1 (.t 21), (some (127, true))⟩,
       ⟨(some 134), .faddr 1 (.t 133), (some (127, true))⟩,
       ⟨(some 135), .load false 1 (.t 134), (some (127, true))⟩,
       ⟨(some 136), .mov (.t 14), (some (127, true))⟩,
       ⟨(some 137), .mov (.t 4), (some (127, true))⟩,
       ⟨(some 138), .conv .i64 (.t 137), (some (127, true))⟩,
       ⟨(some 139), .bin .add (.t 136) (.t 138), (some (127, true))⟩,
       ⟨(some 140), .min [(.t 135), (.t 139)], (some (127, true))⟩,
       ⟨(some 141), .bin .lss (.t 132) (.t 140), (some (127, true))⟩,
       ⟨(some 142), .pick (.t 127) (.t 141) (.c (.bool false)), none⟩]) <|
    .cond (.t 142)
     (.seq
      (.region [⟨(some 10), .mov (.c (.bool false)), none⟩]) <|
      .ret)
     (.skip)) <|
   .region [⟨(some 143), .bin .add (.t 118) (.c (.int .i64 1)), none⟩,
     ⟨(some 118), .mov (.t 143), none⟩]) <|
 .seq
 (.region [⟨(some 10), .mov (.c (.bool true)), none⟩]) <|
 .ret, [.slot 10]⟩
theorem c3 : Code1 Try.prog 3 144 b3 := Code1.mk' Try.func3 (by kernel_rfl) (by kernel_rfl) Try.ntmps3

/-- fusee/fuseelaw40.AgendaBusy -/
def b4 : IFn := ⟨
 .seq
 (.region [⟨(some 8), .mov (.c (.bool false)), none⟩]) <|
 .seq
 (.seq
  (.region [⟨(some 15), .call (.f 5) [], none⟩,
     ⟨(some 16), .un .not (.t 15), none⟩]) <|
  .cond (.t 16)
   (.seq
    (.region [⟨(some 8), .mov (.c (.bool false)), none⟩]) <|
    .ret)
   (.skip)) <|
 .seq
 (.seq
  (.region [⟨(some 17), .mov (.t 1), none⟩,
     ⟨(some 18), .len .sl (.t 17), none⟩,
     ⟨(some 19), .bin .gtr (.t 18) (.c (.int .i64 60)), none⟩]) <|
  .cond (.t 19)
   (.seq
    (.region [⟨(some 8), .mov (.c (.bool true)), none⟩]) <|
    .ret)
   (.skip)) <|
 .seq
 (.region [⟨(some 21), .mov (.t 0), none⟩,
    ⟨(some 22), .bin .rem (.t 21) (.c (.int .u8 64)), none⟩,
    ⟨(some 23), .conv .i64 (.t 22), none⟩,
    ⟨(some 24), .bin .add (.c (.int .i64 1)) (.t 23), none⟩,
    ⟨(some 25), .mov (.t 1), none⟩,
    ⟨(some 26), .call (.f 6) [(.t 24), (.t 25)], none⟩,
    ⟨(some 20), .mov (.t 26), none⟩,
    ⟨(some 27), .extract (.t 20) 0, none⟩,
    ⟨(some 28), .extract (.t 20) 1, none⟩,
    ⟨(some 29), .extract (.t 20) 2, none⟩,
    ⟨(some 9), .mov (.t 27), none⟩,
    ⟨(some 10), .mov (.t 28), none⟩,
    ⟨(some 11), .mov (.t 29), none⟩]) <|
 .seq
 (.region [⟨(some 12), .mov (.c (.bool false)), none⟩]) <|
 .seq
 (.seq
  (.region [⟨(some 30), .mov (.t 10), none⟩,
     ⟨(some 31), .len .sl (.t 30), none⟩,
     ⟨(some 32), .mov (.c (.int .i64 0)), none⟩]) <|
  .block 0 <|
  .loop [0, 2, 3, 9, 11, 12, 30, 31, 32] <|
   .seq
   (.region [⟨(some 33), .bin .lss (.t 32) (.t 31), none⟩]) <|
   .seq
   (.cond (.t 33)
     (.skip)
     (.exit 0)) <|
   .seq
   (.block 1 <|
    .seq
    (.region [⟨(some 34), .iaddr 4 (.t 30) (.t 32), none⟩,
       ⟨(some 35), .load true 4 (.t 34), none⟩,
       ⟨(some 14), .alloc [(.int .i64 0), (.int .i64 0), (.int .i64 0), (.int .u64 0)], none⟩,
       ⟨none, .store 4 (.t 14) (.t 35), none⟩]) <|
    .region [⟨(some 36), .mov (.t 12), none⟩,
      ⟨(some 37), .mov (.t 36), none⟩,
      ⟨(some 38), .faddr 3 (.t 14), (some (37, false))⟩,
      ⟨(some 39), .load false 1 (.t 38), (some (37, false))⟩,
      ⟨(some 40), .mov (.t 2), (some (37, false))⟩,
      ⟨(some 41), .bin .and (.t 39) (.t 40), (some (37, false))⟩,
      ⟨(some 42), .bin .neq (.t 41) (.c (.int .u64 0)), (some (37, false))⟩,
      ⟨(some 43), .mov (.t 42), (some (37, false))⟩,
      ⟨(some 44), .faddr 1 (.t 14), (some (43, true))⟩,
      ⟨(some 45), .faddr 0 (.t 44), (some (43, true))⟩,
      ⟨(some 46), .load false 1 (.t 45), (some (43, true))⟩,
      ⟨(some 47), .mov (.t 3), (some (43, true))⟩,
      ⟨(some 48), .bin .leq (.t 46) (.t 47), (some (43, true))⟩,
      ⟨(some 49), .pick (.t 43) (.t 48) (.c (.bool false)), (some (37, false))⟩,
      ⟨(some 50), .mov (.t 49), (some (37, false))⟩,
      ⟨(some 51), .mov (.t 3), (some (50, true))⟩,
      ⟨(some 52), .faddr 1 (.t 14), (some (50, true))⟩,
      ⟨(some 53), .faddr 1 (.t 52), (some (50, true))⟩,
      ⟨(some 54), .load false 1 (.t 53), (some (50, true))⟩,
      ⟨(some 55), .bin .lss (.t 51) (.t 54), (some (50, true))⟩,
      ⟨(some 56), .pick (.t 50) (.t 55) (.c (.bool false)), (some (37, false))⟩,
      ⟨(some 57), .pick (.t 37) (.c (.bool true)) (.t 56), none⟩,
      ⟨(some 12), .mov (.t 57), none⟩]) <|
   .region [⟨(some 58), .bin .add (.t 32) (.c (.int .i64 1)), none⟩,
     ⟨(some 32), .mov (.t 58), none⟩]) <|
 .seq
 (.region [⟨(some 59), .mov (.t 11), none⟩,
    ⟨(some 60), .mov (.t 59), none⟩,
    ⟨(some 61), .mov (.t 9), (some (60, true))⟩,
    ⟨(some 62), .mov (.t 2), (some (60, true))⟩,
    ⟨(some 63), .call (.f 8) [(.t 61), (.t 62)], (some (60, true))⟩,
    ⟨(some 64), .mov (.t 3), (some (60, true))⟩,
    ⟨(some 65), .call (.f 9) [(.t 63), (.t 64)], (some (60, true))⟩,
    ⟨(some 66), .mov (.t 12), (some (60, true))⟩,
    ⟨(some 67), .eq false false [.bool] (.t 65) (.t 66), (some (60, true))⟩,
    ⟨(some 68), .pick (.t 60) (.t 67) (.c (.bool false)), none⟩,
    ⟨(some 69), .mov (.t 68), none⟩,
    ⟨(some 70), .mov (.t 12), (some (69, true))⟩,
    ⟨(some 71), .mov (.t 9), (some (69, true))⟩,
    ⟨(some 72), .mov (.t 3), (some (69, true))⟩,
    ⟨(some 73), .call (.f 10) [(.t 71), (.t 72)], (some (69, true))⟩,
    ⟨(some 74), .mov (.t 2), (some (69, true))⟩,
    ⟨(some 75), .bin .and (.t 73) (.t 74), (some (69, true))⟩,
    ⟨(some 76), .mov (.t 2), (some (69, true))⟩,
    ⟨(some 77), .mov (.t 0), (some (69, true))⟩,
    ⟨(some 78), .bin .rem (.t 77) (.c (.int .u8 64)), (some (69, true))⟩,
    ⟨(some 79), .conv .i64 (.t 78), (some (69, true))⟩,
    ⟨(some 80), .bin .sub (.c (.int .i64 63)) (.t 79), (some (69, true))⟩,
    ⟨(some 81), .conv .u64 (.t 80), (some (69, true))⟩,
    ⟨(some 82), .bin .shr (.c (.int .u64 18446744073709551615)) (.t 81), (some (69, true))⟩,
    ⟨(some 83), .bin .and (.t 76) (.t 82), (some (69, true))⟩,
    ⟨(some 84), .bin .neq (.t 75) (.t 83), (some (69, true))⟩,
    ⟨(some 85), .eq false false [.bool] (.t 70) (.t 84), (some (69, true))⟩,
    ⟨(some 86), .pick (.t 69) (.t 85) (.c (.bool false)), none⟩,
    ⟨(some 8), .mov (.t 86), none⟩]) <|
 .ret, [.slot 8]⟩
theorem c4 : Code1 Try.prog 4 87 b4 := Code1.mk' Try.func4 (by kernel_rfl) (by kernel_rfl) Try.ntmps4

/-- fusee/fuseelaw40.fixed -/
def b5 : IFn := ⟨
 .seq
 (.region [⟨(some 0), .mov (.c (.bool false)), none⟩]) <|
 .seq
 (.region [⟨(some 11), .call (.f 11) [(.c (.int .i64 3))], none⟩,
    ⟨(some 1), .mov (.t 11), none⟩]) <|
 .seq
 (.region [⟨(some 12), .mov (.t 1), none⟩,
    ⟨(some 13), .build [(.int .i64 0), (.int .i64 0)] [(0, 1, (.c (.int .i64 5))), (1, 1, (.c (.int .i64 9)))], none⟩,
    ⟨(some 14), .build [(.int .i64 0), (.int .i64 0), (.int .i64 0), (.int .u64 0)] [(0, 1, (.c (.int .i64 1))), (1, 2, (.t 13)), (3, 1, (.c (.int .u64 3)))], none⟩,
    ⟨(some 15), .call (.f 12) [(.t 12), (.t 14)], none⟩,
    ⟨(some 2), .mov (.t 15), none⟩]) <|
 .seq
 (.region [⟨(some 16), .mov (.t 1), none⟩,
    ⟨(some 17), .build [(.int .i64 0), (.int .i64 0)] [(0, 1, (.c (.int .i64 8))), (1, 1, (.c (.int .i64 10)))], none⟩,
    ⟨(some 18), .build [(.int .i64 0), (.int .i64 0), (.int .i64 0), (.int .u64 0)] [(0, 1, (.c (.int .i64 2))), (1, 2, (.t 17)), (3, 1, (.c (.int .u64 6)))], none⟩,
    ⟨(some 19), .call (.f 12) [(.t 16), (.t 18)], none⟩,
    ⟨(some 3), .mov (.t 19), none⟩]) <|
 .seq
 (.region [⟨(some 20), .mov (.t 1), none⟩,
    ⟨(some 21), .build [(.int .i64 0), (.int .i64 0)] [(0, 1, (.c (.int .i64 8))), (1, 1, (.c (.int .i64 10)))], none⟩,
    ⟨(some 22), .build [(.int .i64 0), (.int .i64 0), (.int .i64 0), (.int .u64 0)] [(0, 1, (.c (.int .i64 3))), (1, 2, (.t 21)), (3, 1, (.c (.int .u64 4)))], none⟩,
    ⟨(some 23), .call (.f 12) [(.t 20), (.t 22)], none⟩,
    ⟨(some 4), .mov (.t 23), none⟩]) <|
 .seq
 (.region [⟨(some 25), .mov (.t 1), none⟩,
    ⟨(some 26), .call (.f 7) [(.t 25), (.c (.int .u64 5)), (.c (.int .i64 4)), (.c (.int .i64 2))], none⟩,
    ⟨(some 24), .mov (.t 26), none⟩,
    ⟨(some 27), .extract (.t 24) 0, none⟩,
    ⟨(some 28), .extract (.t 24) 1, none⟩,
    ⟨(some 5), .mov (.t 27), none⟩,
    ⟨(some 6), .mov (.t 28), none⟩]) <|
 .seq
 (.region [⟨(some 29), .mov (.t 1), none⟩,
    ⟨(some 30), .build [(.int .i64 0), (.int .i64 0)] [(0, 1, (.c (.int .i64 8))), (1, 1, (.c (.int .i64 9)))], none⟩,
    ⟨(some 31), .build [(.int .i64 0), (.int .i64 0), (.int .i64 0), (.int .u64 0)] [(0, 1, (.c (.int .i64 9))), (1, 2, (.t 30)), (3, 1, (.c (.int .u64 7)))], none⟩,
    ⟨(some 32), .call (.f 13) [(.t 29), (.t 31)], none⟩,
    ⟨(some 7), .mov (.t 32), none⟩]) <|
 .seq
 (.region [⟨(some 8), .mov (.c (.ptr none)), none⟩]) <|
 .seq
 (.region [⟨(some 34), .mov (.t 8), none⟩,
    ⟨(some 35), .call (.f 7) [(.t 34), (.c (.int .u64 1)), (.c (.int .i64 1)), (.c (.int .i64 1))], none⟩,
    ⟨(some 33), .mov (.t 35), none⟩,
    ⟨(some 36), .extract (.t 33) 0, none⟩,
    ⟨(some 37), .extract (.t 33) 1, none⟩,
    ⟨(some 9), .mov (.t 36), none⟩,
    ⟨(some 10), .mov (.t 37), none⟩]) <|
 .seq
 (.region [⟨(some 38), .mov (.t 2), none⟩,
    ⟨(some 39), .bin .eql (.t 38) (.c (.int .i64 0)), none⟩,
    ⟨(some 40), .mov (.t 39), none⟩,
    ⟨(some 41), .mov (.t 3), (some (40, true))⟩,
    ⟨(some 42), .bin .eql (.t 41) (.c (.int .i64 9)), (some (40, true))⟩,
    ⟨(some 43), .pick (.t 40) (.t 42) (.c (.bool false)), none⟩,
    ⟨(some 44), .mov (.t 43), none⟩,
    ⟨(some 45), .mov (.t 4), (some (44, true))⟩,
    ⟨(some 46), .bin .eql (.t 45) (.c (.int .i64 0)), (some (44, true))⟩,
    ⟨(some 47), .pick (.t 44) (.t 46) (.c (.bool false)), none⟩,
    ⟨(some 48), .mov (.t 47), none⟩,
    ⟨(some 49), .mov (.t 6), (some (48, true))⟩,
    ⟨(some 50), .pick (.t 48) (.t 49) (.c (.bool false)), none⟩,
    ⟨(some 51), .mov (.t 50), none⟩,
    ⟨(some 52), .mov (.t 5), (some (51, true))⟩,
    ⟨(some 53), .bin .eql (.t 52) (.c (.int .i64 10)), (some (51, true))⟩,
    ⟨(some 54), .pick (.t 51) (.t 53) (.c (.bool false)), none⟩,
    ⟨(some 55), .mov (.t 54), none⟩,
    ⟨(some 56), .mov (.t 7), (some (55, true))⟩,
    ⟨(some 57), .len .sl (.t 56), (some (55, true))⟩,
    ⟨(some 58), .bin .eql (.t 57) (.c (.int .i64 2)), (some (55, true))⟩,
    ⟨(some 59), .pick (.t 55) (.t 58) (.c (.bool false)), none⟩,
    ⟨(some 60), .mov (.t 59), none⟩,
    ⟨(some 61), .mov (.t 7), (some (60, true))⟩,
    ⟨(some 62), .iaddr 1 (.t 61) (.c (.int .i64 0)), (some (60, true))⟩,
    ⟨(some 63), .load false 1 (.t 62), (some (60, true))⟩,
    ⟨(some 64), .bin .eql (.t 63) (.c (.int .i64 1)), (some (60, true))⟩,
    ⟨(some 65), .pick (.t 60) (.t 64) (.c (.bool false)), none⟩,
    ⟨(some 66), .mov (.t 65), none⟩,
    ⟨(some 67), .mov (.t 1), (some (66, true))⟩,
    ⟨(some 68), .call (.f 10) [(.t 67), (.c (.int .i64 8))], (some (66, true))⟩,
    ⟨(some 69), .bin .eql (.t 68) (.c (.int .u64 0)), (some (66, true))⟩,
    ⟨(some 70), .pick (.t 66) (.t 69) (.c (.bool false)), none⟩,
    ⟨(some 71), .mov (.t 70), none⟩,
    ⟨(some 72), .mov (.t 1), (some (71, true))⟩,
    ⟨(some 73), .call (.f 10) [(.t 72), (.c (.int .i64 9))], (some (71, true))⟩,
    ⟨(some 74), .bin .eql (.t 73) (.c (.int .u64 3)), (some (71, true))⟩,
    ⟨(some 75), .pick (.t 71) (.t 74) (.c (.bool false)), none⟩,
    ⟨(some 76), .mov (.t 75), none⟩,
    ⟨(some 77), .mov (.t 1), (some (76, true))⟩,
    ⟨(some 78), .call (.f 8) [(.t 77), (.c (.int .u64 7))], (some (76, true))⟩,
    ⟨(some 79), .len .sl (.t 78), (some (76, true))⟩,
    ⟨(some 80), .bin .eql (.t 79) (.c (.int .i64 1)), (some (76, true))⟩,
    ⟨(some 81), .pick (.t 76) (.t 80) (.c (.bool false)), none⟩,
    ⟨(some 82), .mov (.t 81), none⟩,
    ⟨(some 83), .mov (.t 1), (some (82, true))⟩,
    ⟨(some 84), .call (.f 14) [(.t 83), (.c (.int .i64 1))], (some (82, true))⟩,
    ⟨(some 85), .pick (.t 82) (.t 84) (.c (.bool false)), none⟩,
    ⟨(some 86), .mov (.t 85), none⟩,
    ⟨(some 87), .mov (.t 1), (some (86, true))⟩,
    ⟨(some 88), .call (.f 14) [(.t 87), (.c (.int .i64 1))], (some (86, true))⟩,
    ⟨(some 89), .un .not (.t 88), (some (86, true))⟩,
    ⟨(some 90), .pick (.t 86) (.t 89) (.c (.bool false)), none⟩,
    ⟨(some 91), .mov (.t 90), none⟩,
    ⟨(some 92), .call (.f 11) [(.c (.int .i64 0))], (some (91, true))⟩,
    ⟨(some 93), .eq false false [.ptr] (.t 92) (.c (.ptr none)), (some (91, true))⟩,
    ⟨(some 94), .pick (.t 91) (.t 93) (.c (.bool false)), none⟩,
    ⟨(some 95), .mov (.t 94), none⟩,
    ⟨(some 96), .mov (.t 8), (some (95, true))⟩,
    ⟨(some 97), .build [(.int .i64 0), (.int .i64 0), (.int .i64 0), (.int .u64 0)] [], (some (95, true))⟩,
    ⟨(some 98), .call (.f 12) [(.t 96), (.t 97)], (some (95, true))⟩,
    ⟨(some 99), .bin .eql (.t 98) (.c (.int .i64 1)), (some (95, true))⟩,
    ⟨(some 100), .pick (.t 95) (.t 99) (.c (.bool false)), none⟩,
    ⟨(some 101), .mov (.t 100), none⟩,
    ⟨(some 102), .mov (.t 10), (some (101, true))⟩,
    ⟨(some 103), .un .not (.t 102), (some (101, true))⟩,
    ⟨(some 104), .pick (.t 101) (.t 103) (.c (.bool false)), none⟩,
    ⟨(some 105), .mov (.t 104), none⟩,
    ⟨(some 106), .mov (.t 8), (some (105, true))⟩,
    ⟨(some 107), .call (.f 10) [(.t 106), (.c (.int .i64 1))], (some (105, true))⟩,
    ⟨(some 108), .bin .eql (.t 107) (.c (.int .u64 0)), (some (105, true))⟩,
    ⟨(some 109), .pick (.t 105) (.t 108) (.c (.bool false)), none⟩,
    ⟨(some 110), .mov (.t 109), none⟩,
    ⟨(some 111), .mov (.t 1), (some (110, true))⟩,
    ⟨(some 112), .call (.f 15) [(.t 111)], (some (110, true))⟩,
    ⟨(some 113), .len .sl (.t 112), (some (110, true))⟩,
    ⟨(some 114), .bin .eql (.t 113) (.c (.int .i64 1)), (some (110, true))⟩,
    ⟨(some 115), .pick (.t 110) (.t 114) (.c (.bool false)), none⟩,
    ⟨(some 0), .mov (.t 115), none⟩]) <|
 .ret, [.slot 0]⟩
theorem c5 : Code1 Try.prog 5 116 b5 := Code1.mk' Try.func5 (by kernel_rfl) (by kernel_rfl) Try.ntmps5

/-- fusee/fuseelaw40.made -/
def b6 : IFn := ⟨
 .seq
 (.region [⟨(some 4), .mov (.c (.ptr none)), none⟩,
    ⟨(some 5), .mov (.c (.sl none 0 (some 0))), none⟩,
    ⟨(some 6), .mov (.c (.bool false)), none⟩]) <|
 .seq
 (.region [⟨(some 18), .mov (.t 0), none⟩,
    ⟨(some 19), .call (.f 11) [(.t 18)], none⟩,
    ⟨(some 7), .mov (.t 19), none⟩]) <|
 .seq
 (.region [⟨(some 8), .mov (.c (.sl none 0 (some 0))), none⟩]) <|
 .seq
 (.seq
  (.region [⟨(some 20), .mov (.t 1), none⟩,
     ⟨(some 21), .len .sl (.t 20), none⟩,
     ⟨(some 22), .mov (.c (.int .i64 0)), none⟩]) <|
  .block 0 <|
  .loop [0, 7, 8, 20, 21, 22] <|
   .seq
   (.region [⟨(some 23), .bin .lss (.t 22) (.t 21), none⟩]) <|
   .seq
   (.cond (.t 23)
     (.skip)
     (.exit 0)) <|
   .seq
   (.block 1 <|
    .seq
    (.region [⟨(some 24), .iaddr 5 (.t 20) (.t 22), none⟩,
       ⟨(some 25), .load true 5 (.t 24), none⟩,
       ⟨(some 10), .alloc [(.int .u8 0), (.int .i64 0), (.int .i64 0), (.int .i64 0), (.int .u64 0)], none⟩,
       ⟨none, .store 5 (.t 10) (.t 25), none⟩]) <|
    .seq
    (.region [⟨(some 26), .faddr 1 (.t 10), none⟩,
       ⟨(some 27), .load true 4 (.t 26), none⟩,
       ⟨(some 11), .alloc [(.int .i64 0), (.int .i64 0), (.int .i64 0), (.int .u64 0)], none⟩,
       ⟨none, .store 4 (.t 11) (.t 27), none⟩]) <|
    .seq
    (.region [⟨(some 12), .mov (.c (.int .i64 (-1))), none⟩,
       ⟨(some 13), .mov (.c (.bool false)), none⟩]) <|
    .seq
    (.seq
     (.region [⟨(some 28), .mov (.t 8), none⟩,
        ⟨(some 29), .len .sl (.t 28), none⟩,
        ⟨(some 30), .mov (.c (.int .i64 0)), none⟩]) <|
     .block 2 <|
     .loop [0, 7, 8, 10, 11, 12, 13, 20, 21, 22, 28, 29, 30] <|
      .seq
      (.region [⟨(some 31), .bin .lss (.t 30) (.t 29), none⟩]) <|
      .seq
      (.cond (.t 31)
        (.skip)
        (.exit 2)) <|
      .seq
      (.block 3 <|
       .seq
       (.region [⟨(some 32), .mov (.t 30), none⟩,
          ⟨(some 33), .iaddr 4 (.t 28) (.t 30), none⟩,
          ⟨(some 34), .load true 4 (.t 33), none⟩,
          ⟨(some 15), .alloc [(.int .i64 0), (.int .i64 0), (.int .i64 0), (.int .u64 0)], none⟩,
          ⟨(some 14), .mov (.t 32), none⟩,
          ⟨none, .store 4 (.t 15) (.t 34), none⟩]) <|
       .seq
       (.seq
        (.region [⟨(some 35), .faddr 0 (.t 15), none⟩,
           ⟨(some 36), .load false 1 (.t 35), none⟩,
           ⟨(some 37), .faddr 0 (.t 11), none⟩,
           ⟨(some 38), .load false 1 (.t 37), none⟩,
           ⟨(some 39), .bin .eql (.t 36) (.t 38), none⟩]) <|
        .cond (.t 39)
         (.region [⟨(some 40), .mov (.t 14), none⟩,
            ⟨(some 12), .mov (.t 40), none⟩])
         (.skip)) <|
       .region [⟨(some 41), .mov (.t 13), none⟩,
         ⟨(some 42), .mov (.t 41), none⟩,
         ⟨(some 43), .load true 4 (.t 15), (some (42, false))⟩,
         ⟨(some 44), .load true 4 (.t 11), (some (42, false))⟩,
         ⟨(some 45), .call (.f 16) [(.t 43), (.t 44)], (some (42, false))⟩,
         ⟨(some 46), .pick (.t 42) (.c (.bool true)) (.t 45), none⟩,
         ⟨(some 13), .mov (.t 46), none⟩]) <|
      .region [⟨(some 47), .bin .add (.t 30) (.c (.int .i64 1)), none⟩,
        ⟨(some 30), .mov (.t 47), none⟩]) <|
    .seq
    (.seq
     (.region [⟨(some 48), .faddr 0 (.t 10), none⟩,
        ⟨(some 49), .load false 1 (.t 48), none⟩,
        ⟨(some 50), .bin .rem (.t 49) (.c (.int .u8 2)), none⟩,
        ⟨(some 51), .bin .eql (.t 50) (.c (.int .u8 1)), none⟩]) <|
     .cond (.t 51)
      (.seq
       (.seq
        (.region [⟨(some 52), .mov (.t 7), none⟩,
           ⟨(some 53), .faddr 0 (.t 11), none⟩,
           ⟨(some 54), .load false 1 (.t 53), none⟩,
           ⟨(some 55), .call (.f 14) [(.t 52), (.t 54)], none⟩,
           ⟨(some 56), .mov (.t 12), none⟩,
           ⟨(some 57), .bin .geq (.t 56) (.c (.int .i64 0)), none⟩,
           ⟨(some 58), .eq true false [.bool] (.t 55) (.t 57), none⟩]) <|
        .cond (.t 58)
         (.seq
          (.region [⟨(some 59), .mov (.t 7), none⟩,
             ⟨(some 60), .mov (.t 8), none⟩,
             ⟨(some 4), .mov (.t 59), none⟩,
             ⟨(some 5), .mov (.t 60), none⟩,
             ⟨(some 6), .mov (.c (.bool false)), none⟩]) <|
          .ret)
         (.skip)) <|
       .seq
       (.seq
        (.region [⟨(some 61), .mov (.t 12), none⟩,
           ⟨(some 62), .bin .geq (.t 61) (.c (.int .i64 0)), none⟩]) <|
        .cond (.t 62)
         (.draw false [0, 7, 8, 20, 21, 22] (
            .op ⟨(some 64), .mov (.t 8), none⟩ <|
            .op ⟨(some 65), .mov (.t 12), none⟩ <|
            .op ⟨(some 66), .slice 4 (.t 64) none (some (.t 65)) none, none⟩ <|
            .op ⟨(some 68), .mov (.t 8), none⟩ <|
            .op ⟨(some 69), .mov (.t 12), none⟩ <|
            .op ⟨(some 70), .bin .add (.t 69) (.c (.int .i64 1)), none⟩ <|
            .op ⟨(some 71), .slice 4 (.t 68) (some (.t 70)) none none, none⟩ <|
            .op ⟨(some 63), .buildSl 4 [] [], none⟩ <|
            .op ⟨(some 67), .app 4 32 (.t 63) (.t 66), none⟩ <|
            .op ⟨(some 72), .app 4 32 (.t 67) (.t 71), none⟩ <|
            .op ⟨(some 8), .mov (.t 72), none⟩ <|
            .done))
         (.skip)) <|
       .exit 1)
      (.skip)) <|
    .seq
    (.region [⟨(some 16), .mov (.c (.int .i64 0)), none⟩]) <|
    .seq
    (.block 4 <|
     .seq
     (.region [⟨(some 74), .faddr 1 (.t 11), none⟩,
        ⟨(some 75), .load true 2 (.t 74), none⟩,
        ⟨(some 76), .call (.f 17) [(.t 75)], none⟩,
        ⟨(some 77), .un .not (.t 76), none⟩,
        ⟨(some 78), .mov (.t 77), none⟩,
        ⟨(some 79), .faddr 3 (.t 11), (some (78, false))⟩,
        ⟨(some 80), .load false 1 (.t 79), (some (78, false))⟩,
        ⟨(some 81), .bin .eql (.t 80) (.c (.int .u64 0)), (some (78, false))⟩,
        ⟨(some 82), .pick (.t 78) (.c (.bool true)) (.t 81), none⟩,
        ⟨(some 83), .mov (.t 82), none⟩,
        ⟨(some 84), .mov (.t 0), (some (83, false))⟩,
        ⟨(some 85), .bin .lss (.t 84) (.c (.int .i64 64)), (some (83, false))⟩,
        ⟨(some 86), .mov (.t 85), (some (83, false))⟩,
        ⟨(some 87), .faddr 3 (.t 11), (some (86, true))⟩,
        ⟨(some 88), .load false 1 (.t 87), (some (86, true))⟩,
        ⟨(some 89), .mov (.t 0), (some (86, true))⟩,
        ⟨(some 90), .conv .u64 (.t 89), (some (86, true))⟩,
        ⟨(some 91), .bin .shr (.t 88) (.t 90), (some (86, true))⟩,
        ⟨(some 92), .bin .neq (.t 91) (.c (.int .u64 0)), (some (86, true))⟩,
        ⟨(some 93), .pick (.t 86) (.t 92) (.c (.bool false)), (some (83, false))⟩,
        ⟨(some 94), .pick (.t 83) (.c (.bool true)) (.t 93), none⟩,
        ⟨(some 73), .mov (.t 94), none⟩]) <|
     .cond (.t 73)
      (.region [⟨(some 16), .mov (.c (.int .i64 2)), none⟩])
      (.seq
       (.region [⟨(some 96), .mov (.t 12), none⟩,
          ⟨(some 97), .bin .geq (.t 96) (.c (.int .i64 0)), none⟩,
          ⟨(some 98), .mov (.t 97), none⟩,
          ⟨(some 99), .mov (.t 13), (some (98, false))⟩,
          ⟨(some 100), .pick (.t 98) (.c (.bool true)) (.t 99), none⟩,
          ⟨(some 95), .mov (.t 100), none⟩]) <|
       .cond (.t 95)
        (.region [⟨(some 16), .mov (.c (.int .i64 9)), none⟩])
        (.skip))) <|
    .seq
    (.seq
     (.region [⟨(some 101), .mov (.t 7), none⟩,
        ⟨(some 102), .load true 4 (.t 11), none⟩,
        ⟨(some 103), .call (.f 12) [(.t 101), (.t 102)], none⟩,
        ⟨(some 104), .mov (.t 16), none⟩,
        ⟨(some 105), .bin .neq (.t 103) (.t 104), none⟩]) <|
     .cond (.t 105)
      (.seq
       (.region [⟨(some 106), .mov (.t 7), none⟩,
          ⟨(some 107), .mov (.t 8), none⟩,
          ⟨(some 4), .mov (.t 106), none⟩,
          ⟨(some 5), .mov (.t 107), none⟩,
          ⟨(some 6), .mov (.c (.bool false)), none⟩]) <|
       .ret)
      (.skip)) <|
    .seq
    (.region [⟨(some 108), .mov (.t 16), none⟩,
       ⟨(some 109), .bin .eql (.t 108) (.c (.int .i64 0)), none⟩]) <|
    .cond (.t 109)
     (.seq
      (.region [⟨(some 17), .mov (.c (.int .i64 0)), none⟩]) <|
      .seq
      (.block 5 <|
       .loop [0, 7, 8, 11, 17, 20, 21, 22] <|
        .seq
        (.seq
         (.draw false [0, 7, 8, 11, 17, 20, 21, 22, 147] (
            .op ⟨(some 110), .mov (.t 17), none⟩ <|
            .op ⟨(some 111), .mov (.t 8), none⟩ <|
            .op ⟨(some 112), .len .sl (.t 111), none⟩ <|
            .op ⟨(some 113), .bin .lss (.t 110) (.t 112), none⟩ <|
            .op ⟨(some 114), .mov (.t 113), none⟩ <|
            .op ⟨(some 115), .mov (.t 8), (some (114, true))⟩ <|
            .op ⟨(some 116), .mov (.t 17), (some (114, true))⟩ <|
            .op ⟨(some 117), .iaddr 4 (.t 115) (.t 116), (some (114, true))⟩ <|
            .op ⟨(some 118), .faddr 1 (.t 117), (some (114, true))⟩ <|
            .op ⟨(some 119), .faddr 0 (.t 118), (some (114, true))⟩ <|
            .op ⟨(some 120), .load false 1 (.t 119), (some (114, true))⟩ <|
            .op ⟨(some 121), .faddr 1 (.t 11), (some (114, true))⟩ <|
            .op ⟨(some 122), .faddr 0 (.t 121), (some (114, true))⟩ <|
            .op ⟨(some 123), .load false 1 (.t 122), (some (114, true))⟩ <|
            .op ⟨(some 124), .bin .lss (.t 120) (.t 123), (some (114, true))⟩ <|
            .op ⟨(some 125), .mov (.t 124), (some (114, true))⟩ <|
            .op ⟨(some 126), .mov (.t 8), (some (125, false))⟩ <|
            .op ⟨(some 127), .mov (.t 17), (some (125, false))⟩ <|
            .op ⟨(some 128), .iaddr 4 (.t 126) (.t 127), (some (125, false))⟩ <|
            .op ⟨(some 129), .faddr 1 (.t 128), (some (125, false))⟩ <|
            .op ⟨(some 130), .faddr 0 (.t 129), (some (125, false))⟩ <|
            .op ⟨(some 131), .load false 1 (.t 130), (some (125, false))⟩ <|
            .op ⟨(some 132), .faddr 1 (.t 11), (some (125, false))⟩ <|
            .op ⟨(some 133), .faddr 0 (.t 132), (some (125, false))⟩ <|
            .op ⟨(some 134), .load false 1 (.t 133), (some (125, false))⟩ <|
            .op ⟨(some 135), .bin .eql (.t 131) (.t 134), (some (125, false))⟩ <|
            .op ⟨(some 136), .mov (.t 135), (some (125, false))⟩ <|
            .op ⟨(some 137), .mov (.t 8), (some (136, true))⟩ <|
            .op ⟨(some 138), .mov (.t 17), (some (136, true))⟩ <|
            .op ⟨(some 139), .iaddr 4 (.t 137) (.t 138), (some (136, true))⟩ <|
            .op ⟨(some 140), .faddr 0 (.t 139), (some (136, true))⟩ <|
            .op ⟨(some 141), .load false 1 (.t 140), (some (136, true))⟩ <|
            .op ⟨(some 142), .faddr 0 (.t 11), (some (136, true))⟩ <|
            .op ⟨(some 143), .load false 1 (.t 142), (some (136, true))⟩ <|
            .op ⟨(some 144), .bin .lss (.t 141) (.t 143), (some (136, true))⟩ <|
            .op ⟨(some 145), .pick (.t 136) (.t 144) (.c (.bool false)), (some (125, false))⟩ <|
            .op ⟨(some 146), .pick (.t 125) (.c (.bool true)) (.t 145), (some (114, true))⟩ <|
            .op ⟨(some 147), .pick (.t 114) (.t 146) (.c (.bool false)), none⟩ <|
            .done)) <|
         .cond (.t 147)
          (.skip)
          (.exit 5)) <|
        .block 6 <|
        .region [⟨(some 148), .mov (.t 17), none⟩,
          ⟨(some 149), .bin .add (.t 148) (.c (.int .i64 1)), none⟩,
          ⟨(some 17), .mov (.t 149), none⟩]) <|
      .draw false [0, 7, 8, 20, 21, 22] (
        .op ⟨(some 151), .mov (.t 8), none⟩ <|
        .op ⟨(some 152), .mov (.t 17), none⟩ <|
        .op ⟨(some 153), .slice 4 (.t 151) none (some (.t 152)) none, none⟩ <|
        .op ⟨(some 158), .mov (.t 8), none⟩ <|
        .op ⟨(some 159), .mov (.t 17), none⟩ <|
        .op ⟨(some 160), .slice 4 (.t 158) (some (.t 159)) none none, none⟩ <|
        .alt (.op ⟨(some 150), .buildSl 4 [] [], none⟩ <|
         .alt (.op ⟨(some 154), .app 4 32 (.t 150) (.t 153), none⟩ <|
          .op ⟨(some 155), .load true 4 (.t 11), none⟩ <|
          .op ⟨(some 156), .buildSl 4 [(.int .i64 0), (.int .i64 0), (.int .i64 0), (.int .u64 0)] [(0, 4, (.t 155))], none⟩ <|
          .op ⟨(some 157), .app 4 32 (.t 154) (.t 156), none⟩ <|
          .op ⟨(some 161), .app 4 32 (.t 157) (.t 160), none⟩ <|
          .op ⟨(some 8), .mov (.t 161), none⟩ <|
          .done) <|
         .op ⟨(some 155), .load true 4 (.t 11), none⟩ <|
         .alt (.op ⟨(some 154), .app 4 32 (.t 150) (.t 153), none⟩ <|
          .op ⟨(some 156), .buildSl 4 [(.int .i64 0), (.int .i64 0), (.int .i64 0), (.int .u64 0)] [(0, 4, (.t 155))], none⟩ <|
          .op ⟨(some 157), .app 4 32 (.t 154) (.t 156), none⟩ <|
          .op ⟨(some 161), .app 4 32 (.t 157) (.t 160), none⟩ <|
          .op ⟨(some 8), .mov (.t 161), none⟩ <|
          .done) <|
         .op ⟨(some 156), .buildSl 4 [(.int .i64 0), (.int .i64 0), (.int .i64 0), (.int .u64 0)] [(0, 4, (.t 155))], none⟩ <|
         .op ⟨(some 154), .app 4 32 (.t 150) (.t 153), none⟩ <|
         .op ⟨(some 157), .app 4 32 (.t 154) (.t 156), none⟩ <|
         .op ⟨(some 161), .app 4 32 (.t 157) (.t 160), none⟩ <|
         .op ⟨(some 8), .mov (.t 161), none⟩ <|
         .done) <|
        .op ⟨(some 155), .load true 4 (.t 11), none⟩ <|
        .alt (.op ⟨(some 150), .buildSl 4 [] [], none⟩ <|
         .alt (.op ⟨(some 154), .app 4 32 (.t 150) (.t 153), none⟩ <|
          .op ⟨(some 156), .buildSl 4 [(.int .i64 0), (.int .i64 0), (.int .i64 0), (.int .u64 0)] [(0, 4, (.t 155))], none⟩ <|
          .op ⟨(some 157), .app 4 32 (.t 154) (.t 156), none⟩ <|
          .op ⟨(some 161), .app 4 32 (.t 157) (.t 160), none⟩ <|
          .op ⟨(some 8), .mov (.t 161), none⟩ <|
          .done) <|
         .op ⟨(some 156), .buildSl 4 [(.int .i64 0), (.int .i64 0), (.int .i64 0), (.int .u64 0)] [(0, 4, (.t 155))], none⟩ <|
         .op ⟨(some 154), .app 4 32 (.t 150) (.t 153), none⟩ <|
         .op ⟨(some 157), .app 4 32 (.t 154) (.t 156), none⟩ <|
         .op ⟨(some 161), .app 4 32 (.t 157) (.t 160), none⟩ <|
         .op ⟨(some 8), .mov (.t 161), none⟩ <|
         .done) <|
        .op ⟨(some 156), .buildSl 4 [(.int .i64 0), (.int .i64 0), (.int .i64 0), (.int .u64 0)] [(0, 4, (.t 155))], none⟩ <|
        .op ⟨(some 150), .buildSl 4 [] [], none⟩ <|
        .op ⟨(some 154), .app 4 32 (.t 150) (.t 153), none⟩ <|
        .op ⟨(some 157), .app 4 32 (.t 154) (.t 156), none⟩ <|
        .op ⟨(some 161), .app 4 32 (.t 157) (.t 160), none⟩ <|
        .op ⟨(some 8), .mov (.t 161), none⟩ <|
        .done))
     (.skip)) <|
   .region [⟨(some 162), .bin .add (.t 22) (.c (.int .i64 1)), none⟩,
     ⟨(some 22), .mov (.t 162), none⟩]) <|
 .seq
 (.region [⟨(some 163), .mov (.t 7), none⟩,
    ⟨(some 164), .mov (.t 8), none⟩,
    ⟨(some 4), .mov (.t 163), none⟩,
    ⟨(some 5), .mov (.t 164), none⟩,
    ⟨(some 6), .mov (.c (.bool true)), none⟩]) <|
 .ret, [.slot 4, .slot 5, .slot 6]⟩
theorem c6 : Code1 Try.prog 6 165 b6 := Code1.mk' Try.func6 (by kernel_rfl) (by kernel_rfl) Try.ntmps6

/-- fusee/agenda.Agenda.Find -/
def b7 : IFn := ⟨
 .seq
 (.region [⟨(some 8), .mov (.c (.int .i64 0)), none⟩,
    ⟨(some 9), .mov (.c (.bool false)), none⟩]) <|
 .seq
 (.seq
  (.region [⟨(some 11), .mov (.t 0), none⟩,
     ⟨(some 12), .eq false false [.ptr] (.t 11) (.c (.ptr none)), none⟩,
     ⟨(some 13), .mov (.t 12), none⟩,
     ⟨(some 14), .mov (.t 3), (some (13, false))⟩,
     ⟨(some 15), .bin .lss (.t 14) (.c (.int .i64 1)), (some (13, false))⟩,
     ⟨(some 16), .pick (.t 13) (.c (.bool true)) (.t 15), none⟩,
     ⟨(some 17), .mov (.t 16), none⟩,
     ⟨(some 18), .mov (.t 3), (some (17, false))⟩,
     ⟨(some 19), .bin .gtr (.t 18) (.c (.int .i64 1099511627776)), (some (17, false))⟩,
     ⟨(some 20), .pick (.t 17) (.c (.bool true)) (.t 19), none⟩,
     ⟨(some 21), .mov (.t 20), none⟩,
     ⟨(some 22), .mov (.t 2), (some (21, false))⟩,
     ⟨(some 23), .mov (.t 2), (some (21, false))⟩,
     ⟨(some 24), .bin .add (.t 23) (.c (.int .i64 1)), (some (21, false))⟩,
     ⟨(some 25), .build [(.int .i64 0), (.int .i64 0)] [(0, 1, (.t 22)), (1, 1, (.t 24))], (some (21, false))⟩,
     ⟨(some 26), .buildSl 2 [(.int .i64 0), (.int .i64 0)] [(0, 2, (.t 25))], (some (21, false))⟩,
     ⟨(some 27), .call (.f 18) [(.t 26)], (some (21, false))⟩,
     ⟨(some 28), .un .not (.t 27), (some (21, false))⟩,
     ⟨(some 29), .pick (.t 21) (.c (.bool true)) (.t 28), none⟩]) <|
  .cond (.t 29)
   (.seq
    (.region [⟨(some 8), .mov (.c (.int .i64 0)), none⟩,
       ⟨(some 9), .mov (.c (.bool false)), none⟩]) <|
    .ret)
   (.skip)) <|
 .seq
 (.region [⟨(some 30), .mov (.t 0), none⟩,
    ⟨(some 31), .mov (.t 1), none⟩,
    ⟨(some 32), .call (.f 8) [(.t 30), (.t 31)], none⟩,
    ⟨(some 33), .mov (.t 2), none⟩,
    ⟨(some 34), .mov (.t 3), none⟩,
    ⟨(some 35), .call (.f 19) [(.t 32), (.t 33), (.t 34)], none⟩,
    ⟨(some 10), .mov (.t 35), none⟩]) <|
 .seq
 (.seq
  (.region [⟨(some 36), .mov (.t 10), none⟩,
     ⟨(some 37), .mov (.t 10), none⟩,
     ⟨(some 38), .mov (.t 3), none⟩,
     ⟨(some 39), .bin .add (.t 37) (.t 38), none⟩,
     ⟨(some 40), .build [(.int .i64 0), (.int .i64 0)] [(0, 1, (.t 36)), (1, 1, (.t 39))], none⟩,
     ⟨(some 41), .buildSl 2 [(.int .i64 0), (.int .i64 0)] [(0, 2, (.t 40))], none⟩,
     ⟨(some 42), .call (.f 18) [(.t 41)], none⟩,
     ⟨(some 43), .un .not (.t 42), none⟩]) <|
  .cond (.t 43)
   (.seq
    (.region [⟨(some 8), .mov (.c (.int .i64 0)), none⟩,
       ⟨(some 9), .mov (.c (.bool false)), none⟩]) <|
    .ret)
   (.skip)) <|
 .seq
 (.region [⟨(some 44), .mov (.t 10), none⟩,
    ⟨(some 8), .mov (.t 44), none⟩,
    ⟨(some 9), .mov (.c (.bool true)), none⟩]) <|
 .ret, [.slot 8, .slot 9]⟩
theorem c7 : Code1 Try.prog 7 45 b7 := Code1.mk' Try.func7 (by kernel_rfl) (by kernel_rfl) Try.ntmps7

/-- fusee/agenda.Agenda.Busy -/
def b8 : IFn := ⟨
 .seq
 (.region [⟨(some 4), .mov (.c (.sl none 0 (some 0))), none⟩]) <|
 .seq
 (.region [⟨(some 5), .mov (.c (.sl none 0 (some 0))), none⟩]) <|
 .seq
 (.seq
  (.region [⟨(some 8), .mov (.t 0), none⟩,
     ⟨(some 9), .call (.f 15) [(.t 8)], none⟩,
     ⟨(some 10), .len .sl (.t 9), none⟩,
     ⟨(some 11), .mov (.c (.int .i64 0)), none⟩]) <|
  .block 0 <|
  .loop [1, 5, 9, 10, 11] <|
   .seq
   (.region [⟨(some 12), .bin .lss (.t 11) (.t 10), none⟩]) <|
   .seq
   (.cond (.t 12)
     (.skip)
     (.exit 0)) <|
   .seq
   (.block 1 <|
    .seq
    (.region [⟨(some 13), .iaddr 4 (.t 9) (.t 11), none⟩,
       ⟨(some 14), .load true 4 (.t 13), none⟩,
       ⟨(some 7), .alloc [(.int .i64 0), (.int .i64 0), (.int .i64 0), (.int .u64 0)], none⟩,
       ⟨none, .store 4 (.t 7) (.t 14), none⟩]) <|
    .seq
    (.region [⟨(some 15), .faddr 3 (.t 7), none⟩,
       ⟨(some 16), .load false 1 (.t 15), none⟩,
       ⟨(some 17), .mov (.t 1), none⟩,
       ⟨(some 18), .bin .and (.t 16) (.t 17), none⟩,
       ⟨(some 19), .bin .neq (.t 18) (.c (.int .u64 0)), none⟩]) <|
    .cond (.t 19)
     (.region [⟨(some 20), .mov (.t 5), none⟩,
        ⟨(some 21), .faddr 1 (.t 7), none⟩,
        ⟨(some 22), .load true 2 (.t 21), none⟩,
        ⟨(some 23), .buildSl 2 [(.int .i64 0), (.int .i64 0)] [(0, 2, (.t 22))], none⟩,
        ⟨(some 24), .app 2 16 (.t 20) (.t 23), none⟩,
        ⟨(some 5), .mov (.t 24), none⟩])
     (.skip)) <|
   .region [⟨(some 25), .bin .add (.t 11) (.c (.int .i64 1)), none⟩,
     ⟨(some 11), .mov (.t 25), none⟩]) <|
 .seq
 (.region [⟨(some 26), .mov (.t 5), none⟩,
    ⟨(some 27), .call (.f 20) [(.t 26)], none⟩,
    ⟨(some 4), .mov (.t 27), none⟩]) <|
 .ret, [.slot 4]⟩
theorem c8 : Code1 Try.prog 8 28 b8 := Code1.mk' Try.func8 (by kernel_rfl) (by kernel_rfl) Try.ntmps8

/-- fusee/span.Set.Has -/
def b9 : IFn := ⟨
 .seq
 (.region [⟨(some 4), .mov (.c (.bool false)), none⟩]) <|
 .seq
 (.region [⟨(some 8), .mov (.t 0), none⟩,
    ⟨(some 9), .mov (.t 1), none⟩,
    ⟨(some 10), .call (.f 21) [(.t 8), (.t 9)], none⟩,
    ⟨(some 7), .mov (.t 10), none⟩,
    ⟨(some 11), .extract (.t 7) 0, none⟩,
    ⟨(some 12), .extract (.t 7) 1, none⟩,
    ⟨(some 5), .mov (.t 11), none⟩,
    ⟨(some 6), .mov (.t 12), none⟩]) <|
 .seq
 (.region [⟨(some 13), .mov (.t 6), none⟩,
    ⟨(some 14), .mov (.t 13), none⟩,
    ⟨(some 15), .mov (.t 5), (some (14, true))⟩,
    ⟨(some 16), .mov (.t 1), (some (14, true))⟩,
    ⟨(some 17), .bin .eql (.t 15) (.t 16), (some (14, true))⟩,
    ⟨(some 18), .pick (.t 14) (.t 17) (.c (.bool false)), none⟩,
    ⟨(some 4), .mov (.t 18), none⟩]) <|
 .ret, [.slot 4]⟩
theorem c9 : Code1 Try.prog 9 19 b9 := Code1.mk' Try.func9 (by kernel_rfl) (by kernel_rfl) Try.ntmps9

/-- fusee/agenda.Agenda.Free -/
def b10 : IFn := ⟨
 .seq
 (.region [⟨(some 4), .mov (.c (.int .u64 0)), none⟩]) <|
 .seq
 (.seq
  (.region [⟨(some 8), .mov (.t 0), none⟩,
     ⟨(some 9), .eq false false [.ptr] (.t 8) (.c (.ptr none)), none⟩]) <|
  .cond (.t 9)
   (.seq
    (.region [⟨(some 4), .mov (.c (.int .u64 0)), none⟩]) <|
    .ret)
   (.skip)) <|
 .seq
 (.region [⟨(some 10), .mov (.t 0), none⟩,
    ⟨(some 11), .nilck (.t 10), none⟩,
    ⟨(some 12), .faddr 0 (.t 11), none⟩,
    ⟨(some 13), .load false 1 (.t 12), none⟩,
    ⟨(some 5), .mov (.t 13), none⟩]) <|
 .seq
 (.seq
  (.region [⟨(some 14), .mov (.t 0), none⟩,
     ⟨(some 15), .nilck (.t 14), none⟩,
     ⟨(some 16), .faddr 1 (.t 15), none⟩,
     ⟨(some 17), .load false 1 (.t 16), none⟩,
     ⟨(some 18), .len .sl (.t 17), none⟩,
     ⟨(some 19), .mov (.c (.int .i64 0)), none⟩]) <|
  .block 0 <|
  .loop [1, 5, 17, 18, 19] <|
   .seq
   (.region [⟨(some 20), .bin .lss (.t 19) (.t 18), none⟩]) <|
   .seq
   (.cond (.t 20)
     (.skip)
     (.exit 0)) <|
   .seq
   (.block 1 <|
    .seq
    (.region [⟨(some 21), .iaddr 4 (.t 17) (.t 19), none⟩,
       ⟨(some 22), .load true 4 (.t 21), none⟩,
       ⟨(some 7), .alloc [(.int .i64 0), (.int .i64 0), (.int .i64 0), (.int .u64 0)], none⟩,
       ⟨none, .store 4 (.t 7) (.t 22), none⟩]) <|
    .seq
    (.region [⟨(some 23), .faddr 1 (.t 7), none⟩,
       ⟨(some 24), .faddr 0 (.t 23), none⟩,
       ⟨(some 25), .load false 1 (.t 24), none⟩,
       ⟨(some 26), .mov (.t 1), none⟩,
       ⟨(some 27), .bin .leq (.t 25) (.t 26), none⟩,
       ⟨(some 28), .mov (.t 27), none⟩,
       ⟨(some 29), .mov (.t 1), (some (28, true))⟩,
       ⟨(some 30), .faddr 1 (.t 7), (some (28, true))⟩,
       ⟨(some 31), .faddr 1 (.t 30), (some (28, true))⟩,
       ⟨(some 32), .load false 1 (.t 31), (some (28, true))⟩,
       ⟨(some 33), .bin .lss (.t 29) (.t 32), (some (28, true))⟩,
       ⟨(some 34), .pick (.t 28) (.t 33) (.c (.bool false)), none⟩]) <|
    .cond (.t 34)
     (.region [⟨(some 35), .mov (.t 5), none⟩,
        ⟨(some 36), .faddr 3 (.t 7), none⟩,
        ⟨(some 37), .load false 1 (.t 36), none⟩,
        ⟨(some 38), .bin .andNot (.t 35) (.t 37), none⟩,
        ⟨(some 5), .mov (.t 38), none⟩])
     (.skip)) <|
   .region [⟨(some 39), .bin .add (.t 19) (.c (.int .i64 1)), none⟩,
     ⟨(some 19), .mov (.t 39), none⟩]) <|
 .seq
 (.region [⟨(some 40), .mov (.t 5), none⟩,
    ⟨(some 4), .mov (.t 40), none⟩]) <|
 .ret, [.slot 4]⟩
theorem c10 : Code1 Try.prog 10 41 b10 := Code1.mk' Try.func10 (by kernel_rfl) (by kernel_rfl) Try.ntmps10

/-- fusee/agenda.New -/
def b11 : IFn := ⟨
 .seq
 (.region [⟨(some 2), .mov (.c (.ptr none)), none⟩]) <|
 .seq
 (.seq
  (.region [⟨(some 3), .mov (.t 0), none⟩,
     ⟨(some 4), .bin .lss (.t 3) (.c (.int .i64 1)), none⟩,
     ⟨(some 5), .mov (.t 4), none⟩,
     ⟨(some 6), .mov (.t 0), (some (5, false))⟩,
     ⟨(some 7), .bin .gtr (.t 6) (.c (.int .i64 64)), (some (5, false))⟩,
     ⟨(some 8), .pick (.t 5) (.c (.bool true)) (.t 7), none⟩]) <|
  .cond (.t 8)
   (.seq
    (.region [⟨(some 2), .mov (.c (.ptr none)), none⟩]) <|
    .ret)
   (.skip)) <|
 .seq
 (.region [⟨(some 9), .mov (.t 0), none⟩,
    ⟨(some 10), .bin .sub (.c (.int .i64 64)) (.t 9), none⟩,
    ⟨(some 11), .conv .u64 (.t 10), none⟩,
    ⟨(some 12), .bin .shr (.c (.int .u64 18446744073709551615)) (.t 11), none⟩,
    ⟨(some 13), .build [(.int .u64 0), (.sl none 0 (some 0))] [(0, 1, (.t 12))], none⟩,
    ⟨(some 14), .box (.t 13), none⟩,
    ⟨(some 2), .mov (.t 14), none⟩]) <|
 .ret, [.slot 2]⟩
theorem c11 : Code1 Try.prog 11 15 b11 := Code1.mk' Try.func11 (by kernel_rfl) (by kernel_rfl) Try.ntmps11

/-- fusee/agenda.Agenda.Add -/
def b12 : IFn := ⟨
 .seq
 (.region [⟨(some 3), .box (.t 1), none⟩,
    ⟨(some 4), .mov (.c (.int .i64 0)), none⟩]) <|
 .seq
 (.block 0 <|
  .seq
  (.region [⟨(some 8), .mov (.t 0), none⟩,
     ⟨(some 9), .eq false false [.ptr] (.t 8) (.c (.ptr none)), none⟩,
     ⟨(some 7), .mov (.t 9), none⟩]) <|
  .cond (.t 7)
   (.seq
    (.region [⟨(some 4), .mov (.c (.int .i64 1)), none⟩]) <|
    .ret)
   (.seq
    (.draw false [0, 3, 10] (
       .op ⟨(some 11), .faddr 1 (.t 3), none⟩ <|
       .op ⟨(some 12), .load true 2 (.t 11), none⟩ <|
       .op ⟨(some 13), .buildSl 2 [(.int .i64 0), (.int .i64 0)] [(0, 2, (.t 12))], none⟩ <|
       .op ⟨(some 14), .call (.f 18) [(.t 13)], none⟩ <|
       .op ⟨(some 15), .un .not (.t 14), none⟩ <|
       .op ⟨(some 16), .mov (.t 15), none⟩ <|
       .op ⟨(some 17), .faddr 3 (.t 3), (some (16, false))⟩ <|
       .op ⟨(some 18), .load false 1 (.t 17), (some (16, false))⟩ <|
       .op ⟨(some 19), .bin .eql (.t 18) (.c (.int .u64 0)), (some (16, false))⟩ <|
       .op ⟨(some 20), .pick (.t 16) (.c (.bool true)) (.t 19), none⟩ <|
       .op ⟨(some 21), .mov (.t 20), none⟩ <|
       .op ⟨(some 22), .faddr 3 (.t 3), (some (21, false))⟩ <|
       .op ⟨(some 23), .load false 1 (.t 22), (some (21, false))⟩ <|
       .op ⟨(some 24), .mov (.t 0), (some (21, false))⟩ <|
       .op ⟨(some 25), .nilck (.t 24), (some (21, false))⟩ <|
       .op ⟨(some 26), .faddr 0 (.t 25), (some (21, false))⟩ <|
       .op ⟨(some 27), .load false 1 (.t 26), (some (21, false))⟩ <|
       .op ⟨(some 28), .bin .andNot (.t 23) (.t 27), (some (21, false))⟩ <|
       .op ⟨(some 29), .bin .neq (.t 28) (.c (.int .u64 0)), (some (21, false))⟩ <|
       .op ⟨(some 30), .pick (.t 21) (.c (.bool true)) (.t 29), none⟩ <|
       .op ⟨(some 10), .mov (.t 30), none⟩ <|
       .done)) <|
    .cond (.t 10)
     (.seq
      (.region [⟨(some 4), .mov (.c (.int .i64 2)), none⟩]) <|
      .ret)
     (.seq
      (.region [⟨(some 32), .mov (.t 0), none⟩,
         ⟨(some 33), .faddr 0 (.t 3), none⟩,
         ⟨(some 34), .load false 1 (.t 33), none⟩,
         ⟨(some 35), .call (.f 22) [(.t 32), (.t 34)], none⟩,
         ⟨(some 36), .bin .geq (.t 35) (.c (.int .i64 0)), none⟩,
         ⟨(some 37), .mov (.t 36), none⟩,
         ⟨(some 38), .mov (.t 0), (some (37, false))⟩,
         ⟨(some 39), .load true 4 (.t 3), (some (37, false))⟩,
         ⟨(some 40), .call (.f 13) [(.t 38), (.t 39)], (some (37, false))⟩,
         ⟨(some 41), .len .sl (.t 40), (some (37, false))⟩,
         ⟨(some 42), .bin .gtr (.t 41) (.c (.int .i64 0)), (some (37, false))⟩,
         ⟨(some 43), .pick (.t 37) (.c (.bool true)) (.t 42), none⟩,
         ⟨(some 31), .mov (.t 43), none⟩]) <|
      .cond (.t 31)
       (.seq
        (.region [⟨(some 4), .mov (.c (.int .i64 9)), none⟩]) <|
        .ret)
       (.seq
        (.region [⟨(some 45), .mov (.t 0), none⟩,
           ⟨(some 46), .nilck (.t 45), none⟩,
           ⟨(some 47), .faddr 1 (.t 46), none⟩,
           ⟨(some 48), .load false 1 (.t 47), none⟩,
           ⟨(some 49), .len .sl (.t 48), none⟩,
           ⟨(some 50), .bin .geq (.t 49) (.c (.int .i64 256)), none⟩,
           ⟨(some 44), .mov (.t 50), none⟩]) <|
        .cond (.t 44)
         (.seq
          (.region [⟨(some 4), .mov (.c (.int .i64 3)), none⟩]) <|
          .ret)
         (.skip))))) <|
 .seq
 (.draw false [0, 3, 5] (
    .op ⟨(some 52), .mov (.t 0), none⟩ <|
    .op ⟨(some 53), .nilck (.t 52), none⟩ <|
    .op ⟨(some 54), .faddr 1 (.t 53), none⟩ <|
    .op ⟨(some 55), .load false 1 (.t 54), none⟩ <|
    .op ⟨(some 56), .load true 4 (.t 3), none⟩ <|
    .op ⟨(some 57), .call (.f 23) [(.t 55), (.t 56), (.f 24)], none⟩ <|
    .op ⟨(some 51), .mov (.t 57), none⟩ <|
    .op ⟨(some 58), .extract (.t 51) 0, none⟩ <|
    .op ⟨(some 59), .extract (.t 51) 1, none⟩ <|
    .op ⟨(some 5), .mov (.t 58), none⟩ <|
    .op ⟨(some 6), .mov (.t 59), none⟩ <|
    .done)) <|
 .seq
 (.draw false [] (
    .op ⟨(some 60), .mov (.t 0), none⟩ <|
    .op ⟨(some 61), .mov (.t 0), none⟩ <|
    .op ⟨(some 62), .nilck (.t 61), none⟩ <|
    .op ⟨(some 63), .faddr 1 (.t 62), none⟩ <|
    .op ⟨(some 64), .load false 1 (.t 63), none⟩ <|
    .op ⟨(some 65), .mov (.t 5), none⟩ <|
    .op ⟨(some 66), .load true 4 (.t 3), none⟩ <|
    .op ⟨(some 67), .buildSl 4 [(.int .i64 0), (.int .i64 0), (.int .i64 0), (.int .u64 0)] [(0, 4, (.t 66))], none⟩ <|
    .op ⟨(some 68), .call (.f 25) [(.t 64), (.t 65), (.t 67)], none⟩ <|
    .op ⟨(some 69), .nilck (.t 60), none⟩ <|
    .op ⟨(some 70), .faddr 1 (.t 69), none⟩ <|
    .op ⟨none, .store 1 (.t 70) (.t 68), none⟩ <|
    .done)) <|
 .seq
 (.region [⟨(some 4), .mov (.c (.int .i64 0)), none⟩]) <|
 .ret, [.slot 4]⟩
theorem c12 : Code1 Try.prog 12 71 b12 := Code1.mk' Try.func12 (by kernel_rfl) (by kernel_rfl) Try.ntmps12

/-- fusee/agenda.Agenda.Clashes -/
def b13 : IFn := ⟨
 .seq
 (.region [⟨(some 3), .box (.t 1), none⟩,
    ⟨(some 4), .mov (.c (.sl none 0 (some 0))), none⟩]) <|
 .seq
 (.region [⟨(some 5), .mov (.c (.sl none 0 (some 0))), none⟩]) <|
 .seq
 (.seq
  (.region [⟨(some 8), .mov (.t 0), none⟩,
     ⟨(some 9), .call (.f 15) [(.t 8)], none⟩,
     ⟨(some 10), .len .sl (.t 9), none⟩,
     ⟨(some 11), .mov (.c (.int .i64 0)), none⟩]) <|
  .block 0 <|
  .loop [3, 5, 9, 10, 11] <|
   .seq
   (.region [⟨(some 12), .bin .lss (.t 11) (.t 10), none⟩]) <|
   .seq
   (.cond (.t 12)
     (.skip)
     (.exit 0)) <|
   .seq
   (.block 1 <|
    .seq
    (.region [⟨(some 13), .iaddr 4 (.t 9) (.t 11), none⟩,
       ⟨(some 14), .load true 4 (.t 13), none⟩,
       ⟨(some 7), .alloc [(.int .i64 0), (.int .i64 0), (.int .i64 0), (.int .u64 0)], none⟩,
       ⟨none, .store 4 (.t 7) (.t 14), none⟩]) <|
    .seq
    (.region [⟨(some 15), .faddr 0 (.t 7), none⟩,
       ⟨(some 16), .load false 1 (.t 15), none⟩,
       ⟨(some 17), .faddr 0 (.t 3), none⟩,
       ⟨(some 18), .load false 1 (.t 17), none⟩,
       ⟨(some 19), .bin .neq (.t 16) (.t 18), none⟩,
       ⟨(some 20), .mov (.t 19), none⟩,
       ⟨(some 21), .load true 4 (.t 7), (some (20, true))⟩,
       ⟨(some 22), .load true 4 (.t 3), (some (20, true))⟩,
       ⟨(some 23), .call (.f 26) [(.t 21), (.t 22)], (some (20, true))⟩,
       ⟨(some 24), .pick (.t 20) (.t 23) (.c (.bool false)), none⟩]) <|
    .cond (.t 24)
     (.region [⟨(some 25), .mov (.t 5), none⟩,
        ⟨(some 26), .faddr 0 (.t 7), none⟩,
        ⟨(some 27), .load false 1 (.t 26), none⟩,
        ⟨(some 28), .buildSl 1 [(.int .i64 0)] [(0, 1, (.t 27))], none⟩,
        ⟨(some 29), .app 1 8 (.t 25) (.t 28), none⟩,
        ⟨(some 5), .mov (.t 29), none⟩])
     (.skip)) <|
   .region [⟨(some 30), .bin .add (.t 11) (.c (.int .i64 1)), none⟩,
     ⟨(some 11), .mov (.t 30), none⟩]) <|
 .seq
 (.region [⟨(some 31), .mov (.t 5), none⟩,
    ⟨(some 32), .call (.f 27) [(.t 31)], none⟩]) <|
 .seq
 (.region [⟨(some 33), .mov (.t 5), none⟩,
    ⟨(some 4), .mov (.t 33), none⟩]) <|
 .ret, [.slot 4]⟩
theorem c13 : Code1 Try.prog 13 34 b13 := Code1.mk' Try.func13 (by kernel_rfl) (by kernel_rfl) Try.ntmps13

/-- fusee/agenda.Agenda.Drop -/
def b14 : IFn := ⟨
 .seq
 (.region [⟨(some 4), .mov (.c (.bool false)), none⟩]) <|
 .seq
 (.region [⟨(some 6), .mov (.t 0), none⟩,
    ⟨(some 7), .mov (.t 1), none⟩,
    ⟨(some 8), .call (.f 22) [(.t 6), (.t 7)], none⟩,
    ⟨(some 5), .mov (.t 8), none⟩]) <|
 .seq
 (.seq
  (.region [⟨(some 9), .mov (.t 5), none⟩,
     ⟨(some 10), .bin .lss (.t 9) (.c (.int .i64 0)), none⟩]) <|
  .cond (.t 10)
   (.seq
    (.region [⟨(some 4), .mov (.c (.bool false)), none⟩]) <|
    .ret)
   (.skip)) <|
 .seq
 (.region [⟨(some 11), .mov (.t 0), none⟩,
    ⟨(some 12), .mov (.t 0), none⟩,
    ⟨(some 13), .nilck (.t 12), none⟩,
    ⟨(some 14), .faddr 1 (.t 13), none⟩,
    ⟨(some 15), .load false 1 (.t 14), none⟩,
    ⟨(some 16), .mov (.t 5), none⟩,
    ⟨(some 17), .mov (.t 5), none⟩,
    ⟨(some 18), .bin .add (.t 17) (.c (.int .i64 1)), none⟩,
    ⟨(some 19), .call (.f 28) [(.t 15), (.t 16), (.t 18)], none⟩,
    ⟨(some 20), .nilck (.t 11), none⟩,
    ⟨(some 21), .faddr 1 (.t 20), none⟩,
    ⟨none, .store 1 (.t 21) (.t 19), none⟩]) <|
 .seq
 (.region [⟨(some 4), .mov (.c (.bool true)), none⟩]) <|
 .ret, [.slot 4]⟩
theorem c14 : Code1 Try.prog 14 22 b14 := Code1.mk' Try.func14 (by kernel_rfl) (by kernel_rfl) Try.ntmps14

/-- fusee/agenda.Agenda.All -/
def b15 : IFn := ⟨
 .seq
 (.region [⟨(some 2), .mov (.c (.sl none 0 (some 0))), none⟩]) <|
 .seq
 (.seq
  (.region [⟨(some 3), .mov (.t 0), none⟩,
     ⟨(some 4), .eq false false [.ptr] (.t 3) (.c (.ptr none)), none⟩]) <|
  .cond (.t 4)
   (.seq
    (.region [⟨(some 2), .mov (.c (.sl none 0 (some 0))), none⟩]) <|
    .ret)
   (.skip)) <|
 .seq
 (.region [⟨(some 5), .mov (.t 0), none⟩,
    ⟨(some 6), .nilck (.t 5), none⟩,
    ⟨(some 7), .faddr 1 (.t 6), none⟩,
    ⟨(some 8), .load false 1 (.t 7), none⟩,
    ⟨(some 9), .call (.f 29) [(.t 8)], none⟩,
    ⟨(some 2), .mov (.t 9), none⟩]) <|
 .ret, [.slot 2]⟩
theorem c15 : Code1 Try.prog 15 10 b15 := Code1.mk' Try.func15 (by kernel_rfl) (by kernel_rfl) Try.ntmps15

/-- fusee/fuseelaw40.clash -/
def b16 : IFn := ⟨
 .seq
 (.region [⟨(some 2), .box (.t 0), none⟩,
    ⟨(some 3), .box (.t 1), none⟩,
    ⟨(some 4), .mov (.c (.bool false)), none⟩]) <|
 .seq
 (.region [⟨(some 5), .faddr 3 (.t 2), none⟩,
    ⟨(some 6), .load false 1 (.t 5), none⟩,
    ⟨(some 7), .faddr 3 (.t 3), none⟩,
    ⟨(some 8), .load false 1 (.t 7), none⟩,
    ⟨(some 9), .bin .and (.t 6) (.t 8), none⟩,
    ⟨(some 10), .bin .neq (.t 9) (.c (.int .u64 0)), none⟩,
    ⟨(some 11), .mov (.t 10), none⟩,
    ⟨(some 12), .faddr 1 (.t 2), (some (11, true))⟩,
    ⟨(some 13), .faddr 0 (.t 12), (some (11, true))⟩,
    ⟨(some 14), .load false 1 (.t 13), (some (11, true))⟩,
    ⟨(some 15), .faddr 1 (.t 3), (some (11, true))⟩,
    ⟨(some 16), .faddr 0 (.t 15), (some (11, true))⟩,
    ⟨(some 17), .load false 1 (.t 16), (some (11, true))⟩,
    ⟨(some 18), .max [(.t 14), (.t 17)], (some (11, true))⟩,
    ⟨(some 19), .faddr 1 (.t 2), (some (11, true))⟩,
    ⟨(some 20), .faddr 1 (.t 19), (some (11, true))⟩,
    ⟨(some 21), .load false 1 (.t 20), (some (11, true))⟩,
    ⟨(some 22), .faddr 1 (.t 3), (some (11, true))⟩,
    ⟨(some 23), .faddr 1 (.t 22), (some (11, true))⟩,
    ⟨(some 24), .load false 1 (.t 23), (some (11, true))⟩,
    ⟨(some 25), .min [(.t 21), (.t 24)], (some (11, true))⟩,
    ⟨(some 26), .bin .lss (.t 18) (.t 25), (some (11, true))⟩,
    ⟨(some 27), .pick (.t 11) (.t 26) (.c (.bool false)), none⟩,
    ⟨(some 4), .mov (.t 27), none⟩]) <|
 .ret, [.slot 4]⟩
theorem c16 : Code1 Try.prog 16 28 b16 := Code1.mk' Try.func16 (by kernel_rfl) (by kernel_rfl) Try.ntmps16

/-- fusee/fuseelaw40.right -/
def b17 : IFn := ⟨
 .seq
 (.region [⟨(some 1), .box (.t 0), none⟩,
    ⟨(some 2), .mov (.c (.bool false)), none⟩]) <|
 .seq
 (.region [⟨(some 3), .faddr 0 (.t 1), none⟩,
    ⟨(some 4), .load false 1 (.t 3), none⟩,
    ⟨(some 5), .bin .geq (.t 4) (.c (.int .i64 (-1152921504606846976))), none⟩,
    ⟨(some 6), .mov (.t 5), none⟩,
    ⟨(some 7), .faddr 1 (.t 1), (some (6, true))⟩,
    ⟨(some 8), .load false 1 (.t 7), (some (6, true))⟩,
    ⟨(some 9), .bin .leq (.t 8) (.c (.int .i64 1152921504606846976)), (some (6, true))⟩,
    ⟨(some 10), .pick (.t 6) (.t 9) (.c (.bool false)), none⟩,
    ⟨(some 11), .mov (.t 10), none⟩,
    ⟨(some 12), .faddr 0 (.t 1), (some (11, true))⟩,
    ⟨(some 13), .load false 1 (.t 12), (some (11, true))⟩,
    ⟨(some 14), .faddr 1 (.t 1), (some (11, true))⟩,
    ⟨(some 15), .load false 1 (.t 14), (some (11, true))⟩,
    ⟨(some 16), .bin .lss (.t 13) (.t 15), (some (11, true))⟩,
    ⟨(some 17), .pick (.t 11) (.t 16) (.c (.bool false)), none⟩,
    ⟨(some 2), .mov (.t 17), none⟩]) <|
 .ret, [.slot 2]⟩
theorem c17 : Code1 Try.prog 17 18 b17 := Code1.mk' Try.func17 (by kernel_rfl) (by kernel_rfl) Try.ntmps17

/-- fusee/span.Right -/
def b18 : IFn := ⟨
 .seq
 (.region [⟨(some 2), .mov (.c (.bool false)), none⟩]) <|
 .seq
 (.seq
  (.region [⟨(some 5), .mov (.t 0), none⟩,
     ⟨(some 6), .len .sl (.t 5), none⟩,
     ⟨(some 7), .mov (.c (.int .i64 0)), none⟩]) <|
  .block 0 <|
  .loop [0, 5, 6, 7] <|
   .seq
   (.region [⟨(some 8), .bin .lss (.t 7) (.t 6), none⟩]) <|
   .seq
   (.cond (.t 8)
     (.skip)
     (.exit 0)) <|
   .seq
   (.block 1 <|
    .seq
    (.region [⟨(some 9), .mov (.t 7), none⟩,
       ⟨(some 10), .iaddr 2 (.t 5) (.t 7), none⟩,
       ⟨(some 11), .load true 2 (.t 10), none⟩,
       ⟨(some 4), .alloc [(.int .i64 0), (.int .i64 0)], none⟩,
       ⟨(some 3), .mov (.t 9), none⟩,
       ⟨none, .store 2 (.t 4) (.t 11), none⟩]) <|
    .seq
    (.draw false [0, 5, 6, 7, 29] (
       .op ⟨(some 12), .load true 2 (.t 4), none⟩ <|
       .op ⟨(some 13), .call (.f 30) [(.t 12)], none⟩ <|
       .op ⟨(some 14), .un .not (.t 13), none⟩ <|
       .op ⟨(some 15), .mov (.t 14), none⟩ <|
       .op ⟨(some 16), .mov (.t 3), (some (15, false))⟩ <|
       .op ⟨(some 17), .bin .gtr (.t 16) (.c (.int .i64 0)), (some (15, false))⟩ <|
       .op ⟨(some 18), .mov (.t 17), (some (15, false))⟩ <|
       .op ⟨(some 19), .mov (.t 0), (some (18, true))⟩ <|
       .op ⟨(some 20), .mov (.t 3), (some (18, true))⟩ <|
       .op ⟨(some 21), .bin .sub (.t 20) (.c (.int .i64 1)), (some (18, true))⟩ <|
       .op ⟨(some 22), .iaddr 2 (.t 19) (.t 21), (some (18, true))⟩ <|
       .op ⟨(some 23), .faddr 1 (.t 22), (some (18, true))⟩ <|
       .op ⟨(some 24), .load false 1 (.t 23), (some (18, true))⟩ <|
       .op ⟨(some 25), .faddr 0 (.t 4), (some (18, true))⟩ <|
       .op ⟨(some 26), .load false 1 (.t 25), (some (18, true))⟩ <|
       .op ⟨(some 27), .bin .geq (.t 24) (.t 26), (some (18, true))⟩ <|
       .op ⟨(some 28), .pick (.t 18) (.t 27) (.c (.bool false)), (some (15, false))⟩ <|
       .op ⟨(some 29), .pick (.t 15) (.c (.bool true)) (.t 28), none⟩ <|
       .done)) <|
    .cond (.t 29)
     (.seq
      (.region [⟨(some 2), .mov (.c (.bool false)), none⟩]) <|
      .ret)
     (.skip)) <|
   .region [⟨(some 30), .bin .add (.t 7) (.c (.int .i64 1)), none⟩,
     ⟨(some 7), .mov (.t 30), none⟩]) <|
 .seq
 (.region [⟨(some 2), .mov (.c (.bool true)), none⟩]) <|
 .ret, [.slot 2]⟩
theorem c18 : Code1 Try.prog 18 31 b18 := Code1.mk' Try.func18 (by kernel_rfl) (by kernel_rfl) Try.ntmps18

/-- fusee/span.Set.Free -/
def b19 : IFn := ⟨
 .seq
 (.region [⟨(some 6), .mov (.c (.int .i64 0)), none⟩]) <|
 .seq
 (.seq
  (.region [⟨(some 9), .mov (.t 0), none⟩,
     ⟨(some 10), .call (.f 31) [(.t 9)], none⟩,
     ⟨(some 11), .len .sl (.t 10), none⟩,
     ⟨(some 12), .mov (.c (.int .i64 0)), none⟩]) <|
  .block 0 <|
  .loop [1, 2, 10, 11, 12] <|
   .seq
   (.region [⟨(some 13), .bin .lss (.t 12) (.t 11), none⟩]) <|
   .seq
   (.cond (.t 13)
     (.skip)
     (.exit 0)) <|
   .seq
   (.block 1 <|
    .seq
    (.region [⟨(some 14), .iaddr 2 (.t 10) (.t 12), none⟩,
       ⟨(some 15), .load true 2 (.t 14), none⟩,
       ⟨(some 8), .alloc [(.int .i64 0), (.int .i64 0)], none⟩,
       ⟨none, .store 2 (.t 8) (.t 15), none⟩]) <|
    .seq
    (.seq
     (.region [⟨(some 16), .mov (.t 1), none⟩,
        ⟨(some 17), .faddr 0 (.t 8), none⟩,
        ⟨(some 18), .load false 1 (.t 17), none⟩,
        ⟨(some 19), .bin .lss (.t 16) (.t 18), none⟩,
        ⟨(some 20), .mov (.t 19), none⟩,
        ⟨(some 21), .faddr 0 (.t 8), (some (20, true))⟩,
        ⟨(some 22), .load false 1 (.t 21), (some (20, true))⟩,
        ⟨(some 23), .conv .u64 (.t 22), (some (20, true))⟩,
        ⟨(some 24), .mov (.t 1), (some (20, true))⟩,
        ⟨(some 25), .conv .u64 (.t 24), (some (20, true))⟩,
        ⟨(some 26), .bin .sub (.t 23) (.t 25), (some (20, true))⟩,
        ⟨(some 27), .mov (.t 2), (some (20, true))⟩,
        ⟨(some 28), .max [(.t 27), (.c (.int .i64 1))], (some (20, true))⟩,
        ⟨(some 29), .conv .u64 (.t 28), (some (20, true))⟩,
        ⟨(some 30), .bin .geq (.t 26) (.t 29), (some (20, true))⟩,
        ⟨(some 31), .pick (.t 20) (.t 30) (.c (.bool false)), none⟩]) <|
     .cond (.t 31)
      (.seq
       (.region [⟨(some 32), .mov (.t 1), none⟩,
          ⟨(some 6), .mov (.t 32), none⟩]) <|
       .ret)
      (.skip)) <|
    .region [⟨(some 33), .mov (.t 1), none⟩,
      ⟨(some 34), .faddr 1 (.t 8), none⟩,
      ⟨(some 35), .load false 1 (.t 34), none⟩,
      ⟨(some 36), .max [(.t 33), (.t 35)], none⟩,
      ⟨(some 1), .mov (.t 36), none⟩]) <|
   .region [⟨(some 37), .bin .add (.t 12) (.c (.int .i64 1)), none⟩,
     ⟨(some 12), .mov (.t 37), none⟩]) <|
 .seq
 (.region [⟨(some 38), .mov (.t 1), none⟩,
    ⟨(some 6), .mov (.t 38), none⟩]) <|
 .ret, [.slot 6]⟩
theorem c19 : Code1 Try.prog 19 39 b19 := Code1.mk' Try.func19 (by kernel_rfl) (by kernel_rfl) Try.ntmps19

/-- fusee/span.Of -/
def b20 : IFn := ⟨
 .seq
 (.region [⟨(some 2), .mov (.c (.sl none 0 (some 0))), none⟩]) <|
 .seq
 (.region [⟨(some 8), .mov (.t 0), none⟩,
    ⟨(some 9), .call (.f 33) [(.t 8)], none⟩,
    ⟨(some 10), .call (.f 32) [(.t 9), (.f 34)], none⟩,
    ⟨(some 3), .mov (.t 10), none⟩]) <|
 .seq
 (.region [⟨(some 11), .mov (.t 3), none⟩,
    ⟨(some 12), .call (.f 35) [(.t 11), (.f 36)], none⟩]) <|
 .seq
 (.region [⟨(some 4), .mov (.c (.sl none 0 (some 0))), none⟩]) <|
 .seq
 (.seq
  (.region [⟨(some 13), .mov (.t 3), none⟩,
     ⟨(some 14), .len .sl (.t 13), none⟩,
     ⟨(some 15), .mov (.c (.int .i64 0)), none⟩]) <|
  .block 0 <|
  .loop [4, 13, 14, 15] <|
   .seq
   (.region [⟨(some 16), .bin .lss (.t 15) (.t 14), none⟩]) <|
   .seq
   (.cond (.t 16)
     (.skip)
     (.exit 0)) <|
   .seq
   (.block 1 <|
    .seq
    (.region [⟨(some 17), .iaddr 2 (.t 13) (.t 15), none⟩,
       ⟨(some 18), .load true 2 (.t 17), none⟩,
       ⟨(some 6), .alloc [(.int .i64 0), (.int .i64 0)], none⟩,
       ⟨none, .store 2 (.t 6) (.t 18), none⟩]) <|
    .seq
    (.region [⟨(some 19), .mov (.t 4), none⟩,
       ⟨(some 20), .len .sl (.t 19), none⟩,
       ⟨(some 7), .mov (.t 20), none⟩]) <|
    .seq
    (.draw false [4, 6, 7, 13, 14, 15, 33] (
       .op ⟨(some 21), .mov (.t 7), none⟩ <|
       .op ⟨(some 22), .bin .gtr (.t 21) (.c (.int .i64 0)), none⟩ <|
       .op ⟨(some 23), .mov (.t 22), none⟩ <|
       .op ⟨(some 24), .mov (.t 4), (some (23, true))⟩ <|
       .op ⟨(some 25), .mov (.t 7), (some (23, true))⟩ <|
       .op ⟨(some 26), .bin .sub (.t 25) (.c (.int .i64 1)), (some (23, true))⟩ <|
       .op ⟨(some 27), .iaddr 2 (.t 24) (.t 26), (some (23, true))⟩ <|
       .op ⟨(some 28), .faddr 1 (.t 27), (some (23, true))⟩ <|
       .op ⟨(some 29), .load false 1 (.t 28), (some (23, true))⟩ <|
       .op ⟨(some 30), .faddr 0 (.t 6), (some (23, true))⟩ <|
       .op ⟨(some 31), .load false 1 (.t 30), (some (23, true))⟩ <|
       .op ⟨(some 32), .bin .geq (.t 29) (.t 31), (some (23, true))⟩ <|
       .op ⟨(some 33), .pick (.t 23) (.t 32) (.c (.bool false)), none⟩ <|
       .done)) <|
    .cond (.t 33)
     (.draw false [4, 13, 14, 15] (
        .op ⟨(some 34), .mov (.t 4), none⟩ <|
        .op ⟨(some 35), .mov (.t 7), none⟩ <|
        .op ⟨(some 36), .bin .sub (.t 35) (.c (.int .i64 1)), none⟩ <|
        .op ⟨(some 37), .mov (.t 4), none⟩ <|
        .op ⟨(some 38), .mov (.t 7), none⟩ <|
        .op ⟨(some 39), .bin .sub (.t 38) (.c (.int .i64 1)), none⟩ <|
        .op ⟨(some 40), .iaddr 2 (.t 37) (.t 39), none⟩ <|
        .op ⟨(some 41), .faddr 1 (.t 40), none⟩ <|
        .op ⟨(some 42), .load false 1 (.t 41), none⟩ <|
        .op ⟨(some 43), .faddr 1 (.t 6), none⟩ <|
        .op ⟨(some 44), .load false 1 (.t 43), none⟩ <|
        .op ⟨(some 45), .max [(.t 42), (.t 44)], none⟩ <|
        .op ⟨(some 46), .iaddr 2 (.t 34) (.t 36), none⟩ <|
        .op ⟨(some 47), .faddr 1 (.t 46), none⟩ <|
        .op ⟨none, .store 1 (.t 47) (.t 45), none⟩ <|
        .done))
     (.region [⟨(some 48), .mov (.t 4), none⟩,
        ⟨(some 49), .load true 2 (.t 6), none⟩,
        ⟨(some 50), .buildSl 2 [(.int .i64 0), (.int .i64 0)] [(0, 2, (.t 49))], none⟩,
        ⟨(some 51), .app 2 16 (.t 48) (.t 50), none⟩,
        ⟨(some 4), .mov (.t 51), none⟩])) <|
   .region [⟨(some 52), .bin .add (.t 15) (.c (.int .i64 1)), none⟩,
     ⟨(some 15), .mov (.t 52), none⟩]) <|
 .seq
 (.region [⟨(some 53), .mov (.t 4), none⟩,
    ⟨(some 2), .mov (.t 53), none⟩]) <|
 .ret, [.slot 2]⟩
theorem c20 : Code1 Try.prog 20 54 b20 := Code1.mk' Try.func20 (by kernel_rfl) (by kernel_rfl) Try.ntmps20

/-- fusee/span.Set.Next -/
def b21 : IFn := ⟨
 .seq
 (.region [⟨(some 4), .mov (.c (.int .i64 0)), none⟩,
    ⟨(some 5), .mov (.c (.bool false)), none⟩]) <|
 .seq
 (.seq
  (.region [⟨(some 8), .mov (.t 0), none⟩,
     ⟨(some 9), .call (.f 31) [(.t 8)], none⟩,
     ⟨(some 10), .len .sl (.t 9), none⟩,
     ⟨(some 11), .mov (.c (.int .i64 0)), none⟩]) <|
  .block 0 <|
  .loop [1, 9, 10, 11] <|
   .seq
   (.region [⟨(some 12), .bin .lss (.t 11) (.t 10), none⟩]) <|
   .seq
   (.cond (.t 12)
     (.skip)
     (.exit 0)) <|
   .seq
   (.block 1 <|
    .seq
    (.region [⟨(some 13), .iaddr 2 (.t 9) (.t 11), none⟩,
       ⟨(some 14), .load true 2 (.t 13), none⟩,
       ⟨(some 7), .alloc [(.int .i64 0), (.int .i64 0)], none⟩,
       ⟨none, .store 2 (.t 7) (.t 14), none⟩]) <|
    .seq
    (.region [⟨(some 15), .mov (.t 1), none⟩,
       ⟨(some 16), .faddr 1 (.t 7), none⟩,
       ⟨(some 17), .load false 1 (.t 16), none⟩,
       ⟨(some 18), .bin .lss (.t 15) (.t 17), none⟩]) <|
    .cond (.t 18)
     (.seq
      (.region [⟨(some 19), .mov (.t 1), none⟩,
         ⟨(some 20), .faddr 0 (.t 7), none⟩,
         ⟨(some 21), .load false 1 (.t 20), none⟩,
         ⟨(some 22), .max [(.t 19), (.t 21)], none⟩,
         ⟨(some 4), .mov (.t 22), none⟩,
         ⟨(some 5), .mov (.c (.bool true)), none⟩]) <|
      .ret)
     (.skip)) <|
   .region [⟨(some 23), .bin .add (.t 11) (.c (.int .i64 1)), none⟩,
     ⟨(some 11), .mov (.t 23), none⟩]) <|
 .seq
 (.region [⟨(some 4), .mov (.c (.int .i64 0)), none⟩,
    ⟨(some 5), .mov (.c (.bool false)), none⟩]) <|
 .ret, [.slot 4, .slot 5]⟩
theorem c21 : Code1 Try.prog 21 24 b21 := Code1.mk' Try.func21 (by kernel_rfl) (by kernel_rfl) Try.ntmps21

/-- fusee/agenda.Agenda.place -/
def b22 : IFn := ⟨
 .seq
 (.region [⟨(some 3), .box (.t 1), none⟩,
    ⟨(some 4), .mov (.c (.int .i64 0)), none⟩]) <|
 .seq
 (.region [⟨(some 5), .mov (.t 0), none⟩,
    ⟨(some 6), .call (.f 15) [(.t 5)], none⟩,
    ⟨(some 7), .mkFn 39 [] [(.t 3)], none⟩,
    ⟨(some 8), .call (.f 38) [(.t 6), (.t 7)], none⟩,
    ⟨(some 4), .mov (.t 8), none⟩]) <|
 .ret, [.slot 4]⟩
theorem c22 : Code1 Try.prog 22 9 b22 := Code1.mk' Try.func22 (by kernel_rfl) (by kernel_rfl) Try.ntmps22

/-- slices.BinarySearchFunc[[]fusee/agenda.Meeting,fusee/agenda.Meeting,fusee/agenda.Meeting] -/
def b23 : IFn := ⟨
 .seq
 (.region [⟨(some 4), .box (.t 1), none⟩,
    ⟨(some 6), .mov (.c (.int .i64 0)), none⟩,
    ⟨(some 7), .mov (.c (.bool false)), none⟩]) <|
 .seq
 (.region [⟨(some 12), .mov (.t 0), none⟩,
    ⟨(some 13), .len .sl (.t 12), none⟩,
    ⟨(some 8), .mov (.t 13), none⟩]) <|
 .seq
 (.region [⟨(some 14), .mov (.t 8), none⟩,
    ⟨(some 9), .mov (.c (.int .i64 0)), none⟩,
    ⟨(some 10), .mov (.t 14), none⟩]) <|
 .seq
 (.block 0 <|
  .loop [0, 2, 4, 8, 9, 10] <|
   .seq
   (.seq
    (.region [⟨(some 15), .mov (.t 9), none⟩,
       ⟨(some 16), .mov (.t 10), none⟩,
       ⟨(some 17), .bin .lss (.t 15) (.t 16), none⟩]) <|
    .cond (.t 17)
     (.skip)
     (.exit 0)) <|
   .block 1 <|
   .seq
   (.region [⟨(some 18), .mov (.t 9), none⟩,
      ⟨(some 19), .mov (.t 10), none⟩,
      ⟨(some 20), .bin .add (.t 18) (.t 19), none⟩,
      ⟨(some 21), .conv .u64 (.t 20), none⟩,
      ⟨(some 22), .bin .shr (.t 21) (.c (.int .u64 1)), none⟩,
      ⟨(some 23), .conv .i64 (.t 22), none⟩,
      ⟨(some 11), .mov (.t 23), none⟩]) <|
   .seq
   (.draw false [0, 2, 4, 8, 9, 10, 11, 31] (
      .op ⟨(some 24), .mov (.t 2), none⟩ <|
      .op ⟨(some 25), .mov (.t 0), none⟩ <|
      .op ⟨(some 26), .mov (.t 11), none⟩ <|
      .op ⟨(some 27), .iaddr 4 (.t 25) (.t 26), none⟩ <|
      .op ⟨(some 28), .load true 4 (.t 27), none⟩ <|
      .op ⟨(some 29), .load true 4 (.t 4), none⟩ <|
      .op ⟨(some 30), .call (.t 24) [(.t 28), (.t 29)], none⟩ <|
      .op ⟨(some 31), .bin .lss (.t 30) (.c (.int .i64 0)), none⟩ <|
      .done)) <|
   .cond (.t 31)
    (.region [⟨(some 32), .mov (.t 11), none⟩,
       ⟨(some 33), .bin .add (.t 32) (.c (.int .i64 1)), none⟩,
       ⟨(some 9), .mov (.t 33), none⟩])
    (.region [⟨(some 34), .mov (.t 11), none⟩,
       ⟨(some 10), .mov (.t 34), none⟩])) <|
 .seq
 (.draw false [6, 7] (
    .op ⟨(some 35), .mov (.t 9), none⟩ <|
    .op ⟨(some 36), .mov (.t 9), none⟩ <|
    .op ⟨(some 37), .mov (.t 8), none⟩ <|
    .op ⟨(some 38), .bin .lss (.t 36) (.t 37), none⟩ <|
    .op ⟨(some 39), .mov (.t 38), none⟩ <|
    .op ⟨(some 40), .mov (.t 2), (some (39, true))⟩ <|
    .op ⟨(some 41), .mov (.t 0), (some (39, true))⟩ <|
    .op ⟨(some 42), .mov (.t 9), (some (39, true))⟩ <|
    .op ⟨(some 43), .iaddr 4 (.t 41) (.t 42), (some (39, true))⟩ <|
    .op ⟨(some 44), .load true 4 (.t 43), (some (39, true))⟩ <|
    .op ⟨(some 45), .load true 4 (.t 4), (some (39, true))⟩ <|
    .op ⟨(some 46), .call (.t 40) [(.t 44), (.t 45)], (some (39, true))⟩ <|
    .op ⟨(some 47), .bin .eql (.t 46) (.c (.int .i64 0)), (some (39, true))⟩ <|
    .op ⟨(some 48), .pick (.t 39) (.t 47) (.c (.bool false)), none⟩ <|
    .op ⟨(some 6), .mov (.t 35), none⟩ <|
    .op ⟨(some 7), .mov (.t 48), none⟩ <|
    .done)) <|
 .ret, [.slot 6, .slot 7]⟩
theorem c23 : Code1 Try.prog 23 49 b23 := Code1.mk' Try.func23 (by kernel_rfl) (by kernel_rfl) Try.ntmps23

/-- fusee/agenda.order -/
def b24 : IFn := ⟨
 .seq
 (.region [⟨(some 2), .box (.t 0), none⟩,
    ⟨(some 3), .box (.t 1), none⟩,
    ⟨(some 4), .mov (.c (.int .i64 0)), none⟩]) <|
 .seq
 (.draw true [4] (
    .op ⟨(some 5), .faddr 1 (.t 2), none⟩ <|
    .op ⟨(some 6), .faddr 0 (.t 5), none⟩ <|
    .op ⟨(some 7), .load false 1 (.t 6), none⟩ <|
    .op ⟨(some 8), .faddr 1 (.t 3), none⟩ <|
    .op ⟨(some 9), .faddr 0 (.t 8), none⟩ <|
    .op ⟨(some 10), .load false 1 (.t 9), none⟩ <|
    .op ⟨(some 12), .faddr 0 (.t 2), none⟩ <|
    .op ⟨(some 14), .faddr 0 (.t 3), none⟩ <|
    .alt (.alt (.op ⟨(some 11), .call (.f 37) [(.t 7), (.t 10)], none⟩ <|
      .op ⟨(some 13), .load false 1 (.t 12), none⟩ <|
      .op ⟨(some 15), .load false 1 (.t 14), none⟩ <|
      .op ⟨(some 16), .call (.f 37) [(.t 13), (.t 15)], none⟩ <|
      .op ⟨(some 17), .buildSl 1 [(.int .i64 0), (.int .i64 0)] [(0, 1, (.t 11)), (1, 1, (.t 16))], none⟩ <|
      .op ⟨(some 18), .call (.f 40) [(.t 17)], none⟩ <|
      .op ⟨(some 4), .mov (.t 18), none⟩ <|
      .done) <|
     .op ⟨(some 13), .load false 1 (.t 12), none⟩ <|
     .alt (.op ⟨(some 11), .call (.f 37) [(.t 7), (.t 10)], none⟩ <|
      .op ⟨(some 15), .load false 1 (.t 14), none⟩ <|
      .op ⟨(some 16), .call (.f 37) [(.t 13), (.t 15)], none⟩ <|
      .op ⟨(some 17), .buildSl 1 [(.int .i64 0), (.int .i64 0)] [(0, 1, (.t 11)), (1, 1, (.t 16))], none⟩ <|
      .op ⟨(some 18), .call (.f 40) [(.t 17)], none⟩ <|
      .op ⟨(some 4), .mov (.t 18), none⟩ <|
      .done) <|
     .op ⟨(some 15), .load false 1 (.t 14), none⟩ <|
     .op ⟨(some 11), .call (.f 37) [(.t 7), (.t 10)], none⟩ <|
     .op ⟨(some 16), .call (.f 37) [(.t 13), (.t 15)], none⟩ <|
     .op ⟨(some 17), .buildSl 1 [(.int .i64 0), (.int .i64 0)] [(0, 1, (.t 11)), (1, 1, (.t 16))], none⟩ <|
     .op ⟨(some 18), .call (.f 40) [(.t 17)], none⟩ <|
     .op ⟨(some 4), .mov (.t 18), none⟩ <|
     .done) <|
    .op ⟨(some 15), .load false 1 (.t 14), none⟩ <|
    .alt (.op ⟨(some 11), .call (.f 37) [(.t 7), (.t 10)], none⟩ <|
     .op ⟨(some 13), .load false 1 (.t 12), none⟩ <|
     .op ⟨(some 16), .call (.f 37) [(.t 13), (.t 15)], none⟩ <|
     .op ⟨(some 17), .buildSl 1 [(.int .i64 0), (.int .i64 0)] [(0, 1, (.t 11)), (1, 1, (.t 16))], none⟩ <|
     .op ⟨(some 18), .call (.f 40) [(.t 17)], none⟩ <|
     .op ⟨(some 4), .mov (.t 18), none⟩ <|
     .done) <|
    .op ⟨(some 13), .load false 1 (.t 12), none⟩ <|
    .op ⟨(some 11), .call (.f 37) [(.t 7), (.t 10)], none⟩ <|
    .op ⟨(some 16), .call (.f 37) [(.t 13), (.t 15)], none⟩ <|
    .op ⟨(some 17), .buildSl 1 [(.int .i64 0), (.int .i64 0)] [(0, 1, (.t 11)), (1, 1, (.t 16))], none⟩ <|
    .op ⟨(some 18), .call (.f 40) [(.t 17)], none⟩ <|
    .op ⟨(some 4), .mov (.t 18), none⟩ <|
    .done)) <|
 .ret, [.slot 4]⟩
theorem c24 : Code1 Try.prog 24 19 b24 := Code1.mk' Try.func24 (by kernel_rfl) (by kernel_rfl) Try.ntmps24

/-- slices.Insert[[]fusee/agenda.Meeting,fusee/agenda.Meeting] -/
def b25 : IFn := ⟨
 .seq
 (.region [⟨(some 6), .mov (.c (.sl none 0 (some 0))), none⟩]) <|
 .seq
 (.region [⟨(some 10), .mov (.t 0), none⟩,
    ⟨(some 11), .mov (.t 1), none⟩,
    ⟨(some 12), .slice 4 (.t 10) (some (.t 11)) none none, none⟩]) <|
 .seq
 (.region [⟨(some 13), .mov (.t 2), none⟩,
    ⟨(some 14), .len .sl (.t 13), none⟩,
    ⟨(some 7), .mov (.t 14), none⟩]) <|
 .seq
 (.seq
  (.region [⟨(some 15), .mov (.t 7), none⟩,
     ⟨(some 16), .bin .eql (.t 15) (.c (.int .i64 0)), none⟩]) <|
  .cond (.t 16)
   (.seq
    (.region [⟨(some 17), .mov (.t 0), none⟩,
       ⟨(some 6), .mov (.t 17), none⟩]) <|
    .ret)
   (.skip)) <|
 .seq
 (.region [⟨(some 18), .mov (.t 0), none⟩,
    ⟨(some 19), .len .sl (.t 18), none⟩,
    ⟨(some 8), .mov (.t 19), none⟩]) <|
 .seq
 (.seq
  (.region [⟨(some 20), .mov (.t 1), none⟩,
     ⟨(some 21), .mov (.t 8), none⟩,
     ⟨(some 22), .bin .eql (.t 20) (.t 21), none⟩]) <|
  .cond (.t 22)
   (.seq
    (.region [⟨(some 23), .mov (.t 0), none⟩,
       ⟨(some 24), .mov (.t 2), none⟩,
       ⟨(some 25), .app 4 32 (.t 23) (.t 24), none⟩,
       ⟨(some 6), .mov (.t 25), none⟩]) <|
    .ret)
   (.skip)) <|
 .seq
 (.seq
  (.region [⟨(some 26), .mov (.t 8), none⟩,
     ⟨(some 27), .mov (.t 7), none⟩,
     ⟨(some 28), .bin .add (.t 26) (.t 27), none⟩,
     ⟨(some 29), .mov (.t 0), none⟩,
     ⟨(some 30), .cap (.t 29), none⟩,
     ⟨(some 31), .bin .gtr (.t 28) (.t 30), none⟩]) <|
  .cond (.t 31)
   (.seq
    (.region [⟨(some 32), .mov (.t 0), none⟩,
       ⟨(some 33), .mov (.t 1), none⟩,
       ⟨(some 34), .slice 4 (.t 32) none (some (.t 33)) none, none⟩,
       ⟨(some 35), .mov (.t 8), none⟩,
       ⟨(some 36), .mov (.t 7), none⟩,
       ⟨(some 37), .bin .add (.t 35) (.t 36), none⟩,
       ⟨(some 38), .mov (.t 1), none⟩,
       ⟨(some 39), .bin .sub (.t 37) (.t 38), none⟩,
       ⟨(some 40), .appZ [(.int .i64 0), (.int .i64 0), (.int .i64 0), (.int .u64 0)] 32 (.t 34) (.t 39), none⟩,
       ⟨(some 9), .mov (.t 40), none⟩]) <|
    .seq
    (.region [⟨(some 41), .mov (.t 9), none⟩,
       ⟨(some 42), .mov (.t 1), none⟩,
       ⟨(some 43), .slice 4 (.t 41) (some (.t 42)) none none, none⟩,
       ⟨(some 44), .mov (.t 2), none⟩,
       ⟨(some 45), .copy 4 (.t 43) (.t 44), none⟩]) <|
    .seq
    (.draw false [9] (
       .op ⟨(some 46), .mov (.t 9), none⟩ <|
       .op ⟨(some 47), .mov (.t 1), none⟩ <|
       .op ⟨(some 48), .mov (.t 7), none⟩ <|
       .op ⟨(some 49), .bin .add (.t 47) (.t 48), none⟩ <|
       .op ⟨(some 50), .slice 4 (.t 46) (some (.t 49)) none none, none⟩ <|
       .op ⟨(some 51), .mov (.t 0), none⟩ <|
       .op ⟨(some 52), .mov (.t 1), none⟩ <|
       .op ⟨(some 53), .slice 4 (.t 51) (some (.t 52)) none none, none⟩ <|
       .op ⟨(some 54), .copy 4 (.t 50) (.t 53), none⟩ <|
       .done)) <|
    .seq
    (.region [⟨(some 55), .mov (.t 9), none⟩,
       ⟨(some 6), .mov (.t 55), none⟩]) <|
    .ret)
   (.skip)) <|
 .seq
 (.region [⟨(some 56), .mov (.t 0), none⟩,
    ⟨(some 57), .mov (.t 8), none⟩,
    ⟨(some 58), .mov (.t 7), none⟩,
    ⟨(some 59), .bin .add (.t 57) (.t 58), none⟩,
    ⟨(some 60), .slice 4 (.t 56) none (some (.t 59)) none, none⟩,
    ⟨(some 0), .mov (.t 60), none⟩]) <|
 .seq
 (.seq
  (.region [⟨(some 61), .mov (.t 2), none⟩,
     ⟨(some 62), .mov (.t 0), none⟩,
     ⟨(some 63), .mov (.t 1), none⟩,
     ⟨(some 64), .mov (.t 7), none⟩,
     ⟨(some 65), .bin .add (.t 63) (.t 64), none⟩,
     ⟨(some 66), .slice 4 (.t 62) (some (.t 65)) none none, none⟩,
     ⟨(some 67), .call (.f 41) [(.t 61), (.t 66)], none⟩,
     ⟨(some 68), .un .not (.t 67), none⟩]) <|
  .cond (.t 68)
   (.seq
    (.draw false [0, 1, 2] (
       .op ⟨(some 69), .mov (.t 0), none⟩ <|
       .op ⟨(some 70), .mov (.t 1), none⟩ <|
       .op ⟨(some 71), .mov (.t 7), none⟩ <|
       .op ⟨(some 72), .bin .add (.t 70) (.t 71), none⟩ <|
       .op ⟨(some 73), .slice 4 (.t 69) (some (.t 72)) none none, none⟩ <|
       .op ⟨(some 74), .mov (.t 0), none⟩ <|
       .op ⟨(some 75), .mov (.t 1), none⟩ <|
       .op ⟨(some 76), .slice 4 (.t 74) (some (.t 75)) none none, none⟩ <|
       .op ⟨(some 77), .copy 4 (.t 73) (.t 76), none⟩ <|
       .done)) <|
    .seq
    (.region [⟨(some 78), .mov (.t 0), none⟩,
       ⟨(some 79), .mov (.t 1), none⟩,
       ⟨(some 80), .slice 4 (.t 78) (some (.t 79)) none none, none⟩,
       ⟨(some 81), .mov (.t 2), none⟩,
       ⟨(some 82), .copy 4 (.t 80) (.t 81), none⟩]) <|
    .seq
    (.region [⟨(some 83), .mov (.t 0), none⟩,
       ⟨(some 6), .mov (.t 83), none⟩]) <|
    .ret)
   (.skip)) <|
 .seq
 (.region [⟨(some 84), .mov (.t 0), none⟩,
    ⟨(some 85), .mov (.t 8), none⟩,
    ⟨(some 86), .slice 4 (.t 84) (some (.t 85)) none none, none⟩,
    ⟨(some 87), .mov (.t 2), none⟩,
    ⟨(some 88), .copy 4 (.t 86) (.t 87), none⟩]) <|
 .seq
 (.region [⟨(some 89), .mov (.t 0), none⟩,
    ⟨(some 90), .mov (.t 1), none⟩,
    ⟨(some 91), .slice 4 (.t 89) (some (.t 90)) none none, none⟩,
    ⟨(some 92), .mov (.t 7), none⟩,
    ⟨(some 93), .call (.f 42) [(.t 91), (.t 92)], none⟩]) <|
 .seq
 (.region [⟨(some 94), .mov (.t 0), none⟩,
    ⟨(some 6), .mov (.t 94), none⟩]) <|
 .ret, [.slot 6]⟩
theorem c25 : Code1 Try.prog 25 95 b25 := Code1.mk' Try.func25 (by kernel_rfl) (by kernel_rfl) Try.ntmps25

/-- fusee/agenda.clash -/
def b26 : IFn := ⟨
 .seq
 (.region [⟨(some 2), .box (.t 0), none⟩,
    ⟨(some 3), .box (.t 1), none⟩,
    ⟨(some 4), .mov (.c (.bool false)), none⟩]) <|
 .seq
 (.region [⟨(some 5), .faddr 3 (.t 2), none⟩,
    ⟨(some 6), .load false 1 (.t 5), none⟩,
    ⟨(some 7), .faddr 3 (.t 3), none⟩,
    ⟨(some 8), .load false 1 (.t 7), none⟩,
    ⟨(some 9), .bin .and (.t 6) (.t 8), none⟩,
    ⟨(some 10), .bin .neq (.t 9) (.c (.int .u64 0)), none⟩,
    ⟨(some 11), .mov (.t 10), none⟩,
    ⟨(some 12), .faddr 1 (.t 2), (some (11, true))⟩,
    ⟨(some 13), .faddr 0 (.t 12), (some (11, true))⟩,
    ⟨(some 14), .load false 1 (.t 13), (some (11, true))⟩,
    ⟨(some 15), .faddr 1 (.t 3), (some (11, true))⟩,
    ⟨(some 16), .faddr 1 (.t 15), (some (11, true))⟩,
    ⟨(some 17), .load false 1 (.t 16), (some (11, true))⟩,
    ⟨(some 18), .bin .lss (.t 14) (.t 17), (some (11, true))⟩,
    ⟨(some 19), .pick (.t 11) (.t 18) (.c (.bool false)), none⟩,
    ⟨(some 20), .mov (.t 19), none⟩,
    ⟨(some 21), .faddr 1 (.t 3), (some (20, true))⟩,
    ⟨(some 22), .faddr 0 (.t 21), (some (20, true))⟩,
    ⟨(some 23), .load false 1 (.t 22), (some (20, true))⟩,
    ⟨(some 24), .faddr 1 (.t 2), (some (20, true))⟩,
    ⟨(some 25), .faddr 1 (.t 24), (some (20, true))⟩,
    ⟨(some 26), .load false 1 (.t 25), (some (20, true))⟩,
    ⟨(some 27), .bin .lss (.t 23) (.t 26), (some (20, true))⟩,
    ⟨(some 28), .pick (.t 20) (.t 27) (.c (.bool false)), none⟩,
    ⟨(some 4), .mov (.t 28), none⟩]) <|
 .ret, [.slot 4]⟩
theorem c26 : Code1 Try.prog 26 29 b26 := Code1.mk' Try.func26 (by kernel_rfl) (by kernel_rfl) Try.ntmps26

/-- slices.Sort[[]int,int] -/
def b27 : IFn := ⟨
 .seq
 (.region [⟨(some 3), .mov (.t 0), none⟩,
    ⟨(some 4), .len .sl (.t 3), none⟩,
    ⟨(some 2), .mov (.t 4), none⟩]) <|
 .region [⟨(some 5), .mov (.t 0), none⟩,
   ⟨(some 6), .mov (.t 2), none⟩,
   ⟨(some 7), .mov (.t 2), none⟩,
   ⟨(some 8), .conv .u64 (.t 7), none⟩,
   ⟨(some 9), .call (.f 44) [(.t 8)], none⟩,
   ⟨(some 10), .call (.f 43) [(.t 5), (.c (.int .i64 0)), (.t 6), (.t 9)], none⟩], []⟩
theorem c27 : Code1 Try.prog 27 11 b27 := Code1.mk' Try.func27 (by kernel_rfl) (by kernel_rfl) Try.ntmps27

/-- slices.Delete[[]fusee/agenda.Meeting,fusee/agenda.Meeting] -/
def b28 : IFn := ⟨
 .seq
 (.region [⟨(some 6), .mov (.c (.sl none 0 (some 0))), none⟩]) <|
 .seq
 (.region [⟨(some 8), .mov (.t 0), none⟩,
    ⟨(some 9), .mov (.t 1), none⟩,
    ⟨(some 10), .mov (.t 2), none⟩,
    ⟨(some 11), .mov (.t 0), none⟩,
    ⟨(some 12), .len .sl (.t 11), none⟩,
    ⟨(some 13), .slice 4 (.t 8) (some (.t 9)) (some (.t 10)) (some (.t 12)), none⟩]) <|
 .seq
 (.seq
  (.region [⟨(some 14), .mov (.t 1), none⟩,
     ⟨(some 15), .mov (.t 2), none⟩,
     ⟨(some 16), .bin .eql (.t 14) (.t 15), none⟩]) <|
  .cond (.t 16)
   (.seq
    (.region [⟨(some 17), .mov (.t 0), none⟩,
       ⟨(some 6), .mov (.t 17), none⟩]) <|
    .ret)
   (.skip)) <|
 .seq
 (.region [⟨(some 18), .mov (.t 0), none⟩,
    ⟨(some 19), .len .sl (.t 18), none⟩,
    ⟨(some 7), .mov (.t 19), none⟩]) <|
 .seq
 (.draw false [0, 7] (
    .op ⟨(some 20), .mov (.t 0), none⟩ <|
    .op ⟨(some 21), .mov (.t 1), none⟩ <|
    .op ⟨(some 22), .slice 4 (.t 20) none (some (.t 21)) none, none⟩ <|
    .op ⟨(some 23), .mov (.t 0), none⟩ <|
    .op ⟨(some 24), .mov (.t 2), none⟩ <|
    .op ⟨(some 25), .slice 4 (.t 23) (some (.t 24)) none none, none⟩ <|
    .op ⟨(some 26), .app 4 32 (.t 22) (.t 25), none⟩ <|
    .op ⟨(some 0), .mov (.t 26), none⟩ <|
    .done)) <|
 .seq
 (.region [⟨(some 27), .mov (.t 0), none⟩,
    ⟨(some 28), .mov (.t 0), none⟩,
    ⟨(some 29), .len .sl (.t 28), none⟩,
    ⟨(some 30), .mov (.t 7), none⟩,
    ⟨(some 31), .sliceM 4 (.t 27) (.t 29) (.t 30), none⟩,
    ⟨none, .clear [(.int .i64 0), (.int .i64 0), (.int .i64 0), (.int .u64 0)] (.t 31), none⟩]) <|
 .seq
 (.region [⟨(some 32), .mov (.t 0), none⟩,
    ⟨(some 6), .mov (.t 32), none⟩]) <|
 .ret, [.slot 6]⟩
theorem c28 : Code1 Try.prog 28 33 b28 := Code1.mk' Try.func28 (by kernel_rfl) (by kernel_rfl) Try.ntmps28

/-- slices.Clone[[]fusee/agenda.Meeting,fusee/agenda.Meeting] -/
def b29 : IFn := ⟨
 .seq
 (.region [⟨(some 2), .mov (.c (.sl none 0 (some 0))), none⟩]) <|
 .seq
 (.seq
  (.region [⟨(some 3), .mov (.t 0), none⟩,
     ⟨(some 4), .eq false false [.sl] (.t 3) (.c (.sl none 0 (some 0))), none⟩]) <|
  .cond (.t 4)
   (.seq
    (.region [⟨(some 2), .mov (.c (.sl none 0 (some 0))), none⟩]) <|
    .ret)
   (.skip)) <|
 .seq
 (.region [⟨(some 5), .buildSl 4 [] [], none⟩,
    ⟨(some 6), .mov (.t 0), none⟩,
    ⟨(some 7), .app 4 32 (.t 5) (.t 6), none⟩,
    ⟨(some 2), .mov (.t 7), none⟩]) <|
 .ret, [.slot 2]⟩
theorem c29 : Code1 Try.prog 29 8 b29 := Code1.mk' Try.func29 (by kernel_rfl) (by kernel_rfl) Try.ntmps29

/-- fusee/span.Span.right -/
def b30 : IFn := ⟨
 .seq
 (.region [⟨(some 1), .box (.t 0), none⟩,
    ⟨(some 2), .mov (.c (.bool false)), none⟩]) <|
 .seq
 (.region [⟨(some 3), .faddr 0 (.t 1), none⟩,
    ⟨(some 4), .load false 1 (.t 3), none⟩,
    ⟨(some 5), .bin .geq (.t 4) (.c (.int .i64 (-1152921504606846976))), none⟩,
    ⟨(some 6), .mov (.t 5), none⟩,
    ⟨(some 7), .faddr 1 (.t 1), (some (6, true))⟩,
    ⟨(some 8), .load false 1 (.t 7), (some (6, true))⟩,
    ⟨(some 9), .bin .leq (.t 8) (.c (.int .i64 1152921504606846976)), (some (6, true))⟩,
    ⟨(some 10), .pick (.t 6) (.t 9) (.c (.bool false)), none⟩,
    ⟨(some 11), .mov (.t 10), none⟩,
    ⟨(some 12), .faddr 0 (.t 1), (some (11, true))⟩,
    ⟨(some 13), .load false 1 (.t 12), (some (11, true))⟩,
    ⟨(some 14), .faddr 1 (.t 1), (some (11, true))⟩,
    ⟨(some 15), .load false 1 (.t 14), (some (11, true))⟩,
    ⟨(some 16), .bin .lss (.t 13) (.t 15), (some (11, true))⟩,
    ⟨(some 17), .pick (.t 11) (.t 16) (.c (.bool false)), none⟩,
    ⟨(some 2), .mov (.t 17), none⟩]) <|
 .ret, [.slot 2]⟩
theorem c30 : Code1 Try.prog 30 18 b30 := Code1.mk' Try.func30 (by kernel_rfl) (by kernel_rfl) Try.ntmps30

/-- fusee/span.Set.whole -/
def b31 : IFn := ⟨
 .seq
 (.region [⟨(some 2), .mov (.c (.sl none 0 (some 0))), none⟩]) <|
 .seq
 (.seq
  (.region [⟨(some 3), .mov (.t 0), none⟩,
     ⟨(some 4), .call (.f 18) [(.t 3)], none⟩]) <|
  .cond (.t 4)
   (.seq
    (.region [⟨(some 5), .mov (.t 0), none⟩,
       ⟨(some 2), .mov (.t 5), none⟩]) <|
    .ret)
   (.skip)) <|
 .seq
 (.region [⟨(some 6), .mov (.t 0), none⟩,
    ⟨(some 7), .call (.f 20) [(.t 6)], none⟩,
    ⟨(some 2), .mov (.t 7), none⟩]) <|
 .ret, [.slot 2]⟩
theorem c31 : Code1 Try.prog 31 8 b31 := Code1.mk' Try.func31 (by kernel_rfl) (by kernel_rfl) Try.ntmps31

/-- slices.DeleteFunc[[]fusee/span.Span,fusee/span.Span] -/
def b32 : IFn := ⟨
 .seq
 (.region [⟨(some 4), .mov (.c (.sl none 0 (some 0))), none⟩]) <|
 .seq
 (.region [⟨(some 8), .mov (.t 0), none⟩,
    ⟨(some 9), .mov (.t 1), none⟩,
    ⟨(some 10), .call (.f 45) [(.t 8), (.t 9)], none⟩,
    ⟨(some 5), .mov (.t 10), none⟩]) <|
 .seq
 (.seq
  (.region [⟨(some 11), .mov (.t 5), none⟩,
     ⟨(some 12), .bin .eql (.t 11) (.c (.int .i64 (-1))), none⟩]) <|
  .cond (.t 12)
   (.seq
    (.region [⟨(some 13), .mov (.t 0), none⟩,
       ⟨(some 4), .mov (.t 13), none⟩]) <|
    .ret)
   (.skip)) <|
 .seq
 (.seq
  (.region [⟨(some 14), .mov (.t 5), none⟩,
     ⟨(some 15), .bin .add (.t 14) (.c (.int .i64 1)), none⟩,
     ⟨(some 6), .mov (.t 15), none⟩]) <|
  .block 0 <|
  .loop [0, 1, 5, 6] <|
   .seq
   (.seq
    (.region [⟨(some 16), .mov (.t 6), none⟩,
       ⟨(some 17), .mov (.t 0), none⟩,
       ⟨(some 18), .len .sl (.t 17), none⟩,
       ⟨(some 19), .bin .lss (.t 16) (.t 18), none⟩]) <|
    .cond (.t 19)
     (.skip)
     (.exit 0)) <|
   .seq
   (.block 1 <|
    .seq
    (.region [⟨(some 22), .mov (.t 0), none⟩,
       ⟨(some 23), .mov (.t 6), none⟩,
       ⟨(some 24), .iaddr 2 (.t 22) (.t 23), none⟩,
       ⟨(some 25), .load true 2 (.t 24), none⟩,
       ⟨(some 7), .alloc [(.int .i64 0), (.int .i64 0)], none⟩,
       ⟨none, .store 2 (.t 7) (.t 25), none⟩]) <|
    .seq
    (.region [⟨(some 26), .mov (.t 1), none⟩,
       ⟨(some 27), .load true 2 (.t 7), none⟩,
       ⟨(some 28), .call (.t 26) [(.t 27)], none⟩,
       ⟨(some 29), .un .not (.t 28), none⟩]) <|
    .cond (.t 29)
     (.seq
      (.region [⟨(some 30), .mov (.t 0), none⟩,
         ⟨(some 31), .mov (.t 5), none⟩,
         ⟨(some 32), .load true 2 (.t 7), none⟩,
         ⟨(some 33), .iaddr 2 (.t 30) (.t 31), none⟩,
         ⟨none, .store 2 (.t 33) (.t 32), none⟩]) <|
      .region [⟨(some 34), .mov (.t 5), none⟩,
        ⟨(some 35), .bin .add (.t 34) (.c (.int .i64 1)), none⟩,
        ⟨(some 5), .mov (.t 35), none⟩])
     (.skip)) <|
   .region [⟨(some 20), .mov (.t 6), none⟩,
     ⟨(some 21), .bin .add (.t 20) (.c (.int .i64 1)), none⟩,
     ⟨(some 6), .mov (.t 21), none⟩]) <|
 .seq
 (.region [⟨(some 36), .mov (.t 0), none⟩,
    ⟨(some 37), .mov (.t 5), none⟩,
    ⟨(some 38), .slice 2 (.t 36) (some (.t 37)) none none, none⟩,
    ⟨none, .clear [(.int .i64 0), (.int .i64 0)] (.t 38), none⟩]) <|
 .seq
 (.region [⟨(some 39), .mov (.t 0), none⟩,
    ⟨(some 40), .mov (.t 5), none⟩,
    ⟨(some 41), .slice 2 (.t 39) none (some (.t 40)) none, none⟩,
    ⟨(some 4), .mov (.t 41), none⟩]) <|
 .ret, [.slot 4]⟩
theorem c32 : Code1 Try.prog 32 42 b32 := Code1.mk' Try.func32 (by kernel_rfl) (by kernel_rfl) Try.ntmps32

/-- slices.Clone[[]fusee/span.Span,fusee/span.Span] -/
def b33 : IFn := ⟨
 .seq
 (.region [⟨(some 2), .mov (.c (.sl none 0 (some 0))), none⟩]) <|
 .seq
 (.seq
  (.region [⟨(some 3), .mov (.t 0), none⟩,
     ⟨(some 4), .eq false false [.sl] (.t 3) (.c (.sl none 0 (some 0))), none⟩]) <|
  .cond (.t 4)
   (.seq
    (.region [⟨(some 2), .mov (.c (.sl none 0 (some 0))), none⟩]) <|
    .ret)
   (.skip)) <|
 .seq
 (.region [⟨(some 5), .buildSl 2 [] [], none⟩,
    ⟨(some 6), .mov (.t 0), none⟩,
    ⟨(some 7), .app 2 16 (.t 5) (.t 6), none⟩,
    ⟨(some 2), .mov (.t 7), none⟩]) <|
 .ret, [.slot 2]⟩
theorem c33 : Code1 Try.prog 33 8 b33 := Code1.mk' Try.func33 (by kernel_rfl) (by kernel_rfl) Try.ntmps33

/-- fusee/span.Of$1 -/
def b34 : IFn := ⟨
 .seq
 (.region [⟨(some 1), .box (.t 0), none⟩,
    ⟨(some 2), .mov (.c (.bool false)), none⟩]) <|
 .seq
 (.region [⟨(some 3), .load true 2 (.t 1), none⟩,
    ⟨(some 4), .call (.f 30) [(.t 3)], none⟩,
    ⟨(some 5), .un .not (.t 4), none⟩,
    ⟨(some 2), .mov (.t 5), none⟩]) <|
 .ret, [.slot 2]⟩
theorem c34 : Code1 Try.prog 34 6 b34 := Code1.mk' Try.func34 (by kernel_rfl) (by kernel_rfl) Try.ntmps34

/-- slices.SortFunc[[]fusee/span.Span,fusee/span.Span] -/
def b35 : IFn := ⟨
 .seq
 (.region [⟨(some 5), .mov (.t 0), none⟩,
    ⟨(some 6), .len .sl (.t 5), none⟩,
    ⟨(some 4), .mov (.t 6), none⟩]) <|
 .region [⟨(some 7), .mov (.t 0), none⟩,
   ⟨(some 8), .mov (.t 4), none⟩,
   ⟨(some 9), .mov (.t 4), none⟩,
   ⟨(some 10), .conv .u64 (.t 9), none⟩,
   ⟨(some 11), .call (.f 44) [(.t 10)], none⟩,
   ⟨(some 12), .mov (.t 1), none⟩,
   ⟨(some 13), .call (.f 46) [(.t 7), (.c (.int .i64 0)), (.t 8), (.t 11), (.t 12)], none⟩], []⟩
theorem c35 : Code1 Try.prog 35 14 b35 := Code1.mk' Try.func35 (by kernel_rfl) (by kernel_rfl) Try.ntmps35

/-- fusee/span.Of$2 -/
def b36 : IFn := ⟨
 .seq
 (.region [⟨(some 2), .box (.t 0), none⟩,
    ⟨(some 3), .box (.t 1), none⟩,
    ⟨(some 4), .mov (.c (.int .i64 0)), none⟩]) <|
 .seq
 (.region [⟨(some 5), .faddr 0 (.t 2), none⟩,
    ⟨(some 6), .load false 1 (.t 5), none⟩,
    ⟨(some 7), .faddr 0 (.t 3), none⟩,
    ⟨(some 8), .load false 1 (.t 7), none⟩,
    ⟨(some 9), .call (.f 37) [(.t 6), (.t 8)], none⟩,
    ⟨(some 4), .mov (.t 9), none⟩]) <|
 .ret, [.slot 4]⟩
theorem c36 : Code1 Try.prog 36 10 b36 := Code1.mk' Try.func36 (by kernel_rfl) (by kernel_rfl) Try.ntmps36

/-- cmp.Compare[int] -/
def b37 : IFn := ⟨
 .seq
 (.region [⟨(some 4), .mov (.c (.int .i64 0)), none⟩]) <|
 .seq
 (.region [⟨(some 7), .mov (.t 0), none⟩,
    ⟨(some 8), .call (.f 47) [(.t 7)], none⟩,
    ⟨(some 5), .mov (.t 8), none⟩]) <|
 .seq
 (.region [⟨(some 9), .mov (.t 1), none⟩,
    ⟨(some 10), .call (.f 47) [(.t 9)], none⟩,
    ⟨(some 6), .mov (.t 10), none⟩]) <|
 .seq
 (.seq
  (.region [⟨(some 11), .mov (.t 5), none⟩]) <|
  .cond (.t 11)
   (.seq
    (.seq
     (.region [⟨(some 12), .mov (.t 6), none⟩]) <|
     .cond (.t 12)
      (.seq
       (.region [⟨(some 4), .mov (.c (.int .i64 0)), none⟩]) <|
       .ret)
      (.skip)) <|
    .seq
    (.region [⟨(some 4), .mov (.c (.int .i64 (-1))), none⟩]) <|
    .ret)
   (.skip)) <|
 .seq
 (.seq
  (.region [⟨(some 13), .mov (.t 6), none⟩]) <|
  .cond (.t 13)
   (.seq
    (.region [⟨(some 4), .mov (.c (.int .i64 1)), none⟩]) <|
    .ret)
   (.skip)) <|
 .seq
 (.seq
  (.region [⟨(some 14), .mov (.t 0), none⟩,
     ⟨(some 15), .mov (.t 1), none⟩,
     ⟨(some 16), .bin .lss (.t 14) (.t 15), none⟩]) <|
  .cond (.t 16)
   (.seq
    (.region [⟨(some 4), .mov (.c (.int .i64 (-1))), none⟩]) <|
    .ret)
   (.skip)) <|
 .seq
 (.seq
  (.region [⟨(some 17), .mov (.t 0), none⟩,
     ⟨(some 18), .mov (.t 1), none⟩,
     ⟨(some 19), .bin .gtr (.t 17) (.t 18), none⟩]) <|
  .cond (.t 19)
   (.seq
    (.region [⟨(some 4), .mov (.c (.int .i64 1)), none⟩]) <|
    .ret)
   (.skip)) <|
 .seq
 (.region [⟨(some 4), .mov (.c (.int .i64 0)), none⟩]) <|
 .ret, [.slot 4]⟩
theorem c37 : Code1 Try.prog 37 20 b37 := Code1.mk' Try.func37 (by kernel_rfl) (by kernel_rfl) Try.ntmps37

/-- slices.IndexFunc[[]fusee/agenda.Meeting,fusee/agenda.Meeting] -/
def b38 : IFn := ⟨
 .seq
 (.region [⟨(some 4), .mov (.c (.int .i64 0)), none⟩]) <|
 .seq
 (.seq
  (.region [⟨(some 6), .mov (.t 0), none⟩,
     ⟨(some 7), .len .sl (.t 6), none⟩,
     ⟨(some 8), .mov (.c (.int .i64 0)), none⟩]) <|
  .block 0 <|
  .loop [0, 1, 7, 8] <|
   .seq
   (.region [⟨(some 9), .bin .lss (.t 8) (.t 7), none⟩]) <|
   .seq
   (.cond (.t 9)
     (.skip)
     (.exit 0)) <|
   .seq
   (.block 1 <|
    .seq
    (.region [⟨(some 10), .mov (.t 8), none⟩,
       ⟨(some 5), .mov (.t 10), none⟩]) <|
    .seq
    (.region [⟨(some 11), .mov (.t 1), none⟩,
       ⟨(some 12), .mov (.t 0), none⟩,
       ⟨(some 13), .mov (.t 5), none⟩,
       ⟨(some 14), .iaddr 4 (.t 12) (.t 13), none⟩,
       ⟨(some 15), .load true 4 (.t 14), none⟩,
       ⟨(some 16), .call (.t 11) [(.t 15)], none⟩]) <|
    .cond (.t 16)
     (.seq
      (.region [⟨(some 17), .mov (.t 5), none⟩,
         ⟨(some 4), .mov (.t 17), none⟩]) <|
      .ret)
     (.skip)) <|
   .region [⟨(some 18), .bin .add (.t 8) (.c (.int .i64 1)), none⟩,
     ⟨(some 8), .mov (.t 18), none⟩]) <|
 .seq
 (.region [⟨(some 4), .mov (.c (.int .i64 (-1))), none⟩]) <|
 .ret, [.slot 4]⟩
theorem c38 : Code1 Try.prog 38 19 b38 := Code1.mk' Try.func38 (by kernel_rfl) (by kernel_rfl) Try.ntmps38

/-- fusee/agenda.Agenda.place$1 -/
def b39 : IFn := ⟨
 .seq
 (.region [⟨(some 2), .box (.t 0), none⟩,
    ⟨(some 3), .mov (.c (.bool false)), none⟩]) <|
 .seq
 (.region [⟨(some 4), .faddr 0 (.t 2), none⟩,
    ⟨(some 5), .load false 1 (.t 4), none⟩,
    ⟨(some 6), .load false 1 (.t 1), none⟩,
    ⟨(some 7), .bin .eql (.t 5) (.t 6), none⟩,
    ⟨(some 3), .mov (.t 7), none⟩]) <|
 .ret, [.slot 3]⟩
theorem c39 : Code1 Try.prog 39 8 b39 := Code1.mk' Try.func39 (by kernel_rfl) (by kernel_rfl) Try.ntmps39

/-- cmp.Or[int] -/
def b40 : IFn := ⟨
 .seq
 (.region [⟨(some 2), .mov (.c (.int .i64 0)), none⟩]) <|
 .seq
 (.region [⟨(some 3), .mov (.c (.int .i64 0)), none⟩]) <|
 .seq
 (.seq
  (.region [⟨(some 6), .mov (.t 0), none⟩,
     ⟨(some 7), .len .sl (.t 6), none⟩,
     ⟨(some 8), .mov (.c (.int .i64 0)), none⟩]) <|
  .block 0 <|
  .loop [3, 6, 7, 8] <|
   .seq
   (.region [⟨(some 9), .bin .lss (.t 8) (.t 7), none⟩]) <|
   .seq
   (.cond (.t 9)
     (.skip)
     (.exit 0)) <|
   .seq
   (.block 1 <|
    .seq
    (.region [⟨(some 10), .iaddr 1 (.t 6) (.t 8), none⟩,
       ⟨(some 11), .load false 1 (.t 10), none⟩,
       ⟨(some 5), .mov (.t 11), none⟩]) <|
    .seq
    (.region [⟨(some 12), .mov (.t 5), none⟩,
       ⟨(some 13), .mov (.t 3), none⟩,
       ⟨(some 14), .bin .neq (.t 12) (.t 13), none⟩]) <|
    .cond (.t 14)
     (.seq
      (.region [⟨(some 15), .mov (.t 5), none⟩,
         ⟨(some 2), .mov (.t 15), none⟩]) <|
      .ret)
     (.skip)) <|
   .region [⟨(some 16), .bin .add (.t 8) (.c (.int .i64 1)), none⟩,
     ⟨(some 8), .mov (.t 16), none⟩]) <|
 .seq
 (.region [⟨(some 17), .mov (.t 3), none⟩,
    ⟨(some 2), .mov (.t 17), none⟩]) <|
 .ret, [.slot 2]⟩
theorem c40 : Code1 Try.prog 40 18 b40 := Code1.mk' Try.func40 (by kernel_rfl) (by kernel_rfl) Try.ntmps40

/-- slices.rotateRight[fusee/agenda.Meeting] -/
def b42 : IFn := ⟨
 .region [⟨(some 4), .mov (.t 0), none⟩,
   ⟨(some 5), .mov (.t 0), none⟩,
   ⟨(some 6), .len .sl (.t 5), none⟩,
   ⟨(some 7), .mov (.t 1), none⟩,
   ⟨(some 8), .bin .sub (.t 6) (.t 7), none⟩,
   ⟨(some 9), .call (.f 48) [(.t 4), (.t 8)], none⟩], []⟩
theorem c42 : Code1 Try.prog 42 10 b42 := Code1.mk' Try.func42 (by kernel_rfl) (by kernel_rfl) Try.ntmps42

/-- slices.pdqsortOrdered[int] -/
def b43 : IFn := ⟨
 .seq
 (.region [⟨(some 8), .mov (.c (.bool true)), none⟩]) <|
 .seq
 (.region [⟨(some 9), .mov (.c (.bool true)), none⟩]) <|
 .block 0 <|
 .loop [0, 1, 2, 3, 8, 9] <|
  .block 1 <|
  .seq
  (.region [⟨(some 19), .mov (.t 2), none⟩,
     ⟨(some 20), .mov (.t 1), none⟩,
     ⟨(some 21), .bin .sub (.t 19) (.t 20), none⟩,
     ⟨(some 10), .mov (.t 21), none⟩]) <|
  .seq
  (.seq
   (.region [⟨(some 22), .mov (.t 10), none⟩,
      ⟨(some 23), .bin .leq (.t 22) (.c (.int .i64 12)), none⟩]) <|
   .cond (.t 23)
    (.seq
     (.region [⟨(some 24), .mov (.t 0), none⟩,
        ⟨(some 25), .mov (.t 1), none⟩,
        ⟨(some 26), .mov (.t 2), none⟩,
        ⟨(some 27), .call (.f 49) [(.t 24), (.t 25), (.t 26)], none⟩]) <|
     .ret)
    (.skip)) <|
  .seq
  (.seq
   (.region [⟨(some 28), .mov (.t 3), none⟩,
      ⟨(some 29), .bin .eql (.t 28) (.c (.int .i64 0)), none⟩]) <|
   .cond (.t 29)
    (.seq
     (.region [⟨(some 30), .mov (.t 0), none⟩,
        ⟨(some 31), .mov (.t 1), none⟩,
        ⟨(some 32), .mov (.t 2), none⟩,
        ⟨(some 33), .call (.f 50) [(.t 30), (.t 31), (.t 32)], none⟩]) <|
     .ret)
    (.skip)) <|
  .seq
  (.seq
   (.region [⟨(some 34), .mov (.t 8), none⟩,
      ⟨(some 35), .un .not (.t 34), none⟩]) <|
   .cond (.t 35)
    (.seq
     (.region [⟨(some 36), .mov (.t 0), none⟩,
        ⟨(some 37), .mov (.t 1), none⟩,
        ⟨(some 38), .mov (.t 2), none⟩,
        ⟨(some 39), .call (.f 51) [(.t 36), (.t 37), (.t 38)], none⟩]) <|
     .region [⟨(some 40), .mov (.t 3), none⟩,
       ⟨(some 41), .bin .sub (.t 40) (.c (.int .i64 1)), none⟩,
       ⟨(some 3), .mov (.t 41), none⟩])
    (.skip)) <|
  .seq
  (.region [⟨(some 43), .mov (.t 0), none⟩,
     ⟨(some 44), .mov (.t 1), none⟩,
     ⟨(some 45), .mov (.t 2), none⟩,
     ⟨(some 46), .call (.f 52) [(.t 43), (.t 44), (.t 45)], none⟩,
     ⟨(some 42), .mov (.t 46), none⟩,
     ⟨(some 47), .extract (.t 42) 0, none⟩,
     ⟨(some 48), .extract (.t 42) 1, none⟩,
     ⟨(some 11), .mov (.t 47), none⟩,
     ⟨(some 12), .mov (.t 48), none⟩]) <|
  .seq
  (.seq
   (.region [⟨(some 49), .mov (.t 12), none⟩,
      ⟨(some 50), .bin .eql (.t 49) (.c (.int .i64 2)), none⟩]) <|
   .cond (.t 50)
    (.seq
     (.region [⟨(some 51), .mov (.t 0), none⟩,
        ⟨(some 52), .mov (.t 1), none⟩,
        ⟨(some 53), .mov (.t 2), none⟩,
        ⟨(some 54), .call (.f 53) [(.t 51), (.t 52), (.t 53)], none⟩]) <|
     .seq
     (.region [⟨(some 55), .mov (.t 2), none⟩,
        ⟨(some 56), .bin .sub (.t 55) (.c (.int .i64 1)), none⟩,
        ⟨(some 57), .mov (.t 11), none⟩,
        ⟨(some 58), .mov (.t 1), none⟩,
        ⟨(some 59), .bin .sub (.t 57) (.t 58), none⟩,
        ⟨(some 60), .bin .sub (.t 56) (.t 59), none⟩,
        ⟨(some 11), .mov (.t 60), none⟩]) <|
     .region [⟨(some 12), .mov (.c (.int .i64 1)), none⟩])
    (.skip)) <|
  .seq
  (.seq
   (.region [⟨(some 61), .mov (.t 8), none⟩,
      ⟨(some 62), .mov (.t 61), none⟩,
      ⟨(some 63), .mov (.t 9), (some (62, true))⟩,
      ⟨(some 64), .pick (.t 62) (.t 63) (.c (.bool false)), none⟩,
      ⟨(some 65), .mov (.t 64), none⟩,
      ⟨(some 66), .mov (.t 12), (some (65, true))⟩,
      ⟨(some 67), .bin .eql (.t 66) (.c (.int .i64 1)), (some (65, true))⟩,
      ⟨(some 68), .pick (.t 65) (.t 67) (.c (.bool false)), none⟩]) <|
   .cond (.t 68)
    (.seq
     (.region [⟨(some 69), .mov (.t 0), none⟩,
        ⟨(some 70), .mov (.t 1), none⟩,
        ⟨(some 71), .mov (.t 2), none⟩,
        ⟨(some 72), .call (.f 54) [(.t 69), (.t 70), (.t 71)], none⟩]) <|
     .cond (.t 72)
      (.ret)
      (.skip))
    (.skip)) <|
  .seq
  (.seq
   (.draw false [0, 1, 2, 3, 8, 9, 10, 11, 87] (
      .op ⟨(some 73), .mov (.t 1), none⟩ <|
      .op ⟨(some 74), .bin .gtr (.t 73) (.c (.int .i64 0)), none⟩ <|
      .op ⟨(some 75), .mov (.t 74), none⟩ <|
      .op ⟨(some 76), .mov (.t 0), (some (75, true))⟩ <|
      .op ⟨(some 77), .mov (.t 1), (some (75, true))⟩ <|
      .op ⟨(some 78), .bin .sub (.t 77) (.c (.int .i64 1)), (some (75, true))⟩ <|
      .op ⟨(some 79), .iaddr 1 (.t 76) (.t 78), (some (75, true))⟩ <|
      .op ⟨(some 80), .load false 1 (.t 79), (some (75, true))⟩ <|
      .op ⟨(some 81), .mov (.t 0), (some (75, true))⟩ <|
      .op ⟨(some 82), .mov (.t 11), (some (75, true))⟩ <|
      .op ⟨(some 83), .iaddr 1 (.t 81) (.t 82), (some (75, true))⟩ <|
      .op ⟨(some 84), .load false 1 (.t 83), (some (75, true))⟩ <|
      .op ⟨(some 85), .call (.f 55) [(.t 80), (.t 84)], (some (75, true))⟩ <|
      .op ⟨(some 86), .un .not (.t 85), (some (75, true))⟩ <|
      .op ⟨(some 87), .pick (.t 75) (.t 86) (.c (.bool false)), none⟩ <|
      .done)) <|
   .cond (.t 87)
    (.seq
     (.region [⟨(some 88), .mov (.t 0), none⟩,
        ⟨(some 89), .mov (.t 1), none⟩,
        ⟨(some 90), .mov (.t 2), none⟩,
        ⟨(some 91), .mov (.t 11), none⟩,
        ⟨(some 92), .call (.f 56) [(.t 88), (.t 89), (.t 90), (.t 91)], none⟩,
        ⟨(some 13), .mov (.t 92), none⟩]) <|
     .seq
     (.region [⟨(some 93), .mov (.t 13), none⟩,
        ⟨(some 1), .mov (.t 93), none⟩]) <|
     .exit 1)
    (.skip)) <|
  .seq
  (.region [⟨(some 95), .mov (.t 0), none⟩,
     ⟨(some 96), .mov (.t 1), none⟩,
     ⟨(some 97), .mov (.t 2), none⟩,
     ⟨(some 98), .mov (.t 11), none⟩,
     ⟨(some 99), .call (.f 57) [(.t 95), (.t 96), (.t 97), (.t 98)], none⟩,
     ⟨(some 94), .mov (.t 99), none⟩,
     ⟨(some 100), .extract (.t 94) 0, none⟩,
     ⟨(some 101), .extract (.t 94) 1, none⟩,
     ⟨(some 14), .mov (.t 100), none⟩,
     ⟨(some 15), .mov (.t 101), none⟩]) <|
  .seq
  (.region [⟨(some 102), .mov (.t 15), none⟩,
     ⟨(some 9), .mov (.t 102), none⟩]) <|
  .seq
  (.region [⟨(some 103), .mov (.t 14), none⟩,
     ⟨(some 104), .mov (.t 1), none⟩,
     ⟨(some 105), .bin .sub (.t 103) (.t 104), none⟩,
     ⟨(some 106), .mov (.t 2), none⟩,
     ⟨(some 107), .mov (.t 14), none⟩,
     ⟨(some 108), .bin .sub (.t 106) (.t 107), none⟩,
     ⟨(some 16), .mov (.t 105), none⟩,
     ⟨(some 17), .mov (.t 108), none⟩]) <|
  .seq
  (.region [⟨(some 109), .mov (.t 10), none⟩,
     ⟨(some 110), .bin .quo (.t 109) (.c (.int .i64 8)), none⟩,
     ⟨(some 18), .mov (.t 110), none⟩]) <|
  .seq
  (.region [⟨(some 111), .mov (.t 16), none⟩,
     ⟨(some 112), .mov (.t 17), none⟩,
     ⟨(some 113), .bin .lss (.t 111) (.t 112), none⟩]) <|
  .cond (.t 113)
   (.seq
    (.region [⟨(some 114), .mov (.t 16), none⟩,
       ⟨(some 115), .mov (.t 18), none⟩,
       ⟨(some 116), .bin .geq (.t 114) (.t 115), none⟩,
       ⟨(some 8), .mov (.t 116), none⟩]) <|
    .seq
    (.region [⟨(some 117), .mov (.t 0), none⟩,
       ⟨(some 118), .mov (.t 1), none⟩,
       ⟨(some 119), .mov (.t 14), none⟩,
       ⟨(some 120), .mov (.t 3), none⟩,
       ⟨(some 121), .call (.f 43) [(.t 117), (.t 118), (.t 119), (.t 120)], none⟩]) <|
    .region [⟨(some 122), .mov (.t 14), none⟩,
      ⟨(some 123), .bin .add (.t 122) (.c (.int .i64 1)), none⟩,
      ⟨(some 1), .mov (.t 123), none⟩])
   (.seq
    (.region [⟨(some 124), .mov (.t 17), none⟩,
       ⟨(some 125), .mov (.t 18), none⟩,
       ⟨(some 126), .bin .geq (.t 124) (.t 125), none⟩,
       ⟨(some 8), .mov (.t 126), none⟩]) <|
    .seq
    (.region [⟨(some 127), .mov (.t 0), none⟩,
       ⟨(some 128), .mov (.t 14), none⟩,
       ⟨(some 129), .bin .add (.t 128) (.c (.int .i64 1)), none⟩,
       ⟨(some 130), .mov (.t 2), none⟩,
       ⟨(some 131), .mov (.t 3), none⟩,
       ⟨(some 132), .call (.f 43) [(.t 127), (.t 129), (.t 130), (.t 131)], none⟩]) <|
    .region [⟨(some 133), .mov (.t 14), none⟩,
      ⟨(some 2), .mov (.t 133), none⟩]), []⟩
theorem c43 : Code1 Try.prog 43 134 b43 := Code1.mk' Try.func43 (by kernel_rfl) (by kernel_rfl) Try.ntmps43

/-- math/bits.Len -/
def b44 : IFn := ⟨
 .seq
 (.region [⟨(some 2), .mov (.c (.int .i64 0)), none⟩]) <|
 .seq
 (.cond (.c (.bool false))
   (.seq
    (.region [⟨(some 3), .mov (.t 0), none⟩,
       ⟨(some 4), .conv .u32 (.t 3), none⟩,
       ⟨(some 5), .call (.f 58) [(.t 4)], none⟩,
       ⟨(some 2), .mov (.t 5), none⟩]) <|
    .ret)
   (.skip)) <|
 .seq
 (.region [⟨(some 6), .mov (.t 0), none⟩,
    ⟨(some 7), .call (.f 59) [(.t 6)], none⟩,
    ⟨(some 2), .mov (.t 7), none⟩]) <|
 .ret, [.slot 2]⟩
theorem c44 : Code1 Try.prog 44 8 b44 := Code1.mk' Try.func44 (by kernel_rfl) (by kernel_rfl) Try.ntmps44

/-- slices.IndexFunc[[]fusee/span.Span,fusee/span.Span] -/
def b45 : IFn := ⟨
 .seq
 (.region [⟨(some 4), .mov (.c (.int .i64 0)), none⟩]) <|
 .seq
 (.seq
  (.region [⟨(some 6), .mov (.t 0), none⟩,
     ⟨(some 7), .len .sl (.t 6), none⟩,
     ⟨(some 8), .mov (.c (.int .i64 0)), none⟩]) <|
  .block 0 <|
  .loop [0, 1, 7, 8] <|
   .seq
   (.region [⟨(some 9), .bin .lss (.t 8) (.t 7), none⟩]) <|
   .seq
   (.cond (.t 9)
     (.skip)
     (.exit 0)) <|
   .seq
   (.block 1 <|
    .seq
    (.region [⟨(some 10), .mov (.t 8), none⟩,
       ⟨(some 5), .mov (.t 10), none⟩]) <|
    .seq
    (.region [⟨(some 11), .mov (.t 1), none⟩,
       ⟨(some 12), .mov (.t 0), none⟩,
       ⟨(some 13), .mov (.t 5), none⟩,
       ⟨(some 14), .iaddr 2 (.t 12) (.t 13), none⟩,
       ⟨(some 15), .load true 2 (.t 14), none⟩,
       ⟨(some 16), .call (.t 11) [(.t 15)], none⟩]) <|
    .cond (.t 16)
     (.seq
      (.region [⟨(some 17), .mov (.t 5), none⟩,
         ⟨(some 4), .mov (.t 17), none⟩]) <|
      .ret)
     (.skip)) <|
   .region [⟨(some 18), .bin .add (.t 8) (.c (.int .i64 1)), none⟩,
     ⟨(some 8), .mov (.t 18), none⟩]) <|
 .seq
 (.region [⟨(some 4), .mov (.c (.int .i64 (-1))), none⟩]) <|
 .ret, [.slot 4]⟩
theorem c45 : Code1 Try.prog 45 19 b45 := Code1.mk' Try.func45 (by kernel_rfl) (by kernel_rfl) Try.ntmps45

/-- slices.pdqsortCmpFunc[fusee/span.Span] -/
def b46 : IFn := ⟨
 .seq
 (.region [⟨(some 10), .mov (.c (.bool true)), none⟩]) <|
 .seq
 (.region [⟨(some 11), .mov (.c (.bool true)), none⟩]) <|
 .block 0 <|
 .loop [0, 1, 2, 3, 4, 10, 11] <|
  .block 1 <|
  .seq
  (.region [⟨(some 21), .mov (.t 2), none⟩,
     ⟨(some 22), .mov (.t 1), none⟩,
     ⟨(some 23), .bin .sub (.t 21) (.t 22), none⟩,
     ⟨(some 12), .mov (.t 23), none⟩]) <|
  .seq
  (.seq
   (.region [⟨(some 24), .mov (.t 12), none⟩,
      ⟨(some 25), .bin .leq (.t 24) (.c (.int .i64 12)), none⟩]) <|
   .cond (.t 25)
    (.seq
     (.region [⟨(some 26), .mov (.t 0), none⟩,
        ⟨(some 27), .mov (.t 1), none⟩,
        ⟨(some 28), .mov (.t 2), none⟩,
        ⟨(some 29), .mov (.t 4), none⟩,
        ⟨(some 30), .call (.f 60) [(.t 26), (.t 27), (.t 28), (.t 29)], none⟩]) <|
     .ret)
    (.skip)) <|
  .seq
  (.seq
   (.region [⟨(some 31), .mov (.t 3), none⟩,
      ⟨(some 32), .bin .eql (.t 31) (.c (.int .i64 0)), none⟩]) <|
   .cond (.t 32)
    (.seq
     (.region [⟨(some 33), .mov (.t 0), none⟩,
        ⟨(some 34), .mov (.t 1), none⟩,
        ⟨(some 35), .mov (.t 2), none⟩,
        ⟨(some 36), .mov (.t 4), none⟩,
        ⟨(some 37), .call (.f 61) [(.t 33), (.t 34), (.t 35), (.t 36)], none⟩]) <|
     .ret)
    (.skip)) <|
  .seq
  (.seq
   (.region [⟨(some 38), .mov (.t 10), none⟩,
      ⟨(some 39), .un .not (.t 38), none⟩]) <|
   .cond (.t 39)
    (.seq
     (.region [⟨(some 40), .mov (.t 0), none⟩,
        ⟨(some 41), .mov (.t 1), none⟩,
        ⟨(some 42), .mov (.t 2), none⟩,
        ⟨(some 43), .mov (.t 4), none⟩,
        ⟨(some 44), .call (.f 62) [(.t 40), (.t 41), (.t 42), (.t 43)], none⟩]) <|
     .region [⟨(some 45), .mov (.t 3), none⟩,
       ⟨(some 46), .bin .sub (.t 45) (.c (.int .i64 1)), none⟩,
       ⟨(some 3), .mov (.t 46), none⟩])
    (.skip)) <|
  .seq
  (.region [⟨(some 48), .mov (.t 0), none⟩,
     ⟨(some 49), .mov (.t 1), none⟩,
     ⟨(some 50), .mov (.t 2), none⟩,
     ⟨(some 51), .mov (.t 4), none⟩,
     ⟨(some 52), .call (.f 63) [(.t 48), (.t 49), (.t 50), (.t 51)], none⟩,
     ⟨(some 47), .mov (.t 52), none⟩,
     ⟨(some 53), .extract (.t 47) 0, none⟩,
     ⟨(some 54), .extract (.t 47) 1, none⟩,
     ⟨(some 13), .mov (.t 53), none⟩,
     ⟨(some 14), .mov (.t 54), none⟩]) <|
  .seq
  (.seq
   (.region [⟨(some 55), .mov (.t 14), none⟩,
      ⟨(some 56), .bin .eql (.t 55) (.c (.int .i64 2)), none⟩]) <|
   .cond (.t 56)
    (.seq
     (.region [⟨(some 57), .mov (.t 0), none⟩,
        ⟨(some 58), .mov (.t 1), none⟩,
        ⟨(some 59), .mov (.t 2), none⟩,
        ⟨(some 60), .mov (.t 4), none⟩,
        ⟨(some 61), .call (.f 64) [(.t 57), (.t 58), (.t 59), (.t 60)], none⟩]) <|
     .seq
     (.region [⟨(some 62), .mov (.t 2), none⟩,
        ⟨(some 63), .bin .sub (.t 62) (.c (.int .i64 1)), none⟩,
        ⟨(some 64), .mov (.t 13), none⟩,
        ⟨(some 65), .mov (.t 1), none⟩,
        ⟨(some 66), .bin .sub (.t 64) (.t 65), none⟩,
        ⟨(some 67), .bin .sub (.t 63) (.t 66), none⟩,
        ⟨(some 13), .mov (.t 67), none⟩]) <|
     .region [⟨(some 14), .mov (.c (.int .i64 1)), none⟩])
    (.skip)) <|
  .seq
  (.seq
   (.region [⟨(some 68), .mov (.t 10), none⟩,
      ⟨(some 69), .mov (.t 68), none⟩,
      ⟨(some 70), .mov (.t 11), (some (69, true))⟩,
      ⟨(some 71), .pick (.t 69) (.t 70) (.c (.bool false)), none⟩,
      ⟨(some 72), .mov (.t 71), none⟩,
      ⟨(some 73), .mov (.t 14), (some (72, true))⟩,
      ⟨(some 74), .bin .eql (.t 73) (.c (.int .i64 1)), (some (72, true))⟩,
      ⟨(some 75), .pick (.t 72) (.t 74) (.c (.bool false)), none⟩]) <|
   .cond (.t 75)
    (.seq
     (.region [⟨(some 76), .mov (.t 0), none⟩,
        ⟨(some 77), .mov (.t 1), none⟩,
        ⟨(some 78), .mov (.t 2), none⟩,
        ⟨(some 79), .mov (.t 4), none⟩,
        ⟨(some 80), .call (.f 65) [(.t 76), (.t 77), (.t 78), (.t 79)], none⟩]) <|
     .cond (.t 80)
      (.ret)
      (.skip))
    (.skip)) <|
  .seq
  (.seq
   (.draw false [0, 1, 2, 3, 4, 10, 11, 12, 13, 97] (
      .op ⟨(some 81), .mov (.t 1), none⟩ <|
      .op ⟨(some 82), .bin .gtr (.t 81) (.c (.int .i64 0)), none⟩ <|
      .op ⟨(some 83), .mov (.t 82), none⟩ <|
      .op ⟨(some 84), .mov (.t 4), (some (83, true))⟩ <|
      .op ⟨(some 85), .mov (.t 0), (some (83, true))⟩ <|
      .op ⟨(some 86), .mov (.t 1), (some (83, true))⟩ <|
      .op ⟨(some 87), .bin .sub (.t 86) (.c (.int .i64 1)), (some (83, true))⟩ <|
      .op ⟨(some 88), .iaddr 2 (.t 85) (.t 87), (some (83, true))⟩ <|
      .op ⟨(some 89), .load true 2 (.t 88), (some (83, true))⟩ <|
      .op ⟨(some 90), .mov (.t 0), (some (83, true))⟩ <|
      .op ⟨(some 91), .mov (.t 13), (some (83, true))⟩ <|
      .op ⟨(some 92), .iaddr 2 (.t 90) (.t 91), (some (83, true))⟩ <|
      .op ⟨(some 93), .load true 2 (.t 92), (some (83, true))⟩ <|
      .op ⟨(some 94), .call (.t 84) [(.t 89), (.t 93)], (some (83, true))⟩ <|
      .op ⟨(some 95), .bin .lss (.t 94) (.c (.int .i64 0)), (some (83, true))⟩ <|
      .op ⟨(some 96), .un .not (.t 95), (some (83, true))⟩ <|
      .op ⟨(some 97), .pick (.t 83) (.t 96) (.c (.bool false)), none⟩ <|
      .done)) <|
   .cond (.t 97)
    (.seq
     (.region [⟨(some 98), .mov (.t 0), none⟩,
        ⟨(some 99), .mov (.t 1), none⟩,
        ⟨(some 100), .mov (.t 2), none⟩,
        ⟨(some 101), .mov (.t 13), none⟩,
        ⟨(some 102), .mov (.t 4), none⟩,
        ⟨(some 103), .call (.f 66) [(.t 98), (.t 99), (.t 100), (.t 101), (.t 102)], none⟩,
        ⟨(some 15), .mov (.t 103), none⟩]) <|
     .seq
     (.region [⟨(some 104), .mov (.t 15), none⟩,
        ⟨(some 1), .mov (.t 104), none⟩]) <|
     .exit 1)
    (.skip)) <|
  .seq
  (.region [⟨(some 106), .mov (.t 0), none⟩,
     ⟨(some 107), .mov (.t 1), none⟩,
     ⟨(some 108), .mov (.t 2), none⟩,
     ⟨(some 109), .mov (.t 13), none⟩,
     ⟨(some 110), .mov (.t 4), none⟩,
     ⟨(some 111), .call (.f 67) [(.t 106), (.t 107), (.t 108), (.t 109), (.t 110)], none⟩,
     ⟨(some 105), .mov (.t 111), none⟩,
     ⟨(some 112), .extract (.t 105) 0, none⟩,
     ⟨(some 113), .extract (.t 105) 1, none⟩,
     ⟨(some 16), .mov (.t 112), none⟩,
     ⟨(some 17), .mov (.t 113), none⟩]) <|
  .seq
  (.region [⟨(some 114), .mov (.t 17), none⟩,
     ⟨(some 11), .mov (.t 114), none⟩]) <|
  .seq
  (.region [⟨(some 115), .mov (.t 16), none⟩,
     ⟨(some 116), .mov (.t 1), none⟩,
     ⟨(some 117), .bin .sub (.t 115) (.t 116), none⟩,
     ⟨(some 118), .mov (.t 2), none⟩,
     ⟨(some 119), .mov (.t 16), none⟩,
     ⟨(some 120), .bin .sub (.t 118) (.t 119), none⟩,
     ⟨(some 18), .mov (.t 117), none⟩,
     ⟨(some 19), .mov (.t 120), none⟩]) <|
  .seq
  (.region [⟨(some 121), .mov (.t 12), none⟩,
     ⟨(some 122), .bin .quo (.t 121) (.c (.int .i64 8)), none⟩,
     ⟨(some 20), .mov (.t 122), none⟩]) <|
  .seq
  (.region [⟨(some 123), .mov (.t 18), none⟩,
     ⟨(some 124), .mov (.t 19), none⟩,
     ⟨(some 125), .bin .lss (.t 123) (.t 124), none⟩]) <|
  .cond (.t 125)
   (.seq
    (.region [⟨(some 126), .mov (.t 18), none⟩,
       ⟨(some 127), .mov (.t 20), none⟩,
       ⟨(some 128), .bin .geq (.t 126) (.t 127), none⟩,
       ⟨(some 10), .mov (.t 128), none⟩]) <|
    .seq
    (.region [⟨(some 129), .mov (.t 0), none⟩,
       ⟨(some 130), .mov (.t 1), none⟩,
       ⟨(some 131), .mov (.t 16), none⟩,
       ⟨(some 132), .mov (.t 3), none⟩,
       ⟨(some 133), .mov (.t 4), none⟩,
       ⟨(some 134), .call (.f 46) [(.t 129), (.t 130), (.t 131), (.t 132), (.t 133)], none⟩]) <|
    .region [⟨(some 135), .mov (.t 16), none⟩,
      ⟨(some 136), .bin .add (.t 135) (.c (.int .i64 1)), none⟩,
      ⟨(some 1), .mov (.t 136), none⟩])
   (.seq
    (.region [⟨(some 137), .mov (.t 19), none⟩,
       ⟨(some 138), .mov (.t 20), none⟩,
       ⟨(some 139), .bin .geq (.t 137) (.t 138), none⟩,
       ⟨(some 10), .mov (.t 139), none⟩]) <|
    .seq
    (.region [⟨(some 140), .mov (.t 0), none⟩,
       ⟨(some 141), .mov (.t 16), none⟩,
       ⟨(some 142), .bin .add (.t 141) (.c (.int .i64 1)), none⟩,
       ⟨(some 143), .mov (.t 2), none⟩,
       ⟨(some 144), .mov (.t 3), none⟩,
       ⟨(some 145), .mov (.t 4), none⟩,
       ⟨(some 146), .call (.f 46) [(.t 140), (.t 142), (.t 143), (.t 144), (.t 145)], none⟩]) <|
    .region [⟨(some 147), .mov (.t 16), none⟩,
      ⟨(some 2), .mov (.t 147), none⟩]), []⟩
theorem c46 : Code1 Try.prog 46 148 b46 := Code1.mk' Try.func46 (by kernel_rfl) (by kernel_rfl) Try.ntmps46

/-- cmp.isNaN[int] -/
def b47 : IFn := ⟨
 .seq
 (.region [⟨(some 2), .mov (.c (.bool false)), none⟩]) <|
 .seq
 (.region [⟨(some 3), .mov (.t 0), none⟩,
    ⟨(some 4), .mov (.t 0), none⟩,
    ⟨(some 5), .bin .neq (.t 3) (.t 4), none⟩,
    ⟨(some 2), .mov (.t 5), none⟩]) <|
 .ret, [.slot 2]⟩
theorem c47 : Code1 Try.prog 47 6 b47 := Code1.mk' Try.func47 (by kernel_rfl) (by kernel_rfl) Try.ntmps47

/-- slices.rotateLeft[fusee/agenda.Meeting] -/
def b48 : IFn := ⟨
 .seq
 (.region [⟨(some 4), .mov (.t 0), none⟩,
    ⟨(some 5), .mov (.t 1), none⟩,
    ⟨(some 6), .slice 4 (.t 4) none (some (.t 5)) none, none⟩,
    ⟨(some 7), .call (.f 68) [(.t 6)], none⟩]) <|
 .seq
 (.region [⟨(some 8), .mov (.t 0), none⟩,
    ⟨(some 9), .mov (.t 1), none⟩,
    ⟨(some 10), .slice 4 (.t 8) (some (.t 9)) none none, none⟩,
    ⟨(some 11), .call (.f 68) [(.t 10)], none⟩]) <|
 .region [⟨(some 12), .mov (.t 0), none⟩,
   ⟨(some 13), .call (.f 68) [(.t 12)], none⟩], []⟩
theorem c48 : Code1 Try.prog 48 14 b48 := Code1.mk' Try.func48 (by kernel_rfl) (by kernel_rfl) Try.ntmps48

/-- slices.insertionSortOrdered[int] -/
def b49 : IFn := ⟨
 .seq
 (.region [⟨(some 8), .mov (.t 1), none⟩,
    ⟨(some 9), .bin .add (.t 8) (.c (.int .i64 1)), none⟩,
    ⟨(some 6), .mov (.t 9), none⟩]) <|
 .block 0 <|
 .loop [0, 1, 2, 6] <|
  .seq
  (.seq
   (.region [⟨(some 10), .mov (.t 6), none⟩,
      ⟨(some 11), .mov (.t 2), none⟩,
      ⟨(some 12), .bin .lss (.t 10) (.t 11), none⟩]) <|
   .cond (.t 12)
    (.skip)
    (.exit 0)) <|
  .seq
  (.block 1 <|
   .seq
   (.region [⟨(some 15), .mov (.t 6), none⟩,
      ⟨(some 7), .mov (.t 15), none⟩]) <|
   .block 2 <|
   .loop [0, 1, 2, 6, 7] <|
    .seq
    (.seq
     (.draw false [0, 1, 2, 6, 7, 30] (
        .op ⟨(some 16), .mov (.t 7), none⟩ <|
        .op ⟨(some 17), .mov (.t 1), none⟩ <|
        .op ⟨(some 18), .bin .gtr (.t 16) (.t 17), none⟩ <|
        .op ⟨(some 19), .mov (.t 18), none⟩ <|
        .op ⟨(some 20), .mov (.t 0), (some (19, true))⟩ <|
        .op ⟨(some 21), .mov (.t 7), (some (19, true))⟩ <|
        .op ⟨(some 22), .iaddr 1 (.t 20) (.t 21), (some (19, true))⟩ <|
        .op ⟨(some 23), .load false 1 (.t 22), (some (19, true))⟩ <|
        .op ⟨(some 24), .mov (.t 0), (some (19, true))⟩ <|
        .op ⟨(some 25), .mov (.t 7), (some (19, true))⟩ <|
        .op ⟨(some 26), .bin .sub (.t 25) (.c (.int .i64 1)), (some (19, true))⟩ <|
        .op ⟨(some 27), .iaddr 1 (.t 24) (.t 26), (some (19, true))⟩ <|
        .op ⟨(some 28), .load false 1 (.t 27), (some (19, true))⟩ <|
        .op ⟨(some 29), .call (.f 55) [(.t 23), (.t 28)], (some (19, true))⟩ <|
        .op ⟨(some 30), .pick (.t 19) (.t 29) (.c (.bool false)), none⟩ <|
        .done)) <|
     .cond (.t 30)
      (.skip)
      (.exit 2)) <|
    .seq
    (.block 3 <|
     .draw false [0, 1, 2, 6, 7] (
       .op ⟨(some 33), .mov (.t 0), none⟩ <|
       .op ⟨(some 34), .mov (.t 7), none⟩ <|
       .op ⟨(some 35), .mov (.t 0), none⟩ <|
       .op ⟨(some 36), .mov (.t 7), none⟩ <|
       .op ⟨(some 37), .bin .sub (.t 36) (.c (.int .i64 1)), none⟩ <|
       .op ⟨(some 38), .mov (.t 0), none⟩ <|
       .op ⟨(some 39), .mov (.t 7), none⟩ <|
       .op ⟨(some 40), .bin .sub (.t 39) (.c (.int .i64 1)), none⟩ <|
       .op ⟨(some 41), .iaddr 1 (.t 38) (.t 40), none⟩ <|
       .op ⟨(some 42), .load false 1 (.t 41), none⟩ <|
       .op ⟨(some 43), .mov (.t 0), none⟩ <|
       .op ⟨(some 44), .mov (.t 7), none⟩ <|
       .op ⟨(some 45), .iaddr 1 (.t 43) (.t 44), none⟩ <|
       .op ⟨(some 46), .load false 1 (.t 45), none⟩ <|
       .op ⟨(some 47), .iaddr 1 (.t 33) (.t 34), none⟩ <|
       .op ⟨none, .store 1 (.t 47) (.t 42), none⟩ <|
       .op ⟨(some 48), .iaddr 1 (.t 35) (.t 37), none⟩ <|
       .op ⟨none, .store 1 (.t 48) (.t 46), none⟩ <|
       .done)) <|
    .region [⟨(some 31), .mov (.t 7), none⟩,
      ⟨(some 32), .bin .sub (.t 31) (.c (.int .i64 1)), none⟩,
      ⟨(some 7), .mov (.t 32), none⟩]) <|
  .region [⟨(some 13), .mov (.t 6), none⟩,
    ⟨(some 14), .bin .add (.t 13) (.c (.int .i64 1)), none⟩,
    ⟨(some 6), .mov (.t 14), none⟩], []⟩
theorem c49 : Code1 Try.prog 49 49 b49 := Code1.mk' Try.func49 (by kernel_rfl) (by kernel_rfl) Try.ntmps49

/-- slices.heapSortOrdered[int] -/
def b50 : IFn := ⟨
 .seq
 (.region [⟨(some 11), .mov (.t 1), none⟩,
    ⟨(some 6), .mov (.t 11), none⟩]) <|
 .seq
 (.region [⟨(some 7), .mov (.c (.int .i64 0)), none⟩]) <|
 .seq
 (.region [⟨(some 12), .mov (.t 2), none⟩,
    ⟨(some 13), .mov (.t 1), none⟩,
    ⟨(some 14), .bin .sub (.t 12) (.t 13), none⟩,
    ⟨(some 8), .mov (.t 14), none⟩]) <|
 .seq
 (.seq
  (.region [⟨(some 15), .mov (.t 8), none⟩,
     ⟨(some 16), .bin .sub (.t 15) (.c (.int .i64 1)), none⟩,
     ⟨(some 17), .bin .quo (.t 16) (.c (.int .i64 2)), none⟩,
     ⟨(some 9), .mov (.t 17), none⟩]) <|
  .block 0 <|
  .loop [0, 6, 7, 8, 9] <|
   .seq
   (.seq
    (.region [⟨(some 18), .mov (.t 9), none⟩,
       ⟨(some 19), .bin .geq (.t 18) (.c (.int .i64 0)), none⟩]) <|
    .cond (.t 19)
     (.skip)
     (.exit 0)) <|
   .seq
   (.block 1 <|
    .region [⟨(some 22), .mov (.t 0), none⟩,
      ⟨(some 23), .mov (.t 9), none⟩,
      ⟨(some 24), .mov (.t 8), none⟩,
      ⟨(some 25), .mov (.t 6), none⟩,
      ⟨(some 26), .call (.f 69) [(.t 22), (.t 23), (.t 24), (.t 25)], none⟩]) <|
   .region [⟨(some 20), .mov (.t 9), none⟩,
     ⟨(some 21), .bin .sub (.t 20) (.c (.int .i64 1)), none⟩,
     ⟨(some 9), .mov (.t 21), none⟩]) <|
 .seq
 (.region [⟨(some 27), .mov (.t 8), none⟩,
    ⟨(some 28), .bin .sub (.t 27) (.c (.int .i64 1)), none⟩,
    ⟨(some 10), .mov (.t 28), none⟩]) <|
 .block 2 <|
 .loop [0, 6, 7, 10] <|
  .seq
  (.seq
   (.region [⟨(some 29), .mov (.t 10), none⟩,
      ⟨(some 30), .bin .geq (.t 29) (.c (.int .i64 0)), none⟩]) <|
   .cond (.t 30)
    (.skip)
    (.exit 2)) <|
  .seq
  (.block 3 <|
   .seq
   (.draw false [0, 6, 7, 10] (
      .op ⟨(some 33), .mov (.t 0), none⟩ <|
      .op ⟨(some 34), .mov (.t 6), none⟩ <|
      .op ⟨(some 35), .mov (.t 0), none⟩ <|
      .op ⟨(some 36), .mov (.t 6), none⟩ <|
      .op ⟨(some 37), .mov (.t 10), none⟩ <|
      .op ⟨(some 38), .bin .add (.t 36) (.t 37), none⟩ <|
      .op ⟨(some 39), .mov (.t 0), none⟩ <|
      .op ⟨(some 40), .mov (.t 6), none⟩ <|
      .op ⟨(some 41), .mov (.t 10), none⟩ <|
      .op ⟨(some 42), .bin .add (.t 40) (.t 41), none⟩ <|
      .op ⟨(some 43), .iaddr 1 (.t 39) (.t 42), none⟩ <|
      .op ⟨(some 44), .load false 1 (.t 43), none⟩ <|
      .op ⟨(some 45), .mov (.t 0), none⟩ <|
      .op ⟨(some 46), .mov (.t 6), none⟩ <|
      .op ⟨(some 47), .iaddr 1 (.t 45) (.t 46), none⟩ <|
      .op ⟨(some 48), .load false 1 (.t 47), none⟩ <|
      .op ⟨(some 49), .iaddr 1 (.t 33) (.t 34), none⟩ <|
      .op ⟨none, .store 1 (.t 49) (.t 44), none⟩ <|
      .op ⟨(some 50), .iaddr 1 (.t 35) (.t 38), none⟩ <|
      .op ⟨none, .store 1 (.t 50) (.t 48), none⟩ <|
      .done)) <|
   .region [⟨(some 51), .mov (.t 0), none⟩,
     ⟨(some 52), .mov (.t 7), none⟩,
     ⟨(some 53), .mov (.t 10), none⟩,
     ⟨(some 54), .mov (.t 6), none⟩,
     ⟨(some 55), .call (.f 69) [(.t 51), (.t 52), (.t 53), (.t 54)], none⟩]) <|
  .region [⟨(some 31), .mov (.t 10), none⟩,
    ⟨(some 32), .bin .sub (.t 31) (.c (.int .i64 1)), none⟩,
    ⟨(some 10), .mov (.t 32), none⟩], []⟩
theorem c50 : Code1 Try.prog 50 56 b50 := Code1.mk' Try.func50 (by kernel_rfl) (by kernel_rfl) Try.ntmps50

/-- slices.breakPatternsOrdered[int] -/
def b51 : IFn := ⟨
 .seq
 (.region [⟨(some 11), .mov (.t 2), none⟩,
    ⟨(some 12), .mov (.t 1), none⟩,
    ⟨(some 13), .bin .sub (.t 11) (.t 12), none⟩,
    ⟨(some 6), .mov (.t 13), none⟩]) <|
 .seq
 (.region [⟨(some 14), .mov (.t 6), none⟩,
    ⟨(some 15), .bin .geq (.t 14) (.c (.int .i64 8)), none⟩]) <|
 .cond (.t 15)
  (.seq
   (.region [⟨(some 16), .mov (.t 6), none⟩,
      ⟨(some 17), .conv .u64 (.t 16), none⟩,
      ⟨(some 7), .alloc [(.int .u64 0)], none⟩,
      ⟨none, .store 1 (.t 7) (.t 17), none⟩]) <|
   .seq
   (.region [⟨(some 18), .mov (.t 6), none⟩,
      ⟨(some 19), .call (.f 70) [(.t 18)], none⟩,
      ⟨(some 8), .mov (.t 19), none⟩]) <|
   .seq
   (.region [⟨(some 20), .mov (.t 1), none⟩,
      ⟨(some 21), .mov (.t 6), none⟩,
      ⟨(some 22), .bin .quo (.t 21) (.c (.int .i64 4)), none⟩,
      ⟨(some 23), .bin .mul (.t 22) (.c (.int .i64 2)), none⟩,
      ⟨(some 24), .bin .add (.t 20) (.t 23), none⟩,
      ⟨(some 25), .bin .sub (.t 24) (.c (.int .i64 1)), none⟩,
      ⟨(some 9), .mov (.t 25), none⟩]) <|
   .block 0 <|
   .loop [0, 1, 6, 7, 8, 9] <|
    .seq
    (.seq
     (.region [⟨(some 26), .mov (.t 9), none⟩,
        ⟨(some 27), .mov (.t 1), none⟩,
        ⟨(some 28), .mov (.t 6), none⟩,
        ⟨(some 29), .bin .quo (.t 28) (.c (.int .i64 4)), none⟩,
        ⟨(some 30), .bin .mul (.t 29) (.c (.int .i64 2)), none⟩,
        ⟨(some 31), .bin .add (.t 27) (.t 30), none⟩,
        ⟨(some 32), .bin .add (.t 31) (.c (.int .i64 1)), none⟩,
        ⟨(some 33), .bin .leq (.t 26) (.t 32), none⟩]) <|
     .cond (.t 33)
      (.skip)
      (.exit 0)) <|
    .seq
    (.block 1 <|
     .seq
     (.region [⟨(some 36), .call (.f 71) [(.t 7)], none⟩,
        ⟨(some 37), .mov (.t 8), none⟩,
        ⟨(some 38), .bin .sub (.t 37) (.c (.int .u64 1)), none⟩,
        ⟨(some 39), .bin .and (.t 36) (.t 38), none⟩,
        ⟨(some 40), .conv .i64 (.t 39), none⟩,
        ⟨(some 10), .mov (.t 40), none⟩]) <|
     .seq
     (.seq
      (.region [⟨(some 41), .mov (.t 10), none⟩,
         ⟨(some 42), .mov (.t 6), none⟩,
         ⟨(some 43), .bin .geq (.t 41) (.t 42), none⟩]) <|
      .cond (.t 43)
       (.region [⟨(some 44), .mov (.t 10), none⟩,
          ⟨(some 45), .mov (.t 6), none⟩,
          ⟨(some 46), .bin .sub (.t 44) (.t 45), none⟩,
          ⟨(some 10), .mov (.t 46), none⟩])
       (.skip)) <|
     .draw false [0, 1, 6, 7, 8, 9] (
       .op ⟨(some 47), .mov (.t 0), none⟩ <|
       .op ⟨(some 48), .mov (.t 9), none⟩ <|
       .op ⟨(some 49), .mov (.t 0), none⟩ <|
       .op ⟨(some 50), .mov (.t 1), none⟩ <|
       .op ⟨(some 51), .mov (.t 10), none⟩ <|
       .op ⟨(some 52), .bin .add (.t 50) (.t 51), none⟩ <|
       .op ⟨(some 53), .mov (.t 0), none⟩ <|
       .op ⟨(some 54), .mov (.t 1), none⟩ <|
       .op ⟨(some 55), .mov (.t 10), none⟩ <|
       .op ⟨(some 56), .bin .add (.t 54) (.t 55), none⟩ <|
       .op ⟨(some 57), .iaddr 1 (.t 53) (.t 56), none⟩ <|
       .op ⟨(some 58), .load false 1 (.t 57), none⟩ <|
       .op ⟨(some 59), .mov (.t 0), none⟩ <|
       .op ⟨(some 60), .mov (.t 9), none⟩ <|
       .op ⟨(some 61), .iaddr 1 (.t 59) (.t 60), none⟩ <|
       .op ⟨(some 62), .load false 1 (.t 61), none⟩ <|
       .op ⟨(some 63), .iaddr 1 (.t 47) (.t 48), none⟩ <|
       .op ⟨none, .store 1 (.t 63) (.t 58), none⟩ <|
       .op ⟨(some 64), .iaddr 1 (.t 49) (.t 52), none⟩ <|
       .op ⟨none, .store 1 (.t 64) (.t 62), none⟩ <|
       .done)) <|
    .region [⟨(some 34), .mov (.t 9), none⟩,
      ⟨(some 35), .bin .add (.t 34) (.c (.int .i64 1)), none⟩,
      ⟨(some 9), .mov (.t 35), none⟩])
  (.skip), []⟩
theorem c51 : Code1 Try.prog 51 65 b51 := Code1.mk' Try.func51 (by kernel_rfl) (by kernel_rfl) Try.ntmps51

/-- slices.choosePivotOrdered[int] -/
def b52 : IFn := ⟨
 .seq
 (.region [⟨(some 6), .mov (.c (.int .i64 0)), none⟩,
    ⟨(some 7), .mov (.c (.int .i64 0)), none⟩]) <|
 .seq
 (.region [⟨(some 13), .mov (.t 2), none⟩,
    ⟨(some 14), .mov (.t 1), none⟩,
    ⟨(some 15), .bin .sub (.t 13) (.t 14), none⟩,
    ⟨(some 8), .mov (.t 15), none⟩]) <|
 .seq
 (.region [⟨(some 9), .alloc [(.int .i64 0)], none⟩]) <|
 .seq
 (.region [⟨(some 16), .mov (.t 1), none⟩,
    ⟨(some 17), .mov (.t 8), none⟩,
    ⟨(some 18), .bin .quo (.t 17) (.c (.int .i64 4)), none⟩,
    ⟨(some 19), .bin .mul (.t 18) (.c (.int .i64 1)), none⟩,
    ⟨(some 20), .bin .add (.t 16) (.t 19), none⟩,
    ⟨(some 10), .mov (.t 20), none⟩]) <|
 .seq
 (.region [⟨(some 21), .mov (.t 1), none⟩,
    ⟨(some 22), .mov (.t 8), none⟩,
    ⟨(some 23), .bin .quo (.t 22) (.c (.int .i64 4)), none⟩,
    ⟨(some 24), .bin .mul (.t 23) (.c (.int .i64 2)), none⟩,
    ⟨(some 25), .bin .add (.t 21) (.t 24), none⟩,
    ⟨(some 11), .mov (.t 25), none⟩]) <|
 .seq
 (.region [⟨(some 26), .mov (.t 1), none⟩,
    ⟨(some 27), .mov (.t 8), none⟩,
    ⟨(some 28), .bin .quo (.t 27) (.c (.int .i64 4)), none⟩,
    ⟨(some 29), .bin .mul (.t 28) (.c (.int .i64 3)), none⟩,
    ⟨(some 30), .bin .add (.t 26) (.t 29), none⟩,
    ⟨(some 12), .mov (.t 30), none⟩]) <|
 .seq
 (.seq
  (.region [⟨(some 31), .mov (.t 8), none⟩,
     ⟨(some 32), .bin .geq (.t 31) (.c (.int .i64 8)), none⟩]) <|
  .cond (.t 32)
   (.seq
    (.seq
     (.region [⟨(some 33), .mov (.t 8), none⟩,
        ⟨(some 34), .bin .geq (.t 33) (.c (.int .i64 50)), none⟩]) <|
     .cond (.t 34)
      (.seq
       (.region [⟨(some 35), .mov (.t 0), none⟩,
          ⟨(some 36), .mov (.t 10), none⟩,
          ⟨(some 37), .call (.f 72) [(.t 35), (.t 36), (.t 9)], none⟩,
          ⟨(some 10), .mov (.t 37), none⟩]) <|
       .seq
       (.region [⟨(some 38), .mov (.t 0), none⟩,
          ⟨(some 39), .mov (.t 11), none⟩,
          ⟨(some 40), .call (.f 72) [(.t 38), (.t 39), (.t 9)], none⟩,
          ⟨(some 11), .mov (.t 40), none⟩]) <|
       .region [⟨(some 41), .mov (.t 0), none⟩,
         ⟨(some 42), .mov (.t 12), none⟩,
         ⟨(some 43), .call (.f 72) [(.t 41), (.t 42), (.t 9)], none⟩,
         ⟨(some 12), .mov (.t 43), none⟩])
      (.skip)) <|
    .region [⟨(some 44), .mov (.t 0), none⟩,
      ⟨(some 45), .mov (.t 10), none⟩,
      ⟨(some 46), .mov (.t 11), none⟩,
      ⟨(some 47), .mov (.t 12), none⟩,
      ⟨(some 48), .call (.f 73) [(.t 44), (.t 45), (.t 46), (.t 47), (.t 9)], none⟩,
      ⟨(some 11), .mov (.t 48), none⟩])
   (.skip)) <|
 .seq
 (.region [⟨(some 49), .load false 1 (.t 9), none⟩]) <|
 .block 0 <|
 .seq
 (.region [⟨(some 52), .bin .eql (.t 49) (.c (.int .i64 0)), none⟩,
    ⟨(some 51), .mov (.t 52), none⟩]) <|
 .cond (.t 51)
  (.seq
   (.region [⟨(some 53), .mov (.t 11), none⟩,
      ⟨(some 6), .mov (.t 53), none⟩,
      ⟨(some 7), .mov (.c (.int .i64 1)), none⟩]) <|
   .ret)
  (.seq
   (.region [⟨(some 55), .bin .eql (.t 49) (.c (.int .i64 12)), none⟩,
      ⟨(some 54), .mov (.t 55), none⟩]) <|
   .cond (.t 54)
    (.seq
     (.region [⟨(some 56), .mov (.t 11), none⟩,
        ⟨(some 6), .mov (.t 56), none⟩,
        ⟨(some 7), .mov (.c (.int .i64 2)), none⟩]) <|
     .ret)
    (.seq
     (.region [⟨(some 50), .mov (.t 11), none⟩,
        ⟨(some 6), .mov (.t 50), none⟩,
        ⟨(some 7), .mov (.c (.int .i64 0)), none⟩]) <|
     .ret)), [.slot 6, .slot 7]⟩
theorem c52 : Code1 Try.prog 52 57 b52 := Code1.mk' Try.func52 (by kernel_rfl) (by kernel_rfl) Try.ntmps52

/-- slices.reverseRangeOrdered[int] -/
def b53 : IFn := ⟨
 .seq
 (.region [⟨(some 8), .mov (.t 1), none⟩,
    ⟨(some 6), .mov (.t 8), none⟩]) <|
 .seq
 (.region [⟨(some 9), .mov (.t 2), none⟩,
    ⟨(some 10), .bin .sub (.t 9) (.c (.int .i64 1)), none⟩,
    ⟨(some 7), .mov (.t 10), none⟩]) <|
 .block 0 <|
 .loop [0, 6, 7] <|
  .seq
  (.seq
   (.region [⟨(some 11), .mov (.t 6), none⟩,
      ⟨(some 12), .mov (.t 7), none⟩,
      ⟨(some 13), .bin .lss (.t 11) (.t 12), none⟩]) <|
   .cond (.t 13)
    (.skip)
    (.exit 0)) <|
  .block 1 <|
  .seq
  (.draw false [0, 6, 7] (
     .op ⟨(some 14), .mov (.t 0), none⟩ <|
     .op ⟨(some 15), .mov (.t 6), none⟩ <|
     .op ⟨(some 16), .mov (.t 0), none⟩ <|
     .op ⟨(some 17), .mov (.t 7), none⟩ <|
     .op ⟨(some 18), .mov (.t 0), none⟩ <|
     .op ⟨(some 19), .mov (.t 7), none⟩ <|
     .op ⟨(some 20), .iaddr 1 (.t 18) (.t 19), none⟩ <|
     .op ⟨(some 21), .load false 1 (.t 20), none⟩ <|
     .op ⟨(some 22), .mov (.t 0), none⟩ <|
     .op ⟨(some 23), .mov (.t 6), none⟩ <|
     .op ⟨(some 24), .iaddr 1 (.t 22) (.t 23), none⟩ <|
     .op ⟨(some 25), .load false 1 (.t 24), none⟩ <|
     .op ⟨(some 26), .iaddr 1 (.t 14) (.t 15), none⟩ <|
     .op ⟨none, .store 1 (.t 26) (.t 21), none⟩ <|
     .op ⟨(some 27), .iaddr 1 (.t 16) (.t 17), none⟩ <|
     .op ⟨none, .store 1 (.t 27) (.t 25), none⟩ <|
     .done)) <|
  .seq
  (.region [⟨(some 28), .mov (.t 6), none⟩,
     ⟨(some 29), .bin .add (.t 28) (.c (.int .i64 1)), none⟩,
     ⟨(some 6), .mov (.t 29), none⟩]) <|
  .region [⟨(some 30), .mov (.t 7), none⟩,
    ⟨(some 31), .bin .sub (.t 30) (.c (.int .i64 1)), none⟩,
    ⟨(some 7), .mov (.t 31), none⟩], []⟩
theorem c53 : Code1 Try.prog 53 32 b53 := Code1.mk' Try.func53 (by kernel_rfl) (by kernel_rfl) Try.ntmps53

/-- slices.partialInsertionSortOrdered[int] -/
def b54 : IFn := ⟨
 .seq
 (.region [⟨(some 6), .mov (.c (.bool false)), none⟩]) <|
 .seq
 (.region [⟨(some 11), .mov (.t 1), none⟩,
    ⟨(some 12), .bin .add (.t 11) (.c (.int .i64 1)), none⟩,
    ⟨(some 7), .mov (.t 12), none⟩]) <|
 .seq
 (.seq
  (.region [⟨(some 8), .mov (.c (.int .i64 0)), none⟩]) <|
  .block 0 <|
  .loop [0, 1, 2, 7, 8] <|
   .seq
   (.seq
    (.region [⟨(some 13), .mov (.t 8), none⟩,
       ⟨(some 14), .bin .lss (.t 13) (.c (.int .i64 5)), none⟩]) <|
    .cond (.t 14)
     (.skip)
     (.exit 0)) <|
   .seq
   (.block 1 <|
    .seq
    (.block 2 <|
     .loop [0, 1, 2, 7, 8] <|
      .seq
      (.seq
       (.draw false [0, 1, 2, 7, 8, 32] (
          .op ⟨(some 17), .mov (.t 7), none⟩ <|
          .op ⟨(some 18), .mov (.t 2), none⟩ <|
          .op ⟨(some 19), .bin .lss (.t 17) (.t 18), none⟩ <|
          .op ⟨(some 20), .mov (.t 19), none⟩ <|
          .op ⟨(some 21), .mov (.t 0), (some (20, true))⟩ <|
          .op ⟨(some 22), .mov (.t 7), (some (20, true))⟩ <|
          .op ⟨(some 23), .iaddr 1 (.t 21) (.t 22), (some (20, true))⟩ <|
          .op ⟨(some 24), .load false 1 (.t 23), (some (20, true))⟩ <|
          .op ⟨(some 25), .mov (.t 0), (some (20, true))⟩ <|
          .op ⟨(some 26), .mov (.t 7), (some (20, true))⟩ <|
          .op ⟨(some 27), .bin .sub (.t 26) (.c (.int .i64 1)), (some (20, true))⟩ <|
          .op ⟨(some 28), .iaddr 1 (.t 25) (.t 27), (some (20, true))⟩ <|
          .op ⟨(some 29), .load false 1 (.t 28), (some (20, true))⟩ <|
          .op ⟨(some 30), .call (.f 55) [(.t 24), (.t 29)], (some (20, true))⟩ <|
          .op ⟨(some 31), .un .not (.t 30), (some (20, true))⟩ <|
          .op ⟨(some 32), .pick (.t 20) (.t 31) (.c (.bool false)), none⟩ <|
          .done)) <|
       .cond (.t 32)
        (.skip)
        (.exit 2)) <|
      .block 3 <|
      .region [⟨(some 33), .mov (.t 7), none⟩,
        ⟨(some 34), .bin .add (.t 33) (.c (.int .i64 1)), none⟩,
        ⟨(some 7), .mov (.t 34), none⟩]) <|
    .seq
    (.seq
     (.region [⟨(some 35), .mov (.t 7), none⟩,
        ⟨(some 36), .mov (.t 2), none⟩,
        ⟨(some 37), .bin .eql (.t 35) (.t 36), none⟩]) <|
     .cond (.t 37)
      (.seq
       (.region [⟨(some 6), .mov (.c (.bool true)), none⟩]) <|
       .ret)
      (.skip)) <|
    .seq
    (.seq
     (.region [⟨(some 38), .mov (.t 2), none⟩,
        ⟨(some 39), .mov (.t 1), none⟩,
        ⟨(some 40), .bin .sub (.t 38) (.t 39), none⟩,
        ⟨(some 41), .bin .lss (.t 40) (.c (.int .i64 50)), none⟩]) <|
     .cond (.t 41)
      (.seq
       (.region [⟨(some 6), .mov (.c (.bool false)), none⟩]) <|
       .ret)
      (.skip)) <|
    .seq
    (.draw false [0, 1, 2, 7, 8] (
       .op ⟨(some 42), .mov (.t 0), none⟩ <|
       .op ⟨(some 43), .mov (.t 7), none⟩ <|
       .op ⟨(some 44), .mov (.t 0), none⟩ <|
       .op ⟨(some 45), .mov (.t 7), none⟩ <|
       .op ⟨(some 46), .bin .sub (.t 45) (.c (.int .i64 1)), none⟩ <|
       .op ⟨(some 47), .mov (.t 0), none⟩ <|
       .op ⟨(some 48), .mov (.t 7), none⟩ <|
       .op ⟨(some 49), .bin .sub (.t 48) (.c (.int .i64 1)), none⟩ <|
       .op ⟨(some 50), .iaddr 1 (.t 47) (.t 49), none⟩ <|
       .op ⟨(some 51), .load false 1 (.t 50), none⟩ <|
       .op ⟨(some 52), .mov (.t 0), none⟩ <|
       .op ⟨(some 53), .mov (.t 7), none⟩ <|
       .op ⟨(some 54), .iaddr 1 (.t 52) (.t 53), none⟩ <|
       .op ⟨(some 55), .load false 1 (.t 54), none⟩ <|
       .op ⟨(some 56), .iaddr 1 (.t 42) (.t 43), none⟩ <|
       .op ⟨none, .store 1 (.t 56) (.t 51), none⟩ <|
       .op ⟨(some 57), .iaddr 1 (.t 44) (.t 46), none⟩ <|
       .op ⟨none, .store 1 (.t 57) (.t 55), none⟩ <|
       .done)) <|
    .seq
    (.seq
     (.region [⟨(some 58), .mov (.t 7), none⟩,
        ⟨(some 59), .mov (.t 1), none⟩,
        ⟨(some 60), .bin .sub (.t 58) (.t 59), none⟩,
        ⟨(some 61), .bin .geq (.t 60) (.c (.int .i64 2)), none⟩]) <|
     .cond (.t 61)
      (.seq
       (.region [⟨(some 62), .mov (.t 7), none⟩,
          ⟨(some 63), .bin .sub (.t 62) (.c (.int .i64 1)), none⟩,
          ⟨(some 9), .mov (.t 63), none⟩]) <|
       .block 4 <|
       .loop [0, 1, 2, 7, 8, 9] <|
        .seq
        (.seq
         (.region [⟨(some 64), .mov (.t 9), none⟩,
            ⟨(some 65), .bin .geq (.t 64) (.c (.int .i64 1)), none⟩]) <|
         .cond (.t 65)
          (.skip)
          (.exit 4)) <|
        .seq
        (.block 5 <|
         .seq
         (.seq
          (.draw false [0, 1, 2, 7, 8, 9, 78] (
             .op ⟨(some 68), .mov (.t 0), none⟩ <|
             .op ⟨(some 69), .mov (.t 9), none⟩ <|
             .op ⟨(some 70), .iaddr 1 (.t 68) (.t 69), none⟩ <|
             .op ⟨(some 71), .load false 1 (.t 70), none⟩ <|
             .op ⟨(some 72), .mov (.t 0), none⟩ <|
             .op ⟨(some 73), .mov (.t 9), none⟩ <|
             .op ⟨(some 74), .bin .sub (.t 73) (.c (.int .i64 1)), none⟩ <|
             .op ⟨(some 75), .iaddr 1 (.t 72) (.t 74), none⟩ <|
             .op ⟨(some 76), .load false 1 (.t 75), none⟩ <|
             .op ⟨(some 77), .call (.f 55) [(.t 71), (.t 76)], none⟩ <|
             .op ⟨(some 78), .un .not (.t 77), none⟩ <|
             .done)) <|
          .cond (.t 78)
           (.exit 4)
           (.skip)) <|
         .draw false [0, 1, 2, 7, 8, 9] (
           .op ⟨(some 79), .mov (.t 0), none⟩ <|
           .op ⟨(some 80), .mov (.t 9), none⟩ <|
           .op ⟨(some 81), .mov (.t 0), none⟩ <|
           .op ⟨(some 82), .mov (.t 9), none⟩ <|
           .op ⟨(some 83), .bin .sub (.t 82) (.c (.int .i64 1)), none⟩ <|
           .op ⟨(some 84), .mov (.t 0), none⟩ <|
           .op ⟨(some 85), .mov (.t 9), none⟩ <|
           .op ⟨(some 86), .bin .sub (.t 85) (.c (.int .i64 1)), none⟩ <|
           .op ⟨(some 87), .iaddr 1 (.t 84) (.t 86), none⟩ <|
           .op ⟨(some 88), .load false 1 (.t 87), none⟩ <|
           .op ⟨(some 89), .mov (.t 0), none⟩ <|
           .op ⟨(some 90), .mov (.t 9), none⟩ <|
           .op ⟨(some 91), .iaddr 1 (.t 89) (.t 90), none⟩ <|
           .op ⟨(some 92), .load false 1 (.t 91), none⟩ <|
           .op ⟨(some 93), .iaddr 1 (.t 79) (.t 80), none⟩ <|
           .op ⟨none, .store 1 (.t 93) (.t 88), none⟩ <|
           .op ⟨(some 94), .iaddr 1 (.t 81) (.t 83), none⟩ <|
           .op ⟨none, .store 1 (.t 94) (.t 92), none⟩ <|
           .done)) <|
        .region [⟨(some 66), .mov (.t 9), none⟩,
          ⟨(some 67), .bin .sub (.t 66) (.c (.int .i64 1)), none⟩,
          ⟨(some 9), .mov (.t 67), none⟩])
      (.skip)) <|
    .seq
    (.region [⟨(some 95), .mov (.t 2), none⟩,
       ⟨(some 96), .mov (.t 7), none⟩,
       ⟨(some 97), .bin .sub (.t 95) (.t 96), none⟩,
       ⟨(some 98), .bin .geq (.t 97) (.c (.int .i64 2)), none⟩]) <|
    .cond (.t 98)
     (.seq
      (.region [⟨(some 99), .mov (.t 7), none⟩,
         ⟨(some 100), .bin .add (.t 99) (.c (.int .i64 1)), none⟩,
         ⟨(some 10), .mov (.t 100), none⟩]) <|
      .block 6 <|
      .loop [0, 1, 2, 7, 8, 10] <|
       .seq
       (.seq
        (.region [⟨(some 101), .mov (.t 10), none⟩,
           ⟨(some 102), .mov (.t 2), none⟩,
           ⟨(some 103), .bin .lss (.t 101) (.t 102), none⟩]) <|
        .cond (.t 103)
         (.skip)
         (.exit 6)) <|
       .seq
       (.block 7 <|
        .seq
        (.seq
         (.draw false [0, 1, 2, 7, 8, 10, 116] (
            .op ⟨(some 106), .mov (.t 0), none⟩ <|
            .op ⟨(some 107), .mov (.t 10), none⟩ <|
            .op ⟨(some 108), .iaddr 1 (.t 106) (.t 107), none⟩ <|
            .op ⟨(some 109), .load false 1 (.t 108), none⟩ <|
            .op ⟨(some 110), .mov (.t 0), none⟩ <|
            .op ⟨(some 111), .mov (.t 10), none⟩ <|
            .op ⟨(some 112), .bin .sub (.t 111) (.c (.int .i64 1)), none⟩ <|
            .op ⟨(some 113), .iaddr 1 (.t 110) (.t 112), none⟩ <|
            .op ⟨(some 114), .load false 1 (.t 113), none⟩ <|
            .op ⟨(some 115), .call (.f 55) [(.t 109), (.t 114)], none⟩ <|
            .op ⟨(some 116), .un .not (.t 115), none⟩ <|
            .done)) <|
         .cond (.t 116)
          (.exit 6)
          (.skip)) <|
        .draw false [0, 1, 2, 7, 8, 10] (
          .op ⟨(some 117), .mov (.t 0), none⟩ <|
          .op ⟨(some 118), .mov (.t 10), none⟩ <|
          .op ⟨(some 119), .mov (.t 0), none⟩ <|
          .op ⟨(some 120), .mov (.t 10), none⟩ <|
          .op ⟨(some 121), .bin .sub (.t 120) (.c (.int .i64 1)), none⟩ <|
          .op ⟨(some 122), .mov (.t 0), none⟩ <|
          .op ⟨(some 123), .mov (.t 10), none⟩ <|
          .op ⟨(some 124), .bin .sub (.t 123) (.c (.int .i64 1)), none⟩ <|
          .op ⟨(some 125), .iaddr 1 (.t 122) (.t 124), none⟩ <|
          .op ⟨(some 126), .load false 1 (.t 125), none⟩ <|
          .op ⟨(some 127), .mov (.t 0), none⟩ <|
          .op ⟨(some 128), .mov (.t 10), none⟩ <|
          .op ⟨(some 129), .iaddr 1 (.t 127) (.t 128), none⟩ <|
          .op ⟨(some 130), .load false 1 (.t 129), none⟩ <|
          .op ⟨(some 131), .iaddr 1 (.t 117) (.t 118), none⟩ <|
          .op ⟨none, .store 1 (.t 131) (.t 126), none⟩ <|
          .op ⟨(some 132), .iaddr 1 (.t 119) (.t 121), none⟩ <|
          .op ⟨none, .store 1 (.t 132) (.t 130), none⟩ <|
          .done)) <|
       .region [⟨(some 104), .mov (.t 10), none⟩,
         ⟨(some 105), .bin .add (.t 104) (.c (.int .i64 1)), none⟩,
         ⟨(some 10), .mov (.t 105), none⟩])
     (.skip)) <|
   .region [⟨(some 15), .mov (.t 8), none⟩,
     ⟨(some 16), .bin .add (.t 15) (.c (.int .i64 1)), none⟩,
     ⟨(some 8), .mov (.t 16), none⟩]) <|
 .seq
 (.region [⟨(some 6), .mov (.c (.bool false)), none⟩]) <|
 .ret, [.slot 6]⟩
theorem c54 : Code1 Try.prog 54 133 b54 := Code1.mk' Try.func54 (by kernel_rfl) (by kernel_rfl) Try.ntmps54

/-- cmp.Less[int] -/
def b55 : IFn := ⟨
 .seq
 (.region [⟨(some 4), .mov (.c (.bool false)), none⟩]) <|
 .seq
 (.region [⟨(some 5), .mov (.t 0), none⟩,
    ⟨(some 6), .call (.f 47) [(.t 5)], none⟩,
    ⟨(some 7), .mov (.t 6), none⟩,
    ⟨(some 8), .mov (.t 1), (some (7, true))⟩,
    ⟨(some 9), .call (.f 47) [(.t 8)], (some (7, true))⟩,
    ⟨(some 10), .un .not (.t 9), (some (7, true))⟩,
    ⟨(some 11), .pick (.t 7) (.t 10) (.c (.bool false)), none⟩,
    ⟨(some 12), .mov (.t 11), none⟩,
    ⟨(some 13), .mov (.t 0), (some (12, false))⟩,
    ⟨(some 14), .mov (.t 1), (some (12, false))⟩,
    ⟨(some 15), .bin .lss (.t 13) (.t 14), (some (12, false))⟩,
    ⟨(some 16), .pick (.t 12) (.c (.bool true)) (.t 15), none⟩,
    ⟨(some 4), .mov (.t 16), none⟩]) <|
 .ret, [.slot 4]⟩
theorem c55 : Code1 Try.prog 55 17 b55 := Code1.mk' Try.func55 (by kernel_rfl) (by kernel_rfl) Try.ntmps55

/-- slices.partitionEqualOrdered[int] -/
def b56 : IFn := ⟨
 .seq
 (.region [⟨(some 8), .mov (.c (.int .i64 0)), none⟩]) <|
 .seq
 (.draw false [0, 1, 2] (
    .op ⟨(some 11), .mov (.t 0), none⟩ <|
    .op ⟨(some 12), .mov (.t 1), none⟩ <|
    .op ⟨(some 13), .mov (.t 0), none⟩ <|
    .op ⟨(some 14), .mov (.t 3), none⟩ <|
    .op ⟨(some 15), .mov (.t 0), none⟩ <|
    .op ⟨(some 16), .mov (.t 3), none⟩ <|
    .op ⟨(some 17), .iaddr 1 (.t 15) (.t 16), none⟩ <|
    .op ⟨(some 18), .load false 1 (.t 17), none⟩ <|
    .op ⟨(some 19), .mov (.t 0), none⟩ <|
    .op ⟨(some 20), .mov (.t 1), none⟩ <|
    .op ⟨(some 21), .iaddr 1 (.t 19) (.t 20), none⟩ <|
    .op ⟨(some 22), .load false 1 (.t 21), none⟩ <|
    .op ⟨(some 23), .iaddr 1 (.t 11) (.t 12), none⟩ <|
    .op ⟨none, .store 1 (.t 23) (.t 18), none⟩ <|
    .op ⟨(some 24), .iaddr 1 (.t 13) (.t 14), none⟩ <|
    .op ⟨none, .store 1 (.t 24) (.t 22), none⟩ <|
    .done)) <|
 .seq
 (.region [⟨(some 25), .mov (.t 1), none⟩,
    ⟨(some 26), .bin .add (.t 25) (.c (.int .i64 1)), none⟩,
    ⟨(some 27), .mov (.t 2), none⟩,
    ⟨(some 28), .bin .sub (.t 27) (.c (.int .i64 1)), none⟩,
    ⟨(some 9), .mov (.t 26), none⟩,
    ⟨(some 10), .mov (.t 28), none⟩]) <|
 .seq
 (.block 0 <|
  .loop [0, 1, 9, 10] <|
   .block 1 <|
   .seq
   (.block 2 <|
    .loop [0, 1, 9, 10] <|
     .seq
     (.seq
      (.draw false [0, 1, 9, 10, 43] (
         .op ⟨(some 29), .mov (.t 9), none⟩ <|
         .op ⟨(some 30), .mov (.t 10), none⟩ <|
         .op ⟨(some 31), .bin .leq (.t 29) (.t 30), none⟩ <|
         .op ⟨(some 32), .mov (.t 31), none⟩ <|
         .op ⟨(some 33), .mov (.t 0), (some (32, true))⟩ <|
         .op ⟨(some 34), .mov (.t 1), (some (32, true))⟩ <|
         .op ⟨(some 35), .iaddr 1 (.t 33) (.t 34), (some (32, true))⟩ <|
         .op ⟨(some 36), .load false 1 (.t 35), (some (32, true))⟩ <|
         .op ⟨(some 37), .mov (.t 0), (some (32, true))⟩ <|
         .op ⟨(some 38), .mov (.t 9), (some (32, true))⟩ <|
         .op ⟨(some 39), .iaddr 1 (.t 37) (.t 38), (some (32, true))⟩ <|
         .op ⟨(some 40), .load false 1 (.t 39), (some (32, true))⟩ <|
         .op ⟨(some 41), .call (.f 55) [(.t 36), (.t 40)], (some (32, true))⟩ <|
         .op ⟨(some 42), .un .not (.t 41), (some (32, true))⟩ <|
         .op ⟨(some 43), .pick (.t 32) (.t 42) (.c (.bool false)), none⟩ <|
         .done)) <|
      .cond (.t 43)
       (.skip)
       (.exit 2)) <|
     .block 3 <|
     .region [⟨(some 44), .mov (.t 9), none⟩,
       ⟨(some 45), .bin .add (.t 44) (.c (.int .i64 1)), none⟩,
       ⟨(some 9), .mov (.t 45), none⟩]) <|
   .seq
   (.block 4 <|
    .loop [0, 1, 9, 10] <|
     .seq
     (.seq
      (.draw false [0, 1, 9, 10, 59] (
         .op ⟨(some 46), .mov (.t 9), none⟩ <|
         .op ⟨(some 47), .mov (.t 10), none⟩ <|
         .op ⟨(some 48), .bin .leq (.t 46) (.t 47), none⟩ <|
         .op ⟨(some 49), .mov (.t 48), none⟩ <|
         .op ⟨(some 50), .mov (.t 0), (some (49, true))⟩ <|
         .op ⟨(some 51), .mov (.t 1), (some (49, true))⟩ <|
         .op ⟨(some 52), .iaddr 1 (.t 50) (.t 51), (some (49, true))⟩ <|
         .op ⟨(some 53), .load false 1 (.t 52), (some (49, true))⟩ <|
         .op ⟨(some 54), .mov (.t 0), (some (49, true))⟩ <|
         .op ⟨(some 55), .mov (.t 10), (some (49, true))⟩ <|
         .op ⟨(some 56), .iaddr 1 (.t 54) (.t 55), (some (49, true))⟩ <|
         .op ⟨(some 57), .load false 1 (.t 56), (some (49, true))⟩ <|
         .op ⟨(some 58), .call (.f 55) [(.t 53), (.t 57)], (some (49, true))⟩ <|
         .op ⟨(some 59), .pick (.t 49) (.t 58) (.c (.bool false)), none⟩ <|
         .done)) <|
      .cond (.t 59)
       (.skip)
       (.exit 4)) <|
     .block 5 <|
     .region [⟨(some 60), .mov (.t 10), none⟩,
       ⟨(some 61), .bin .sub (.t 60) (.c (.int .i64 1)), none⟩,
       ⟨(some 10), .mov (.t 61), none⟩]) <|
   .seq
   (.seq
    (.region [⟨(some 62), .mov (.t 9), none⟩,
       ⟨(some 63), .mov (.t 10), none⟩,
       ⟨(some 64), .bin .gtr (.t 62) (.t 63), none⟩]) <|
    .cond (.t 64)
     (.exit 0)
     (.skip)) <|
   .seq
   (.draw false [0, 1, 9, 10] (
      .op ⟨(some 65), .mov (.t 0), none⟩ <|
      .op ⟨(some 66), .mov (.t 9), none⟩ <|
      .op ⟨(some 67), .mov (.t 0), none⟩ <|
      .op ⟨(some 68), .mov (.t 10), none⟩ <|
      .op ⟨(some 69), .mov (.t 0), none⟩ <|
      .op ⟨(some 70), .mov (.t 10), none⟩ <|
      .op ⟨(some 71), .iaddr 1 (.t 69) (.t 70), none⟩ <|
      .op ⟨(some 72), .load false 1 (.t 71), none⟩ <|
      .op ⟨(some 73), .mov (.t 0), none⟩ <|
      .op ⟨(some 74), .mov (.t 9), none⟩ <|
      .op ⟨(some 75), .iaddr 1 (.t 73) (.t 74), none⟩ <|
      .op ⟨(some 76), .load false 1 (.t 75), none⟩ <|
      .op ⟨(some 77), .iaddr 1 (.t 65) (.t 66), none⟩ <|
      .op ⟨none, .store 1 (.t 77) (.t 72), none⟩ <|
      .op ⟨(some 78), .iaddr 1 (.t 67) (.t 68), none⟩ <|
      .op ⟨none, .store 1 (.t 78) (.t 76), none⟩ <|
      .done)) <|
   .seq
   (.region [⟨(some 79), .mov (.t 9), none⟩,
      ⟨(some 80), .bin .add (.t 79) (.c (.int .i64 1)), none⟩,
      ⟨(some 9), .mov (.t 80), none⟩]) <|
   .region [⟨(some 81), .mov (.t 10), none⟩,
     ⟨(some 82), .bin .sub (.t 81) (.c (.int .i64 1)), none⟩,
     ⟨(some 10), .mov (.t 82), none⟩]) <|
 .seq
 (.region [⟨(some 83), .mov (.t 9), none⟩,
    ⟨(some 8), .mov (.t 83), none⟩]) <|
 .ret, [.slot 8]⟩
theorem c56 : Code1 Try.prog 56 84 b56 := Code1.mk' Try.func56 (by kernel_rfl) (by kernel_rfl) Try.ntmps56

/-- slices.partitionOrdered[int] -/
def b57 : IFn := ⟨
 .seq
 (.region [⟨(some 8), .mov (.c (.int .i64 0)), none⟩,
    ⟨(some 9), .mov (.c (.bool false)), none⟩]) <|
 .seq
 (.draw false [0, 1, 2] (
    .op ⟨(some 12), .mov (.t 0), none⟩ <|
    .op ⟨(some 13), .mov (.t 1), none⟩ <|
    .op ⟨(some 14), .mov (.t 0), none⟩ <|
    .op ⟨(some 15), .mov (.t 3), none⟩ <|
    .op ⟨(some 16), .mov (.t 0), none⟩ <|
    .op ⟨(some 17), .mov (.t 3), none⟩ <|
    .op ⟨(some 18), .iaddr 1 (.t 16) (.t 17), none⟩ <|
    .op ⟨(some 19), .load false 1 (.t 18), none⟩ <|
    .op ⟨(some 20), .mov (.t 0), none⟩ <|
    .op ⟨(some 21), .mov (.t 1), none⟩ <|
    .op ⟨(some 22), .iaddr 1 (.t 20) (.t 21), none⟩ <|
    .op ⟨(some 23), .load false 1 (.t 22), none⟩ <|
    .op ⟨(some 24), .iaddr 1 (.t 12) (.t 13), none⟩ <|
    .op ⟨none, .store 1 (.t 24) (.t 19), none⟩ <|
    .op ⟨(some 25), .iaddr 1 (.t 14) (.t 15), none⟩ <|
    .op ⟨none, .store 1 (.t 25) (.t 23), none⟩ <|
    .done)) <|
 .seq
 (.region [⟨(some 26), .mov (.t 1), none⟩,
    ⟨(some 27), .bin .add (.t 26) (.c (.int .i64 1)), none⟩,
    ⟨(some 28), .mov (.t 2), none⟩,
    ⟨(some 29), .bin .sub (.t 28) (.c (.int .i64 1)), none⟩,
    ⟨(some 10), .mov (.t 27), none⟩,
    ⟨(some 11), .mov (.t 29), none⟩]) <|
 .seq
 (.block 0 <|
  .loop [0, 1, 10, 11] <|
   .seq
   (.seq
    (.draw false [0, 1, 10, 11, 43] (
       .op ⟨(some 30), .mov (.t 10), none⟩ <|
       .op ⟨(some 31), .mov (.t 11), none⟩ <|
       .op ⟨(some 32), .bin .leq (.t 30) (.t 31), none⟩ <|
       .op ⟨(some 33), .mov (.t 32), none⟩ <|
       .op ⟨(some 34), .mov (.t 0), (some (33, true))⟩ <|
       .op ⟨(some 35), .mov (.t 10), (some (33, true))⟩ <|
       .op ⟨(some 36), .iaddr 1 (.t 34) (.t 35), (some (33, true))⟩ <|
       .op ⟨(some 37), .load false 1 (.t 36), (some (33, true))⟩ <|
       .op ⟨(some 38), .mov (.t 0), (some (33, true))⟩ <|
       .op ⟨(some 39), .mov (.t 1), (some (33, true))⟩ <|
       .op ⟨(some 40), .iaddr 1 (.t 38) (.t 39), (some (33, true))⟩ <|
       .op ⟨(some 41), .load false 1 (.t 40), (some (33, true))⟩ <|
       .op ⟨(some 42), .call (.f 55) [(.t 37), (.t 41)], (some (33, true))⟩ <|
       .op ⟨(some 43), .pick (.t 33) (.t 42) (.c (.bool false)), none⟩ <|
       .done)) <|
    .cond (.t 43)
     (.skip)
     (.exit 0)) <|
   .block 1 <|
   .region [⟨(some 44), .mov (.t 10), none⟩,
     ⟨(some 45), .bin .add (.t 44) (.c (.int .i64 1)), none⟩,
     ⟨(some 10), .mov (.t 45), none⟩]) <|
 .seq
 (.block 2 <|
  .loop [0, 1, 10, 11] <|
   .seq
   (.seq
    (.draw false [0, 1, 10, 11, 60] (
       .op ⟨(some 46), .mov (.t 10), none⟩ <|
       .op ⟨(some 47), .mov (.t 11), none⟩ <|
       .op ⟨(some 48), .bin .leq (.t 46) (.t 47), none⟩ <|
       .op ⟨(some 49), .mov (.t 48), none⟩ <|
       .op ⟨(some 50), .mov (.t 0), (some (49, true))⟩ <|
       .op ⟨(some 51), .mov (.t 11), (some (49, true))⟩ <|
       .op ⟨(some 52), .iaddr 1 (.t 50) (.t 51), (some (49, true))⟩ <|
       .op ⟨(some 53), .load false 1 (.t 52), (some (49, true))⟩ <|
       .op ⟨(some 54), .mov (.t 0), (some (49, true))⟩ <|
       .op ⟨(some 55), .mov (.t 1), (some (49, true))⟩ <|
       .op ⟨(some 56), .iaddr 1 (.t 54) (.t 55), (some (49, true))⟩ <|
       .op ⟨(some 57), .load false 1 (.t 56), (some (49, true))⟩ <|
       .op ⟨(some 58), .call (.f 55) [(.t 53), (.t 57)], (some (49, true))⟩ <|
       .op ⟨(some 59), .un .not (.t 58), (some (49, true))⟩ <|
       .op ⟨(some 60), .pick (.t 49) (.t 59) (.c (.bool false)), none⟩ <|
       .done)) <|
    .cond (.t 60)
     (.skip)
     (.exit 2)) <|
   .block 3 <|
   .region [⟨(some 61), .mov (.t 11), none⟩,
     ⟨(some 62), .bin .sub (.t 61) (.c (.int .i64 1)), none⟩,
     ⟨(some 11), .mov (.t 62), none⟩]) <|
 .seq
 (.seq
  (.region [⟨(some 63), .mov (.t 10), none⟩,
     ⟨(some 64), .mov (.t 11), none⟩,
     ⟨(some 65), .bin .gtr (.t 63) (.t 64), none⟩]) <|
  .cond (.t 65)
   (.seq
    (.draw false [11] (
       .op ⟨(some 66), .mov (.t 0), none⟩ <|
       .op ⟨(some 67), .mov (.t 11), none⟩ <|
       .op ⟨(some 68), .mov (.t 0), none⟩ <|
       .op ⟨(some 69), .mov (.t 1), none⟩ <|
       .op ⟨(some 70), .mov (.t 0), none⟩ <|
       .op ⟨(some 71), .mov (.t 1), none⟩ <|
       .op ⟨(some 72), .iaddr 1 (.t 70) (.t 71), none⟩ <|
       .op ⟨(some 73), .load false 1 (.t 72), none⟩ <|
       .op ⟨(some 74), .mov (.t 0), none⟩ <|
       .op ⟨(some 75), .mov (.t 11), none⟩ <|
       .op ⟨(some 76), .iaddr 1 (.t 74) (.t 75), none⟩ <|
       .op ⟨(some 77), .load false 1 (.t 76), none⟩ <|
       .op ⟨(some 78), .iaddr 1 (.t 66) (.t 67), none⟩ <|
       .op ⟨none, .store 1 (.t 78) (.t 73), none⟩ <|
       .op ⟨(some 79), .iaddr 1 (.t 68) (.t 69), none⟩ <|
       .op ⟨none, .store 1 (.t 79) (.t 77), none⟩ <|
       .done)) <|
    .seq
    (.region [⟨(some 80), .mov (.t 11), none⟩,
       ⟨(some 8), .mov (.t 80), none⟩,
       ⟨(some 9), .mov (.c (.bool true)), none⟩]) <|
    .ret)
   (.skip)) <|
 .seq
 (.draw false [0, 1, 10, 11] (
    .op ⟨(some 81), .mov (.t 0), none⟩ <|
    .op ⟨(some 82), .mov (.t 10), none⟩ <|
    .op ⟨(some 83), .mov (.t 0), none⟩ <|
    .op ⟨(some 84), .mov (.t 11), none⟩ <|
    .op ⟨(some 85), .mov (.t 0), none⟩ <|
    .op ⟨(some 86), .mov (.t 11), none⟩ <|
    .op ⟨(some 87), .iaddr 1 (.t 85) (.t 86), none⟩ <|
    .op ⟨(some 88), .load false 1 (.t 87), none⟩ <|
    .op ⟨(some 89), .mov (.t 0), none⟩ <|
    .op ⟨(some 90), .mov (.t 10), none⟩ <|
    .op ⟨(some 91), .iaddr 1 (.t 89) (.t 90), none⟩ <|
    .op ⟨(some 92), .load false 1 (.t 91), none⟩ <|
    .op ⟨(some 93), .iaddr 1 (.t 81) (.t 82), none⟩ <|
    .op ⟨none, .store 1 (.t 93) (.t 88), none⟩ <|
    .op ⟨(some 94), .iaddr 1 (.t 83) (.t 84), none⟩ <|
    .op ⟨none, .store 1 (.t 94) (.t 92), none⟩ <|
    .done)) <|
 .seq
 (.region [⟨(some 95), .mov (.t 10), none⟩,
    ⟨(some 96), .bin .add (.t 95) (.c (.int .i64 1)), none⟩,
    ⟨(some 10), .mov (.t 96), none⟩]) <|
 .seq
 (.region [⟨(some 97), .mov (.t 11), none⟩,
    ⟨(some 98), .bin .sub (.t 97) (.c (.int .i64 1)), none⟩,
    ⟨(some 11), .mov (.t 98), none⟩]) <|
 .seq
 (.block 4 <|
  .loop [0, 1, 10, 11] <|
   .block 5 <|
   .seq
   (.block 6 <|
    .loop [0, 1, 10, 11] <|
     .seq
     (.seq
      (.draw false [0, 1, 10, 11, 112] (
         .op ⟨(some 99), .mov (.t 10), none⟩ <|
         .op ⟨(some 100), .mov (.t 11), none⟩ <|
         .op ⟨(some 101), .bin .leq (.t 99) (.t 100), none⟩ <|
         .op ⟨(some 102), .mov (.t 101), none⟩ <|
         .op ⟨(some 103), .mov (.t 0), (some (102, true))⟩ <|
         .op ⟨(some 104), .mov (.t 10), (some (102, true))⟩ <|
         .op ⟨(some 105), .iaddr 1 (.t 103) (.t 104), (some (102, true))⟩ <|
         .op ⟨(some 106), .load false 1 (.t 105), (some (102, true))⟩ <|
         .op ⟨(some 107), .mov (.t 0), (some (102, true))⟩ <|
         .op ⟨(some 108), .mov (.t 1), (some (102, true))⟩ <|
         .op ⟨(some 109), .iaddr 1 (.t 107) (.t 108), (some (102, true))⟩ <|
         .op ⟨(some 110), .load false 1 (.t 109), (some (102, true))⟩ <|
         .op ⟨(some 111), .call (.f 55) [(.t 106), (.t 110)], (some (102, true))⟩ <|
         .op ⟨(some 112), .pick (.t 102) (.t 111) (.c (.bool false)), none⟩ <|
         .done)) <|
      .cond (.t 112)
       (.skip)
       (.exit 6)) <|
     .block 7 <|
     .region [⟨(some 113), .mov (.t 10), none⟩,
       ⟨(some 114), .bin .add (.t 113) (.c (.int .i64 1)), none⟩,
       ⟨(some 10), .mov (.t 114), none⟩]) <|
   .seq
   (.block 8 <|
    .loop [0, 1, 10, 11] <|
     .seq
     (.seq
      (.draw false [0, 1, 10, 11, 129] (
         .op ⟨(some 115), .mov (.t 10), none⟩ <|
         .op ⟨(some 116), .mov (.t 11), none⟩ <|
         .op ⟨(some 117), .bin .leq (.t 115) (.t 116), none⟩ <|
         .op ⟨(some 118), .mov (.t 117), none⟩ <|
         .op ⟨(some 119), .mov (.t 0), (some (118, true))⟩ <|
         .op ⟨(some 120), .mov (.t 11), (some (118, true))⟩ <|
         .op ⟨(some 121), .iaddr 1 (.t 119) (.t 120), (some (118, true))⟩ <|
         .op ⟨(some 122), .load false 1 (.t 121), (some (118, true))⟩ <|
         .op ⟨(some 123), .mov (.t 0), (some (118, true))⟩ <|
         .op ⟨(some 124), .mov (.t 1), (some (118, true))⟩ <|
         .op ⟨(some 125), .iaddr 1 (.t 123) (.t 124), (some (118, true))⟩ <|
         .op ⟨(some 126), .load false 1 (.t 125), (some (118, true))⟩ <|
         .op ⟨(some 127), .call (.f 55) [(.t 122), (.t 126)], (some (118, true))⟩ <|
         .op ⟨(some 128), .un .not (.t 127), (some (118, true))⟩ <|
         .op ⟨(some 129), .pick (.t 118) (.t 128) (.c (.bool false)), none⟩ <|
         .done)) <|
      .cond (.t 129)
       (.skip)
       (.exit 8)) <|
     .block 9 <|
     .region [⟨(some 130), .mov (.t 11), none⟩,
       ⟨(some 131), .bin .sub (.t 130) (.c (.int .i64 1)), none⟩,
       ⟨(some 11), .mov (.t 131), none⟩]) <|
   .seq
   (.seq
    (.region [⟨(some 132), .mov (.t 10), none⟩,
       ⟨(some 133), .mov (.t 11), none⟩,
       ⟨(some 134), .bin .gtr (.t 132) (.t 133), none⟩]) <|
    .cond (.t 134)
     (.exit 4)
     (.skip)) <|
   .seq
   (.draw false [0, 1, 10, 11] (
      .op ⟨(some 135), .mov (.t 0), none⟩ <|
      .op ⟨(some 136), .mov (.t 10), none⟩ <|
      .op ⟨(some 137), .mov (.t 0), none⟩ <|
      .op ⟨(some 138), .mov (.t 11), none⟩ <|
      .op ⟨(some 139), .mov (.t 0), none⟩ <|
      .op ⟨(some 140), .mov (.t 11), none⟩ <|
      .op ⟨(some 141), .iaddr 1 (.t 139) (.t 140), none⟩ <|
      .op ⟨(some 142), .load false 1 (.t 141), none⟩ <|
      .op ⟨(some 143), .mov (.t 0), none⟩ <|
      .op ⟨(some 144), .mov (.t 10), none⟩ <|
      .op ⟨(some 145), .iaddr 1 (.t 143) (.t 144), none⟩ <|
      .op ⟨(some 146), .load false 1 (.t 145), none⟩ <|
      .op ⟨(some 147), .iaddr 1 (.t 135) (.t 136), none⟩ <|
      .op ⟨none, .store 1 (.t 147) (.t 142), none⟩ <|
      .op ⟨(some 148), .iaddr 1 (.t 137) (.t 138), none⟩ <|
      .op ⟨none, .store 1 (.t 148) (.t 146), none⟩ <|
      .done)) <|
   .seq
   (.region [⟨(some 149), .mov (.t 10), none⟩,
      ⟨(some 150), .bin .add (.t 149) (.c (.int .i64 1)), none⟩,
      ⟨(some 10), .mov (.t 150), none⟩]) <|
   .region [⟨(some 151), .mov (.t 11), none⟩,
     ⟨(some 152), .bin .sub (.t 151) (.c (.int .i64 1)), none⟩,
     ⟨(some 11), .mov (.t 152), none⟩]) <|
 .seq
 (.draw false [11] (
    .op ⟨(some 153), .mov (.t 0), none⟩ <|
    .op ⟨(some 154), .mov (.t 11), none⟩ <|
    .op ⟨(some 155), .mov (.t 0), none⟩ <|
    .op ⟨(some 156), .mov (.t 1), none⟩ <|
    .op ⟨(some 157), .mov (.t 0), none⟩ <|
    .op ⟨(some 158), .mov (.t 1), none⟩ <|
    .op ⟨(some 159), .iaddr 1 (.t 157) (.t 158), none⟩ <|
    .op ⟨(some 160), .load false 1 (.t 159), none⟩ <|
    .op ⟨(some 161), .mov (.t 0), none⟩ <|
    .op ⟨(some 162), .mov (.t 11), none⟩ <|
    .op ⟨(some 163), .iaddr 1 (.t 161) (.t 162), none⟩ <|
    .op ⟨(some 164), .load false 1 (.t 163), none⟩ <|
    .op ⟨(some 165), .iaddr 1 (.t 153) (.t 154), none⟩ <|
    .op ⟨none, .store 1 (.t 165) (.t 160), none⟩ <|
    .op ⟨(some 166), .iaddr 1 (.t 155) (.t 156), none⟩ <|
    .op ⟨none, .store 1 (.t 166) (.t 164), none⟩ <|
    .done)) <|
 .seq
 (.region [⟨(some 167), .mov (.t 11), none⟩,
    ⟨(some 8), .mov (.t 167), none⟩,
    ⟨(some 9), .mov (.c (.bool false)), none⟩]) <|
 .ret, [.slot 8, .slot 9]⟩
theorem c57 : Code1 Try.prog 57 168 b57 := Code1.mk' Try.func57 (by kernel_rfl) (by kernel_rfl) Try.ntmps57

/-- math/bits.Len32 -/
def b58 : IFn := ⟨
 .seq
 (.region [⟨(some 2), .mov (.c (.int .i64 0)), none⟩]) <|
 .seq
 (.seq
  (.region [⟨(some 3), .mov (.t 0), none⟩,
     ⟨(some 4), .bin .geq (.t 3) (.c (.int .u32 65536)), none⟩]) <|
  .cond (.t 4)
   (.seq
    (.region [⟨(some 5), .mov (.t 0), none⟩,
       ⟨(some 6), .bin .shr (.t 5) (.c (.int .u64 16)), none⟩,
       ⟨(some 0), .mov (.t 6), none⟩]) <|
    .region [⟨(some 2), .mov (.c (.int .i64 16)), none⟩])
   (.skip)) <|
 .seq
 (.seq
  (.region [⟨(some 7), .mov (.t 0), none⟩,
     ⟨(some 8), .bin .geq (.t 7) (.c (.int .u32 256)), none⟩]) <|
  .cond (.t 8)
   (.seq
    (.region [⟨(some 9), .mov (.t 0), none⟩,
       ⟨(some 10), .bin .shr (.t 9) (.c (.int .u64 8)), none⟩,
       ⟨(some 0), .mov (.t 10), none⟩]) <|
    .region [⟨(some 11), .mov (.t 2), none⟩,
      ⟨(some 12), .bin .add (.t 11) (.c (.int .i64 8)), none⟩,
      ⟨(some 2), .mov (.t 12), none⟩])
   (.skip)) <|
 .seq
 (.region [⟨(some 13), .mov (.t 2), none⟩,
    ⟨(some 14), .mov (.t 0), none⟩,
    ⟨(some 15), .conv .u8 (.t 14), none⟩,
    ⟨(some 16), .indexS (.c (.str ⟨#[0, 1, 2, 2, 3, 3, 3, 3, 4, 4, 4, 4, 4, 4, 4, 4, 5, 5, 5, 5, 5, 5, 5, 5, 5, 5, 5, 5, 5, 5, 5, 5, 6, 6, 6, 6, 6, 6, 6, 6, 6, 6, 6, 6, 6, 6, 6, 6, 6, 6, 6, 6, 6, 6, 6, 6, 6, 6, 6, 6, 6, 6, 6, 6, 7, 7, 7, 7, 7, 7, 7, 7, 7, 7, 7, 7, 7, 7, 7, 7, 7, 7, 7, 7, 7, 7, 7, 7, 7, 7, 7, 7, 7, 7, 7, 7, 7, 7, 7, 7, 7, 7, 7, 7, 7, 7, 7, 7, 7, 7, 7, 7, 7, 7, 7, 7, 7, 7, 7, 7, 7, 7, 7, 7, 7, 7, 7, 7, 8, 8, 8, 8, 8, 8, 8, 8, 8, 8, 8, 8, 8, 8, 8, 8, 8, 8, 8, 8, 8, 8, 8, 8, 8, 8, 8, 8, 8, 8, 8, 8, 8, 8, 8, 8, 8, 8, 8, 8, 8, 8, 8, 8, 8, 8, 8, 8, 8, 8, 8, 8, 8, 8, 8, 8, 8, 8, 8, 8, 8, 8, 8, 8, 8, 8, 8, 8, 8, 8, 8, 8, 8, 8, 8, 8, 8, 8, 8, 8, 8, 8, 8, 8, 8, 8, 8, 8, 8, 8, 8, 8, 8, 8, 8, 8, 8, 8, 8, 8, 8, 8, 8, 8, 8, 8, 8, 8, 8, 8, 8, 8, 8, 8, 8, 8, 8, 8, 8, 8, 8, 8, 8, 8, 8, 8, 8, 8]⟩)) (.t 15), none⟩,
    ⟨(some 17), .conv .i64 (.t 16), none⟩,
    ⟨(some 18), .bin .add (.t 13) (.t 17), none⟩,
    ⟨(some 2), .mov (.t 18), none⟩]) <|
 .ret, [.slot 2]⟩
theorem c58 : Code1 Try.prog 58 19 b58 := Code1.mk' Try.func58 (by kernel_rfl) (by kernel_rfl) Try.ntmps58

/-- math/bits.Len64 -/
def b59 : IFn := ⟨
 .seq
 (.region [⟨(some 2), .mov (.c (.int .i64 0)), none⟩]) <|
 .seq
 (.seq
  (.region [⟨(some 3), .mov (.t 0), none⟩,
     ⟨(some 4), .bin .geq (.t 3) (.c (.int .u64 4294967296)), none⟩]) <|
  .cond (.t 4)
   (.seq
    (.region [⟨(some 5), .mov (.t 0), none⟩,
       ⟨(some 6), .bin .shr (.t 5) (.c (.int .u64 32)), none⟩,
       ⟨(some 0), .mov (.t 6), none⟩]) <|
    .region [⟨(some 2), .mov (.c (.int .i64 32)), none⟩])
   (.skip)) <|
 .seq
 (.seq
  (.region [⟨(some 7), .mov (.t 0), none⟩,
     ⟨(some 8), .bin .geq (.t 7) (.c (.int .u64 65536)), none⟩]) <|
  .cond (.t 8)
   (.seq
    (.region [⟨(some 9), .mov (.t 0), none⟩,
       ⟨(some 10), .bin .shr (.t 9) (.c (.int .u64 16)), none⟩,
       ⟨(some 0), .mov (.t 10), none⟩]) <|
    .region [⟨(some 11), .mov (.t 2), none⟩,
      ⟨(some 12), .bin .add (.t 11) (.c (.int .i64 16)), none⟩,
      ⟨(some 2), .mov (.t 12), none⟩])
   (.skip)) <|
 .seq
 (.seq
  (.region [⟨(some 13), .mov (.t 0), none⟩,
     ⟨(some 14), .bin .geq (.t 13) (.c (.int .u64 256)), none⟩]) <|
  .cond (.t 14)
   (.seq
    (.region [⟨(some 15), .mov (.t 0), none⟩,
       ⟨(some 16), .bin .shr (.t 15) (.c (.int .u64 8)), none⟩,
       ⟨(some 0), .mov (.t 16), none⟩]) <|
    .region [⟨(some 17), .mov (.t 2), none⟩,
      ⟨(some 18), .bin .add (.t 17) (.c (.int .i64 8)), none⟩,
      ⟨(some 2), .mov (.t 18), none⟩])
   (.skip)) <|
 .seq
 (.region [⟨(some 19), .mov (.t 2), none⟩,
    ⟨(some 20), .mov (.t 0), none⟩,
    ⟨(some 21), .conv .u8 (.t 20), none⟩,
    ⟨(some 22), .indexS (.c (.str ⟨#[0, 1, 2, 2, 3, 3, 3, 3, 4, 4, 4, 4, 4, 4, 4, 4, 5, 5, 5, 5, 5, 5, 5, 5, 5, 5, 5, 5, 5, 5, 5, 5, 6, 6, 6, 6, 6, 6, 6, 6, 6, 6, 6, 6, 6, 6, 6, 6, 6, 6, 6, 6, 6, 6, 6, 6, 6, 6, 6, 6, 6, 6, 6, 6, 7, 7, 7, 7, 7, 7, 7, 7, 7, 7, 7, 7, 7, 7, 7, 7, 7, 7, 7, 7, 7, 7, 7, 7, 7, 7, 7, 7, 7, 7, 7, 7, 7, 7, 7, 7, 7, 7, 7, 7, 7, 7, 7, 7, 7, 7, 7, 7, 7, 7, 7, 7, 7, 7, 7, 7, 7, 7, 7, 7, 7, 7, 7, 7, 8, 8, 8, 8, 8, 8, 8, 8, 8, 8, 8, 8, 8, 8, 8, 8, 8, 8, 8, 8, 8, 8, 8, 8, 8, 8, 8, 8, 8, 8, 8, 8, 8, 8, 8, 8, 8, 8, 8, 8, 8, 8, 8, 8, 8, 8, 8, 8, 8, 8, 8, 8, 8, 8, 8, 8, 8, 8, 8, 8, 8, 8, 8, 8, 8, 8, 8, 8, 8, 8, 8, 8, 8, 8, 8, 8, 8, 8, 8, 8, 8, 8, 8, 8, 8, 8, 8, 8, 8, 8, 8, 8, 8, 8, 8, 8, 8, 8, 8, 8, 8, 8, 8, 8, 8, 8, 8, 8, 8, 8, 8, 8, 8, 8, 8, 8, 8, 8, 8, 8, 8, 8, 8, 8, 8, 8, 8, 8]⟩)) (.t 21), none⟩,
    ⟨(some 23), .conv .i64 (.t 22), none⟩,
    ⟨(some 24), .bin .add (.t 19) (.t 23), none⟩,
    ⟨(some 2), .mov (.t 24), none⟩]) <|
 .ret, [.slot 2]⟩
theorem c59 : Code1 Try.prog 59 25 b59 := Code1.mk' Try.func59 (by kernel_rfl) (by kernel_rfl) Try.ntmps59

/-- slices.insertionSortCmpFunc[fusee/span.Span] -/
def b60 : IFn := ⟨
 .seq
 (.region [⟨(some 10), .mov (.t 1), none⟩,
    ⟨(some 11), .bin .add (.t 10) (.c (.int .i64 1)), none⟩,
    ⟨(some 8), .mov (.t 11), none⟩]) <|
 .block 0 <|
 .loop [0, 1, 2, 3, 8] <|
  .seq
  (.seq
   (.region [⟨(some 12), .mov (.t 8), none⟩,
      ⟨(some 13), .mov (.t 2), none⟩,
      ⟨(some 14), .bin .lss (.t 12) (.t 13), none⟩]) <|
   .cond (.t 14)
    (.skip)
    (.exit 0)) <|
  .seq
  (.block 1 <|
   .seq
   (.region [⟨(some 17), .mov (.t 8), none⟩,
      ⟨(some 9), .mov (.t 17), none⟩]) <|
   .block 2 <|
   .loop [0, 1, 2, 3, 8, 9] <|
    .seq
    (.seq
     (.draw false [0, 1, 2, 3, 8, 9, 34] (
        .op ⟨(some 18), .mov (.t 9), none⟩ <|
        .op ⟨(some 19), .mov (.t 1), none⟩ <|
        .op ⟨(some 20), .bin .gtr (.t 18) (.t 19), none⟩ <|
        .op ⟨(some 21), .mov (.t 20), none⟩ <|
        .op ⟨(some 22), .mov (.t 3), (some (21, true))⟩ <|
        .op ⟨(some 23), .mov (.t 0), (some (21, true))⟩ <|
        .op ⟨(some 24), .mov (.t 9), (some (21, true))⟩ <|
        .op ⟨(some 25), .iaddr 2 (.t 23) (.t 24), (some (21, true))⟩ <|
        .op ⟨(some 26), .load true 2 (.t 25), (some (21, true))⟩ <|
        .op ⟨(some 27), .mov (.t 0), (some (21, true))⟩ <|
        .op ⟨(some 28), .mov (.t 9), (some (21, true))⟩ <|
        .op ⟨(some 29), .bin .sub (.t 28) (.c (.int .i64 1)), (some (21, true))⟩ <|
        .op ⟨(some 30), .iaddr 2 (.t 27) (.t 29), (some (21, true))⟩ <|
        .op ⟨(some 31), .load true 2 (.t 30), (some (21, true))⟩ <|
        .op ⟨(some 32), .call (.t 22) [(.t 26), (.t 31)], (some (21, true))⟩ <|
        .op ⟨(some 33), .bin .lss (.t 32) (.c (.int .i64 0)), (some (21, true))⟩ <|
        .op ⟨(some 34), .pick (.t 21) (.t 33) (.c (.bool false)), none⟩ <|
        .done)) <|
     .cond (.t 34)
      (.skip)
      (.exit 2)) <|
    .seq
    (.block 3 <|
     .draw false [0, 1, 2, 3, 8, 9] (
       .op ⟨(some 37), .mov (.t 0), none⟩ <|
       .op ⟨(some 38), .mov (.t 9), none⟩ <|
       .op ⟨(some 39), .mov (.t 0), none⟩ <|
       .op ⟨(some 40), .mov (.t 9), none⟩ <|
       .op ⟨(some 41), .bin .sub (.t 40) (.c (.int .i64 1)), none⟩ <|
       .op ⟨(some 42), .mov (.t 0), none⟩ <|
       .op ⟨(some 43), .mov (.t 9), none⟩ <|
       .op ⟨(some 44), .bin .sub (.t 43) (.c (.int .i64 1)), none⟩ <|
       .op ⟨(some 45), .iaddr 2 (.t 42) (.t 44), none⟩ <|
       .op ⟨(some 46), .load true 2 (.t 45), none⟩ <|
       .op ⟨(some 47), .mov (.t 0), none⟩ <|
       .op ⟨(some 48), .mov (.t 9), none⟩ <|
       .op ⟨(some 49), .iaddr 2 (.t 47) (.t 48), none⟩ <|
       .op ⟨(some 50), .load true 2 (.t 49), none⟩ <|
       .op ⟨(some 51), .iaddr 2 (.t 37) (.t 38), none⟩ <|
       .op ⟨none, .store 2 (.t 51) (.t 46), none⟩ <|
       .op ⟨(some 52), .iaddr 2 (.t 39) (.t 41), none⟩ <|
       .op ⟨none, .store 2 (.t 52) (.t 50), none⟩ <|
       .done)) <|
    .region [⟨(some 35), .mov (.t 9), none⟩,
      ⟨(some 36), .bin .sub (.t 35) (.c (.int .i64 1)), none⟩,
      ⟨(some 9), .mov (.t 36), none⟩]) <|
  .region [⟨(some 15), .mov (.t 8), none⟩,
    ⟨(some 16), .bin .add (.t 15) (.c (.int .i64 1)), none⟩,
    ⟨(some 8), .mov (.t 16), none⟩], []⟩
theorem c60 : Code1 Try.prog 60 53 b60 := Code1.mk' Try.func60 (by kernel_rfl) (by kernel_rfl) Try.ntmps60

/-- slices.heapSortCmpFunc[fusee/span.Span] -/
def b61 : IFn := ⟨
 .seq
 (.region [⟨(some 13), .mov (.t 1), none⟩,
    ⟨(some 8), .mov (.t 13), none⟩]) <|
 .seq
 (.region [⟨(some 9), .mov (.c (.int .i64 0)), none⟩]) <|
 .seq
 (.region [⟨(some 14), .mov (.t 2), none⟩,
    ⟨(some 15), .mov (.t 1), none⟩,
    ⟨(some 16), .bin .sub (.t 14) (.t 15), none⟩,
    ⟨(some 10), .mov (.t 16), none⟩]) <|
 .seq
 (.seq
  (.region [⟨(some 17), .mov (.t 10), none⟩,
     ⟨(some 18), .bin .sub (.t 17) (.c (.int .i64 1)), none⟩,
     ⟨(some 19), .bin .quo (.t 18) (.c (.int .i64 2)), none⟩,
     ⟨(some 11), .mov (.t 19), none⟩]) <|
  .block 0 <|
  .loop [0, 3, 8, 9, 10, 11] <|
   .seq
   (.seq
    (.region [⟨(some 20), .mov (.t 11), none⟩,
       ⟨(some 21), .bin .geq (.t 20) (.c (.int .i64 0)), none⟩]) <|
    .cond (.t 21)
     (.skip)
     (.exit 0)) <|
   .seq
   (.block 1 <|
    .region [⟨(some 24), .mov (.t 0), none⟩,
      ⟨(some 25), .mov (.t 11), none⟩,
      ⟨(some 26), .mov (.t 10), none⟩,
      ⟨(some 27), .mov (.t 8), none⟩,
      ⟨(some 28), .mov (.t 3), none⟩,
      ⟨(some 29), .call (.f 74) [(.t 24), (.t 25), (.t 26), (.t 27), (.t 28)], none⟩]) <|
   .region [⟨(some 22), .mov (.t 11), none⟩,
     ⟨(some 23), .bin .sub (.t 22) (.c (.int .i64 1)), none⟩,
     ⟨(some 11), .mov (.t 23), none⟩]) <|
 .seq
 (.region [⟨(some 30), .mov (.t 10), none⟩,
    ⟨(some 31), .bin .sub (.t 30) (.c (.int .i64 1)), none⟩,
    ⟨(some 12), .mov (.t 31), none⟩]) <|
 .block 2 <|
 .loop [0, 3, 8, 9, 12] <|
  .seq
  (.seq
   (.region [⟨(some 32), .mov (.t 12), none⟩,
      ⟨(some 33), .bin .geq (.t 32) (.c (.int .i64 0)), none⟩]) <|
   .cond (.t 33)
    (.skip)
    (.exit 2)) <|
  .seq
  (.block 3 <|
   .seq
   (.draw false [0, 3, 8, 9, 12] (
      .op ⟨(some 36), .mov (.t 0), none⟩ <|
      .op ⟨(some 37), .mov (.t 8), none⟩ <|
      .op ⟨(some 38), .mov (.t 0), none⟩ <|
      .op ⟨(some 39), .mov (.t 8), none⟩ <|
      .op ⟨(some 40), .mov (.t 12), none⟩ <|
      .op ⟨(some 41), .bin .add (.t 39) (.t 40), none⟩ <|
      .op ⟨(some 42), .mov (.t 0), none⟩ <|
      .op ⟨(some 43), .mov (.t 8), none⟩ <|
      .op ⟨(some 44), .mov (.t 12), none⟩ <|
      .op ⟨(some 45), .bin .add (.t 43) (.t 44), none⟩ <|
      .op ⟨(some 46), .iaddr 2 (.t 42) (.t 45), none⟩ <|
      .op ⟨(some 47), .load true 2 (.t 46), none⟩ <|
      .op ⟨(some 48), .mov (.t 0), none⟩ <|
      .op ⟨(some 49), .mov (.t 8), none⟩ <|
      .op ⟨(some 50), .iaddr 2 (.t 48) (.t 49), none⟩ <|
      .op ⟨(some 51), .load true 2 (.t 50), none⟩ <|
      .op ⟨(some 52), .iaddr 2 (.t 36) (.t 37), none⟩ <|
      .op ⟨none, .store 2 (.t 52) (.t 47), none⟩ <|
      .op ⟨(some 53), .iaddr 2 (.t 38) (.t 41), none⟩ <|
      .op ⟨none, .store 2 (.t 53) (.t 51), none⟩ <|
      .done)) <|
   .region [⟨(some 54), .mov (.t 0), none⟩,
     ⟨(some 55), .mov (.t 9), none⟩,
     ⟨(some 56), .mov (.t 12), none⟩,
     ⟨(some 57), .mov (.t 8), none⟩,
     ⟨(some 58), .mov (.t 3), none⟩,
     ⟨(some 59), .call (.f 74) [(.t 54), (.t 55), (.t 56), (.t 57), (.t 58)], none⟩]) <|
  .region [⟨(some 34), .mov (.t 12), none⟩,
    ⟨(some 35), .bin .sub (.t 34) (.c (.int .i64 1)), none⟩,
    ⟨(some 12), .mov (.t 35), none⟩], []⟩
theorem c61 : Code1 Try.prog 61 60 b61 := Code1.mk' Try.func61 (by kernel_rfl) (by kernel_rfl) Try.ntmps61

/-- slices.breakPatternsCmpFunc[fusee/span.Span] -/
def b62 : IFn := ⟨
 .seq
 (.region [⟨(some 13), .mov (.t 2), none⟩,
    ⟨(some 14), .mov (.t 1), none⟩,
    ⟨(some 15), .bin .sub (.t 13) (.t 14), none⟩,
    ⟨(some 8), .mov (.t 15), none⟩]) <|
 .seq
 (.region [⟨(some 16), .mov (.t 8), none⟩,
    ⟨(some 17), .bin .geq (.t 16) (.c (.int .i64 8)), none⟩]) <|
 .cond (.t 17)
  (.seq
   (.region [⟨(some 18), .mov (.t 8), none⟩,
      ⟨(some 19), .conv .u64 (.t 18), none⟩,
      ⟨(some 9), .alloc [(.int .u64 0)], none⟩,
      ⟨none, .store 1 (.t 9) (.t 19), none⟩]) <|
   .seq
   (.region [⟨(some 20), .mov (.t 8), none⟩,
      ⟨(some 21), .call (.f 70) [(.t 20)], none⟩,
      ⟨(some 10), .mov (.t 21), none⟩]) <|
   .seq
   (.region [⟨(some 22), .mov (.t 1), none⟩,
      ⟨(some 23), .mov (.t 8), none⟩,
      ⟨(some 24), .bin .quo (.t 23) (.c (.int .i64 4)), none⟩,
      ⟨(some 25), .bin .mul (.t 24) (.c (.int .i64 2)), none⟩,
      ⟨(some 26), .bin .add (.t 22) (.t 25), none⟩,
      ⟨(some 27), .bin .sub (.t 26) (.c (.int .i64 1)), none⟩,
      ⟨(some 11), .mov (.t 27), none⟩]) <|
   .block 0 <|
   .loop [0, 1, 8, 9, 10, 11] <|
    .seq
    (.seq
     (.region [⟨(some 28), .mov (.t 11), none⟩,
        ⟨(some 29), .mov (.t 1), none⟩,
        ⟨(some 30), .mov (.t 8), none⟩,
        ⟨(some 31), .bin .quo (.t 30) (.c (.int .i64 4)), none⟩,
        ⟨(some 32), .bin .mul (.t 31) (.c (.int .i64 2)), none⟩,
        ⟨(some 33), .bin .add (.t 29) (.t 32), none⟩,
        ⟨(some 34), .bin .add (.t 33) (.c (.int .i64 1)), none⟩,
        ⟨(some 35), .bin .leq (.t 28) (.t 34), none⟩]) <|
     .cond (.t 35)
      (.skip)
      (.exit 0)) <|
    .seq
    (.block 1 <|
     .seq
     (.region [⟨(some 38), .call (.f 71) [(.t 9)], none⟩,
        ⟨(some 39), .mov (.t 10), none⟩,
        ⟨(some 40), .bin .sub (.t 39) (.c (.int .u64 1)), none⟩,
        ⟨(some 41), .bin .and (.t 38) (.t 40), none⟩,
        ⟨(some 42), .conv .i64 (.t 41), none⟩,
        ⟨(some 12), .mov (.t 42), none⟩]) <|
     .seq
     (.seq
      (.region [⟨(some 43), .mov (.t 12), none⟩,
         ⟨(some 44), .mov (.t 8), none⟩,
         ⟨(some 45), .bin .geq (.t 43) (.t 44), none⟩]) <|
      .cond (.t 45)
       (.region [⟨(some 46), .mov (.t 12), none⟩,
          ⟨(some 47), .mov (.t 8), none⟩,
          ⟨(some 48), .bin .sub (.t 46) (.t 47), none⟩,
          ⟨(some 12), .mov (.t 48), none⟩])
       (.skip)) <|
     .draw false [0, 1, 8, 9, 10, 11] (
       .op ⟨(some 49), .mov (.t 0), none⟩ <|
       .op ⟨(some 50), .mov (.t 11), none⟩ <|
       .op ⟨(some 51), .mov (.t 0), none⟩ <|
       .op ⟨(some 52), .mov (.t 1), none⟩ <|
       .op ⟨(some 53), .mov (.t 12), none⟩ <|
       .op ⟨(some 54), .bin .add (.t 52) (.t 53), none⟩ <|
       .op ⟨(some 55), .mov (.t 0), none⟩ <|
       .op ⟨(some 56), .mov (.t 1), none⟩ <|
       .op ⟨(some 57), .mov (.t 12), none⟩ <|
       .op ⟨(some 58), .bin .add (.t 56) (.t 57), none⟩ <|
       .op ⟨(some 59), .iaddr 2 (.t 55) (.t 58), none⟩ <|
       .op ⟨(some 60), .load true 2 (.t 59), none⟩ <|
       .op ⟨(some 61), .mov (.t 0), none⟩ <|
       .op ⟨(some 62), .mov (.t 11), none⟩ <|
       .op ⟨(some 63), .iaddr 2 (.t 61) (.t 62), none⟩ <|
       .op ⟨(some 64), .load true 2 (.t 63), none⟩ <|
       .op ⟨(some 65), .iaddr 2 (.t 49) (.t 50), none⟩ <|
       .op ⟨none, .store 2 (.t 65) (.t 60), none⟩ <|
       .op ⟨(some 66), .iaddr 2 (.t 51) (.t 54), none⟩ <|
       .op ⟨none, .store 2 (.t 66) (.t 64), none⟩ <|
       .done)) <|
    .region [⟨(some 36), .mov (.t 11), none⟩,
      ⟨(some 37), .bin .add (.t 36) (.c (.int .i64 1)), none⟩,
      ⟨(some 11), .mov (.t 37), none⟩])
  (.skip), []⟩
theorem c62 : Code1 Try.prog 62 67 b62 := Code1.mk' Try.func62 (by kernel_rfl) (by kernel_rfl) Try.ntmps62

/-- slices.choosePivotCmpFunc[fusee/span.Span] -/
def b63 : IFn := ⟨
 .seq
 (.region [⟨(some 8), .mov (.c (.int .i64 0)), none⟩,
    ⟨(some 9), .mov (.c (.int .i64 0)), none⟩]) <|
 .seq
 (.region [⟨(some 15), .mov (.t 2), none⟩,
    ⟨(some 16), .mov (.t 1), none⟩,
    ⟨(some 17), .bin .sub (.t 15) (.t 16), none⟩,
    ⟨(some 10), .mov (.t 17), none⟩]) <|
 .seq
 (.region [⟨(some 11), .alloc [(.int .i64 0)], none⟩]) <|
 .seq
 (.region [⟨(some 18), .mov (.t 1), none⟩,
    ⟨(some 19), .mov (.t 10), none⟩,
    ⟨(some 20), .bin .quo (.t 19) (.c (.int .i64 4)), none⟩,
    ⟨(some 21), .bin .mul (.t 20) (.c (.int .i64 1)), none⟩,
    ⟨(some 22), .bin .add (.t 18) (.t 21), none⟩,
    ⟨(some 12), .mov (.t 22), none⟩]) <|
 .seq
 (.region [⟨(some 23), .mov (.t 1), none⟩,
    ⟨(some 24), .mov (.t 10), none⟩,
    ⟨(some 25), .bin .quo (.t 24) (.c (.int .i64 4)), none⟩,
    ⟨(some 26), .bin .mul (.t 25) (.c (.int .i64 2)), none⟩,
    ⟨(some 27), .bin .add (.t 23) (.t 26), none⟩,
    ⟨(some 13), .mov (.t 27), none⟩]) <|
 .seq
 (.region [⟨(some 28), .mov (.t 1), none⟩,
    ⟨(some 29), .mov (.t 10), none⟩,
    ⟨(some 30), .bin .quo (.t 29) (.c (.int .i64 4)), none⟩,
    ⟨(some 31), .bin .mul (.t 30) (.c (.int .i64 3)), none⟩,
    ⟨(some 32), .bin .add (.t 28) (.t 31), none⟩,
    ⟨(some 14), .mov (.t 32), none⟩]) <|
 .seq
 (.seq
  (.region [⟨(some 33), .mov (.t 10), none⟩,
     ⟨(some 34), .bin .geq (.t 33) (.c (.int .i64 8)), none⟩]) <|
  .cond (.t 34)
   (.seq
    (.seq
     (.region [⟨(some 35), .mov (.t 10), none⟩,
        ⟨(some 36), .bin .geq (.t 35) (.c (.int .i64 50)), none⟩]) <|
     .cond (.t 36)
      (.seq
       (.region [⟨(some 37), .mov (.t 0), none⟩,
          ⟨(some 38), .mov (.t 12), none⟩,
          ⟨(some 39), .mov (.t 3), none⟩,
          ⟨(some 40), .call (.f 75) [(.t 37), (.t 38), (.t 11), (.t 39)], none⟩,
          ⟨(some 12), .mov (.t 40), none⟩]) <|
       .seq
       (.region [⟨(some 41), .mov (.t 0), none⟩,
          ⟨(some 42), .mov (.t 13), none⟩,
          ⟨(some 43), .mov (.t 3), none⟩,
          ⟨(some 44), .call (.f 75) [(.t 41), (.t 42), (.t 11), (.t 43)], none⟩,
          ⟨(some 13), .mov (.t 44), none⟩]) <|
       .region [⟨(some 45), .mov (.t 0), none⟩,
         ⟨(some 46), .mov (.t 14), none⟩,
         ⟨(some 47), .mov (.t 3), none⟩,
         ⟨(some 48), .call (.f 75) [(.t 45), (.t 46), (.t 11), (.t 47)], none⟩,
         ⟨(some 14), .mov (.t 48), none⟩])
      (.skip)) <|
    .region [⟨(some 49), .mov (.t 0), none⟩,
      ⟨(some 50), .mov (.t 12), none⟩,
      ⟨(some 51), .mov (.t 13), none⟩,
      ⟨(some 52), .mov (.t 14), none⟩,
      ⟨(some 53), .mov (.t 3), none⟩,
      ⟨(some 54), .call (.f 76) [(.t 49), (.t 50), (.t 51), (.t 52), (.t 11), (.t 53)], none⟩,
      ⟨(some 13), .mov (.t 54), none⟩])
   (.skip)) <|
 .seq
 (.region [⟨(some 55), .load false 1 (.t 11), none⟩]) <|
 .block 0 <|
 .seq
 (.region [⟨(some 58), .bin .eql (.t 55) (.c (.int .i64 0)), none⟩,
    ⟨(some 57), .mov (.t 58), none⟩]) <|
 .cond (.t 57)
  (.seq
   (.region [⟨(some 59), .mov (.t 13), none⟩,
      ⟨(some 8), .mov (.t 59), none⟩,
      ⟨(some 9), .mov (.c (.int .i64 1)), none⟩]) <|
   .ret)
  (.seq
   (.region [⟨(some 61), .bin .eql (.t 55) (.c (.int .i64 12)), none⟩,
      ⟨(some 60), .mov (.t 61), none⟩]) <|
   .cond (.t 60)
    (.seq
     (.region [⟨(some 62), .mov (.t 13), none⟩,
        ⟨(some 8), .mov (.t 62), none⟩,
        ⟨(some 9), .mov (.c (.int .i64 2)), none⟩]) <|
     .ret)
    (.seq
     (.region [⟨(some 56), .mov (.t 13), none⟩,
        ⟨(some 8), .mov (.t 56), none⟩,
        ⟨(some 9), .mov (.c (.int .i64 0)), none⟩]) <|
     .ret)), [.slot 8, .slot 9]⟩
theorem c63 : Code1 Try.prog 63 63 b63 := Code1.mk' Try.func63 (by kernel_rfl) (by kernel_rfl) Try.ntmps63

/-- slices.reverseRangeCmpFunc[fusee/span.Span] -/
def b64 : IFn := ⟨
 .seq
 (.region [⟨(some 10), .mov (.t 1), none⟩,
    ⟨(some 8), .mov (.t 10), none⟩]) <|
 .seq
 (.region [⟨(some 11), .mov (.t 2), none⟩,
    ⟨(some 12), .bin .sub (.t 11) (.c (.int .i64 1)), none⟩,
    ⟨(some 9), .mov (.t 12), none⟩]) <|
 .block 0 <|
 .loop [0, 8, 9] <|
  .seq
  (.seq
   (.region [⟨(some 13), .mov (.t 8), none⟩,
      ⟨(some 14), .mov (.t 9), none⟩,
      ⟨(some 15), .bin .lss (.t 13) (.t 14), none⟩]) <|
   .cond (.t 15)
    (.skip)
    (.exit 0)) <|
  .block 1 <|
  .seq
  (.draw false [0, 8, 9] (
     .op ⟨(some 16), .mov (.t 0), none⟩ <|
     .op ⟨(some 17), .mov (.t 8), none⟩ <|
     .op ⟨(some 18), .mov (.t 0), none⟩ <|
     .op ⟨(some 19), .mov (.t 9), none⟩ <|
     .op ⟨(some 20), .mov (.t 0), none⟩ <|
     .op ⟨(some 21), .mov (.t 9), none⟩ <|
     .op ⟨(some 22), .iaddr 2 (.t 20) (.t 21), none⟩ <|
     .op ⟨(some 23), .load true 2 (.t 22), none⟩ <|
     .op ⟨(some 24), .mov (.t 0), none⟩ <|
     .op ⟨(some 25), .mov (.t 8), none⟩ <|
     .op ⟨(some 26), .iaddr 2 (.t 24) (.t 25), none⟩ <|
     .op ⟨(some 27), .load true 2 (.t 26), none⟩ <|
     .op ⟨(some 28), .iaddr 2 (.t 16) (.t 17), none⟩ <|
     .op ⟨none, .store 2 (.t 28) (.t 23), none⟩ <|
     .op ⟨(some 29), .iaddr 2 (.t 18) (.t 19), none⟩ <|
     .op ⟨none, .store 2 (.t 29) (.t 27), none⟩ <|
     .done)) <|
  .seq
  (.region [⟨(some 30), .mov (.t 8), none⟩,
     ⟨(some 31), .bin .add (.t 30) (.c (.int .i64 1)), none⟩,
     ⟨(some 8), .mov (.t 31), none⟩]) <|
  .region [⟨(some 32), .mov (.t 9), none⟩,
    ⟨(some 33), .bin .sub (.t 32) (.c (.int .i64 1)), none⟩,
    ⟨(some 9), .mov (.t 33), none⟩], []⟩
theorem c64 : Code1 Try.prog 64 34 b64 := Code1.mk' Try.func64 (by kernel_rfl) (by kernel_rfl) Try.ntmps64

/-- slices.partialInsertionSortCmpFunc[fusee/span.Span] -/
def b65 : IFn := ⟨
 .seq
 (.region [⟨(some 8), .mov (.c (.bool false)), none⟩]) <|
 .seq
 (.region [⟨(some 13), .mov (.t 1), none⟩,
    ⟨(some 14), .bin .add (.t 13) (.c (.int .i64 1)), none⟩,
    ⟨(some 9), .mov (.t 14), none⟩]) <|
 .seq
 (.seq
  (.region [⟨(some 10), .mov (.c (.int .i64 0)), none⟩]) <|
  .block 0 <|
  .loop [0, 1, 2, 3, 9, 10] <|
   .seq
   (.seq
    (.region [⟨(some 15), .mov (.t 10), none⟩,
       ⟨(some 16), .bin .lss (.t 15) (.c (.int .i64 5)), none⟩]) <|
    .cond (.t 16)
     (.skip)
     (.exit 0)) <|
   .seq
   (.block 1 <|
    .seq
    (.block 2 <|
     .loop [0, 1, 2, 3, 9, 10] <|
      .seq
      (.seq
       (.draw false [0, 1, 2, 3, 9, 10, 36] (
          .op ⟨(some 19), .mov (.t 9), none⟩ <|
          .op ⟨(some 20), .mov (.t 2), none⟩ <|
          .op ⟨(some 21), .bin .lss (.t 19) (.t 20), none⟩ <|
          .op ⟨(some 22), .mov (.t 21), none⟩ <|
          .op ⟨(some 23), .mov (.t 3), (some (22, true))⟩ <|
          .op ⟨(some 24), .mov (.t 0), (some (22, true))⟩ <|
          .op ⟨(some 25), .mov (.t 9), (some (22, true))⟩ <|
          .op ⟨(some 26), .iaddr 2 (.t 24) (.t 25), (some (22, true))⟩ <|
          .op ⟨(some 27), .load true 2 (.t 26), (some (22, true))⟩ <|
          .op ⟨(some 28), .mov (.t 0), (some (22, true))⟩ <|
          .op ⟨(some 29), .mov (.t 9), (some (22, true))⟩ <|
          .op ⟨(some 30), .bin .sub (.t 29) (.c (.int .i64 1)), (some (22, true))⟩ <|
          .op ⟨(some 31), .iaddr 2 (.t 28) (.t 30), (some (22, true))⟩ <|
          .op ⟨(some 32), .load true 2 (.t 31), (some (22, true))⟩ <|
          .op ⟨(some 33), .call (.t 23) [(.t 27), (.t 32)], (some (22, true))⟩ <|
          .op ⟨(some 34), .bin .lss (.t 33) (.c (.int .i64 0)), (some (22, true))⟩ <|
          .op ⟨(some 35), .un .not (.t 34), (some (22, true))⟩ <|
          .op ⟨(some 36), .pick (.t 22) (.t 35) (.c (.bool false)), none⟩ <|
          .done)) <|
       .cond (.t 36)
        (.skip)
        (.exit 2)) <|
      .block 3 <|
      .region [⟨(some 37), .mov (.t 9), none⟩,
        ⟨(some 38), .bin .add (.t 37) (.c (.int .i64 1)), none⟩,
        ⟨(some 9), .mov (.t 38), none⟩]) <|
    .seq
    (.seq
     (.region [⟨(some 39), .mov (.t 9), none⟩,
        ⟨(some 40), .mov (.t 2), none⟩,
        ⟨(some 41), .bin .eql (.t 39) (.t 40), none⟩]) <|
     .cond (.t 41)
      (.seq
       (.region [⟨(some 8), .mov (.c (.bool true)), none⟩]) <|
       .ret)
      (.skip)) <|
    .seq
    (.seq
     (.region [⟨(some 42), .mov (.t 2), none⟩,
        ⟨(some 43), .mov (.t 1), none⟩,
        ⟨(some 44), .bin .sub (.t 42) (.t 43), none⟩,
        ⟨(some 45), .bin .lss (.t 44) (.c (.int .i64 50)), none⟩]) <|
     .cond (.t 45)
      (.seq
       (.region [⟨(some 8), .mov (.c (.bool false)), none⟩]) <|
       .ret)
      (.skip)) <|
    .seq
    (.draw false [0, 1, 2, 3, 9, 10] (
       .op ⟨(some 46), .mov (.t 0), none⟩ <|
       .op ⟨(some 47), .mov (.t 9), none⟩ <|
       .op ⟨(some 48), .mov (.t 0), none⟩ <|
       .op ⟨(some 49), .mov (.t 9), none⟩ <|
       .op ⟨(some 50), .bin .sub (.t 49) (.c (.int .i64 1)), none⟩ <|
       .op ⟨(some 51), .mov (.t 0), none⟩ <|
       .op ⟨(some 52), .mov (.t 9), none⟩ <|
       .op ⟨(some 53), .bin .sub (.t 52) (.c (.int .i64 1)), none⟩ <|
       .op ⟨(some 54), .iaddr 2 (.t 51) (.t 53), none⟩ <|
       .op ⟨(some 55), .load true 2 (.t 54), none⟩ <|
       .op ⟨(some 56), .mov (.t 0), none⟩ <|
       .op ⟨(some 57), .mov (.t 9), none⟩ <|
       .op ⟨(some 58), .iaddr 2 (.t 56) (.t 57), none⟩ <|
       .op ⟨(some 59), .load true 2 (.t 58), none⟩ <|
       .op ⟨(some 60), .iaddr 2 (.t 46) (.t 47), none⟩ <|
       .op ⟨none, .store 2 (.t 60) (.t 55), none⟩ <|
       .op ⟨(some 61), .iaddr 2 (.t 48) (.t 50), none⟩ <|
       .op ⟨none, .store 2 (.t 61) (.t 59), none⟩ <|
       .done)) <|
    .seq
    (.seq
     (.region [⟨(some 62), .mov (.t 9), none⟩,
        ⟨(some 63), .mov (.t 1), none⟩,
        ⟨(some 64), .bin .sub (.t 62) (.t 63), none⟩,
        ⟨(some 65), .bin .geq (.t 64) (.c (.int .i64 2)), none⟩]) <|
     .cond (.t 65)
      (.seq
       (.region [⟨(some 66), .mov (.t 9), none⟩,
          ⟨(some 67), .bin .sub (.t 66) (.c (.int .i64 1)), none⟩,
          ⟨(some 11), .mov (.t 67), none⟩]) <|
       .block 4 <|
       .loop [0, 1, 2, 3, 9, 10, 11] <|
        .seq
        (.seq
         (.region [⟨(some 68), .mov (.t 11), none⟩,
            ⟨(some 69), .bin .geq (.t 68) (.c (.int .i64 1)), none⟩]) <|
         .cond (.t 69)
          (.skip)
          (.exit 4)) <|
        .seq
        (.block 5 <|
         .seq
         (.seq
          (.draw false [0, 1, 2, 3, 9, 10, 11, 84] (
             .op ⟨(some 72), .mov (.t 3), none⟩ <|
             .op ⟨(some 73), .mov (.t 0), none⟩ <|
             .op ⟨(some 74), .mov (.t 11), none⟩ <|
             .op ⟨(some 75), .iaddr 2 (.t 73) (.t 74), none⟩ <|
             .op ⟨(some 76), .load true 2 (.t 75), none⟩ <|
             .op ⟨(some 77), .mov (.t 0), none⟩ <|
             .op ⟨(some 78), .mov (.t 11), none⟩ <|
             .op ⟨(some 79), .bin .sub (.t 78) (.c (.int .i64 1)), none⟩ <|
             .op ⟨(some 80), .iaddr 2 (.t 77) (.t 79), none⟩ <|
             .op ⟨(some 81), .load true 2 (.t 80), none⟩ <|
             .op ⟨(some 82), .call (.t 72) [(.t 76), (.t 81)], none⟩ <|
             .op ⟨(some 83), .bin .lss (.t 82) (.c (.int .i64 0)), none⟩ <|
             .op ⟨(some 84), .un .not (.t 83), none⟩ <|
             .done)) <|
          .cond (.t 84)
           (.exit 4)
           (.skip)) <|
         .draw false [0, 1, 2, 3, 9, 10, 11] (
           .op ⟨(some 85), .mov (.t 0), none⟩ <|
           .op ⟨(some 86), .mov (.t 11), none⟩ <|
           .op ⟨(some 87), .mov (.t 0), none⟩ <|
           .op ⟨(some 88), .mov (.t 11), none⟩ <|
           .op ⟨(some 89), .bin .sub (.t 88) (.c (.int .i64 1)), none⟩ <|
           .op ⟨(some 90), .mov (.t 0), none⟩ <|
           .op ⟨(some 91), .mov (.t 11), none⟩ <|
           .op ⟨(some 92), .bin .sub (.t 91) (.c (.int .i64 1)), none⟩ <|
           .op ⟨(some 93), .iaddr 2 (.t 90) (.t 92), none⟩ <|
           .op ⟨(some 94), .load true 2 (.t 93), none⟩ <|
           .op ⟨(some 95), .mov (.t 0), none⟩ <|
           .op ⟨(some 96), .mov (.t 11), none⟩ <|
           .op ⟨(some 97), .iaddr 2 (.t 95) (.t 96), none⟩ <|
           .op ⟨(some 98), .load true 2 (.t 97), none⟩ <|
           .op ⟨(some 99), .iaddr 2 (.t 85) (.t 86), none⟩ <|
           .op ⟨none, .store 2 (.t 99) (.t 94), none⟩ <|
           .op ⟨(some 100), .iaddr 2 (.t 87) (.t 89), none⟩ <|
           .op ⟨none, .store 2 (.t 100) (.t 98), none⟩ <|
           .done)) <|
        .region [⟨(some 70), .mov (.t 11), none⟩,
          ⟨(some 71), .bin .sub (.t 70) (.c (.int .i64 1)), none⟩,
          ⟨(some 11), .mov (.t 71), none⟩])
      (.skip)) <|
    .seq
    (.region [⟨(some 101), .mov (.t 2), none⟩,
       ⟨(some 102), .mov (.t 9), none⟩,
       ⟨(some 103), .bin .sub (.t 101) (.t 102), none⟩,
       ⟨(some 104), .bin .geq (.t 103) (.c (.int .i64 2)), none⟩]) <|
    .cond (.t 104)
     (.seq
      (.region [⟨(some 105), .mov (.t 9), none⟩,
         ⟨(some 106), .bin .add (.t 105) (.c (.int .i64 1)), none⟩,
         ⟨(some 12), .mov (.t 106), none⟩]) <|
      .block 6 <|
      .loop [0, 1, 2, 3, 9, 10, 12] <|
       .seq
       (.seq
        (.region [⟨(some 107), .mov (.t 12), none⟩,
           ⟨(some 108), .mov (.t 2), none⟩,
           ⟨(some 109), .bin .lss (.t 107) (.t 108), none⟩]) <|
        .cond (.t 109)
         (.skip)
         (.exit 6)) <|
       .seq
       (.block 7 <|
        .seq
        (.seq
         (.draw false [0, 1, 2, 3, 9, 10, 12, 124] (
            .op ⟨(some 112), .mov (.t 3), none⟩ <|
            .op ⟨(some 113), .mov (.t 0), none⟩ <|
            .op ⟨(some 114), .mov (.t 12), none⟩ <|
            .op ⟨(some 115), .iaddr 2 (.t 113) (.t 114), none⟩ <|
            .op ⟨(some 116), .load true 2 (.t 115), none⟩ <|
            .op ⟨(some 117), .mov (.t 0), none⟩ <|
            .op ⟨(some 118), .mov (.t 12), none⟩ <|
            .op ⟨(some 119), .bin .sub (.t 118) (.c (.int .i64 1)), none⟩ <|
            .op ⟨(some 120), .iaddr 2 (.t 117) (.t 119), none⟩ <|
            .op ⟨(some 121), .load true 2 (.t 120), none⟩ <|
            .op ⟨(some 122), .call (.t 112) [(.t 116), (.t 121)], none⟩ <|
            .op ⟨(some 123), .bin .lss (.t 122) (.c (.int .i64 0)), none⟩ <|
            .op ⟨(some 124), .un .not (.t 123), none⟩ <|
            .done)) <|
         .cond (.t 124)
          (.exit 6)
          (.skip)) <|
        .draw false [0, 1, 2, 3, 9, 10, 12] (
          .op ⟨(some 125), .mov (.t 0), none⟩ <|
          .op ⟨(some 126), .mov (.t 12), none⟩ <|
          .op ⟨(some 127), .mov (.t 0), none⟩ <|
          .op ⟨(some 128), .mov (.t 12), none⟩ <|
          .op ⟨(some 129), .bin .sub (.t 128) (.c (.int .i64 1)), none⟩ <|
          .op ⟨(some 130), .mov (.t 0), none⟩ <|
          .op ⟨(some 131), .mov (.t 12), none⟩ <|
          .op ⟨(some 132), .bin .sub (.t 131) (.c (.int .i64 1)), none⟩ <|
          .op ⟨(some 133), .iaddr 2 (.t 130) (.t 132), none⟩ <|
          .op ⟨(some 134), .load true 2 (.t 133), none⟩ <|
          .op ⟨(some 135), .mov (.t 0), none⟩ <|
          .op ⟨(some 136), .mov (.t 12), none⟩ <|
          .op ⟨(some 137), .iaddr 2 (.t 135) (.t 136), none⟩ <|
          .op ⟨(some 138), .load true 2 (.t 137), none⟩ <|
          .op ⟨(some 139), .iaddr 2 (.t 125) (.t 126), none⟩ <|
          .op ⟨none, .store 2 (.t 139) (.t 134), none⟩ <|
          .op ⟨(some 140), .iaddr 2 (.t 127) (.t 129), none⟩ <|
          .op ⟨none, .store 2 (.t 140) (.t 138), none⟩ <|
          .done)) <|
       .region [⟨(some 110), .mov (.t 12), none⟩,
         ⟨(some 111), .bin .add (.t 110) (.c (.int .i64 1)), none⟩,
         ⟨(some 12), .mov (.t 111), none⟩])
     (.skip)) <|
   .region [⟨(some 17), .mov (.t 10), none⟩,
     ⟨(some 18), .bin .add (.t 17) (.c (.int .i64 1)), none⟩,
     ⟨(some 10), .mov (.t 18), none⟩]) <|
 .seq
 (.region [⟨(some 8), .mov (.c (.bool false)), none⟩]) <|
 .ret, [.slot 8]⟩
theorem c65 : Code1 Try.prog 65 141 b65 := Code1.mk' Try.func65 (by kernel_rfl) (by kernel_rfl) Try.ntmps65

/-- slices.partitionEqualCmpFunc[fusee/span.Span] -/
def b66 : IFn := ⟨
 .seq
 (.region [⟨(some 10), .mov (.c (.int .i64 0)), none⟩]) <|
 .seq
 (.draw false [0, 1, 2, 4] (
    .op ⟨(some 13), .mov (.t 0), none⟩ <|
    .op ⟨(some 14), .mov (.t 1), none⟩ <|
    .op ⟨(some 15), .mov (.t 0), none⟩ <|
    .op ⟨(some 16), .mov (.t 3), none⟩ <|
    .op ⟨(some 17), .mov (.t 0), none⟩ <|
    .op ⟨(some 18), .mov (.t 3), none⟩ <|
    .op ⟨(some 19), .iaddr 2 (.t 17) (.t 18), none⟩ <|
    .op ⟨(some 20), .load true 2 (.t 19), none⟩ <|
    .op ⟨(some 21), .mov (.t 0), none⟩ <|
    .op ⟨(some 22), .mov (.t 1), none⟩ <|
    .op ⟨(some 23), .iaddr 2 (.t 21) (.t 22), none⟩ <|
    .op ⟨(some 24), .load true 2 (.t 23), none⟩ <|
    .op ⟨(some 25), .iaddr 2 (.t 13) (.t 14), none⟩ <|
    .op ⟨none, .store 2 (.t 25) (.t 20), none⟩ <|
    .op ⟨(some 26), .iaddr 2 (.t 15) (.t 16), none⟩ <|
    .op ⟨none, .store 2 (.t 26) (.t 24), none⟩ <|
    .done)) <|
 .seq
 (.region [⟨(some 27), .mov (.t 1), none⟩,
    ⟨(some 28), .bin .add (.t 27) (.c (.int .i64 1)), none⟩,
    ⟨(some 29), .mov (.t 2), none⟩,
    ⟨(some 30), .bin .sub (.t 29) (.c (.int .i64 1)), none⟩,
    ⟨(some 11), .mov (.t 28), none⟩,
    ⟨(some 12), .mov (.t 30), none⟩]) <|
 .seq
 (.block 0 <|
  .loop [0, 1, 4, 11, 12] <|
   .block 1 <|
   .seq
   (.block 2 <|
    .loop [0, 1, 4, 11, 12] <|
     .seq
     (.seq
      (.draw false [0, 1, 4, 11, 12, 47] (
         .op ⟨(some 31), .mov (.t 11), none⟩ <|
         .op ⟨(some 32), .mov (.t 12), none⟩ <|
         .op ⟨(some 33), .bin .leq (.t 31) (.t 32), none⟩ <|
         .op ⟨(some 34), .mov (.t 33), none⟩ <|
         .op ⟨(some 35), .mov (.t 4), (some (34, true))⟩ <|
         .op ⟨(some 36), .mov (.t 0), (some (34, true))⟩ <|
         .op ⟨(some 37), .mov (.t 1), (some (34, true))⟩ <|
         .op ⟨(some 38), .iaddr 2 (.t 36) (.t 37), (some (34, true))⟩ <|
         .op ⟨(some 39), .load true 2 (.t 38), (some (34, true))⟩ <|
         .op ⟨(some 40), .mov (.t 0), (some (34, true))⟩ <|
         .op ⟨(some 41), .mov (.t 11), (some (34, true))⟩ <|
         .op ⟨(some 42), .iaddr 2 (.t 40) (.t 41), (some (34, true))⟩ <|
         .op ⟨(some 43), .load true 2 (.t 42), (some (34, true))⟩ <|
         .op ⟨(some 44), .call (.t 35) [(.t 39), (.t 43)], (some (34, true))⟩ <|
         .op ⟨(some 45), .bin .lss (.t 44) (.c (.int .i64 0)), (some (34, true))⟩ <|
         .op ⟨(some 46), .un .not (.t 45), (some (34, true))⟩ <|
         .op ⟨(some 47), .pick (.t 34) (.t 46) (.c (.bool false)), none⟩ <|
         .done)) <|
      .cond (.t 47)
       (.skip)
       (.exit 2)) <|
     .block 3 <|
     .region [⟨(some 48), .mov (.t 11), none⟩,
       ⟨(some 49), .bin .add (.t 48) (.c (.int .i64 1)), none⟩,
       ⟨(some 11), .mov (.t 49), none⟩]) <|
   .seq
   (.block 4 <|
    .loop [0, 1, 4, 11, 12] <|
     .seq
     (.seq
      (.draw false [0, 1, 4, 11, 12, 65] (
         .op ⟨(some 50), .mov (.t 11), none⟩ <|
         .op ⟨(some 51), .mov (.t 12), none⟩ <|
         .op ⟨(some 52), .bin .leq (.t 50) (.t 51), none⟩ <|
         .op ⟨(some 53), .mov (.t 52), none⟩ <|
         .op ⟨(some 54), .mov (.t 4), (some (53, true))⟩ <|
         .op ⟨(some 55), .mov (.t 0), (some (53, true))⟩ <|
         .op ⟨(some 56), .mov (.t 1), (some (53, true))⟩ <|
         .op ⟨(some 57), .iaddr 2 (.t 55) (.t 56), (some (53, true))⟩ <|
         .op ⟨(some 58), .load true 2 (.t 57), (some (53, true))⟩ <|
         .op ⟨(some 59), .mov (.t 0), (some (53, true))⟩ <|
         .op ⟨(some 60), .mov (.t 12), (some (53, true))⟩ <|
         .op ⟨(some 61), .iaddr 2 (.t 59) (.t 60), (some (53, true))⟩ <|
         .op ⟨(some 62), .load true 2 (.t 61), (some (53, true))⟩ <|
         .op ⟨(some 63), .call (.t 54) [(.t 58), (.t 62)], (some (53, true))⟩ <|
         .op ⟨(some 64), .bin .lss (.t 63) (.c (.int .i64 0)), (some (53, true))⟩ <|
         .op ⟨(some 65), .pick (.t 53) (.t 64) (.c (.bool false)), none⟩ <|
         .done)) <|
      .cond (.t 65)
       (.skip)
       (.exit 4)) <|
     .block 5 <|
     .region [⟨(some 66), .mov (.t 12), none⟩,
       ⟨(some 67), .bin .sub (.t 66) (.c (.int .i64 1)), none⟩,
       ⟨(some 12), .mov (.t 67), none⟩]) <|
   .seq
   (.seq
    (.region [⟨(some 68), .mov (.t 11), none⟩,
       ⟨(some 69), .mov (.t 12), none⟩,
       ⟨(some 70), .bin .gtr (.t 68) (.t 69), none⟩]) <|
    .cond (.t 70)
     (.exit 0)
     (.skip)) <|
   .seq
   (.draw false [0, 1, 4, 11, 12] (
      .op ⟨(some 71), .mov (.t 0), none⟩ <|
      .op ⟨(some 72), .mov (.t 11), none⟩ <|
      .op ⟨(some 73), .mov (.t 0), none⟩ <|
      .op ⟨(some 74), .mov (.t 12), none⟩ <|
      .op ⟨(some 75), .mov (.t 0), none⟩ <|
      .op ⟨(some 76), .mov (.t 12), none⟩ <|
      .op ⟨(some 77), .iaddr 2 (.t 75) (.t 76), none⟩ <|
      .op ⟨(some 78), .load true 2 (.t 77), none⟩ <|
      .op ⟨(some 79), .mov (.t 0), none⟩ <|
      .op ⟨(some 80), .mov (.t 11), none⟩ <|
      .op ⟨(some 81), .iaddr 2 (.t 79) (.t 80), none⟩ <|
      .op ⟨(some 82), .load true 2 (.t 81), none⟩ <|
      .op ⟨(some 83), .iaddr 2 (.t 71) (.t 72), none⟩ <|
      .op ⟨none, .store 2 (.t 83) (.t 78), none⟩ <|
      .op ⟨(some 84), .iaddr 2 (.t 73) (.t 74), none⟩ <|
      .op ⟨none, .store 2 (.t 84) (.t 82), none⟩ <|
      .done)) <|
   .seq
   (.region [⟨(some 85), .mov (.t 11), none⟩,
      ⟨(some 86), .bin .add (.t 85) (.c (.int .i64 1)), none⟩,
      ⟨(some 11), .mov (.t 86), none⟩]) <|
   .region [⟨(some 87), .mov (.t 12), none⟩,
     ⟨(some 88), .bin .sub (.t 87) (.c (.int .i64 1)), none⟩,
     ⟨(some 12), .mov (.t 88), none⟩]) <|
 .seq
 (.region [⟨(some 89), .mov (.t 11), none⟩,
    ⟨(some 10), .mov (.t 89), none⟩]) <|
 .ret, [.slot 10]⟩
theorem c66 : Code1 Try.prog 66 90 b66 := Code1.mk' Try.func66 (by kernel_rfl) (by kernel_rfl) Try.ntmps66

/-- slices.partitionCmpFunc[fusee/span.Span] -/
def b67 : IFn := ⟨
 .seq
 (.region [⟨(some 10), .mov (.c (.int .i64 0)), none⟩,
    ⟨(some 11), .mov (.c (.bool false)), none⟩]) <|
 .seq
 (.draw false [0, 1, 2, 4] (
    .op ⟨(some 14), .mov (.t 0), none⟩ <|
    .op ⟨(some 15), .mov (.t 1), none⟩ <|
    .op ⟨(some 16), .mov (.t 0), none⟩ <|
    .op ⟨(some 17), .mov (.t 3), none⟩ <|
    .op ⟨(some 18), .mov (.t 0), none⟩ <|
    .op ⟨(some 19), .mov (.t 3), none⟩ <|
    .op ⟨(some 20), .iaddr 2 (.t 18) (.t 19), none⟩ <|
    .op ⟨(some 21), .load true 2 (.t 20), none⟩ <|
    .op ⟨(some 22), .mov (.t 0), none⟩ <|
    .op ⟨(some 23), .mov (.t 1), none⟩ <|
    .op ⟨(some 24), .iaddr 2 (.t 22) (.t 23), none⟩ <|
    .op ⟨(some 25), .load true 2 (.t 24), none⟩ <|
    .op ⟨(some 26), .iaddr 2 (.t 14) (.t 15), none⟩ <|
    .op ⟨none, .store 2 (.t 26) (.t 21), none⟩ <|
    .op ⟨(some 27), .iaddr 2 (.t 16) (.t 17), none⟩ <|
    .op ⟨none, .store 2 (.t 27) (.t 25), none⟩ <|
    .done)) <|
 .seq
 (.region [⟨(some 28), .mov (.t 1), none⟩,
    ⟨(some 29), .bin .add (.t 28) (.c (.int .i64 1)), none⟩,
    ⟨(some 30), .mov (.t 2), none⟩,
    ⟨(some 31), .bin .sub (.t 30) (.c (.int .i64 1)), none⟩,
    ⟨(some 12), .mov (.t 29), none⟩,
    ⟨(some 13), .mov (.t 31), none⟩]) <|
 .seq
 (.block 0 <|
  .loop [0, 1, 4, 12, 13] <|
   .seq
   (.seq
    (.draw false [0, 1, 4, 12, 13, 47] (
       .op ⟨(some 32), .mov (.t 12), none⟩ <|
       .op ⟨(some 33), .mov (.t 13), none⟩ <|
       .op ⟨(some 34), .bin .leq (.t 32) (.t 33), none⟩ <|
       .op ⟨(some 35), .mov (.t 34), none⟩ <|
       .op ⟨(some 36), .mov (.t 4), (some (35, true))⟩ <|
       .op ⟨(some 37), .mov (.t 0), (some (35, true))⟩ <|
       .op ⟨(some 38), .mov (.t 12), (some (35, true))⟩ <|
       .op ⟨(some 39), .iaddr 2 (.t 37) (.t 38), (some (35, true))⟩ <|
       .op ⟨(some 40), .load true 2 (.t 39), (some (35, true))⟩ <|
       .op ⟨(some 41), .mov (.t 0), (some (35, true))⟩ <|
       .op ⟨(some 42), .mov (.t 1), (some (35, true))⟩ <|
       .op ⟨(some 43), .iaddr 2 (.t 41) (.t 42), (some (35, true))⟩ <|
       .op ⟨(some 44), .load true 2 (.t 43), (some (35, true))⟩ <|
       .op ⟨(some 45), .call (.t 36) [(.t 40), (.t 44)], (some (35, true))⟩ <|
       .op ⟨(some 46), .bin .lss (.t 45) (.c (.int .i64 0)), (some (35, true))⟩ <|
       .op ⟨(some 47), .pick (.t 35) (.t 46) (.c (.bool false)), none⟩ <|
       .done)) <|
    .cond (.t 47)
     (.skip)
     (.exit 0)) <|
   .block 1 <|
   .region [⟨(some 48), .mov (.t 12), none⟩,
     ⟨(some 49), .bin .add (.t 48) (.c (.int .i64 1)), none⟩,
     ⟨(some 12), .mov (.t 49), none⟩]) <|
 .seq
 (.block 2 <|
  .loop [0, 1, 4, 12, 13] <|
   .seq
   (.seq
    (.draw false [0, 1, 4, 12, 13, 66] (
       .op ⟨(some 50), .mov (.t 12), none⟩ <|
       .op ⟨(some 51), .mov (.t 13), none⟩ <|
       .op ⟨(some 52), .bin .leq (.t 50) (.t 51), none⟩ <|
       .op ⟨(some 53), .mov (.t 52), none⟩ <|
       .op ⟨(some 54), .mov (.t 4), (some (53, true))⟩ <|
       .op ⟨(some 55), .mov (.t 0), (some (53, true))⟩ <|
       .op ⟨(some 56), .mov (.t 13), (some (53, true))⟩ <|
       .op ⟨(some 57), .iaddr 2 (.t 55) (.t 56), (some (53, true))⟩ <|
       .op ⟨(some 58), .load true 2 (.t 57), (some (53, true))⟩ <|
       .op ⟨(some 59), .mov (.t 0), (some (53, true))⟩ <|
       .op ⟨(some 60), .mov (.t 1), (some (53, true))⟩ <|
       .op ⟨(some 61), .iaddr 2 (.t 59) (.t 60), (some (53, true))⟩ <|
       .op ⟨(some 62), .load true 2 (.t 61), (some (53, true))⟩ <|
       .op ⟨(some 63), .call (.t 54) [(.t 58), (.t 62)], (some (53, true))⟩ <|
       .op ⟨(some 64), .bin .lss (.t 63) (.c (.int .i64 0)), (some (53, true))⟩ <|
       .op ⟨(some 65), .un .not (.t 64), (some (53, true))⟩ <|
       .op ⟨(some 66), .pick (.t 53) (.t 65) (.c (.bool false)), none⟩ <|
       .done)) <|
    .cond (.t 66)
     (.skip)
     (.exit 2)) <|
   .block 3 <|
   .region [⟨(some 67), .mov (.t 13), none⟩,
     ⟨(some 68), .bin .sub (.t 67) (.c (.int .i64 1)), none⟩,
     ⟨(some 13), .mov (.t 68), none⟩]) <|
 .seq
 (.seq
  (.region [⟨(some 69), .mov (.t 12), none⟩,
     ⟨(some 70), .mov (.t 13), none⟩,
     ⟨(some 71), .bin .gtr (.t 69) (.t 70), none⟩]) <|
  .cond (.t 71)
   (.seq
    (.draw false [13] (
       .op ⟨(some 72), .mov (.t 0), none⟩ <|
       .op ⟨(some 73), .mov (.t 13), none⟩ <|
       .op ⟨(some 74), .mov (.t 0), none⟩ <|
       .op ⟨(some 75), .mov (.t 1), none⟩ <|
       .op ⟨(some 76), .mov (.t 0), none⟩ <|
       .op ⟨(some 77), .mov (.t 1), none⟩ <|
       .op ⟨(some 78), .iaddr 2 (.t 76) (.t 77), none⟩ <|
       .op ⟨(some 79), .load true 2 (.t 78), none⟩ <|
       .op ⟨(some 80), .mov (.t 0), none⟩ <|
       .op ⟨(some 81), .mov (.t 13), none⟩ <|
       .op ⟨(some 82), .iaddr 2 (.t 80) (.t 81), none⟩ <|
       .op ⟨(some 83), .load true 2 (.t 82), none⟩ <|
       .op ⟨(some 84), .iaddr 2 (.t 72) (.t 73), none⟩ <|
       .op ⟨none, .store 2 (.t 84) (.t 79), none⟩ <|
       .op ⟨(some 85), .iaddr 2 (.t 74) (.t 75), none⟩ <|
       .op ⟨none, .store 2 (.t 85) (.t 83), none⟩ <|
       .done)) <|
    .seq
    (.region [⟨(some 86), .mov (.t 13), none⟩,
       ⟨(some 10), .mov (.t 86), none⟩,
       ⟨(some 11), .mov (.c (.bool true)), none⟩]) <|
    .ret)
   (.skip)) <|
 .seq
 (.draw false [0, 1, 4, 12, 13] (
    .op ⟨(some 87), .mov (.t 0), none⟩ <|
    .op ⟨(some 88), .mov (.t 12), none⟩ <|
    .op ⟨(some 89), .mov (.t 0), none⟩ <|
    .op ⟨(some 90), .mov (.t 13), none⟩ <|
    .op ⟨(some 91), .mov (.t 0), none⟩ <|
    .op ⟨(some 92), .mov (.t 13), none⟩ <|
    .op ⟨(some 93), .iaddr 2 (.t 91) (.t 92), none⟩ <|
    .op ⟨(some 94), .load true 2 (.t 93), none⟩ <|
    .op ⟨(some 95), .mov (.t 0), none⟩ <|
    .op ⟨(some 96), .mov (.t 12), none⟩ <|
    .op ⟨(some 97), .iaddr 2 (.t 95) (.t 96), none⟩ <|
    .op ⟨(some 98), .load true 2 (.t 97), none⟩ <|
    .op ⟨(some 99), .iaddr 2 (.t 87) (.t 88), none⟩ <|
    .op ⟨none, .store 2 (.t 99) (.t 94), none⟩ <|
    .op ⟨(some 100), .iaddr 2 (.t 89) (.t 90), none⟩ <|
    .op ⟨none, .store 2 (.t 100) (.t 98), none⟩ <|
    .done)) <|
 .seq
 (.region [⟨(some 101), .mov (.t 12), none⟩,
    ⟨(some 102), .bin .add (.t 101) (.c (.int .i64 1)), none⟩,
    ⟨(some 12), .mov (.t 102), none⟩]) <|
 .seq
 (.region [⟨(some 103), .mov (.t 13), none⟩,
    ⟨(some 104), .bin .sub (.t 103) (.c (.int .i64 1)), none⟩,
    ⟨(some 13), .mov (.t 104), none⟩]) <|
 .seq
 (.block 4 <|
  .loop [0, 1, 4, 12, 13] <|
   .block 5 <|
   .seq
   (.block 6 <|
    .loop [0, 1, 4, 12, 13] <|
     .seq
     (.seq
      (.draw false [0, 1, 4, 12, 13, 120] (
         .op ⟨(some 105), .mov (.t 12), none⟩ <|
         .op ⟨(some 106), .mov (.t 13), none⟩ <|
         .op ⟨(some 107), .bin .leq (.t 105) (.t 106), none⟩ <|
         .op ⟨(some 108), .mov (.t 107), none⟩ <|
         .op ⟨(some 109), .mov (.t 4), (some (108, true))⟩ <|
         .op ⟨(some 110), .mov (.t 0), (some (108, true))⟩ <|
         .op ⟨(some 111), .mov (.t 12), (some (108, true))⟩ <|
         .op ⟨(some 112), .iaddr 2 (.t 110) (.t 111), (some (108, true))⟩ <|
         .op ⟨(some 113), .load true 2 (.t 112), (some (108, true))⟩ <|
         .op ⟨(some 114), .mov (.t 0), (some (108, true))⟩ <|
         .op ⟨(some 115), .mov (.t 1), (some (108, true))⟩ <|
         .op ⟨(some 116), .iaddr 2 (.t 114) (.t 115), (some (108, true))⟩ <|
         .op ⟨(some 117), .load true 2 (.t 116), (some (108, true))⟩ <|
         .op ⟨(some 118), .call (.t 109) [(.t 113), (.t 117)], (some (108, true))⟩ <|
         .op ⟨(some 119), .bin .lss (.t 118) (.c (.int .i64 0)), (some (108, true))⟩ <|
         .op ⟨(some 120), .pick (.t 108) (.t 119) (.c (.bool false)), none⟩ <|
         .done)) <|
      .cond (.t 120)
       (.skip)
       (.exit 6)) <|
     .block 7 <|
     .region [⟨(some 121), .mov (.t 12), none⟩,
       ⟨(some 122), .bin .add (.t 121) (.c (.int .i64 1)), none⟩,
       ⟨(some 12), .mov (.t 122), none⟩]) <|
   .seq
   (.block 8 <|
    .loop [0, 1, 4, 12, 13] <|
     .seq
     (.seq
      (.draw false [0, 1, 4, 12, 13, 139] (
         .op ⟨(some 123), .mov (.t 12), none⟩ <|
         .op ⟨(some 124), .mov (.t 13), none⟩ <|
         .op ⟨(some 125), .bin .leq (.t 123) (.t 124), none⟩ <|
         .op ⟨(some 126), .mov (.t 125), none⟩ <|
         .op ⟨(some 127), .mov (.t 4), (some (126, true))⟩ <|
         .op ⟨(some 128), .mov (.t 0), (some (126, true))⟩ <|
         .op ⟨(some 129), .mov (.t 13), (some (126, true))⟩ <|
         .op ⟨(some 130), .iaddr 2 (.t 128) (.t 129), (some (126, true))⟩ <|
         .op ⟨(some 131), .load true 2 (.t 130), (some (126, true))⟩ <|
         .op ⟨(some 132), .mov (.t 0), (some (126, true))⟩ <|
         .op ⟨(some 133), .mov (.t 1), (some (126, true))⟩ <|
         .op ⟨(some 134), .iaddr 2 (.t 132) (.t 133), (some (126, true))⟩ <|
         .op ⟨(some 135), .load true 2 (.t 134), (some (126, true))⟩ <|
         .op ⟨(some 136), .call (.t 127) [(.t 131), (.t 135)], (some (126, true))⟩ <|
         .op ⟨(some 137), .bin .lss (.t 136) (.c (.int .i64 0)), (some (126, true))⟩ <|
         .op ⟨(some 138), .un .not (.t 137), (some (126, true))⟩ <|
         .op ⟨(some 139), .pick (.t 126) (.t 138) (.c (.bool false)), none⟩ <|
         .done)) <|
      .cond (.t 139)
       (.skip)
       (.exit 8)) <|
     .block 9 <|
     .region [⟨(some 140), .mov (.t 13), none⟩,
       ⟨(some 141), .bin .sub (.t 140) (.c (.int .i64 1)), none⟩,
       ⟨(some 13), .mov (.t 141), none⟩]) <|
   .seq
   (.seq
    (.region [⟨(some 142), .mov (.t 12), none⟩,
       ⟨(some 143), .mov (.t 13), none⟩,
       ⟨(some 144), .bin .gtr (.t 142) (.t 143), none⟩]) <|
    .cond (.t 144)
     (.exit 4)
     (.skip)) <|
   .seq
   (.draw false [0, 1, 4, 12, 13] (
      .op ⟨(some 145), .mov (.t 0), none⟩ <|
      .op ⟨(some 146), .mov (.t 12), none⟩ <|
      .op ⟨(some 147), .mov (.t 0), none⟩ <|
      .op ⟨(some 148), .mov (.t 13), none⟩ <|
      .op ⟨(some 149), .mov (.t 0), none⟩ <|
      .op ⟨(some 150), .mov (.t 13), none⟩ <|
      .op ⟨(some 151), .iaddr 2 (.t 149) (.t 150), none⟩ <|
      .op ⟨(some 152), .load true 2 (.t 151), none⟩ <|
      .op ⟨(some 153), .mov (.t 0), none⟩ <|
      .op ⟨(some 154), .mov (.t 12), none⟩ <|
      .op ⟨(some 155), .iaddr 2 (.t 153) (.t 154), none⟩ <|
      .op ⟨(some 156), .load true 2 (.t 155), none⟩ <|
      .op ⟨(some 157), .iaddr 2 (.t 145) (.t 146), none⟩ <|
      .op ⟨none, .store 2 (.t 157) (.t 152), none⟩ <|
      .op ⟨(some 158), .iaddr 2 (.t 147) (.t 148), none⟩ <|
      .op ⟨none, .store 2 (.t 158) (.t 156), none⟩ <|
      .done)) <|
   .seq
   (.region [⟨(some 159), .mov (.t 12), none⟩,
      ⟨(some 160), .bin .add (.t 159) (.c (.int .i64 1)), none⟩,
      ⟨(some 12), .mov (.t 160), none⟩]) <|
   .region [⟨(some 161), .mov (.t 13), none⟩,
     ⟨(some 162), .bin .sub (.t 161) (.c (.int .i64 1)), none⟩,
     ⟨(some 13), .mov (.t 162), none⟩]) <|
 .seq
 (.draw false [13] (
    .op ⟨(some 163), .mov (.t 0), none⟩ <|
    .op ⟨(some 164), .mov (.t 13), none⟩ <|
    .op ⟨(some 165), .mov (.t 0), none⟩ <|
    .op ⟨(some 166), .mov (.t 1), none⟩ <|
    .op ⟨(some 167), .mov (.t 0), none⟩ <|
    .op ⟨(some 168), .mov (.t 1), none⟩ <|
    .op ⟨(some 169), .iaddr 2 (.t 167) (.t 168), none⟩ <|
    .op ⟨(some 170), .load true 2 (.t 169), none⟩ <|
    .op ⟨(some 171), .mov (.t 0), none⟩ <|
    .op ⟨(some 172), .mov (.t 13), none⟩ <|
    .op ⟨(some 173), .iaddr 2 (.t 171) (.t 172), none⟩ <|
    .op ⟨(some 174), .load true 2 (.t 173), none⟩ <|
    .op ⟨(some 175), .iaddr 2 (.t 163) (.t 164), none⟩ <|
    .op ⟨none, .store 2 (.t 175) (.t 170), none⟩ <|
    .op ⟨(some 176), .iaddr 2 (.t 165) (.t 166), none⟩ <|
    .op ⟨none, .store 2 (.t 176) (.t 174), none⟩ <|
    .done)) <|
 .seq
 (.region [⟨(some 177), .mov (.t 13), none⟩,
    ⟨(some 10), .mov (.t 177), none⟩,
    ⟨(some 11), .mov (.c (.bool false)), none⟩]) <|
 .ret, [.slot 10, .slot 11]⟩
theorem c67 : Code1 Try.prog 67 178 b67 := Code1.mk' Try.func67 (by kernel_rfl) (by kernel_rfl) Try.ntmps67

/-- slices.Reverse[[]fusee/agenda.Meeting,fusee/agenda.Meeting] -/
def b68 : IFn := ⟨
 .seq
 (.region [⟨(some 4), .mov (.t 0), none⟩,
    ⟨(some 5), .len .sl (.t 4), none⟩,
    ⟨(some 6), .bin .sub (.t 5) (.c (.int .i64 1)), none⟩,
    ⟨(some 2), .mov (.c (.int .i64 0)), none⟩,
    ⟨(some 3), .mov (.t 6), none⟩]) <|
 .block 0 <|
 .loop [0, 2, 3] <|
  .seq
  (.seq
   (.region [⟨(some 7), .mov (.t 2), none⟩,
      ⟨(some 8), .mov (.t 3), none⟩,
      ⟨(some 9), .bin .lss (.t 7) (.t 8), none⟩]) <|
   .cond (.t 9)
    (.skip)
    (.exit 0)) <|
  .seq
  (.block 1 <|
   .draw false [0, 2, 3] (
     .op ⟨(some 14), .mov (.t 0), none⟩ <|
     .op ⟨(some 15), .mov (.t 2), none⟩ <|
     .op ⟨(some 16), .mov (.t 0), none⟩ <|
     .op ⟨(some 17), .mov (.t 3), none⟩ <|
     .op ⟨(some 18), .mov (.t 0), none⟩ <|
     .op ⟨(some 19), .mov (.t 3), none⟩ <|
     .op ⟨(some 20), .iaddr 4 (.t 18) (.t 19), none⟩ <|
     .op ⟨(some 21), .load true 4 (.t 20), none⟩ <|
     .op ⟨(some 22), .mov (.t 0), none⟩ <|
     .op ⟨(some 23), .mov (.t 2), none⟩ <|
     .op ⟨(some 24), .iaddr 4 (.t 22) (.t 23), none⟩ <|
     .op ⟨(some 25), .load true 4 (.t 24), none⟩ <|
     .op ⟨(some 26), .iaddr 4 (.t 14) (.t 15), none⟩ <|
     .op ⟨none, .store 4 (.t 26) (.t 21), none⟩ <|
     .op ⟨(some 27), .iaddr 4 (.t 16) (.t 17), none⟩ <|
     .op ⟨none, .store 4 (.t 27) (.t 25), none⟩ <|
     .done)) <|
  .region [⟨(some 10), .mov (.t 2), none⟩,
    ⟨(some 11), .bin .add (.t 10) (.c (.int .i64 1)), none⟩,
    ⟨(some 12), .mov (.t 3), none⟩,
    ⟨(some 13), .bin .sub (.t 12) (.c (.int .i64 1)), none⟩,
    ⟨(some 2), .mov (.t 11), none⟩,
    ⟨(some 3), .mov (.t 13), none⟩], []⟩
theorem c68 : Code1 Try.prog 68 28 b68 := Code1.mk' Try.func68 (by kernel_rfl) (by kernel_rfl) Try.ntmps68

/-- slices.siftDownOrdered[int] -/
def b69 : IFn := ⟨
 .seq
 (.region [⟨(some 10), .mov (.t 1), none⟩,
    ⟨(some 8), .mov (.t 10), none⟩]) <|
 .block 0 <|
 .loop [0, 2, 3, 8] <|
  .block 1 <|
  .seq
  (.region [⟨(some 11), .mov (.t 8), none⟩,
     ⟨(some 12), .bin .mul (.c (.int .i64 2)) (.t 11), none⟩,
     ⟨(some 13), .bin .add (.t 12) (.c (.int .i64 1)), none⟩,
     ⟨(some 9), .mov (.t 13), none⟩]) <|
  .seq
  (.seq
   (.region [⟨(some 14), .mov (.t 9), none⟩,
      ⟨(some 15), .mov (.t 2), none⟩,
      ⟨(some 16), .bin .geq (.t 14) (.t 15), none⟩]) <|
   .cond (.t 16)
    (.exit 0)
    (.skip)) <|
  .seq
  (.seq
   (.draw false [0, 2, 3, 8, 9, 36] (
      .op ⟨(some 17), .mov (.t 9), none⟩ <|
      .op ⟨(some 18), .bin .add (.t 17) (.c (.int .i64 1)), none⟩ <|
      .op ⟨(some 19), .mov (.t 2), none⟩ <|
      .op ⟨(some 20), .bin .lss (.t 18) (.t 19), none⟩ <|
      .op ⟨(some 21), .mov (.t 20), none⟩ <|
      .op ⟨(some 22), .mov (.t 0), (some (21, true))⟩ <|
      .op ⟨(some 23), .mov (.t 3), (some (21, true))⟩ <|
      .op ⟨(some 24), .mov (.t 9), (some (21, true))⟩ <|
      .op ⟨(some 25), .bin .add (.t 23) (.t 24), (some (21, true))⟩ <|
      .op ⟨(some 26), .iaddr 1 (.t 22) (.t 25), (some (21, true))⟩ <|
      .op ⟨(some 27), .load false 1 (.t 26), (some (21, true))⟩ <|
      .op ⟨(some 28), .mov (.t 0), (some (21, true))⟩ <|
      .op ⟨(some 29), .mov (.t 3), (some (21, true))⟩ <|
      .op ⟨(some 30), .mov (.t 9), (some (21, true))⟩ <|
      .op ⟨(some 31), .bin .add (.t 29) (.t 30), (some (21, true))⟩ <|
      .op ⟨(some 32), .bin .add (.t 31) (.c (.int .i64 1)), (some (21, true))⟩ <|
      .op ⟨(some 33), .iaddr 1 (.t 28) (.t 32), (some (21, true))⟩ <|
      .op ⟨(some 34), .load false 1 (.t 33), (some (21, true))⟩ <|
      .op ⟨(some 35), .call (.f 55) [(.t 27), (.t 34)], (some (21, true))⟩ <|
      .op ⟨(some 36), .pick (.t 21) (.t 35) (.c (.bool false)), none⟩ <|
      .done)) <|
   .cond (.t 36)
    (.region [⟨(some 37), .mov (.t 9), none⟩,
       ⟨(some 38), .bin .add (.t 37) (.c (.int .i64 1)), none⟩,
       ⟨(some 9), .mov (.t 38), none⟩])
    (.skip)) <|
  .seq
  (.seq
   (.draw false [0, 2, 3, 8, 9, 52] (
      .op ⟨(some 39), .mov (.t 0), none⟩ <|
      .op ⟨(some 40), .mov (.t 3), none⟩ <|
      .op ⟨(some 41), .mov (.t 8), none⟩ <|
      .op ⟨(some 42), .bin .add (.t 40) (.t 41), none⟩ <|
      .op ⟨(some 43), .iaddr 1 (.t 39) (.t 42), none⟩ <|
      .op ⟨(some 44), .load false 1 (.t 43), none⟩ <|
      .op ⟨(some 45), .mov (.t 0), none⟩ <|
      .op ⟨(some 46), .mov (.t 3), none⟩ <|
      .op ⟨(some 47), .mov (.t 9), none⟩ <|
      .op ⟨(some 48), .bin .add (.t 46) (.t 47), none⟩ <|
      .op ⟨(some 49), .iaddr 1 (.t 45) (.t 48), none⟩ <|
      .op ⟨(some 50), .load false 1 (.t 49), none⟩ <|
      .op ⟨(some 51), .call (.f 55) [(.t 44), (.t 50)], none⟩ <|
      .op ⟨(some 52), .un .not (.t 51), none⟩ <|
      .done)) <|
   .cond (.t 52)
    (.ret)
    (.skip)) <|
  .seq
  (.draw false [0, 2, 3, 9] (
     .op ⟨(some 53), .mov (.t 0), none⟩ <|
     .op ⟨(some 54), .mov (.t 3), none⟩ <|
     .op ⟨(some 55), .mov (.t 8), none⟩ <|
     .op ⟨(some 56), .bin .add (.t 54) (.t 55), none⟩ <|
     .op ⟨(some 57), .mov (.t 0), none⟩ <|
     .op ⟨(some 58), .mov (.t 3), none⟩ <|
     .op ⟨(some 59), .mov (.t 9), none⟩ <|
     .op ⟨(some 60), .bin .add (.t 58) (.t 59), none⟩ <|
     .op ⟨(some 61), .mov (.t 0), none⟩ <|
     .op ⟨(some 62), .mov (.t 3), none⟩ <|
     .op ⟨(some 63), .mov (.t 9), none⟩ <|
     .op ⟨(some 64), .bin .add (.t 62) (.t 63), none⟩ <|
     .op ⟨(some 65), .iaddr 1 (.t 61) (.t 64), none⟩ <|
     .op ⟨(some 66), .load false 1 (.t 65), none⟩ <|
     .op ⟨(some 67), .mov (.t 0), none⟩ <|
     .op ⟨(some 68), .mov (.t 3), none⟩ <|
     .op ⟨(some 69), .mov (.t 8), none⟩ <|
     .op ⟨(some 70), .bin .add (.t 68) (.t 69), none⟩ <|
     .op ⟨(some 71), .iaddr 1 (.t 67) (.t 70), none⟩ <|
     .op ⟨(some 72), .load false 1 (.t 71), none⟩ <|
     .op ⟨(some 73), .iaddr 1 (.t 53) (.t 56), none⟩ <|
     .op ⟨none, .store 1 (.t 73) (.t 66), none⟩ <|
     .op ⟨(some 74), .iaddr 1 (.t 57) (.t 60), none⟩ <|
     .op ⟨none, .store 1 (.t 74) (.t 72), none⟩ <|
     .done)) <|
  .region [⟨(some 75), .mov (.t 9), none⟩,
    ⟨(some 8), .mov (.t 75), none⟩], []⟩
theorem c69 : Code1 Try.prog 69 76 b69 := Code1.mk' Try.func69 (by kernel_rfl) (by kernel_rfl) Try.ntmps69

/-- slices.nextPowerOfTwo -/
def b70 : IFn := ⟨
 .seq
 (.region [⟨(some 2), .mov (.c (.int .u64 0)), none⟩]) <|
 .seq
 (.region [⟨(some 3), .mov (.t 0), none⟩,
    ⟨(some 4), .conv .u64 (.t 3), none⟩,
    ⟨(some 5), .call (.f 44) [(.t 4)], none⟩,
    ⟨(some 6), .bin .shl (.c (.int .u64 1)) (.t 5), none⟩,
    ⟨(some 2), .mov (.t 6), none⟩]) <|
 .ret, [.slot 2]⟩
theorem c70 : Code1 Try.prog 70 7 b70 := Code1.mk' Try.func70 (by kernel_rfl) (by kernel_rfl) Try.ntmps70

/-- slices.xorshift.Next -/
def b71 : IFn := ⟨
 .seq
 (.region [⟨(some 2), .mov (.c (.int .u64 0)), none⟩]) <|
 .seq
 (.draw false [0] (
    .op ⟨(some 3), .mov (.t 0), none⟩ <|
    .op ⟨(some 4), .nilck (.t 3), none⟩ <|
    .op ⟨(some 5), .load false 1 (.t 4), none⟩ <|
    .op ⟨(some 6), .mov (.t 0), none⟩ <|
    .op ⟨(some 7), .nilck (.t 6), none⟩ <|
    .op ⟨(some 8), .load false 1 (.t 7), none⟩ <|
    .op ⟨(some 9), .bin .shl (.t 8) (.c (.int .u64 13)), none⟩ <|
    .op ⟨(some 10), .bin .xor (.t 5) (.t 9), none⟩ <|
    .op ⟨(some 11), .nilck (.t 3), none⟩ <|
    .op ⟨none, .store 1 (.t 11) (.t 10), none⟩ <|
    .done)) <|
 .seq
 (.draw false [0] (
    .op ⟨(some 12), .mov (.t 0), none⟩ <|
    .op ⟨(some 13), .nilck (.t 12), none⟩ <|
    .op ⟨(some 14), .load false 1 (.t 13), none⟩ <|
    .op ⟨(some 15), .mov (.t 0), none⟩ <|
    .op ⟨(some 16), .nilck (.t 15), none⟩ <|
    .op ⟨(some 17), .load false 1 (.t 16), none⟩ <|
    .op ⟨(some 18), .bin .shr (.t 17) (.c (.int .u64 7)), none⟩ <|
    .op ⟨(some 19), .bin .xor (.t 14) (.t 18), none⟩ <|
    .op ⟨(some 20), .nilck (.t 12), none⟩ <|
    .op ⟨none, .store 1 (.t 20) (.t 19), none⟩ <|
    .done)) <|
 .seq
 (.draw false [0] (
    .op ⟨(some 21), .mov (.t 0), none⟩ <|
    .op ⟨(some 22), .nilck (.t 21), none⟩ <|
    .op ⟨(some 23), .load false 1 (.t 22), none⟩ <|
    .op ⟨(some 24), .mov (.t 0), none⟩ <|
    .op ⟨(some 25), .nilck (.t 24), none⟩ <|
    .op ⟨(some 26), .load false 1 (.t 25), none⟩ <|
    .op ⟨(some 27), .bin .shl (.t 26) (.c (.int .u64 17)), none⟩ <|
    .op ⟨(some 28), .bin .xor (.t 23) (.t 27), none⟩ <|
    .op ⟨(some 29), .nilck (.t 21), none⟩ <|
    .op ⟨none, .store 1 (.t 29) (.t 28), none⟩ <|
    .done)) <|
 .seq
 (.region [⟨(some 30), .mov (.t 0), none⟩,
    ⟨(some 31), .nilck (.t 30), none⟩,
    ⟨(some 32), .load false 1 (.t 31), none⟩,
    ⟨(some 2), .mov (.t 32), none⟩]) <|
 .ret, [.slot 2]⟩
theorem c71 : Code1 Try.prog 71 33 b71 := Code1.mk' Try.func71 (by kernel_rfl) (by kernel_rfl) Try.ntmps71

/-- slices.medianAdjacentOrdered[int] -/
def b72 : IFn := ⟨
 .seq
 (.region [⟨(some 6), .mov (.c (.int .i64 0)), none⟩]) <|
 .seq
 (.region [⟨(some 7), .mov (.t 0), none⟩,
    ⟨(some 8), .mov (.t 1), none⟩,
    ⟨(some 9), .bin .sub (.t 8) (.c (.int .i64 1)), none⟩,
    ⟨(some 10), .mov (.t 1), none⟩,
    ⟨(some 11), .mov (.t 1), none⟩,
    ⟨(some 12), .bin .add (.t 11) (.c (.int .i64 1)), none⟩,
    ⟨(some 13), .mov (.t 2), none⟩,
    ⟨(some 14), .call (.f 73) [(.t 7), (.t 9), (.t 10), (.t 12), (.t 13)], none⟩,
    ⟨(some 6), .mov (.t 14), none⟩]) <|
 .ret, [.slot 6]⟩
theorem c72 : Code1 Try.prog 72 15 b72 := Code1.mk' Try.func72 (by kernel_rfl) (by kernel_rfl) Try.ntmps72

/-- slices.medianOrdered[int] -/
def b73 : IFn := ⟨
 .seq
 (.region [⟨(some 10), .mov (.c (.int .i64 0)), none⟩]) <|
 .seq
 (.region [⟨(some 12), .mov (.t 0), none⟩,
    ⟨(some 13), .mov (.t 1), none⟩,
    ⟨(some 14), .mov (.t 2), none⟩,
    ⟨(some 15), .mov (.t 4), none⟩,
    ⟨(some 16), .call (.f 77) [(.t 12), (.t 13), (.t 14), (.t 15)], none⟩,
    ⟨(some 11), .mov (.t 16), none⟩,
    ⟨(some 17), .extract (.t 11) 0, none⟩,
    ⟨(some 18), .extract (.t 11) 1, none⟩,
    ⟨(some 1), .mov (.t 17), none⟩,
    ⟨(some 2), .mov (.t 18), none⟩]) <|
 .seq
 (.region [⟨(some 20), .mov (.t 0), none⟩,
    ⟨(some 21), .mov (.t 2), none⟩,
    ⟨(some 22), .mov (.t 3), none⟩,
    ⟨(some 23), .mov (.t 4), none⟩,
    ⟨(some 24), .call (.f 77) [(.t 20), (.t 21), (.t 22), (.t 23)], none⟩,
    ⟨(some 19), .mov (.t 24), none⟩,
    ⟨(some 25), .extract (.t 19) 0, none⟩,
    ⟨(some 26), .extract (.t 19) 1, none⟩,
    ⟨(some 2), .mov (.t 25), none⟩,
    ⟨(some 3), .mov (.t 26), none⟩]) <|
 .seq
 (.region [⟨(some 28), .mov (.t 0), none⟩,
    ⟨(some 29), .mov (.t 1), none⟩,
    ⟨(some 30), .mov (.t 2), none⟩,
    ⟨(some 31), .mov (.t 4), none⟩,
    ⟨(some 32), .call (.f 77) [(.t 28), (.t 29), (.t 30), (.t 31)], none⟩,
    ⟨(some 27), .mov (.t 32), none⟩,
    ⟨(some 33), .extract (.t 27) 0, none⟩,
    ⟨(some 34), .extract (.t 27) 1, none⟩,
    ⟨(some 1), .mov (.t 33), none⟩,
    ⟨(some 2), .mov (.t 34), none⟩]) <|
 .seq
 (.region [⟨(some 35), .mov (.t 2), none⟩,
    ⟨(some 10), .mov (.t 35), none⟩]) <|
 .ret, [.slot 10]⟩
theorem c73 : Code1 Try.prog 73 36 b73 := Code1.mk' Try.func73 (by kernel_rfl) (by kernel_rfl) Try.ntmps73

/-- slices.siftDownCmpFunc[fusee/span.Span] -/
def b74 : IFn := ⟨
 .seq
 (.region [⟨(some 12), .mov (.t 1), none⟩,
    ⟨(some 10), .mov (.t 12), none⟩]) <|
 .block 0 <|
 .loop [0, 2, 3, 4, 10] <|
  .block 1 <|
  .seq
  (.region [⟨(some 13), .mov (.t 10), none⟩,
     ⟨(some 14), .bin .mul (.c (.int .i64 2)) (.t 13), none⟩,
     ⟨(some 15), .bin .add (.t 14) (.c (.int .i64 1)), none⟩,
     ⟨(some 11), .mov (.t 15), none⟩]) <|
  .seq
  (.seq
   (.region [⟨(some 16), .mov (.t 11), none⟩,
      ⟨(some 17), .mov (.t 2), none⟩,
      ⟨(some 18), .bin .geq (.t 16) (.t 17), none⟩]) <|
   .cond (.t 18)
    (.exit 0)
    (.skip)) <|
  .seq
  (.seq
   (.draw false [0, 2, 3, 4, 10, 11, 40] (
      .op ⟨(some 19), .mov (.t 11), none⟩ <|
      .op ⟨(some 20), .bin .add (.t 19) (.c (.int .i64 1)), none⟩ <|
      .op ⟨(some 21), .mov (.t 2), none⟩ <|
      .op ⟨(some 22), .bin .lss (.t 20) (.t 21), none⟩ <|
      .op ⟨(some 23), .mov (.t 22), none⟩ <|
      .op ⟨(some 24), .mov (.t 4), (some (23, true))⟩ <|
      .op ⟨(some 25), .mov (.t 0), (some (23, true))⟩ <|
      .op ⟨(some 26), .mov (.t 3), (some (23, true))⟩ <|
      .op ⟨(some 27), .mov (.t 11), (some (23, true))⟩ <|
      .op ⟨(some 28), .bin .add (.t 26) (.t 27), (some (23, true))⟩ <|
      .op ⟨(some 29), .iaddr 2 (.t 25) (.t 28), (some (23, true))⟩ <|
      .op ⟨(some 30), .load true 2 (.t 29), (some (23, true))⟩ <|
      .op ⟨(some 31), .mov (.t 0), (some (23, true))⟩ <|
      .op ⟨(some 32), .mov (.t 3), (some (23, true))⟩ <|
      .op ⟨(some 33), .mov (.t 11), (some (23, true))⟩ <|
      .op ⟨(some 34), .bin .add (.t 32) (.t 33), (some (23, true))⟩ <|
      .op ⟨(some 35), .bin .add (.t 34) (.c (.int .i64 1)), (some (23, true))⟩ <|
      .op ⟨(some 36), .iaddr 2 (.t 31) (.t 35), (some (23, true))⟩ <|
      .op ⟨(some 37), .load true 2 (.t 36), (some (23, true))⟩ <|
      .op ⟨(some 38), .call (.t 24) [(.t 30), (.t 37)], (some (23, true))⟩ <|
      .op ⟨(some 39), .bin .lss (.t 38) (.c (.int .i64 0)), (some (23, true))⟩ <|
      .op ⟨(some 40), .pick (.t 23) (.t 39) (.c (.bool false)), none⟩ <|
      .done)) <|
   .cond (.t 40)
    (.region [⟨(some 41), .mov (.t 11), none⟩,
       ⟨(some 42), .bin .add (.t 41) (.c (.int .i64 1)), none⟩,
       ⟨(some 11), .mov (.t 42), none⟩])
    (.skip)) <|
  .seq
  (.seq
   (.draw false [0, 2, 3, 4, 10, 11, 58] (
      .op ⟨(some 43), .mov (.t 4), none⟩ <|
      .op ⟨(some 44), .mov (.t 0), none⟩ <|
      .op ⟨(some 45), .mov (.t 3), none⟩ <|
      .op ⟨(some 46), .mov (.t 10), none⟩ <|
      .op ⟨(some 47), .bin .add (.t 45) (.t 46), none⟩ <|
      .op ⟨(some 48), .iaddr 2 (.t 44) (.t 47), none⟩ <|
      .op ⟨(some 49), .load true 2 (.t 48), none⟩ <|
      .op ⟨(some 50), .mov (.t 0), none⟩ <|
      .op ⟨(some 51), .mov (.t 3), none⟩ <|
      .op ⟨(some 52), .mov (.t 11), none⟩ <|
      .op ⟨(some 53), .bin .add (.t 51) (.t 52), none⟩ <|
      .op ⟨(some 54), .iaddr 2 (.t 50) (.t 53), none⟩ <|
      .op ⟨(some 55), .load true 2 (.t 54), none⟩ <|
      .op ⟨(some 56), .call (.t 43) [(.t 49), (.t 55)], none⟩ <|
      .op ⟨(some 57), .bin .lss (.t 56) (.c (.int .i64 0)), none⟩ <|
      .op ⟨(some 58), .un .not (.t 57), none⟩ <|
      .done)) <|
   .cond (.t 58)
    (.ret)
    (.skip)) <|
  .seq
  (.draw false [0, 2, 3, 4, 11] (
     .op ⟨(some 59), .mov (.t 0), none⟩ <|
     .op ⟨(some 60), .mov (.t 3), none⟩ <|
     .op ⟨(some 61), .mov (.t 10), none⟩ <|
     .op ⟨(some 62), .bin .add (.t 60) (.t 61), none⟩ <|
     .op ⟨(some 63), .mov (.t 0), none⟩ <|
     .op ⟨(some 64), .mov (.t 3), none⟩ <|
     .op ⟨(some 65), .mov (.t 11), none⟩ <|
     .op ⟨(some 66), .bin .add (.t 64) (.t 65), none⟩ <|
     .op ⟨(some 67), .mov (.t 0), none⟩ <|
     .op ⟨(some 68), .mov (.t 3), none⟩ <|
     .op ⟨(some 69), .mov (.t 11), none⟩ <|
     .op ⟨(some 70), .bin .add (.t 68) (.t 69), none⟩ <|
     .op ⟨(some 71), .iaddr 2 (.t 67) (.t 70), none⟩ <|
     .op ⟨(some 72), .load true 2 (.t 71), none⟩ <|
     .op ⟨(some 73), .mov (.t 0), none⟩ <|
     .op ⟨(some 74), .mov (.t 3), none⟩ <|
     .op ⟨(some 75), .mov (.t 10), none⟩ <|
     .op ⟨(some 76), .bin .add (.t 74) (.t 75), none⟩ <|
     .op ⟨(some 77), .iaddr 2 (.t 73) (.t 76), none⟩ <|
     .op ⟨(some 78), .load true 2 (.t 77), none⟩ <|
     .op ⟨(some 79), .iaddr 2 (.t 59) (.t 62), none⟩ <|
     .op ⟨none, .store 2 (.t 79) (.t 72), none⟩ <|
     .op ⟨(some 80), .iaddr 2 (.t 63) (.t 66), none⟩ <|
     .op ⟨none, .store 2 (.t 80) (.t 78), none⟩ <|
     .done)) <|
  .region [⟨(some 81), .mov (.t 11), none⟩,
    ⟨(some 10), .mov (.t 81), none⟩], []⟩
theorem c74 : Code1 Try.prog 74 82 b74 := Code1.mk' Try.func74 (by kernel_rfl) (by kernel_rfl) Try.ntmps74

/-- slices.medianAdjacentCmpFunc[fusee/span.Span] -/
def b75 : IFn := ⟨
 .seq
 (.region [⟨(some 8), .mov (.c (.int .i64 0)), none⟩]) <|
 .seq
 (.region [⟨(some 9), .mov (.t 0), none⟩,
    ⟨(some 10), .mov (.t 1), none⟩,
    ⟨(some 11), .bin .sub (.t 10) (.c (.int .i64 1)), none⟩,
    ⟨(some 12), .mov (.t 1), none⟩,
    ⟨(some 13), .mov (.t 1), none⟩,
    ⟨(some 14), .bin .add (.t 13) (.c (.int .i64 1)), none⟩,
    ⟨(some 15), .mov (.t 2), none⟩,
    ⟨(some 16), .mov (.t 3), none⟩,
    ⟨(some 17), .call (.f 76) [(.t 9), (.t 11), (.t 12), (.t 14), (.t 15), (.t 16)], none⟩,
    ⟨(some 8), .mov (.t 17), none⟩]) <|
 .ret, [.slot 8]⟩
theorem c75 : Code1 Try.prog 75 18 b75 := Code1.mk' Try.func75 (by kernel_rfl) (by kernel_rfl) Try.ntmps75

/-- slices.medianCmpFunc[fusee/span.Span] -/
def b76 : IFn := ⟨
 .seq
 (.region [⟨(some 12), .mov (.c (.int .i64 0)), none⟩]) <|
 .seq
 (.region [⟨(some 14), .mov (.t 0), none⟩,
    ⟨(some 15), .mov (.t 1), none⟩,
    ⟨(some 16), .mov (.t 2), none⟩,
    ⟨(some 17), .mov (.t 4), none⟩,
    ⟨(some 18), .mov (.t 5), none⟩,
    ⟨(some 19), .call (.f 78) [(.t 14), (.t 15), (.t 16), (.t 17), (.t 18)], none⟩,
    ⟨(some 13), .mov (.t 19), none⟩,
    ⟨(some 20), .extract (.t 13) 0, none⟩,
    ⟨(some 21), .extract (.t 13) 1, none⟩,
    ⟨(some 1), .mov (.t 20), none⟩,
    ⟨(some 2), .mov (.t 21), none⟩]) <|
 .seq
 (.region [⟨(some 23), .mov (.t 0), none⟩,
    ⟨(some 24), .mov (.t 2), none⟩,
    ⟨(some 25), .mov (.t 3), none⟩,
    ⟨(some 26), .mov (.t 4), none⟩,
    ⟨(some 27), .mov (.t 5), none⟩,
    ⟨(some 28), .call (.f 78) [(.t 23), (.t 24), (.t 25), (.t 26), (.t 27)], none⟩,
    ⟨(some 22), .mov (.t 28), none⟩,
    ⟨(some 29), .extract (.t 22) 0, none⟩,
    ⟨(some 30), .extract (.t 22) 1, none⟩,
    ⟨(some 2), .mov (.t 29), none⟩,
    ⟨(some 3), .mov (.t 30), none⟩]) <|
 .seq
 (.region [⟨(some 32), .mov (.t 0), none⟩,
    ⟨(some 33), .mov (.t 1), none⟩,
    ⟨(some 34), .mov (.t 2), none⟩,
    ⟨(some 35), .mov (.t 4), none⟩,
    ⟨(some 36), .mov (.t 5), none⟩,
    ⟨(some 37), .call (.f 78) [(.t 32), (.t 33), (.t 34), (.t 35), (.t 36)], none⟩,
    ⟨(some 31), .mov (.t 37), none⟩,
    ⟨(some 38), .extract (.t 31) 0, none⟩,
    ⟨(some 39), .extract (.t 31) 1, none⟩,
    ⟨(some 1), .mov (.t 38), none⟩,
    ⟨(some 2), .mov (.t 39), none⟩]) <|
 .seq
 (.region [⟨(some 40), .mov (.t 2), none⟩,
    ⟨(some 12), .mov (.t 40), none⟩]) <|
 .ret, [.slot 12]⟩
theorem c76 : Code1 Try.prog 76 41 b76 := Code1.mk' Try.func76 (by kernel_rfl) (by kernel_rfl) Try.ntmps76

/-- slices.order2Ordered[int] -/
def b77 : IFn := ⟨
 .seq
 (.region [⟨(some 8), .mov (.c (.int .i64 0)), none⟩,
    ⟨(some 9), .mov (.c (.int .i64 0)), none⟩]) <|
 .seq
 (.seq
  (.draw false [1, 2, 3, 18] (
     .op ⟨(some 10), .mov (.t 0), none⟩ <|
     .op ⟨(some 11), .mov (.t 2), none⟩ <|
     .op ⟨(some 12), .iaddr 1 (.t 10) (.t 11), none⟩ <|
     .op ⟨(some 13), .load false 1 (.t 12), none⟩ <|
     .op ⟨(some 14), .mov (.t 0), none⟩ <|
     .op ⟨(some 15), .mov (.t 1), none⟩ <|
     .op ⟨(some 16), .iaddr 1 (.t 14) (.t 15), none⟩ <|
     .op ⟨(some 17), .load false 1 (.t 16), none⟩ <|
     .op ⟨(some 18), .call (.f 55) [(.t 13), (.t 17)], none⟩ <|
     .done)) <|
  .cond (.t 18)
   (.seq
    (.region [⟨(some 19), .mov (.t 3), none⟩,
       ⟨(some 20), .nilck (.t 19), none⟩,
       ⟨(some 21), .load false 1 (.t 20), none⟩,
       ⟨(some 22), .bin .add (.t 21) (.c (.int .i64 1)), none⟩,
       ⟨(some 23), .nilck (.t 19), none⟩,
       ⟨none, .store 1 (.t 23) (.t 22), none⟩]) <|
    .seq
    (.region [⟨(some 24), .mov (.t 2), none⟩,
       ⟨(some 25), .mov (.t 1), none⟩,
       ⟨(some 8), .mov (.t 24), none⟩,
       ⟨(some 9), .mov (.t 25), none⟩]) <|
    .ret)
   (.skip)) <|
 .seq
 (.region [⟨(some 26), .mov (.t 1), none⟩,
    ⟨(some 27), .mov (.t 2), none⟩,
    ⟨(some 8), .mov (.t 26), none⟩,
    ⟨(some 9), .mov (.t 27), none⟩]) <|
 .ret, [.slot 8, .slot 9]⟩
theorem c77 : Code1 Try.prog 77 28 b77 := Code1.mk' Try.func77 (by kernel_rfl) (by kernel_rfl) Try.ntmps77

/-- slices.order2CmpFunc[fusee/span.Span] -/
def b78 : IFn := ⟨
 .seq
 (.region [⟨(some 10), .mov (.c (.int .i64 0)), none⟩,
    ⟨(some 11), .mov (.c (.int .i64 0)), none⟩]) <|
 .seq
 (.seq
  (.draw false [1, 2, 3, 22] (
     .op ⟨(some 12), .mov (.t 4), none⟩ <|
     .op ⟨(some 13), .mov (.t 0), none⟩ <|
     .op ⟨(some 14), .mov (.t 2), none⟩ <|
     .op ⟨(some 15), .iaddr 2 (.t 13) (.t 14), none⟩ <|
     .op ⟨(some 16), .load true 2 (.t 15), none⟩ <|
     .op ⟨(some 17), .mov (.t 0), none⟩ <|
     .op ⟨(some 18), .mov (.t 1), none⟩ <|
     .op ⟨(some 19), .iaddr 2 (.t 17) (.t 18), none⟩ <|
     .op ⟨(some 20), .load true 2 (.t 19), none⟩ <|
     .op ⟨(some 21), .call (.t 12) [(.t 16), (.t 20)], none⟩ <|
     .op ⟨(some 22), .bin .lss (.t 21) (.c (.int .i64 0)), none⟩ <|
     .done)) <|
  .cond (.t 22)
   (.seq
    (.region [⟨(some 23), .mov (.t 3), none⟩,
       ⟨(some 24), .nilck (.t 23), none⟩,
       ⟨(some 25), .load false 1 (.t 24), none⟩,
       ⟨(some 26), .bin .add (.t 25) (.c (.int .i64 1)), none⟩,
       ⟨(some 27), .nilck (.t 23), none⟩,
       ⟨none, .store 1 (.t 27) (.t 26), none⟩]) <|
    .seq
    (.region [⟨(some 28), .mov (.t 2), none⟩,
       ⟨(some 29), .mov (.t 1), none⟩,
       ⟨(some 10), .mov (.t 28), none⟩,
       ⟨(some 11), .mov (.t 29), none⟩]) <|
    .ret)
   (.skip)) <|
 .seq
 (.region [⟨(some 30), .mov (.t 1), none⟩,
    ⟨(some 31), .mov (.t 2), none⟩,
    ⟨(some 10), .mov (.t 30), none⟩,
    ⟨(some 11), .mov (.t 31), none⟩]) <|
 .ret, [.slot 10, .slot 11]⟩
theorem c78 : Code1 Try.prog 78 32 b78 := Code1.mk' Try.func78 (by kernel_rfl) (by kernel_rfl) Try.ntmps78

/-- The functions that the facts at the head of each statement call. -/
abbrev code : CodeL := [(5, 116, b5), (7, 45, b7), (8, 28, b8), (9, 19, b9), (10, 41, b10), (11, 15, b11), (12, 71, b12), (13, 34, b13), (14, 22, b14), (15, 10, b15), (18, 31, b18), (19, 39, b19), (20, 54, b20), (21, 24, b21), (22, 9, b22), (23, 49, b23), (24, 19, b24), (25, 95, b25), (26, 29, b26), (27, 11, b27), (28, 33, b28), (29, 8, b29), (30, 18, b30), (31, 8, b31), (32, 42, b32), (33, 8, b33), (34, 6, b34), (35, 14, b35), (36, 10, b36), (37, 20, b37), (38, 19, b38), (39, 8, b39), (40, 18, b40), (42, 10, b42), (43, 134, b43), (44, 8, b44), (45, 19, b45), (46, 148, b46), (47, 6, b47), (48, 14, b48), (49, 49, b49), (50, 56, b50), (51, 65, b51), (52, 57, b52), (53, 32, b53), (54, 133, b54), (55, 17, b55), (56, 84, b56), (57, 168, b57), (58, 19, b58), (59, 25, b59), (60, 53, b60), (61, 60, b61), (62, 67, b62), (63, 63, b63), (64, 34, b64), (65, 141, b65), (66, 90, b66), (67, 178, b67), (68, 28, b68), (69, 76, b69), (70, 7, b70), (71, 33, b71), (72, 15, b72), (73, 36, b73), (74, 82, b74), (75, 18, b75), (76, 41, b76), (77, 28, b77), (78, 32, b78)]
theorem codeOk : CodeOk Try.prog code := ⟨c5, c7, c8, c9, c10, c11, c12, c13, c14, c15, c18, c19, c20, c21, c22, c23, c24, c25, c26, c27, c28, c29, c30, c31, c32, c33, c34, c35, c36, c37, c38, c39, c40, c42, c43, c44, c45, c46, c47, c48, c49, c50, c51, c52, c53, c54, c55, c56, c57, c58, c59, c60, c61, c62, c63, c64, c65, c66, c67, c68, c69, c70, c71, c72, c73, c74, c75, c76, c77, c78, trivial⟩

end Go.Proofs.Ytbacmgdlhbfddaa
