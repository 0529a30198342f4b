/-
  THE CODE of the functions of this seat, as the plain machine's; each is what the compiler makes of the program's.
-/
import Derived.Test.YtledckcliiemoaaChecked
import Derived.Test.YtledckcliiemoaaAm23
import Derived.KernelRfl
namespace Go.Proofs.Ytledckcliiemoaa
open Go Go.AM
set_option linter.unusedVariables false

theorem hm : Try.prog.follows .mixedOrders = true := by kernel_rfl

/-- fusee/fuseelaw36.HistoCounts -/
def b3 : IFn := ⟨
 .seq
 (.region [⟨(some 6), .mov (.c (.bool false)), none⟩]) <|
 .seq
 (.seq
  (.region [⟨(some 24), .call (.f 6) [], none⟩,
     ⟨(some 25), .un .not (.t 24), none⟩]) <|
  .cond (.t 25)
   (.seq
    (.region [⟨(some 6), .mov (.c (.bool false)), none⟩]) <|
    .ret)
   (.skip)) <|
 .seq
 (.seq
  (.region [⟨(some 26), .mov (.t 0), none⟩,
     ⟨(some 27), .len .sl (.t 26), none⟩,
     ⟨(some 28), .bin .gtr (.t 27) (.c (.int .i64 150)), none⟩]) <|
  .cond (.t 28)
   (.seq
    (.region [⟨(some 6), .mov (.c (.bool true)), none⟩]) <|
    .ret)
   (.skip)) <|
 .seq
 (.region [⟨(some 29), .call (.f 7) [], none⟩,
    ⟨(some 7), .mov (.t 29), none⟩]) <|
 .seq
 (.region [⟨(some 30), .mov (.t 0), none⟩,
    ⟨(some 31), .call (.f 8) [(.t 30)], none⟩,
    ⟨(some 8), .mov (.t 31), none⟩]) <|
 .seq
 (.seq
  (.region [⟨(some 32), .mov (.t 0), none⟩,
     ⟨(some 33), .len .sl (.t 32), none⟩,
     ⟨(some 34), .mov (.c (.int .i64 0)), none⟩]) <|
  .block 0 <|
  .loop [0, 1, 2, 7, 8, 32, 33, 34] <|
   .seq
   (.region [⟨(some 35), .bin .lss (.t 34) (.t 33), none⟩]) <|
   .seq
   (.cond (.t 35)
     (.skip)
     (.exit 0)) <|
   .seq
   (.block 1 <|
    .seq
    (.region [⟨(some 36), .iaddr 1 (.t 32) (.t 34), none⟩,
       ⟨(some 37), .load false 1 (.t 36), none⟩,
       ⟨(some 10), .mov (.t 37), none⟩]) <|
    .region [⟨(some 38), .mov (.t 7), none⟩,
      ⟨(some 39), .mov (.t 10), none⟩,
      ⟨(some 40), .call (.f 9) [(.t 38), (.t 39)], none⟩]) <|
   .region [⟨(some 41), .bin .add (.t 34) (.c (.int .i64 1)), none⟩,
     ⟨(some 34), .mov (.t 41), none⟩]) <|
 .seq
 (.region [⟨(some 11), .mov (.c (.int .i64 0)), none⟩]) <|
 .seq
 (.region [⟨(some 42), .mov (.t 7), none⟩,
    ⟨(some 43), .call (.f 10) [(.t 42)], none⟩,
    ⟨(some 12), .mov (.t 43), none⟩]) <|
 .seq
 (.seq
  (.region [⟨(some 44), .mov (.t 12), none⟩,
     ⟨(some 45), .len .sl (.t 44), none⟩,
     ⟨(some 46), .mov (.c (.int .i64 0)), none⟩]) <|
  .block 2 <|
  .loop [0, 1, 2, 7, 8, 11, 12, 44, 45, 46] <|
   .seq
   (.region [⟨(some 47), .bin .lss (.t 46) (.t 45), none⟩]) <|
   .seq
   (.cond (.t 47)
     (.skip)
     (.exit 2)) <|
   .seq
   (.block 3 <|
    .seq
    (.region [⟨(some 48), .mov (.t 46), none⟩,
       ⟨(some 49), .iaddr 1 (.t 44) (.t 46), none⟩,
       ⟨(some 50), .load false 1 (.t 49), none⟩,
       ⟨(some 13), .mov (.t 48), none⟩,
       ⟨(some 14), .mov (.t 50), none⟩]) <|
    .seq
    (.region [⟨(some 15), .mov (.c (.int .i64 0)), none⟩]) <|
    .seq
    (.seq
     (.region [⟨(some 51), .mov (.t 8), none⟩,
        ⟨(some 52), .len .sl (.t 51), none⟩,
        ⟨(some 53), .mov (.c (.int .i64 0)), none⟩]) <|
     .block 4 <|
     .loop [0, 1, 2, 7, 8, 11, 12, 13, 14, 15, 44, 45, 46, 51, 52, 53] <|
      .seq
      (.region [⟨(some 54), .bin .lss (.t 53) (.t 52), none⟩]) <|
      .seq
      (.cond (.t 54)
        (.skip)
        (.exit 4)) <|
      .seq
      (.block 5 <|
       .seq
       (.region [⟨(some 55), .iaddr 1 (.t 51) (.t 53), none⟩,
          ⟨(some 56), .load false 1 (.t 55), none⟩,
          ⟨(some 17), .mov (.t 56), none⟩]) <|
       .seq
       (.region [⟨(some 57), .mov (.t 17), none⟩,
          ⟨(some 58), .call (.f 11) [(.t 57)], none⟩,
          ⟨(some 59), .mov (.t 13), none⟩,
          ⟨(some 60), .bin .eql (.t 58) (.t 59), none⟩]) <|
       .cond (.t 60)
        (.region [⟨(some 61), .mov (.t 15), none⟩,
           ⟨(some 62), .bin .add (.t 61) (.c (.int .i64 1)), none⟩,
           ⟨(some 15), .mov (.t 62), none⟩])
        (.skip)) <|
      .region [⟨(some 63), .bin .add (.t 53) (.c (.int .i64 1)), none⟩,
        ⟨(some 53), .mov (.t 63), none⟩]) <|
    .seq
    (.seq
     (.region [⟨(some 64), .mov (.t 14), none⟩,
        ⟨(some 65), .mov (.t 15), none⟩,
        ⟨(some 66), .bin .neq (.t 64) (.t 65), none⟩]) <|
     .cond (.t 66)
      (.seq
       (.region [⟨(some 6), .mov (.c (.bool false)), none⟩]) <|
       .ret)
      (.skip)) <|
    .region [⟨(some 67), .mov (.t 11), none⟩,
      ⟨(some 68), .mov (.t 14), none⟩,
      ⟨(some 69), .bin .add (.t 67) (.t 68), none⟩,
      ⟨(some 11), .mov (.t 69), none⟩]) <|
   .region [⟨(some 70), .bin .add (.t 46) (.c (.int .i64 1)), none⟩,
     ⟨(some 46), .mov (.t 70), none⟩]) <|
 .seq
 (.region [⟨(some 72), .mov (.t 7), none⟩,
    ⟨(some 73), .call (.f 12) [(.t 72)], none⟩,
    ⟨(some 71), .mov (.t 73), none⟩,
    ⟨(some 74), .extract (.t 71) 0, none⟩,
    ⟨(some 75), .extract (.t 71) 1, none⟩,
    ⟨(some 18), .mov (.t 74), none⟩,
    ⟨(some 19), .mov (.t 75), none⟩]) <|
 .seq
 (.region [⟨(some 77), .mov (.t 7), none⟩,
    ⟨(some 78), .call (.f 13) [(.t 77)], none⟩,
    ⟨(some 76), .mov (.t 78), none⟩,
    ⟨(some 79), .extract (.t 76) 0, none⟩,
    ⟨(some 80), .extract (.t 76) 1, none⟩,
    ⟨(some 20), .mov (.t 79), none⟩,
    ⟨(some 21), .mov (.t 80), none⟩]) <|
 .seq
 (.seq
  (.region [⟨(some 81), .mov (.t 11), none⟩,
     ⟨(some 82), .mov (.t 0), none⟩,
     ⟨(some 83), .len .sl (.t 82), none⟩,
     ⟨(some 84), .bin .neq (.t 81) (.t 83), none⟩,
     ⟨(some 85), .mov (.t 84), none⟩,
     ⟨(some 86), .mov (.t 7), (some (85, false))⟩,
     ⟨(some 87), .call (.f 14) [(.t 86)], (some (85, false))⟩,
     ⟨(some 88), .mov (.t 11), (some (85, false))⟩,
     ⟨(some 89), .bin .neq (.t 87) (.t 88), (some (85, false))⟩,
     ⟨(some 90), .pick (.t 85) (.c (.bool true)) (.t 89), none⟩,
     ⟨(some 91), .mov (.t 90), none⟩,
     ⟨(some 92), .mov (.t 19), (some (91, false))⟩,
     ⟨(some 93), .mov (.t 11), (some (91, false))⟩,
     ⟨(some 94), .bin .gtr (.t 93) (.c (.int .i64 0)), (some (91, false))⟩,
     ⟨(some 95), .eq true false [.bool] (.t 92) (.t 94), (some (91, false))⟩,
     ⟨(some 96), .pick (.t 91) (.c (.bool true)) (.t 95), none⟩,
     ⟨(some 97), .mov (.t 96), none⟩,
     ⟨(some 98), .mov (.t 21), (some (97, false))⟩,
     ⟨(some 99), .mov (.t 19), (some (97, false))⟩,
     ⟨(some 100), .eq true false [.bool] (.t 98) (.t 99), (some (97, false))⟩,
     ⟨(some 101), .pick (.t 97) (.c (.bool true)) (.t 100), none⟩,
     ⟨(some 102), .mov (.t 101), none⟩,
     ⟨(some 103), .mov (.t 19), (some (102, false))⟩,
     ⟨(some 104), .mov (.t 103), (some (102, false))⟩,
     ⟨(some 105), .mov (.t 18), (some (104, true))⟩,
     ⟨(some 106), .mov (.t 8), (some (104, true))⟩,
     ⟨(some 107), .iaddr 1 (.t 106) (.c (.int .i64 0)), (some (104, true))⟩,
     ⟨(some 108), .load false 1 (.t 107), (some (104, true))⟩,
     ⟨(some 109), .bin .neq (.t 105) (.t 108), (some (104, true))⟩,
     ⟨(some 110), .mov (.t 109), (some (104, true))⟩,
     ⟨(some 111), .mov (.t 20), (some (110, false))⟩,
     ⟨(some 112), .mov (.t 8), (some (110, false))⟩,
     ⟨(some 113), .mov (.t 11), (some (110, false))⟩,
     ⟨(some 114), .bin .sub (.t 113) (.c (.int .i64 1)), (some (110, false))⟩,
     ⟨(some 115), .iaddr 1 (.t 112) (.t 114), (some (110, false))⟩,
     ⟨(some 116), .load false 1 (.t 115), (some (110, false))⟩,
     ⟨(some 117), .bin .neq (.t 111) (.t 116), (some (110, false))⟩,
     ⟨(some 118), .pick (.t 110) (.c (.bool true)) (.t 117), (some (104, true))⟩,
     ⟨(some 119), .mov (.t 118), (some (104, true))⟩,
     ⟨(some 120), .mov (.t 12), (some (119, false))⟩,
     ⟨(some 121), .len .sl (.t 120), (some (119, false))⟩,
     ⟨(some 122), .mov (.t 20), (some (119, false))⟩,
     ⟨(some 123), .call (.f 11) [(.t 122)], (some (119, false))⟩,
     ⟨(some 124), .bin .add (.t 123) (.c (.int .i64 1)), (some (119, false))⟩,
     ⟨(some 125), .bin .neq (.t 121) (.t 124), (some (119, false))⟩,
     ⟨(some 126), .pick (.t 119) (.c (.bool true)) (.t 125), (some (104, true))⟩,
     ⟨(some 127), .pick (.t 104) (.t 126) (.c (.bool false)), (some (102, false))⟩,
     ⟨(some 128), .pick (.t 102) (.c (.bool true)) (.t 127), none⟩]) <|
  .cond (.t 128)
   (.seq
    (.region [⟨(some 6), .mov (.c (.bool false)), none⟩]) <|
    .ret)
   (.skip)) <|
 .seq
 (.region [⟨(some 22), .mov (.c (.int .i64 0)), none⟩]) <|
 .seq
 (.seq
  (.region [⟨(some 23), .mov (.c (.int .i64 1)), none⟩]) <|
  .block 6 <|
  .loop [1, 2, 22, 23] <|
   .seq
   (.seq
    (.region [⟨(some 129), .mov (.t 23), none⟩,
       ⟨(some 130), .mov (.t 2), none⟩,
       ⟨(some 131), .min [(.t 130), (.c (.int .i64 62))], none⟩,
       ⟨(some 132), .bin .leq (.t 129) (.t 131), none⟩]) <|
    .cond (.t 132)
     (.skip)
     (.exit 6)) <|
   .seq
   (.block 7 <|
    .region [⟨(some 135), .mov (.t 22), none⟩,
      ⟨(some 136), .bin .mul (.c (.int .i64 2)) (.t 135), none⟩,
      ⟨(some 137), .max [(.t 136), (.c (.int .i64 1))], none⟩,
      ⟨(some 22), .mov (.t 137), none⟩]) <|
   .region [⟨(some 133), .mov (.t 23), none⟩,
     ⟨(some 134), .bin .add (.t 133) (.c (.int .i64 1)), none⟩,
     ⟨(some 23), .mov (.t 134), none⟩]) <|
 .seq
 (.region [⟨(some 138), .mov (.t 1), none⟩,
    ⟨(some 139), .call (.f 15) [(.t 138)], none⟩,
    ⟨(some 140), .mov (.t 1), none⟩,
    ⟨(some 141), .call (.f 11) [(.t 140)], none⟩,
    ⟨(some 142), .bin .eql (.t 139) (.t 141), none⟩,
    ⟨(some 143), .mov (.t 142), none⟩,
    ⟨(some 144), .mov (.t 2), (some (143, true))⟩,
    ⟨(some 145), .call (.f 16) [(.t 144)], (some (143, true))⟩,
    ⟨(some 146), .mov (.t 22), (some (143, true))⟩,
    ⟨(some 147), .bin .eql (.t 145) (.t 146), (some (143, true))⟩,
    ⟨(some 148), .pick (.t 143) (.t 147) (.c (.bool false)), none⟩,
    ⟨(some 6), .mov (.t 148), none⟩]) <|
 .ret, [.slot 6]⟩
theorem c3 : Code1 Try.prog 3 149 b3 := Code1.mk' Try.func3 (by kernel_rfl) (by kernel_rfl) Try.ntmps3

/-- fusee/fuseelaw36.HistoQuantiles -/
def b4 : IFn := ⟨
 .seq
 (.region [⟨(some 4), .mov (.c (.bool false)), none⟩]) <|
 .seq
 (.seq
  (.region [⟨(some 18), .call (.f 6) [], none⟩,
     ⟨(some 19), .un .not (.t 18), none⟩]) <|
  .cond (.t 19)
   (.seq
    (.region [⟨(some 4), .mov (.c (.bool false)), none⟩]) <|
    .ret)
   (.skip)) <|
 .seq
 (.seq
  (.region [⟨(some 20), .mov (.t 0), none⟩,
     ⟨(some 21), .len .sl (.t 20), none⟩,
     ⟨(some 22), .bin .gtr (.t 21) (.c (.int .i64 150)), none⟩]) <|
  .cond (.t 22)
   (.seq
    (.region [⟨(some 4), .mov (.c (.bool true)), none⟩]) <|
    .ret)
   (.skip)) <|
 .seq
 (.region [⟨(some 23), .call (.f 7) [], none⟩,
    ⟨(some 5), .mov (.t 23), none⟩]) <|
 .seq
 (.seq
  (.region [⟨(some 24), .mov (.t 0), none⟩,
     ⟨(some 25), .len .sl (.t 24), none⟩,
     ⟨(some 26), .mov (.c (.int .i64 0)), none⟩]) <|
  .block 0 <|
  .loop [0, 1, 5, 24, 25, 26] <|
   .seq
   (.region [⟨(some 27), .bin .lss (.t 26) (.t 25), none⟩]) <|
   .seq
   (.cond (.t 27)
     (.skip)
     (.exit 0)) <|
   .seq
   (.block 1 <|
    .seq
    (.region [⟨(some 28), .iaddr 1 (.t 24) (.t 26), none⟩,
       ⟨(some 29), .load false 1 (.t 28), none⟩,
       ⟨(some 7), .mov (.t 29), none⟩]) <|
    .region [⟨(some 30), .mov (.t 5), none⟩,
      ⟨(some 31), .mov (.t 7), none⟩,
      ⟨(some 32), .call (.f 9) [(.t 30), (.t 31)], none⟩]) <|
   .region [⟨(some 33), .bin .add (.t 26) (.c (.int .i64 1)), none⟩,
     ⟨(some 26), .mov (.t 33), none⟩]) <|
 .seq
 (.region [⟨(some 34), .mov (.t 1), none⟩,
    ⟨(some 35), .bin .rem (.t 34) (.c (.int .u16 1001)), none⟩,
    ⟨(some 36), .conv .i64 (.t 35), none⟩,
    ⟨(some 8), .mov (.t 36), none⟩]) <|
 .seq
 (.region [⟨(some 38), .mov (.t 5), none⟩,
    ⟨(some 39), .mov (.t 8), none⟩,
    ⟨(some 40), .call (.f 17) [(.t 38), (.t 39)], none⟩,
    ⟨(some 37), .mov (.t 40), none⟩,
    ⟨(some 41), .extract (.t 37) 0, none⟩,
    ⟨(some 42), .extract (.t 37) 1, none⟩,
    ⟨(some 43), .extract (.t 37) 2, none⟩,
    ⟨(some 9), .mov (.t 41), none⟩,
    ⟨(some 10), .mov (.t 42), none⟩,
    ⟨(some 11), .mov (.t 43), none⟩]) <|
 .seq
 (.seq
  (.region [⟨(some 44), .mov (.t 0), none⟩,
     ⟨(some 45), .len .sl (.t 44), none⟩,
     ⟨(some 46), .bin .eql (.t 45) (.c (.int .i64 0)), none⟩]) <|
  .cond (.t 46)
   (.seq
    (.region [⟨(some 47), .mov (.t 11), none⟩,
       ⟨(some 48), .un .not (.t 47), none⟩,
       ⟨(some 49), .mov (.t 48), none⟩,
       ⟨(some 50), .mov (.t 9), (some (49, true))⟩,
       ⟨(some 51), .bin .eql (.t 50) (.c (.int .i64 0)), (some (49, true))⟩,
       ⟨(some 52), .pick (.t 49) (.t 51) (.c (.bool false)), none⟩,
       ⟨(some 53), .mov (.t 52), none⟩,
       ⟨(some 54), .mov (.t 10), (some (53, true))⟩,
       ⟨(some 55), .bin .eql (.t 54) (.c (.int .i64 0)), (some (53, true))⟩,
       ⟨(some 56), .pick (.t 53) (.t 55) (.c (.bool false)), none⟩,
       ⟨(some 4), .mov (.t 56), none⟩]) <|
    .ret)
   (.skip)) <|
 .seq
 (.region [⟨(some 57), .mov (.t 0), none⟩,
    ⟨(some 58), .call (.f 8) [(.t 57)], none⟩,
    ⟨(some 12), .mov (.t 58), none⟩]) <|
 .seq
 (.region [⟨(some 59), .mov (.t 0), none⟩,
    ⟨(some 60), .len .sl (.t 59), none⟩,
    ⟨(some 61), .mov (.t 8), none⟩,
    ⟨(some 62), .bin .mul (.t 60) (.t 61), none⟩,
    ⟨(some 63), .bin .add (.t 62) (.c (.int .i64 999)), none⟩,
    ⟨(some 64), .bin .quo (.t 63) (.c (.int .i64 1000)), none⟩,
    ⟨(some 65), .max [(.t 64), (.c (.int .i64 1))], none⟩,
    ⟨(some 13), .mov (.t 65), none⟩]) <|
 .seq
 (.region [⟨(some 66), .mov (.t 12), none⟩,
    ⟨(some 67), .mov (.t 13), none⟩,
    ⟨(some 68), .bin .sub (.t 67) (.c (.int .i64 1)), none⟩,
    ⟨(some 69), .iaddr 1 (.t 66) (.t 68), none⟩,
    ⟨(some 70), .load false 1 (.t 69), none⟩,
    ⟨(some 14), .mov (.t 70), none⟩]) <|
 .seq
 (.region [⟨(some 72), .mov (.t 5), none⟩,
    ⟨(some 73), .mov (.t 8), none⟩,
    ⟨(some 74), .bin .sub (.t 73) (.c (.int .i64 1)), none⟩,
    ⟨(some 75), .call (.f 17) [(.t 72), (.t 74)], none⟩,
    ⟨(some 71), .mov (.t 75), none⟩,
    ⟨(some 76), .extract (.t 71) 0, none⟩,
    ⟨(some 77), .extract (.t 71) 1, none⟩,
    ⟨(some 78), .extract (.t 71) 2, none⟩,
    ⟨(some 15), .mov (.t 76), none⟩,
    ⟨(some 16), .mov (.t 77), none⟩,
    ⟨(some 17), .mov (.t 78), none⟩]) <|
 .seq
 (.region [⟨(some 79), .mov (.t 11), none⟩,
    ⟨(some 80), .mov (.t 79), none⟩,
    ⟨(some 81), .mov (.t 17), (some (80, true))⟩,
    ⟨(some 82), .pick (.t 80) (.t 81) (.c (.bool false)), none⟩,
    ⟨(some 83), .mov (.t 82), none⟩,
    ⟨(some 84), .mov (.t 15), (some (83, true))⟩,
    ⟨(some 85), .mov (.t 9), (some (83, true))⟩,
    ⟨(some 86), .bin .leq (.t 84) (.t 85), (some (83, true))⟩,
    ⟨(some 87), .pick (.t 83) (.t 86) (.c (.bool false)), none⟩,
    ⟨(some 88), .mov (.t 87), none⟩,
    ⟨(some 89), .mov (.t 9), (some (88, true))⟩,
    ⟨(some 90), .mov (.t 14), (some (88, true))⟩,
    ⟨(some 91), .bin .leq (.t 89) (.t 90), (some (88, true))⟩,
    ⟨(some 92), .pick (.t 88) (.t 91) (.c (.bool false)), none⟩,
    ⟨(some 93), .mov (.t 92), none⟩,
    ⟨(some 94), .mov (.t 14), (some (93, true))⟩,
    ⟨(some 95), .mov (.t 10), (some (93, true))⟩,
    ⟨(some 96), .bin .leq (.t 94) (.t 95), (some (93, true))⟩,
    ⟨(some 97), .pick (.t 93) (.t 96) (.c (.bool false)), none⟩,
    ⟨(some 98), .mov (.t 97), none⟩,
    ⟨(some 99), .mov (.t 9), (some (98, true))⟩,
    ⟨(some 100), .call (.f 11) [(.t 99)], (some (98, true))⟩,
    ⟨(some 101), .mov (.t 14), (some (98, true))⟩,
    ⟨(some 102), .call (.f 11) [(.t 101)], (some (98, true))⟩,
    ⟨(some 103), .bin .eql (.t 100) (.t 102), (some (98, true))⟩,
    ⟨(some 104), .pick (.t 98) (.t 103) (.c (.bool false)), none⟩,
    ⟨(some 105), .mov (.t 104), none⟩,
    ⟨(some 106), .mov (.t 10), (some (105, true))⟩,
    ⟨(some 107), .call (.f 11) [(.t 106)], (some (105, true))⟩,
    ⟨(some 108), .mov (.t 14), (some (105, true))⟩,
    ⟨(some 109), .call (.f 11) [(.t 108)], (some (105, true))⟩,
    ⟨(some 110), .bin .eql (.t 107) (.t 109), (some (105, true))⟩,
    ⟨(some 111), .pick (.t 105) (.t 110) (.c (.bool false)), none⟩,
    ⟨(some 4), .mov (.t 111), none⟩]) <|
 .ret, [.slot 4]⟩
theorem c4 : Code1 Try.prog 4 112 b4 := Code1.mk' Try.func4 (by kernel_rfl) (by kernel_rfl) Try.ntmps4

/-- fusee/fuseelaw36.HistoJoins -/
def b5 : IFn := ⟨
 .seq
 (.region [⟨(some 8), .mov (.c (.bool false)), none⟩]) <|
 .seq
 (.seq
  (.region [⟨(some 27), .call (.f 6) [], none⟩,
     ⟨(some 28), .un .not (.t 27), none⟩]) <|
  .cond (.t 28)
   (.seq
    (.region [⟨(some 8), .mov (.c (.bool false)), none⟩]) <|
    .ret)
   (.skip)) <|
 .seq
 (.seq
  (.region [⟨(some 29), .mov (.t 0), none⟩,
     ⟨(some 30), .len .sl (.t 29), none⟩,
     ⟨(some 31), .bin .gtr (.t 30) (.c (.int .i64 100)), none⟩,
     ⟨(some 32), .mov (.t 31), none⟩,
     ⟨(some 33), .mov (.t 1), (some (32, false))⟩,
     ⟨(some 34), .len .sl (.t 33), (some (32, false))⟩,
     ⟨(some 35), .bin .gtr (.t 34) (.c (.int .i64 100)), (some (32, false))⟩,
     ⟨(some 36), .pick (.t 32) (.c (.bool true)) (.t 35), none⟩]) <|
  .cond (.t 36)
   (.seq
    (.region [⟨(some 8), .mov (.c (.bool true)), none⟩]) <|
    .ret)
   (.skip)) <|
 .seq
 (.region [⟨(some 37), .call (.f 7) [], none⟩,
    ⟨(some 38), .call (.f 7) [], none⟩,
    ⟨(some 39), .call (.f 7) [], none⟩,
    ⟨(some 9), .mov (.t 37), none⟩,
    ⟨(some 10), .mov (.t 38), none⟩,
    ⟨(some 11), .mov (.t 39), none⟩]) <|
 .seq
 (.seq
  (.region [⟨(some 40), .mov (.t 0), none⟩,
     ⟨(some 41), .len .sl (.t 40), none⟩,
     ⟨(some 42), .mov (.c (.int .i64 0)), none⟩]) <|
  .block 0 <|
  .loop [1, 2, 3, 9, 10, 11, 40, 41, 42] <|
   .seq
   (.region [⟨(some 43), .bin .lss (.t 42) (.t 41), none⟩]) <|
   .seq
   (.cond (.t 43)
     (.skip)
     (.exit 0)) <|
   .seq
   (.block 1 <|
    .seq
    (.region [⟨(some 44), .iaddr 1 (.t 40) (.t 42), none⟩,
       ⟨(some 45), .load false 1 (.t 44), none⟩,
       ⟨(some 13), .mov (.t 45), none⟩]) <|
    .seq
    (.region [⟨(some 46), .mov (.t 9), none⟩,
       ⟨(some 47), .mov (.t 13), none⟩,
       ⟨(some 48), .call (.f 9) [(.t 46), (.t 47)], none⟩]) <|
    .region [⟨(some 49), .mov (.t 11), none⟩,
      ⟨(some 50), .mov (.t 13), none⟩,
      ⟨(some 51), .call (.f 9) [(.t 49), (.t 50)], none⟩]) <|
   .region [⟨(some 52), .bin .add (.t 42) (.c (.int .i64 1)), none⟩,
     ⟨(some 42), .mov (.t 52), none⟩]) <|
 .seq
 (.seq
  (.region [⟨(some 53), .mov (.t 1), none⟩,
     ⟨(some 54), .len .sl (.t 53), none⟩,
     ⟨(some 55), .mov (.c (.int .i64 0)), none⟩]) <|
  .block 2 <|
  .loop [2, 3, 9, 10, 11, 53, 54, 55] <|
   .seq
   (.region [⟨(some 56), .bin .lss (.t 55) (.t 54), none⟩]) <|
   .seq
   (.cond (.t 56)
     (.skip)
     (.exit 2)) <|
   .seq
   (.block 3 <|
    .seq
    (.region [⟨(some 57), .iaddr 1 (.t 53) (.t 55), none⟩,
       ⟨(some 58), .load false 1 (.t 57), none⟩,
       ⟨(some 15), .mov (.t 58), none⟩]) <|
    .seq
    (.region [⟨(some 59), .mov (.t 10), none⟩,
       ⟨(some 60), .mov (.t 15), none⟩,
       ⟨(some 61), .call (.f 9) [(.t 59), (.t 60)], none⟩]) <|
    .region [⟨(some 62), .mov (.t 11), none⟩,
      ⟨(some 63), .mov (.t 15), none⟩,
      ⟨(some 64), .call (.f 9) [(.t 62), (.t 63)], none⟩]) <|
   .region [⟨(some 65), .bin .add (.t 55) (.c (.int .i64 1)), none⟩,
     ⟨(some 55), .mov (.t 65), none⟩]) <|
 .seq
 (.region [⟨(some 66), .mov (.t 10), none⟩,
    ⟨(some 67), .mov (.t 2), none⟩,
    ⟨(some 68), .mov (.t 3), none⟩,
    ⟨(some 69), .conv .i64 (.t 68), none⟩,
    ⟨(some 70), .call (.f 18) [(.t 66), (.t 67), (.t 69)], none⟩]) <|
 .seq
 (.seq
  (.region [⟨(some 71), .mov (.t 3), none⟩,
     ⟨(some 72), .conv .i64 (.t 71), none⟩,
     ⟨(some 73), .mov (.c (.int .i64 0)), none⟩]) <|
  .block 4 <|
  .loop [2, 9, 10, 11, 72, 73] <|
   .seq
   (.region [⟨(some 74), .bin .lss (.t 73) (.t 72), none⟩]) <|
   .seq
   (.cond (.t 74)
     (.skip)
     (.exit 4)) <|
   .seq
   (.block 5 <|
    .region [⟨(some 75), .mov (.t 11), none⟩,
      ⟨(some 76), .mov (.t 2), none⟩,
      ⟨(some 77), .call (.f 9) [(.t 75), (.t 76)], none⟩]) <|
   .region [⟨(some 78), .bin .add (.t 73) (.c (.int .i64 1)), none⟩,
     ⟨(some 73), .mov (.t 78), none⟩]) <|
 .seq
 (.region [⟨(some 79), .mov (.t 9), none⟩,
    ⟨(some 80), .mov (.t 10), none⟩,
    ⟨(some 81), .call (.f 19) [(.t 79), (.t 80)], none⟩]) <|
 .seq
 (.region [⟨(some 82), .mov (.t 9), none⟩,
    ⟨(some 83), .call (.f 19) [(.t 82), (.c (.ptr none))], none⟩]) <|
 .seq
 (.region [⟨(some 84), .mov (.t 9), none⟩,
    ⟨(some 85), .call (.f 10) [(.t 84)], none⟩,
    ⟨(some 86), .mov (.t 11), none⟩,
    ⟨(some 87), .call (.f 10) [(.t 86)], none⟩,
    ⟨(some 16), .mov (.t 85), none⟩,
    ⟨(some 17), .mov (.t 87), none⟩]) <|
 .seq
 (.region [⟨(some 89), .mov (.t 9), none⟩,
    ⟨(some 90), .call (.f 12) [(.t 89)], none⟩,
    ⟨(some 88), .mov (.t 90), none⟩,
    ⟨(some 91), .extract (.t 88) 0, none⟩,
    ⟨(some 92), .extract (.t 88) 1, none⟩,
    ⟨(some 18), .mov (.t 91), none⟩,
    ⟨(some 19), .mov (.t 92), none⟩]) <|
 .seq
 (.region [⟨(some 94), .mov (.t 11), none⟩,
    ⟨(some 95), .call (.f 12) [(.t 94)], none⟩,
    ⟨(some 93), .mov (.t 95), none⟩,
    ⟨(some 96), .extract (.t 93) 0, none⟩,
    ⟨(some 97), .extract (.t 93) 1, none⟩,
    ⟨(some 20), .mov (.t 96), none⟩,
    ⟨(some 21), .mov (.t 97), none⟩]) <|
 .seq
 (.region [⟨(some 99), .mov (.t 9), none⟩,
    ⟨(some 100), .call (.f 13) [(.t 99)], none⟩,
    ⟨(some 98), .mov (.t 100), none⟩,
    ⟨(some 101), .extract (.t 98) 0, none⟩,
    ⟨(some 102), .extract (.t 98) 1, none⟩,
    ⟨(some 22), .mov (.t 101), none⟩,
    ⟨(some 23), .mov (.t 102), none⟩]) <|
 .seq
 (.region [⟨(some 104), .mov (.t 11), none⟩,
    ⟨(some 105), .call (.f 13) [(.t 104)], none⟩,
    ⟨(some 103), .mov (.t 105), none⟩,
    ⟨(some 106), .extract (.t 103) 0, none⟩,
    ⟨(some 107), .extract (.t 103) 1, none⟩,
    ⟨(some 24), .mov (.t 106), none⟩,
    ⟨(some 25), .mov (.t 107), none⟩]) <|
 .seq
 (.seq
  (.region [⟨(some 108), .mov (.t 16), none⟩,
     ⟨(some 109), .len .sl (.t 108), none⟩,
     ⟨(some 110), .mov (.t 17), none⟩,
     ⟨(some 111), .len .sl (.t 110), none⟩,
     ⟨(some 112), .bin .neq (.t 109) (.t 111), none⟩,
     ⟨(some 113), .mov (.t 112), none⟩,
     ⟨(some 114), .mov (.t 9), (some (113, false))⟩,
     ⟨(some 115), .call (.f 14) [(.t 114)], (some (113, false))⟩,
     ⟨(some 116), .mov (.t 11), (some (113, false))⟩,
     ⟨(some 117), .call (.f 14) [(.t 116)], (some (113, false))⟩,
     ⟨(some 118), .bin .neq (.t 115) (.t 117), (some (113, false))⟩,
     ⟨(some 119), .pick (.t 113) (.c (.bool true)) (.t 118), none⟩,
     ⟨(some 120), .mov (.t 119), none⟩,
     ⟨(some 121), .mov (.t 19), (some (120, false))⟩,
     ⟨(some 122), .mov (.t 21), (some (120, false))⟩,
     ⟨(some 123), .eq true false [.bool] (.t 121) (.t 122), (some (120, false))⟩,
     ⟨(some 124), .pick (.t 120) (.c (.bool true)) (.t 123), none⟩,
     ⟨(some 125), .mov (.t 124), none⟩,
     ⟨(some 126), .mov (.t 18), (some (125, false))⟩,
     ⟨(some 127), .mov (.t 20), (some (125, false))⟩,
     ⟨(some 128), .bin .neq (.t 126) (.t 127), (some (125, false))⟩,
     ⟨(some 129), .pick (.t 125) (.c (.bool true)) (.t 128), none⟩,
     ⟨(some 130), .mov (.t 129), none⟩,
     ⟨(some 131), .mov (.t 22), (some (130, false))⟩,
     ⟨(some 132), .mov (.t 24), (some (130, false))⟩,
     ⟨(some 133), .bin .neq (.t 131) (.t 132), (some (130, false))⟩,
     ⟨(some 134), .pick (.t 130) (.c (.bool true)) (.t 133), none⟩]) <|
  .cond (.t 134)
   (.seq
    (.region [⟨(some 8), .mov (.c (.bool false)), none⟩]) <|
    .ret)
   (.skip)) <|
 .seq
 (.seq
  (.region [⟨(some 135), .mov (.t 16), none⟩,
     ⟨(some 136), .len .sl (.t 135), none⟩,
     ⟨(some 137), .mov (.c (.int .i64 0)), none⟩]) <|
  .block 6 <|
  .loop [16, 17, 136, 137] <|
   .seq
   (.region [⟨(some 138), .bin .lss (.t 137) (.t 136), none⟩]) <|
   .seq
   (.cond (.t 138)
     (.skip)
     (.exit 6)) <|
   .seq
   (.block 7 <|
    .seq
    (.region [⟨(some 139), .mov (.t 137), none⟩,
       ⟨(some 26), .mov (.t 139), none⟩]) <|
    .seq
    (.draw false [16, 17, 136, 137, 148] (
       .op ⟨(some 140), .mov (.t 16), none⟩ <|
       .op ⟨(some 141), .mov (.t 26), none⟩ <|
       .op ⟨(some 142), .iaddr 1 (.t 140) (.t 141), none⟩ <|
       .op ⟨(some 143), .load false 1 (.t 142), none⟩ <|
       .op ⟨(some 144), .mov (.t 17), none⟩ <|
       .op ⟨(some 145), .mov (.t 26), none⟩ <|
       .op ⟨(some 146), .iaddr 1 (.t 144) (.t 145), none⟩ <|
       .op ⟨(some 147), .load false 1 (.t 146), none⟩ <|
       .op ⟨(some 148), .bin .neq (.t 143) (.t 147), none⟩ <|
       .done)) <|
    .cond (.t 148)
     (.seq
      (.region [⟨(some 8), .mov (.c (.bool false)), none⟩]) <|
      .ret)
     (.skip)) <|
   .region [⟨(some 149), .bin .add (.t 137) (.c (.int .i64 1)), none⟩,
     ⟨(some 137), .mov (.t 149), none⟩]) <|
 .seq
 (.region [⟨(some 8), .mov (.c (.bool true)), none⟩]) <|
 .ret, [.slot 8]⟩
theorem c5 : Code1 Try.prog 5 150 b5 := Code1.mk' Try.func5 (by kernel_rfl) (by kernel_rfl) Try.ntmps5

/-- fusee/fuseelaw36.fixed -/
def b6 : IFn := ⟨
 .seq
 (.region [⟨(some 0), .mov (.c (.bool false)), none⟩]) <|
 .seq
 (.region [⟨(some 14), .call (.f 7) [], none⟩,
    ⟨(some 1), .mov (.t 14), none⟩]) <|
 .seq
 (.region [⟨(some 15), .mov (.t 1), none⟩,
    ⟨(some 16), .call (.f 9) [(.t 15), (.c (.int .i64 1))], none⟩]) <|
 .seq
 (.region [⟨(some 17), .mov (.t 1), none⟩,
    ⟨(some 18), .call (.f 9) [(.t 17), (.c (.int .i64 2))], none⟩]) <|
 .seq
 (.region [⟨(some 19), .mov (.t 1), none⟩,
    ⟨(some 20), .call (.f 18) [(.t 19), (.c (.int .i64 3)), (.c (.int .i64 1))], none⟩]) <|
 .seq
 (.region [⟨(some 21), .mov (.t 1), none⟩,
    ⟨(some 22), .call (.f 10) [(.t 21)], none⟩,
    ⟨(some 2), .mov (.t 22), none⟩]) <|
 .seq
 (.region [⟨(some 24), .mov (.t 1), none⟩,
    ⟨(some 25), .call (.f 17) [(.t 24), (.c (.int .i64 500))], none⟩,
    ⟨(some 23), .mov (.t 25), none⟩,
    ⟨(some 26), .extract (.t 23) 0, none⟩,
    ⟨(some 27), .extract (.t 23) 1, none⟩,
    ⟨(some 28), .extract (.t 23) 2, none⟩,
    ⟨(some 3), .mov (.t 26), none⟩,
    ⟨(some 4), .mov (.t 27), none⟩,
    ⟨(some 5), .mov (.t 28), none⟩]) <|
 .seq
 (.region [⟨(some 30), .mov (.t 1), none⟩,
    ⟨(some 31), .call (.f 12) [(.t 30)], none⟩,
    ⟨(some 29), .mov (.t 31), none⟩,
    ⟨(some 32), .extract (.t 29) 0, none⟩,
    ⟨(some 33), .extract (.t 29) 1, none⟩,
    ⟨(some 6), .mov (.t 32), none⟩,
    ⟨(some 7), .mov (.t 33), none⟩]) <|
 .seq
 (.region [⟨(some 35), .mov (.t 1), none⟩,
    ⟨(some 36), .call (.f 13) [(.t 35)], none⟩,
    ⟨(some 34), .mov (.t 36), none⟩,
    ⟨(some 37), .extract (.t 34) 0, none⟩,
    ⟨(some 38), .extract (.t 34) 1, none⟩,
    ⟨(some 8), .mov (.t 37), none⟩,
    ⟨(some 9), .mov (.t 38), none⟩]) <|
 .seq
 (.region [⟨(some 10), .mov (.c (.ptr none)), none⟩]) <|
 .seq
 (.region [⟨(some 40), .mov (.t 10), none⟩,
    ⟨(some 41), .call (.f 17) [(.t 40), (.c (.int .i64 1))], none⟩,
    ⟨(some 39), .mov (.t 41), none⟩,
    ⟨(some 42), .extract (.t 39) 0, none⟩,
    ⟨(some 43), .extract (.t 39) 1, none⟩,
    ⟨(some 44), .extract (.t 39) 2, none⟩,
    ⟨(some 11), .mov (.t 42), none⟩,
    ⟨(some 12), .mov (.t 43), none⟩,
    ⟨(some 13), .mov (.t 44), none⟩]) <|
 .seq
 (.region [⟨(some 45), .mov (.t 2), none⟩,
    ⟨(some 46), .len .sl (.t 45), none⟩,
    ⟨(some 47), .bin .eql (.t 46) (.c (.int .i64 3)), none⟩,
    ⟨(some 48), .mov (.t 47), none⟩,
    ⟨(some 49), .mov (.t 2), (some (48, true))⟩,
    ⟨(some 50), .iaddr 1 (.t 49) (.c (.int .i64 1)), (some (48, true))⟩,
    ⟨(some 51), .load false 1 (.t 50), (some (48, true))⟩,
    ⟨(some 52), .bin .eql (.t 51) (.c (.int .i64 1)), (some (48, true))⟩,
    ⟨(some 53), .pick (.t 48) (.t 52) (.c (.bool false)), none⟩,
    ⟨(some 54), .mov (.t 53), none⟩,
    ⟨(some 55), .mov (.t 2), (some (54, true))⟩,
    ⟨(some 56), .iaddr 1 (.t 55) (.c (.int .i64 2)), (some (54, true))⟩,
    ⟨(some 57), .load false 1 (.t 56), (some (54, true))⟩,
    ⟨(some 58), .bin .eql (.t 57) (.c (.int .i64 2)), (some (54, true))⟩,
    ⟨(some 59), .pick (.t 54) (.t 58) (.c (.bool false)), none⟩,
    ⟨(some 60), .mov (.t 59), none⟩,
    ⟨(some 61), .mov (.t 5), (some (60, true))⟩,
    ⟨(some 62), .pick (.t 60) (.t 61) (.c (.bool false)), none⟩,
    ⟨(some 63), .mov (.t 62), none⟩,
    ⟨(some 64), .mov (.t 3), (some (63, true))⟩,
    ⟨(some 65), .bin .eql (.t 64) (.c (.int .i64 2)), (some (63, true))⟩,
    ⟨(some 66), .pick (.t 63) (.t 65) (.c (.bool false)), none⟩,
    ⟨(some 67), .mov (.t 66), none⟩,
    ⟨(some 68), .mov (.t 4), (some (67, true))⟩,
    ⟨(some 69), .bin .eql (.t 68) (.c (.int .i64 3)), (some (67, true))⟩,
    ⟨(some 70), .pick (.t 67) (.t 69) (.c (.bool false)), none⟩,
    ⟨(some 71), .mov (.t 70), none⟩,
    ⟨(some 72), .mov (.t 7), (some (71, true))⟩,
    ⟨(some 73), .pick (.t 71) (.t 72) (.c (.bool false)), none⟩,
    ⟨(some 74), .mov (.t 73), none⟩,
    ⟨(some 75), .mov (.t 6), (some (74, true))⟩,
    ⟨(some 76), .bin .eql (.t 75) (.c (.int .i64 1)), (some (74, true))⟩,
    ⟨(some 77), .pick (.t 74) (.t 76) (.c (.bool false)), none⟩,
    ⟨(some 78), .mov (.t 77), none⟩,
    ⟨(some 79), .mov (.t 9), (some (78, true))⟩,
    ⟨(some 80), .pick (.t 78) (.t 79) (.c (.bool false)), none⟩,
    ⟨(some 81), .mov (.t 80), none⟩,
    ⟨(some 82), .mov (.t 8), (some (81, true))⟩,
    ⟨(some 83), .bin .eql (.t 82) (.c (.int .i64 3)), (some (81, true))⟩,
    ⟨(some 84), .pick (.t 81) (.t 83) (.c (.bool false)), none⟩,
    ⟨(some 85), .mov (.t 84), none⟩,
    ⟨(some 86), .mov (.t 1), (some (85, true))⟩,
    ⟨(some 87), .call (.f 14) [(.t 86)], (some (85, true))⟩,
    ⟨(some 88), .bin .eql (.t 87) (.c (.int .i64 3)), (some (85, true))⟩,
    ⟨(some 89), .pick (.t 85) (.t 88) (.c (.bool false)), none⟩,
    ⟨(some 90), .mov (.t 89), none⟩,
    ⟨(some 91), .call (.f 15) [(.c (.int .i64 8))], (some (90, true))⟩,
    ⟨(some 92), .bin .eql (.t 91) (.c (.int .i64 4)), (some (90, true))⟩,
    ⟨(some 93), .pick (.t 90) (.t 92) (.c (.bool false)), none⟩,
    ⟨(some 94), .mov (.t 93), none⟩,
    ⟨(some 95), .call (.f 16) [(.c (.int .i64 4))], (some (94, true))⟩,
    ⟨(some 96), .bin .eql (.t 95) (.c (.int .i64 8)), (some (94, true))⟩,
    ⟨(some 97), .pick (.t 94) (.t 96) (.c (.bool false)), none⟩,
    ⟨(some 98), .mov (.t 97), none⟩,
    ⟨(some 99), .mov (.t 13), (some (98, true))⟩,
    ⟨(some 100), .un .not (.t 99), (some (98, true))⟩,
    ⟨(some 101), .pick (.t 98) (.t 100) (.c (.bool false)), none⟩,
    ⟨(some 102), .mov (.t 101), none⟩,
    ⟨(some 103), .mov (.t 10), (some (102, true))⟩,
    ⟨(some 104), .call (.f 14) [(.t 103)], (some (102, true))⟩,
    ⟨(some 105), .bin .eql (.t 104) (.c (.int .i64 0)), (some (102, true))⟩,
    ⟨(some 106), .pick (.t 102) (.t 105) (.c (.bool false)), none⟩,
    ⟨(some 0), .mov (.t 106), none⟩]) <|
 .ret, [.slot 0]⟩
theorem c6 : Code1 Try.prog 6 107 b6 := Code1.mk' Try.func6 (by kernel_rfl) (by kernel_rfl) Try.ntmps6

/-- fusee/histo.New -/
def b7 : IFn := ⟨
 .seq
 (.region [⟨(some 0), .mov (.c (.ptr none)), none⟩]) <|
 .seq
 (.region [⟨(some 1), .build [(.int .i64 0), (.int .i64 0), (.int .i64 0), (.int .i64 0), (.int .i64 0), (.int .i64 0), (.int .i64 0), (.int .i64 0), (.int .i64 0), (.int .i64 0), (.int .i64 0), (.int .i64 0), (.int .i64 0), (.int .i64 0), (.int .i64 0), (.int .i64 0), (.int .i64 0), (.int .i64 0), (.int .i64 0), (.int .i64 0), (.int .i64 0), (.int .i64 0), (.int .i64 0), (.int .i64 0), (.int .i64 0), (.int .i64 0), (.int .i64 0), (.int .i64 0), (.int .i64 0), (.int .i64 0), (.int .i64 0), (.int .i64 0), (.int .i64 0), (.int .i64 0), (.int .i64 0), (.int .i64 0), (.int .i64 0), (.int .i64 0), (.int .i64 0), (.int .i64 0), (.int .i64 0), (.int .i64 0), (.int .i64 0), (.int .i64 0), (.int .i64 0), (.int .i64 0), (.int .i64 0), (.int .i64 0), (.int .i64 0), (.int .i64 0), (.int .i64 0), (.int .i64 0), (.int .i64 0), (.int .i64 0), (.int .i64 0), (.int .i64 0), (.int .i64 0), (.int .i64 0), (.int .i64 0), (.int .i64 0), (.int .i64 0), (.int .i64 0), (.int .i64 0), (.int .i64 0), (.int .i64 0), (.int .i64 0)] [], none⟩,
    ⟨(some 2), .box (.t 1), none⟩,
    ⟨(some 0), .mov (.t 2), none⟩]) <|
 .ret, [.slot 0]⟩
theorem c7 : Code1 Try.prog 7 3 b7 := Code1.mk' Try.func7 (by kernel_rfl) (by kernel_rfl) Try.ntmps7

/-- fusee/fuseelaw36.sorted -/
def b8 : IFn := ⟨
 .seq
 (.region [⟨(some 2), .mov (.c (.sl none 0 (some 0))), none⟩]) <|
 .seq
 (.region [⟨(some 3), .mov (.c (.sl none 0 (some 0))), none⟩]) <|
 .seq
 (.seq
  (.region [⟨(some 7), .mov (.t 0), none⟩,
     ⟨(some 8), .len .sl (.t 7), none⟩,
     ⟨(some 9), .mov (.c (.int .i64 0)), none⟩]) <|
  .block 0 <|
  .loop [3, 7, 8, 9] <|
   .seq
   (.region [⟨(some 10), .bin .lss (.t 9) (.t 8), none⟩]) <|
   .seq
   (.cond (.t 10)
     (.skip)
     (.exit 0)) <|
   .seq
   (.block 1 <|
    .seq
    (.region [⟨(some 11), .iaddr 1 (.t 7) (.t 9), none⟩,
       ⟨(some 12), .load false 1 (.t 11), none⟩,
       ⟨(some 5), .mov (.t 12), none⟩]) <|
    .seq
    (.region [⟨(some 13), .mov (.t 5), none⟩,
       ⟨(some 14), .call (.f 20) [(.t 13)], none⟩,
       ⟨(some 5), .mov (.t 14), none⟩]) <|
    .seq
    (.region [⟨(some 6), .mov (.c (.int .i64 0)), none⟩]) <|
    .seq
    (.block 2 <|
     .loop [3, 5, 6, 7, 8, 9] <|
      .seq
      (.seq
       (.region [⟨(some 15), .mov (.t 6), none⟩,
          ⟨(some 16), .mov (.t 3), none⟩,
          ⟨(some 17), .len .sl (.t 16), none⟩,
          ⟨(some 18), .bin .lss (.t 15) (.t 17), none⟩,
          ⟨(some 19), .mov (.t 18), none⟩,
          ⟨(some 20), .mov (.t 3), (some (19, true))⟩,
          ⟨(some 21), .mov (.t 6), (some (19, true))⟩,
          ⟨(some 22), .iaddr 1 (.t 20) (.t 21), (some (19, true))⟩,
          ⟨(some 23), .load false 1 (.t 22), (some (19, true))⟩,
          ⟨(some 24), .mov (.t 5), (some (19, true))⟩,
          ⟨(some 25), .bin .leq (.t 23) (.t 24), (some (19, true))⟩,
          ⟨(some 26), .pick (.t 19) (.t 25) (.c (.bool false)), none⟩]) <|
       .cond (.t 26)
        (.skip)
        (.exit 2)) <|
      .block 3 <|
      .region [⟨(some 27), .mov (.t 6), none⟩,
        ⟨(some 28), .bin .add (.t 27) (.c (.int .i64 1)), none⟩,
        ⟨(some 6), .mov (.t 28), none⟩]) <|
    .draw false [3, 7, 8, 9] (
      .op ⟨(some 30), .mov (.t 3), none⟩ <|
      .op ⟨(some 31), .mov (.t 6), none⟩ <|
      .op ⟨(some 32), .slice 1 (.t 30) none (some (.t 31)) none, none⟩ <|
      .op ⟨(some 34), .mov (.t 5), none⟩ <|
      .op ⟨(some 37), .mov (.t 3), none⟩ <|
      .op ⟨(some 38), .mov (.t 6), none⟩ <|
      .op ⟨(some 39), .slice 1 (.t 37) (some (.t 38)) none none, none⟩ <|
      .alt (.op ⟨(some 29), .buildSl 1 [] [], none⟩ <|
       .alt (.op ⟨(some 33), .app 1 8 (.t 29) (.t 32), none⟩ <|
        .op ⟨(some 35), .buildSl 1 [(.int .i64 0)] [(0, 1, (.t 34))], none⟩ <|
        .op ⟨(some 36), .app 1 8 (.t 33) (.t 35), none⟩ <|
        .op ⟨(some 40), .app 1 8 (.t 36) (.t 39), none⟩ <|
        .op ⟨(some 3), .mov (.t 40), none⟩ <|
        .done) <|
       .op ⟨(some 35), .buildSl 1 [(.int .i64 0)] [(0, 1, (.t 34))], none⟩ <|
       .op ⟨(some 33), .app 1 8 (.t 29) (.t 32), none⟩ <|
       .op ⟨(some 36), .app 1 8 (.t 33) (.t 35), none⟩ <|
       .op ⟨(some 40), .app 1 8 (.t 36) (.t 39), none⟩ <|
       .op ⟨(some 3), .mov (.t 40), none⟩ <|
       .done) <|
      .op ⟨(some 35), .buildSl 1 [(.int .i64 0)] [(0, 1, (.t 34))], none⟩ <|
      .op ⟨(some 29), .buildSl 1 [] [], none⟩ <|
      .op ⟨(some 33), .app 1 8 (.t 29) (.t 32), none⟩ <|
      .op ⟨(some 36), .app 1 8 (.t 33) (.t 35), none⟩ <|
      .op ⟨(some 40), .app 1 8 (.t 36) (.t 39), none⟩ <|
      .op ⟨(some 3), .mov (.t 40), none⟩ <|
      .done)) <|
   .region [⟨(some 41), .bin .add (.t 9) (.c (.int .i64 1)), none⟩,
     ⟨(some 9), .mov (.t 41), none⟩]) <|
 .seq
 (.region [⟨(some 42), .mov (.t 3), none⟩,
    ⟨(some 2), .mov (.t 42), none⟩]) <|
 .ret, [.slot 2]⟩
theorem c8 : Code1 Try.prog 8 43 b8 := Code1.mk' Try.func8 (by kernel_rfl) (by kernel_rfl) Try.ntmps8

/-- fusee/histo.Tally.Add -/
def b9 : IFn := ⟨
 .region [⟨(some 4), .mov (.t 0), none⟩,
   ⟨(some 5), .mov (.t 1), none⟩,
   ⟨(some 6), .call (.f 18) [(.t 4), (.t 5), (.c (.int .i64 1))], none⟩], []⟩
theorem c9 : Code1 Try.prog 9 7 b9 := Code1.mk' Try.func9 (by kernel_rfl) (by kernel_rfl) Try.ntmps9

/-- fusee/histo.Tally.Boxes -/
def b10 : IFn := ⟨
 .seq
 (.region [⟨(some 2), .mov (.c (.sl none 0 (some 0))), none⟩]) <|
 .seq
 (.region [⟨(some 3), .mov (.c (.sl none 0 (some 0))), none⟩]) <|
 .seq
 (.seq
  (.region [⟨(some 5), .mov (.t 0), none⟩,
     ⟨(some 6), .call (.f 14) [(.t 5)], none⟩,
     ⟨(some 7), .bin .eql (.t 6) (.c (.int .i64 0)), none⟩]) <|
  .cond (.t 7)
   (.seq
    (.region [⟨(some 2), .mov (.c (.sl none 0 (some 0))), none⟩]) <|
    .ret)
   (.skip)) <|
 .seq
 (.seq
  (.region [⟨(some 8), .mov (.t 0), none⟩,
     ⟨(some 9), .nilck (.t 8), none⟩,
     ⟨(some 10), .faddr 65 (.t 9), none⟩,
     ⟨(some 11), .load false 1 (.t 10), none⟩,
     ⟨(some 12), .call (.f 15) [(.t 11)], none⟩,
     ⟨(some 13), .bin .add (.t 12) (.c (.int .i64 1)), none⟩,
     ⟨(some 14), .mov (.c (.int .i64 0)), none⟩]) <|
  .block 0 <|
  .loop [0, 3, 13, 14] <|
   .seq
   (.region [⟨(some 15), .bin .lss (.t 14) (.t 13), none⟩]) <|
   .seq
   (.cond (.t 15)
     (.skip)
     (.exit 0)) <|
   .seq
   (.block 1 <|
    .seq
    (.region [⟨(some 16), .mov (.t 14), none⟩,
       ⟨(some 4), .mov (.t 16), none⟩]) <|
    .region [⟨(some 17), .mov (.t 3), none⟩,
      ⟨(some 18), .mov (.t 0), none⟩,
      ⟨(some 19), .mov (.t 4), none⟩,
      ⟨(some 20), .nilck (.t 18), none⟩,
      ⟨(some 21), .faddr 0 (.t 20), none⟩,
      ⟨(some 22), .iaddrA 63 1 (.t 21) (.t 19), none⟩,
      ⟨(some 23), .load false 1 (.t 22), none⟩,
      ⟨(some 24), .buildSl 1 [(.int .i64 0)] [(0, 1, (.t 23))], none⟩,
      ⟨(some 25), .app 1 8 (.t 17) (.t 24), none⟩,
      ⟨(some 3), .mov (.t 25), none⟩]) <|
   .region [⟨(some 26), .bin .add (.t 14) (.c (.int .i64 1)), none⟩,
     ⟨(some 14), .mov (.t 26), none⟩]) <|
 .seq
 (.region [⟨(some 27), .mov (.t 3), none⟩,
    ⟨(some 2), .mov (.t 27), none⟩]) <|
 .ret, [.slot 2]⟩
theorem c10 : Code1 Try.prog 10 28 b10 := Code1.mk' Try.func10 (by kernel_rfl) (by kernel_rfl) Try.ntmps10

/-- fusee/fuseelaw36.box -/
def b11 : IFn := ⟨
 .seq
 (.region [⟨(some 2), .mov (.c (.int .i64 0)), none⟩]) <|
 .seq
 (.region [⟨(some 3), .mov (.c (.int .i64 0)), none⟩]) <|
 .seq
 (.seq
  (.region [⟨(some 4), .mov (.t 0), none⟩,
     ⟨(some 5), .call (.f 20) [(.t 4)], none⟩,
     ⟨(some 0), .mov (.t 5), none⟩]) <|
  .block 0 <|
  .loop [0, 3] <|
   .seq
   (.seq
    (.region [⟨(some 6), .mov (.t 0), none⟩,
       ⟨(some 7), .bin .gtr (.t 6) (.c (.int .i64 0)), none⟩]) <|
    .cond (.t 7)
     (.skip)
     (.exit 0)) <|
   .seq
   (.block 1 <|
    .region [⟨(some 10), .mov (.t 3), none⟩,
      ⟨(some 11), .bin .add (.t 10) (.c (.int .i64 1)), none⟩,
      ⟨(some 3), .mov (.t 11), none⟩]) <|
   .region [⟨(some 8), .mov (.t 0), none⟩,
     ⟨(some 9), .bin .quo (.t 8) (.c (.int .i64 2)), none⟩,
     ⟨(some 0), .mov (.t 9), none⟩]) <|
 .seq
 (.region [⟨(some 12), .mov (.t 3), none⟩,
    ⟨(some 2), .mov (.t 12), none⟩]) <|
 .ret, [.slot 2]⟩
theorem c11 : Code1 Try.prog 11 13 b11 := Code1.mk' Try.func11 (by kernel_rfl) (by kernel_rfl) Try.ntmps11

/-- fusee/histo.Tally.Least -/
def b12 : IFn := ⟨
 .seq
 (.region [⟨(some 2), .mov (.c (.int .i64 0)), none⟩,
    ⟨(some 3), .mov (.c (.bool false)), none⟩]) <|
 .seq
 (.seq
  (.region [⟨(some 4), .mov (.t 0), none⟩,
     ⟨(some 5), .call (.f 14) [(.t 4)], none⟩,
     ⟨(some 6), .bin .eql (.t 5) (.c (.int .i64 0)), none⟩]) <|
  .cond (.t 6)
   (.seq
    (.region [⟨(some 2), .mov (.c (.int .i64 0)), none⟩,
       ⟨(some 3), .mov (.c (.bool false)), none⟩]) <|
    .ret)
   (.skip)) <|
 .seq
 (.region [⟨(some 7), .mov (.t 0), none⟩,
    ⟨(some 8), .nilck (.t 7), none⟩,
    ⟨(some 9), .faddr 64 (.t 8), none⟩,
    ⟨(some 10), .load false 1 (.t 9), none⟩,
    ⟨(some 2), .mov (.t 10), none⟩,
    ⟨(some 3), .mov (.c (.bool true)), none⟩]) <|
 .ret, [.slot 2, .slot 3]⟩
theorem c12 : Code1 Try.prog 12 11 b12 := Code1.mk' Try.func12 (by kernel_rfl) (by kernel_rfl) Try.ntmps12

/-- fusee/histo.Tally.Greatest -/
def b13 : IFn := ⟨
 .seq
 (.region [⟨(some 2), .mov (.c (.int .i64 0)), none⟩,
    ⟨(some 3), .mov (.c (.bool false)), none⟩]) <|
 .seq
 (.seq
  (.region [⟨(some 4), .mov (.t 0), none⟩,
     ⟨(some 5), .call (.f 14) [(.t 4)], none⟩,
     ⟨(some 6), .bin .eql (.t 5) (.c (.int .i64 0)), none⟩]) <|
  .cond (.t 6)
   (.seq
    (.region [⟨(some 2), .mov (.c (.int .i64 0)), none⟩,
       ⟨(some 3), .mov (.c (.bool false)), none⟩]) <|
    .ret)
   (.skip)) <|
 .seq
 (.region [⟨(some 7), .mov (.t 0), none⟩,
    ⟨(some 8), .nilck (.t 7), none⟩,
    ⟨(some 9), .faddr 65 (.t 8), none⟩,
    ⟨(some 10), .load false 1 (.t 9), none⟩,
    ⟨(some 2), .mov (.t 10), none⟩,
    ⟨(some 3), .mov (.c (.bool true)), none⟩]) <|
 .ret, [.slot 2, .slot 3]⟩
theorem c13 : Code1 Try.prog 13 11 b13 := Code1.mk' Try.func13 (by kernel_rfl) (by kernel_rfl) Try.ntmps13

/-- fusee/histo.Tally.Count -/
def b14 : IFn := ⟨
 .seq
 (.region [⟨(some 2), .mov (.c (.int .i64 0)), none⟩]) <|
 .seq
 (.seq
  (.region [⟨(some 3), .mov (.t 0), none⟩,
     ⟨(some 4), .eq false false [.ptr] (.t 3) (.c (.ptr none)), none⟩]) <|
  .cond (.t 4)
   (.seq
    (.region [⟨(some 2), .mov (.c (.int .i64 0)), none⟩]) <|
    .ret)
   (.skip)) <|
 .seq
 (.region [⟨(some 5), .mov (.t 0), none⟩,
    ⟨(some 6), .nilck (.t 5), none⟩,
    ⟨(some 7), .faddr 63 (.t 6), none⟩,
    ⟨(some 8), .load false 1 (.t 7), none⟩,
    ⟨(some 2), .mov (.t 8), none⟩]) <|
 .ret, [.slot 2]⟩
theorem c14 : Code1 Try.prog 14 9 b14 := Code1.mk' Try.func14 (by kernel_rfl) (by kernel_rfl) Try.ntmps14

/-- fusee/histo.Box -/
def b15 : IFn := ⟨
 .seq
 (.region [⟨(some 2), .mov (.c (.int .i64 0)), none⟩]) <|
 .seq
 (.region [⟨(some 3), .mov (.t 0), none⟩,
    ⟨(some 4), .call (.f 22) [(.t 3)], none⟩,
    ⟨(some 5), .conv .u64 (.t 4), none⟩,
    ⟨(some 6), .call (.f 21) [(.t 5)], none⟩,
    ⟨(some 2), .mov (.t 6), none⟩]) <|
 .ret, [.slot 2]⟩
theorem c15 : Code1 Try.prog 15 7 b15 := Code1.mk' Try.func15 (by kernel_rfl) (by kernel_rfl) Try.ntmps15

/-- fusee/histo.Low -/
def b16 : IFn := ⟨
 .seq
 (.region [⟨(some 2), .mov (.c (.int .i64 0)), none⟩]) <|
 .seq
 (.region [⟨(some 3), .mov (.t 0), none⟩,
    ⟨(some 4), .max [(.t 3), (.c (.int .i64 0))], none⟩,
    ⟨(some 5), .min [(.t 4), (.c (.int .i64 62))], none⟩,
    ⟨(some 0), .mov (.t 5), none⟩]) <|
 .seq
 (.seq
  (.region [⟨(some 6), .mov (.t 0), none⟩,
     ⟨(some 7), .bin .eql (.t 6) (.c (.int .i64 0)), none⟩]) <|
  .cond (.t 7)
   (.seq
    (.region [⟨(some 2), .mov (.c (.int .i64 0)), none⟩]) <|
    .ret)
   (.skip)) <|
 .seq
 (.region [⟨(some 8), .mov (.t 0), none⟩,
    ⟨(some 9), .bin .sub (.t 8) (.c (.int .i64 1)), none⟩,
    ⟨(some 10), .conv .u64 (.t 9), none⟩,
    ⟨(some 11), .bin .shl (.c (.int .i64 1)) (.t 10), none⟩,
    ⟨(some 2), .mov (.t 11), none⟩]) <|
 .ret, [.slot 2]⟩
theorem c16 : Code1 Try.prog 16 12 b16 := Code1.mk' Try.func16 (by kernel_rfl) (by kernel_rfl) Try.ntmps16

/-- fusee/histo.Tally.Quantile -/
def b17 : IFn := ⟨
 .seq
 (.region [⟨(some 4), .mov (.c (.int .i64 0)), none⟩,
    ⟨(some 5), .mov (.c (.int .i64 0)), none⟩,
    ⟨(some 6), .mov (.c (.bool false)), none⟩]) <|
 .seq
 (.region [⟨(some 15), .mov (.t 0), none⟩,
    ⟨(some 16), .call (.f 14) [(.t 15)], none⟩,
    ⟨(some 7), .mov (.t 16), none⟩]) <|
 .seq
 (.seq
  (.region [⟨(some 17), .mov (.t 7), none⟩,
     ⟨(some 18), .bin .eql (.t 17) (.c (.int .i64 0)), none⟩]) <|
  .cond (.t 18)
   (.seq
    (.region [⟨(some 4), .mov (.c (.int .i64 0)), none⟩,
       ⟨(some 5), .mov (.c (.int .i64 0)), none⟩,
       ⟨(some 6), .mov (.c (.bool false)), none⟩]) <|
    .ret)
   (.skip)) <|
 .seq
 (.region [⟨(some 20), .mov (.t 7), none⟩,
    ⟨(some 21), .conv .u64 (.t 20), none⟩,
    ⟨(some 22), .mov (.t 1), none⟩,
    ⟨(some 23), .max [(.t 22), (.c (.int .i64 0))], none⟩,
    ⟨(some 24), .min [(.t 23), (.c (.int .i64 1000))], none⟩,
    ⟨(some 25), .conv .u64 (.t 24), none⟩,
    ⟨(some 26), .call (.f 23) [(.t 21), (.t 25)], none⟩,
    ⟨(some 19), .mov (.t 26), none⟩,
    ⟨(some 27), .extract (.t 19) 0, none⟩,
    ⟨(some 28), .extract (.t 19) 1, none⟩,
    ⟨(some 8), .mov (.t 27), none⟩,
    ⟨(some 9), .mov (.t 28), none⟩]) <|
 .seq
 (.region [⟨(some 30), .mov (.t 8), none⟩,
    ⟨(some 31), .mov (.t 9), none⟩,
    ⟨(some 32), .call (.f 24) [(.t 30), (.t 31), (.c (.int .u64 1000))], none⟩,
    ⟨(some 29), .mov (.t 32), none⟩,
    ⟨(some 33), .extract (.t 29) 0, none⟩,
    ⟨(some 34), .extract (.t 29) 1, none⟩,
    ⟨(some 10), .mov (.t 33), none⟩,
    ⟨(some 11), .mov (.t 34), none⟩]) <|
 .seq
 (.seq
  (.region [⟨(some 35), .mov (.t 11), none⟩,
     ⟨(some 36), .bin .gtr (.t 35) (.c (.int .u64 0)), none⟩]) <|
  .cond (.t 36)
   (.region [⟨(some 37), .mov (.t 10), none⟩,
      ⟨(some 38), .bin .add (.t 37) (.c (.int .u64 1)), none⟩,
      ⟨(some 10), .mov (.t 38), none⟩])
   (.skip)) <|
 .seq
 (.region [⟨(some 39), .mov (.t 10), none⟩,
    ⟨(some 40), .conv .i64 (.t 39), none⟩,
    ⟨(some 41), .max [(.t 40), (.c (.int .i64 1))], none⟩,
    ⟨(some 12), .mov (.t 41), none⟩]) <|
 .seq
 (.region [⟨(some 13), .mov (.c (.int .i64 0)), none⟩,
    ⟨(some 14), .mov (.c (.int .i64 (-1))), none⟩]) <|
 .seq
 (.block 0 <|
  .loop [0, 12, 13, 14] <|
   .seq
   (.seq
    (.region [⟨(some 42), .mov (.t 13), none⟩,
       ⟨(some 43), .mov (.t 12), none⟩,
       ⟨(some 44), .bin .lss (.t 42) (.t 43), none⟩]) <|
    .cond (.t 44)
     (.skip)
     (.exit 0)) <|
   .block 1 <|
   .seq
   (.region [⟨(some 45), .mov (.t 14), none⟩,
      ⟨(some 46), .bin .add (.t 45) (.c (.int .i64 1)), none⟩,
      ⟨(some 14), .mov (.t 46), none⟩]) <|
   .region [⟨(some 47), .mov (.t 13), none⟩,
     ⟨(some 48), .mov (.t 0), none⟩,
     ⟨(some 49), .mov (.t 14), none⟩,
     ⟨(some 50), .nilck (.t 48), none⟩,
     ⟨(some 51), .faddr 0 (.t 50), none⟩,
     ⟨(some 52), .iaddrA 63 1 (.t 51) (.t 49), none⟩,
     ⟨(some 53), .load false 1 (.t 52), none⟩,
     ⟨(some 54), .bin .add (.t 47) (.t 53), none⟩,
     ⟨(some 13), .mov (.t 54), none⟩]) <|
 .seq
 (.region [⟨(some 55), .mov (.t 14), none⟩,
    ⟨(some 56), .call (.f 16) [(.t 55)], none⟩,
    ⟨(some 57), .mov (.t 14), none⟩,
    ⟨(some 58), .call (.f 25) [(.t 57)], none⟩,
    ⟨(some 4), .mov (.t 56), none⟩,
    ⟨(some 5), .mov (.t 58), none⟩,
    ⟨(some 6), .mov (.c (.bool true)), none⟩]) <|
 .ret, [.slot 4, .slot 5, .slot 6]⟩
theorem c17 : Code1 Try.prog 17 59 b17 := Code1.mk' Try.func17 (by kernel_rfl) (by kernel_rfl) Try.ntmps17

/-- fusee/histo.Tally.Many -/
def b18 : IFn := ⟨
 .seq
 (.seq
  (.region [⟨(some 6), .mov (.t 2), none⟩,
     ⟨(some 7), .max [(.t 6), (.c (.int .i64 0))], none⟩,
     ⟨(some 8), .min [(.t 7), (.c (.int .i64 1099511627776))], none⟩,
     ⟨(some 2), .mov (.t 8), none⟩]) <|
  .seq
  (.region [⟨(some 9), .mov (.t 0), none⟩,
     ⟨(some 10), .eq false false [.ptr] (.t 9) (.c (.ptr none)), none⟩,
     ⟨(some 11), .mov (.t 10), none⟩,
     ⟨(some 12), .mov (.t 2), (some (11, false))⟩,
     ⟨(some 13), .bin .eql (.t 12) (.c (.int .i64 0)), (some (11, false))⟩,
     ⟨(some 14), .pick (.t 11) (.c (.bool true)) (.t 13), none⟩]) <|
  .cond (.t 14)
   (.ret)
   (.skip)) <|
 .seq
 (.region [⟨(some 15), .mov (.t 1), none⟩,
    ⟨(some 16), .call (.f 22) [(.t 15)], none⟩,
    ⟨(some 1), .mov (.t 16), none⟩]) <|
 .seq
 (.seq
  (.region [⟨(some 17), .mov (.t 0), none⟩,
     ⟨(some 18), .nilck (.t 17), none⟩,
     ⟨(some 19), .faddr 63 (.t 18), none⟩,
     ⟨(some 20), .load false 1 (.t 19), none⟩,
     ⟨(some 21), .bin .eql (.t 20) (.c (.int .i64 0)), none⟩]) <|
  .cond (.t 21)
   (.region [⟨(some 22), .mov (.t 0), none⟩,
      ⟨(some 23), .mov (.t 0), none⟩,
      ⟨(some 24), .mov (.t 1), none⟩,
      ⟨(some 25), .mov (.t 1), none⟩,
      ⟨(some 26), .nilck (.t 22), none⟩,
      ⟨(some 27), .faddr 64 (.t 26), none⟩,
      ⟨none, .store 1 (.t 27) (.t 24), none⟩,
      ⟨(some 28), .nilck (.t 23), none⟩,
      ⟨(some 29), .faddr 65 (.t 28), none⟩,
      ⟨none, .store 1 (.t 29) (.t 25), none⟩])
   (.skip)) <|
 .seq
 (.draw false [0, 1, 2] (
    .op ⟨(some 30), .mov (.t 0), none⟩ <|
    .op ⟨(some 31), .mov (.t 0), none⟩ <|
    .op ⟨(some 32), .mov (.t 0), none⟩ <|
    .op ⟨(some 33), .nilck (.t 32), none⟩ <|
    .op ⟨(some 34), .faddr 64 (.t 33), none⟩ <|
    .op ⟨(some 35), .load false 1 (.t 34), none⟩ <|
    .op ⟨(some 36), .mov (.t 1), none⟩ <|
    .op ⟨(some 37), .min [(.t 35), (.t 36)], none⟩ <|
    .op ⟨(some 38), .mov (.t 0), none⟩ <|
    .op ⟨(some 39), .nilck (.t 38), none⟩ <|
    .op ⟨(some 40), .faddr 65 (.t 39), none⟩ <|
    .op ⟨(some 41), .load false 1 (.t 40), none⟩ <|
    .op ⟨(some 42), .mov (.t 1), none⟩ <|
    .op ⟨(some 43), .max [(.t 41), (.t 42)], none⟩ <|
    .op ⟨(some 44), .nilck (.t 30), none⟩ <|
    .op ⟨(some 45), .faddr 64 (.t 44), none⟩ <|
    .op ⟨none, .store 1 (.t 45) (.t 37), none⟩ <|
    .op ⟨(some 46), .nilck (.t 31), none⟩ <|
    .op ⟨(some 47), .faddr 65 (.t 46), none⟩ <|
    .op ⟨none, .store 1 (.t 47) (.t 43), none⟩ <|
    .done)) <|
 .seq
 (.draw false [0, 2] (
    .op ⟨(some 48), .mov (.t 0), none⟩ <|
    .op ⟨(some 49), .mov (.t 1), none⟩ <|
    .op ⟨(some 51), .nilck (.t 48), none⟩ <|
    .op ⟨(some 52), .faddr 0 (.t 51), none⟩ <|
    .op ⟨(some 55), .mov (.t 2), none⟩ <|
    .op ⟨(some 57), .nilck (.t 48), none⟩ <|
    .op ⟨(some 58), .faddr 0 (.t 57), none⟩ <|
    .op ⟨(some 50), .call (.f 15) [(.t 49)], none⟩ <|
    .op ⟨(some 53), .iaddrA 63 1 (.t 52) (.t 50), none⟩ <|
    .op ⟨(some 54), .load false 1 (.t 53), none⟩ <|
    .op ⟨(some 56), .bin .add (.t 54) (.t 55), none⟩ <|
    .op ⟨(some 59), .iaddrA 63 1 (.t 58) (.t 50), none⟩ <|
    .op ⟨none, .store 1 (.t 59) (.t 56), none⟩ <|
    .done)) <|
 .region [⟨(some 60), .mov (.t 0), none⟩,
   ⟨(some 61), .nilck (.t 60), none⟩,
   ⟨(some 62), .faddr 63 (.t 61), none⟩,
   ⟨(some 63), .load false 1 (.t 62), none⟩,
   ⟨(some 64), .mov (.t 2), none⟩,
   ⟨(some 65), .bin .add (.t 63) (.t 64), none⟩,
   ⟨(some 66), .nilck (.t 60), none⟩,
   ⟨(some 67), .faddr 63 (.t 66), none⟩,
   ⟨none, .store 1 (.t 67) (.t 65), none⟩], []⟩
theorem c18 : Code1 Try.prog 18 68 b18 := Code1.mk' Try.func18 (by kernel_rfl) (by kernel_rfl) Try.ntmps18

/-- fusee/histo.Tally.Join -/
def b19 : IFn := ⟨
 .seq
 (.seq
  (.region [⟨(some 6), .mov (.t 0), none⟩,
     ⟨(some 7), .eq false false [.ptr] (.t 6) (.c (.ptr none)), none⟩,
     ⟨(some 8), .mov (.t 7), none⟩,
     ⟨(some 9), .mov (.t 1), (some (8, false))⟩,
     ⟨(some 10), .call (.f 14) [(.t 9)], (some (8, false))⟩,
     ⟨(some 11), .bin .eql (.t 10) (.c (.int .i64 0)), (some (8, false))⟩,
     ⟨(some 12), .pick (.t 8) (.c (.bool true)) (.t 11), none⟩]) <|
  .cond (.t 12)
   (.ret)
   (.skip)) <|
 .seq
 (.seq
  (.region [⟨(some 13), .mov (.t 0), none⟩,
     ⟨(some 14), .nilck (.t 13), none⟩,
     ⟨(some 15), .faddr 63 (.t 14), none⟩,
     ⟨(some 16), .load false 1 (.t 15), none⟩,
     ⟨(some 17), .bin .eql (.t 16) (.c (.int .i64 0)), none⟩]) <|
  .cond (.t 17)
   (.draw false [0, 1] (
      .op ⟨(some 18), .mov (.t 0), none⟩ <|
      .op ⟨(some 19), .mov (.t 0), none⟩ <|
      .op ⟨(some 20), .mov (.t 1), none⟩ <|
      .op ⟨(some 21), .nilck (.t 20), none⟩ <|
      .op ⟨(some 22), .faddr 64 (.t 21), none⟩ <|
      .op ⟨(some 23), .load false 1 (.t 22), none⟩ <|
      .op ⟨(some 24), .mov (.t 1), none⟩ <|
      .op ⟨(some 25), .nilck (.t 24), none⟩ <|
      .op ⟨(some 26), .faddr 65 (.t 25), none⟩ <|
      .op ⟨(some 27), .load false 1 (.t 26), none⟩ <|
      .op ⟨(some 28), .nilck (.t 18), none⟩ <|
      .op ⟨(some 29), .faddr 64 (.t 28), none⟩ <|
      .op ⟨none, .store 1 (.t 29) (.t 23), none⟩ <|
      .op ⟨(some 30), .nilck (.t 19), none⟩ <|
      .op ⟨(some 31), .faddr 65 (.t 30), none⟩ <|
      .op ⟨none, .store 1 (.t 31) (.t 27), none⟩ <|
      .done))
   (.skip)) <|
 .seq
 (.draw false [0, 1] (
    .op ⟨(some 32), .mov (.t 0), none⟩ <|
    .op ⟨(some 33), .mov (.t 0), none⟩ <|
    .op ⟨(some 34), .mov (.t 0), none⟩ <|
    .op ⟨(some 35), .nilck (.t 34), none⟩ <|
    .op ⟨(some 36), .faddr 64 (.t 35), none⟩ <|
    .op ⟨(some 37), .load false 1 (.t 36), none⟩ <|
    .op ⟨(some 38), .mov (.t 1), none⟩ <|
    .op ⟨(some 39), .nilck (.t 38), none⟩ <|
    .op ⟨(some 40), .faddr 64 (.t 39), none⟩ <|
    .op ⟨(some 41), .load false 1 (.t 40), none⟩ <|
    .op ⟨(some 42), .min [(.t 37), (.t 41)], none⟩ <|
    .op ⟨(some 43), .mov (.t 0), none⟩ <|
    .op ⟨(some 44), .nilck (.t 43), none⟩ <|
    .op ⟨(some 45), .faddr 65 (.t 44), none⟩ <|
    .op ⟨(some 46), .load false 1 (.t 45), none⟩ <|
    .op ⟨(some 47), .mov (.t 1), none⟩ <|
    .op ⟨(some 48), .nilck (.t 47), none⟩ <|
    .op ⟨(some 49), .faddr 65 (.t 48), none⟩ <|
    .op ⟨(some 50), .load false 1 (.t 49), none⟩ <|
    .op ⟨(some 51), .max [(.t 46), (.t 50)], none⟩ <|
    .op ⟨(some 52), .nilck (.t 32), none⟩ <|
    .op ⟨(some 53), .faddr 64 (.t 52), none⟩ <|
    .op ⟨none, .store 1 (.t 53) (.t 42), none⟩ <|
    .op ⟨(some 54), .nilck (.t 33), none⟩ <|
    .op ⟨(some 55), .faddr 65 (.t 54), none⟩ <|
    .op ⟨none, .store 1 (.t 55) (.t 51), none⟩ <|
    .done)) <|
 .seq
 (.draw false [0, 1] (
    .op ⟨(some 56), .mov (.t 0), none⟩ <|
    .op ⟨(some 57), .nilck (.t 56), none⟩ <|
    .op ⟨(some 58), .faddr 63 (.t 57), none⟩ <|
    .op ⟨(some 59), .load false 1 (.t 58), none⟩ <|
    .op ⟨(some 60), .mov (.t 1), none⟩ <|
    .op ⟨(some 61), .nilck (.t 60), none⟩ <|
    .op ⟨(some 62), .faddr 63 (.t 61), none⟩ <|
    .op ⟨(some 63), .load false 1 (.t 62), none⟩ <|
    .op ⟨(some 64), .bin .add (.t 59) (.t 63), none⟩ <|
    .op ⟨(some 65), .nilck (.t 56), none⟩ <|
    .op ⟨(some 66), .faddr 63 (.t 65), none⟩ <|
    .op ⟨none, .store 1 (.t 66) (.t 64), none⟩ <|
    .done)) <|
 .seq
 (.region [⟨(some 67), .mov (.t 1), none⟩,
    ⟨(some 68), .nilck (.t 67), none⟩,
    ⟨(some 69), .faddr 0 (.t 68), none⟩,
    ⟨(some 70), .load true 63 (.t 69), none⟩,
    ⟨(some 71), .mov (.c (.int .i64 0)), none⟩]) <|
 .block 0 <|
 .loop [0, 70, 71] <|
  .seq
  (.region [⟨(some 72), .bin .lss (.t 71) (.c (.int .i64 63)), none⟩]) <|
  .seq
  (.cond (.t 72)
    (.skip)
    (.exit 0)) <|
  .seq
  (.block 1 <|
   .seq
   (.region [⟨(some 73), .mov (.t 71), none⟩,
      ⟨(some 74), .index false 63 1 (.t 70) (.t 71), none⟩,
      ⟨(some 4), .mov (.t 73), none⟩,
      ⟨(some 5), .mov (.t 74), none⟩]) <|
   .draw false [0, 70, 71] (
     .op ⟨(some 75), .mov (.t 0), none⟩ <|
     .op ⟨(some 76), .mov (.t 4), none⟩ <|
     .op ⟨(some 77), .nilck (.t 75), none⟩ <|
     .op ⟨(some 78), .faddr 0 (.t 77), none⟩ <|
     .op ⟨(some 79), .iaddrA 63 1 (.t 78) (.t 76), none⟩ <|
     .op ⟨(some 80), .load false 1 (.t 79), none⟩ <|
     .op ⟨(some 81), .mov (.t 5), none⟩ <|
     .op ⟨(some 82), .bin .add (.t 80) (.t 81), none⟩ <|
     .op ⟨(some 83), .nilck (.t 75), none⟩ <|
     .op ⟨(some 84), .faddr 0 (.t 83), none⟩ <|
     .op ⟨(some 85), .iaddrA 63 1 (.t 84) (.t 76), none⟩ <|
     .op ⟨none, .store 1 (.t 85) (.t 82), none⟩ <|
     .done)) <|
  .region [⟨(some 86), .bin .add (.t 71) (.c (.int .i64 1)), none⟩,
    ⟨(some 71), .mov (.t 86), none⟩], []⟩
theorem c19 : Code1 Try.prog 19 87 b19 := Code1.mk' Try.func19 (by kernel_rfl) (by kernel_rfl) Try.ntmps19

/-- fusee/fuseelaw36.clamp -/
def b20 : IFn := ⟨
 .seq
 (.region [⟨(some 2), .mov (.c (.int .i64 0)), none⟩]) <|
 .seq
 (.region [⟨(some 3), .mov (.t 0), none⟩,
    ⟨(some 4), .max [(.t 3), (.c (.int .i64 0))], none⟩,
    ⟨(some 5), .min [(.t 4), (.c (.int .i64 4611686018427387903))], none⟩,
    ⟨(some 2), .mov (.t 5), none⟩]) <|
 .ret, [.slot 2]⟩
theorem c20 : Code1 Try.prog 20 6 b20 := Code1.mk' Try.func20 (by kernel_rfl) (by kernel_rfl) Try.ntmps20

/-- math/bits.Len64 -/
def b21 : IFn := ⟨
 .seq
 (.region [⟨(some 2), .mov (.c (.int .i64 0)), none⟩]) <|
 .seq
 (.seq
  (.region [⟨(some 3), .mov (.t 0), none⟩,
     ⟨(some 4), .bin .geq (.t 3) (.c (.int .u64 4294967296)), none⟩]) <|
  .cond (.t 4)
   (.seq
    (.region [⟨(some 5), .mov (.t 0), none⟩,
       ⟨(some 6), .bin .shr (.t 5) (.c (.int .u64 32)), none⟩,
       ⟨(some 0), .mov (.t 6), none⟩]) <|
    .region [⟨(some 2), .mov (.c (.int .i64 32)), none⟩])
   (.skip)) <|
 .seq
 (.seq
  (.region [⟨(some 7), .mov (.t 0), none⟩,
     ⟨(some 8), .bin .geq (.t 7) (.c (.int .u64 65536)), none⟩]) <|
  .cond (.t 8)
   (.seq
    (.region [⟨(some 9), .mov (.t 0), none⟩,
       ⟨(some 10), .bin .shr (.t 9) (.c (.int .u64 16)), none⟩,
       ⟨(some 0), .mov (.t 10), none⟩]) <|
    .region [⟨(some 11), .mov (.t 2), none⟩,
      ⟨(some 12), .bin .add (.t 11) (.c (.int .i64 16)), none⟩,
      ⟨(some 2), .mov (.t 12), none⟩])
   (.skip)) <|
 .seq
 (.seq
  (.region [⟨(some 13), .mov (.t 0), none⟩,
     ⟨(some 14), .bin .geq (.t 13) (.c (.int .u64 256)), none⟩]) <|
  .cond (.t 14)
   (.seq
    (.region [⟨(some 15), .mov (.t 0), none⟩,
       ⟨(some 16), .bin .shr (.t 15) (.c (.int .u64 8)), none⟩,
       ⟨(some 0), .mov (.t 16), none⟩]) <|
    .region [⟨(some 17), .mov (.t 2), none⟩,
      ⟨(some 18), .bin .add (.t 17) (.c (.int .i64 8)), none⟩,
      ⟨(some 2), .mov (.t 18), none⟩])
   (.skip)) <|
 .seq
 (.region [⟨(some 19), .mov (.t 2), none⟩,
    ⟨(some 20), .mov (.t 0), none⟩,
    ⟨(some 21), .conv .u8 (.t 20), none⟩,
    ⟨(some 22), .indexS (.c (.str ⟨#[0, 1, 2, 2, 3, 3, 3, 3, 4, 4, 4, 4, 4, 4, 4, 4, 5, 5, 5, 5, 5, 5, 5, 5, 5, 5, 5, 5, 5, 5, 5, 5, 6, 6, 6, 6, 6, 6, 6, 6, 6, 6, 6, 6, 6, 6, 6, 6, 6, 6, 6, 6, 6, 6, 6, 6, 6, 6, 6, 6, 6, 6, 6, 6, 7, 7, 7, 7, 7, 7, 7, 7, 7, 7, 7, 7, 7, 7, 7, 7, 7, 7, 7, 7, 7, 7, 7, 7, 7, 7, 7, 7, 7, 7, 7, 7, 7, 7, 7, 7, 7, 7, 7, 7, 7, 7, 7, 7, 7, 7, 7, 7, 7, 7, 7, 7, 7, 7, 7, 7, 7, 7, 7, 7, 7, 7, 7, 7, 8, 8, 8, 8, 8, 8, 8, 8, 8, 8, 8, 8, 8, 8, 8, 8, 8, 8, 8, 8, 8, 8, 8, 8, 8, 8, 8, 8, 8, 8, 8, 8, 8, 8, 8, 8, 8, 8, 8, 8, 8, 8, 8, 8, 8, 8, 8, 8, 8, 8, 8, 8, 8, 8, 8, 8, 8, 8, 8, 8, 8, 8, 8, 8, 8, 8, 8, 8, 8, 8, 8, 8, 8, 8, 8, 8, 8, 8, 8, 8, 8, 8, 8, 8, 8, 8, 8, 8, 8, 8, 8, 8, 8, 8, 8, 8, 8, 8, 8, 8, 8, 8, 8, 8, 8, 8, 8, 8, 8, 8, 8, 8, 8, 8, 8, 8, 8, 8, 8, 8, 8, 8, 8, 8, 8, 8, 8, 8]⟩)) (.t 21), none⟩,
    ⟨(some 23), .conv .i64 (.t 22), none⟩,
    ⟨(some 24), .bin .add (.t 19) (.t 23), none⟩,
    ⟨(some 2), .mov (.t 24), none⟩]) <|
 .ret, [.slot 2]⟩
theorem c21 : Code1 Try.prog 21 25 b21 := Code1.mk' Try.func21 (by kernel_rfl) (by kernel_rfl) Try.ntmps21

/-- fusee/histo.clamp -/
def b22 : IFn := ⟨
 .seq
 (.region [⟨(some 2), .mov (.c (.int .i64 0)), none⟩]) <|
 .seq
 (.region [⟨(some 3), .mov (.t 0), none⟩,
    ⟨(some 4), .max [(.t 3), (.c (.int .i64 0))], none⟩,
    ⟨(some 5), .min [(.t 4), (.c (.int .i64 4611686018427387903))], none⟩,
    ⟨(some 2), .mov (.t 5), none⟩]) <|
 .ret, [.slot 2]⟩
theorem c22 : Code1 Try.prog 22 6 b22 := Code1.mk' Try.func22 (by kernel_rfl) (by kernel_rfl) Try.ntmps22

/-- math/bits.Mul64 -/
def b23 : IFn := ⟨
 .seq
 (.region [⟨(some 4), .mov (.c (.int .u64 0)), none⟩,
    ⟨(some 5), .mov (.c (.int .u64 0)), none⟩]) <|
 .seq
 (.region [⟨(some 14), .mov (.t 0), none⟩,
    ⟨(some 15), .bin .and (.t 14) (.c (.int .u64 4294967295)), none⟩,
    ⟨(some 6), .mov (.t 15), none⟩]) <|
 .seq
 (.region [⟨(some 16), .mov (.t 0), none⟩,
    ⟨(some 17), .bin .shr (.t 16) (.c (.int .u64 32)), none⟩,
    ⟨(some 7), .mov (.t 17), none⟩]) <|
 .seq
 (.region [⟨(some 18), .mov (.t 1), none⟩,
    ⟨(some 19), .bin .and (.t 18) (.c (.int .u64 4294967295)), none⟩,
    ⟨(some 8), .mov (.t 19), none⟩]) <|
 .seq
 (.region [⟨(some 20), .mov (.t 1), none⟩,
    ⟨(some 21), .bin .shr (.t 20) (.c (.int .u64 32)), none⟩,
    ⟨(some 9), .mov (.t 21), none⟩]) <|
 .seq
 (.region [⟨(some 22), .mov (.t 6), none⟩,
    ⟨(some 23), .mov (.t 8), none⟩,
    ⟨(some 24), .bin .mul (.t 22) (.t 23), none⟩,
    ⟨(some 10), .mov (.t 24), none⟩]) <|
 .seq
 (.region [⟨(some 25), .mov (.t 7), none⟩,
    ⟨(some 26), .mov (.t 8), none⟩,
    ⟨(some 27), .bin .mul (.t 25) (.t 26), none⟩,
    ⟨(some 28), .mov (.t 10), none⟩,
    ⟨(some 29), .bin .shr (.t 28) (.c (.int .u64 32)), none⟩,
    ⟨(some 30), .bin .add (.t 27) (.t 29), none⟩,
    ⟨(some 11), .mov (.t 30), none⟩]) <|
 .seq
 (.region [⟨(some 31), .mov (.t 11), none⟩,
    ⟨(some 32), .bin .and (.t 31) (.c (.int .u64 4294967295)), none⟩,
    ⟨(some 12), .mov (.t 32), none⟩]) <|
 .seq
 (.region [⟨(some 33), .mov (.t 11), none⟩,
    ⟨(some 34), .bin .shr (.t 33) (.c (.int .u64 32)), none⟩,
    ⟨(some 13), .mov (.t 34), none⟩]) <|
 .seq
 (.region [⟨(some 35), .mov (.t 12), none⟩,
    ⟨(some 36), .mov (.t 6), none⟩,
    ⟨(some 37), .mov (.t 9), none⟩,
    ⟨(some 38), .bin .mul (.t 36) (.t 37), none⟩,
    ⟨(some 39), .bin .add (.t 35) (.t 38), none⟩,
    ⟨(some 12), .mov (.t 39), none⟩]) <|
 .seq
 (.region [⟨(some 40), .mov (.t 7), none⟩,
    ⟨(some 41), .mov (.t 9), none⟩,
    ⟨(some 42), .bin .mul (.t 40) (.t 41), none⟩,
    ⟨(some 43), .mov (.t 13), none⟩,
    ⟨(some 44), .bin .add (.t 42) (.t 43), none⟩,
    ⟨(some 45), .mov (.t 12), none⟩,
    ⟨(some 46), .bin .shr (.t 45) (.c (.int .u64 32)), none⟩,
    ⟨(some 47), .bin .add (.t 44) (.t 46), none⟩,
    ⟨(some 4), .mov (.t 47), none⟩]) <|
 .seq
 (.region [⟨(some 48), .mov (.t 0), none⟩,
    ⟨(some 49), .mov (.t 1), none⟩,
    ⟨(some 50), .bin .mul (.t 48) (.t 49), none⟩,
    ⟨(some 5), .mov (.t 50), none⟩]) <|
 .ret, [.slot 4, .slot 5]⟩
theorem c23 : Code1 Try.prog 23 51 b23 := Code1.mk' Try.func23 (by kernel_rfl) (by kernel_rfl) Try.ntmps23

/-- math/bits.Div64 BAD -/
def b24 : IFn := ⟨
 .seq
 (.region [⟨(some 6), .mov (.c (.int .u64 0)), none⟩,
    ⟨(some 7), .mov (.c (.int .u64 0)), none⟩]) <|
 .seq
 (.seq
  (.region [⟨(some 19), .mov (.t 2), none⟩,
     ⟨(some 20), .bin .eql (.t 19) (.c (.int .u64 0)), none⟩]) <|
  .cond (.t 20)
   (.region [⟨(some 21), .load false 1 (.c .undef), none⟩,
      ⟨none, .bad, none⟩])
   (.skip)) <|
 .seq
 (.seq
  (.region [⟨(some 22), .mov (.t 2), none⟩,
     ⟨(some 23), .mov (.t 0), none⟩,
     ⟨(some 24), .bin .leq (.t 22) (.t 23), none⟩]) <|
  .cond (.t 24)
   (.region [⟨(some 25), .load false 1 (.c .undef), none⟩,
      ⟨none, .bad, none⟩])
   (.skip)) <|
 .seq
 (.seq
  (.region [⟨(some 26), .mov (.t 0), none⟩,
     ⟨(some 27), .bin .eql (.t 26) (.c (.int .u64 0)), none⟩]) <|
  .cond (.t 27)
   (.seq
    (.draw false [6, 7] (
       .op ⟨(some 28), .mov (.t 1), none⟩ <|
       .op ⟨(some 29), .mov (.t 2), none⟩ <|
       .op ⟨(some 30), .bin .quo (.t 28) (.t 29), none⟩ <|
       .op ⟨(some 31), .mov (.t 1), none⟩ <|
       .op ⟨(some 32), .mov (.t 2), none⟩ <|
       .op ⟨(some 33), .bin .rem (.t 31) (.t 32), none⟩ <|
       .op ⟨(some 6), .mov (.t 30), none⟩ <|
       .op ⟨(some 7), .mov (.t 33), none⟩ <|
       .done)) <|
    .ret)
   (.skip)) <|
 .seq
 (.region [⟨(some 34), .mov (.t 2), none⟩,
    ⟨(some 35), .call (.f 26) [(.t 34)], none⟩,
    ⟨(some 36), .conv .u64 (.t 35), none⟩,
    ⟨(some 8), .mov (.t 36), none⟩]) <|
 .seq
 (.region [⟨(some 37), .mov (.t 2), none⟩,
    ⟨(some 38), .mov (.t 8), none⟩,
    ⟨(some 39), .bin .shl (.t 37) (.t 38), none⟩,
    ⟨(some 2), .mov (.t 39), none⟩]) <|
 .seq
 (.region [⟨(some 40), .mov (.t 2), none⟩,
    ⟨(some 41), .bin .shr (.t 40) (.c (.int .u64 32)), none⟩,
    ⟨(some 9), .mov (.t 41), none⟩]) <|
 .seq
 (.region [⟨(some 42), .mov (.t 2), none⟩,
    ⟨(some 43), .bin .and (.t 42) (.c (.int .u64 4294967295)), none⟩,
    ⟨(some 10), .mov (.t 43), none⟩]) <|
 .seq
 (.region [⟨(some 44), .mov (.t 0), none⟩,
    ⟨(some 45), .mov (.t 8), none⟩,
    ⟨(some 46), .bin .shl (.t 44) (.t 45), none⟩,
    ⟨(some 47), .mov (.t 1), none⟩,
    ⟨(some 48), .mov (.t 8), none⟩,
    ⟨(some 49), .bin .sub (.c (.int .u64 64)) (.t 48), none⟩,
    ⟨(some 50), .bin .shr (.t 47) (.t 49), none⟩,
    ⟨(some 51), .bin .or (.t 46) (.t 50), none⟩,
    ⟨(some 11), .mov (.t 51), none⟩]) <|
 .seq
 (.region [⟨(some 52), .mov (.t 1), none⟩,
    ⟨(some 53), .mov (.t 8), none⟩,
    ⟨(some 54), .bin .shl (.t 52) (.t 53), none⟩,
    ⟨(some 12), .mov (.t 54), none⟩]) <|
 .seq
 (.region [⟨(some 55), .mov (.t 12), none⟩,
    ⟨(some 56), .bin .shr (.t 55) (.c (.int .u64 32)), none⟩,
    ⟨(some 13), .mov (.t 56), none⟩]) <|
 .seq
 (.region [⟨(some 57), .mov (.t 12), none⟩,
    ⟨(some 58), .bin .and (.t 57) (.c (.int .u64 4294967295)), none⟩,
    ⟨(some 14), .mov (.t 58), none⟩]) <|
 .seq
 (.region [⟨(some 59), .mov (.t 11), none⟩,
    ⟨(some 60), .mov (.t 9), none⟩,
    ⟨(some 61), .bin .quo (.t 59) (.t 60), none⟩,
    ⟨(some 15), .mov (.t 61), none⟩]) <|
 .seq
 (.region [⟨(some 62), .mov (.t 11), none⟩,
    ⟨(some 63), .mov (.t 15), none⟩,
    ⟨(some 64), .mov (.t 9), none⟩,
    ⟨(some 65), .bin .mul (.t 63) (.t 64), none⟩,
    ⟨(some 66), .bin .sub (.t 62) (.t 65), none⟩,
    ⟨(some 16), .mov (.t 66), none⟩]) <|
 .seq
 (.block 0 <|
  .loop [2, 8, 9, 10, 11, 13, 14, 15, 16] <|
   .seq
   (.seq
    (.region [⟨(some 67), .mov (.t 15), none⟩,
       ⟨(some 68), .bin .geq (.t 67) (.c (.int .u64 4294967296)), none⟩,
       ⟨(some 69), .mov (.t 68), none⟩,
       ⟨(some 70), .mov (.t 15), (some (69, false))⟩,
       ⟨(some 71), .mov (.t 10), (some (69, false))⟩,
       ⟨(some 72), .bin .mul (.t 70) (.t 71), (some (69, false))⟩,
       ⟨(some 73), .mov (.t 16), (some (69, false))⟩,
       ⟨(some 74), .bin .mul (.c (.int .u64 4294967296)) (.t 73), (some (69, false))⟩,
       ⟨(some 75), .mov (.t 13), (some (69, false))⟩,
       ⟨(some 76), .bin .add (.t 74) (.t 75), (some (69, false))⟩,
       ⟨(some 77), .bin .gtr (.t 72) (.t 76), (some (69, false))⟩,
       ⟨(some 78), .pick (.t 69) (.c (.bool true)) (.t 77), none⟩]) <|
    .cond (.t 78)
     (.skip)
     (.exit 0)) <|
   .block 1 <|
   .seq
   (.region [⟨(some 79), .mov (.t 15), none⟩,
      ⟨(some 80), .bin .sub (.t 79) (.c (.int .u64 1)), none⟩,
      ⟨(some 15), .mov (.t 80), none⟩]) <|
   .seq
   (.region [⟨(some 81), .mov (.t 16), none⟩,
      ⟨(some 82), .mov (.t 9), none⟩,
      ⟨(some 83), .bin .add (.t 81) (.t 82), none⟩,
      ⟨(some 16), .mov (.t 83), none⟩]) <|
   .seq
   (.region [⟨(some 84), .mov (.t 16), none⟩,
      ⟨(some 85), .bin .geq (.t 84) (.c (.int .u64 4294967296)), none⟩]) <|
   .cond (.t 85)
    (.exit 0)
    (.skip)) <|
 .seq
 (.region [⟨(some 86), .mov (.t 11), none⟩,
    ⟨(some 87), .bin .mul (.t 86) (.c (.int .u64 4294967296)), none⟩,
    ⟨(some 88), .mov (.t 13), none⟩,
    ⟨(some 89), .bin .add (.t 87) (.t 88), none⟩,
    ⟨(some 90), .mov (.t 15), none⟩,
    ⟨(some 91), .mov (.t 2), none⟩,
    ⟨(some 92), .bin .mul (.t 90) (.t 91), none⟩,
    ⟨(some 93), .bin .sub (.t 89) (.t 92), none⟩,
    ⟨(some 17), .mov (.t 93), none⟩]) <|
 .seq
 (.region [⟨(some 94), .mov (.t 17), none⟩,
    ⟨(some 95), .mov (.t 9), none⟩,
    ⟨(some 96), .bin .quo (.t 94) (.t 95), none⟩,
    ⟨(some 18), .mov (.t 96), none⟩]) <|
 .seq
 (.region [⟨(some 97), .mov (.t 17), none⟩,
    ⟨(some 98), .mov (.t 18), none⟩,
    ⟨(some 99), .mov (.t 9), none⟩,
    ⟨(some 100), .bin .mul (.t 98) (.t 99), none⟩,
    ⟨(some 101), .bin .sub (.t 97) (.t 100), none⟩,
    ⟨(some 16), .mov (.t 101), none⟩]) <|
 .seq
 (.block 2 <|
  .loop [2, 8, 9, 10, 14, 15, 16, 17, 18] <|
   .seq
   (.seq
    (.region [⟨(some 102), .mov (.t 18), none⟩,
       ⟨(some 103), .bin .geq (.t 102) (.c (.int .u64 4294967296)), none⟩,
       ⟨(some 104), .mov (.t 103), none⟩,
       ⟨(some 105), .mov (.t 18), (some (104, false))⟩,
       ⟨(some 106), .mov (.t 10), (some (104, false))⟩,
       ⟨(some 107), .bin .mul (.t 105) (.t 106), (some (104, false))⟩,
       ⟨(some 108), .mov (.t 16), (some (104, false))⟩,
       ⟨(some 109), .bin .mul (.c (.int .u64 4294967296)) (.t 108), (some (104, false))⟩,
       ⟨(some 110), .mov (.t 14), (some (104, false))⟩,
       ⟨(some 111), .bin .add (.t 109) (.t 110), (some (104, false))⟩,
       ⟨(some 112), .bin .gtr (.t 107) (.t 111), (some (104, false))⟩,
       ⟨(some 113), .pick (.t 104) (.c (.bool true)) (.t 112), none⟩]) <|
    .cond (.t 113)
     (.skip)
     (.exit 2)) <|
   .block 3 <|
   .seq
   (.region [⟨(some 114), .mov (.t 18), none⟩,
      ⟨(some 115), .bin .sub (.t 114) (.c (.int .u64 1)), none⟩,
      ⟨(some 18), .mov (.t 115), none⟩]) <|
   .seq
   (.region [⟨(some 116), .mov (.t 16), none⟩,
      ⟨(some 117), .mov (.t 9), none⟩,
      ⟨(some 118), .bin .add (.t 116) (.t 117), none⟩,
      ⟨(some 16), .mov (.t 118), none⟩]) <|
   .seq
   (.region [⟨(some 119), .mov (.t 16), none⟩,
      ⟨(some 120), .bin .geq (.t 119) (.c (.int .u64 4294967296)), none⟩]) <|
   .cond (.t 120)
    (.exit 2)
    (.skip)) <|
 .seq
 (.region [⟨(some 121), .mov (.t 15), none⟩,
    ⟨(some 122), .bin .mul (.t 121) (.c (.int .u64 4294967296)), none⟩,
    ⟨(some 123), .mov (.t 18), none⟩,
    ⟨(some 124), .bin .add (.t 122) (.t 123), none⟩,
    ⟨(some 125), .mov (.t 17), none⟩,
    ⟨(some 126), .bin .mul (.t 125) (.c (.int .u64 4294967296)), none⟩,
    ⟨(some 127), .mov (.t 14), none⟩,
    ⟨(some 128), .bin .add (.t 126) (.t 127), none⟩,
    ⟨(some 129), .mov (.t 18), none⟩,
    ⟨(some 130), .mov (.t 2), none⟩,
    ⟨(some 131), .bin .mul (.t 129) (.t 130), none⟩,
    ⟨(some 132), .bin .sub (.t 128) (.t 131), none⟩,
    ⟨(some 133), .mov (.t 8), none⟩,
    ⟨(some 134), .bin .shr (.t 132) (.t 133), none⟩,
    ⟨(some 6), .mov (.t 124), none⟩,
    ⟨(some 7), .mov (.t 134), none⟩]) <|
 .ret, [.slot 6, .slot 7]⟩
theorem c24 : Code1 Try.prog 24 135 b24 := Code1.mk' Try.func24 (by kernel_rfl) (by kernel_rfl) Try.ntmps24

/-- fusee/histo.high -/
def b25 : IFn := ⟨
 .seq
 (.region [⟨(some 2), .mov (.c (.int .i64 0)), none⟩]) <|
 .seq
 (.seq
  (.region [⟨(some 3), .mov (.t 0), none⟩,
     ⟨(some 4), .bin .eql (.t 3) (.c (.int .i64 62)), none⟩]) <|
  .cond (.t 4)
   (.seq
    (.region [⟨(some 2), .mov (.c (.int .i64 4611686018427387903)), none⟩]) <|
    .ret)
   (.skip)) <|
 .seq
 (.region [⟨(some 5), .mov (.t 0), none⟩,
    ⟨(some 6), .bin .add (.t 5) (.c (.int .i64 1)), none⟩,
    ⟨(some 7), .call (.f 16) [(.t 6)], none⟩,
    ⟨(some 8), .bin .sub (.t 7) (.c (.int .i64 1)), none⟩,
    ⟨(some 9), .max [(.t 8), (.c (.int .i64 0))], none⟩,
    ⟨(some 2), .mov (.t 9), none⟩]) <|
 .ret, [.slot 2]⟩
theorem c25 : Code1 Try.prog 25 10 b25 := Code1.mk' Try.func25 (by kernel_rfl) (by kernel_rfl) Try.ntmps25

/-- math/bits.LeadingZeros64 -/
def b26 : IFn := ⟨
 .seq
 (.region [⟨(some 2), .mov (.c (.int .i64 0)), none⟩]) <|
 .seq
 (.region [⟨(some 3), .mov (.t 0), none⟩,
    ⟨(some 4), .call (.f 21) [(.t 3)], none⟩,
    ⟨(some 5), .bin .sub (.c (.int .i64 64)) (.t 4), none⟩,
    ⟨(some 2), .mov (.t 5), none⟩]) <|
 .ret, [.slot 2]⟩
theorem c26 : Code1 Try.prog 26 6 b26 := Code1.mk' Try.func26 (by kernel_rfl) (by kernel_rfl) Try.ntmps26

/-- The functions that the facts at the head of each statement call. -/
abbrev code : CodeL := [(6, 107, b6), (7, 3, b7), (9, 7, b9), (10, 28, b10), (12, 11, b12), (13, 11, b13), (14, 9, b14), (15, 7, b15), (16, 12, b16), (17, 59, b17), (18, 68, b18), (19, 87, b19), (21, 25, b21), (22, 6, b22), (23, 51, b23), (24, 135, b24), (25, 10, b25), (26, 6, b26)]
theorem codeOk : CodeOk Try.prog code := ⟨c6, c7, c9, c10, c12, c13, c14, c15, c16, c17, c18, c19, c21, c22, c23, c24, c25, c26, trivial⟩

end Go.Proofs.Ytledckcliiemoaa
