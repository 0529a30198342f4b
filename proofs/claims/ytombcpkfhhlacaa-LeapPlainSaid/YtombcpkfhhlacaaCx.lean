/-
  THE CODE of the functions of this seat, as the plain machine's; each is what the compiler makes of the program's.
-/
import Derived.Test.YtombcpkfhhlacaaChecked
import Derived.Test.YtombcpkfhhlacaaAm18
import Derived.KernelRfl
namespace Go.Proofs.Ytombcpkfhhlacaa
open Go Go.AM
set_option linter.unusedVariables false

theorem hm : Try.prog.follows .mixedOrders = true := by kernel_rfl

/-- fusee/fuseelaw33.LeapTells -/
def b3 : IFn := ⟨
 .seq
 (.region [⟨(some 6), .mov (.c (.bool false)), none⟩]) <|
 .seq
 (.seq
  (.region [⟨(some 16), .call (.f 6) [], none⟩,
     ⟨(some 17), .un .not (.t 16), none⟩]) <|
  .cond (.t 17)
   (.seq
    (.region [⟨(some 6), .mov (.c (.bool false)), none⟩]) <|
    .ret)
   (.skip)) <|
 .seq
 (.seq
  (.region [⟨(some 18), .mov (.t 0), none⟩,
     ⟨(some 19), .len .sl (.t 18), none⟩,
     ⟨(some 20), .bin .gtr (.t 19) (.c (.int .i64 60)), none⟩]) <|
  .cond (.t 20)
   (.seq
    (.region [⟨(some 6), .mov (.c (.bool true)), none⟩]) <|
    .ret)
   (.skip)) <|
 .seq
 (.region [⟨(some 21), .mov (.t 0), none⟩,
    ⟨(some 22), .call (.f 7) [(.t 21)], none⟩,
    ⟨(some 7), .mov (.t 22), none⟩]) <|
 .seq
 (.seq
  (.region [⟨(some 23), .mov (.t 0), none⟩,
     ⟨(some 24), .call (.f 8) [(.t 23)], none⟩,
     ⟨(some 25), .un .not (.t 24), none⟩]) <|
  .cond (.t 25)
   (.seq
    (.region [⟨(some 26), .mov (.t 7), none⟩,
       ⟨(some 27), .eq false false [.ptr] (.t 26) (.c (.ptr none)), none⟩,
       ⟨(some 28), .mov (.t 27), none⟩,
       ⟨(some 29), .mov (.t 7), (some (28, true))⟩,
       ⟨(some 30), .mov (.t 1), (some (28, true))⟩,
       ⟨(some 31), .call (.f 9) [(.t 29), (.t 30)], (some (28, true))⟩,
       ⟨(some 32), .bin .eql (.t 31) (.c (.int .i64 0)), (some (28, true))⟩,
       ⟨(some 33), .pick (.t 28) (.t 32) (.c (.bool false)), none⟩,
       ⟨(some 34), .mov (.t 33), none⟩,
       ⟨(some 35), .mov (.t 7), (some (34, true))⟩,
       ⟨(some 36), .mov (.t 1), (some (34, true))⟩,
       ⟨(some 37), .call (.f 10) [(.t 35), (.t 36)], (some (34, true))⟩,
       ⟨(some 38), .mov (.t 1), (some (34, true))⟩,
       ⟨(some 39), .call (.f 11) [(.t 38)], (some (34, true))⟩,
       ⟨(some 40), .bin .eql (.t 37) (.t 39), (some (34, true))⟩,
       ⟨(some 41), .pick (.t 34) (.t 40) (.c (.bool false)), none⟩,
       ⟨(some 6), .mov (.t 41), none⟩]) <|
    .ret)
   (.skip)) <|
 .seq
 (.region [⟨(some 8), .mov (.c (.int .i64 0)), none⟩,
    ⟨(some 9), .mov (.c (.int .i64 0)), none⟩]) <|
 .seq
 (.region [⟨(some 10), .mov (.c (.int .i64 0)), none⟩,
    ⟨(some 11), .mov (.c (.bool false)), none⟩]) <|
 .seq
 (.seq
  (.region [⟨(some 42), .mov (.t 0), none⟩,
     ⟨(some 43), .len .sl (.t 42), none⟩,
     ⟨(some 44), .mov (.c (.int .i64 0)), none⟩]) <|
  .block 0 <|
  .loop [1, 2, 7, 8, 9, 10, 11, 42, 43, 44] <|
   .seq
   (.region [⟨(some 45), .bin .lss (.t 44) (.t 43), none⟩]) <|
   .seq
   (.cond (.t 45)
     (.skip)
     (.exit 0)) <|
   .seq
   (.block 1 <|
    .seq
    (.region [⟨(some 46), .iaddr 1 (.t 42) (.t 44), none⟩,
       ⟨(some 47), .load false 1 (.t 46), none⟩,
       ⟨(some 13), .mov (.t 47), none⟩]) <|
    .seq
    (.seq
     (.region [⟨(some 48), .mov (.t 13), none⟩,
        ⟨(some 49), .mov (.t 1), none⟩,
        ⟨(some 50), .call (.f 11) [(.t 49)], none⟩,
        ⟨(some 51), .bin .leq (.t 48) (.t 50), none⟩]) <|
     .cond (.t 51)
      (.region [⟨(some 52), .mov (.t 8), none⟩,
         ⟨(some 53), .bin .add (.t 52) (.c (.int .i64 1)), none⟩,
         ⟨(some 8), .mov (.t 53), none⟩])
      (.seq
       (.region [⟨(some 54), .mov (.t 11), none⟩,
          ⟨(some 55), .un .not (.t 54), none⟩]) <|
       .cond (.t 55)
        (.region [⟨(some 56), .mov (.t 13), none⟩,
           ⟨(some 10), .mov (.t 56), none⟩,
           ⟨(some 11), .mov (.c (.bool true)), none⟩])
        (.skip))) <|
    .seq
    (.region [⟨(some 57), .mov (.t 13), none⟩,
       ⟨(some 58), .mov (.t 2), none⟩,
       ⟨(some 59), .call (.f 11) [(.t 58)], none⟩,
       ⟨(some 60), .bin .leq (.t 57) (.t 59), none⟩]) <|
    .cond (.t 60)
     (.region [⟨(some 61), .mov (.t 9), none⟩,
        ⟨(some 62), .bin .add (.t 61) (.c (.int .i64 1)), none⟩,
        ⟨(some 9), .mov (.t 62), none⟩])
     (.skip)) <|
   .region [⟨(some 63), .bin .add (.t 44) (.c (.int .i64 1)), none⟩,
     ⟨(some 44), .mov (.t 63), none⟩]) <|
 .seq
 (.region [⟨(some 65), .mov (.t 7), none⟩,
    ⟨(some 66), .mov (.t 1), none⟩,
    ⟨(some 67), .call (.f 12) [(.t 65), (.t 66)], none⟩,
    ⟨(some 64), .mov (.t 67), none⟩,
    ⟨(some 68), .extract (.t 64) 0, none⟩,
    ⟨(some 69), .extract (.t 64) 1, none⟩,
    ⟨(some 14), .mov (.t 68), none⟩,
    ⟨(some 15), .mov (.t 69), none⟩]) <|
 .seq
 (.region [⟨(some 70), .mov (.t 7), none⟩,
    ⟨(some 71), .mov (.t 1), none⟩,
    ⟨(some 72), .call (.f 9) [(.t 70), (.t 71)], none⟩,
    ⟨(some 73), .mov (.t 8), none⟩,
    ⟨(some 74), .bin .eql (.t 72) (.t 73), none⟩,
    ⟨(some 75), .mov (.t 74), none⟩,
    ⟨(some 76), .mov (.t 7), (some (75, true))⟩,
    ⟨(some 77), .mov (.t 1), (some (75, true))⟩,
    ⟨(some 78), .call (.f 10) [(.t 76), (.t 77)], (some (75, true))⟩,
    ⟨(some 79), .mov (.t 1), (some (75, true))⟩,
    ⟨(some 80), .call (.f 11) [(.t 79)], (some (75, true))⟩,
    ⟨(some 81), .mov (.t 8), (some (75, true))⟩,
    ⟨(some 82), .bin .add (.t 80) (.t 81), (some (75, true))⟩,
    ⟨(some 83), .bin .eql (.t 78) (.t 82), (some (75, true))⟩,
    ⟨(some 84), .pick (.t 75) (.t 83) (.c (.bool false)), none⟩,
    ⟨(some 85), .mov (.t 84), none⟩,
    ⟨(some 86), .mov (.t 15), (some (85, true))⟩,
    ⟨(some 87), .mov (.t 11), (some (85, true))⟩,
    ⟨(some 88), .eq false false [.bool] (.t 86) (.t 87), (some (85, true))⟩,
    ⟨(some 89), .pick (.t 85) (.t 88) (.c (.bool false)), none⟩,
    ⟨(some 90), .mov (.t 89), none⟩,
    ⟨(some 91), .mov (.t 14), (some (90, true))⟩,
    ⟨(some 92), .mov (.t 10), (some (90, true))⟩,
    ⟨(some 93), .bin .eql (.t 91) (.t 92), (some (90, true))⟩,
    ⟨(some 94), .pick (.t 90) (.t 93) (.c (.bool false)), none⟩,
    ⟨(some 95), .mov (.t 94), none⟩,
    ⟨(some 96), .mov (.t 7), (some (95, true))⟩,
    ⟨(some 97), .mov (.t 1), (some (95, true))⟩,
    ⟨(some 98), .mov (.t 2), (some (95, true))⟩,
    ⟨(some 99), .call (.f 13) [(.t 96), (.t 97), (.t 98)], (some (95, true))⟩,
    ⟨(some 100), .mov (.t 2), (some (95, true))⟩,
    ⟨(some 101), .call (.f 11) [(.t 100)], (some (95, true))⟩,
    ⟨(some 102), .mov (.t 9), (some (95, true))⟩,
    ⟨(some 103), .bin .add (.t 101) (.t 102), (some (95, true))⟩,
    ⟨(some 104), .mov (.t 1), (some (95, true))⟩,
    ⟨(some 105), .call (.f 11) [(.t 104)], (some (95, true))⟩,
    ⟨(some 106), .bin .sub (.t 103) (.t 105), (some (95, true))⟩,
    ⟨(some 107), .mov (.t 8), (some (95, true))⟩,
    ⟨(some 108), .bin .sub (.t 106) (.t 107), (some (95, true))⟩,
    ⟨(some 109), .bin .eql (.t 99) (.t 108), (some (95, true))⟩,
    ⟨(some 110), .pick (.t 95) (.t 109) (.c (.bool false)), none⟩,
    ⟨(some 6), .mov (.t 110), none⟩]) <|
 .ret, [.slot 6]⟩
theorem c3 : Code1 Try.prog 3 111 b3 := Code1.mk' Try.func3 (by kernel_rfl) (by kernel_rfl) Try.ntmps3

/-- fusee/fuseelaw33.LeapPlain -/
def b4 : IFn := ⟨
 .seq
 (.region [⟨(some 4), .mov (.c (.bool false)), none⟩]) <|
 .seq
 (.seq
  (.region [⟨(some 15), .call (.f 6) [], none⟩,
     ⟨(some 16), .un .not (.t 15), none⟩]) <|
  .cond (.t 16)
   (.seq
    (.region [⟨(some 4), .mov (.c (.bool false)), none⟩]) <|
    .ret)
   (.skip)) <|
 .seq
 (.seq
  (.region [⟨(some 17), .mov (.t 0), none⟩,
     ⟨(some 18), .len .sl (.t 17), none⟩,
     ⟨(some 19), .bin .gtr (.t 18) (.c (.int .i64 60)), none⟩,
     ⟨(some 20), .mov (.t 19), none⟩,
     ⟨(some 21), .mov (.t 0), (some (20, false))⟩,
     ⟨(some 22), .call (.f 8) [(.t 21)], (some (20, false))⟩,
     ⟨(some 23), .un .not (.t 22), (some (20, false))⟩,
     ⟨(some 24), .pick (.t 20) (.c (.bool true)) (.t 23), none⟩]) <|
  .cond (.t 24)
   (.seq
    (.region [⟨(some 4), .mov (.c (.bool true)), none⟩]) <|
    .ret)
   (.skip)) <|
 .seq
 (.region [⟨(some 25), .mov (.t 0), none⟩,
    ⟨(some 26), .call (.f 7) [(.t 25)], none⟩,
    ⟨(some 5), .mov (.t 26), none⟩]) <|
 .seq
 (.region [⟨(some 28), .mov (.t 5), none⟩,
    ⟨(some 29), .mov (.t 1), none⟩,
    ⟨(some 30), .call (.f 14) [(.t 28), (.t 29)], none⟩,
    ⟨(some 27), .mov (.t 30), none⟩,
    ⟨(some 31), .extract (.t 27) 0, none⟩,
    ⟨(some 32), .extract (.t 27) 1, none⟩,
    ⟨(some 6), .mov (.t 31), none⟩,
    ⟨(some 7), .mov (.t 32), none⟩]) <|
 .seq
 (.region [⟨(some 33), .mov (.t 1), none⟩,
    ⟨(some 34), .call (.f 11) [(.t 33)], none⟩,
    ⟨(some 8), .mov (.t 34), none⟩]) <|
 .seq
 (.region [⟨(some 9), .mov (.c (.int .i64 0)), none⟩]) <|
 .seq
 (.seq
  (.region [⟨(some 35), .mov (.t 0), none⟩,
     ⟨(some 36), .len .sl (.t 35), none⟩,
     ⟨(some 37), .mov (.c (.int .i64 0)), none⟩]) <|
  .block 0 <|
  .loop [0, 6, 7, 8, 9, 35, 36, 37] <|
   .seq
   (.region [⟨(some 38), .bin .lss (.t 37) (.t 36), none⟩]) <|
   .seq
   (.cond (.t 38)
     (.skip)
     (.exit 0)) <|
   .seq
   (.block 1 <|
    .seq
    (.region [⟨(some 39), .iaddr 1 (.t 35) (.t 37), none⟩,
       ⟨(some 40), .load false 1 (.t 39), none⟩,
       ⟨(some 11), .mov (.t 40), none⟩]) <|
    .seq
    (.region [⟨(some 41), .mov (.t 11), none⟩,
       ⟨(some 42), .mov (.t 6), none⟩,
       ⟨(some 43), .bin .leq (.t 41) (.t 42), none⟩]) <|
    .cond (.t 43)
     (.region [⟨(some 44), .mov (.t 9), none⟩,
        ⟨(some 45), .bin .add (.t 44) (.c (.int .i64 1)), none⟩,
        ⟨(some 9), .mov (.t 45), none⟩])
     (.skip)) <|
   .region [⟨(some 46), .bin .add (.t 37) (.c (.int .i64 1)), none⟩,
     ⟨(some 37), .mov (.t 46), none⟩]) <|
 .seq
 (.seq
  (.region [⟨(some 47), .mov (.t 7), none⟩,
     ⟨(some 48), .un .not (.t 47), none⟩]) <|
  .cond (.t 48)
   (.seq
    (.region [⟨(some 49), .mov (.t 6), none⟩,
       ⟨(some 50), .mov (.t 9), none⟩,
       ⟨(some 51), .bin .add (.t 49) (.t 50), none⟩,
       ⟨(some 52), .mov (.t 8), none⟩,
       ⟨(some 53), .bin .eql (.t 51) (.t 52), none⟩,
       ⟨(some 4), .mov (.t 53), none⟩]) <|
    .ret)
   (.skip)) <|
 .seq
 (.region [⟨(some 12), .mov (.c (.bool false)), none⟩]) <|
 .seq
 (.seq
  (.region [⟨(some 54), .mov (.t 0), none⟩,
     ⟨(some 55), .len .sl (.t 54), none⟩,
     ⟨(some 56), .mov (.c (.int .i64 0)), none⟩]) <|
  .block 2 <|
  .loop [6, 8, 9, 12, 54, 55, 56] <|
   .seq
   (.region [⟨(some 57), .bin .lss (.t 56) (.t 55), none⟩]) <|
   .seq
   (.cond (.t 57)
     (.skip)
     (.exit 2)) <|
   .seq
   (.block 3 <|
    .seq
    (.region [⟨(some 58), .iaddr 1 (.t 54) (.t 56), none⟩,
       ⟨(some 59), .load false 1 (.t 58), none⟩,
       ⟨(some 14), .mov (.t 59), none⟩]) <|
    .region [⟨(some 60), .mov (.t 12), none⟩,
      ⟨(some 61), .mov (.t 60), none⟩,
      ⟨(some 62), .mov (.t 14), (some (61, false))⟩,
      ⟨(some 63), .mov (.t 6), (some (61, false))⟩,
      ⟨(some 64), .bin .add (.t 63) (.c (.int .i64 1)), (some (61, false))⟩,
      ⟨(some 65), .bin .eql (.t 62) (.t 64), (some (61, false))⟩,
      ⟨(some 66), .pick (.t 61) (.c (.bool true)) (.t 65), none⟩,
      ⟨(some 12), .mov (.t 66), none⟩]) <|
   .region [⟨(some 67), .bin .add (.t 56) (.c (.int .i64 1)), none⟩,
     ⟨(some 56), .mov (.t 67), none⟩]) <|
 .seq
 (.region [⟨(some 68), .mov (.t 12), none⟩,
    ⟨(some 69), .mov (.t 68), none⟩,
    ⟨(some 70), .mov (.t 6), (some (69, true))⟩,
    ⟨(some 71), .mov (.t 9), (some (69, true))⟩,
    ⟨(some 72), .bin .add (.t 70) (.t 71), (some (69, true))⟩,
    ⟨(some 73), .bin .add (.t 72) (.c (.int .i64 1)), (some (69, true))⟩,
    ⟨(some 74), .mov (.t 8), (some (69, true))⟩,
    ⟨(some 75), .bin .eql (.t 73) (.t 74), (some (69, true))⟩,
    ⟨(some 76), .pick (.t 69) (.t 75) (.c (.bool false)), none⟩,
    ⟨(some 4), .mov (.t 76), none⟩]) <|
 .ret, [.slot 4]⟩
theorem c4 : Code1 Try.prog 4 77 b4 := Code1.mk' Try.func4 (by kernel_rfl) (by kernel_rfl) Try.ntmps4

/-- fusee/fuseelaw33.LeapBack -/
def b5 : IFn := ⟨
 .seq
 (.region [⟨(some 6), .mov (.c (.bool false)), none⟩]) <|
 .seq
 (.seq
  (.region [⟨(some 10), .call (.f 6) [], none⟩,
     ⟨(some 11), .un .not (.t 10), none⟩]) <|
  .cond (.t 11)
   (.seq
    (.region [⟨(some 6), .mov (.c (.bool false)), none⟩]) <|
    .ret)
   (.skip)) <|
 .seq
 (.seq
  (.region [⟨(some 12), .mov (.t 0), none⟩,
     ⟨(some 13), .len .sl (.t 12), none⟩,
     ⟨(some 14), .bin .gtr (.t 13) (.c (.int .i64 60)), none⟩,
     ⟨(some 15), .mov (.t 14), none⟩,
     ⟨(some 16), .mov (.t 0), (some (15, false))⟩,
     ⟨(some 17), .call (.f 8) [(.t 16)], (some (15, false))⟩,
     ⟨(some 18), .un .not (.t 17), (some (15, false))⟩,
     ⟨(some 19), .pick (.t 15) (.c (.bool true)) (.t 18), none⟩]) <|
  .cond (.t 19)
   (.seq
    (.region [⟨(some 6), .mov (.c (.bool true)), none⟩]) <|
    .ret)
   (.skip)) <|
 .seq
 (.region [⟨(some 20), .mov (.t 0), none⟩,
    ⟨(some 21), .call (.f 7) [(.t 20)], none⟩,
    ⟨(some 7), .mov (.t 21), none⟩]) <|
 .seq
 (.region [⟨(some 23), .mov (.t 7), none⟩,
    ⟨(some 24), .mov (.t 7), none⟩,
    ⟨(some 25), .mov (.t 1), none⟩,
    ⟨(some 26), .conv .i64 (.t 25), none⟩,
    ⟨(some 27), .call (.f 10) [(.t 24), (.t 26)], none⟩,
    ⟨(some 28), .call (.f 14) [(.t 23), (.t 27)], none⟩,
    ⟨(some 22), .mov (.t 28), none⟩,
    ⟨(some 29), .extract (.t 22) 0, none⟩,
    ⟨(some 30), .extract (.t 22) 1, none⟩,
    ⟨(some 8), .mov (.t 29), none⟩,
    ⟨(some 9), .mov (.t 30), none⟩]) <|
 .seq
 (.region [⟨(some 31), .mov (.t 8), none⟩,
    ⟨(some 32), .mov (.t 1), none⟩,
    ⟨(some 33), .conv .i64 (.t 32), none⟩,
    ⟨(some 34), .bin .eql (.t 31) (.t 33), none⟩,
    ⟨(some 35), .mov (.t 34), none⟩,
    ⟨(some 36), .mov (.t 9), (some (35, true))⟩,
    ⟨(some 37), .un .not (.t 36), (some (35, true))⟩,
    ⟨(some 38), .pick (.t 35) (.t 37) (.c (.bool false)), none⟩,
    ⟨(some 39), .mov (.t 38), none⟩,
    ⟨(some 40), .mov (.t 7), (some (39, true))⟩,
    ⟨(some 41), .mov (.t 1), (some (39, true))⟩,
    ⟨(some 42), .conv .i64 (.t 41), (some (39, true))⟩,
    ⟨(some 43), .mov (.t 2), (some (39, true))⟩,
    ⟨(some 44), .conv .i64 (.t 43), (some (39, true))⟩,
    ⟨(some 45), .bin .add (.t 42) (.t 44), (some (39, true))⟩,
    ⟨(some 46), .call (.f 10) [(.t 40), (.t 45)], (some (39, true))⟩,
    ⟨(some 47), .mov (.t 7), (some (39, true))⟩,
    ⟨(some 48), .mov (.t 1), (some (39, true))⟩,
    ⟨(some 49), .conv .i64 (.t 48), (some (39, true))⟩,
    ⟨(some 50), .call (.f 10) [(.t 47), (.t 49)], (some (39, true))⟩,
    ⟨(some 51), .mov (.t 2), (some (39, true))⟩,
    ⟨(some 52), .conv .i64 (.t 51), (some (39, true))⟩,
    ⟨(some 53), .bin .add (.t 50) (.t 52), (some (39, true))⟩,
    ⟨(some 54), .bin .geq (.t 46) (.t 53), (some (39, true))⟩,
    ⟨(some 55), .pick (.t 39) (.t 54) (.c (.bool false)), none⟩,
    ⟨(some 56), .mov (.t 55), none⟩,
    ⟨(some 57), .mov (.t 7), (some (56, true))⟩,
    ⟨(some 58), .mov (.t 1), (some (56, true))⟩,
    ⟨(some 59), .conv .i64 (.t 58), (some (56, true))⟩,
    ⟨(some 60), .mov (.t 1), (some (56, true))⟩,
    ⟨(some 61), .conv .i64 (.t 60), (some (56, true))⟩,
    ⟨(some 62), .call (.f 13) [(.t 57), (.t 59), (.t 61)], (some (56, true))⟩,
    ⟨(some 63), .bin .eql (.t 62) (.c (.int .i64 0)), (some (56, true))⟩,
    ⟨(some 64), .pick (.t 56) (.t 63) (.c (.bool false)), none⟩,
    ⟨(some 6), .mov (.t 64), none⟩]) <|
 .ret, [.slot 6]⟩
theorem c5 : Code1 Try.prog 5 65 b5 := Code1.mk' Try.func5 (by kernel_rfl) (by kernel_rfl) Try.ntmps5

/-- fusee/fuseelaw33.fixed -/
def b6 : IFn := ⟨
 .seq
 (.region [⟨(some 0), .mov (.c (.bool false)), none⟩]) <|
 .seq
 (.region [⟨(some 9), .buildSl 1 [(.int .i64 0)] [(0, 1, (.c (.int .i64 100)))], none⟩,
    ⟨(some 10), .call (.f 7) [(.t 9)], none⟩,
    ⟨(some 1), .mov (.t 10), none⟩]) <|
 .seq
 (.region [⟨(some 12), .mov (.t 1), none⟩,
    ⟨(some 13), .call (.f 14) [(.t 12), (.c (.int .i64 100))], none⟩,
    ⟨(some 11), .mov (.t 13), none⟩,
    ⟨(some 14), .extract (.t 11) 0, none⟩,
    ⟨(some 15), .extract (.t 11) 1, none⟩,
    ⟨(some 2), .mov (.t 14), none⟩,
    ⟨(some 3), .mov (.t 15), none⟩]) <|
 .seq
 (.region [⟨(some 17), .mov (.t 1), none⟩,
    ⟨(some 18), .call (.f 14) [(.t 17), (.c (.int .i64 101))], none⟩,
    ⟨(some 16), .mov (.t 18), none⟩,
    ⟨(some 19), .extract (.t 16) 0, none⟩,
    ⟨(some 20), .extract (.t 16) 1, none⟩,
    ⟨(some 4), .mov (.t 19), none⟩,
    ⟨(some 5), .mov (.t 20), none⟩]) <|
 .seq
 (.region [⟨(some 22), .mov (.t 1), none⟩,
    ⟨(some 23), .call (.f 12) [(.t 22), (.c (.int .i64 99))], none⟩,
    ⟨(some 21), .mov (.t 23), none⟩,
    ⟨(some 24), .extract (.t 21) 0, none⟩,
    ⟨(some 25), .extract (.t 21) 1, none⟩,
    ⟨(some 6), .mov (.t 24), none⟩,
    ⟨(some 7), .mov (.t 25), none⟩]) <|
 .seq
 (.region [⟨(some 8), .mov (.c (.ptr none)), none⟩]) <|
 .seq
 (.region [⟨(some 26), .mov (.t 1), none⟩,
    ⟨(some 27), .call (.f 10) [(.t 26), (.c (.int .i64 99))], none⟩,
    ⟨(some 28), .bin .eql (.t 27) (.c (.int .i64 99)), none⟩,
    ⟨(some 29), .mov (.t 28), none⟩,
    ⟨(some 30), .mov (.t 1), (some (29, true))⟩,
    ⟨(some 31), .call (.f 10) [(.t 30), (.c (.int .i64 100))], (some (29, true))⟩,
    ⟨(some 32), .bin .eql (.t 31) (.c (.int .i64 101)), (some (29, true))⟩,
    ⟨(some 33), .pick (.t 29) (.t 32) (.c (.bool false)), none⟩,
    ⟨(some 34), .mov (.t 33), none⟩,
    ⟨(some 35), .mov (.t 2), (some (34, true))⟩,
    ⟨(some 36), .bin .eql (.t 35) (.c (.int .i64 99)), (some (34, true))⟩,
    ⟨(some 37), .pick (.t 34) (.t 36) (.c (.bool false)), none⟩,
    ⟨(some 38), .mov (.t 37), none⟩,
    ⟨(some 39), .mov (.t 3), (some (38, true))⟩,
    ⟨(some 40), .pick (.t 38) (.t 39) (.c (.bool false)), none⟩,
    ⟨(some 41), .mov (.t 40), none⟩,
    ⟨(some 42), .mov (.t 4), (some (41, true))⟩,
    ⟨(some 43), .bin .eql (.t 42) (.c (.int .i64 100)), (some (41, true))⟩,
    ⟨(some 44), .pick (.t 41) (.t 43) (.c (.bool false)), none⟩,
    ⟨(some 45), .mov (.t 44), none⟩,
    ⟨(some 46), .mov (.t 5), (some (45, true))⟩,
    ⟨(some 47), .un .not (.t 46), (some (45, true))⟩,
    ⟨(some 48), .pick (.t 45) (.t 47) (.c (.bool false)), none⟩,
    ⟨(some 49), .mov (.t 48), none⟩,
    ⟨(some 50), .mov (.t 7), (some (49, true))⟩,
    ⟨(some 51), .pick (.t 49) (.t 50) (.c (.bool false)), none⟩,
    ⟨(some 52), .mov (.t 51), none⟩,
    ⟨(some 53), .mov (.t 6), (some (52, true))⟩,
    ⟨(some 54), .bin .eql (.t 53) (.c (.int .i64 100)), (some (52, true))⟩,
    ⟨(some 55), .pick (.t 52) (.t 54) (.c (.bool false)), none⟩,
    ⟨(some 56), .mov (.t 55), none⟩,
    ⟨(some 57), .mov (.t 1), (some (56, true))⟩,
    ⟨(some 58), .call (.f 13) [(.t 57), (.c (.int .i64 99)), (.c (.int .i64 100))], (some (56, true))⟩,
    ⟨(some 59), .bin .eql (.t 58) (.c (.int .i64 2)), (some (56, true))⟩,
    ⟨(some 60), .pick (.t 56) (.t 59) (.c (.bool false)), none⟩,
    ⟨(some 61), .mov (.t 60), none⟩,
    ⟨(some 62), .mov (.t 1), (some (61, true))⟩,
    ⟨(some 63), .call (.f 9) [(.t 62), (.c (.int .i64 100))], (some (61, true))⟩,
    ⟨(some 64), .bin .eql (.t 63) (.c (.int .i64 1)), (some (61, true))⟩,
    ⟨(some 65), .pick (.t 61) (.t 64) (.c (.bool false)), none⟩,
    ⟨(some 66), .mov (.t 65), none⟩,
    ⟨(some 67), .buildSl 1 [(.int .i64 0), (.int .i64 0)] [(0, 1, (.c (.int .i64 5))), (1, 1, (.c (.int .i64 6)))], (some (66, true))⟩,
    ⟨(some 68), .call (.f 7) [(.t 67)], (some (66, true))⟩,
    ⟨(some 69), .eq false false [.ptr] (.t 68) (.c (.ptr none)), (some (66, true))⟩,
    ⟨(some 70), .pick (.t 66) (.t 69) (.c (.bool false)), none⟩,
    ⟨(some 71), .mov (.t 70), none⟩,
    ⟨(some 72), .mov (.t 8), (some (71, true))⟩,
    ⟨(some 73), .call (.f 10) [(.t 72), (.c (.int .i64 7))], (some (71, true))⟩,
    ⟨(some 74), .bin .eql (.t 73) (.c (.int .i64 7)), (some (71, true))⟩,
    ⟨(some 75), .pick (.t 71) (.t 74) (.c (.bool false)), none⟩,
    ⟨(some 0), .mov (.t 75), none⟩]) <|
 .ret, [.slot 0]⟩
theorem c6 : Code1 Try.prog 6 76 b6 := Code1.mk' Try.func6 (by kernel_rfl) (by kernel_rfl) Try.ntmps6

/-- fusee/leap.New -/
def b7 : IFn := ⟨
 .seq
 (.region [⟨(some 2), .mov (.c (.ptr none)), none⟩]) <|
 .seq
 (.seq
  (.region [⟨(some 5), .mov (.t 0), none⟩,
     ⟨(some 6), .len .sl (.t 5), none⟩,
     ⟨(some 7), .bin .gtr (.t 6) (.c (.int .i64 256)), none⟩]) <|
  .cond (.t 7)
   (.seq
    (.region [⟨(some 2), .mov (.c (.ptr none)), none⟩]) <|
    .ret)
   (.skip)) <|
 .seq
 (.seq
  (.region [⟨(some 8), .mov (.t 0), none⟩,
     ⟨(some 9), .len .sl (.t 8), none⟩,
     ⟨(some 10), .mov (.c (.int .i64 0)), none⟩]) <|
  .block 0 <|
  .loop [0, 8, 9, 10] <|
   .seq
   (.region [⟨(some 11), .bin .lss (.t 10) (.t 9), none⟩]) <|
   .seq
   (.cond (.t 11)
     (.skip)
     (.exit 0)) <|
   .seq
   (.block 1 <|
    .seq
    (.region [⟨(some 12), .mov (.t 10), none⟩,
       ⟨(some 13), .iaddr 1 (.t 8) (.t 10), none⟩,
       ⟨(some 14), .load false 1 (.t 13), none⟩,
       ⟨(some 3), .mov (.t 12), none⟩,
       ⟨(some 4), .mov (.t 14), none⟩]) <|
    .seq
    (.region [⟨(some 15), .mov (.t 4), none⟩,
       ⟨(some 16), .bin .lss (.t 15) (.c (.int .i64 0)), none⟩,
       ⟨(some 17), .mov (.t 16), none⟩,
       ⟨(some 18), .mov (.t 4), (some (17, false))⟩,
       ⟨(some 19), .bin .gtr (.t 18) (.c (.int .i64 1099511627776)), (some (17, false))⟩,
       ⟨(some 20), .pick (.t 17) (.c (.bool true)) (.t 19), none⟩,
       ⟨(some 21), .mov (.t 20), none⟩,
       ⟨(some 22), .mov (.t 3), (some (21, false))⟩,
       ⟨(some 23), .bin .gtr (.t 22) (.c (.int .i64 0)), (some (21, false))⟩,
       ⟨(some 24), .mov (.t 23), (some (21, false))⟩,
       ⟨(some 25), .mov (.t 0), (some (24, true))⟩,
       ⟨(some 26), .mov (.t 3), (some (24, true))⟩,
       ⟨(some 27), .bin .sub (.t 26) (.c (.int .i64 1)), (some (24, true))⟩,
       ⟨(some 28), .iaddr 1 (.t 25) (.t 27), (some (24, true))⟩,
       ⟨(some 29), .load false 1 (.t 28), (some (24, true))⟩,
       ⟨(some 30), .bin .add (.t 29) (.c (.int .i64 2)), (some (24, true))⟩,
       ⟨(some 31), .mov (.t 4), (some (24, true))⟩,
       ⟨(some 32), .bin .gtr (.t 30) (.t 31), (some (24, true))⟩,
       ⟨(some 33), .pick (.t 24) (.t 32) (.c (.bool false)), (some (21, false))⟩,
       ⟨(some 34), .pick (.t 21) (.c (.bool true)) (.t 33), none⟩]) <|
    .cond (.t 34)
     (.seq
      (.region [⟨(some 2), .mov (.c (.ptr none)), none⟩]) <|
      .ret)
     (.skip)) <|
   .region [⟨(some 35), .bin .add (.t 10) (.c (.int .i64 1)), none⟩,
     ⟨(some 10), .mov (.t 35), none⟩]) <|
 .seq
 (.region [⟨(some 36), .mov (.t 0), none⟩,
    ⟨(some 37), .call (.f 15) [(.t 36)], none⟩,
    ⟨(some 38), .build [(.sl none 0 (some 0))] [(0, 1, (.t 37))], none⟩,
    ⟨(some 39), .box (.t 38), none⟩,
    ⟨(some 2), .mov (.t 39), none⟩]) <|
 .ret, [.slot 2]⟩
theorem c7 : Code1 Try.prog 7 40 b7 := Code1.mk' Try.func7 (by kernel_rfl) (by kernel_rfl) Try.ntmps7

/-- fusee/fuseelaw33.right -/
def b8 : IFn := ⟨
 .seq
 (.region [⟨(some 2), .mov (.c (.bool false)), none⟩]) <|
 .seq
 (.seq
  (.region [⟨(some 5), .mov (.t 0), none⟩,
     ⟨(some 6), .len .sl (.t 5), none⟩,
     ⟨(some 7), .mov (.c (.int .i64 0)), none⟩]) <|
  .block 0 <|
  .loop [0, 5, 6, 7] <|
   .seq
   (.region [⟨(some 8), .bin .lss (.t 7) (.t 6), none⟩]) <|
   .seq
   (.cond (.t 8)
     (.skip)
     (.exit 0)) <|
   .seq
   (.block 1 <|
    .seq
    (.region [⟨(some 9), .mov (.t 7), none⟩,
       ⟨(some 10), .iaddr 1 (.t 5) (.t 7), none⟩,
       ⟨(some 11), .load false 1 (.t 10), none⟩,
       ⟨(some 3), .mov (.t 9), none⟩,
       ⟨(some 4), .mov (.t 11), none⟩]) <|
    .seq
    (.region [⟨(some 12), .mov (.t 4), none⟩,
       ⟨(some 13), .bin .lss (.t 12) (.c (.int .i64 0)), none⟩,
       ⟨(some 14), .mov (.t 13), none⟩,
       ⟨(some 15), .mov (.t 4), (some (14, false))⟩,
       ⟨(some 16), .bin .gtr (.t 15) (.c (.int .i64 1099511627776)), (some (14, false))⟩,
       ⟨(some 17), .pick (.t 14) (.c (.bool true)) (.t 16), none⟩,
       ⟨(some 18), .mov (.t 17), none⟩,
       ⟨(some 19), .mov (.t 3), (some (18, false))⟩,
       ⟨(some 20), .bin .gtr (.t 19) (.c (.int .i64 0)), (some (18, false))⟩,
       ⟨(some 21), .mov (.t 20), (some (18, false))⟩,
       ⟨(some 22), .mov (.t 4), (some (21, true))⟩,
       ⟨(some 23), .mov (.t 0), (some (21, true))⟩,
       ⟨(some 24), .mov (.t 3), (some (21, true))⟩,
       ⟨(some 25), .bin .sub (.t 24) (.c (.int .i64 1)), (some (21, true))⟩,
       ⟨(some 26), .iaddr 1 (.t 23) (.t 25), (some (21, true))⟩,
       ⟨(some 27), .load false 1 (.t 26), (some (21, true))⟩,
       ⟨(some 28), .bin .sub (.t 22) (.t 27), (some (21, true))⟩,
       ⟨(some 29), .bin .lss (.t 28) (.c (.int .i64 2)), (some (21, true))⟩,
       ⟨(some 30), .pick (.t 21) (.t 29) (.c (.bool false)), (some (18, false))⟩,
       ⟨(some 31), .pick (.t 18) (.c (.bool true)) (.t 30), none⟩]) <|
    .cond (.t 31)
     (.seq
      (.region [⟨(some 2), .mov (.c (.bool false)), none⟩]) <|
      .ret)
     (.skip)) <|
   .region [⟨(some 32), .bin .add (.t 7) (.c (.int .i64 1)), none⟩,
     ⟨(some 7), .mov (.t 32), none⟩]) <|
 .seq
 (.region [⟨(some 33), .mov (.t 0), none⟩,
    ⟨(some 34), .len .sl (.t 33), none⟩,
    ⟨(some 35), .bin .leq (.t 34) (.c (.int .i64 256)), none⟩,
    ⟨(some 2), .mov (.t 35), none⟩]) <|
 .ret, [.slot 2]⟩
theorem c8 : Code1 Try.prog 8 36 b8 := Code1.mk' Try.func8 (by kernel_rfl) (by kernel_rfl) Try.ntmps8

/-- fusee/leap.Table.Count -/
def b9 : IFn := ⟨
 .seq
 (.region [⟨(some 4), .mov (.c (.int .i64 0)), none⟩]) <|
 .seq
 (.region [⟨(some 5), .mov (.t 0), none⟩,
    ⟨(some 6), .mov (.t 1), none⟩,
    ⟨(some 7), .call (.f 16) [(.t 5), (.t 6)], none⟩,
    ⟨(some 4), .mov (.t 7), none⟩]) <|
 .ret, [.slot 4]⟩
theorem c9 : Code1 Try.prog 9 8 b9 := Code1.mk' Try.func9 (by kernel_rfl) (by kernel_rfl) Try.ntmps9

/-- fusee/leap.Table.Even -/
def b10 : IFn := ⟨
 .seq
 (.region [⟨(some 4), .mov (.c (.int .i64 0)), none⟩]) <|
 .seq
 (.region [⟨(some 5), .mov (.t 1), none⟩,
    ⟨(some 6), .call (.f 17) [(.t 5)], none⟩,
    ⟨(some 7), .mov (.t 0), none⟩,
    ⟨(some 8), .mov (.t 1), none⟩,
    ⟨(some 9), .call (.f 16) [(.t 7), (.t 8)], none⟩,
    ⟨(some 10), .bin .add (.t 6) (.t 9), none⟩,
    ⟨(some 4), .mov (.t 10), none⟩]) <|
 .ret, [.slot 4]⟩
theorem c10 : Code1 Try.prog 10 11 b10 := Code1.mk' Try.func10 (by kernel_rfl) (by kernel_rfl) Try.ntmps10

/-- fusee/fuseelaw33.clamp -/
def b11 : IFn := ⟨
 .seq
 (.region [⟨(some 2), .mov (.c (.int .i64 0)), none⟩]) <|
 .seq
 (.region [⟨(some 3), .mov (.t 0), none⟩,
    ⟨(some 4), .max [(.t 3), (.c (.int .i64 (-2199023255552)))], none⟩,
    ⟨(some 5), .min [(.t 4), (.c (.int .i64 2199023255552))], none⟩,
    ⟨(some 2), .mov (.t 5), none⟩]) <|
 .ret, [.slot 2]⟩
theorem c11 : Code1 Try.prog 11 6 b11 := Code1.mk' Try.func11 (by kernel_rfl) (by kernel_rfl) Try.ntmps11

/-- fusee/leap.Table.Next -/
def b12 : IFn := ⟨
 .seq
 (.region [⟨(some 4), .mov (.c (.int .i64 0)), none⟩,
    ⟨(some 5), .mov (.c (.bool false)), none⟩]) <|
 .seq
 (.region [⟨(some 8), .mov (.t 0), none⟩,
    ⟨(some 9), .call (.f 18) [(.t 8)], none⟩,
    ⟨(some 6), .mov (.t 9), none⟩]) <|
 .seq
 (.seq
  (.region [⟨(some 10), .mov (.t 0), none⟩,
     ⟨(some 11), .mov (.t 1), none⟩,
     ⟨(some 12), .call (.f 16) [(.t 10), (.t 11)], none⟩,
     ⟨(some 7), .mov (.t 12), none⟩]) <|
  .seq
  (.region [⟨(some 13), .mov (.t 7), none⟩,
     ⟨(some 14), .mov (.t 6), none⟩,
     ⟨(some 15), .len .sl (.t 14), none⟩,
     ⟨(some 16), .bin .lss (.t 13) (.t 15), none⟩]) <|
  .cond (.t 16)
   (.seq
    (.region [⟨(some 17), .mov (.t 6), none⟩,
       ⟨(some 18), .mov (.t 7), none⟩,
       ⟨(some 19), .iaddr 1 (.t 17) (.t 18), none⟩,
       ⟨(some 20), .load false 1 (.t 19), none⟩,
       ⟨(some 4), .mov (.t 20), none⟩,
       ⟨(some 5), .mov (.c (.bool true)), none⟩]) <|
    .ret)
   (.skip)) <|
 .seq
 (.region [⟨(some 4), .mov (.c (.int .i64 0)), none⟩,
    ⟨(some 5), .mov (.c (.bool false)), none⟩]) <|
 .ret, [.slot 4, .slot 5]⟩
theorem c12 : Code1 Try.prog 12 21 b12 := Code1.mk' Try.func12 (by kernel_rfl) (by kernel_rfl) Try.ntmps12

/-- fusee/leap.Table.Between -/
def b13 : IFn := ⟨
 .seq
 (.region [⟨(some 6), .mov (.c (.int .i64 0)), none⟩]) <|
 .seq
 (.region [⟨(some 7), .mov (.t 0), none⟩,
    ⟨(some 8), .mov (.t 2), none⟩,
    ⟨(some 9), .call (.f 10) [(.t 7), (.t 8)], none⟩,
    ⟨(some 10), .mov (.t 0), none⟩,
    ⟨(some 11), .mov (.t 1), none⟩,
    ⟨(some 12), .call (.f 10) [(.t 10), (.t 11)], none⟩,
    ⟨(some 13), .bin .sub (.t 9) (.t 12), none⟩,
    ⟨(some 6), .mov (.t 13), none⟩]) <|
 .ret, [.slot 6]⟩
theorem c13 : Code1 Try.prog 13 14 b13 := Code1.mk' Try.func13 (by kernel_rfl) (by kernel_rfl) Try.ntmps13

/-- fusee/leap.Table.Plain -/
def b14 : IFn := ⟨
 .seq
 (.region [⟨(some 3), .box (.t 1), none⟩,
    ⟨(some 4), .mov (.c (.int .i64 0)), none⟩,
    ⟨(some 5), .mov (.c (.bool false)), none⟩]) <|
 .seq
 (.region [⟨(some 8), .load false 1 (.t 3), none⟩,
    ⟨(some 9), .call (.f 17) [(.t 8)], none⟩,
    ⟨none, .store 1 (.t 3) (.t 9), none⟩]) <|
 .seq
 (.region [⟨(some 10), .mov (.t 0), none⟩,
    ⟨(some 11), .call (.f 18) [(.t 10)], none⟩,
    ⟨(some 6), .alloc [(.sl none 0 (some 0))], none⟩,
    ⟨none, .store 1 (.t 6) (.t 11), none⟩]) <|
 .seq
 (.region [⟨(some 12), .load false 1 (.t 6), none⟩,
    ⟨(some 13), .len .sl (.t 12), none⟩,
    ⟨(some 14), .mkFn 20 [] [(.t 6), (.t 3)], none⟩,
    ⟨(some 15), .call (.f 19) [(.t 13), (.t 14)], none⟩,
    ⟨(some 7), .mov (.t 15), none⟩]) <|
 .seq
 (.seq
  (.draw false [3, 6, 7, 29] (
     .op ⟨(some 16), .mov (.t 7), none⟩ <|
     .op ⟨(some 17), .bin .gtr (.t 16) (.c (.int .i64 0)), none⟩ <|
     .op ⟨(some 18), .mov (.t 17), none⟩ <|
     .op ⟨(some 19), .load false 1 (.t 6), (some (18, true))⟩ <|
     .op ⟨(some 20), .mov (.t 7), (some (18, true))⟩ <|
     .op ⟨(some 21), .bin .sub (.t 20) (.c (.int .i64 1)), (some (18, true))⟩ <|
     .op ⟨(some 22), .iaddr 1 (.t 19) (.t 21), (some (18, true))⟩ <|
     .op ⟨(some 23), .load false 1 (.t 22), (some (18, true))⟩ <|
     .op ⟨(some 24), .mov (.t 7), (some (18, true))⟩ <|
     .op ⟨(some 25), .bin .add (.t 23) (.t 24), (some (18, true))⟩ <|
     .op ⟨(some 26), .bin .sub (.t 25) (.c (.int .i64 1)), (some (18, true))⟩ <|
     .op ⟨(some 27), .load false 1 (.t 3), (some (18, true))⟩ <|
     .op ⟨(some 28), .bin .eql (.t 26) (.t 27), (some (18, true))⟩ <|
     .op ⟨(some 29), .pick (.t 18) (.t 28) (.c (.bool false)), none⟩ <|
     .done)) <|
  .cond (.t 29)
   (.seq
    (.region [⟨(some 30), .load false 1 (.t 6), none⟩,
       ⟨(some 31), .mov (.t 7), none⟩,
       ⟨(some 32), .bin .sub (.t 31) (.c (.int .i64 1)), none⟩,
       ⟨(some 33), .iaddr 1 (.t 30) (.t 32), none⟩,
       ⟨(some 34), .load false 1 (.t 33), none⟩,
       ⟨(some 35), .bin .sub (.t 34) (.c (.int .i64 1)), none⟩,
       ⟨(some 4), .mov (.t 35), none⟩,
       ⟨(some 5), .mov (.c (.bool true)), none⟩]) <|
    .ret)
   (.skip)) <|
 .seq
 (.region [⟨(some 36), .load false 1 (.t 3), none⟩,
    ⟨(some 37), .mov (.t 7), none⟩,
    ⟨(some 38), .bin .sub (.t 36) (.t 37), none⟩,
    ⟨(some 4), .mov (.t 38), none⟩,
    ⟨(some 5), .mov (.c (.bool false)), none⟩]) <|
 .ret, [.slot 4, .slot 5]⟩
theorem c14 : Code1 Try.prog 14 39 b14 := Code1.mk' Try.func14 (by kernel_rfl) (by kernel_rfl) Try.ntmps14

/-- slices.Clone[[]int,int] -/
def b15 : IFn := ⟨
 .seq
 (.region [⟨(some 2), .mov (.c (.sl none 0 (some 0))), none⟩]) <|
 .seq
 (.seq
  (.region [⟨(some 3), .mov (.t 0), none⟩,
     ⟨(some 4), .eq false false [.sl] (.t 3) (.c (.sl none 0 (some 0))), none⟩]) <|
  .cond (.t 4)
   (.seq
    (.region [⟨(some 2), .mov (.c (.sl none 0 (some 0))), none⟩]) <|
    .ret)
   (.skip)) <|
 .seq
 (.region [⟨(some 5), .buildSl 1 [] [], none⟩,
    ⟨(some 6), .mov (.t 0), none⟩,
    ⟨(some 7), .app 1 8 (.t 5) (.t 6), none⟩,
    ⟨(some 2), .mov (.t 7), none⟩]) <|
 .ret, [.slot 2]⟩
theorem c15 : Code1 Try.prog 15 8 b15 := Code1.mk' Try.func15 (by kernel_rfl) (by kernel_rfl) Try.ntmps15

/-- fusee/leap.Table.above -/
def b16 : IFn := ⟨
 .seq
 (.region [⟨(some 3), .box (.t 1), none⟩,
    ⟨(some 4), .mov (.c (.int .i64 0)), none⟩]) <|
 .seq
 (.region [⟨(some 6), .mov (.t 0), none⟩,
    ⟨(some 7), .call (.f 18) [(.t 6)], none⟩,
    ⟨(some 5), .alloc [(.sl none 0 (some 0))], none⟩,
    ⟨none, .store 1 (.t 5) (.t 7), none⟩]) <|
 .seq
 (.region [⟨(some 8), .load false 1 (.t 5), none⟩,
    ⟨(some 9), .len .sl (.t 8), none⟩,
    ⟨(some 10), .mkFn 21 [] [(.t 5), (.t 3)], none⟩,
    ⟨(some 11), .call (.f 19) [(.t 9), (.t 10)], none⟩,
    ⟨(some 4), .mov (.t 11), none⟩]) <|
 .ret, [.slot 4]⟩
theorem c16 : Code1 Try.prog 16 12 b16 := Code1.mk' Try.func16 (by kernel_rfl) (by kernel_rfl) Try.ntmps16

/-- fusee/leap.clamp -/
def b17 : IFn := ⟨
 .seq
 (.region [⟨(some 2), .mov (.c (.int .i64 0)), none⟩]) <|
 .seq
 (.region [⟨(some 3), .mov (.t 0), none⟩,
    ⟨(some 4), .max [(.t 3), (.c (.int .i64 (-2199023255552)))], none⟩,
    ⟨(some 5), .min [(.t 4), (.c (.int .i64 2199023255552))], none⟩,
    ⟨(some 2), .mov (.t 5), none⟩]) <|
 .ret, [.slot 2]⟩
theorem c17 : Code1 Try.prog 17 6 b17 := Code1.mk' Try.func17 (by kernel_rfl) (by kernel_rfl) Try.ntmps17

/-- fusee/leap.Table.steps -/
def b18 : IFn := ⟨
 .seq
 (.region [⟨(some 2), .mov (.c (.sl none 0 (some 0))), none⟩]) <|
 .seq
 (.seq
  (.region [⟨(some 3), .mov (.t 0), none⟩,
     ⟨(some 4), .eq false false [.ptr] (.t 3) (.c (.ptr none)), none⟩]) <|
  .cond (.t 4)
   (.seq
    (.region [⟨(some 2), .mov (.c (.sl none 0 (some 0))), none⟩]) <|
    .ret)
   (.skip)) <|
 .seq
 (.region [⟨(some 5), .mov (.t 0), none⟩,
    ⟨(some 6), .nilck (.t 5), none⟩,
    ⟨(some 7), .faddr 0 (.t 6), none⟩,
    ⟨(some 8), .load false 1 (.t 7), none⟩,
    ⟨(some 2), .mov (.t 8), none⟩]) <|
 .ret, [.slot 2]⟩
theorem c18 : Code1 Try.prog 18 9 b18 := Code1.mk' Try.func18 (by kernel_rfl) (by kernel_rfl) Try.ntmps18

/-- sort.Search -/
def b19 : IFn := ⟨
 .seq
 (.region [⟨(some 4), .mov (.c (.int .i64 0)), none⟩]) <|
 .seq
 (.region [⟨(some 8), .mov (.t 0), none⟩,
    ⟨(some 5), .mov (.c (.int .i64 0)), none⟩,
    ⟨(some 6), .mov (.t 8), none⟩]) <|
 .seq
 (.block 0 <|
  .loop [1, 5, 6] <|
   .seq
   (.seq
    (.region [⟨(some 9), .mov (.t 5), none⟩,
       ⟨(some 10), .mov (.t 6), none⟩,
       ⟨(some 11), .bin .lss (.t 9) (.t 10), none⟩]) <|
    .cond (.t 11)
     (.skip)
     (.exit 0)) <|
   .block 1 <|
   .seq
   (.region [⟨(some 12), .mov (.t 5), none⟩,
      ⟨(some 13), .mov (.t 6), none⟩,
      ⟨(some 14), .bin .add (.t 12) (.t 13), none⟩,
      ⟨(some 15), .conv .u64 (.t 14), none⟩,
      ⟨(some 16), .bin .shr (.t 15) (.c (.int .u64 1)), none⟩,
      ⟨(some 17), .conv .i64 (.t 16), none⟩,
      ⟨(some 7), .mov (.t 17), none⟩]) <|
   .seq
   (.region [⟨(some 18), .mov (.t 1), none⟩,
      ⟨(some 19), .mov (.t 7), none⟩,
      ⟨(some 20), .call (.t 18) [(.t 19)], none⟩,
      ⟨(some 21), .un .not (.t 20), none⟩]) <|
   .cond (.t 21)
    (.region [⟨(some 22), .mov (.t 7), none⟩,
       ⟨(some 23), .bin .add (.t 22) (.c (.int .i64 1)), none⟩,
       ⟨(some 5), .mov (.t 23), none⟩])
    (.region [⟨(some 24), .mov (.t 7), none⟩,
       ⟨(some 6), .mov (.t 24), none⟩])) <|
 .seq
 (.region [⟨(some 25), .mov (.t 5), none⟩,
    ⟨(some 4), .mov (.t 25), none⟩]) <|
 .ret, [.slot 4]⟩
theorem c19 : Code1 Try.prog 19 26 b19 := Code1.mk' Try.func19 (by kernel_rfl) (by kernel_rfl) Try.ntmps19

/-- fusee/leap.Table.Plain$1 -/
def b20 : IFn := ⟨
 .seq
 (.region [⟨(some 4), .mov (.c (.bool false)), none⟩]) <|
 .seq
 (.draw false [4] (
    .op ⟨(some 5), .load false 1 (.t 1), none⟩ <|
    .op ⟨(some 6), .mov (.t 0), none⟩ <|
    .op ⟨(some 7), .iaddr 1 (.t 5) (.t 6), none⟩ <|
    .op ⟨(some 8), .load false 1 (.t 7), none⟩ <|
    .op ⟨(some 9), .mov (.t 0), none⟩ <|
    .op ⟨(some 10), .bin .add (.t 8) (.t 9), none⟩ <|
    .op ⟨(some 11), .load false 1 (.t 2), none⟩ <|
    .op ⟨(some 12), .bin .gtr (.t 10) (.t 11), none⟩ <|
    .op ⟨(some 4), .mov (.t 12), none⟩ <|
    .done)) <|
 .ret, [.slot 4]⟩
theorem c20 : Code1 Try.prog 20 13 b20 := Code1.mk' Try.func20 (by kernel_rfl) (by kernel_rfl) Try.ntmps20

/-- fusee/leap.Table.above$1 -/
def b21 : IFn := ⟨
 .seq
 (.region [⟨(some 4), .mov (.c (.bool false)), none⟩]) <|
 .seq
 (.draw true [4] (
    .op ⟨(some 6), .mov (.t 0), none⟩ <|
    .op ⟨(some 9), .load false 1 (.t 2), none⟩ <|
    .alt (.op ⟨(some 5), .load false 1 (.t 1), none⟩ <|
     .op ⟨(some 7), .iaddr 1 (.t 5) (.t 6), none⟩ <|
     .alt (.op ⟨(some 8), .load false 1 (.t 7), none⟩ <|
      .op ⟨(some 10), .call (.f 17) [(.t 9)], none⟩ <|
      .op ⟨(some 11), .bin .gtr (.t 8) (.t 10), none⟩ <|
      .op ⟨(some 4), .mov (.t 11), none⟩ <|
      .done) <|
     .op ⟨(some 10), .call (.f 17) [(.t 9)], none⟩ <|
     .op ⟨(some 8), .load false 1 (.t 7), none⟩ <|
     .op ⟨(some 11), .bin .gtr (.t 8) (.t 10), none⟩ <|
     .op ⟨(some 4), .mov (.t 11), none⟩ <|
     .done) <|
    .op ⟨(some 10), .call (.f 17) [(.t 9)], none⟩ <|
    .op ⟨(some 5), .load false 1 (.t 1), none⟩ <|
    .op ⟨(some 7), .iaddr 1 (.t 5) (.t 6), none⟩ <|
    .op ⟨(some 8), .load false 1 (.t 7), none⟩ <|
    .op ⟨(some 11), .bin .gtr (.t 8) (.t 10), none⟩ <|
    .op ⟨(some 4), .mov (.t 11), none⟩ <|
    .done)) <|
 .ret, [.slot 4]⟩
theorem c21 : Code1 Try.prog 21 12 b21 := Code1.mk' Try.func21 (by kernel_rfl) (by kernel_rfl) Try.ntmps21

end Go.Proofs.Ytombcpkfhhlacaa
