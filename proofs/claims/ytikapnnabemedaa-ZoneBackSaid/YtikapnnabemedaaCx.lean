/-
  THE CODE of the functions of this seat, as the plain machine's; each is what the compiler makes of the program's.
-/
import Derived.Test.YtikapnnabemedaaChecked
import Derived.Test.YtikapnnabemedaaAm24
import Derived.KernelRfl
namespace Go.Proofs.Ytikapnnabemedaa
open Go Go.AM
set_option linter.unusedVariables false

theorem hm : Try.prog.follows .mixedOrders = true := by kernel_rfl

/-- fusee/fuseelaw22.ZoneTells -/
def b3 : IFn := ⟨
 .seq
 (.region [⟨(some 4), .mov (.c (.bool false)), none⟩]) <|
 .seq
 (.seq
  (.region [⟨(some 15), .call (.f 5) [], none⟩,
     ⟨(some 16), .un .not (.t 15), none⟩]) <|
  .cond (.t 16)
   (.seq
    (.region [⟨(some 4), .mov (.c (.bool false)), none⟩]) <|
    .ret)
   (.skip)) <|
 .seq
 (.seq
  (.region [⟨(some 17), .mov (.t 0), none⟩,
     ⟨(some 18), .len .sl (.t 17), none⟩,
     ⟨(some 19), .bin .gtr (.t 18) (.c (.int .i64 60)), none⟩]) <|
  .cond (.t 19)
   (.seq
    (.region [⟨(some 4), .mov (.c (.bool true)), none⟩]) <|
    .ret)
   (.skip)) <|
 .seq
 (.region [⟨(some 20), .mov (.t 0), none⟩,
    ⟨(some 21), .call (.f 6) [(.t 20)], none⟩,
    ⟨(some 5), .mov (.t 21), none⟩]) <|
 .seq
 (.seq
  (.region [⟨(some 22), .mov (.t 0), none⟩,
     ⟨(some 23), .call (.f 7) [(.t 22)], none⟩,
     ⟨(some 24), .un .not (.t 23), none⟩]) <|
  .cond (.t 24)
   (.seq
    (.region [⟨(some 26), .mov (.t 5), none⟩,
       ⟨(some 27), .mov (.t 1), none⟩,
       ⟨(some 28), .call (.f 8) [(.t 26), (.t 27)], none⟩,
       ⟨(some 25), .mov (.t 28), none⟩,
       ⟨(some 29), .extract (.t 25) 0, none⟩,
       ⟨(some 30), .extract (.t 25) 1, none⟩,
       ⟨(some 6), .mov (.t 29), none⟩,
       ⟨(some 7), .mov (.t 30), none⟩]) <|
    .seq
    (.region [⟨(some 31), .mov (.t 5), none⟩,
       ⟨(some 32), .eq false false [.ptr] (.t 31) (.c (.ptr none)), none⟩,
       ⟨(some 33), .mov (.t 32), none⟩,
       ⟨(some 34), .mov (.t 5), (some (33, true))⟩,
       ⟨(some 35), .mov (.t 1), (some (33, true))⟩,
       ⟨(some 36), .call (.f 9) [(.t 34), (.t 35)], (some (33, true))⟩,
       ⟨(some 37), .bin .eql (.t 36) (.c (.int .i64 0)), (some (33, true))⟩,
       ⟨(some 38), .pick (.t 33) (.t 37) (.c (.bool false)), none⟩,
       ⟨(some 39), .mov (.t 38), none⟩,
       ⟨(some 40), .mov (.t 5), (some (39, true))⟩,
       ⟨(some 41), .mov (.t 1), (some (39, true))⟩,
       ⟨(some 42), .call (.f 10) [(.t 40), (.t 41)], (some (39, true))⟩,
       ⟨(some 43), .mov (.t 1), (some (39, true))⟩,
       ⟨(some 44), .bin .eql (.t 42) (.t 43), (some (39, true))⟩,
       ⟨(some 45), .pick (.t 39) (.t 44) (.c (.bool false)), none⟩,
       ⟨(some 46), .mov (.t 45), none⟩,
       ⟨(some 47), .mov (.t 5), (some (46, true))⟩,
       ⟨(some 48), .mov (.t 1), (some (46, true))⟩,
       ⟨(some 49), .call (.f 11) [(.t 47), (.t 48)], (some (46, true))⟩,
       ⟨(some 50), .len .sl (.t 49), (some (46, true))⟩,
       ⟨(some 51), .bin .eql (.t 50) (.c (.int .i64 0)), (some (46, true))⟩,
       ⟨(some 52), .pick (.t 46) (.t 51) (.c (.bool false)), none⟩,
       ⟨(some 53), .mov (.t 52), none⟩,
       ⟨(some 54), .mov (.t 7), (some (53, true))⟩,
       ⟨(some 55), .un .not (.t 54), (some (53, true))⟩,
       ⟨(some 56), .pick (.t 53) (.t 55) (.c (.bool false)), none⟩,
       ⟨(some 4), .mov (.t 56), none⟩]) <|
    .ret)
   (.skip)) <|
 .seq
 (.region [⟨(some 57), .mov (.t 1), none⟩,
    ⟨(some 58), .call (.f 12) [(.t 57)], none⟩,
    ⟨(some 8), .mov (.t 58), none⟩]) <|
 .seq
 (.region [⟨(some 60), .mov (.t 5), none⟩,
    ⟨(some 61), .mov (.t 1), none⟩,
    ⟨(some 62), .call (.f 8) [(.t 60), (.t 61)], none⟩,
    ⟨(some 59), .mov (.t 62), none⟩,
    ⟨(some 63), .extract (.t 59) 0, none⟩,
    ⟨(some 64), .extract (.t 59) 1, none⟩,
    ⟨(some 9), .mov (.t 63), none⟩,
    ⟨(some 10), .mov (.t 64), none⟩]) <|
 .seq
 (.region [⟨(some 11), .mov (.c (.int .i64 0)), none⟩,
    ⟨(some 12), .mov (.c (.bool false)), none⟩]) <|
 .seq
 (.seq
  (.region [⟨(some 65), .mov (.t 0), none⟩,
     ⟨(some 66), .len .sl (.t 65), none⟩,
     ⟨(some 67), .mov (.c (.int .i64 0)), none⟩]) <|
  .block 0 <|
  .loop [0, 1, 5, 8, 9, 10, 11, 12, 65, 66, 67] <|
   .seq
   (.region [⟨(some 68), .bin .lss (.t 67) (.t 66), none⟩]) <|
   .seq
   (.cond (.t 68)
     (.skip)
     (.exit 0)) <|
   .seq
   (.block 1 <|
    .seq
    (.region [⟨(some 69), .iaddr 2 (.t 65) (.t 67), none⟩,
       ⟨(some 70), .load true 2 (.t 69), none⟩,
       ⟨(some 14), .alloc [(.int .i64 0), (.int .i64 0)], none⟩,
       ⟨none, .store 2 (.t 14) (.t 70), none⟩]) <|
    .seq
    (.region [⟨(some 71), .faddr 0 (.t 14), none⟩,
       ⟨(some 72), .load false 1 (.t 71), none⟩,
       ⟨(some 73), .mov (.t 8), none⟩,
       ⟨(some 74), .bin .gtr (.t 72) (.t 73), none⟩,
       ⟨(some 75), .mov (.t 74), none⟩,
       ⟨(some 76), .mov (.t 12), (some (75, true))⟩,
       ⟨(some 77), .un .not (.t 76), (some (75, true))⟩,
       ⟨(some 78), .pick (.t 75) (.t 77) (.c (.bool false)), none⟩]) <|
    .cond (.t 78)
     (.region [⟨(some 79), .faddr 0 (.t 14), none⟩,
        ⟨(some 80), .load false 1 (.t 79), none⟩,
        ⟨(some 11), .mov (.t 80), none⟩,
        ⟨(some 12), .mov (.c (.bool true)), none⟩])
     (.skip)) <|
   .region [⟨(some 81), .bin .add (.t 67) (.c (.int .i64 1)), none⟩,
     ⟨(some 67), .mov (.t 81), none⟩]) <|
 .seq
 (.region [⟨(some 82), .mov (.t 5), none⟩,
    ⟨(some 83), .mov (.t 1), none⟩,
    ⟨(some 84), .call (.f 9) [(.t 82), (.t 83)], none⟩,
    ⟨(some 85), .mov (.t 0), none⟩,
    ⟨(some 86), .mov (.t 8), none⟩,
    ⟨(some 87), .call (.f 13) [(.t 85), (.t 86)], none⟩,
    ⟨(some 88), .bin .eql (.t 84) (.t 87), none⟩,
    ⟨(some 89), .mov (.t 88), none⟩,
    ⟨(some 90), .mov (.t 5), (some (89, true))⟩,
    ⟨(some 91), .mov (.t 1), (some (89, true))⟩,
    ⟨(some 92), .call (.f 10) [(.t 90), (.t 91)], (some (89, true))⟩,
    ⟨(some 93), .mov (.t 8), (some (89, true))⟩,
    ⟨(some 94), .mov (.t 0), (some (89, true))⟩,
    ⟨(some 95), .mov (.t 8), (some (89, true))⟩,
    ⟨(some 96), .call (.f 13) [(.t 94), (.t 95)], (some (89, true))⟩,
    ⟨(some 97), .bin .add (.t 93) (.t 96), (some (89, true))⟩,
    ⟨(some 98), .bin .eql (.t 92) (.t 97), (some (89, true))⟩,
    ⟨(some 99), .pick (.t 89) (.t 98) (.c (.bool false)), none⟩,
    ⟨(some 100), .mov (.t 99), none⟩,
    ⟨(some 101), .mov (.t 10), (some (100, true))⟩,
    ⟨(some 102), .mov (.t 12), (some (100, true))⟩,
    ⟨(some 103), .eq false false [.bool] (.t 101) (.t 102), (some (100, true))⟩,
    ⟨(some 104), .pick (.t 100) (.t 103) (.c (.bool false)), none⟩,
    ⟨(some 105), .mov (.t 104), none⟩,
    ⟨(some 106), .mov (.t 9), (some (105, true))⟩,
    ⟨(some 107), .mov (.t 11), (some (105, true))⟩,
    ⟨(some 108), .bin .eql (.t 106) (.t 107), (some (105, true))⟩,
    ⟨(some 109), .pick (.t 105) (.t 108) (.c (.bool false)), none⟩,
    ⟨(some 4), .mov (.t 109), none⟩]) <|
 .ret, [.slot 4]⟩
theorem c3 : Code1 Try.prog 3 110 b3 := Code1.mk' Try.func3 (by kernel_rfl) (by kernel_rfl) Try.ntmps3

/-- fusee/fuseelaw22.ZoneBack -/
def b4 : IFn := ⟨
 .seq
 (.region [⟨(some 6), .mov (.c (.bool false)), none⟩]) <|
 .seq
 (.seq
  (.region [⟨(some 14), .call (.f 5) [], none⟩,
     ⟨(some 15), .un .not (.t 14), none⟩]) <|
  .cond (.t 15)
   (.seq
    (.region [⟨(some 6), .mov (.c (.bool false)), none⟩]) <|
    .ret)
   (.skip)) <|
 .seq
 (.seq
  (.region [⟨(some 16), .mov (.t 0), none⟩,
     ⟨(some 17), .len .sl (.t 16), none⟩,
     ⟨(some 18), .bin .gtr (.t 17) (.c (.int .i64 60)), none⟩,
     ⟨(some 19), .mov (.t 18), none⟩,
     ⟨(some 20), .mov (.t 0), (some (19, false))⟩,
     ⟨(some 21), .call (.f 7) [(.t 20)], (some (19, false))⟩,
     ⟨(some 22), .un .not (.t 21), (some (19, false))⟩,
     ⟨(some 23), .pick (.t 19) (.c (.bool true)) (.t 22), none⟩]) <|
  .cond (.t 23)
   (.seq
    (.region [⟨(some 6), .mov (.c (.bool true)), none⟩]) <|
    .ret)
   (.skip)) <|
 .seq
 (.region [⟨(some 24), .mov (.t 0), none⟩,
    ⟨(some 25), .call (.f 6) [(.t 24)], none⟩,
    ⟨(some 7), .mov (.t 25), none⟩]) <|
 .seq
 (.region [⟨(some 8), .mov (.c (.bool false)), none⟩]) <|
 .seq
 (.seq
  (.region [⟨(some 26), .mov (.t 7), none⟩,
     ⟨(some 27), .mov (.t 7), none⟩,
     ⟨(some 28), .mov (.t 1), none⟩,
     ⟨(some 29), .conv .i64 (.t 28), none⟩,
     ⟨(some 30), .call (.f 10) [(.t 27), (.t 29)], none⟩,
     ⟨(some 31), .call (.f 11) [(.t 26), (.t 30)], none⟩,
     ⟨(some 32), .len .sl (.t 31), none⟩,
     ⟨(some 33), .mov (.c (.int .i64 0)), none⟩]) <|
  .block 0 <|
  .loop [1, 2, 8, 31, 32, 33] <|
   .seq
   (.region [⟨(some 34), .bin .lss (.t 33) (.t 32), none⟩]) <|
   .seq
   (.cond (.t 34)
     (.skip)
     (.exit 0)) <|
   .seq
   (.block 1 <|
    .seq
    (.region [⟨(some 35), .iaddr 1 (.t 31) (.t 33), none⟩,
       ⟨(some 36), .load false 1 (.t 35), none⟩,
       ⟨(some 10), .mov (.t 36), none⟩]) <|
    .region [⟨(some 37), .mov (.t 8), none⟩,
      ⟨(some 38), .mov (.t 37), none⟩,
      ⟨(some 39), .mov (.t 10), (some (38, false))⟩,
      ⟨(some 40), .mov (.t 1), (some (38, false))⟩,
      ⟨(some 41), .conv .i64 (.t 40), (some (38, false))⟩,
      ⟨(some 42), .bin .eql (.t 39) (.t 41), (some (38, false))⟩,
      ⟨(some 43), .pick (.t 38) (.c (.bool true)) (.t 42), none⟩,
      ⟨(some 8), .mov (.t 43), none⟩]) <|
   .region [⟨(some 44), .bin .add (.t 33) (.c (.int .i64 1)), none⟩,
     ⟨(some 33), .mov (.t 44), none⟩]) <|
 .seq
 (.region [⟨(some 45), .mov (.t 2), none⟩,
    ⟨(some 46), .bin .rem (.t 45) (.c (.int .i32 86400)), none⟩,
    ⟨(some 47), .conv .i64 (.t 46), none⟩,
    ⟨(some 48), .build [(.int .i64 0), (.int .i64 0)] [(0, 1, (.c (.int .i64 5))), (1, 1, (.t 47))], none⟩,
    ⟨(some 49), .buildSl 2 [(.int .i64 0), (.int .i64 0)] [(0, 2, (.t 48))], none⟩,
    ⟨(some 50), .call (.f 6) [(.t 49)], none⟩,
    ⟨(some 11), .mov (.t 50), none⟩]) <|
 .seq
 (.region [⟨(some 52), .mov (.t 11), none⟩,
    ⟨(some 53), .mov (.t 11), none⟩,
    ⟨(some 54), .mov (.t 1), none⟩,
    ⟨(some 55), .conv .i64 (.t 54), none⟩,
    ⟨(some 56), .call (.f 10) [(.t 53), (.t 55)], none⟩,
    ⟨(some 57), .call (.f 14) [(.t 52), (.t 56)], none⟩,
    ⟨(some 51), .mov (.t 57), none⟩,
    ⟨(some 58), .extract (.t 51) 0, none⟩,
    ⟨(some 59), .extract (.t 51) 1, none⟩,
    ⟨(some 12), .mov (.t 58), none⟩,
    ⟨(some 13), .mov (.t 59), none⟩]) <|
 .seq
 (.region [⟨(some 60), .mov (.t 8), none⟩,
    ⟨(some 61), .mov (.t 60), none⟩,
    ⟨(some 62), .mov (.t 13), (some (61, true))⟩,
    ⟨(some 63), .pick (.t 61) (.t 62) (.c (.bool false)), none⟩,
    ⟨(some 64), .mov (.t 63), none⟩,
    ⟨(some 65), .mov (.t 12), (some (64, true))⟩,
    ⟨(some 66), .mov (.t 1), (some (64, true))⟩,
    ⟨(some 67), .conv .i64 (.t 66), (some (64, true))⟩,
    ⟨(some 68), .bin .eql (.t 65) (.t 67), (some (64, true))⟩,
    ⟨(some 69), .pick (.t 64) (.t 68) (.c (.bool false)), none⟩,
    ⟨(some 70), .mov (.t 69), none⟩,
    ⟨(some 71), .mov (.t 11), (some (70, true))⟩,
    ⟨(some 72), .mov (.t 1), (some (70, true))⟩,
    ⟨(some 73), .conv .i64 (.t 72), (some (70, true))⟩,
    ⟨(some 74), .call (.f 11) [(.t 71), (.t 73)], (some (70, true))⟩,
    ⟨(some 75), .len .sl (.t 74), (some (70, true))⟩,
    ⟨(some 76), .bin .eql (.t 75) (.c (.int .i64 1)), (some (70, true))⟩,
    ⟨(some 77), .pick (.t 70) (.t 76) (.c (.bool false)), none⟩,
    ⟨(some 6), .mov (.t 77), none⟩]) <|
 .ret, [.slot 6]⟩
theorem c4 : Code1 Try.prog 4 78 b4 := Code1.mk' Try.func4 (by kernel_rfl) (by kernel_rfl) Try.ntmps4

/-- fusee/fuseelaw22.fixed -/
def b5 : IFn := ⟨
 .seq
 (.region [⟨(some 0), .mov (.c (.bool false)), none⟩]) <|
 .seq
 (.region [⟨(some 7), .build [(.int .i64 0), (.int .i64 0)] [(0, 1, (.c (.int .i64 0))), (1, 1, (.c (.int .i64 3600)))], none⟩,
    ⟨(some 8), .build [(.int .i64 0), (.int .i64 0)] [(0, 1, (.c (.int .i64 100))), (1, 1, (.c (.int .i64 7200)))], none⟩,
    ⟨(some 9), .buildSl 2 [(.int .i64 0), (.int .i64 0), (.int .i64 0), (.int .i64 0)] [(0, 2, (.t 7)), (2, 2, (.t 8))], none⟩,
    ⟨(some 10), .call (.f 6) [(.t 9)], none⟩,
    ⟨(some 1), .mov (.t 10), none⟩]) <|
 .seq
 (.region [⟨(some 12), .mov (.t 1), none⟩,
    ⟨(some 13), .call (.f 14) [(.t 12), (.c (.int .i64 3650))], none⟩,
    ⟨(some 11), .mov (.t 13), none⟩,
    ⟨(some 14), .extract (.t 11) 0, none⟩,
    ⟨(some 15), .extract (.t 11) 1, none⟩,
    ⟨(some 2), .mov (.t 14), none⟩,
    ⟨(some 3), .mov (.t 15), none⟩]) <|
 .seq
 (.region [⟨(some 17), .mov (.t 1), none⟩,
    ⟨(some 18), .call (.f 8) [(.t 17), (.c (.int .i64 5))], none⟩,
    ⟨(some 16), .mov (.t 18), none⟩,
    ⟨(some 19), .extract (.t 16) 0, none⟩,
    ⟨(some 20), .extract (.t 16) 1, none⟩,
    ⟨(some 4), .mov (.t 19), none⟩,
    ⟨(some 5), .mov (.t 20), none⟩]) <|
 .seq
 (.region [⟨(some 6), .mov (.c (.ptr none)), none⟩]) <|
 .seq
 (.region [⟨(some 21), .mov (.t 3), none⟩,
    ⟨(some 22), .mov (.t 21), none⟩,
    ⟨(some 23), .mov (.t 2), (some (22, true))⟩,
    ⟨(some 24), .bin .eql (.t 23) (.c (.int .i64 50)), (some (22, true))⟩,
    ⟨(some 25), .pick (.t 22) (.t 24) (.c (.bool false)), none⟩,
    ⟨(some 26), .mov (.t 25), none⟩,
    ⟨(some 27), .mov (.t 1), (some (26, true))⟩,
    ⟨(some 28), .call (.f 15) [(.t 27), (.c (.int .i64 3700))], (some (26, true))⟩,
    ⟨(some 29), .pick (.t 26) (.t 28) (.c (.bool false)), none⟩,
    ⟨(some 30), .mov (.t 29), none⟩,
    ⟨(some 31), .mov (.t 1), (some (30, true))⟩,
    ⟨(some 32), .call (.f 15) [(.t 31), (.c (.int .i64 7299))], (some (30, true))⟩,
    ⟨(some 33), .pick (.t 30) (.t 32) (.c (.bool false)), none⟩,
    ⟨(some 34), .mov (.t 33), none⟩,
    ⟨(some 35), .mov (.t 1), (some (34, true))⟩,
    ⟨(some 36), .call (.f 15) [(.t 35), (.c (.int .i64 7300))], (some (34, true))⟩,
    ⟨(some 37), .un .not (.t 36), (some (34, true))⟩,
    ⟨(some 38), .pick (.t 34) (.t 37) (.c (.bool false)), none⟩,
    ⟨(some 39), .mov (.t 38), none⟩,
    ⟨(some 40), .mov (.t 1), (some (39, true))⟩,
    ⟨(some 41), .call (.f 10) [(.t 40), (.c (.int .i64 100))], (some (39, true))⟩,
    ⟨(some 42), .bin .eql (.t 41) (.c (.int .i64 7300)), (some (39, true))⟩,
    ⟨(some 43), .pick (.t 39) (.t 42) (.c (.bool false)), none⟩,
    ⟨(some 44), .mov (.t 43), none⟩,
    ⟨(some 45), .mov (.t 1), (some (44, true))⟩,
    ⟨(some 46), .call (.f 9) [(.t 45), (.c (.int .i64 99))], (some (44, true))⟩,
    ⟨(some 47), .bin .eql (.t 46) (.c (.int .i64 3600)), (some (44, true))⟩,
    ⟨(some 48), .pick (.t 44) (.t 47) (.c (.bool false)), none⟩,
    ⟨(some 49), .mov (.t 48), none⟩,
    ⟨(some 50), .mov (.t 5), (some (49, true))⟩,
    ⟨(some 51), .pick (.t 49) (.t 50) (.c (.bool false)), none⟩,
    ⟨(some 52), .mov (.t 51), none⟩,
    ⟨(some 53), .mov (.t 4), (some (52, true))⟩,
    ⟨(some 54), .bin .eql (.t 53) (.c (.int .i64 100)), (some (52, true))⟩,
    ⟨(some 55), .pick (.t 52) (.t 54) (.c (.bool false)), none⟩,
    ⟨(some 56), .mov (.t 55), none⟩,
    ⟨(some 57), .call (.f 6) [(.c (.sl none 0 (some 0)))], (some (56, true))⟩,
    ⟨(some 58), .eq false false [.ptr] (.t 57) (.c (.ptr none)), (some (56, true))⟩,
    ⟨(some 59), .pick (.t 56) (.t 58) (.c (.bool false)), none⟩,
    ⟨(some 60), .mov (.t 59), none⟩,
    ⟨(some 61), .mov (.t 6), (some (60, true))⟩,
    ⟨(some 62), .call (.f 10) [(.t 61), (.c (.int .i64 5))], (some (60, true))⟩,
    ⟨(some 63), .bin .eql (.t 62) (.c (.int .i64 5)), (some (60, true))⟩,
    ⟨(some 64), .pick (.t 60) (.t 63) (.c (.bool false)), none⟩,
    ⟨(some 65), .mov (.t 64), none⟩,
    ⟨(some 66), .mov (.t 6), (some (65, true))⟩,
    ⟨(some 67), .call (.f 15) [(.t 66), (.c (.int .i64 5))], (some (65, true))⟩,
    ⟨(some 68), .un .not (.t 67), (some (65, true))⟩,
    ⟨(some 69), .pick (.t 65) (.t 68) (.c (.bool false)), none⟩,
    ⟨(some 0), .mov (.t 69), none⟩]) <|
 .ret, [.slot 0]⟩
theorem c5 : Code1 Try.prog 5 70 b5 := Code1.mk' Try.func5 (by kernel_rfl) (by kernel_rfl) Try.ntmps5

/-- fusee/zone.New -/
def b6 : IFn := ⟨
 .seq
 (.region [⟨(some 2), .mov (.c (.ptr none)), none⟩]) <|
 .seq
 (.seq
  (.region [⟨(some 6), .mov (.t 0), none⟩,
     ⟨(some 7), .len .sl (.t 6), none⟩,
     ⟨(some 8), .bin .lss (.t 7) (.c (.int .i64 1)), none⟩,
     ⟨(some 9), .mov (.t 8), none⟩,
     ⟨(some 10), .mov (.t 0), (some (9, false))⟩,
     ⟨(some 11), .len .sl (.t 10), (some (9, false))⟩,
     ⟨(some 12), .bin .gtr (.t 11) (.c (.int .i64 256)), (some (9, false))⟩,
     ⟨(some 13), .pick (.t 9) (.c (.bool true)) (.t 12), none⟩]) <|
  .cond (.t 13)
   (.seq
    (.region [⟨(some 2), .mov (.c (.ptr none)), none⟩]) <|
    .ret)
   (.skip)) <|
 .seq
 (.seq
  (.region [⟨(some 14), .mov (.t 0), none⟩,
     ⟨(some 15), .len .sl (.t 14), none⟩,
     ⟨(some 16), .mov (.c (.int .i64 0)), none⟩]) <|
  .block 0 <|
  .loop [0, 14, 15, 16] <|
   .seq
   (.region [⟨(some 17), .bin .lss (.t 16) (.t 15), none⟩]) <|
   .seq
   (.cond (.t 17)
     (.skip)
     (.exit 0)) <|
   .seq
   (.block 1 <|
    .seq
    (.region [⟨(some 18), .mov (.t 16), none⟩,
       ⟨(some 19), .iaddr 2 (.t 14) (.t 16), none⟩,
       ⟨(some 20), .load true 2 (.t 19), none⟩,
       ⟨(some 4), .alloc [(.int .i64 0), (.int .i64 0)], none⟩,
       ⟨(some 3), .mov (.t 18), none⟩,
       ⟨none, .store 2 (.t 4) (.t 20), none⟩]) <|
    .seq
    (.draw false [0, 14, 15, 16, 53] (
       .op ⟨(some 21), .faddr 0 (.t 4), none⟩ <|
       .op ⟨(some 22), .load false 1 (.t 21), none⟩ <|
       .op ⟨(some 23), .bin .lss (.t 22) (.c (.int .i64 0)), none⟩ <|
       .op ⟨(some 24), .mov (.t 23), none⟩ <|
       .op ⟨(some 25), .faddr 0 (.t 4), (some (24, false))⟩ <|
       .op ⟨(some 26), .load false 1 (.t 25), (some (24, false))⟩ <|
       .op ⟨(some 27), .bin .gtr (.t 26) (.c (.int .i64 1099511627776)), (some (24, false))⟩ <|
       .op ⟨(some 28), .pick (.t 24) (.c (.bool true)) (.t 27), none⟩ <|
       .op ⟨(some 29), .mov (.t 28), none⟩ <|
       .op ⟨(some 30), .faddr 1 (.t 4), (some (29, false))⟩ <|
       .op ⟨(some 31), .load false 1 (.t 30), (some (29, false))⟩ <|
       .op ⟨(some 32), .bin .lss (.t 31) (.c (.int .i64 (-86400))), (some (29, false))⟩ <|
       .op ⟨(some 33), .pick (.t 29) (.c (.bool true)) (.t 32), none⟩ <|
       .op ⟨(some 34), .mov (.t 33), none⟩ <|
       .op ⟨(some 35), .faddr 1 (.t 4), (some (34, false))⟩ <|
       .op ⟨(some 36), .load false 1 (.t 35), (some (34, false))⟩ <|
       .op ⟨(some 37), .bin .gtr (.t 36) (.c (.int .i64 86400)), (some (34, false))⟩ <|
       .op ⟨(some 38), .pick (.t 34) (.c (.bool true)) (.t 37), none⟩ <|
       .op ⟨(some 39), .mov (.t 38), none⟩ <|
       .op ⟨(some 40), .mov (.t 3), (some (39, false))⟩ <|
       .op ⟨(some 41), .bin .gtr (.t 40) (.c (.int .i64 0)), (some (39, false))⟩ <|
       .op ⟨(some 42), .mov (.t 41), (some (39, false))⟩ <|
       .op ⟨(some 43), .mov (.t 0), (some (42, true))⟩ <|
       .op ⟨(some 44), .mov (.t 3), (some (42, true))⟩ <|
       .op ⟨(some 45), .bin .sub (.t 44) (.c (.int .i64 1)), (some (42, true))⟩ <|
       .op ⟨(some 46), .iaddr 2 (.t 43) (.t 45), (some (42, true))⟩ <|
       .op ⟨(some 47), .faddr 0 (.t 46), (some (42, true))⟩ <|
       .op ⟨(some 48), .load false 1 (.t 47), (some (42, true))⟩ <|
       .op ⟨(some 49), .faddr 0 (.t 4), (some (42, true))⟩ <|
       .op ⟨(some 50), .load false 1 (.t 49), (some (42, true))⟩ <|
       .op ⟨(some 51), .bin .geq (.t 48) (.t 50), (some (42, true))⟩ <|
       .op ⟨(some 52), .pick (.t 42) (.t 51) (.c (.bool false)), (some (39, false))⟩ <|
       .op ⟨(some 53), .pick (.t 39) (.c (.bool true)) (.t 52), none⟩ <|
       .done)) <|
    .cond (.t 53)
     (.seq
      (.region [⟨(some 2), .mov (.c (.ptr none)), none⟩]) <|
      .ret)
     (.skip)) <|
   .region [⟨(some 54), .bin .add (.t 16) (.c (.int .i64 1)), none⟩,
     ⟨(some 16), .mov (.t 54), none⟩]) <|
 .seq
 (.region [⟨(some 55), .mov (.t 0), none⟩,
    ⟨(some 56), .len .sl (.t 55), none⟩,
    ⟨(some 57), .mkSl [(.int .i64 0), (.int .i64 0)] 16 (.t 56) (.t 56), none⟩,
    ⟨(some 58), .build [(.sl none 0 (some 0))] [(0, 1, (.t 57))], none⟩,
    ⟨(some 59), .box (.t 58), none⟩,
    ⟨(some 5), .mov (.t 59), none⟩]) <|
 .seq
 (.region [⟨(some 60), .mov (.t 5), none⟩,
    ⟨(some 61), .nilck (.t 60), none⟩,
    ⟨(some 62), .faddr 0 (.t 61), none⟩,
    ⟨(some 63), .load false 1 (.t 62), none⟩,
    ⟨(some 64), .mov (.t 0), none⟩,
    ⟨(some 65), .copy 2 (.t 63) (.t 64), none⟩]) <|
 .seq
 (.region [⟨(some 66), .mov (.t 5), none⟩,
    ⟨(some 2), .mov (.t 66), none⟩]) <|
 .ret, [.slot 2]⟩
theorem c6 : Code1 Try.prog 6 67 b6 := Code1.mk' Try.func6 (by kernel_rfl) (by kernel_rfl) Try.ntmps6

/-- fusee/fuseelaw22.right -/
def b7 : IFn := ⟨
 .seq
 (.region [⟨(some 2), .mov (.c (.bool false)), none⟩]) <|
 .seq
 (.seq
  (.region [⟨(some 5), .mov (.t 0), none⟩,
     ⟨(some 6), .len .sl (.t 5), none⟩,
     ⟨(some 7), .mov (.c (.int .i64 0)), none⟩]) <|
  .block 0 <|
  .loop [0, 5, 6, 7] <|
   .seq
   (.region [⟨(some 8), .bin .lss (.t 7) (.t 6), none⟩]) <|
   .seq
   (.cond (.t 8)
     (.skip)
     (.exit 0)) <|
   .seq
   (.block 1 <|
    .seq
    (.region [⟨(some 9), .mov (.t 7), none⟩,
       ⟨(some 10), .iaddr 2 (.t 5) (.t 7), none⟩,
       ⟨(some 11), .load true 2 (.t 10), none⟩,
       ⟨(some 4), .alloc [(.int .i64 0), (.int .i64 0)], none⟩,
       ⟨(some 3), .mov (.t 9), none⟩,
       ⟨none, .store 2 (.t 4) (.t 11), none⟩]) <|
    .seq
    (.draw false [0, 5, 6, 7, 44] (
       .op ⟨(some 12), .faddr 0 (.t 4), none⟩ <|
       .op ⟨(some 13), .load false 1 (.t 12), none⟩ <|
       .op ⟨(some 14), .bin .lss (.t 13) (.c (.int .i64 0)), none⟩ <|
       .op ⟨(some 15), .mov (.t 14), none⟩ <|
       .op ⟨(some 16), .faddr 0 (.t 4), (some (15, false))⟩ <|
       .op ⟨(some 17), .load false 1 (.t 16), (some (15, false))⟩ <|
       .op ⟨(some 18), .bin .gtr (.t 17) (.c (.int .i64 1099511627776)), (some (15, false))⟩ <|
       .op ⟨(some 19), .pick (.t 15) (.c (.bool true)) (.t 18), none⟩ <|
       .op ⟨(some 20), .mov (.t 19), none⟩ <|
       .op ⟨(some 21), .faddr 1 (.t 4), (some (20, false))⟩ <|
       .op ⟨(some 22), .load false 1 (.t 21), (some (20, false))⟩ <|
       .op ⟨(some 23), .bin .lss (.t 22) (.c (.int .i64 (-86400))), (some (20, false))⟩ <|
       .op ⟨(some 24), .pick (.t 20) (.c (.bool true)) (.t 23), none⟩ <|
       .op ⟨(some 25), .mov (.t 24), none⟩ <|
       .op ⟨(some 26), .faddr 1 (.t 4), (some (25, false))⟩ <|
       .op ⟨(some 27), .load false 1 (.t 26), (some (25, false))⟩ <|
       .op ⟨(some 28), .bin .gtr (.t 27) (.c (.int .i64 86400)), (some (25, false))⟩ <|
       .op ⟨(some 29), .pick (.t 25) (.c (.bool true)) (.t 28), none⟩ <|
       .op ⟨(some 30), .mov (.t 29), none⟩ <|
       .op ⟨(some 31), .mov (.t 3), (some (30, false))⟩ <|
       .op ⟨(some 32), .bin .gtr (.t 31) (.c (.int .i64 0)), (some (30, false))⟩ <|
       .op ⟨(some 33), .mov (.t 32), (some (30, false))⟩ <|
       .op ⟨(some 34), .mov (.t 0), (some (33, true))⟩ <|
       .op ⟨(some 35), .mov (.t 3), (some (33, true))⟩ <|
       .op ⟨(some 36), .bin .sub (.t 35) (.c (.int .i64 1)), (some (33, true))⟩ <|
       .op ⟨(some 37), .iaddr 2 (.t 34) (.t 36), (some (33, true))⟩ <|
       .op ⟨(some 38), .faddr 0 (.t 37), (some (33, true))⟩ <|
       .op ⟨(some 39), .load false 1 (.t 38), (some (33, true))⟩ <|
       .op ⟨(some 40), .faddr 0 (.t 4), (some (33, true))⟩ <|
       .op ⟨(some 41), .load false 1 (.t 40), (some (33, true))⟩ <|
       .op ⟨(some 42), .bin .geq (.t 39) (.t 41), (some (33, true))⟩ <|
       .op ⟨(some 43), .pick (.t 33) (.t 42) (.c (.bool false)), (some (30, false))⟩ <|
       .op ⟨(some 44), .pick (.t 30) (.c (.bool true)) (.t 43), none⟩ <|
       .done)) <|
    .cond (.t 44)
     (.seq
      (.region [⟨(some 2), .mov (.c (.bool false)), none⟩]) <|
      .ret)
     (.skip)) <|
   .region [⟨(some 45), .bin .add (.t 7) (.c (.int .i64 1)), none⟩,
     ⟨(some 7), .mov (.t 45), none⟩]) <|
 .seq
 (.region [⟨(some 46), .mov (.t 0), none⟩,
    ⟨(some 47), .len .sl (.t 46), none⟩,
    ⟨(some 48), .bin .geq (.t 47) (.c (.int .i64 1)), none⟩,
    ⟨(some 49), .mov (.t 48), none⟩,
    ⟨(some 50), .mov (.t 0), (some (49, true))⟩,
    ⟨(some 51), .len .sl (.t 50), (some (49, true))⟩,
    ⟨(some 52), .bin .leq (.t 51) (.c (.int .i64 256)), (some (49, true))⟩,
    ⟨(some 53), .pick (.t 49) (.t 52) (.c (.bool false)), none⟩,
    ⟨(some 2), .mov (.t 53), none⟩]) <|
 .ret, [.slot 2]⟩
theorem c7 : Code1 Try.prog 7 54 b7 := Code1.mk' Try.func7 (by kernel_rfl) (by kernel_rfl) Try.ntmps7

/-- fusee/zone.Zone.Next -/
def b8 : IFn := ⟨
 .seq
 (.region [⟨(some 2), .box (.t 0), none⟩,
    ⟨(some 3), .box (.t 1), none⟩,
    ⟨(some 4), .mov (.c (.int .i64 0)), none⟩,
    ⟨(some 5), .mov (.c (.bool false)), none⟩]) <|
 .seq
 (.seq
  (.region [⟨(some 7), .load false 1 (.t 2), none⟩,
     ⟨(some 8), .eq false false [.ptr] (.t 7) (.c (.ptr none)), none⟩]) <|
  .cond (.t 8)
   (.seq
    (.region [⟨(some 4), .mov (.c (.int .i64 0)), none⟩,
       ⟨(some 5), .mov (.c (.bool false)), none⟩]) <|
    .ret)
   (.skip)) <|
 .seq
 (.region [⟨(some 9), .load false 1 (.t 2), none⟩,
    ⟨(some 10), .nilck (.t 9), none⟩,
    ⟨(some 11), .faddr 0 (.t 10), none⟩,
    ⟨(some 12), .load false 1 (.t 11), none⟩,
    ⟨(some 13), .len .sl (.t 12), none⟩,
    ⟨(some 14), .mkFn 17 [] [(.t 2), (.t 3)], none⟩,
    ⟨(some 15), .call (.f 16) [(.t 13), (.t 14)], none⟩,
    ⟨(some 6), .mov (.t 15), none⟩]) <|
 .seq
 (.seq
  (.region [⟨(some 16), .mov (.t 6), none⟩,
     ⟨(some 17), .load false 1 (.t 2), none⟩,
     ⟨(some 18), .nilck (.t 17), none⟩,
     ⟨(some 19), .faddr 0 (.t 18), none⟩,
     ⟨(some 20), .load false 1 (.t 19), none⟩,
     ⟨(some 21), .len .sl (.t 20), none⟩,
     ⟨(some 22), .bin .eql (.t 16) (.t 21), none⟩]) <|
  .cond (.t 22)
   (.seq
    (.region [⟨(some 4), .mov (.c (.int .i64 0)), none⟩,
       ⟨(some 5), .mov (.c (.bool false)), none⟩]) <|
    .ret)
   (.skip)) <|
 .seq
 (.region [⟨(some 23), .load false 1 (.t 2), none⟩,
    ⟨(some 24), .nilck (.t 23), none⟩,
    ⟨(some 25), .faddr 0 (.t 24), none⟩,
    ⟨(some 26), .load false 1 (.t 25), none⟩,
    ⟨(some 27), .mov (.t 6), none⟩,
    ⟨(some 28), .iaddr 2 (.t 26) (.t 27), none⟩,
    ⟨(some 29), .faddr 0 (.t 28), none⟩,
    ⟨(some 30), .load false 1 (.t 29), none⟩,
    ⟨(some 4), .mov (.t 30), none⟩,
    ⟨(some 5), .mov (.c (.bool true)), none⟩]) <|
 .ret, [.slot 4, .slot 5]⟩
theorem c8 : Code1 Try.prog 8 31 b8 := Code1.mk' Try.func8 (by kernel_rfl) (by kernel_rfl) Try.ntmps8

/-- fusee/zone.Zone.Offset -/
def b9 : IFn := ⟨
 .seq
 (.region [⟨(some 4), .mov (.c (.int .i64 0)), none⟩]) <|
 .seq
 (.seq
  (.region [⟨(some 5), .mov (.t 0), none⟩,
     ⟨(some 6), .eq false false [.ptr] (.t 5) (.c (.ptr none)), none⟩]) <|
  .cond (.t 6)
   (.seq
    (.region [⟨(some 4), .mov (.c (.int .i64 0)), none⟩]) <|
    .ret)
   (.skip)) <|
 .seq
 (.draw true [4] (
    .op ⟨(some 7), .mov (.t 0), none⟩ <|
    .op ⟨(some 8), .nilck (.t 7), none⟩ <|
    .op ⟨(some 9), .faddr 0 (.t 8), none⟩ <|
    .op ⟨(some 11), .mov (.t 0), none⟩ <|
    .op ⟨(some 12), .mov (.t 1), none⟩ <|
    .alt (.op ⟨(some 10), .load false 1 (.t 9), none⟩ <|
     .op ⟨(some 13), .call (.f 18) [(.t 12)], none⟩ <|
     .op ⟨(some 14), .call (.f 19) [(.t 11), (.t 13)], none⟩ <|
     .op ⟨(some 15), .iaddr 2 (.t 10) (.t 14), none⟩ <|
     .op ⟨(some 16), .faddr 1 (.t 15), none⟩ <|
     .op ⟨(some 17), .load false 1 (.t 16), none⟩ <|
     .op ⟨(some 4), .mov (.t 17), none⟩ <|
     .done) <|
    .op ⟨(some 13), .call (.f 18) [(.t 12)], none⟩ <|
    .alt (.op ⟨(some 10), .load false 1 (.t 9), none⟩ <|
     .op ⟨(some 14), .call (.f 19) [(.t 11), (.t 13)], none⟩ <|
     .op ⟨(some 15), .iaddr 2 (.t 10) (.t 14), none⟩ <|
     .op ⟨(some 16), .faddr 1 (.t 15), none⟩ <|
     .op ⟨(some 17), .load false 1 (.t 16), none⟩ <|
     .op ⟨(some 4), .mov (.t 17), none⟩ <|
     .done) <|
    .op ⟨(some 14), .call (.f 19) [(.t 11), (.t 13)], none⟩ <|
    .op ⟨(some 10), .load false 1 (.t 9), none⟩ <|
    .op ⟨(some 15), .iaddr 2 (.t 10) (.t 14), none⟩ <|
    .op ⟨(some 16), .faddr 1 (.t 15), none⟩ <|
    .op ⟨(some 17), .load false 1 (.t 16), none⟩ <|
    .op ⟨(some 4), .mov (.t 17), none⟩ <|
    .done)) <|
 .ret, [.slot 4]⟩
theorem c9 : Code1 Try.prog 9 18 b9 := Code1.mk' Try.func9 (by kernel_rfl) (by kernel_rfl) Try.ntmps9

/-- fusee/zone.Zone.Local -/
def b10 : IFn := ⟨
 .seq
 (.region [⟨(some 4), .mov (.c (.int .i64 0)), none⟩]) <|
 .seq
 (.seq
  (.region [⟨(some 5), .mov (.t 0), none⟩,
     ⟨(some 6), .eq false false [.ptr] (.t 5) (.c (.ptr none)), none⟩]) <|
  .cond (.t 6)
   (.seq
    (.region [⟨(some 7), .mov (.t 1), none⟩,
       ⟨(some 4), .mov (.t 7), none⟩]) <|
    .ret)
   (.skip)) <|
 .seq
 (.region [⟨(some 8), .mov (.t 1), none⟩,
    ⟨(some 9), .call (.f 18) [(.t 8)], none⟩,
    ⟨(some 10), .mov (.t 0), none⟩,
    ⟨(some 11), .mov (.t 1), none⟩,
    ⟨(some 12), .call (.f 9) [(.t 10), (.t 11)], none⟩,
    ⟨(some 13), .bin .add (.t 9) (.t 12), none⟩,
    ⟨(some 4), .mov (.t 13), none⟩]) <|
 .ret, [.slot 4]⟩
theorem c10 : Code1 Try.prog 10 14 b10 := Code1.mk' Try.func10 (by kernel_rfl) (by kernel_rfl) Try.ntmps10

/-- fusee/zone.Zone.Times -/
def b11 : IFn := ⟨
 .seq
 (.region [⟨(some 4), .mov (.c (.sl none 0 (some 0))), none⟩]) <|
 .seq
 (.region [⟨(some 5), .mov (.c (.sl none 0 (some 0))), none⟩]) <|
 .seq
 (.seq
  (.region [⟨(some 9), .mov (.t 0), none⟩,
     ⟨(some 10), .eq false false [.ptr] (.t 9) (.c (.ptr none)), none⟩]) <|
  .cond (.t 10)
   (.seq
    (.region [⟨(some 4), .mov (.c (.sl none 0 (some 0))), none⟩]) <|
    .ret)
   (.skip)) <|
 .seq
 (.seq
  (.region [⟨(some 11), .mov (.t 0), none⟩,
     ⟨(some 12), .nilck (.t 11), none⟩,
     ⟨(some 13), .faddr 0 (.t 12), none⟩,
     ⟨(some 14), .load false 1 (.t 13), none⟩,
     ⟨(some 15), .len .sl (.t 14), none⟩,
     ⟨(some 16), .mov (.c (.int .i64 0)), none⟩]) <|
  .block 0 <|
  .loop [0, 1, 5, 14, 15, 16] <|
   .seq
   (.region [⟨(some 17), .bin .lss (.t 16) (.t 15), none⟩]) <|
   .seq
   (.cond (.t 17)
     (.skip)
     (.exit 0)) <|
   .seq
   (.block 1 <|
    .seq
    (.region [⟨(some 18), .mov (.t 16), none⟩,
       ⟨(some 19), .iaddr 2 (.t 14) (.t 16), none⟩,
       ⟨(some 20), .load true 2 (.t 19), none⟩,
       ⟨(some 7), .alloc [(.int .i64 0), (.int .i64 0)], none⟩,
       ⟨(some 6), .mov (.t 18), none⟩,
       ⟨none, .store 2 (.t 7) (.t 20), none⟩]) <|
    .seq
    (.draw true [0, 1, 5, 6, 8, 14, 15, 16] (
       .op ⟨(some 21), .mov (.t 1), none⟩ <|
       .op ⟨(some 23), .faddr 1 (.t 7), none⟩ <|
       .alt (.op ⟨(some 22), .call (.f 18) [(.t 21)], none⟩ <|
        .op ⟨(some 24), .load false 1 (.t 23), none⟩ <|
        .op ⟨(some 25), .bin .sub (.t 22) (.t 24), none⟩ <|
        .op ⟨(some 8), .mov (.t 25), none⟩ <|
        .done) <|
       .op ⟨(some 24), .load false 1 (.t 23), none⟩ <|
       .op ⟨(some 22), .call (.f 18) [(.t 21)], none⟩ <|
       .op ⟨(some 25), .bin .sub (.t 22) (.t 24), none⟩ <|
       .op ⟨(some 8), .mov (.t 25), none⟩ <|
       .done)) <|
    .seq
    (.region [⟨(some 26), .mov (.t 0), none⟩,
       ⟨(some 27), .mov (.t 8), none⟩,
       ⟨(some 28), .call (.f 19) [(.t 26), (.t 27)], none⟩,
       ⟨(some 29), .mov (.t 6), none⟩,
       ⟨(some 30), .bin .eql (.t 28) (.t 29), none⟩]) <|
    .cond (.t 30)
     (.region [⟨(some 31), .mov (.t 5), none⟩,
        ⟨(some 32), .mov (.t 8), none⟩,
        ⟨(some 33), .buildSl 1 [(.int .i64 0)] [(0, 1, (.t 32))], none⟩,
        ⟨(some 34), .app 1 8 (.t 31) (.t 33), none⟩,
        ⟨(some 5), .mov (.t 34), none⟩])
     (.skip)) <|
   .region [⟨(some 35), .bin .add (.t 16) (.c (.int .i64 1)), none⟩,
     ⟨(some 16), .mov (.t 35), none⟩]) <|
 .seq
 (.region [⟨(some 36), .mov (.t 5), none⟩,
    ⟨(some 37), .call (.f 20) [(.t 36)], none⟩]) <|
 .seq
 (.region [⟨(some 38), .mov (.t 5), none⟩,
    ⟨(some 4), .mov (.t 38), none⟩]) <|
 .ret, [.slot 4]⟩
theorem c11 : Code1 Try.prog 11 39 b11 := Code1.mk' Try.func11 (by kernel_rfl) (by kernel_rfl) Try.ntmps11

/-- fusee/fuseelaw22.clamp -/
def b12 : IFn := ⟨
 .seq
 (.region [⟨(some 2), .mov (.c (.int .i64 0)), none⟩]) <|
 .seq
 (.region [⟨(some 3), .mov (.t 0), none⟩,
    ⟨(some 4), .max [(.t 3), (.c (.int .i64 (-2199023255552)))], none⟩,
    ⟨(some 5), .min [(.t 4), (.c (.int .i64 2199023255552))], none⟩,
    ⟨(some 2), .mov (.t 5), none⟩]) <|
 .ret, [.slot 2]⟩
theorem c12 : Code1 Try.prog 12 6 b12 := Code1.mk' Try.func12 (by kernel_rfl) (by kernel_rfl) Try.ntmps12

/-- fusee/fuseelaw22.offset -/
def b13 : IFn := ⟨
 .seq
 (.region [⟨(some 4), .mov (.c (.int .i64 0)), none⟩]) <|
 .seq
 (.region [⟨(some 8), .mov (.t 0), none⟩,
    ⟨(some 9), .iaddr 2 (.t 8) (.c (.int .i64 0)), none⟩,
    ⟨(some 10), .faddr 1 (.t 9), none⟩,
    ⟨(some 11), .load false 1 (.t 10), none⟩,
    ⟨(some 5), .mov (.t 11), none⟩]) <|
 .seq
 (.seq
  (.region [⟨(some 12), .mov (.t 0), none⟩,
     ⟨(some 13), .len .sl (.t 12), none⟩,
     ⟨(some 14), .mov (.c (.int .i64 0)), none⟩]) <|
  .block 0 <|
  .loop [1, 5, 12, 13, 14] <|
   .seq
   (.region [⟨(some 15), .bin .lss (.t 14) (.t 13), none⟩]) <|
   .seq
   (.cond (.t 15)
     (.skip)
     (.exit 0)) <|
   .seq
   (.block 1 <|
    .seq
    (.region [⟨(some 16), .iaddr 2 (.t 12) (.t 14), none⟩,
       ⟨(some 17), .load true 2 (.t 16), none⟩,
       ⟨(some 7), .alloc [(.int .i64 0), (.int .i64 0)], none⟩,
       ⟨none, .store 2 (.t 7) (.t 17), none⟩]) <|
    .seq
    (.region [⟨(some 18), .faddr 0 (.t 7), none⟩,
       ⟨(some 19), .load false 1 (.t 18), none⟩,
       ⟨(some 20), .mov (.t 1), none⟩,
       ⟨(some 21), .bin .leq (.t 19) (.t 20), none⟩]) <|
    .cond (.t 21)
     (.region [⟨(some 22), .faddr 1 (.t 7), none⟩,
        ⟨(some 23), .load false 1 (.t 22), none⟩,
        ⟨(some 5), .mov (.t 23), none⟩])
     (.skip)) <|
   .region [⟨(some 24), .bin .add (.t 14) (.c (.int .i64 1)), none⟩,
     ⟨(some 14), .mov (.t 24), none⟩]) <|
 .seq
 (.region [⟨(some 25), .mov (.t 5), none⟩,
    ⟨(some 4), .mov (.t 25), none⟩]) <|
 .ret, [.slot 4]⟩
theorem c13 : Code1 Try.prog 13 26 b13 := Code1.mk' Try.func13 (by kernel_rfl) (by kernel_rfl) Try.ntmps13

/-- fusee/zone.Zone.First -/
def b14 : IFn := ⟨
 .seq
 (.region [⟨(some 4), .mov (.c (.int .i64 0)), none⟩,
    ⟨(some 5), .mov (.c (.bool false)), none⟩]) <|
 .seq
 (.region [⟨(some 7), .mov (.t 0), none⟩,
    ⟨(some 8), .mov (.t 1), none⟩,
    ⟨(some 9), .call (.f 11) [(.t 7), (.t 8)], none⟩,
    ⟨(some 6), .mov (.t 9), none⟩]) <|
 .seq
 (.seq
  (.region [⟨(some 10), .mov (.t 6), none⟩,
     ⟨(some 11), .len .sl (.t 10), none⟩,
     ⟨(some 12), .bin .eql (.t 11) (.c (.int .i64 0)), none⟩]) <|
  .cond (.t 12)
   (.seq
    (.region [⟨(some 4), .mov (.c (.int .i64 0)), none⟩,
       ⟨(some 5), .mov (.c (.bool false)), none⟩]) <|
    .ret)
   (.skip)) <|
 .seq
 (.region [⟨(some 13), .mov (.t 6), none⟩,
    ⟨(some 14), .iaddr 1 (.t 13) (.c (.int .i64 0)), none⟩,
    ⟨(some 15), .load false 1 (.t 14), none⟩,
    ⟨(some 4), .mov (.t 15), none⟩,
    ⟨(some 5), .mov (.c (.bool true)), none⟩]) <|
 .ret, [.slot 4, .slot 5]⟩
theorem c14 : Code1 Try.prog 14 16 b14 := Code1.mk' Try.func14 (by kernel_rfl) (by kernel_rfl) Try.ntmps14

/-- fusee/zone.Zone.Gap -/
def b15 : IFn := ⟨
 .seq
 (.region [⟨(some 4), .mov (.c (.bool false)), none⟩]) <|
 .seq
 (.region [⟨(some 8), .mov (.t 0), none⟩,
    ⟨(some 9), .mov (.t 1), none⟩,
    ⟨(some 10), .call (.f 14) [(.t 8), (.t 9)], none⟩,
    ⟨(some 7), .mov (.t 10), none⟩,
    ⟨(some 11), .extract (.t 7) 0, none⟩,
    ⟨(some 12), .extract (.t 7) 1, none⟩,
    ⟨(some 5), .mov (.t 11), none⟩,
    ⟨(some 6), .mov (.t 12), none⟩]) <|
 .seq
 (.region [⟨(some 13), .mov (.t 0), none⟩,
    ⟨(some 14), .eq true false [.ptr] (.t 13) (.c (.ptr none)), none⟩,
    ⟨(some 15), .mov (.t 14), none⟩,
    ⟨(some 16), .mov (.t 6), (some (15, true))⟩,
    ⟨(some 17), .un .not (.t 16), (some (15, true))⟩,
    ⟨(some 18), .pick (.t 15) (.t 17) (.c (.bool false)), none⟩,
    ⟨(some 4), .mov (.t 18), none⟩]) <|
 .ret, [.slot 4]⟩
theorem c15 : Code1 Try.prog 15 19 b15 := Code1.mk' Try.func15 (by kernel_rfl) (by kernel_rfl) Try.ntmps15

/-- sort.Search -/
def b16 : IFn := ⟨
 .seq
 (.region [⟨(some 4), .mov (.c (.int .i64 0)), none⟩]) <|
 .seq
 (.region [⟨(some 8), .mov (.t 0), none⟩,
    ⟨(some 5), .mov (.c (.int .i64 0)), none⟩,
    ⟨(some 6), .mov (.t 8), none⟩]) <|
 .seq
 (.block 0 <|
  .loop [1, 5, 6] <|
   .seq
   (.seq
    (.region [⟨(some 9), .mov (.t 5), none⟩,
       ⟨(some 10), .mov (.t 6), none⟩,
       ⟨(some 11), .bin .lss (.t 9) (.t 10), none⟩]) <|
    .cond (.t 11)
     (.skip)
     (.exit 0)) <|
   .block 1 <|
   .seq
   (.region [⟨(some 12), .mov (.t 5), none⟩,
      ⟨(some 13), .mov (.t 6), none⟩,
      ⟨(some 14), .bin .add (.t 12) (.t 13), none⟩,
      ⟨(some 15), .conv .u64 (.t 14), none⟩,
      ⟨(some 16), .bin .shr (.t 15) (.c (.int .u64 1)), none⟩,
      ⟨(some 17), .conv .i64 (.t 16), none⟩,
      ⟨(some 7), .mov (.t 17), none⟩]) <|
   .seq
   (.region [⟨(some 18), .mov (.t 1), none⟩,
      ⟨(some 19), .mov (.t 7), none⟩,
      ⟨(some 20), .call (.t 18) [(.t 19)], none⟩,
      ⟨(some 21), .un .not (.t 20), none⟩]) <|
   .cond (.t 21)
    (.region [⟨(some 22), .mov (.t 7), none⟩,
       ⟨(some 23), .bin .add (.t 22) (.c (.int .i64 1)), none⟩,
       ⟨(some 5), .mov (.t 23), none⟩])
    (.region [⟨(some 24), .mov (.t 7), none⟩,
       ⟨(some 6), .mov (.t 24), none⟩])) <|
 .seq
 (.region [⟨(some 25), .mov (.t 5), none⟩,
    ⟨(some 4), .mov (.t 25), none⟩]) <|
 .ret, [.slot 4]⟩
theorem c16 : Code1 Try.prog 16 26 b16 := Code1.mk' Try.func16 (by kernel_rfl) (by kernel_rfl) Try.ntmps16

/-- fusee/zone.Zone.Next$1 -/
def b17 : IFn := ⟨
 .seq
 (.region [⟨(some 4), .mov (.c (.bool false)), none⟩]) <|
 .seq
 (.draw true [4] (
    .op ⟨(some 9), .mov (.t 0), none⟩ <|
    .op ⟨(some 13), .load false 1 (.t 2), none⟩ <|
    .alt (.op ⟨(some 5), .load false 1 (.t 1), none⟩ <|
     .op ⟨(some 6), .nilck (.t 5), none⟩ <|
     .op ⟨(some 7), .faddr 0 (.t 6), none⟩ <|
     .alt (.op ⟨(some 8), .load false 1 (.t 7), none⟩ <|
      .op ⟨(some 10), .iaddr 2 (.t 8) (.t 9), none⟩ <|
      .op ⟨(some 11), .faddr 0 (.t 10), none⟩ <|
      .alt (.op ⟨(some 12), .load false 1 (.t 11), none⟩ <|
       .op ⟨(some 14), .call (.f 18) [(.t 13)], none⟩ <|
       .op ⟨(some 15), .bin .gtr (.t 12) (.t 14), none⟩ <|
       .op ⟨(some 4), .mov (.t 15), none⟩ <|
       .done) <|
      .op ⟨(some 14), .call (.f 18) [(.t 13)], none⟩ <|
      .op ⟨(some 12), .load false 1 (.t 11), none⟩ <|
      .op ⟨(some 15), .bin .gtr (.t 12) (.t 14), none⟩ <|
      .op ⟨(some 4), .mov (.t 15), none⟩ <|
      .done) <|
     .op ⟨(some 14), .call (.f 18) [(.t 13)], none⟩ <|
     .op ⟨(some 8), .load false 1 (.t 7), none⟩ <|
     .op ⟨(some 10), .iaddr 2 (.t 8) (.t 9), none⟩ <|
     .op ⟨(some 11), .faddr 0 (.t 10), none⟩ <|
     .op ⟨(some 12), .load false 1 (.t 11), none⟩ <|
     .op ⟨(some 15), .bin .gtr (.t 12) (.t 14), none⟩ <|
     .op ⟨(some 4), .mov (.t 15), none⟩ <|
     .done) <|
    .op ⟨(some 14), .call (.f 18) [(.t 13)], none⟩ <|
    .op ⟨(some 5), .load false 1 (.t 1), none⟩ <|
    .op ⟨(some 6), .nilck (.t 5), none⟩ <|
    .op ⟨(some 7), .faddr 0 (.t 6), none⟩ <|
    .op ⟨(some 8), .load false 1 (.t 7), none⟩ <|
    .op ⟨(some 10), .iaddr 2 (.t 8) (.t 9), none⟩ <|
    .op ⟨(some 11), .faddr 0 (.t 10), none⟩ <|
    .op ⟨(some 12), .load false 1 (.t 11), none⟩ <|
    .op ⟨(some 15), .bin .gtr (.t 12) (.t 14), none⟩ <|
    .op ⟨(some 4), .mov (.t 15), none⟩ <|
    .done)) <|
 .ret, [.slot 4]⟩
theorem c17 : Code1 Try.prog 17 16 b17 := Code1.mk' Try.func17 (by kernel_rfl) (by kernel_rfl) Try.ntmps17

/-- fusee/zone.clamp -/
def b18 : IFn := ⟨
 .seq
 (.region [⟨(some 2), .mov (.c (.int .i64 0)), none⟩]) <|
 .seq
 (.region [⟨(some 3), .mov (.t 0), none⟩,
    ⟨(some 4), .max [(.t 3), (.c (.int .i64 (-2199023255552)))], none⟩,
    ⟨(some 5), .min [(.t 4), (.c (.int .i64 2199023255552))], none⟩,
    ⟨(some 2), .mov (.t 5), none⟩]) <|
 .ret, [.slot 2]⟩
theorem c18 : Code1 Try.prog 18 6 b18 := Code1.mk' Try.func18 (by kernel_rfl) (by kernel_rfl) Try.ntmps18

/-- fusee/zone.Zone.at -/
def b19 : IFn := ⟨
 .seq
 (.region [⟨(some 2), .box (.t 0), none⟩,
    ⟨(some 3), .box (.t 1), none⟩,
    ⟨(some 4), .mov (.c (.int .i64 0)), none⟩]) <|
 .seq
 (.region [⟨(some 5), .load false 1 (.t 2), none⟩,
    ⟨(some 6), .nilck (.t 5), none⟩,
    ⟨(some 7), .faddr 0 (.t 6), none⟩,
    ⟨(some 8), .load false 1 (.t 7), none⟩,
    ⟨(some 9), .len .sl (.t 8), none⟩,
    ⟨(some 10), .mkFn 21 [] [(.t 2), (.t 3)], none⟩,
    ⟨(some 11), .call (.f 16) [(.t 9), (.t 10)], none⟩,
    ⟨(some 12), .bin .sub (.t 11) (.c (.int .i64 1)), none⟩,
    ⟨(some 13), .max [(.t 12), (.c (.int .i64 0))], none⟩,
    ⟨(some 4), .mov (.t 13), none⟩]) <|
 .ret, [.slot 4]⟩
theorem c19 : Code1 Try.prog 19 14 b19 := Code1.mk' Try.func19 (by kernel_rfl) (by kernel_rfl) Try.ntmps19

/-- slices.Sort[[]int,int] -/
def b20 : IFn := ⟨
 .seq
 (.region [⟨(some 3), .mov (.t 0), none⟩,
    ⟨(some 4), .len .sl (.t 3), none⟩,
    ⟨(some 2), .mov (.t 4), none⟩]) <|
 .region [⟨(some 5), .mov (.t 0), none⟩,
   ⟨(some 6), .mov (.t 2), none⟩,
   ⟨(some 7), .mov (.t 2), none⟩,
   ⟨(some 8), .conv .u64 (.t 7), none⟩,
   ⟨(some 9), .call (.f 23) [(.t 8)], none⟩,
   ⟨(some 10), .call (.f 22) [(.t 5), (.c (.int .i64 0)), (.t 6), (.t 9)], none⟩], []⟩
theorem c20 : Code1 Try.prog 20 11 b20 := Code1.mk' Try.func20 (by kernel_rfl) (by kernel_rfl) Try.ntmps20

/-- fusee/zone.Zone.at$1 -/
def b21 : IFn := ⟨
 .seq
 (.region [⟨(some 4), .mov (.c (.bool false)), none⟩]) <|
 .seq
 (.draw false [4] (
    .op ⟨(some 5), .load false 1 (.t 1), none⟩ <|
    .op ⟨(some 6), .nilck (.t 5), none⟩ <|
    .op ⟨(some 7), .faddr 0 (.t 6), none⟩ <|
    .op ⟨(some 8), .load false 1 (.t 7), none⟩ <|
    .op ⟨(some 9), .mov (.t 0), none⟩ <|
    .op ⟨(some 10), .iaddr 2 (.t 8) (.t 9), none⟩ <|
    .op ⟨(some 11), .faddr 0 (.t 10), none⟩ <|
    .op ⟨(some 12), .load false 1 (.t 11), none⟩ <|
    .op ⟨(some 13), .load false 1 (.t 2), none⟩ <|
    .op ⟨(some 14), .bin .gtr (.t 12) (.t 13), none⟩ <|
    .op ⟨(some 4), .mov (.t 14), none⟩ <|
    .done)) <|
 .ret, [.slot 4]⟩
theorem c21 : Code1 Try.prog 21 15 b21 := Code1.mk' Try.func21 (by kernel_rfl) (by kernel_rfl) Try.ntmps21

/-- slices.pdqsortOrdered[int] -/
def b22 : IFn := ⟨
 .seq
 (.region [⟨(some 8), .mov (.c (.bool true)), none⟩]) <|
 .seq
 (.region [⟨(some 9), .mov (.c (.bool true)), none⟩]) <|
 .block 0 <|
 .loop [0, 1, 2, 3, 8, 9] <|
  .block 1 <|
  .seq
  (.region [⟨(some 19), .mov (.t 2), none⟩,
     ⟨(some 20), .mov (.t 1), none⟩,
     ⟨(some 21), .bin .sub (.t 19) (.t 20), none⟩,
     ⟨(some 10), .mov (.t 21), none⟩]) <|
  .seq
  (.seq
   (.region [⟨(some 22), .mov (.t 10), none⟩,
      ⟨(some 23), .bin .leq (.t 22) (.c (.int .i64 12)), none⟩]) <|
   .cond (.t 23)
    (.seq
     (.region [⟨(some 24), .mov (.t 0), none⟩,
        ⟨(some 25), .mov (.t 1), none⟩,
        ⟨(some 26), .mov (.t 2), none⟩,
        ⟨(some 27), .call (.f 24) [(.t 24), (.t 25), (.t 26)], none⟩]) <|
     .ret)
    (.skip)) <|
  .seq
  (.seq
   (.region [⟨(some 28), .mov (.t 3), none⟩,
      ⟨(some 29), .bin .eql (.t 28) (.c (.int .i64 0)), none⟩]) <|
   .cond (.t 29)
    (.seq
     (.region [⟨(some 30), .mov (.t 0), none⟩,
        ⟨(some 31), .mov (.t 1), none⟩,
        ⟨(some 32), .mov (.t 2), none⟩,
        ⟨(some 33), .call (.f 25) [(.t 30), (.t 31), (.t 32)], none⟩]) <|
     .ret)
    (.skip)) <|
  .seq
  (.seq
   (.region [⟨(some 34), .mov (.t 8), none⟩,
      ⟨(some 35), .un .not (.t 34), none⟩]) <|
   .cond (.t 35)
    (.seq
     (.region [⟨(some 36), .mov (.t 0), none⟩,
        ⟨(some 37), .mov (.t 1), none⟩,
        ⟨(some 38), .mov (.t 2), none⟩,
        ⟨(some 39), .call (.f 26) [(.t 36), (.t 37), (.t 38)], none⟩]) <|
     .region [⟨(some 40), .mov (.t 3), none⟩,
       ⟨(some 41), .bin .sub (.t 40) (.c (.int .i64 1)), none⟩,
       ⟨(some 3), .mov (.t 41), none⟩])
    (.skip)) <|
  .seq
  (.region [⟨(some 43), .mov (.t 0), none⟩,
     ⟨(some 44), .mov (.t 1), none⟩,
     ⟨(some 45), .mov (.t 2), none⟩,
     ⟨(some 46), .call (.f 27) [(.t 43), (.t 44), (.t 45)], none⟩,
     ⟨(some 42), .mov (.t 46), none⟩,
     ⟨(some 47), .extract (.t 42) 0, none⟩,
     ⟨(some 48), .extract (.t 42) 1, none⟩,
     ⟨(some 11), .mov (.t 47), none⟩,
     ⟨(some 12), .mov (.t 48), none⟩]) <|
  .seq
  (.seq
   (.region [⟨(some 49), .mov (.t 12), none⟩,
      ⟨(some 50), .bin .eql (.t 49) (.c (.int .i64 2)), none⟩]) <|
   .cond (.t 50)
    (.seq
     (.region [⟨(some 51), .mov (.t 0), none⟩,
        ⟨(some 52), .mov (.t 1), none⟩,
        ⟨(some 53), .mov (.t 2), none⟩,
        ⟨(some 54), .call (.f 28) [(.t 51), (.t 52), (.t 53)], none⟩]) <|
     .seq
     (.region [⟨(some 55), .mov (.t 2), none⟩,
        ⟨(some 56), .bin .sub (.t 55) (.c (.int .i64 1)), none⟩,
        ⟨(some 57), .mov (.t 11), none⟩,
        ⟨(some 58), .mov (.t 1), none⟩,
        ⟨(some 59), .bin .sub (.t 57) (.t 58), none⟩,
        ⟨(some 60), .bin .sub (.t 56) (.t 59), none⟩,
        ⟨(some 11), .mov (.t 60), none⟩]) <|
     .region [⟨(some 12), .mov (.c (.int .i64 1)), none⟩])
    (.skip)) <|
  .seq
  (.seq
   (.region [⟨(some 61), .mov (.t 8), none⟩,
      ⟨(some 62), .mov (.t 61), none⟩,
      ⟨(some 63), .mov (.t 9), (some (62, true))⟩,
      ⟨(some 64), .pick (.t 62) (.t 63) (.c (.bool false)), none⟩,
      ⟨(some 65), .mov (.t 64), none⟩,
      ⟨(some 66), .mov (.t 12), (some (65, true))⟩,
      ⟨(some 67), .bin .eql (.t 66) (.c (.int .i64 1)), (some (65, true))⟩,
      ⟨(some 68), .pick (.t 65) (.t 67) (.c (.bool false)), none⟩]) <|
   .cond (.t 68)
    (.seq
     (.region [⟨(some 69), .mov (.t 0), none⟩,
        ⟨(some 70), .mov (.t 1), none⟩,
        ⟨(some 71), .mov (.t 2), none⟩,
        ⟨(some 72), .call (.f 29) [(.t 69), (.t 70), (.t 71)], none⟩]) <|
     .cond (.t 72)
      (.ret)
      (.skip))
    (.skip)) <|
  .seq
  (.seq
   (.draw false [0, 1, 2, 3, 8, 9, 10, 11, 87] (
      .op ⟨(some 73), .mov (.t 1), none⟩ <|
      .op ⟨(some 74), .bin .gtr (.t 73) (.c (.int .i64 0)), none⟩ <|
      .op ⟨(some 75), .mov (.t 74), none⟩ <|
      .op ⟨(some 76), .mov (.t 0), (some (75, true))⟩ <|
      .op ⟨(some 77), .mov (.t 1), (some (75, true))⟩ <|
      .op ⟨(some 78), .bin .sub (.t 77) (.c (.int .i64 1)), (some (75, true))⟩ <|
      .op ⟨(some 79), .iaddr 1 (.t 76) (.t 78), (some (75, true))⟩ <|
      .op ⟨(some 80), .load false 1 (.t 79), (some (75, true))⟩ <|
      .op ⟨(some 81), .mov (.t 0), (some (75, true))⟩ <|
      .op ⟨(some 82), .mov (.t 11), (some (75, true))⟩ <|
      .op ⟨(some 83), .iaddr 1 (.t 81) (.t 82), (some (75, true))⟩ <|
      .op ⟨(some 84), .load false 1 (.t 83), (some (75, true))⟩ <|
      .op ⟨(some 85), .call (.f 30) [(.t 80), (.t 84)], (some (75, true))⟩ <|
      .op ⟨(some 86), .un .not (.t 85), (some (75, true))⟩ <|
      .op ⟨(some 87), .pick (.t 75) (.t 86) (.c (.bool false)), none⟩ <|
      .done)) <|
   .cond (.t 87)
    (.seq
     (.region [⟨(some 88), .mov (.t 0), none⟩,
        ⟨(some 89), .mov (.t 1), none⟩,
        ⟨(some 90), .mov (.t 2), none⟩,
        ⟨(some 91), .mov (.t 11), none⟩,
        ⟨(some 92), .call (.f 31) [(.t 88), (.t 89), (.t 90), (.t 91)], none⟩,
        ⟨(some 13), .mov (.t 92), none⟩]) <|
     .seq
     (.region [⟨(some 93), .mov (.t 13), none⟩,
        ⟨(some 1), .mov (.t 93), none⟩]) <|
     .exit 1)
    (.skip)) <|
  .seq
  (.region [⟨(some 95), .mov (.t 0), none⟩,
     ⟨(some 96), .mov (.t 1), none⟩,
     ⟨(some 97), .mov (.t 2), none⟩,
     ⟨(some 98), .mov (.t 11), none⟩,
     ⟨(some 99), .call (.f 32) [(.t 95), (.t 96), (.t 97), (.t 98)], none⟩,
     ⟨(some 94), .mov (.t 99), none⟩,
     ⟨(some 100), .extract (.t 94) 0, none⟩,
     ⟨(some 101), .extract (.t 94) 1, none⟩,
     ⟨(some 14), .mov (.t 100), none⟩,
     ⟨(some 15), .mov (.t 101), none⟩]) <|
  .seq
  (.region [⟨(some 102), .mov (.t 15), none⟩,
     ⟨(some 9), .mov (.t 102), none⟩]) <|
  .seq
  (.region [⟨(some 103), .mov (.t 14), none⟩,
     ⟨(some 104), .mov (.t 1), none⟩,
     ⟨(some 105), .bin .sub (.t 103) (.t 104), none⟩,
     ⟨(some 106), .mov (.t 2), none⟩,
     ⟨(some 107), .mov (.t 14), none⟩,
     ⟨(some 108), .bin .sub (.t 106) (.t 107), none⟩,
     ⟨(some 16), .mov (.t 105), none⟩,
     ⟨(some 17), .mov (.t 108), none⟩]) <|
  .seq
  (.region [⟨(some 109), .mov (.t 10), none⟩,
     ⟨(some 110), .bin .quo (.t 109) (.c (.int .i64 8)), none⟩,
     ⟨(some 18), .mov (.t 110), none⟩]) <|
  .seq
  (.region [⟨(some 111), .mov (.t 16), none⟩,
     ⟨(some 112), .mov (.t 17), none⟩,
     ⟨(some 113), .bin .lss (.t 111) (.t 112), none⟩]) <|
  .cond (.t 113)
   (.seq
    (.region [⟨(some 114), .mov (.t 16), none⟩,
       ⟨(some 115), .mov (.t 18), none⟩,
       ⟨(some 116), .bin .geq (.t 114) (.t 115), none⟩,
       ⟨(some 8), .mov (.t 116), none⟩]) <|
    .seq
    (.region [⟨(some 117), .mov (.t 0), none⟩,
       ⟨(some 118), .mov (.t 1), none⟩,
       ⟨(some 119), .mov (.t 14), none⟩,
       ⟨(some 120), .mov (.t 3), none⟩,
       ⟨(some 121), .call (.f 22) [(.t 117), (.t 118), (.t 119), (.t 120)], none⟩]) <|
    .region [⟨(some 122), .mov (.t 14), none⟩,
      ⟨(some 123), .bin .add (.t 122) (.c (.int .i64 1)), none⟩,
      ⟨(some 1), .mov (.t 123), none⟩])
   (.seq
    (.region [⟨(some 124), .mov (.t 17), none⟩,
       ⟨(some 125), .mov (.t 18), none⟩,
       ⟨(some 126), .bin .geq (.t 124) (.t 125), none⟩,
       ⟨(some 8), .mov (.t 126), none⟩]) <|
    .seq
    (.region [⟨(some 127), .mov (.t 0), none⟩,
       ⟨(some 128), .mov (.t 14), none⟩,
       ⟨(some 129), .bin .add (.t 128) (.c (.int .i64 1)), none⟩,
       ⟨(some 130), .mov (.t 2), none⟩,
       ⟨(some 131), .mov (.t 3), none⟩,
       ⟨(some 132), .call (.f 22) [(.t 127), (.t 129), (.t 130), (.t 131)], none⟩]) <|
    .region [⟨(some 133), .mov (.t 14), none⟩,
      ⟨(some 2), .mov (.t 133), none⟩]), []⟩
theorem c22 : Code1 Try.prog 22 134 b22 := Code1.mk' Try.func22 (by kernel_rfl) (by kernel_rfl) Try.ntmps22

/-- math/bits.Len -/
def b23 : IFn := ⟨
 .seq
 (.region [⟨(some 2), .mov (.c (.int .i64 0)), none⟩]) <|
 .seq
 (.cond (.c (.bool false))
   (.seq
    (.region [⟨(some 3), .mov (.t 0), none⟩,
       ⟨(some 4), .conv .u32 (.t 3), none⟩,
       ⟨(some 5), .call (.f 33) [(.t 4)], none⟩,
       ⟨(some 2), .mov (.t 5), none⟩]) <|
    .ret)
   (.skip)) <|
 .seq
 (.region [⟨(some 6), .mov (.t 0), none⟩,
    ⟨(some 7), .call (.f 34) [(.t 6)], none⟩,
    ⟨(some 2), .mov (.t 7), none⟩]) <|
 .ret, [.slot 2]⟩
theorem c23 : Code1 Try.prog 23 8 b23 := Code1.mk' Try.func23 (by kernel_rfl) (by kernel_rfl) Try.ntmps23

/-- slices.insertionSortOrdered[int] -/
def b24 : IFn := ⟨
 .seq
 (.region [⟨(some 8), .mov (.t 1), none⟩,
    ⟨(some 9), .bin .add (.t 8) (.c (.int .i64 1)), none⟩,
    ⟨(some 6), .mov (.t 9), none⟩]) <|
 .block 0 <|
 .loop [0, 1, 2, 6] <|
  .seq
  (.seq
   (.region [⟨(some 10), .mov (.t 6), none⟩,
      ⟨(some 11), .mov (.t 2), none⟩,
      ⟨(some 12), .bin .lss (.t 10) (.t 11), none⟩]) <|
   .cond (.t 12)
    (.skip)
    (.exit 0)) <|
  .seq
  (.block 1 <|
   .seq
   (.region [⟨(some 15), .mov (.t 6), none⟩,
      ⟨(some 7), .mov (.t 15), none⟩]) <|
   .block 2 <|
   .loop [0, 1, 2, 6, 7] <|
    .seq
    (.seq
     (.draw false [0, 1, 2, 6, 7, 30] (
        .op ⟨(some 16), .mov (.t 7), none⟩ <|
        .op ⟨(some 17), .mov (.t 1), none⟩ <|
        .op ⟨(some 18), .bin .gtr (.t 16) (.t 17), none⟩ <|
        .op ⟨(some 19), .mov (.t 18), none⟩ <|
        .op ⟨(some 20), .mov (.t 0), (some (19, true))⟩ <|
        .op ⟨(some 21), .mov (.t 7), (some (19, true))⟩ <|
        .op ⟨(some 22), .iaddr 1 (.t 20) (.t 21), (some (19, true))⟩ <|
        .op ⟨(some 23), .load false 1 (.t 22), (some (19, true))⟩ <|
        .op ⟨(some 24), .mov (.t 0), (some (19, true))⟩ <|
        .op ⟨(some 25), .mov (.t 7), (some (19, true))⟩ <|
        .op ⟨(some 26), .bin .sub (.t 25) (.c (.int .i64 1)), (some (19, true))⟩ <|
        .op ⟨(some 27), .iaddr 1 (.t 24) (.t 26), (some (19, true))⟩ <|
        .op ⟨(some 28), .load false 1 (.t 27), (some (19, true))⟩ <|
        .op ⟨(some 29), .call (.f 30) [(.t 23), (.t 28)], (some (19, true))⟩ <|
        .op ⟨(some 30), .pick (.t 19) (.t 29) (.c (.bool false)), none⟩ <|
        .done)) <|
     .cond (.t 30)
      (.skip)
      (.exit 2)) <|
    .seq
    (.block 3 <|
     .draw false [0, 1, 2, 6, 7] (
       .op ⟨(some 33), .mov (.t 0), none⟩ <|
       .op ⟨(some 34), .mov (.t 7), none⟩ <|
       .op ⟨(some 35), .mov (.t 0), none⟩ <|
       .op ⟨(some 36), .mov (.t 7), none⟩ <|
       .op ⟨(some 37), .bin .sub (.t 36) (.c (.int .i64 1)), none⟩ <|
       .op ⟨(some 38), .mov (.t 0), none⟩ <|
       .op ⟨(some 39), .mov (.t 7), none⟩ <|
       .op ⟨(some 40), .bin .sub (.t 39) (.c (.int .i64 1)), none⟩ <|
       .op ⟨(some 41), .iaddr 1 (.t 38) (.t 40), none⟩ <|
       .op ⟨(some 42), .load false 1 (.t 41), none⟩ <|
       .op ⟨(some 43), .mov (.t 0), none⟩ <|
       .op ⟨(some 44), .mov (.t 7), none⟩ <|
       .op ⟨(some 45), .iaddr 1 (.t 43) (.t 44), none⟩ <|
       .op ⟨(some 46), .load false 1 (.t 45), none⟩ <|
       .op ⟨(some 47), .iaddr 1 (.t 33) (.t 34), none⟩ <|
       .op ⟨none, .store 1 (.t 47) (.t 42), none⟩ <|
       .op ⟨(some 48), .iaddr 1 (.t 35) (.t 37), none⟩ <|
       .op ⟨none, .store 1 (.t 48) (.t 46), none⟩ <|
       .done)) <|
    .region [⟨(some 31), .mov (.t 7), none⟩,
      ⟨(some 32), .bin .sub (.t 31) (.c (.int .i64 1)), none⟩,
      ⟨(some 7), .mov (.t 32), none⟩]) <|
  .region [⟨(some 13), .mov (.t 6), none⟩,
    ⟨(some 14), .bin .add (.t 13) (.c (.int .i64 1)), none⟩,
    ⟨(some 6), .mov (.t 14), none⟩], []⟩
theorem c24 : Code1 Try.prog 24 49 b24 := Code1.mk' Try.func24 (by kernel_rfl) (by kernel_rfl) Try.ntmps24

/-- slices.heapSortOrdered[int] -/
def b25 : IFn := ⟨
 .seq
 (.region [⟨(some 11), .mov (.t 1), none⟩,
    ⟨(some 6), .mov (.t 11), none⟩]) <|
 .seq
 (.region [⟨(some 7), .mov (.c (.int .i64 0)), none⟩]) <|
 .seq
 (.region [⟨(some 12), .mov (.t 2), none⟩,
    ⟨(some 13), .mov (.t 1), none⟩,
    ⟨(some 14), .bin .sub (.t 12) (.t 13), none⟩,
    ⟨(some 8), .mov (.t 14), none⟩]) <|
 .seq
 (.seq
  (.region [⟨(some 15), .mov (.t 8), none⟩,
     ⟨(some 16), .bin .sub (.t 15) (.c (.int .i64 1)), none⟩,
     ⟨(some 17), .bin .quo (.t 16) (.c (.int .i64 2)), none⟩,
     ⟨(some 9), .mov (.t 17), none⟩]) <|
  .block 0 <|
  .loop [0, 6, 7, 8, 9] <|
   .seq
   (.seq
    (.region [⟨(some 18), .mov (.t 9), none⟩,
       ⟨(some 19), .bin .geq (.t 18) (.c (.int .i64 0)), none⟩]) <|
    .cond (.t 19)
     (.skip)
     (.exit 0)) <|
   .seq
   (.block 1 <|
    .region [⟨(some 22), .mov (.t 0), none⟩,
      ⟨(some 23), .mov (.t 9), none⟩,
      ⟨(some 24), .mov (.t 8), none⟩,
      ⟨(some 25), .mov (.t 6), none⟩,
      ⟨(some 26), .call (.f 35) [(.t 22), (.t 23), (.t 24), (.t 25)], none⟩]) <|
   .region [⟨(some 20), .mov (.t 9), none⟩,
     ⟨(some 21), .bin .sub (.t 20) (.c (.int .i64 1)), none⟩,
     ⟨(some 9), .mov (.t 21), none⟩]) <|
 .seq
 (.region [⟨(some 27), .mov (.t 8), none⟩,
    ⟨(some 28), .bin .sub (.t 27) (.c (.int .i64 1)), none⟩,
    ⟨(some 10), .mov (.t 28), none⟩]) <|
 .block 2 <|
 .loop [0, 6, 7, 10] <|
  .seq
  (.seq
   (.region [⟨(some 29), .mov (.t 10), none⟩,
      ⟨(some 30), .bin .geq (.t 29) (.c (.int .i64 0)), none⟩]) <|
   .cond (.t 30)
    (.skip)
    (.exit 2)) <|
  .seq
  (.block 3 <|
   .seq
   (.draw false [0, 6, 7, 10] (
      .op ⟨(some 33), .mov (.t 0), none⟩ <|
      .op ⟨(some 34), .mov (.t 6), none⟩ <|
      .op ⟨(some 35), .mov (.t 0), none⟩ <|
      .op ⟨(some 36), .mov (.t 6), none⟩ <|
      .op ⟨(some 37), .mov (.t 10), none⟩ <|
      .op ⟨(some 38), .bin .add (.t 36) (.t 37), none⟩ <|
      .op ⟨(some 39), .mov (.t 0), none⟩ <|
      .op ⟨(some 40), .mov (.t 6), none⟩ <|
      .op ⟨(some 41), .mov (.t 10), none⟩ <|
      .op ⟨(some 42), .bin .add (.t 40) (.t 41), none⟩ <|
      .op ⟨(some 43), .iaddr 1 (.t 39) (.t 42), none⟩ <|
      .op ⟨(some 44), .load false 1 (.t 43), none⟩ <|
      .op ⟨(some 45), .mov (.t 0), none⟩ <|
      .op ⟨(some 46), .mov (.t 6), none⟩ <|
      .op ⟨(some 47), .iaddr 1 (.t 45) (.t 46), none⟩ <|
      .op ⟨(some 48), .load false 1 (.t 47), none⟩ <|
      .op ⟨(some 49), .iaddr 1 (.t 33) (.t 34), none⟩ <|
      .op ⟨none, .store 1 (.t 49) (.t 44), none⟩ <|
      .op ⟨(some 50), .iaddr 1 (.t 35) (.t 38), none⟩ <|
      .op ⟨none, .store 1 (.t 50) (.t 48), none⟩ <|
      .done)) <|
   .region [⟨(some 51), .mov (.t 0), none⟩,
     ⟨(some 52), .mov (.t 7), none⟩,
     ⟨(some 53), .mov (.t 10), none⟩,
     ⟨(some 54), .mov (.t 6), none⟩,
     ⟨(some 55), .call (.f 35) [(.t 51), (.t 52), (.t 53), (.t 54)], none⟩]) <|
  .region [⟨(some 31), .mov (.t 10), none⟩,
    ⟨(some 32), .bin .sub (.t 31) (.c (.int .i64 1)), none⟩,
    ⟨(some 10), .mov (.t 32), none⟩], []⟩
theorem c25 : Code1 Try.prog 25 56 b25 := Code1.mk' Try.func25 (by kernel_rfl) (by kernel_rfl) Try.ntmps25

/-- slices.breakPatternsOrdered[int] -/
def b26 : IFn := ⟨
 .seq
 (.region [⟨(some 11), .mov (.t 2), none⟩,
    ⟨(some 12), .mov (.t 1), none⟩,
    ⟨(some 13), .bin .sub (.t 11) (.t 12), none⟩,
    ⟨(some 6), .mov (.t 13), none⟩]) <|
 .seq
 (.region [⟨(some 14), .mov (.t 6), none⟩,
    ⟨(some 15), .bin .geq (.t 14) (.c (.int .i64 8)), none⟩]) <|
 .cond (.t 15)
  (.seq
   (.region [⟨(some 16), .mov (.t 6), none⟩,
      ⟨(some 17), .conv .u64 (.t 16), none⟩,
      ⟨(some 7), .alloc [(.int .u64 0)], none⟩,
      ⟨none, .store 1 (.t 7) (.t 17), none⟩]) <|
   .seq
   (.region [⟨(some 18), .mov (.t 6), none⟩,
      ⟨(some 19), .call (.f 36) [(.t 18)], none⟩,
      ⟨(some 8), .mov (.t 19), none⟩]) <|
   .seq
   (.region [⟨(some 20), .mov (.t 1), none⟩,
      ⟨(some 21), .mov (.t 6), none⟩,
      ⟨(some 22), .bin .quo (.t 21) (.c (.int .i64 4)), none⟩,
      ⟨(some 23), .bin .mul (.t 22) (.c (.int .i64 2)), none⟩,
      ⟨(some 24), .bin .add (.t 20) (.t 23), none⟩,
      ⟨(some 25), .bin .sub (.t 24) (.c (.int .i64 1)), none⟩,
      ⟨(some 9), .mov (.t 25), none⟩]) <|
   .block 0 <|
   .loop [0, 1, 6, 7, 8, 9] <|
    .seq
    (.seq
     (.region [⟨(some 26), .mov (.t 9), none⟩,
        ⟨(some 27), .mov (.t 1), none⟩,
        ⟨(some 28), .mov (.t 6), none⟩,
        ⟨(some 29), .bin .quo (.t 28) (.c (.int .i64 4)), none⟩,
        ⟨(some 30), .bin .mul (.t 29) (.c (.int .i64 2)), none⟩,
        ⟨(some 31), .bin .add (.t 27) (.t 30), none⟩,
        ⟨(some 32), .bin .add (.t 31) (.c (.int .i64 1)), none⟩,
        ⟨(some 33), .bin .leq (.t 26) (.t 32), none⟩]) <|
     .cond (.t 33)
      (.skip)
      (.exit 0)) <|
    .seq
    (.block 1 <|
     .seq
     (.region [⟨(some 36), .call (.f 37) [(.t 7)], none⟩,
        ⟨(some 37), .mov (.t 8), none⟩,
        ⟨(some 38), .bin .sub (.t 37) (.c (.int .u64 1)), none⟩,
        ⟨(some 39), .bin .and (.t 36) (.t 38), none⟩,
        ⟨(some 40), .conv .i64 (.t 39), none⟩,
        ⟨(some 10), .mov (.t 40), none⟩]) <|
     .seq
     (.seq
      (.region [⟨(some 41), .mov (.t 10), none⟩,
         ⟨(some 42), .mov (.t 6), none⟩,
         ⟨(some 43), .bin .geq (.t 41) (.t 42), none⟩]) <|
      .cond (.t 43)
       (.region [⟨(some 44), .mov (.t 10), none⟩,
          ⟨(some 45), .mov (.t 6), none⟩,
          ⟨(some 46), .bin .sub (.t 44) (.t 45), none⟩,
          ⟨(some 10), .mov (.t 46), none⟩])
       (.skip)) <|
     .draw false [0, 1, 6, 7, 8, 9] (
       .op ⟨(some 47), .mov (.t 0), none⟩ <|
       .op ⟨(some 48), .mov (.t 9), none⟩ <|
       .op ⟨(some 49), .mov (.t 0), none⟩ <|
       .op ⟨(some 50), .mov (.t 1), none⟩ <|
       .op ⟨(some 51), .mov (.t 10), none⟩ <|
       .op ⟨(some 52), .bin .add (.t 50) (.t 51), none⟩ <|
       .op ⟨(some 53), .mov (.t 0), none⟩ <|
       .op ⟨(some 54), .mov (.t 1), none⟩ <|
       .op ⟨(some 55), .mov (.t 10), none⟩ <|
       .op ⟨(some 56), .bin .add (.t 54) (.t 55), none⟩ <|
       .op ⟨(some 57), .iaddr 1 (.t 53) (.t 56), none⟩ <|
       .op ⟨(some 58), .load false 1 (.t 57), none⟩ <|
       .op ⟨(some 59), .mov (.t 0), none⟩ <|
       .op ⟨(some 60), .mov (.t 9), none⟩ <|
       .op ⟨(some 61), .iaddr 1 (.t 59) (.t 60), none⟩ <|
       .op ⟨(some 62), .load false 1 (.t 61), none⟩ <|
       .op ⟨(some 63), .iaddr 1 (.t 47) (.t 48), none⟩ <|
       .op ⟨none, .store 1 (.t 63) (.t 58), none⟩ <|
       .op ⟨(some 64), .iaddr 1 (.t 49) (.t 52), none⟩ <|
       .op ⟨none, .store 1 (.t 64) (.t 62), none⟩ <|
       .done)) <|
    .region [⟨(some 34), .mov (.t 9), none⟩,
      ⟨(some 35), .bin .add (.t 34) (.c (.int .i64 1)), none⟩,
      ⟨(some 9), .mov (.t 35), none⟩])
  (.skip), []⟩
theorem c26 : Code1 Try.prog 26 65 b26 := Code1.mk' Try.func26 (by kernel_rfl) (by kernel_rfl) Try.ntmps26

/-- slices.choosePivotOrdered[int] -/
def b27 : IFn := ⟨
 .seq
 (.region [⟨(some 6), .mov (.c (.int .i64 0)), none⟩,
    ⟨(some 7), .mov (.c (.int .i64 0)), none⟩]) <|
 .seq
 (.region [⟨(some 13), .mov (.t 2), none⟩,
    ⟨(some 14), .mov (.t 1), none⟩,
    ⟨(some 15), .bin .sub (.t 13) (.t 14), none⟩,
    ⟨(some 8), .mov (.t 15), none⟩]) <|
 .seq
 (.region [⟨(some 9), .alloc [(.int .i64 0)], none⟩]) <|
 .seq
 (.region [⟨(some 16), .mov (.t 1), none⟩,
    ⟨(some 17), .mov (.t 8), none⟩,
    ⟨(some 18), .bin .quo (.t 17) (.c (.int .i64 4)), none⟩,
    ⟨(some 19), .bin .mul (.t 18) (.c (.int .i64 1)), none⟩,
    ⟨(some 20), .bin .add (.t 16) (.t 19), none⟩,
    ⟨(some 10), .mov (.t 20), none⟩]) <|
 .seq
 (.region [⟨(some 21), .mov (.t 1), none⟩,
    ⟨(some 22), .mov (.t 8), none⟩,
    ⟨(some 23), .bin .quo (.t 22) (.c (.int .i64 4)), none⟩,
    ⟨(some 24), .bin .mul (.t 23) (.c (.int .i64 2)), none⟩,
    ⟨(some 25), .bin .add (.t 21) (.t 24), none⟩,
    ⟨(some 11), .mov (.t 25), none⟩]) <|
 .seq
 (.region [⟨(some 26), .mov (.t 1), none⟩,
    ⟨(some 27), .mov (.t 8), none⟩,
    ⟨(some 28), .bin .quo (.t 27) (.c (.int .i64 4)), none⟩,
    ⟨(some 29), .bin .mul (.t 28) (.c (.int .i64 3)), none⟩,
    ⟨(some 30), .bin .add (.t 26) (.t 29), none⟩,
    ⟨(some 12), .mov (.t 30), none⟩]) <|
 .seq
 (.seq
  (.region [⟨(some 31), .mov (.t 8), none⟩,
     ⟨(some 32), .bin .geq (.t 31) (.c (.int .i64 8)), none⟩]) <|
  .cond (.t 32)
   (.seq
    (.seq
     (.region [⟨(some 33), .mov (.t 8), none⟩,
        ⟨(some 34), .bin .geq (.t 33) (.c (.int .i64 50)), none⟩]) <|
     .cond (.t 34)
      (.seq
       (.region [⟨(some 35), .mov (.t 0), none⟩,
          ⟨(some 36), .mov (.t 10), none⟩,
          ⟨(some 37), .call (.f 38) [(.t 35), (.t 36), (.t 9)], none⟩,
          ⟨(some 10), .mov (.t 37), none⟩]) <|
       .seq
       (.region [⟨(some 38), .mov (.t 0), none⟩,
          ⟨(some 39), .mov (.t 11), none⟩,
          ⟨(some 40), .call (.f 38) [(.t 38), (.t 39), (.t 9)], none⟩,
          ⟨(some 11), .mov (.t 40), none⟩]) <|
       .region [⟨(some 41), .mov (.t 0), none⟩,
         ⟨(some 42), .mov (.t 12), none⟩,
         ⟨(some 43), .call (.f 38) [(.t 41), (.t 42), (.t 9)], none⟩,
         ⟨(some 12), .mov (.t 43), none⟩])
      (.skip)) <|
    .region [⟨(some 44), .mov (.t 0), none⟩,
      ⟨(some 45), .mov (.t 10), none⟩,
      ⟨(some 46), .mov (.t 11), none⟩,
      ⟨(some 47), .mov (.t 12), none⟩,
      ⟨(some 48), .call (.f 39) [(.t 44), (.t 45), (.t 46), (.t 47), (.t 9)], none⟩,
      ⟨(some 11), .mov (.t 48), none⟩])
   (.skip)) <|
 .seq
 (.region [⟨(some 49), .load false 1 (.t 9), none⟩]) <|
 .block 0 <|
 .seq
 (.region [⟨(some 52), .bin .eql (.t 49) (.c (.int .i64 0)), none⟩,
    ⟨(some 51), .mov (.t 52), none⟩]) <|
 .cond (.t 51)
  (.seq
   (.region [⟨(some 53), .mov (.t 11), none⟩,
      ⟨(some 6), .mov (.t 53), none⟩,
      ⟨(some 7), .mov (.c (.int .i64 1)), none⟩]) <|
   .ret)
  (.seq
   (.region [⟨(some 55), .bin .eql (.t 49) (.c (.int .i64 12)), none⟩,
      ⟨(some 54), .mov (.t 55), none⟩]) <|
   .cond (.t 54)
    (.seq
     (.region [⟨(some 56), .mov (.t 11), none⟩,
        ⟨(some 6), .mov (.t 56), none⟩,
        ⟨(some 7), .mov (.c (.int .i64 2)), none⟩]) <|
     .ret)
    (.seq
     (.region [⟨(some 50), .mov (.t 11), none⟩,
        ⟨(some 6), .mov (.t 50), none⟩,
        ⟨(some 7), .mov (.c (.int .i64 0)), none⟩]) <|
     .ret)), [.slot 6, .slot 7]⟩
theorem c27 : Code1 Try.prog 27 57 b27 := Code1.mk' Try.func27 (by kernel_rfl) (by kernel_rfl) Try.ntmps27

/-- slices.reverseRangeOrdered[int] -/
def b28 : IFn := ⟨
 .seq
 (.region [⟨(some 8), .mov (.t 1), none⟩,
    ⟨(some 6), .mov (.t 8), none⟩]) <|
 .seq
 (.region [⟨(some 9), .mov (.t 2), none⟩,
    ⟨(some 10), .bin .sub (.t 9) (.c (.int .i64 1)), none⟩,
    ⟨(some 7), .mov (.t 10), none⟩]) <|
 .block 0 <|
 .loop [0, 6, 7] <|
  .seq
  (.seq
   (.region [⟨(some 11), .mov (.t 6), none⟩,
      ⟨(some 12), .mov (.t 7), none⟩,
      ⟨(some 13), .bin .lss (.t 11) (.t 12), none⟩]) <|
   .cond (.t 13)
    (.skip)
    (.exit 0)) <|
  .block 1 <|
  .seq
  (.draw false [0, 6, 7] (
     .op ⟨(some 14), .mov (.t 0), none⟩ <|
     .op ⟨(some 15), .mov (.t 6), none⟩ <|
     .op ⟨(some 16), .mov (.t 0), none⟩ <|
     .op ⟨(some 17), .mov (.t 7), none⟩ <|
     .op ⟨(some 18), .mov (.t 0), none⟩ <|
     .op ⟨(some 19), .mov (.t 7), none⟩ <|
     .op ⟨(some 20), .iaddr 1 (.t 18) (.t 19), none⟩ <|
     .op ⟨(some 21), .load false 1 (.t 20), none⟩ <|
     .op ⟨(some 22), .mov (.t 0), none⟩ <|
     .op ⟨(some 23), .mov (.t 6), none⟩ <|
     .op ⟨(some 24), .iaddr 1 (.t 22) (.t 23), none⟩ <|
     .op ⟨(some 25), .load false 1 (.t 24), none⟩ <|
     .op ⟨(some 26), .iaddr 1 (.t 14) (.t 15), none⟩ <|
     .op ⟨none, .store 1 (.t 26) (.t 21), none⟩ <|
     .op ⟨(some 27), .iaddr 1 (.t 16) (.t 17), none⟩ <|
     .op ⟨none, .store 1 (.t 27) (.t 25), none⟩ <|
     .done)) <|
  .seq
  (.region [⟨(some 28), .mov (.t 6), none⟩,
     ⟨(some 29), .bin .add (.t 28) (.c (.int .i64 1)), none⟩,
     ⟨(some 6), .mov (.t 29), none⟩]) <|
  .region [⟨(some 30), .mov (.t 7), none⟩,
    ⟨(some 31), .bin .sub (.t 30) (.c (.int .i64 1)), none⟩,
    ⟨(some 7), .mov (.t 31), none⟩], []⟩
theorem c28 : Code1 Try.prog 28 32 b28 := Code1.mk' Try.func28 (by kernel_rfl) (by kernel_rfl) Try.ntmps28

/-- slices.partialInsertionSortOrdered[int] -/
def b29 : IFn := ⟨
 .seq
 (.region [⟨(some 6), .mov (.c (.bool false)), none⟩]) <|
 .seq
 (.region [⟨(some 11), .mov (.t 1), none⟩,
    ⟨(some 12), .bin .add (.t 11) (.c (.int .i64 1)), none⟩,
    ⟨(some 7), .mov (.t 12), none⟩]) <|
 .seq
 (.seq
  (.region [⟨(some 8), .mov (.c (.int .i64 0)), none⟩]) <|
  .block 0 <|
  .loop [0, 1, 2, 7, 8] <|
   .seq
   (.seq
    (.region [⟨(some 13), .mov (.t 8), none⟩,
       ⟨(some 14), .bin .lss (.t 13) (.c (.int .i64 5)), none⟩]) <|
    .cond (.t 14)
     (.skip)
     (.exit 0)) <|
   .seq
   (.block 1 <|
    .seq
    (.block 2 <|
     .loop [0, 1, 2, 7, 8] <|
      .seq
      (.seq
       (.draw false [0, 1, 2, 7, 8, 32] (
          .op ⟨(some 17), .mov (.t 7), none⟩ <|
          .op ⟨(some 18), .mov (.t 2), none⟩ <|
          .op ⟨(some 19), .bin .lss (.t 17) (.t 18), none⟩ <|
          .op ⟨(some 20), .mov (.t 19), none⟩ <|
          .op ⟨(some 21), .mov (.t 0), (some (20, true))⟩ <|
          .op ⟨(some 22), .mov (.t 7), (some (20, true))⟩ <|
          .op ⟨(some 23), .iaddr 1 (.t 21) (.t 22), (some (20, true))⟩ <|
          .op ⟨(some 24), .load false 1 (.t 23), (some (20, true))⟩ <|
          .op ⟨(some 25), .mov (.t 0), (some (20, true))⟩ <|
          .op ⟨(some 26), .mov (.t 7), (some (20, true))⟩ <|
          .op ⟨(some 27), .bin .sub (.t 26) (.c (.int .i64 1)), (some (20, true))⟩ <|
          .op ⟨(some 28), .iaddr 1 (.t 25) (.t 27), (some (20, true))⟩ <|
          .op ⟨(some 29), .load false 1 (.t 28), (some (20, true))⟩ <|
          .op ⟨(some 30), .call (.f 30) [(.t 24), (.t 29)], (some (20, true))⟩ <|
          .op ⟨(some 31), .un .not (.t 30), (some (20, true))⟩ <|
          .op ⟨(some 32), .pick (.t 20) (.t 31) (.c (.bool false)), none⟩ <|
          .done)) <|
       .cond (.t 32)
        (.skip)
        (.exit 2)) <|
      .block 3 <|
      .region [⟨(some 33), .mov (.t 7), none⟩,
        ⟨(some 34), .bin .add (.t 33) (.c (.int .i64 1)), none⟩,
        ⟨(some 7), .mov (.t 34), none⟩]) <|
    .seq
    (.seq
     (.region [⟨(some 35), .mov (.t 7), none⟩,
        ⟨(some 36), .mov (.t 2), none⟩,
        ⟨(some 37), .bin .eql (.t 35) (.t 36), none⟩]) <|
     .cond (.t 37)
      (.seq
       (.region [⟨(some 6), .mov (.c (.bool true)), none⟩]) <|
       .ret)
      (.skip)) <|
    .seq
    (.seq
     (.region [⟨(some 38), .mov (.t 2), none⟩,
        ⟨(some 39), .mov (.t 1), none⟩,
        ⟨(some 40), .bin .sub (.t 38) (.t 39), none⟩,
        ⟨(some 41), .bin .lss (.t 40) (.c (.int .i64 50)), none⟩]) <|
     .cond (.t 41)
      (.seq
       (.region [⟨(some 6), .mov (.c (.bool false)), none⟩]) <|
       .ret)
      (.skip)) <|
    .seq
    (.draw false [0, 1, 2, 7, 8] (
       .op ⟨(some 42), .mov (.t 0), none⟩ <|
       .op ⟨(some 43), .mov (.t 7), none⟩ <|
       .op ⟨(some 44), .mov (.t 0), none⟩ <|
       .op ⟨(some 45), .mov (.t 7), none⟩ <|
       .op ⟨(some 46), .bin .sub (.t 45) (.c (.int .i64 1)), none⟩ <|
       .op ⟨(some 47), .mov (.t 0), none⟩ <|
       .op ⟨(some 48), .mov (.t 7), none⟩ <|
       .op ⟨(some 49), .bin .sub (.t 48) (.c (.int .i64 1)), none⟩ <|
       .op ⟨(some 50), .iaddr 1 (.t 47) (.t 49), none⟩ <|
       .op ⟨(some 51), .load false 1 (.t 50), none⟩ <|
       .op ⟨(some 52), .mov (.t 0), none⟩ <|
       .op ⟨(some 53), .mov (.t 7), none⟩ <|
       .op ⟨(some 54), .iaddr 1 (.t 52) (.t 53), none⟩ <|
       .op ⟨(some 55), .load false 1 (.t 54), none⟩ <|
       .op ⟨(some 56), .iaddr 1 (.t 42) (.t 43), none⟩ <|
       .op ⟨none, .store 1 (.t 56) (.t 51), none⟩ <|
       .op ⟨(some 57), .iaddr 1 (.t 44) (.t 46), none⟩ <|
       .op ⟨none, .store 1 (.t 57) (.t 55), none⟩ <|
       .done)) <|
    .seq
    (.seq
     (.region [⟨(some 58), .mov (.t 7), none⟩,
        ⟨(some 59), .mov (.t 1), none⟩,
        ⟨(some 60), .bin .sub (.t 58) (.t 59), none⟩,
        ⟨(some 61), .bin .geq (.t 60) (.c (.int .i64 2)), none⟩]) <|
     .cond (.t 61)
      (.seq
       (.region [⟨(some 62), .mov (.t 7), none⟩,
          ⟨(some 63), .bin .sub (.t 62) (.c (.int .i64 1)), none⟩,
          ⟨(some 9), .mov (.t 63), none⟩]) <|
       .block 4 <|
       .loop [0, 1, 2, 7, 8, 9] <|
        .seq
        (.seq
         (.region [⟨(some 64), .mov (.t 9), none⟩,
            ⟨(some 65), .bin .geq (.t 64) (.c (.int .i64 1)), none⟩]) <|
         .cond (.t 65)
          (.skip)
          (.exit 4)) <|
        .seq
        (.block 5 <|
         .seq
         (.seq
          (.draw false [0, 1, 2, 7, 8, 9, 78] (
             .op ⟨(some 68), .mov (.t 0), none⟩ <|
             .op ⟨(some 69), .mov (.t 9), none⟩ <|
             .op ⟨(some 70), .iaddr 1 (.t 68) (.t 69), none⟩ <|
             .op ⟨(some 71), .load false 1 (.t 70), none⟩ <|
             .op ⟨(some 72), .mov (.t 0), none⟩ <|
             .op ⟨(some 73), .mov (.t 9), none⟩ <|
             .op ⟨(some 74), .bin .sub (.t 73) (.c (.int .i64 1)), none⟩ <|
             .op ⟨(some 75), .iaddr 1 (.t 72) (.t 74), none⟩ <|
             .op ⟨(some 76), .load false 1 (.t 75), none⟩ <|
             .op ⟨(some 77), .call (.f 30) [(.t 71), (.t 76)], none⟩ <|
             .op ⟨(some 78), .un .not (.t 77), none⟩ <|
             .done)) <|
          .cond (.t 78)
           (.exit 4)
           (.skip)) <|
         .draw false [0, 1, 2, 7, 8, 9] (
           .op ⟨(some 79), .mov (.t 0), none⟩ <|
           .op ⟨(some 80), .mov (.t 9), none⟩ <|
           .op ⟨(some 81), .mov (.t 0), none⟩ <|
           .op ⟨(some 82), .mov (.t 9), none⟩ <|
           .op ⟨(some 83), .bin .sub (.t 82) (.c (.int .i64 1)), none⟩ <|
           .op ⟨(some 84), .mov (.t 0), none⟩ <|
           .op ⟨(some 85), .mov (.t 9), none⟩ <|
           .op ⟨(some 86), .bin .sub (.t 85) (.c (.int .i64 1)), none⟩ <|
           .op ⟨(some 87), .iaddr 1 (.t 84) (.t 86), none⟩ <|
           .op ⟨(some 88), .load false 1 (.t 87), none⟩ <|
           .op ⟨(some 89), .mov (.t 0), none⟩ <|
           .op ⟨(some 90), .mov (.t 9), none⟩ <|
           .op ⟨(some 91), .iaddr 1 (.t 89) (.t 90), none⟩ <|
           .op ⟨(some 92), .load false 1 (.t 91), none⟩ <|
           .op ⟨(some 93), .iaddr 1 (.t 79) (.t 80), none⟩ <|
           .op ⟨none, .store 1 (.t 93) (.t 88), none⟩ <|
           .op ⟨(some 94), .iaddr 1 (.t 81) (.t 83), none⟩ <|
           .op ⟨none, .store 1 (.t 94) (.t 92), none⟩ <|
           .done)) <|
        .region [⟨(some 66), .mov (.t 9), none⟩,
          ⟨(some 67), .bin .sub (.t 66) (.c (.int .i64 1)), none⟩,
          ⟨(some 9), .mov (.t 67), none⟩])
      (.skip)) <|
    .seq
    (.region [⟨(some 95), .mov (.t 2), none⟩,
       ⟨(some 96), .mov (.t 7), none⟩,
       ⟨(some 97), .bin .sub (.t 95) (.t 96), none⟩,
       ⟨(some 98), .bin .geq (.t 97) (.c (.int .i64 2)), none⟩]) <|
    .cond (.t 98)
     (.seq
      (.region [⟨(some 99), .mov (.t 7), none⟩,
         ⟨(some 100), .bin .add (.t 99) (.c (.int .i64 1)), none⟩,
         ⟨(some 10), .mov (.t 100), none⟩]) <|
      .block 6 <|
      .loop [0, 1, 2, 7, 8, 10] <|
       .seq
       (.seq
        (.region [⟨(some 101), .mov (.t 10), none⟩,
           ⟨(some 102), .mov (.t 2), none⟩,
           ⟨(some 103), .bin .lss (.t 101) (.t 102), none⟩]) <|
        .cond (.t 103)
         (.skip)
         (.exit 6)) <|
       .seq
       (.block 7 <|
        .seq
        (.seq
         (.draw false [0, 1, 2, 7, 8, 10, 116] (
            .op ⟨(some 106), .mov (.t 0), none⟩ <|
            .op ⟨(some 107), .mov (.t 10), none⟩ <|
            .op ⟨(some 108), .iaddr 1 (.t 106) (.t 107), none⟩ <|
            .op ⟨(some 109), .load false 1 (.t 108), none⟩ <|
            .op ⟨(some 110), .mov (.t 0), none⟩ <|
            .op ⟨(some 111), .mov (.t 10), none⟩ <|
            .op ⟨(some 112), .bin .sub (.t 111) (.c (.int .i64 1)), none⟩ <|
            .op ⟨(some 113), .iaddr 1 (.t 110) (.t 112), none⟩ <|
            .op ⟨(some 114), .load false 1 (.t 113), none⟩ <|
            .op ⟨(some 115), .call (.f 30) [(.t 109), (.t 114)], none⟩ <|
            .op ⟨(some 116), .un .not (.t 115), none⟩ <|
            .done)) <|
         .cond (.t 116)
          (.exit 6)
          (.skip)) <|
        .draw false [0, 1, 2, 7, 8, 10] (
          .op ⟨(some 117), .mov (.t 0), none⟩ <|
          .op ⟨(some 118), .mov (.t 10), none⟩ <|
          .op ⟨(some 119), .mov (.t 0), none⟩ <|
          .op ⟨(some 120), .mov (.t 10), none⟩ <|
          .op ⟨(some 121), .bin .sub (.t 120) (.c (.int .i64 1)), none⟩ <|
          .op ⟨(some 122), .mov (.t 0), none⟩ <|
          .op ⟨(some 123), .mov (.t 10), none⟩ <|
          .op ⟨(some 124), .bin .sub (.t 123) (.c (.int .i64 1)), none⟩ <|
          .op ⟨(some 125), .iaddr 1 (.t 122) (.t 124), none⟩ <|
          .op ⟨(some 126), .load false 1 (.t 125), none⟩ <|
          .op ⟨(some 127), .mov (.t 0), none⟩ <|
          .op ⟨(some 128), .mov (.t 10), none⟩ <|
          .op ⟨(some 129), .iaddr 1 (.t 127) (.t 128), none⟩ <|
          .op ⟨(some 130), .load false 1 (.t 129), none⟩ <|
          .op ⟨(some 131), .iaddr 1 (.t 117) (.t 118), none⟩ <|
          .op ⟨none, .store 1 (.t 131) (.t 126), none⟩ <|
          .op ⟨(some 132), .iaddr 1 (.t 119) (.t 121), none⟩ <|
          .op ⟨none, .store 1 (.t 132) (.t 130), none⟩ <|
          .done)) <|
       .region [⟨(some 104), .mov (.t 10), none⟩,
         ⟨(some 105), .bin .add (.t 104) (.c (.int .i64 1)), none⟩,
         ⟨(some 10), .mov (.t 105), none⟩])
     (.skip)) <|
   .region [⟨(some 15), .mov (.t 8), none⟩,
     ⟨(some 16), .bin .add (.t 15) (.c (.int .i64 1)), none⟩,
     ⟨(some 8), .mov (.t 16), none⟩]) <|
 .seq
 (.region [⟨(some 6), .mov (.c (.bool false)), none⟩]) <|
 .ret, [.slot 6]⟩
theorem c29 : Code1 Try.prog 29 133 b29 := Code1.mk' Try.func29 (by kernel_rfl) (by kernel_rfl) Try.ntmps29

/-- cmp.Less[int] -/
def b30 : IFn := ⟨
 .seq
 (.region [⟨(some 4), .mov (.c (.bool false)), none⟩]) <|
 .seq
 (.region [⟨(some 5), .mov (.t 0), none⟩,
    ⟨(some 6), .call (.f 40) [(.t 5)], none⟩,
    ⟨(some 7), .mov (.t 6), none⟩,
    ⟨(some 8), .mov (.t 1), (some (7, true))⟩,
    ⟨(some 9), .call (.f 40) [(.t 8)], (some (7, true))⟩,
    ⟨(some 10), .un .not (.t 9), (some (7, true))⟩,
    ⟨(some 11), .pick (.t 7) (.t 10) (.c (.bool false)), none⟩,
    ⟨(some 12), .mov (.t 11), none⟩,
    ⟨(some 13), .mov (.t 0), (some (12, false))⟩,
    ⟨(some 14), .mov (.t 1), (some (12, false))⟩,
    ⟨(some 15), .bin .lss (.t 13) (.t 14), (some (12, false))⟩,
    ⟨(some 16), .pick (.t 12) (.c (.bool true)) (.t 15), none⟩,
    ⟨(some 4), .mov (.t 16), none⟩]) <|
 .ret, [.slot 4]⟩
theorem c30 : Code1 Try.prog 30 17 b30 := Code1.mk' Try.func30 (by kernel_rfl) (by kernel_rfl) Try.ntmps30

/-- slices.partitionEqualOrdered[int] -/
def b31 : IFn := ⟨
 .seq
 (.region [⟨(some 8), .mov (.c (.int .i64 0)), none⟩]) <|
 .seq
 (.draw false [0, 1, 2] (
    .op ⟨(some 11), .mov (.t 0), none⟩ <|
    .op ⟨(some 12), .mov (.t 1), none⟩ <|
    .op ⟨(some 13), .mov (.t 0), none⟩ <|
    .op ⟨(some 14), .mov (.t 3), none⟩ <|
    .op ⟨(some 15), .mov (.t 0), none⟩ <|
    .op ⟨(some 16), .mov (.t 3), none⟩ <|
    .op ⟨(some 17), .iaddr 1 (.t 15) (.t 16), none⟩ <|
    .op ⟨(some 18), .load false 1 (.t 17), none⟩ <|
    .op ⟨(some 19), .mov (.t 0), none⟩ <|
    .op ⟨(some 20), .mov (.t 1), none⟩ <|
    .op ⟨(some 21), .iaddr 1 (.t 19) (.t 20), none⟩ <|
    .op ⟨(some 22), .load false 1 (.t 21), none⟩ <|
    .op ⟨(some 23), .iaddr 1 (.t 11) (.t 12), none⟩ <|
    .op ⟨none, .store 1 (.t 23) (.t 18), none⟩ <|
    .op ⟨(some 24), .iaddr 1 (.t 13) (.t 14), none⟩ <|
    .op ⟨none, .store 1 (.t 24) (.t 22), none⟩ <|
    .done)) <|
 .seq
 (.region [⟨(some 25), .mov (.t 1), none⟩,
    ⟨(some 26), .bin .add (.t 25) (.c (.int .i64 1)), none⟩,
    ⟨(some 27), .mov (.t 2), none⟩,
    ⟨(some 28), .bin .sub (.t 27) (.c (.int .i64 1)), none⟩,
    ⟨(some 9), .mov (.t 26), none⟩,
    ⟨(some 10), .mov (.t 28), none⟩]) <|
 .seq
 (.block 0 <|
  .loop [0, 1, 9, 10] <|
   .block 1 <|
   .seq
   (.block 2 <|
    .loop [0, 1, 9, 10] <|
     .seq
     (.seq
      (.draw false [0, 1, 9, 10, 43] (
         .op ⟨(some 29), .mov (.t 9), none⟩ <|
         .op ⟨(some 30), .mov (.t 10), none⟩ <|
         .op ⟨(some 31), .bin .leq (.t 29) (.t 30), none⟩ <|
         .op ⟨(some 32), .mov (.t 31), none⟩ <|
         .op ⟨(some 33), .mov (.t 0), (some (32, true))⟩ <|
         .op ⟨(some 34), .mov (.t 1), (some (32, true))⟩ <|
         .op ⟨(some 35), .iaddr 1 (.t 33) (.t 34), (some (32, true))⟩ <|
         .op ⟨(some 36), .load false 1 (.t 35), (some (32, true))⟩ <|
         .op ⟨(some 37), .mov (.t 0), (some (32, true))⟩ <|
         .op ⟨(some 38), .mov (.t 9), (some (32, true))⟩ <|
         .op ⟨(some 39), .iaddr 1 (.t 37) (.t 38), (some (32, true))⟩ <|
         .op ⟨(some 40), .load false 1 (.t 39), (some (32, true))⟩ <|
         .op ⟨(some 41), .call (.f 30) [(.t 36), (.t 40)], (some (32, true))⟩ <|
         .op ⟨(some 42), .un .not (.t 41), (some (32, true))⟩ <|
         .op ⟨(some 43), .pick (.t 32) (.t 42) (.c (.bool false)), none⟩ <|
         .done)) <|
      .cond (.t 43)
       (.skip)
       (.exit 2)) <|
     .block 3 <|
     .region [⟨(some 44), .mov (.t 9), none⟩,
       ⟨(some 45), .bin .add (.t 44) (.c (.int .i64 1)), none⟩,
       ⟨(some 9), .mov (.t 45), none⟩]) <|
   .seq
   (.block 4 <|
    .loop [0, 1, 9, 10] <|
     .seq
     (.seq
      (.draw false [0, 1, 9, 10, 59] (
         .op ⟨(some 46), .mov (.t 9), none⟩ <|
         .op ⟨(some 47), .mov (.t 10), none⟩ <|
         .op ⟨(some 48), .bin .leq (.t 46) (.t 47), none⟩ <|
         .op ⟨(some 49), .mov (.t 48), none⟩ <|
         .op ⟨(some 50), .mov (.t 0), (some (49, true))⟩ <|
         .op ⟨(some 51), .mov (.t 1), (some (49, true))⟩ <|
         .op ⟨(some 52), .iaddr 1 (.t 50) (.t 51), (some (49, true))⟩ <|
         .op ⟨(some 53), .load false 1 (.t 52), (some (49, true))⟩ <|
         .op ⟨(some 54), .mov (.t 0), (some (49, true))⟩ <|
         .op ⟨(some 55), .mov (.t 10), (some (49, true))⟩ <|
         .op ⟨(some 56), .iaddr 1 (.t 54) (.t 55), (some (49, true))⟩ <|
         .op ⟨(some 57), .load false 1 (.t 56), (some (49, true))⟩ <|
         .op ⟨(some 58), .call (.f 30) [(.t 53), (.t 57)], (some (49, true))⟩ <|
         .op ⟨(some 59), .pick (.t 49) (.t 58) (.c (.bool false)), none⟩ <|
         .done)) <|
      .cond (.t 59)
       (.skip)
       (.exit 4)) <|
     .block 5 <|
     .region [⟨(some 60), .mov (.t 10), none⟩,
       ⟨(some 61), .bin .sub (.t 60) (.c (.int .i64 1)), none⟩,
       ⟨(some 10), .mov (.t 61), none⟩]) <|
   .seq
   (.seq
    (.region [⟨(some 62), .mov (.t 9), none⟩,
       ⟨(some 63), .mov (.t 10), none⟩,
       ⟨(some 64), .bin .gtr (.t 62) (.t 63), none⟩]) <|
    .cond (.t 64)
     (.exit 0)
     (.skip)) <|
   .seq
   (.draw false [0, 1, 9, 10] (
      .op ⟨(some 65), .mov (.t 0), none⟩ <|
      .op ⟨(some 66), .mov (.t 9), none⟩ <|
      .op ⟨(some 67), .mov (.t 0), none⟩ <|
      .op ⟨(some 68), .mov (.t 10), none⟩ <|
      .op ⟨(some 69), .mov (.t 0), none⟩ <|
      .op ⟨(some 70), .mov (.t 10), none⟩ <|
      .op ⟨(some 71), .iaddr 1 (.t 69) (.t 70), none⟩ <|
      .op ⟨(some 72), .load false 1 (.t 71), none⟩ <|
      .op ⟨(some 73), .mov (.t 0), none⟩ <|
      .op ⟨(some 74), .mov (.t 9), none⟩ <|
      .op ⟨(some 75), .iaddr 1 (.t 73) (.t 74), none⟩ <|
      .op ⟨(some 76), .load false 1 (.t 75), none⟩ <|
      .op ⟨(some 77), .iaddr 1 (.t 65) (.t 66), none⟩ <|
      .op ⟨none, .store 1 (.t 77) (.t 72), none⟩ <|
      .op ⟨(some 78), .iaddr 1 (.t 67) (.t 68), none⟩ <|
      .op ⟨none, .store 1 (.t 78) (.t 76), none⟩ <|
      .done)) <|
   .seq
   (.region [⟨(some 79), .mov (.t 9), none⟩,
      ⟨(some 80), .bin .add (.t 79) (.c (.int .i64 1)), none⟩,
      ⟨(some 9), .mov (.t 80), none⟩]) <|
   .region [⟨(some 81), .mov (.t 10), none⟩,
     ⟨(some 82), .bin .sub (.t 81) (.c (.int .i64 1)), none⟩,
     ⟨(some 10), .mov (.t 82), none⟩]) <|
 .seq
 (.region [⟨(some 83), .mov (.t 9), none⟩,
    ⟨(some 8), .mov (.t 83), none⟩]) <|
 .ret, [.slot 8]⟩
theorem c31 : Code1 Try.prog 31 84 b31 := Code1.mk' Try.func31 (by kernel_rfl) (by kernel_rfl) Try.ntmps31

/-- slices.partitionOrdered[int] -/
def b32 : IFn := ⟨
 .seq
 (.region [⟨(some 8), .mov (.c (.int .i64 0)), none⟩,
    ⟨(some 9), .mov (.c (.bool false)), none⟩]) <|
 .seq
 (.draw false [0, 1, 2] (
    .op ⟨(some 12), .mov (.t 0), none⟩ <|
    .op ⟨(some 13), .mov (.t 1), none⟩ <|
    .op ⟨(some 14), .mov (.t 0), none⟩ <|
    .op ⟨(some 15), .mov (.t 3), none⟩ <|
    .op ⟨(some 16), .mov (.t 0), none⟩ <|
    .op ⟨(some 17), .mov (.t 3), none⟩ <|
    .op ⟨(some 18), .iaddr 1 (.t 16) (.t 17), none⟩ <|
    .op ⟨(some 19), .load false 1 (.t 18), none⟩ <|
    .op ⟨(some 20), .mov (.t 0), none⟩ <|
    .op ⟨(some 21), .mov (.t 1), none⟩ <|
    .op ⟨(some 22), .iaddr 1 (.t 20) (.t 21), none⟩ <|
    .op ⟨(some 23), .load false 1 (.t 22), none⟩ <|
    .op ⟨(some 24), .iaddr 1 (.t 12) (.t 13), none⟩ <|
    .op ⟨none, .store 1 (.t 24) (.t 19), none⟩ <|
    .op ⟨(some 25), .iaddr 1 (.t 14) (.t 15), none⟩ <|
    .op ⟨none, .store 1 (.t 25) (.t 23), none⟩ <|
    .done)) <|
 .seq
 (.region [⟨(some 26), .mov (.t 1), none⟩,
    ⟨(some 27), .bin .add (.t 26) (.c (.int .i64 1)), none⟩,
    ⟨(some 28), .mov (.t 2), none⟩,
    ⟨(some 29), .bin .sub (.t 28) (.c (.int .i64 1)), none⟩,
    ⟨(some 10), .mov (.t 27), none⟩,
    ⟨(some 11), .mov (.t 29), none⟩]) <|
 .seq
 (.block 0 <|
  .loop [0, 1, 10, 11] <|
   .seq
   (.seq
    (.draw false [0, 1, 10, 11, 43] (
       .op ⟨(some 30), .mov (.t 10), none⟩ <|
       .op ⟨(some 31), .mov (.t 11), none⟩ <|
       .op ⟨(some 32), .bin .leq (.t 30) (.t 31), none⟩ <|
       .op ⟨(some 33), .mov (.t 32), none⟩ <|
       .op ⟨(some 34), .mov (.t 0), (some (33, true))⟩ <|
       .op ⟨(some 35), .mov (.t 10), (some (33, true))⟩ <|
       .op ⟨(some 36), .iaddr 1 (.t 34) (.t 35), (some (33, true))⟩ <|
       .op ⟨(some 37), .load false 1 (.t 36), (some (33, true))⟩ <|
       .op ⟨(some 38), .mov (.t 0), (some (33, true))⟩ <|
       .op ⟨(some 39), .mov (.t 1), (some (33, true))⟩ <|
       .op ⟨(some 40), .iaddr 1 (.t 38) (.t 39), (some (33, true))⟩ <|
       .op ⟨(some 41), .load false 1 (.t 40), (some (33, true))⟩ <|
       .op ⟨(some 42), .call (.f 30) [(.t 37), (.t 41)], (some (33, true))⟩ <|
       .op ⟨(some 43), .pick (.t 33) (.t 42) (.c (.bool false)), none⟩ <|
       .done)) <|
    .cond (.t 43)
     (.skip)
     (.exit 0)) <|
   .block 1 <|
   .region [⟨(some 44), .mov (.t 10), none⟩,
     ⟨(some 45), .bin .add (.t 44) (.c (.int .i64 1)), none⟩,
     ⟨(some 10), .mov (.t 45), none⟩]) <|
 .seq
 (.block 2 <|
  .loop [0, 1, 10, 11] <|
   .seq
   (.seq
    (.draw false [0, 1, 10, 11, 60] (
       .op ⟨(some 46), .mov (.t 10), none⟩ <|
       .op ⟨(some 47), .mov (.t 11), none⟩ <|
       .op ⟨(some 48), .bin .leq (.t 46) (.t 47), none⟩ <|
       .op ⟨(some 49), .mov (.t 48), none⟩ <|
       .op ⟨(some 50), .mov (.t 0), (some (49, true))⟩ <|
       .op ⟨(some 51), .mov (.t 11), (some (49, true))⟩ <|
       .op ⟨(some 52), .iaddr 1 (.t 50) (.t 51), (some (49, true))⟩ <|
       .op ⟨(some 53), .load false 1 (.t 52), (some (49, true))⟩ <|
       .op ⟨(some 54), .mov (.t 0), (some (49, true))⟩ <|
       .op ⟨(some 55), .mov (.t 1), (some (49, true))⟩ <|
       .op ⟨(some 56), .iaddr 1 (.t 54) (.t 55), (some (49, true))⟩ <|
       .op ⟨(some 57), .load false 1 (.t 56), (some (49, true))⟩ <|
       .op ⟨(some 58), .call (.f 30) [(.t 53), (.t 57)], (some (49, true))⟩ <|
       .op ⟨(some 59), .un .not (.t 58), (some (49, true))⟩ <|
       .op ⟨(some 60), .pick (.t 49) (.t 59) (.c (.bool false)), none⟩ <|
       .done)) <|
    .cond (.t 60)
     (.skip)
     (.exit 2)) <|
   .block 3 <|
   .region [⟨(some 61), .mov (.t 11), none⟩,
     ⟨(some 62), .bin .sub (.t 61) (.c (.int .i64 1)), none⟩,
     ⟨(some 11), .mov (.t 62), none⟩]) <|
 .seq
 (.seq
  (.region [⟨(some 63), .mov (.t 10), none⟩,
     ⟨(some 64), .mov (.t 11), none⟩,
     ⟨(some 65), .bin .gtr (.t 63) (.t 64), none⟩]) <|
  .cond (.t 65)
   (.seq
    (.draw false [11] (
       .op ⟨(some 66), .mov (.t 0), none⟩ <|
       .op ⟨(some 67), .mov (.t 11), none⟩ <|
       .op ⟨(some 68), .mov (.t 0), none⟩ <|
       .op ⟨(some 69), .mov (.t 1), none⟩ <|
       .op ⟨(some 70), .mov (.t 0), none⟩ <|
       .op ⟨(some 71), .mov (.t 1), none⟩ <|
       .op ⟨(some 72), .iaddr 1 (.t 70) (.t 71), none⟩ <|
       .op ⟨(some 73), .load false 1 (.t 72), none⟩ <|
       .op ⟨(some 74), .mov (.t 0), none⟩ <|
       .op ⟨(some 75), .mov (.t 11), none⟩ <|
       .op ⟨(some 76), .iaddr 1 (.t 74) (.t 75), none⟩ <|
       .op ⟨(some 77), .load false 1 (.t 76), none⟩ <|
       .op ⟨(some 78), .iaddr 1 (.t 66) (.t 67), none⟩ <|
       .op ⟨none, .store 1 (.t 78) (.t 73), none⟩ <|
       .op ⟨(some 79), .iaddr 1 (.t 68) (.t 69), none⟩ <|
       .op ⟨none, .store 1 (.t 79) (.t 77), none⟩ <|
       .done)) <|
    .seq
    (.region [⟨(some 80), .mov (.t 11), none⟩,
       ⟨(some 8), .mov (.t 80), none⟩,
       ⟨(some 9), .mov (.c (.bool true)), none⟩]) <|
    .ret)
   (.skip)) <|
 .seq
 (.draw false [0, 1, 10, 11] (
    .op ⟨(some 81), .mov (.t 0), none⟩ <|
    .op ⟨(some 82), .mov (.t 10), none⟩ <|
    .op ⟨(some 83), .mov (.t 0), none⟩ <|
    .op ⟨(some 84), .mov (.t 11), none⟩ <|
    .op ⟨(some 85), .mov (.t 0), none⟩ <|
    .op ⟨(some 86), .mov (.t 11), none⟩ <|
    .op ⟨(some 87), .iaddr 1 (.t 85) (.t 86), none⟩ <|
    .op ⟨(some 88), .load false 1 (.t 87), none⟩ <|
    .op ⟨(some 89), .mov (.t 0), none⟩ <|
    .op ⟨(some 90), .mov (.t 10), none⟩ <|
    .op ⟨(some 91), .iaddr 1 (.t 89) (.t 90), none⟩ <|
    .op ⟨(some 92), .load false 1 (.t 91), none⟩ <|
    .op ⟨(some 93), .iaddr 1 (.t 81) (.t 82), none⟩ <|
    .op ⟨none, .store 1 (.t 93) (.t 88), none⟩ <|
    .op ⟨(some 94), .iaddr 1 (.t 83) (.t 84), none⟩ <|
    .op ⟨none, .store 1 (.t 94) (.t 92), none⟩ <|
    .done)) <|
 .seq
 (.region [⟨(some 95), .mov (.t 10), none⟩,
    ⟨(some 96), .bin .add (.t 95) (.c (.int .i64 1)), none⟩,
    ⟨(some 10), .mov (.t 96), none⟩]) <|
 .seq
 (.region [⟨(some 97), .mov (.t 11), none⟩,
    ⟨(some 98), .bin .sub (.t 97) (.c (.int .i64 1)), none⟩,
    ⟨(some 11), .mov (.t 98), none⟩]) <|
 .seq
 (.block 4 <|
  .loop [0, 1, 10, 11] <|
   .block 5 <|
   .seq
   (.block 6 <|
    .loop [0, 1, 10, 11] <|
     .seq
     (.seq
      (.draw false [0, 1, 10, 11, 112] (
         .op ⟨(some 99), .mov (.t 10), none⟩ <|
         .op ⟨(some 100), .mov (.t 11), none⟩ <|
         .op ⟨(some 101), .bin .leq (.t 99) (.t 100), none⟩ <|
         .op ⟨(some 102), .mov (.t 101), none⟩ <|
         .op ⟨(some 103), .mov (.t 0), (some (102, true))⟩ <|
         .op ⟨(some 104), .mov (.t 10), (some (102, true))⟩ <|
         .op ⟨(some 105), .iaddr 1 (.t 103) (.t 104), (some (102, true))⟩ <|
         .op ⟨(some 106), .load false 1 (.t 105), (some (102, true))⟩ <|
         .op ⟨(some 107), .mov (.t 0), (some (102, true))⟩ <|
         .op ⟨(some 108), .mov (.t 1), (some (102, true))⟩ <|
         .op ⟨(some 109), .iaddr 1 (.t 107) (.t 108), (some (102, true))⟩ <|
         .op ⟨(some 110), .load false 1 (.t 109), (some (102, true))⟩ <|
         .op ⟨(some 111), .call (.f 30) [(.t 106), (.t 110)], (some (102, true))⟩ <|
         .op ⟨(some 112), .pick (.t 102) (.t 111) (.c (.bool false)), none⟩ <|
         .done)) <|
      .cond (.t 112)
       (.skip)
       (.exit 6)) <|
     .block 7 <|
     .region [⟨(some 113), .mov (.t 10), none⟩,
       ⟨(some 114), .bin .add (.t 113) (.c (.int .i64 1)), none⟩,
       ⟨(some 10), .mov (.t 114), none⟩]) <|
   .seq
   (.block 8 <|
    .loop [0, 1, 10, 11] <|
     .seq
     (.seq
      (.draw false [0, 1, 10, 11, 129] (
         .op ⟨(some 115), .mov (.t 10), none⟩ <|
         .op ⟨(some 116), .mov (.t 11), none⟩ <|
         .op ⟨(some 117), .bin .leq (.t 115) (.t 116), none⟩ <|
         .op ⟨(some 118), .mov (.t 117), none⟩ <|
         .op ⟨(some 119), .mov (.t 0), (some (118, true))⟩ <|
         .op ⟨(some 120), .mov (.t 11), (some (118, true))⟩ <|
         .op ⟨(some 121), .iaddr 1 (.t 119) (.t 120), (some (118, true))⟩ <|
         .op ⟨(some 122), .load false 1 (.t 121), (some (118, true))⟩ <|
         .op ⟨(some 123), .mov (.t 0), (some (118, true))⟩ <|
         .op ⟨(some 124), .mov (.t 1), (some (118, true))⟩ <|
         .op ⟨(some 125), .iaddr 1 (.t 123) (.t 124), (some (118, true))⟩ <|
         .op ⟨(some 126), .load false 1 (.t 125), (some (118, true))⟩ <|
         .op ⟨(some 127), .call (.f 30) [(.t 122), (.t 126)], (some (118, true))⟩ <|
         .op ⟨(some 128), .un .not (.t 127), (some (118, true))⟩ <|
         .op ⟨(some 129), .pick (.t 118) (.t 128) (.c (.bool false)), none⟩ <|
         .done)) <|
      .cond (.t 129)
       (.skip)
       (.exit 8)) <|
     .block 9 <|
     .region [⟨(some 130), .mov (.t 11), none⟩,
       ⟨(some 131), .bin .sub (.t 130) (.c (.int .i64 1)), none⟩,
       ⟨(some 11), .mov (.t 131), none⟩]) <|
   .seq
   (.seq
    (.region [⟨(some 132), .mov (.t 10), none⟩,
       ⟨(some 133), .mov (.t 11), none⟩,
       ⟨(some 134), .bin .gtr (.t 132) (.t 133), none⟩]) <|
    .cond (.t 134)
     (.exit 4)
     (.skip)) <|
   .seq
   (.draw false [0, 1, 10, 11] (
      .op ⟨(some 135), .mov (.t 0), none⟩ <|
      .op ⟨(some 136), .mov (.t 10), none⟩ <|
      .op ⟨(some 137), .mov (.t 0), none⟩ <|
      .op ⟨(some 138), .mov (.t 11), none⟩ <|
      .op ⟨(some 139), .mov (.t 0), none⟩ <|
      .op ⟨(some 140), .mov (.t 11), none⟩ <|
      .op ⟨(some 141), .iaddr 1 (.t 139) (.t 140), none⟩ <|
      .op ⟨(some 142), .load false 1 (.t 141), none⟩ <|
      .op ⟨(some 143), .mov (.t 0), none⟩ <|
      .op ⟨(some 144), .mov (.t 10), none⟩ <|
      .op ⟨(some 145), .iaddr 1 (.t 143) (.t 144), none⟩ <|
      .op ⟨(some 146), .load false 1 (.t 145), none⟩ <|
      .op ⟨(some 147), .iaddr 1 (.t 135) (.t 136), none⟩ <|
      .op ⟨none, .store 1 (.t 147) (.t 142), none⟩ <|
      .op ⟨(some 148), .iaddr 1 (.t 137) (.t 138), none⟩ <|
      .op ⟨none, .store 1 (.t 148) (.t 146), none⟩ <|
      .done)) <|
   .seq
   (.region [⟨(some 149), .mov (.t 10), none⟩,
      ⟨(some 150), .bin .add (.t 149) (.c (.int .i64 1)), none⟩,
      ⟨(some 10), .mov (.t 150), none⟩]) <|
   .region [⟨(some 151), .mov (.t 11), none⟩,
     ⟨(some 152), .bin .sub (.t 151) (.c (.int .i64 1)), none⟩,
     ⟨(some 11), .mov (.t 152), none⟩]) <|
 .seq
 (.draw false [11] (
    .op ⟨(some 153), .mov (.t 0), none⟩ <|
    .op ⟨(some 154), .mov (.t 11), none⟩ <|
    .op ⟨(some 155), .mov (.t 0), none⟩ <|
    .op ⟨(some 156), .mov (.t 1), none⟩ <|
    .op ⟨(some 157), .mov (.t 0), none⟩ <|
    .op ⟨(some 158), .mov (.t 1), none⟩ <|
    .op ⟨(some 159), .iaddr 1 (.t 157) (.t 158), none⟩ <|
    .op ⟨(some 160), .load false 1 (.t 159), none⟩ <|
    .op ⟨(some 161), .mov (.t 0), none⟩ <|
    .op ⟨(some 162), .mov (.t 11), none⟩ <|
    .op ⟨(some 163), .iaddr 1 (.t 161) (.t 162), none⟩ <|
    .op ⟨(some 164), .load false 1 (.t 163), none⟩ <|
    .op ⟨(some 165), .iaddr 1 (.t 153) (.t 154), none⟩ <|
    .op ⟨none, .store 1 (.t 165) (.t 160), none⟩ <|
    .op ⟨(some 166), .iaddr 1 (.t 155) (.t 156), none⟩ <|
    .op ⟨none, .store 1 (.t 166) (.t 164), none⟩ <|
    .done)) <|
 .seq
 (.region [⟨(some 167), .mov (.t 11), none⟩,
    ⟨(some 8), .mov (.t 167), none⟩,
    ⟨(some 9), .mov (.c (.bool false)), none⟩]) <|
 .ret, [.slot 8, .slot 9]⟩
theorem c32 : Code1 Try.prog 32 168 b32 := Code1.mk' Try.func32 (by kernel_rfl) (by kernel_rfl) Try.ntmps32

/-- math/bits.Len32 -/
def b33 : IFn := ⟨
 .seq
 (.region [⟨(some 2), .mov (.c (.int .i64 0)), none⟩]) <|
 .seq
 (.seq
  (.region [⟨(some 3), .mov (.t 0), none⟩,
     ⟨(some 4), .bin .geq (.t 3) (.c (.int .u32 65536)), none⟩]) <|
  .cond (.t 4)
   (.seq
    (.region [⟨(some 5), .mov (.t 0), none⟩,
       ⟨(some 6), .bin .shr (.t 5) (.c (.int .u64 16)), none⟩,
       ⟨(some 0), .mov (.t 6), none⟩]) <|
    .region [⟨(some 2), .mov (.c (.int .i64 16)), none⟩])
   (.skip)) <|
 .seq
 (.seq
  (.region [⟨(some 7), .mov (.t 0), none⟩,
     ⟨(some 8), .bin .geq (.t 7) (.c (.int .u32 256)), none⟩]) <|
  .cond (.t 8)
   (.seq
    (.region [⟨(some 9), .mov (.t 0), none⟩,
       ⟨(some 10), .bin .shr (.t 9) (.c (.int .u64 8)), none⟩,
       ⟨(some 0), .mov (.t 10), none⟩]) <|
    .region [⟨(some 11), .mov (.t 2), none⟩,
      ⟨(some 12), .bin .add (.t 11) (.c (.int .i64 8)), none⟩,
      ⟨(some 2), .mov (.t 12), none⟩])
   (.skip)) <|
 .seq
 (.region [⟨(some 13), .mov (.t 2), none⟩,
    ⟨(some 14), .mov (.t 0), none⟩,
    ⟨(some 15), .conv .u8 (.t 14), none⟩,
    ⟨(some 16), .indexS (.c (.str ⟨#[0, 1, 2, 2, 3, 3, 3, 3, 4, 4, 4, 4, 4, 4, 4, 4, 5, 5, 5, 5, 5, 5, 5, 5, 5, 5, 5, 5, 5, 5, 5, 5, 6, 6, 6, 6, 6, 6, 6, 6, 6, 6, 6, 6, 6, 6, 6, 6, 6, 6, 6, 6, 6, 6, 6, 6, 6, 6, 6, 6, 6, 6, 6, 6, 7, 7, 7, 7, 7, 7, 7, 7, 7, 7, 7, 7, 7, 7, 7, 7, 7, 7, 7, 7, 7, 7, 7, 7, 7, 7, 7, 7, 7, 7, 7, 7, 7, 7, 7, 7, 7, 7, 7, 7, 7, 7, 7, 7, 7, 7, 7, 7, 7, 7, 7, 7, 7, 7, 7, 7, 7, 7, 7, 7, 7, 7, 7, 7, 8, 8, 8, 8, 8, 8, 8, 8, 8, 8, 8, 8, 8, 8, 8, 8, 8, 8, 8, 8, 8, 8, 8, 8, 8, 8, 8, 8, 8, 8, 8, 8, 8, 8, 8, 8, 8, 8, 8, 8, 8, 8, 8, 8, 8, 8, 8, 8, 8, 8, 8, 8, 8, 8, 8, 8, 8, 8, 8, 8, 8, 8, 8, 8, 8, 8, 8, 8, 8, 8, 8, 8, 8, 8, 8, 8, 8, 8, 8, 8, 8, 8, 8, 8, 8, 8, 8, 8, 8, 8, 8, 8, 8, 8, 8, 8, 8, 8, 8, 8, 8, 8, 8, 8, 8, 8, 8, 8, 8, 8, 8, 8, 8, 8, 8, 8, 8, 8, 8, 8, 8, 8, 8, 8, 8, 8, 8, 8]⟩)) (.t 15), none⟩,
    ⟨(some 17), .conv .i64 (.t 16), none⟩,
    ⟨(some 18), .bin .add (.t 13) (.t 17), none⟩,
    ⟨(some 2), .mov (.t 18), none⟩]) <|
 .ret, [.slot 2]⟩
theorem c33 : Code1 Try.prog 33 19 b33 := Code1.mk' Try.func33 (by kernel_rfl) (by kernel_rfl) Try.ntmps33

/-- math/bits.Len64 -/
def b34 : IFn := ⟨
 .seq
 (.region [⟨(some 2), .mov (.c (.int .i64 0)), none⟩]) <|
 .seq
 (.seq
  (.region [⟨(some 3), .mov (.t 0), none⟩,
     ⟨(some 4), .bin .geq (.t 3) (.c (.int .u64 4294967296)), none⟩]) <|
  .cond (.t 4)
   (.seq
    (.region [⟨(some 5), .mov (.t 0), none⟩,
       ⟨(some 6), .bin .shr (.t 5) (.c (.int .u64 32)), none⟩,
       ⟨(some 0), .mov (.t 6), none⟩]) <|
    .region [⟨(some 2), .mov (.c (.int .i64 32)), none⟩])
   (.skip)) <|
 .seq
 (.seq
  (.region [⟨(some 7), .mov (.t 0), none⟩,
     ⟨(some 8), .bin .geq (.t 7) (.c (.int .u64 65536)), none⟩]) <|
  .cond (.t 8)
   (.seq
    (.region [⟨(some 9), .mov (.t 0), none⟩,
       ⟨(some 10), .bin .shr (.t 9) (.c (.int .u64 16)), none⟩,
       ⟨(some 0), .mov (.t 10), none⟩]) <|
    .region [⟨(some 11), .mov (.t 2), none⟩,
      ⟨(some 12), .bin .add (.t 11) (.c (.int .i64 16)), none⟩,
      ⟨(some 2), .mov (.t 12), none⟩])
   (.skip)) <|
 .seq
 (.seq
  (.region [⟨(some 13), .mov (.t 0), none⟩,
     ⟨(some 14), .bin .geq (.t 13) (.c (.int .u64 256)), none⟩]) <|
  .cond (.t 14)
   (.seq
    (.region [⟨(some 15), .mov (.t 0), none⟩,
       ⟨(some 16), .bin .shr (.t 15) (.c (.int .u64 8)), none⟩,
       ⟨(some 0), .mov (.t 16), none⟩]) <|
    .region [⟨(some 17), .mov (.t 2), none⟩,
      ⟨(some 18), .bin .add (.t 17) (.c (.int .i64 8)), none⟩,
      ⟨(some 2), .mov (.t 18), none⟩])
   (.skip)) <|
 .seq
 (.region [⟨(some 19), .mov (.t 2), none⟩,
    ⟨(some 20), .mov (.t 0), none⟩,
    ⟨(some 21), .conv .u8 (.t 20), none⟩,
    ⟨(some 22), .indexS (.c (.str ⟨#[0, 1, 2, 2, 3, 3, 3, 3, 4, 4, 4, 4, 4, 4, 4, 4, 5, 5, 5, 5, 5, 5, 5, 5, 5, 5, 5, 5, 5, 5, 5, 5, 6, 6, 6, 6, 6, 6, 6, 6, 6, 6, 6, 6, 6, 6, 6, 6, 6, 6, 6, 6, 6, 6, 6, 6, 6, 6, 6, 6, 6, 6, 6, 6, 7, 7, 7, 7, 7, 7, 7, 7, 7, 7, 7, 7, 7, 7, 7, 7, 7, 7, 7, 7, 7, 7, 7, 7, 7, 7, 7, 7, 7, 7, 7, 7, 7, 7, 7, 7, 7, 7, 7, 7, 7, 7, 7, 7, 7, 7, 7, 7, 7, 7, 7, 7, 7, 7, 7, 7, 7, 7, 7, 7, 7, 7, 7, 7, 8, 8, 8, 8, 8, 8, 8, 8, 8, 8, 8, 8, 8, 8, 8, 8, 8, 8, 8, 8, 8, 8, 8, 8, 8, 8, 8, 8, 8, 8, 8, 8, 8, 8, 8, 8, 8, 8, 8, 8, 8, 8, 8, 8, 8, 8, 8, 8, 8, 8, 8, 8, 8, 8, 8, 8, 8, 8, 8, 8, 8, 8, 8, 8, 8, 8, 8, 8, 8, 8, 8, 8, 8, 8, 8, 8, 8, 8, 8, 8, 8, 8, 8, 8, 8, 8, 8, 8, 8, 8, 8, 8, 8, 8, 8, 8, 8, 8, 8, 8, 8, 8, 8, 8, 8, 8, 8, 8, 8, 8, 8, 8, 8, 8, 8, 8, 8, 8, 8, 8, 8, 8, 8, 8, 8, 8, 8, 8]⟩)) (.t 21), none⟩,
    ⟨(some 23), .conv .i64 (.t 22), none⟩,
    ⟨(some 24), .bin .add (.t 19) (.t 23), none⟩,
    ⟨(some 2), .mov (.t 24), none⟩]) <|
 .ret, [.slot 2]⟩
theorem c34 : Code1 Try.prog 34 25 b34 := Code1.mk' Try.func34 (by kernel_rfl) (by kernel_rfl) Try.ntmps34

/-- slices.siftDownOrdered[int] -/
def b35 : IFn := ⟨
 .seq
 (.region [⟨(some 10), .mov (.t 1), none⟩,
    ⟨(some 8), .mov (.t 10), none⟩]) <|
 .block 0 <|
 .loop [0, 2, 3, 8] <|
  .block 1 <|
  .seq
  (.region [⟨(some 11), .mov (.t 8), none⟩,
     ⟨(some 12), .bin .mul (.c (.int .i64 2)) (.t 11), none⟩,
     ⟨(some 13), .bin .add (.t 12) (.c (.int .i64 1)), none⟩,
     ⟨(some 9), .mov (.t 13), none⟩]) <|
  .seq
  (.seq
   (.region [⟨(some 14), .mov (.t 9), none⟩,
      ⟨(some 15), .mov (.t 2), none⟩,
      ⟨(some 16), .bin .geq (.t 14) (.t 15), none⟩]) <|
   .cond (.t 16)
    (.exit 0)
    (.skip)) <|
  .seq
  (.seq
   (.draw false [0, 2, 3, 8, 9, 36] (
      .op ⟨(some 17), .mov (.t 9), none⟩ <|
      .op ⟨(some 18), .bin .add (.t 17) (.c (.int .i64 1)), none⟩ <|
      .op ⟨(some 19), .mov (.t 2), none⟩ <|
      .op ⟨(some 20), .bin .lss (.t 18) (.t 19), none⟩ <|
      .op ⟨(some 21), .mov (.t 20), none⟩ <|
      .op ⟨(some 22), .mov (.t 0), (some (21, true))⟩ <|
      .op ⟨(some 23), .mov (.t 3), (some (21, true))⟩ <|
      .op ⟨(some 24), .mov (.t 9), (some (21, true))⟩ <|
      .op ⟨(some 25), .bin .add (.t 23) (.t 24), (some (21, true))⟩ <|
      .op ⟨(some 26), .iaddr 1 (.t 22) (.t 25), (some (21, true))⟩ <|
      .op ⟨(some 27), .load false 1 (.t 26), (some (21, true))⟩ <|
      .op ⟨(some 28), .mov (.t 0), (some (21, true))⟩ <|
      .op ⟨(some 29), .mov (.t 3), (some (21, true))⟩ <|
      .op ⟨(some 30), .mov (.t 9), (some (21, true))⟩ <|
      .op ⟨(some 31), .bin .add (.t 29) (.t 30), (some (21, true))⟩ <|
      .op ⟨(some 32), .bin .add (.t 31) (.c (.int .i64 1)), (some (21, true))⟩ <|
      .op ⟨(some 33), .iaddr 1 (.t 28) (.t 32), (some (21, true))⟩ <|
      .op ⟨(some 34), .load false 1 (.t 33), (some (21, true))⟩ <|
      .op ⟨(some 35), .call (.f 30) [(.t 27), (.t 34)], (some (21, true))⟩ <|
      .op ⟨(some 36), .pick (.t 21) (.t 35) (.c (.bool false)), none⟩ <|
      .done)) <|
   .cond (.t 36)
    (.region [⟨(some 37), .mov (.t 9), none⟩,
       ⟨(some 38), .bin .add (.t 37) (.c (.int .i64 1)), none⟩,
       ⟨(some 9), .mov (.t 38), none⟩])
    (.skip)) <|
  .seq
  (.seq
   (.draw false [0, 2, 3, 8, 9, 52] (
      .op ⟨(some 39), .mov (.t 0), none⟩ <|
      .op ⟨(some 40), .mov (.t 3), none⟩ <|
      .op ⟨(some 41), .mov (.t 8), none⟩ <|
      .op ⟨(some 42), .bin .add (.t 40) (.t 41), none⟩ <|
      .op ⟨(some 43), .iaddr 1 (.t 39) (.t 42), none⟩ <|
      .op ⟨(some 44), .load false 1 (.t 43), none⟩ <|
      .op ⟨(some 45), .mov (.t 0), none⟩ <|
      .op ⟨(some 46), .mov (.t 3), none⟩ <|
      .op ⟨(some 47), .mov (.t 9), none⟩ <|
      .op ⟨(some 48), .bin .add (.t 46) (.t 47), none⟩ <|
      .op ⟨(some 49), .iaddr 1 (.t 45) (.t 48), none⟩ <|
      .op ⟨(some 50), .load false 1 (.t 49), none⟩ <|
      .op ⟨(some 51), .call (.f 30) [(.t 44), (.t 50)], none⟩ <|
      .op ⟨(some 52), .un .not (.t 51), none⟩ <|
      .done)) <|
   .cond (.t 52)
    (.ret)
    (.skip)) <|
  .seq
  (.draw false [0, 2, 3, 9] (
     .op ⟨(some 53), .mov (.t 0), none⟩ <|
     .op ⟨(some 54), .mov (.t 3), none⟩ <|
     .op ⟨(some 55), .mov (.t 8), none⟩ <|
     .op ⟨(some 56), .bin .add (.t 54) (.t 55), none⟩ <|
     .op ⟨(some 57), .mov (.t 0), none⟩ <|
     .op ⟨(some 58), .mov (.t 3), none⟩ <|
     .op ⟨(some 59), .mov (.t 9), none⟩ <|
     .op ⟨(some 60), .bin .add (.t 58) (.t 59), none⟩ <|
     .op ⟨(some 61), .mov (.t 0), none⟩ <|
     .op ⟨(some 62), .mov (.t 3), none⟩ <|
     .op ⟨(some 63), .mov (.t 9), none⟩ <|
     .op ⟨(some 64), .bin .add (.t 62) (.t 63), none⟩ <|
     .op ⟨(some 65), .iaddr 1 (.t 61) (.t 64), none⟩ <|
     .op ⟨(some 66), .load false 1 (.t 65), none⟩ <|
     .op ⟨(some 67), .mov (.t 0), none⟩ <|
     .op ⟨(some 68), .mov (.t 3), none⟩ <|
     .op ⟨(some 69), .mov (.t 8), none⟩ <|
     .op ⟨(some 70), .bin .add (.t 68) (.t 69), none⟩ <|
     .op ⟨(some 71), .iaddr 1 (.t 67) (.t 70), none⟩ <|
     .op ⟨(some 72), .load false 1 (.t 71), none⟩ <|
     .op ⟨(some 73), .iaddr 1 (.t 53) (.t 56), none⟩ <|
     .op ⟨none, .store 1 (.t 73) (.t 66), none⟩ <|
     .op ⟨(some 74), .iaddr 1 (.t 57) (.t 60), none⟩ <|
     .op ⟨none, .store 1 (.t 74) (.t 72), none⟩ <|
     .done)) <|
  .region [⟨(some 75), .mov (.t 9), none⟩,
    ⟨(some 8), .mov (.t 75), none⟩], []⟩
theorem c35 : Code1 Try.prog 35 76 b35 := Code1.mk' Try.func35 (by kernel_rfl) (by kernel_rfl) Try.ntmps35

/-- slices.nextPowerOfTwo -/
def b36 : IFn := ⟨
 .seq
 (.region [⟨(some 2), .mov (.c (.int .u64 0)), none⟩]) <|
 .seq
 (.region [⟨(some 3), .mov (.t 0), none⟩,
    ⟨(some 4), .conv .u64 (.t 3), none⟩,
    ⟨(some 5), .call (.f 23) [(.t 4)], none⟩,
    ⟨(some 6), .bin .shl (.c (.int .u64 1)) (.t 5), none⟩,
    ⟨(some 2), .mov (.t 6), none⟩]) <|
 .ret, [.slot 2]⟩
theorem c36 : Code1 Try.prog 36 7 b36 := Code1.mk' Try.func36 (by kernel_rfl) (by kernel_rfl) Try.ntmps36

/-- slices.xorshift.Next -/
def b37 : IFn := ⟨
 .seq
 (.region [⟨(some 2), .mov (.c (.int .u64 0)), none⟩]) <|
 .seq
 (.draw false [0] (
    .op ⟨(some 3), .mov (.t 0), none⟩ <|
    .op ⟨(some 4), .nilck (.t 3), none⟩ <|
    .op ⟨(some 5), .load false 1 (.t 4), none⟩ <|
    .op ⟨(some 6), .mov (.t 0), none⟩ <|
    .op ⟨(some 7), .nilck (.t 6), none⟩ <|
    .op ⟨(some 8), .load false 1 (.t 7), none⟩ <|
    .op ⟨(some 9), .bin .shl (.t 8) (.c (.int .u64 13)), none⟩ <|
    .op ⟨(some 10), .bin .xor (.t 5) (.t 9), none⟩ <|
    .op ⟨(some 11), .nilck (.t 3), none⟩ <|
    .op ⟨none, .store 1 (.t 11) (.t 10), none⟩ <|
    .done)) <|
 .seq
 (.draw false [0] (
    .op ⟨(some 12), .mov (.t 0), none⟩ <|
    .op ⟨(some 13), .nilck (.t 12), none⟩ <|
    .op ⟨(some 14), .load false 1 (.t 13), none⟩ <|
    .op ⟨(some 15), .mov (.t 0), none⟩ <|
    .op ⟨(some 16), .nilck (.t 15), none⟩ <|
    .op ⟨(some 17), .load false 1 (.t 16), none⟩ <|
    .op ⟨(some 18), .bin .shr (.t 17) (.c (.int .u64 7)), none⟩ <|
    .op ⟨(some 19), .bin .xor (.t 14) (.t 18), none⟩ <|
    .op ⟨(some 20), .nilck (.t 12), none⟩ <|
    .op ⟨none, .store 1 (.t 20) (.t 19), none⟩ <|
    .done)) <|
 .seq
 (.draw false [0] (
    .op ⟨(some 21), .mov (.t 0), none⟩ <|
    .op ⟨(some 22), .nilck (.t 21), none⟩ <|
    .op ⟨(some 23), .load false 1 (.t 22), none⟩ <|
    .op ⟨(some 24), .mov (.t 0), none⟩ <|
    .op ⟨(some 25), .nilck (.t 24), none⟩ <|
    .op ⟨(some 26), .load false 1 (.t 25), none⟩ <|
    .op ⟨(some 27), .bin .shl (.t 26) (.c (.int .u64 17)), none⟩ <|
    .op ⟨(some 28), .bin .xor (.t 23) (.t 27), none⟩ <|
    .op ⟨(some 29), .nilck (.t 21), none⟩ <|
    .op ⟨none, .store 1 (.t 29) (.t 28), none⟩ <|
    .done)) <|
 .seq
 (.region [⟨(some 30), .mov (.t 0), none⟩,
    ⟨(some 31), .nilck (.t 30), none⟩,
    ⟨(some 32), .load false 1 (.t 31), none⟩,
    ⟨(some 2), .mov (.t 32), none⟩]) <|
 .ret, [.slot 2]⟩
theorem c37 : Code1 Try.prog 37 33 b37 := Code1.mk' Try.func37 (by kernel_rfl) (by kernel_rfl) Try.ntmps37

/-- slices.medianAdjacentOrdered[int] -/
def b38 : IFn := ⟨
 .seq
 (.region [⟨(some 6), .mov (.c (.int .i64 0)), none⟩]) <|
 .seq
 (.region [⟨(some 7), .mov (.t 0), none⟩,
    ⟨(some 8), .mov (.t 1), none⟩,
    ⟨(some 9), .bin .sub (.t 8) (.c (.int .i64 1)), none⟩,
    ⟨(some 10), .mov (.t 1), none⟩,
    ⟨(some 11), .mov (.t 1), none⟩,
    ⟨(some 12), .bin .add (.t 11) (.c (.int .i64 1)), none⟩,
    ⟨(some 13), .mov (.t 2), none⟩,
    ⟨(some 14), .call (.f 39) [(.t 7), (.t 9), (.t 10), (.t 12), (.t 13)], none⟩,
    ⟨(some 6), .mov (.t 14), none⟩]) <|
 .ret, [.slot 6]⟩
theorem c38 : Code1 Try.prog 38 15 b38 := Code1.mk' Try.func38 (by kernel_rfl) (by kernel_rfl) Try.ntmps38

/-- slices.medianOrdered[int] -/
def b39 : IFn := ⟨
 .seq
 (.region [⟨(some 10), .mov (.c (.int .i64 0)), none⟩]) <|
 .seq
 (.region [⟨(some 12), .mov (.t 0), none⟩,
    ⟨(some 13), .mov (.t 1), none⟩,
    ⟨(some 14), .mov (.t 2), none⟩,
    ⟨(some 15), .mov (.t 4), none⟩,
    ⟨(some 16), .call (.f 41) [(.t 12), (.t 13), (.t 14), (.t 15)], none⟩,
    ⟨(some 11), .mov (.t 16), none⟩,
    ⟨(some 17), .extract (.t 11) 0, none⟩,
    ⟨(some 18), .extract (.t 11) 1, none⟩,
    ⟨(some 1), .mov (.t 17), none⟩,
    ⟨(some 2), .mov (.t 18), none⟩]) <|
 .seq
 (.region [⟨(some 20), .mov (.t 0), none⟩,
    ⟨(some 21), .mov (.t 2), none⟩,
    ⟨(some 22), .mov (.t 3), none⟩,
    ⟨(some 23), .mov (.t 4), none⟩,
    ⟨(some 24), .call (.f 41) [(.t 20), (.t 21), (.t 22), (.t 23)], none⟩,
    ⟨(some 19), .mov (.t 24), none⟩,
    ⟨(some 25), .extract (.t 19) 0, none⟩,
    ⟨(some 26), .extract (.t 19) 1, none⟩,
    ⟨(some 2), .mov (.t 25), none⟩,
    ⟨(some 3), .mov (.t 26), none⟩]) <|
 .seq
 (.region [⟨(some 28), .mov (.t 0), none⟩,
    ⟨(some 29), .mov (.t 1), none⟩,
    ⟨(some 30), .mov (.t 2), none⟩,
    ⟨(some 31), .mov (.t 4), none⟩,
    ⟨(some 32), .call (.f 41) [(.t 28), (.t 29), (.t 30), (.t 31)], none⟩,
    ⟨(some 27), .mov (.t 32), none⟩,
    ⟨(some 33), .extract (.t 27) 0, none⟩,
    ⟨(some 34), .extract (.t 27) 1, none⟩,
    ⟨(some 1), .mov (.t 33), none⟩,
    ⟨(some 2), .mov (.t 34), none⟩]) <|
 .seq
 (.region [⟨(some 35), .mov (.t 2), none⟩,
    ⟨(some 10), .mov (.t 35), none⟩]) <|
 .ret, [.slot 10]⟩
theorem c39 : Code1 Try.prog 39 36 b39 := Code1.mk' Try.func39 (by kernel_rfl) (by kernel_rfl) Try.ntmps39

/-- cmp.isNaN[int] -/
def b40 : IFn := ⟨
 .seq
 (.region [⟨(some 2), .mov (.c (.bool false)), none⟩]) <|
 .seq
 (.region [⟨(some 3), .mov (.t 0), none⟩,
    ⟨(some 4), .mov (.t 0), none⟩,
    ⟨(some 5), .bin .neq (.t 3) (.t 4), none⟩,
    ⟨(some 2), .mov (.t 5), none⟩]) <|
 .ret, [.slot 2]⟩
theorem c40 : Code1 Try.prog 40 6 b40 := Code1.mk' Try.func40 (by kernel_rfl) (by kernel_rfl) Try.ntmps40

/-- slices.order2Ordered[int] -/
def b41 : IFn := ⟨
 .seq
 (.region [⟨(some 8), .mov (.c (.int .i64 0)), none⟩,
    ⟨(some 9), .mov (.c (.int .i64 0)), none⟩]) <|
 .seq
 (.seq
  (.draw false [1, 2, 3, 18] (
     .op ⟨(some 10), .mov (.t 0), none⟩ <|
     .op ⟨(some 11), .mov (.t 2), none⟩ <|
     .op ⟨(some 12), .iaddr 1 (.t 10) (.t 11), none⟩ <|
     .op ⟨(some 13), .load false 1 (.t 12), none⟩ <|
     .op ⟨(some 14), .mov (.t 0), none⟩ <|
     .op ⟨(some 15), .mov (.t 1), none⟩ <|
     .op ⟨(some 16), .iaddr 1 (.t 14) (.t 15), none⟩ <|
     .op ⟨(some 17), .load false 1 (.t 16), none⟩ <|
     .op ⟨(some 18), .call (.f 30) [(.t 13), (.t 17)], none⟩ <|
     .done)) <|
  .cond (.t 18)
   (.seq
    (.region [⟨(some 19), .mov (.t 3), none⟩,
       ⟨(some 20), .nilck (.t 19), none⟩,
       ⟨(some 21), .load false 1 (.t 20), none⟩,
       ⟨(some 22), .bin .add (.t 21) (.c (.int .i64 1)), none⟩,
       ⟨(some 23), .nilck (.t 19), none⟩,
       ⟨none, .store 1 (.t 23) (.t 22), none⟩]) <|
    .seq
    (.region [⟨(some 24), .mov (.t 2), none⟩,
       ⟨(some 25), .mov (.t 1), none⟩,
       ⟨(some 8), .mov (.t 24), none⟩,
       ⟨(some 9), .mov (.t 25), none⟩]) <|
    .ret)
   (.skip)) <|
 .seq
 (.region [⟨(some 26), .mov (.t 1), none⟩,
    ⟨(some 27), .mov (.t 2), none⟩,
    ⟨(some 8), .mov (.t 26), none⟩,
    ⟨(some 9), .mov (.t 27), none⟩]) <|
 .ret, [.slot 8, .slot 9]⟩
theorem c41 : Code1 Try.prog 41 28 b41 := Code1.mk' Try.func41 (by kernel_rfl) (by kernel_rfl) Try.ntmps41

/-- The functions that the facts at the head of each statement call. -/
abbrev code : CodeL := [(5, 70, b5), (6, 67, b6), (8, 31, b8), (9, 18, b9), (10, 14, b10), (11, 39, b11), (14, 16, b14), (15, 19, b15), (16, 26, b16), (17, 16, b17), (18, 6, b18), (19, 14, b19), (20, 11, b20), (21, 15, b21), (22, 134, b22), (23, 8, b23), (24, 49, b24), (25, 56, b25), (26, 65, b26), (27, 57, b27), (28, 32, b28), (29, 133, b29), (30, 17, b30), (31, 84, b31), (32, 168, b32), (33, 19, b33), (34, 25, b34), (35, 76, b35), (36, 7, b36), (37, 33, b37), (38, 15, b38), (39, 36, b39), (40, 6, b40), (41, 28, b41)]
theorem codeOk : CodeOk Try.prog code := ⟨c5, c6, c8, c9, c10, c11, c14, c15, c16, c17, c18, c19, c20, c21, c22, c23, c24, c25, c26, c27, c28, c29, c30, c31, c32, c33, c34, c35, c36, c37, c38, c39, c40, c41, trivial⟩

end Go.Proofs.Ytikapnnabemedaa
