/-
  THE CODE of the functions of this seat, as the plain machine's; each is what the compiler makes of the program's.
-/
import Derived.Test.YtdjofnipknioiaaChecked
import Derived.Test.YtdjofnipknioiaaAm23
import Derived.KernelRfl
namespace Go.Proofs.Ytdjofnipknioiaa
open Go Go.AM
set_option linter.unusedVariables false

theorem hm : Try.prog.follows .mixedOrders = true := by kernel_rfl

/-- fusee/fuseelaw28.StampPuts -/
def b3 : IFn := ⟨
 .seq
 (.region [⟨(some 2), .mov (.c (.bool false)), none⟩]) <|
 .seq
 (.seq
  (.region [⟨(some 7), .call (.f 8) [], none⟩,
     ⟨(some 8), .un .not (.t 7), none⟩]) <|
  .cond (.t 8)
   (.seq
    (.region [⟨(some 2), .mov (.c (.bool false)), none⟩]) <|
    .ret)
   (.skip)) <|
 .seq
 (.seq
  (.region [⟨(some 9), .mov (.t 0), none⟩,
     ⟨(some 10), .len .sl (.t 9), none⟩,
     ⟨(some 11), .bin .gtr (.t 10) (.c (.int .i64 200)), none⟩]) <|
  .cond (.t 11)
   (.seq
    (.region [⟨(some 2), .mov (.c (.bool true)), none⟩]) <|
    .ret)
   (.skip)) <|
 .seq
 (.region [⟨(some 13), .mov (.t 0), none⟩,
    ⟨(some 14), .call (.f 9) [(.t 13)], none⟩,
    ⟨(some 12), .mov (.t 14), none⟩,
    ⟨(some 15), .extract (.t 12) 0, none⟩,
    ⟨(some 16), .extract (.t 12) 1, none⟩,
    ⟨(some 3), .mov (.t 15), none⟩,
    ⟨(some 4), .mov (.t 16), none⟩]) <|
 .seq
 (.seq
  (.region [⟨(some 17), .mov (.t 0), none⟩,
     ⟨(some 18), .call (.f 10) [(.t 17)], none⟩,
     ⟨(some 19), .un .not (.t 18), none⟩]) <|
  .cond (.t 19)
   (.seq
    (.region [⟨(some 20), .mov (.t 4), none⟩,
       ⟨(some 21), .bin .eql (.t 20) (.c (.int .i64 2)), none⟩,
       ⟨(some 22), .mov (.t 21), none⟩,
       ⟨(some 23), .mov (.t 3), (some (22, true))⟩,
       ⟨(some 24), .len .sl (.t 23), (some (22, true))⟩,
       ⟨(some 25), .bin .eql (.t 24) (.c (.int .i64 0)), (some (22, true))⟩,
       ⟨(some 26), .pick (.t 22) (.t 25) (.c (.bool false)), none⟩,
       ⟨(some 27), .mov (.t 26), none⟩,
       ⟨(some 28), .mov (.t 0), (some (27, true))⟩,
       ⟨(some 29), .call (.f 11) [(.t 28)], (some (27, true))⟩,
       ⟨(some 30), .bin .eql (.t 29) (.c (.int .i64 0)), (some (27, true))⟩,
       ⟨(some 31), .pick (.t 27) (.t 30) (.c (.bool false)), none⟩,
       ⟨(some 2), .mov (.t 31), none⟩]) <|
    .ret)
   (.skip)) <|
 .seq
 (.region [⟨(some 33), .mov (.t 3), none⟩,
    ⟨(some 34), .call (.f 12) [(.t 33)], none⟩,
    ⟨(some 32), .mov (.t 34), none⟩,
    ⟨(some 35), .extract (.t 32) 0, none⟩,
    ⟨(some 36), .extract (.t 32) 1, none⟩,
    ⟨(some 5), .mov (.t 35), none⟩,
    ⟨(some 6), .mov (.t 36), none⟩]) <|
 .seq
 (.draw true [2] (
    .op ⟨(some 37), .mov (.t 4), none⟩ <|
    .op ⟨(some 38), .bin .eql (.t 37) (.c (.int .i64 0)), none⟩ <|
    .op ⟨(some 39), .mov (.t 38), none⟩ <|
    .op ⟨(some 40), .mov (.t 3), (some (39, true))⟩ <|
    .op ⟨(some 42), .mov (.t 0), (some (39, true))⟩ <|
    .alt (.op ⟨(some 41), .convBS (.t 40), (some (39, true))⟩ <|
     .op ⟨(some 43), .call (.f 13) [(.t 42)], (some (39, true))⟩ <|
     .op ⟨(some 44), .convBS (.t 43), (some (39, true))⟩ <|
     .op ⟨(some 45), .bin .eql (.t 41) (.t 44), (some (39, true))⟩ <|
     .op ⟨(some 46), .pick (.t 39) (.t 45) (.c (.bool false)), none⟩ <|
     .op ⟨(some 47), .mov (.t 46), none⟩ <|
     .op ⟨(some 48), .mov (.t 6), (some (47, true))⟩ <|
     .op ⟨(some 49), .bin .eql (.t 48) (.c (.int .i64 0)), (some (47, true))⟩ <|
     .op ⟨(some 50), .pick (.t 47) (.t 49) (.c (.bool false)), none⟩ <|
     .op ⟨(some 51), .mov (.t 50), none⟩ <|
     .op ⟨(some 52), .mov (.t 0), (some (51, true))⟩ <|
     .op ⟨(some 53), .mov (.t 5), (some (51, true))⟩ <|
     .op ⟨(some 54), .call (.f 14) [(.t 52), (.t 53)], (some (51, true))⟩ <|
     .op ⟨(some 55), .pick (.t 51) (.t 54) (.c (.bool false)), none⟩ <|
     .op ⟨(some 56), .mov (.t 55), none⟩ <|
     .op ⟨(some 57), .mov (.t 0), (some (56, true))⟩ <|
     .op ⟨(some 59), .mov (.t 3), (some (56, true))⟩ <|
     .op ⟨(some 60), .len .sl (.t 59), (some (56, true))⟩ <|
     .op ⟨(some 58), .call (.f 11) [(.t 57)], (some (56, true))⟩ <|
     .op ⟨(some 61), .bin .eql (.t 58) (.t 60), (some (56, true))⟩ <|
     .op ⟨(some 62), .pick (.t 56) (.t 61) (.c (.bool false)), none⟩ <|
     .op ⟨(some 2), .mov (.t 62), none⟩ <|
     .done) <|
    .op ⟨(some 43), .call (.f 13) [(.t 42)], (some (39, true))⟩ <|
    .op ⟨(some 41), .convBS (.t 40), (some (39, true))⟩ <|
    .op ⟨(some 44), .convBS (.t 43), (some (39, true))⟩ <|
    .op ⟨(some 45), .bin .eql (.t 41) (.t 44), (some (39, true))⟩ <|
    .op ⟨(some 46), .pick (.t 39) (.t 45) (.c (.bool false)), none⟩ <|
    .op ⟨(some 47), .mov (.t 46), none⟩ <|
    .op ⟨(some 48), .mov (.t 6), (some (47, true))⟩ <|
    .op ⟨(some 49), .bin .eql (.t 48) (.c (.int .i64 0)), (some (47, true))⟩ <|
    .op ⟨(some 50), .pick (.t 47) (.t 49) (.c (.bool false)), none⟩ <|
    .op ⟨(some 51), .mov (.t 50), none⟩ <|
    .op ⟨(some 52), .mov (.t 0), (some (51, true))⟩ <|
    .op ⟨(some 53), .mov (.t 5), (some (51, true))⟩ <|
    .op ⟨(some 54), .call (.f 14) [(.t 52), (.t 53)], (some (51, true))⟩ <|
    .op ⟨(some 55), .pick (.t 51) (.t 54) (.c (.bool false)), none⟩ <|
    .op ⟨(some 56), .mov (.t 55), none⟩ <|
    .op ⟨(some 57), .mov (.t 0), (some (56, true))⟩ <|
    .op ⟨(some 59), .mov (.t 3), (some (56, true))⟩ <|
    .op ⟨(some 60), .len .sl (.t 59), (some (56, true))⟩ <|
    .op ⟨(some 58), .call (.f 11) [(.t 57)], (some (56, true))⟩ <|
    .op ⟨(some 61), .bin .eql (.t 58) (.t 60), (some (56, true))⟩ <|
    .op ⟨(some 62), .pick (.t 56) (.t 61) (.c (.bool false)), none⟩ <|
    .op ⟨(some 2), .mov (.t 62), none⟩ <|
    .done)) <|
 .ret, [.slot 2]⟩
theorem c3 : Code1 Try.prog 3 63 b3 := Code1.mk' Try.func3 (by kernel_rfl) (by kernel_rfl) Try.ntmps3

/-- fusee/fuseelaw28.StampReads -/
def b4 : IFn := ⟨
 .seq
 (.region [⟨(some 2), .mov (.c (.bool false)), none⟩]) <|
 .seq
 (.seq
  (.region [⟨(some 5), .call (.f 8) [], none⟩,
     ⟨(some 6), .un .not (.t 5), none⟩]) <|
  .cond (.t 6)
   (.seq
    (.region [⟨(some 2), .mov (.c (.bool false)), none⟩]) <|
    .ret)
   (.skip)) <|
 .seq
 (.seq
  (.region [⟨(some 7), .mov (.t 0), none⟩,
     ⟨(some 8), .len .sl (.t 7), none⟩,
     ⟨(some 9), .bin .gtr (.t 8) (.c (.int .i64 300)), none⟩]) <|
  .cond (.t 9)
   (.seq
    (.region [⟨(some 2), .mov (.c (.bool true)), none⟩]) <|
    .ret)
   (.skip)) <|
 .seq
 (.region [⟨(some 11), .mov (.t 0), none⟩,
    ⟨(some 12), .call (.f 12) [(.t 11)], none⟩,
    ⟨(some 10), .mov (.t 12), none⟩,
    ⟨(some 13), .extract (.t 10) 0, none⟩,
    ⟨(some 14), .extract (.t 10) 1, none⟩,
    ⟨(some 3), .mov (.t 13), none⟩,
    ⟨(some 4), .mov (.t 14), none⟩]) <|
 .seq
 (.seq
  (.region [⟨(some 15), .mov (.t 4), none⟩,
     ⟨(some 16), .bin .neq (.t 15) (.c (.int .i64 0)), none⟩]) <|
  .cond (.t 16)
   (.seq
    (.region [⟨(some 17), .mov (.t 4), none⟩,
       ⟨(some 18), .bin .eql (.t 17) (.c (.int .i64 5)), none⟩,
       ⟨(some 19), .mov (.t 18), none⟩,
       ⟨(some 20), .mov (.t 3), (some (19, true))⟩,
       ⟨(some 21), .len .sl (.t 20), (some (19, true))⟩,
       ⟨(some 22), .bin .eql (.t 21) (.c (.int .i64 0)), (some (19, true))⟩,
       ⟨(some 23), .pick (.t 19) (.t 22) (.c (.bool false)), none⟩,
       ⟨(some 2), .mov (.t 23), none⟩]) <|
    .ret)
   (.skip)) <|
 .seq
 (.draw true [2] (
    .op ⟨(some 24), .mov (.t 3), none⟩ <|
    .op ⟨(some 25), .call (.f 10) [(.t 24)], none⟩ <|
    .op ⟨(some 26), .mov (.t 25), none⟩ <|
    .op ⟨(some 27), .mov (.t 3), (some (26, true))⟩ <|
    .op ⟨(some 30), .mov (.t 0), (some (26, true))⟩ <|
    .alt (.op ⟨(some 28), .call (.f 13) [(.t 27)], (some (26, true))⟩ <|
     .op ⟨(some 29), .convBS (.t 28), (some (26, true))⟩ <|
     .op ⟨(some 31), .convBS (.t 30), (some (26, true))⟩ <|
     .op ⟨(some 32), .bin .eql (.t 29) (.t 31), (some (26, true))⟩ <|
     .op ⟨(some 33), .pick (.t 26) (.t 32) (.c (.bool false)), none⟩ <|
     .op ⟨(some 2), .mov (.t 33), none⟩ <|
     .done) <|
    .op ⟨(some 31), .convBS (.t 30), (some (26, true))⟩ <|
    .op ⟨(some 28), .call (.f 13) [(.t 27)], (some (26, true))⟩ <|
    .op ⟨(some 29), .convBS (.t 28), (some (26, true))⟩ <|
    .op ⟨(some 32), .bin .eql (.t 29) (.t 31), (some (26, true))⟩ <|
    .op ⟨(some 33), .pick (.t 26) (.t 32) (.c (.bool false)), none⟩ <|
    .op ⟨(some 2), .mov (.t 33), none⟩ <|
    .done)) <|
 .ret, [.slot 2]⟩
theorem c4 : Code1 Try.prog 4 34 b4 := Code1.mk' Try.func4 (by kernel_rfl) (by kernel_rfl) Try.ntmps4

/-- fusee/fuseelaw28.StampSeeks -/
def b5 : IFn := ⟨
 .seq
 (.region [⟨(some 4), .mov (.c (.bool false)), none⟩]) <|
 .seq
 (.seq
  (.region [⟨(some 9), .call (.f 8) [], none⟩,
     ⟨(some 10), .un .not (.t 9), none⟩]) <|
  .cond (.t 10)
   (.seq
    (.region [⟨(some 4), .mov (.c (.bool false)), none⟩]) <|
    .ret)
   (.skip)) <|
 .seq
 (.seq
  (.region [⟨(some 11), .mov (.t 0), none⟩,
     ⟨(some 12), .len .sl (.t 11), none⟩,
     ⟨(some 13), .bin .gtr (.t 12) (.c (.int .i64 200)), none⟩,
     ⟨(some 14), .mov (.t 13), none⟩,
     ⟨(some 15), .mov (.t 0), (some (14, false))⟩,
     ⟨(some 16), .call (.f 10) [(.t 15)], (some (14, false))⟩,
     ⟨(some 17), .un .not (.t 16), (some (14, false))⟩,
     ⟨(some 18), .pick (.t 14) (.c (.bool true)) (.t 17), none⟩]) <|
  .cond (.t 18)
   (.seq
    (.region [⟨(some 4), .mov (.c (.bool true)), none⟩]) <|
    .ret)
   (.skip)) <|
 .seq
 (.region [⟨(some 20), .mov (.t 0), none⟩,
    ⟨(some 21), .call (.f 13) [(.t 20)], none⟩,
    ⟨(some 22), .mov (.t 1), none⟩,
    ⟨(some 23), .call (.f 15) [(.t 21), (.t 22)], none⟩,
    ⟨(some 19), .mov (.t 23), none⟩,
    ⟨(some 24), .extract (.t 19) 0, none⟩,
    ⟨(some 25), .extract (.t 19) 1, none⟩,
    ⟨(some 5), .mov (.t 24), none⟩,
    ⟨(some 6), .mov (.t 25), none⟩]) <|
 .seq
 (.seq
  (.region [⟨(some 26), .mov (.t 0), none⟩,
     ⟨(some 27), .len .sl (.t 26), none⟩,
     ⟨(some 28), .mov (.c (.int .i64 0)), none⟩]) <|
  .block 0 <|
  .loop [1, 5, 6, 26, 27, 28] <|
   .seq
   (.region [⟨(some 29), .bin .lss (.t 28) (.t 27), none⟩]) <|
   .seq
   (.cond (.t 29)
     (.skip)
     (.exit 0)) <|
   .seq
   (.block 1 <|
    .seq
    (.region [⟨(some 30), .mov (.t 28), none⟩,
       ⟨(some 31), .iaddr 1 (.t 26) (.t 28), none⟩,
       ⟨(some 32), .load false 1 (.t 31), none⟩,
       ⟨(some 7), .mov (.t 30), none⟩,
       ⟨(some 8), .mov (.t 32), none⟩]) <|
    .seq
    (.region [⟨(some 33), .mov (.t 8), none⟩,
       ⟨(some 34), .mov (.t 1), none⟩,
       ⟨(some 35), .bin .geq (.t 33) (.t 34), none⟩]) <|
    .cond (.t 35)
     (.seq
      (.region [⟨(some 36), .mov (.t 6), none⟩,
         ⟨(some 37), .mov (.t 36), none⟩,
         ⟨(some 38), .mov (.t 5), (some (37, true))⟩,
         ⟨(some 39), .mov (.t 7), (some (37, true))⟩,
         ⟨(some 40), .bin .eql (.t 38) (.t 39), (some (37, true))⟩,
         ⟨(some 41), .pick (.t 37) (.t 40) (.c (.bool false)), none⟩,
         ⟨(some 4), .mov (.t 41), none⟩]) <|
      .ret)
     (.skip)) <|
   .region [⟨(some 42), .bin .add (.t 28) (.c (.int .i64 1)), none⟩,
     ⟨(some 28), .mov (.t 42), none⟩]) <|
 .seq
 (.region [⟨(some 43), .mov (.t 6), none⟩,
    ⟨(some 44), .un .not (.t 43), none⟩,
    ⟨(some 45), .mov (.t 44), none⟩,
    ⟨(some 46), .mov (.t 5), (some (45, true))⟩,
    ⟨(some 47), .bin .eql (.t 46) (.c (.int .i64 0)), (some (45, true))⟩,
    ⟨(some 48), .pick (.t 45) (.t 47) (.c (.bool false)), none⟩,
    ⟨(some 4), .mov (.t 48), none⟩]) <|
 .ret, [.slot 4]⟩
theorem c5 : Code1 Try.prog 5 49 b5 := Code1.mk' Try.func5 (by kernel_rfl) (by kernel_rfl) Try.ntmps5

/-- fusee/fuseelaw28.StampCuts -/
def b6 : IFn := ⟨
 .seq
 (.region [⟨(some 6), .mov (.c (.bool false)), none⟩]) <|
 .seq
 (.seq
  (.region [⟨(some 12), .call (.f 8) [], none⟩,
     ⟨(some 13), .un .not (.t 12), none⟩]) <|
  .cond (.t 13)
   (.seq
    (.region [⟨(some 6), .mov (.c (.bool false)), none⟩]) <|
    .ret)
   (.skip)) <|
 .seq
 (.seq
  (.region [⟨(some 14), .mov (.t 0), none⟩,
     ⟨(some 15), .len .sl (.t 14), none⟩,
     ⟨(some 16), .bin .gtr (.t 15) (.c (.int .i64 200)), none⟩,
     ⟨(some 17), .mov (.t 16), none⟩,
     ⟨(some 18), .mov (.t 2), (some (17, false))⟩,
     ⟨(some 19), .len .sl (.t 18), (some (17, false))⟩,
     ⟨(some 20), .bin .gtr (.t 19) (.c (.int .i64 50)), (some (17, false))⟩,
     ⟨(some 21), .pick (.t 17) (.c (.bool true)) (.t 20), none⟩,
     ⟨(some 22), .mov (.t 21), none⟩,
     ⟨(some 23), .mov (.t 0), (some (22, false))⟩,
     ⟨(some 24), .call (.f 10) [(.t 23)], (some (22, false))⟩,
     ⟨(some 25), .un .not (.t 24), (some (22, false))⟩,
     ⟨(some 26), .pick (.t 22) (.c (.bool true)) (.t 25), none⟩]) <|
  .cond (.t 26)
   (.seq
    (.region [⟨(some 6), .mov (.c (.bool true)), none⟩]) <|
    .ret)
   (.skip)) <|
 .seq
 (.region [⟨(some 27), .mov (.t 0), none⟩,
    ⟨(some 28), .call (.f 13) [(.t 27)], none⟩,
    ⟨(some 7), .mov (.t 28), none⟩]) <|
 .seq
 (.region [⟨(some 30), .mov (.t 7), none⟩,
    ⟨(some 31), .mov (.t 1), none⟩,
    ⟨(some 32), .conv .i64 (.t 31), none⟩,
    ⟨(some 33), .mov (.t 7), none⟩,
    ⟨(some 34), .len .sl (.t 33), none⟩,
    ⟨(some 35), .bin .rem (.t 32) (.t 34), none⟩,
    ⟨(some 36), .slice 1 (.t 30) none (some (.t 35)) none, none⟩,
    ⟨(some 37), .call (.f 12) [(.t 36)], none⟩,
    ⟨(some 29), .mov (.t 37), none⟩,
    ⟨(some 38), .extract (.t 29) 0, none⟩,
    ⟨(some 39), .extract (.t 29) 1, none⟩,
    ⟨(some 8), .mov (.t 38), none⟩,
    ⟨(some 9), .mov (.t 39), none⟩]) <|
 .seq
 (.region [⟨(some 41), .buildSl 1 [] [], none⟩,
    ⟨(some 42), .mov (.t 7), none⟩,
    ⟨(some 43), .app 1 1 (.t 41) (.t 42), none⟩,
    ⟨(some 44), .mov (.t 2), none⟩,
    ⟨(some 45), .app 1 1 (.t 43) (.t 44), none⟩,
    ⟨(some 46), .call (.f 12) [(.t 45)], none⟩,
    ⟨(some 40), .mov (.t 46), none⟩,
    ⟨(some 47), .extract (.t 40) 0, none⟩,
    ⟨(some 48), .extract (.t 40) 1, none⟩,
    ⟨(some 10), .mov (.t 47), none⟩,
    ⟨(some 11), .mov (.t 48), none⟩]) <|
 .seq
 (.region [⟨(some 49), .mov (.t 9), none⟩,
    ⟨(some 50), .bin .eql (.t 49) (.c (.int .i64 5)), none⟩,
    ⟨(some 51), .mov (.t 50), none⟩,
    ⟨(some 52), .mov (.t 11), (some (51, true))⟩,
    ⟨(some 53), .bin .eql (.t 52) (.c (.int .i64 0)), (some (51, true))⟩,
    ⟨(some 54), .mov (.t 2), (some (51, true))⟩,
    ⟨(some 55), .len .sl (.t 54), (some (51, true))⟩,
    ⟨(some 56), .bin .eql (.t 55) (.c (.int .i64 0)), (some (51, true))⟩,
    ⟨(some 57), .eq false false [.bool] (.t 53) (.t 56), (some (51, true))⟩,
    ⟨(some 58), .pick (.t 51) (.t 57) (.c (.bool false)), none⟩,
    ⟨(some 6), .mov (.t 58), none⟩]) <|
 .ret, [.slot 6]⟩
theorem c6 : Code1 Try.prog 6 59 b6 := Code1.mk' Try.func6 (by kernel_rfl) (by kernel_rfl) Try.ntmps6

/-- fusee/fuseelaw28.StampLong -/
def b7 : IFn := ⟨
 .seq
 (.region [⟨(some 4), .mov (.c (.bool false)), none⟩]) <|
 .seq
 (.seq
  (.region [⟨(some 11), .call (.f 8) [], none⟩,
     ⟨(some 12), .un .not (.t 11), none⟩]) <|
  .cond (.t 12)
   (.seq
    (.region [⟨(some 4), .mov (.c (.bool false)), none⟩]) <|
    .ret)
   (.skip)) <|
 .seq
 (.region [⟨(some 13), .mov (.t 0), none⟩,
    ⟨(some 14), .conv .i64 (.t 13), none⟩,
    ⟨(some 15), .bin .add (.c (.int .i64 4000)) (.t 14), none⟩,
    ⟨(some 16), .mkSl [(.int .i64 0)] 8 (.t 15) (.t 15), none⟩,
    ⟨(some 5), .mov (.t 16), none⟩]) <|
 .seq
 (.seq
  (.region [⟨(some 17), .mov (.t 5), none⟩,
     ⟨(some 18), .len .sl (.t 17), none⟩,
     ⟨(some 19), .mov (.c (.int .i64 0)), none⟩]) <|
  .block 0 <|
  .loop [1, 5, 18, 19] <|
   .seq
   (.region [⟨(some 20), .bin .lss (.t 19) (.t 18), none⟩]) <|
   .seq
   (.cond (.t 20)
     (.skip)
     (.exit 0)) <|
   .seq
   (.block 1 <|
    .seq
    (.region [⟨(some 21), .mov (.t 19), none⟩,
       ⟨(some 6), .mov (.t 21), none⟩]) <|
    .region [⟨(some 22), .mov (.t 5), none⟩,
      ⟨(some 23), .mov (.t 6), none⟩,
      ⟨(some 24), .mov (.t 1), none⟩,
      ⟨(some 25), .conv .i64 (.t 24), none⟩,
      ⟨(some 26), .iaddr 1 (.t 22) (.t 23), none⟩,
      ⟨none, .store 1 (.t 26) (.t 25), none⟩]) <|
   .region [⟨(some 27), .bin .add (.t 19) (.c (.int .i64 1)), none⟩,
     ⟨(some 19), .mov (.t 27), none⟩]) <|
 .seq
 (.region [⟨(some 29), .mov (.t 5), none⟩,
    ⟨(some 30), .call (.f 9) [(.t 29)], none⟩,
    ⟨(some 28), .mov (.t 30), none⟩,
    ⟨(some 31), .extract (.t 28) 0, none⟩,
    ⟨(some 32), .extract (.t 28) 1, none⟩,
    ⟨(some 7), .mov (.t 31), none⟩,
    ⟨(some 8), .mov (.t 32), none⟩]) <|
 .seq
 (.seq
  (.region [⟨(some 33), .mov (.t 5), none⟩,
     ⟨(some 34), .len .sl (.t 33), none⟩,
     ⟨(some 35), .bin .gtr (.t 34) (.c (.int .i64 4096)), none⟩]) <|
  .cond (.t 35)
   (.seq
    (.region [⟨(some 36), .mov (.t 8), none⟩,
       ⟨(some 37), .bin .eql (.t 36) (.c (.int .i64 10)), none⟩,
       ⟨(some 38), .mov (.t 37), none⟩,
       ⟨(some 39), .mov (.t 7), (some (38, true))⟩,
       ⟨(some 40), .len .sl (.t 39), (some (38, true))⟩,
       ⟨(some 41), .bin .eql (.t 40) (.c (.int .i64 0)), (some (38, true))⟩,
       ⟨(some 42), .pick (.t 38) (.t 41) (.c (.bool false)), none⟩,
       ⟨(some 4), .mov (.t 42), none⟩]) <|
    .ret)
   (.skip)) <|
 .seq
 (.region [⟨(some 44), .mov (.t 7), none⟩,
    ⟨(some 45), .call (.f 12) [(.t 44)], none⟩,
    ⟨(some 43), .mov (.t 45), none⟩,
    ⟨(some 46), .extract (.t 43) 0, none⟩,
    ⟨(some 47), .extract (.t 43) 1, none⟩,
    ⟨(some 9), .mov (.t 46), none⟩,
    ⟨(some 10), .mov (.t 47), none⟩]) <|
 .seq
 (.region [⟨(some 48), .mov (.t 8), none⟩,
    ⟨(some 49), .bin .eql (.t 48) (.c (.int .i64 0)), none⟩,
    ⟨(some 50), .mov (.t 49), none⟩,
    ⟨(some 51), .mov (.t 10), (some (50, true))⟩,
    ⟨(some 52), .bin .eql (.t 51) (.c (.int .i64 0)), (some (50, true))⟩,
    ⟨(some 53), .pick (.t 50) (.t 52) (.c (.bool false)), none⟩,
    ⟨(some 54), .mov (.t 53), none⟩,
    ⟨(some 55), .mov (.t 5), (some (54, true))⟩,
    ⟨(some 56), .mov (.t 9), (some (54, true))⟩,
    ⟨(some 57), .call (.f 14) [(.t 55), (.t 56)], (some (54, true))⟩,
    ⟨(some 58), .pick (.t 54) (.t 57) (.c (.bool false)), none⟩,
    ⟨(some 4), .mov (.t 58), none⟩]) <|
 .ret, [.slot 4]⟩
theorem c7 : Code1 Try.prog 7 59 b7 := Code1.mk' Try.func7 (by kernel_rfl) (by kernel_rfl) Try.ntmps7

/-- fusee/fuseelaw28.fixed -/
def b8 : IFn := ⟨
 .seq
 (.region [⟨(some 0), .mov (.c (.bool false)), none⟩]) <|
 .seq
 (.region [⟨(some 12), .buildSl 1 [(.int .i64 0), (.int .i64 0), (.int .i64 0)] [(0, 1, (.c (.int .i64 5))), (1, 1, (.c (.int .i64 7))), (2, 1, (.c (.int .i64 300)))], none⟩,
    ⟨(some 13), .call (.f 9) [(.t 12)], none⟩,
    ⟨(some 11), .mov (.t 13), none⟩,
    ⟨(some 14), .extract (.t 11) 0, none⟩,
    ⟨(some 15), .extract (.t 11) 1, none⟩,
    ⟨(some 1), .mov (.t 14), none⟩,
    ⟨(some 2), .mov (.t 15), none⟩]) <|
 .seq
 (.region [⟨(some 17), .mov (.t 1), none⟩,
    ⟨(some 18), .call (.f 12) [(.t 17)], none⟩,
    ⟨(some 16), .mov (.t 18), none⟩,
    ⟨(some 19), .extract (.t 16) 0, none⟩,
    ⟨(some 20), .extract (.t 16) 1, none⟩,
    ⟨(some 3), .mov (.t 19), none⟩,
    ⟨(some 4), .mov (.t 20), none⟩]) <|
 .seq
 (.region [⟨(some 22), .mov (.t 1), none⟩,
    ⟨(some 23), .call (.f 15) [(.t 22), (.c (.int .i64 8))], none⟩,
    ⟨(some 21), .mov (.t 23), none⟩,
    ⟨(some 24), .extract (.t 21) 0, none⟩,
    ⟨(some 25), .extract (.t 21) 1, none⟩,
    ⟨(some 5), .mov (.t 24), none⟩,
    ⟨(some 6), .mov (.t 25), none⟩]) <|
 .seq
 (.region [⟨(some 27), .buildSl 1 [(.int .i64 0), (.int .i64 0)] [(0, 1, (.c (.int .i64 2))), (1, 1, (.c (.int .i64 1)))], none⟩,
    ⟨(some 28), .call (.f 9) [(.t 27)], none⟩,
    ⟨(some 26), .mov (.t 28), none⟩,
    ⟨(some 29), .extract (.t 26) 0, none⟩,
    ⟨(some 30), .extract (.t 26) 1, none⟩,
    ⟨(some 7), .mov (.t 29), none⟩,
    ⟨(some 8), .mov (.t 30), none⟩]) <|
 .seq
 (.region [⟨(some 32), .buildSl 1 [(.int .u8 0)] [(0, 1, (.c (.int .u8 1)))], none⟩,
    ⟨(some 33), .call (.f 12) [(.t 32)], none⟩,
    ⟨(some 31), .mov (.t 33), none⟩,
    ⟨(some 34), .extract (.t 31) 0, none⟩,
    ⟨(some 35), .extract (.t 31) 1, none⟩,
    ⟨(some 9), .mov (.t 34), none⟩,
    ⟨(some 10), .mov (.t 35), none⟩]) <|
 .seq
 (.region [⟨(some 36), .mov (.t 2), none⟩,
    ⟨(some 37), .bin .eql (.t 36) (.c (.int .i64 0)), none⟩,
    ⟨(some 38), .mov (.t 37), none⟩,
    ⟨(some 39), .mov (.t 1), (some (38, true))⟩,
    ⟨(some 40), .convBS (.t 39), (some (38, true))⟩,
    ⟨(some 41), .bin .eql (.t 40) (.c (.str ⟨#[3, 10, 2, 165, 2]⟩)), (some (38, true))⟩,
    ⟨(some 42), .pick (.t 38) (.t 41) (.c (.bool false)), none⟩,
    ⟨(some 43), .mov (.t 42), none⟩,
    ⟨(some 44), .mov (.t 4), (some (43, true))⟩,
    ⟨(some 45), .bin .eql (.t 44) (.c (.int .i64 0)), (some (43, true))⟩,
    ⟨(some 46), .pick (.t 43) (.t 45) (.c (.bool false)), none⟩,
    ⟨(some 47), .mov (.t 46), none⟩,
    ⟨(some 48), .mov (.t 3), (some (47, true))⟩,
    ⟨(some 49), .len .sl (.t 48), (some (47, true))⟩,
    ⟨(some 50), .bin .eql (.t 49) (.c (.int .i64 3)), (some (47, true))⟩,
    ⟨(some 51), .pick (.t 47) (.t 50) (.c (.bool false)), none⟩,
    ⟨(some 52), .mov (.t 51), none⟩,
    ⟨(some 53), .mov (.t 3), (some (52, true))⟩,
    ⟨(some 54), .iaddr 1 (.t 53) (.c (.int .i64 2)), (some (52, true))⟩,
    ⟨(some 55), .load false 1 (.t 54), (some (52, true))⟩,
    ⟨(some 56), .bin .eql (.t 55) (.c (.int .i64 300)), (some (52, true))⟩,
    ⟨(some 57), .pick (.t 52) (.t 56) (.c (.bool false)), none⟩,
    ⟨(some 58), .mov (.t 57), none⟩,
    ⟨(some 59), .mov (.t 6), (some (58, true))⟩,
    ⟨(some 60), .pick (.t 58) (.t 59) (.c (.bool false)), none⟩,
    ⟨(some 61), .mov (.t 60), none⟩,
    ⟨(some 62), .mov (.t 5), (some (61, true))⟩,
    ⟨(some 63), .bin .eql (.t 62) (.c (.int .i64 2)), (some (61, true))⟩,
    ⟨(some 64), .pick (.t 61) (.t 63) (.c (.bool false)), none⟩,
    ⟨(some 65), .mov (.t 64), none⟩,
    ⟨(some 66), .mov (.t 8), (some (65, true))⟩,
    ⟨(some 67), .bin .eql (.t 66) (.c (.int .i64 2)), (some (65, true))⟩,
    ⟨(some 68), .pick (.t 65) (.t 67) (.c (.bool false)), none⟩,
    ⟨(some 69), .mov (.t 68), none⟩,
    ⟨(some 70), .mov (.t 10), (some (69, true))⟩,
    ⟨(some 71), .bin .eql (.t 70) (.c (.int .i64 5)), (some (69, true))⟩,
    ⟨(some 72), .pick (.t 69) (.t 71) (.c (.bool false)), none⟩,
    ⟨(some 73), .mov (.t 72), none⟩,
    ⟨(some 74), .call (.f 11) [(.c (.sl none 0 (some 0)))], (some (73, true))⟩,
    ⟨(some 75), .bin .eql (.t 74) (.c (.int .i64 1)), (some (73, true))⟩,
    ⟨(some 76), .pick (.t 73) (.t 75) (.c (.bool false)), none⟩,
    ⟨(some 0), .mov (.t 76), none⟩]) <|
 .ret, [.slot 0]⟩
theorem c8 : Code1 Try.prog 8 77 b8 := Code1.mk' Try.func8 (by kernel_rfl) (by kernel_rfl) Try.ntmps8

/-- fusee/stamp.Put -/
def b9 : IFn := ⟨
 .seq
 (.region [⟨(some 2), .mov (.c (.sl none 0 (some 0))), none⟩,
    ⟨(some 3), .mov (.c (.int .i64 0)), none⟩]) <|
 .seq
 (.seq
  (.region [⟨(some 8), .mov (.t 0), none⟩,
     ⟨(some 9), .call (.f 16) [(.t 8)], none⟩,
     ⟨(some 4), .mov (.t 9), none⟩]) <|
  .seq
  (.region [⟨(some 10), .mov (.t 4), none⟩,
     ⟨(some 11), .bin .neq (.t 10) (.c (.int .i64 0)), none⟩]) <|
  .cond (.t 11)
   (.seq
    (.region [⟨(some 12), .mov (.t 4), none⟩,
       ⟨(some 2), .mov (.c (.sl none 0 (some 0))), none⟩,
       ⟨(some 3), .mov (.t 12), none⟩]) <|
    .ret)
   (.skip)) <|
 .seq
 (.region [⟨(some 13), .mov (.t 0), none⟩,
    ⟨(some 14), .len .sl (.t 13), none⟩,
    ⟨(some 15), .conv .u64 (.t 14), none⟩,
    ⟨(some 16), .call (.f 17) [(.c (.sl none 0 (some 0))), (.t 15)], none⟩,
    ⟨(some 5), .mov (.t 16), none⟩]) <|
 .seq
 (.seq
  (.region [⟨(some 17), .mov (.t 0), none⟩,
     ⟨(some 18), .len .sl (.t 17), none⟩,
     ⟨(some 19), .mov (.c (.int .i64 0)), none⟩]) <|
  .block 0 <|
  .loop [0, 5, 17, 18, 19] <|
   .seq
   (.region [⟨(some 20), .bin .lss (.t 19) (.t 18), none⟩]) <|
   .seq
   (.cond (.t 20)
     (.skip)
     (.exit 0)) <|
   .seq
   (.block 1 <|
    .seq
    (.region [⟨(some 21), .mov (.t 19), none⟩,
       ⟨(some 22), .iaddr 1 (.t 17) (.t 19), none⟩,
       ⟨(some 23), .load false 1 (.t 22), none⟩,
       ⟨(some 6), .mov (.t 21), none⟩,
       ⟨(some 7), .mov (.t 23), none⟩]) <|
    .seq
    (.region [⟨(some 24), .mov (.t 6), none⟩,
       ⟨(some 25), .bin .eql (.t 24) (.c (.int .i64 0)), none⟩]) <|
    .cond (.t 25)
     (.region [⟨(some 26), .mov (.t 5), none⟩,
        ⟨(some 27), .mov (.t 7), none⟩,
        ⟨(some 28), .call (.f 18) [(.t 27)], none⟩,
        ⟨(some 29), .call (.f 17) [(.t 26), (.t 28)], none⟩,
        ⟨(some 5), .mov (.t 29), none⟩])
     (.region [⟨(some 30), .mov (.t 5), none⟩,
        ⟨(some 31), .mov (.t 7), none⟩,
        ⟨(some 32), .conv .u64 (.t 31), none⟩,
        ⟨(some 33), .mov (.t 0), none⟩,
        ⟨(some 34), .mov (.t 6), none⟩,
        ⟨(some 35), .bin .sub (.t 34) (.c (.int .i64 1)), none⟩,
        ⟨(some 36), .iaddr 1 (.t 33) (.t 35), none⟩,
        ⟨(some 37), .load false 1 (.t 36), none⟩,
        ⟨(some 38), .conv .u64 (.t 37), none⟩,
        ⟨(some 39), .bin .sub (.t 32) (.t 38), none⟩,
        ⟨(some 40), .call (.f 17) [(.t 30), (.t 39)], none⟩,
        ⟨(some 5), .mov (.t 40), none⟩])) <|
   .region [⟨(some 41), .bin .add (.t 19) (.c (.int .i64 1)), none⟩,
     ⟨(some 19), .mov (.t 41), none⟩]) <|
 .seq
 (.region [⟨(some 42), .mov (.t 5), none⟩,
    ⟨(some 2), .mov (.t 42), none⟩,
    ⟨(some 3), .mov (.c (.int .i64 0)), none⟩]) <|
 .ret, [.slot 2, .slot 3]⟩
theorem c9 : Code1 Try.prog 9 43 b9 := Code1.mk' Try.func9 (by kernel_rfl) (by kernel_rfl) Try.ntmps9

/-- fusee/fuseeref28.Right -/
def b10 : IFn := ⟨
 .seq
 (.region [⟨(some 2), .mov (.c (.bool false)), none⟩]) <|
 .seq
 (.seq
  (.region [⟨(some 5), .mov (.t 0), none⟩,
     ⟨(some 6), .len .sl (.t 5), none⟩,
     ⟨(some 7), .mov (.c (.int .i64 0)), none⟩]) <|
  .block 0 <|
  .loop [0, 5, 6, 7] <|
   .seq
   (.region [⟨(some 8), .bin .lss (.t 7) (.t 6), none⟩]) <|
   .seq
   (.cond (.t 8)
     (.skip)
     (.exit 0)) <|
   .seq
   (.block 1 <|
    .seq
    (.region [⟨(some 9), .mov (.t 7), none⟩,
       ⟨(some 10), .iaddr 1 (.t 5) (.t 7), none⟩,
       ⟨(some 11), .load false 1 (.t 10), none⟩,
       ⟨(some 3), .mov (.t 9), none⟩,
       ⟨(some 4), .mov (.t 11), none⟩]) <|
    .seq
    (.region [⟨(some 12), .mov (.t 4), none⟩,
       ⟨(some 13), .bin .lss (.t 12) (.c (.int .i64 (-4611686018427387904))), none⟩,
       ⟨(some 14), .mov (.t 13), none⟩,
       ⟨(some 15), .mov (.t 4), (some (14, false))⟩,
       ⟨(some 16), .bin .gtr (.t 15) (.c (.int .i64 4611686018427387904)), (some (14, false))⟩,
       ⟨(some 17), .pick (.t 14) (.c (.bool true)) (.t 16), none⟩,
       ⟨(some 18), .mov (.t 17), none⟩,
       ⟨(some 19), .mov (.t 3), (some (18, false))⟩,
       ⟨(some 20), .bin .gtr (.t 19) (.c (.int .i64 0)), (some (18, false))⟩,
       ⟨(some 21), .mov (.t 20), (some (18, false))⟩,
       ⟨(some 22), .mov (.t 0), (some (21, true))⟩,
       ⟨(some 23), .mov (.t 3), (some (21, true))⟩,
       ⟨(some 24), .bin .sub (.t 23) (.c (.int .i64 1)), (some (21, true))⟩,
       ⟨(some 25), .iaddr 1 (.t 22) (.t 24), (some (21, true))⟩,
       ⟨(some 26), .load false 1 (.t 25), (some (21, true))⟩,
       ⟨(some 27), .mov (.t 4), (some (21, true))⟩,
       ⟨(some 28), .bin .gtr (.t 26) (.t 27), (some (21, true))⟩,
       ⟨(some 29), .pick (.t 21) (.t 28) (.c (.bool false)), (some (18, false))⟩,
       ⟨(some 30), .pick (.t 18) (.c (.bool true)) (.t 29), none⟩]) <|
    .cond (.t 30)
     (.seq
      (.region [⟨(some 2), .mov (.c (.bool false)), none⟩]) <|
      .ret)
     (.skip)) <|
   .region [⟨(some 31), .bin .add (.t 7) (.c (.int .i64 1)), none⟩,
     ⟨(some 7), .mov (.t 31), none⟩]) <|
 .seq
 (.region [⟨(some 2), .mov (.c (.bool true)), none⟩]) <|
 .ret, [.slot 2]⟩
theorem c10 : Code1 Try.prog 10 32 b10 := Code1.mk' Try.func10 (by kernel_rfl) (by kernel_rfl) Try.ntmps10

/-- fusee/stamp.Size -/
def b11 : IFn := ⟨
 .seq
 (.region [⟨(some 2), .mov (.c (.int .i64 0)), none⟩]) <|
 .seq
 (.region [⟨(some 6), .mov (.t 0), none⟩,
    ⟨(some 7), .call (.f 9) [(.t 6)], none⟩,
    ⟨(some 5), .mov (.t 7), none⟩,
    ⟨(some 8), .extract (.t 5) 0, none⟩,
    ⟨(some 9), .extract (.t 5) 1, none⟩,
    ⟨(some 3), .mov (.t 8), none⟩,
    ⟨(some 4), .mov (.t 9), none⟩]) <|
 .seq
 (.region [⟨(some 10), .mov (.t 3), none⟩,
    ⟨(some 11), .len .sl (.t 10), none⟩,
    ⟨(some 2), .mov (.t 11), none⟩]) <|
 .ret, [.slot 2]⟩
theorem c11 : Code1 Try.prog 11 12 b11 := Code1.mk' Try.func11 (by kernel_rfl) (by kernel_rfl) Try.ntmps11

/-- fusee/stamp.Read -/
def b12 : IFn := ⟨
 .seq
 (.region [⟨(some 2), .mov (.c (.sl none 0 (some 0))), none⟩,
    ⟨(some 3), .mov (.c (.int .i64 0)), none⟩]) <|
 .seq
 (.region [⟨(some 11), .mov (.t 0), none⟩,
    ⟨(some 12), .build [(.sl none 0 (some 0)), (.bool false)] [(0, 1, (.t 11))], none⟩,
    ⟨(some 13), .box (.t 12), none⟩,
    ⟨(some 4), .mov (.t 13), none⟩]) <|
 .seq
 (.region [⟨(some 14), .mov (.t 4), none⟩,
    ⟨(some 15), .call (.f 19) [(.t 14)], none⟩,
    ⟨(some 5), .mov (.t 15), none⟩]) <|
 .seq
 (.seq
  (.region [⟨(some 16), .mov (.t 4), none⟩,
     ⟨(some 17), .nilck (.t 16), none⟩,
     ⟨(some 18), .faddr 1 (.t 17), none⟩,
     ⟨(some 19), .load false 1 (.t 18), none⟩,
     ⟨(some 20), .mov (.t 19), none⟩,
     ⟨(some 21), .mov (.t 5), (some (20, false))⟩,
     ⟨(some 22), .bin .gtr (.t 21) (.c (.int .u64 4096)), (some (20, false))⟩,
     ⟨(some 23), .pick (.t 20) (.c (.bool true)) (.t 22), none⟩]) <|
  .cond (.t 23)
   (.seq
    (.region [⟨(some 2), .mov (.c (.sl none 0 (some 0))), none⟩,
       ⟨(some 3), .mov (.c (.int .i64 5)), none⟩]) <|
    .ret)
   (.skip)) <|
 .seq
 (.region [⟨(some 6), .mov (.c (.sl none 0 (some 0))), none⟩]) <|
 .seq
 (.seq
  (.region [⟨(some 24), .mov (.t 5), none⟩,
     ⟨(some 25), .conv .i64 (.t 24), none⟩,
     ⟨(some 26), .mov (.c (.int .i64 0)), none⟩]) <|
  .block 0 <|
  .loop [4, 6, 25, 26] <|
   .seq
   (.region [⟨(some 27), .bin .lss (.t 26) (.t 25), none⟩]) <|
   .seq
   (.cond (.t 27)
     (.skip)
     (.exit 0)) <|
   .seq
   (.block 1 <|
    .seq
    (.region [⟨(some 28), .mov (.t 26), none⟩,
       ⟨(some 7), .mov (.t 28), none⟩]) <|
    .seq
    (.region [⟨(some 8), .mov (.c (.int .i64 0)), none⟩]) <|
    .seq
    (.seq
     (.region [⟨(some 29), .mov (.t 7), none⟩,
        ⟨(some 30), .bin .eql (.t 29) (.c (.int .i64 0)), none⟩]) <|
     .cond (.t 30)
      (.region [⟨(some 31), .mov (.t 4), none⟩,
         ⟨(some 32), .call (.f 20) [(.t 31)], none⟩,
         ⟨(some 8), .mov (.t 32), none⟩])
      (.seq
       (.region [⟨(some 33), .mov (.t 4), none⟩,
          ⟨(some 34), .call (.f 19) [(.t 33)], none⟩,
          ⟨(some 9), .mov (.t 34), none⟩]) <|
       .seq
       (.region [⟨(some 35), .mov (.t 6), none⟩,
          ⟨(some 36), .mov (.t 7), none⟩,
          ⟨(some 37), .bin .sub (.t 36) (.c (.int .i64 1)), none⟩,
          ⟨(some 38), .iaddr 1 (.t 35) (.t 37), none⟩,
          ⟨(some 39), .load false 1 (.t 38), none⟩,
          ⟨(some 10), .mov (.t 39), none⟩]) <|
       .seq
       (.seq
        (.region [⟨(some 40), .mov (.t 9), none⟩,
           ⟨(some 41), .mov (.t 10), none⟩,
           ⟨(some 42), .conv .u64 (.t 41), none⟩,
           ⟨(some 43), .bin .sub (.c (.int .u64 4611686018427387904)) (.t 42), none⟩,
           ⟨(some 44), .bin .gtr (.t 40) (.t 43), none⟩]) <|
        .cond (.t 44)
         (.seq
          (.region [⟨(some 2), .mov (.c (.sl none 0 (some 0))), none⟩,
             ⟨(some 3), .mov (.c (.int .i64 5)), none⟩]) <|
          .ret)
         (.skip)) <|
       .region [⟨(some 45), .mov (.t 10), none⟩,
         ⟨(some 46), .conv .u64 (.t 45), none⟩,
         ⟨(some 47), .mov (.t 9), none⟩,
         ⟨(some 48), .bin .add (.t 46) (.t 47), none⟩,
         ⟨(some 49), .conv .i64 (.t 48), none⟩,
         ⟨(some 8), .mov (.t 49), none⟩])) <|
    .seq
    (.seq
     (.region [⟨(some 50), .mov (.t 4), none⟩,
        ⟨(some 51), .nilck (.t 50), none⟩,
        ⟨(some 52), .faddr 1 (.t 51), none⟩,
        ⟨(some 53), .load false 1 (.t 52), none⟩]) <|
     .cond (.t 53)
      (.seq
       (.region [⟨(some 2), .mov (.c (.sl none 0 (some 0))), none⟩,
          ⟨(some 3), .mov (.c (.int .i64 5)), none⟩]) <|
       .ret)
      (.skip)) <|
    .region [⟨(some 54), .mov (.t 6), none⟩,
      ⟨(some 55), .mov (.t 8), none⟩,
      ⟨(some 56), .buildSl 1 [(.int .i64 0)] [(0, 1, (.t 55))], none⟩,
      ⟨(some 57), .app 1 8 (.t 54) (.t 56), none⟩,
      ⟨(some 6), .mov (.t 57), none⟩]) <|
   .region [⟨(some 58), .bin .add (.t 26) (.c (.int .i64 1)), none⟩,
     ⟨(some 26), .mov (.t 58), none⟩]) <|
 .seq
 (.seq
  (.region [⟨(some 59), .mov (.t 4), none⟩,
     ⟨(some 60), .nilck (.t 59), none⟩,
     ⟨(some 61), .faddr 0 (.t 60), none⟩,
     ⟨(some 62), .load false 1 (.t 61), none⟩,
     ⟨(some 63), .len .sl (.t 62), none⟩,
     ⟨(some 64), .bin .gtr (.t 63) (.c (.int .i64 0)), none⟩]) <|
  .cond (.t 64)
   (.seq
    (.region [⟨(some 2), .mov (.c (.sl none 0 (some 0))), none⟩,
       ⟨(some 3), .mov (.c (.int .i64 5)), none⟩]) <|
    .ret)
   (.skip)) <|
 .seq
 (.region [⟨(some 65), .mov (.t 6), none⟩,
    ⟨(some 2), .mov (.t 65), none⟩,
    ⟨(some 3), .mov (.c (.int .i64 0)), none⟩]) <|
 .ret, [.slot 2, .slot 3]⟩
theorem c12 : Code1 Try.prog 12 66 b12 := Code1.mk' Try.func12 (by kernel_rfl) (by kernel_rfl) Try.ntmps12

/-- fusee/fuseeref28.Bytes -/
def b13 : IFn := ⟨
 .seq
 (.region [⟨(some 2), .mov (.c (.sl none 0 (some 0))), none⟩]) <|
 .seq
 (.region [⟨(some 6), .mov (.t 0), none⟩,
    ⟨(some 7), .len .sl (.t 6), none⟩,
    ⟨(some 8), .conv .u64 (.t 7), none⟩,
    ⟨(some 9), .call (.f 21) [(.t 8)], none⟩,
    ⟨(some 3), .mov (.t 9), none⟩]) <|
 .seq
 (.seq
  (.region [⟨(some 10), .mov (.t 0), none⟩,
     ⟨(some 11), .len .sl (.t 10), none⟩,
     ⟨(some 12), .mov (.c (.int .i64 0)), none⟩]) <|
  .block 0 <|
  .loop [0, 3, 10, 11, 12] <|
   .seq
   (.region [⟨(some 13), .bin .lss (.t 12) (.t 11), none⟩]) <|
   .seq
   (.cond (.t 13)
     (.skip)
     (.exit 0)) <|
   .seq
   (.block 1 <|
    .seq
    (.region [⟨(some 14), .mov (.t 12), none⟩,
       ⟨(some 15), .iaddr 1 (.t 10) (.t 12), none⟩,
       ⟨(some 16), .load false 1 (.t 15), none⟩,
       ⟨(some 4), .mov (.t 14), none⟩,
       ⟨(some 5), .mov (.t 16), none⟩]) <|
    .seq
    (.region [⟨(some 17), .mov (.t 4), none⟩,
       ⟨(some 18), .bin .gtr (.t 17) (.c (.int .i64 0)), none⟩]) <|
    .cond (.t 18)
     (.region [⟨(some 19), .mov (.t 3), none⟩,
        ⟨(some 20), .mov (.t 5), none⟩,
        ⟨(some 21), .conv .u64 (.t 20), none⟩,
        ⟨(some 22), .mov (.t 0), none⟩,
        ⟨(some 23), .mov (.t 4), none⟩,
        ⟨(some 24), .bin .sub (.t 23) (.c (.int .i64 1)), none⟩,
        ⟨(some 25), .iaddr 1 (.t 22) (.t 24), none⟩,
        ⟨(some 26), .load false 1 (.t 25), none⟩,
        ⟨(some 27), .conv .u64 (.t 26), none⟩,
        ⟨(some 28), .bin .sub (.t 21) (.t 27), none⟩,
        ⟨(some 29), .call (.f 21) [(.t 28)], none⟩,
        ⟨(some 30), .app 1 1 (.t 19) (.t 29), none⟩,
        ⟨(some 3), .mov (.t 30), none⟩])
     (.seq
      (.region [⟨(some 31), .mov (.t 5), none⟩,
         ⟨(some 32), .bin .lss (.t 31) (.c (.int .i64 0)), none⟩]) <|
      .cond (.t 32)
       (.region [⟨(some 33), .mov (.t 3), none⟩,
          ⟨(some 34), .mov (.t 5), none⟩,
          ⟨(some 35), .un .neg (.t 34), none⟩,
          ⟨(some 36), .conv .u64 (.t 35), none⟩,
          ⟨(some 37), .bin .mul (.c (.int .u64 2)) (.t 36), none⟩,
          ⟨(some 38), .bin .sub (.t 37) (.c (.int .u64 1)), none⟩,
          ⟨(some 39), .call (.f 21) [(.t 38)], none⟩,
          ⟨(some 40), .app 1 1 (.t 33) (.t 39), none⟩,
          ⟨(some 3), .mov (.t 40), none⟩])
       (.region [⟨(some 41), .mov (.t 3), none⟩,
          ⟨(some 42), .mov (.t 5), none⟩,
          ⟨(some 43), .conv .u64 (.t 42), none⟩,
          ⟨(some 44), .bin .mul (.c (.int .u64 2)) (.t 43), none⟩,
          ⟨(some 45), .call (.f 21) [(.t 44)], none⟩,
          ⟨(some 46), .app 1 1 (.t 41) (.t 45), none⟩,
          ⟨(some 3), .mov (.t 46), none⟩]))) <|
   .region [⟨(some 47), .bin .add (.t 12) (.c (.int .i64 1)), none⟩,
     ⟨(some 12), .mov (.t 47), none⟩]) <|
 .seq
 (.region [⟨(some 48), .mov (.t 3), none⟩,
    ⟨(some 2), .mov (.t 48), none⟩]) <|
 .ret, [.slot 2]⟩
theorem c13 : Code1 Try.prog 13 49 b13 := Code1.mk' Try.func13 (by kernel_rfl) (by kernel_rfl) Try.ntmps13

/-- fusee/fuseelaw28.same -/
def b14 : IFn := ⟨
 .seq
 (.region [⟨(some 4), .mov (.c (.bool false)), none⟩]) <|
 .seq
 (.seq
  (.region [⟨(some 6), .mov (.t 0), none⟩,
     ⟨(some 7), .len .sl (.t 6), none⟩,
     ⟨(some 8), .mov (.t 1), none⟩,
     ⟨(some 9), .len .sl (.t 8), none⟩,
     ⟨(some 10), .bin .neq (.t 7) (.t 9), none⟩]) <|
  .cond (.t 10)
   (.seq
    (.region [⟨(some 4), .mov (.c (.bool false)), none⟩]) <|
    .ret)
   (.skip)) <|
 .seq
 (.seq
  (.region [⟨(some 11), .mov (.t 0), none⟩,
     ⟨(some 12), .len .sl (.t 11), none⟩,
     ⟨(some 13), .mov (.c (.int .i64 0)), none⟩]) <|
  .block 0 <|
  .loop [0, 1, 12, 13] <|
   .seq
   (.region [⟨(some 14), .bin .lss (.t 13) (.t 12), none⟩]) <|
   .seq
   (.cond (.t 14)
     (.skip)
     (.exit 0)) <|
   .seq
   (.block 1 <|
    .seq
    (.region [⟨(some 15), .mov (.t 13), none⟩,
       ⟨(some 5), .mov (.t 15), none⟩]) <|
    .seq
    (.draw false [0, 1, 12, 13, 24] (
       .op ⟨(some 16), .mov (.t 0), none⟩ <|
       .op ⟨(some 17), .mov (.t 5), none⟩ <|
       .op ⟨(some 18), .iaddr 1 (.t 16) (.t 17), none⟩ <|
       .op ⟨(some 19), .load false 1 (.t 18), none⟩ <|
       .op ⟨(some 20), .mov (.t 1), none⟩ <|
       .op ⟨(some 21), .mov (.t 5), none⟩ <|
       .op ⟨(some 22), .iaddr 1 (.t 20) (.t 21), none⟩ <|
       .op ⟨(some 23), .load false 1 (.t 22), none⟩ <|
       .op ⟨(some 24), .bin .neq (.t 19) (.t 23), none⟩ <|
       .done)) <|
    .cond (.t 24)
     (.seq
      (.region [⟨(some 4), .mov (.c (.bool false)), none⟩]) <|
      .ret)
     (.skip)) <|
   .region [⟨(some 25), .bin .add (.t 13) (.c (.int .i64 1)), none⟩,
     ⟨(some 13), .mov (.t 25), none⟩]) <|
 .seq
 (.region [⟨(some 4), .mov (.c (.bool true)), none⟩]) <|
 .ret, [.slot 4]⟩
theorem c14 : Code1 Try.prog 14 26 b14 := Code1.mk' Try.func14 (by kernel_rfl) (by kernel_rfl) Try.ntmps14

/-- fusee/stamp.Seek -/
def b15 : IFn := ⟨
 .seq
 (.region [⟨(some 4), .mov (.c (.int .i64 0)), none⟩,
    ⟨(some 5), .mov (.c (.bool false)), none⟩]) <|
 .seq
 (.region [⟨(some 11), .mov (.t 0), none⟩,
    ⟨(some 12), .call (.f 12) [(.t 11)], none⟩,
    ⟨(some 10), .mov (.t 12), none⟩,
    ⟨(some 13), .extract (.t 10) 0, none⟩,
    ⟨(some 14), .extract (.t 10) 1, none⟩,
    ⟨(some 6), .mov (.t 13), none⟩,
    ⟨(some 7), .mov (.t 14), none⟩]) <|
 .seq
 (.seq
  (.region [⟨(some 15), .mov (.t 7), none⟩,
     ⟨(some 16), .bin .neq (.t 15) (.c (.int .i64 0)), none⟩]) <|
  .cond (.t 16)
   (.seq
    (.region [⟨(some 4), .mov (.c (.int .i64 0)), none⟩,
       ⟨(some 5), .mov (.c (.bool false)), none⟩]) <|
    .ret)
   (.skip)) <|
 .seq
 (.region [⟨(some 18), .mov (.t 6), none⟩,
    ⟨(some 19), .mov (.t 1), none⟩,
    ⟨(some 20), .call (.f 22) [(.t 18), (.t 19)], none⟩,
    ⟨(some 17), .mov (.t 20), none⟩,
    ⟨(some 21), .extract (.t 17) 0, none⟩,
    ⟨(some 22), .extract (.t 17) 1, none⟩,
    ⟨(some 8), .mov (.t 21), none⟩,
    ⟨(some 9), .mov (.t 22), none⟩]) <|
 .seq
 (.seq
  (.region [⟨(some 23), .mov (.t 8), none⟩,
     ⟨(some 24), .mov (.t 6), none⟩,
     ⟨(some 25), .len .sl (.t 24), none⟩,
     ⟨(some 26), .bin .eql (.t 23) (.t 25), none⟩]) <|
  .cond (.t 26)
   (.seq
    (.region [⟨(some 4), .mov (.c (.int .i64 0)), none⟩,
       ⟨(some 5), .mov (.c (.bool false)), none⟩]) <|
    .ret)
   (.skip)) <|
 .seq
 (.region [⟨(some 27), .mov (.t 8), none⟩,
    ⟨(some 4), .mov (.t 27), none⟩,
    ⟨(some 5), .mov (.c (.bool true)), none⟩]) <|
 .ret, [.slot 4, .slot 5]⟩
theorem c15 : Code1 Try.prog 15 28 b15 := Code1.mk' Try.func15 (by kernel_rfl) (by kernel_rfl) Try.ntmps15

/-- fusee/stamp.check -/
def b16 : IFn := ⟨
 .seq
 (.region [⟨(some 2), .mov (.c (.int .i64 0)), none⟩]) <|
 .seq
 (.seq
  (.region [⟨(some 3), .mov (.t 0), none⟩,
     ⟨(some 4), .len .sl (.t 3), none⟩,
     ⟨(some 5), .bin .gtr (.t 4) (.c (.int .i64 4096)), none⟩]) <|
  .cond (.t 5)
   (.seq
    (.region [⟨(some 2), .mov (.c (.int .i64 10)), none⟩]) <|
    .ret)
   (.skip)) <|
 .seq
 (.seq
  (.region [⟨(some 6), .mov (.t 0), none⟩,
     ⟨(some 7), .call (.f 23) [(.t 6)], none⟩,
     ⟨(some 8), .un .not (.t 7), none⟩,
     ⟨(some 9), .mov (.t 8), none⟩,
     ⟨(some 10), .mov (.t 0), (some (9, false))⟩,
     ⟨(some 11), .len .sl (.t 10), (some (9, false))⟩,
     ⟨(some 12), .bin .gtr (.t 11) (.c (.int .i64 0)), (some (9, false))⟩,
     ⟨(some 13), .mov (.t 12), (some (9, false))⟩,
     ⟨(some 14), .mov (.t 0), (some (13, true))⟩,
     ⟨(some 15), .iaddr 1 (.t 14) (.c (.int .i64 0)), (some (13, true))⟩,
     ⟨(some 16), .load false 1 (.t 15), (some (13, true))⟩,
     ⟨(some 17), .bin .lss (.t 16) (.c (.int .i64 (-4611686018427387904))), (some (13, true))⟩,
     ⟨(some 18), .mov (.t 17), (some (13, true))⟩,
     ⟨(some 19), .mov (.t 0), (some (18, false))⟩,
     ⟨(some 20), .mov (.t 0), (some (18, false))⟩,
     ⟨(some 21), .len .sl (.t 20), (some (18, false))⟩,
     ⟨(some 22), .bin .sub (.t 21) (.c (.int .i64 1)), (some (18, false))⟩,
     ⟨(some 23), .iaddr 1 (.t 19) (.t 22), (some (18, false))⟩,
     ⟨(some 24), .load false 1 (.t 23), (some (18, false))⟩,
     ⟨(some 25), .bin .gtr (.t 24) (.c (.int .i64 4611686018427387904)), (some (18, false))⟩,
     ⟨(some 26), .pick (.t 18) (.c (.bool true)) (.t 25), (some (13, true))⟩,
     ⟨(some 27), .pick (.t 13) (.t 26) (.c (.bool false)), (some (9, false))⟩,
     ⟨(some 28), .pick (.t 9) (.c (.bool true)) (.t 27), none⟩]) <|
  .cond (.t 28)
   (.seq
    (.region [⟨(some 2), .mov (.c (.int .i64 2)), none⟩]) <|
    .ret)
   (.skip)) <|
 .seq
 (.region [⟨(some 2), .mov (.c (.int .i64 0)), none⟩]) <|
 .ret, [.slot 2]⟩
theorem c16 : Code1 Try.prog 16 29 b16 := Code1.mk' Try.func16 (by kernel_rfl) (by kernel_rfl) Try.ntmps16

/-- fusee/stamp.put -/
def b17 : IFn := ⟨
 .seq
 (.region [⟨(some 4), .mov (.c (.sl none 0 (some 0))), none⟩]) <|
 .seq
 (.block 0 <|
  .loop [0, 1] <|
   .seq
   (.seq
    (.region [⟨(some 5), .mov (.t 1), none⟩,
       ⟨(some 6), .bin .gtr (.t 5) (.c (.int .u64 127)), none⟩]) <|
    .cond (.t 6)
     (.skip)
     (.exit 0)) <|
   .seq
   (.block 1 <|
    .region [⟨(some 9), .mov (.t 0), none⟩,
      ⟨(some 10), .mov (.t 1), none⟩,
      ⟨(some 11), .bin .and (.t 10) (.c (.int .u64 127)), none⟩,
      ⟨(some 12), .bin .or (.t 11) (.c (.int .u64 128)), none⟩,
      ⟨(some 13), .conv .u8 (.t 12), none⟩,
      ⟨(some 14), .buildSl 1 [(.int .u8 0)] [(0, 1, (.t 13))], none⟩,
      ⟨(some 15), .app 1 1 (.t 9) (.t 14), none⟩,
      ⟨(some 0), .mov (.t 15), none⟩]) <|
   .region [⟨(some 7), .mov (.t 1), none⟩,
     ⟨(some 8), .bin .shr (.t 7) (.c (.int .u64 7)), none⟩,
     ⟨(some 1), .mov (.t 8), none⟩]) <|
 .seq
 (.region [⟨(some 16), .mov (.t 0), none⟩,
    ⟨(some 17), .mov (.t 1), none⟩,
    ⟨(some 18), .conv .u8 (.t 17), none⟩,
    ⟨(some 19), .buildSl 1 [(.int .u8 0)] [(0, 1, (.t 18))], none⟩,
    ⟨(some 20), .app 1 1 (.t 16) (.t 19), none⟩,
    ⟨(some 4), .mov (.t 20), none⟩]) <|
 .ret, [.slot 4]⟩
theorem c17 : Code1 Try.prog 17 21 b17 := Code1.mk' Try.func17 (by kernel_rfl) (by kernel_rfl) Try.ntmps17

/-- fusee/stamp.signed -/
def b18 : IFn := ⟨
 .seq
 (.region [⟨(some 2), .mov (.c (.int .u64 0)), none⟩]) <|
 .seq
 (.seq
  (.region [⟨(some 3), .mov (.t 0), none⟩,
     ⟨(some 4), .bin .lss (.t 3) (.c (.int .i64 0)), none⟩]) <|
  .cond (.t 4)
   (.seq
    (.region [⟨(some 5), .mov (.t 0), none⟩,
       ⟨(some 6), .un .neg (.t 5), none⟩,
       ⟨(some 7), .conv .u64 (.t 6), none⟩,
       ⟨(some 8), .bin .mul (.c (.int .u64 2)) (.t 7), none⟩,
       ⟨(some 9), .bin .sub (.t 8) (.c (.int .u64 1)), none⟩,
       ⟨(some 2), .mov (.t 9), none⟩]) <|
    .ret)
   (.skip)) <|
 .seq
 (.region [⟨(some 10), .mov (.t 0), none⟩,
    ⟨(some 11), .conv .u64 (.t 10), none⟩,
    ⟨(some 12), .bin .mul (.c (.int .u64 2)) (.t 11), none⟩,
    ⟨(some 2), .mov (.t 12), none⟩]) <|
 .ret, [.slot 2]⟩
theorem c18 : Code1 Try.prog 18 13 b18 := Code1.mk' Try.func18 (by kernel_rfl) (by kernel_rfl) Try.ntmps18

/-- fusee/stamp.reader.number -/
def b19 : IFn := ⟨
 .seq
 (.region [⟨(some 2), .mov (.c (.int .u64 0)), none⟩]) <|
 .seq
 (.region [⟨(some 6), .mov (.t 0), none⟩,
    ⟨(some 7), .nilck (.t 6), none⟩,
    ⟨(some 8), .faddr 0 (.t 7), none⟩,
    ⟨(some 9), .load false 1 (.t 8), none⟩,
    ⟨(some 10), .call (.f 24) [(.t 9)], none⟩,
    ⟨(some 5), .mov (.t 10), none⟩,
    ⟨(some 11), .extract (.t 5) 0, none⟩,
    ⟨(some 12), .extract (.t 5) 1, none⟩,
    ⟨(some 3), .mov (.t 11), none⟩,
    ⟨(some 4), .mov (.t 12), none⟩]) <|
 .seq
 (.seq
  (.region [⟨(some 13), .mov (.t 4), none⟩,
     ⟨(some 14), .bin .eql (.t 13) (.c (.int .i64 0)), none⟩]) <|
  .cond (.t 14)
   (.seq
    (.region [⟨(some 15), .mov (.t 0), none⟩,
       ⟨(some 16), .nilck (.t 15), none⟩,
       ⟨(some 17), .faddr 1 (.t 16), none⟩,
       ⟨none, .store 1 (.t 17) (.c (.bool true)), none⟩]) <|
    .seq
    (.region [⟨(some 2), .mov (.c (.int .u64 0)), none⟩]) <|
    .ret)
   (.skip)) <|
 .seq
 (.region [⟨(some 18), .mov (.t 0), none⟩,
    ⟨(some 19), .mov (.t 0), none⟩,
    ⟨(some 20), .nilck (.t 19), none⟩,
    ⟨(some 21), .faddr 0 (.t 20), none⟩,
    ⟨(some 22), .load false 1 (.t 21), none⟩,
    ⟨(some 23), .mov (.t 4), none⟩,
    ⟨(some 24), .slice 1 (.t 22) (some (.t 23)) none none, none⟩,
    ⟨(some 25), .nilck (.t 18), none⟩,
    ⟨(some 26), .faddr 0 (.t 25), none⟩,
    ⟨none, .store 1 (.t 26) (.t 24), none⟩]) <|
 .seq
 (.region [⟨(some 27), .mov (.t 3), none⟩,
    ⟨(some 2), .mov (.t 27), none⟩]) <|
 .ret, [.slot 2]⟩
theorem c19 : Code1 Try.prog 19 28 b19 := Code1.mk' Try.func19 (by kernel_rfl) (by kernel_rfl) Try.ntmps19

/-- fusee/stamp.reader.first -/
def b20 : IFn := ⟨
 .seq
 (.region [⟨(some 2), .mov (.c (.int .i64 0)), none⟩]) <|
 .seq
 (.region [⟨(some 5), .mov (.t 0), none⟩,
    ⟨(some 6), .call (.f 19) [(.t 5)], none⟩,
    ⟨(some 3), .mov (.t 6), none⟩]) <|
 .seq
 (.region [⟨(some 7), .mov (.t 3), none⟩,
    ⟨(some 8), .bin .shr (.t 7) (.c (.int .u64 1)), none⟩,
    ⟨(some 9), .conv .i64 (.t 8), none⟩,
    ⟨(some 4), .mov (.t 9), none⟩]) <|
 .seq
 (.seq
  (.region [⟨(some 10), .mov (.t 3), none⟩,
     ⟨(some 11), .bin .and (.t 10) (.c (.int .u64 1)), none⟩,
     ⟨(some 12), .bin .eql (.t 11) (.c (.int .u64 1)), none⟩]) <|
  .cond (.t 12)
   (.region [⟨(some 13), .mov (.t 4), none⟩,
      ⟨(some 14), .un .neg (.t 13), none⟩,
      ⟨(some 15), .bin .sub (.t 14) (.c (.int .i64 1)), none⟩,
      ⟨(some 4), .mov (.t 15), none⟩])
   (.skip)) <|
 .seq
 (.region [⟨(some 16), .mov (.t 0), none⟩,
    ⟨(some 17), .mov (.t 0), none⟩,
    ⟨(some 18), .nilck (.t 17), none⟩,
    ⟨(some 19), .faddr 1 (.t 18), none⟩,
    ⟨(some 20), .load false 1 (.t 19), none⟩,
    ⟨(some 21), .mov (.t 20), none⟩,
    ⟨(some 22), .mov (.t 4), (some (21, false))⟩,
    ⟨(some 23), .bin .lss (.t 22) (.c (.int .i64 (-4611686018427387904))), (some (21, false))⟩,
    ⟨(some 24), .pick (.t 21) (.c (.bool true)) (.t 23), none⟩,
    ⟨(some 25), .mov (.t 24), none⟩,
    ⟨(some 26), .mov (.t 4), (some (25, false))⟩,
    ⟨(some 27), .bin .gtr (.t 26) (.c (.int .i64 4611686018427387904)), (some (25, false))⟩,
    ⟨(some 28), .pick (.t 25) (.c (.bool true)) (.t 27), none⟩,
    ⟨(some 29), .nilck (.t 16), none⟩,
    ⟨(some 30), .faddr 1 (.t 29), none⟩,
    ⟨none, .store 1 (.t 30) (.t 28), none⟩]) <|
 .seq
 (.region [⟨(some 31), .mov (.t 4), none⟩,
    ⟨(some 2), .mov (.t 31), none⟩]) <|
 .ret, [.slot 2]⟩
theorem c20 : Code1 Try.prog 20 32 b20 := Code1.mk' Try.func20 (by kernel_rfl) (by kernel_rfl) Try.ntmps20

/-- fusee/fuseeref28.Number -/
def b21 : IFn := ⟨
 .seq
 (.region [⟨(some 2), .mov (.c (.sl none 0 (some 0))), none⟩]) <|
 .seq
 (.seq
  (.region [⟨(some 3), .mov (.t 0), none⟩,
     ⟨(some 4), .bin .lss (.t 3) (.c (.int .u64 128)), none⟩]) <|
  .cond (.t 4)
   (.seq
    (.region [⟨(some 5), .mov (.t 0), none⟩,
       ⟨(some 6), .conv .u8 (.t 5), none⟩,
       ⟨(some 7), .buildSl 1 [(.int .u8 0)] [(0, 1, (.t 6))], none⟩,
       ⟨(some 2), .mov (.t 7), none⟩]) <|
    .ret)
   (.skip)) <|
 .seq
 (.region [⟨(some 8), .mov (.t 0), none⟩,
    ⟨(some 9), .bin .rem (.t 8) (.c (.int .u64 128)), none⟩,
    ⟨(some 10), .bin .add (.t 9) (.c (.int .u64 128)), none⟩,
    ⟨(some 11), .conv .u8 (.t 10), none⟩,
    ⟨(some 12), .buildSl 1 [(.int .u8 0)] [(0, 1, (.t 11))], none⟩,
    ⟨(some 13), .mov (.t 0), none⟩,
    ⟨(some 14), .bin .quo (.t 13) (.c (.int .u64 128)), none⟩,
    ⟨(some 15), .call (.f 21) [(.t 14)], none⟩,
    ⟨(some 16), .app 1 1 (.t 12) (.t 15), none⟩,
    ⟨(some 2), .mov (.t 16), none⟩]) <|
 .ret, [.slot 2]⟩
theorem c21 : Code1 Try.prog 21 17 b21 := Code1.mk' Try.func21 (by kernel_rfl) (by kernel_rfl) Try.ntmps21

/-- slices.BinarySearch[[]int,int] -/
def b22 : IFn := ⟨
 .seq
 (.region [⟨(some 4), .mov (.c (.int .i64 0)), none⟩,
    ⟨(some 5), .mov (.c (.bool false)), none⟩]) <|
 .seq
 (.region [⟨(some 10), .mov (.t 0), none⟩,
    ⟨(some 11), .len .sl (.t 10), none⟩,
    ⟨(some 6), .mov (.t 11), none⟩]) <|
 .seq
 (.region [⟨(some 12), .mov (.t 6), none⟩,
    ⟨(some 7), .mov (.c (.int .i64 0)), none⟩,
    ⟨(some 8), .mov (.t 12), none⟩]) <|
 .seq
 (.block 0 <|
  .loop [0, 1, 6, 7, 8] <|
   .seq
   (.seq
    (.region [⟨(some 13), .mov (.t 7), none⟩,
       ⟨(some 14), .mov (.t 8), none⟩,
       ⟨(some 15), .bin .lss (.t 13) (.t 14), none⟩]) <|
    .cond (.t 15)
     (.skip)
     (.exit 0)) <|
   .block 1 <|
   .seq
   (.region [⟨(some 16), .mov (.t 7), none⟩,
      ⟨(some 17), .mov (.t 8), none⟩,
      ⟨(some 18), .bin .add (.t 16) (.t 17), none⟩,
      ⟨(some 19), .conv .u64 (.t 18), none⟩,
      ⟨(some 20), .bin .shr (.t 19) (.c (.int .u64 1)), none⟩,
      ⟨(some 21), .conv .i64 (.t 20), none⟩,
      ⟨(some 9), .mov (.t 21), none⟩]) <|
   .seq
   (.region [⟨(some 22), .mov (.t 0), none⟩,
      ⟨(some 23), .mov (.t 9), none⟩,
      ⟨(some 24), .iaddr 1 (.t 22) (.t 23), none⟩,
      ⟨(some 25), .load false 1 (.t 24), none⟩,
      ⟨(some 26), .mov (.t 1), none⟩,
      ⟨(some 27), .call (.f 25) [(.t 25), (.t 26)], none⟩]) <|
   .cond (.t 27)
    (.region [⟨(some 28), .mov (.t 9), none⟩,
       ⟨(some 29), .bin .add (.t 28) (.c (.int .i64 1)), none⟩,
       ⟨(some 7), .mov (.t 29), none⟩])
    (.region [⟨(some 30), .mov (.t 9), none⟩,
       ⟨(some 8), .mov (.t 30), none⟩])) <|
 .seq
 (.region [⟨(some 31), .mov (.t 7), none⟩,
    ⟨(some 32), .mov (.t 7), none⟩,
    ⟨(some 33), .mov (.t 6), none⟩,
    ⟨(some 34), .bin .lss (.t 32) (.t 33), none⟩,
    ⟨(some 35), .mov (.t 34), none⟩,
    ⟨(some 36), .mov (.t 0), (some (35, true))⟩,
    ⟨(some 37), .mov (.t 7), (some (35, true))⟩,
    ⟨(some 38), .iaddr 1 (.t 36) (.t 37), (some (35, true))⟩,
    ⟨(some 39), .load false 1 (.t 38), (some (35, true))⟩,
    ⟨(some 40), .mov (.t 1), (some (35, true))⟩,
    ⟨(some 41), .bin .eql (.t 39) (.t 40), (some (35, true))⟩,
    ⟨(some 42), .mov (.t 41), (some (35, true))⟩,
    ⟨(some 43), .mov (.t 0), (some (42, false))⟩,
    ⟨(some 44), .mov (.t 7), (some (42, false))⟩,
    ⟨(some 45), .iaddr 1 (.t 43) (.t 44), (some (42, false))⟩,
    ⟨(some 46), .load false 1 (.t 45), (some (42, false))⟩,
    ⟨(some 47), .call (.f 26) [(.t 46)], (some (42, false))⟩,
    ⟨(some 48), .mov (.t 47), (some (42, false))⟩,
    ⟨(some 49), .mov (.t 1), (some (48, true))⟩,
    ⟨(some 50), .call (.f 26) [(.t 49)], (some (48, true))⟩,
    ⟨(some 51), .pick (.t 48) (.t 50) (.c (.bool false)), (some (42, false))⟩,
    ⟨(some 52), .pick (.t 42) (.c (.bool true)) (.t 51), (some (35, true))⟩,
    ⟨(some 53), .pick (.t 35) (.t 52) (.c (.bool false)), none⟩,
    ⟨(some 4), .mov (.t 31), none⟩,
    ⟨(some 5), .mov (.t 53), none⟩]) <|
 .ret, [.slot 4, .slot 5]⟩
theorem c22 : Code1 Try.prog 22 54 b22 := Code1.mk' Try.func22 (by kernel_rfl) (by kernel_rfl) Try.ntmps22

/-- slices.IsSorted[[]int,int] -/
def b23 : IFn := ⟨
 .seq
 (.region [⟨(some 2), .mov (.c (.bool false)), none⟩]) <|
 .seq
 (.seq
  (.region [⟨(some 4), .mov (.t 0), none⟩,
     ⟨(some 5), .len .sl (.t 4), none⟩,
     ⟨(some 6), .bin .sub (.t 5) (.c (.int .i64 1)), none⟩,
     ⟨(some 3), .mov (.t 6), none⟩]) <|
  .block 0 <|
  .loop [0, 3] <|
   .seq
   (.seq
    (.region [⟨(some 7), .mov (.t 3), none⟩,
       ⟨(some 8), .bin .gtr (.t 7) (.c (.int .i64 0)), none⟩]) <|
    .cond (.t 8)
     (.skip)
     (.exit 0)) <|
   .seq
   (.block 1 <|
    .seq
    (.draw false [0, 3, 20] (
       .op ⟨(some 11), .mov (.t 0), none⟩ <|
       .op ⟨(some 12), .mov (.t 3), none⟩ <|
       .op ⟨(some 13), .iaddr 1 (.t 11) (.t 12), none⟩ <|
       .op ⟨(some 14), .load false 1 (.t 13), none⟩ <|
       .op ⟨(some 15), .mov (.t 0), none⟩ <|
       .op ⟨(some 16), .mov (.t 3), none⟩ <|
       .op ⟨(some 17), .bin .sub (.t 16) (.c (.int .i64 1)), none⟩ <|
       .op ⟨(some 18), .iaddr 1 (.t 15) (.t 17), none⟩ <|
       .op ⟨(some 19), .load false 1 (.t 18), none⟩ <|
       .op ⟨(some 20), .call (.f 25) [(.t 14), (.t 19)], none⟩ <|
       .done)) <|
    .cond (.t 20)
     (.seq
      (.region [⟨(some 2), .mov (.c (.bool false)), none⟩]) <|
      .ret)
     (.skip)) <|
   .region [⟨(some 9), .mov (.t 3), none⟩,
     ⟨(some 10), .bin .sub (.t 9) (.c (.int .i64 1)), none⟩,
     ⟨(some 3), .mov (.t 10), none⟩]) <|
 .seq
 (.region [⟨(some 2), .mov (.c (.bool true)), none⟩]) <|
 .ret, [.slot 2]⟩
theorem c23 : Code1 Try.prog 23 21 b23 := Code1.mk' Try.func23 (by kernel_rfl) (by kernel_rfl) Try.ntmps23

/-- fusee/stamp.take -/
def b24 : IFn := ⟨
 .seq
 (.region [⟨(some 2), .mov (.c (.int .u64 0)), none⟩,
    ⟨(some 3), .mov (.c (.int .i64 0)), none⟩]) <|
 .seq
 (.region [⟨(some 4), .mov (.c (.int .u64 0)), none⟩]) <|
 .seq
 (.seq
  (.region [⟨(some 7), .mov (.t 0), none⟩,
     ⟨(some 8), .len .sl (.t 7), none⟩,
     ⟨(some 9), .mov (.c (.int .i64 0)), none⟩]) <|
  .block 0 <|
  .loop [4, 7, 8, 9] <|
   .seq
   (.region [⟨(some 10), .bin .lss (.t 9) (.t 8), none⟩]) <|
   .seq
   (.cond (.t 10)
     (.skip)
     (.exit 0)) <|
   .seq
   (.block 1 <|
    .seq
    (.region [⟨(some 11), .mov (.t 9), none⟩,
       ⟨(some 12), .iaddr 1 (.t 7) (.t 9), none⟩,
       ⟨(some 13), .load false 1 (.t 12), none⟩,
       ⟨(some 5), .mov (.t 11), none⟩,
       ⟨(some 6), .mov (.t 13), none⟩]) <|
    .seq
    (.seq
     (.region [⟨(some 14), .mov (.t 5), none⟩,
        ⟨(some 15), .bin .gtr (.t 14) (.c (.int .i64 9)), none⟩,
        ⟨(some 16), .mov (.t 15), none⟩,
        ⟨(some 17), .mov (.t 5), (some (16, false))⟩,
        ⟨(some 18), .bin .eql (.t 17) (.c (.int .i64 9)), (some (16, false))⟩,
        ⟨(some 19), .mov (.t 18), (some (16, false))⟩,
        ⟨(some 20), .mov (.t 6), (some (19, true))⟩,
        ⟨(some 21), .bin .gtr (.t 20) (.c (.int .u8 1)), (some (19, true))⟩,
        ⟨(some 22), .pick (.t 19) (.t 21) (.c (.bool false)), (some (16, false))⟩,
        ⟨(some 23), .pick (.t 16) (.c (.bool true)) (.t 22), none⟩]) <|
     .cond (.t 23)
      (.seq
       (.region [⟨(some 2), .mov (.c (.int .u64 0)), none⟩,
          ⟨(some 3), .mov (.c (.int .i64 0)), none⟩]) <|
       .ret)
      (.skip)) <|
    .seq
    (.region [⟨(some 24), .mov (.t 4), none⟩,
       ⟨(some 25), .mov (.t 6), none⟩,
       ⟨(some 26), .bin .and (.t 25) (.c (.int .u8 127)), none⟩,
       ⟨(some 27), .conv .u64 (.t 26), none⟩,
       ⟨(some 28), .mov (.t 5), none⟩,
       ⟨(some 29), .bin .mul (.c (.int .i64 7)) (.t 28), none⟩,
       ⟨(some 30), .conv .u64 (.t 29), none⟩,
       ⟨(some 31), .bin .shl (.t 27) (.t 30), none⟩,
       ⟨(some 32), .bin .or (.t 24) (.t 31), none⟩,
       ⟨(some 4), .mov (.t 32), none⟩]) <|
    .seq
    (.region [⟨(some 33), .mov (.t 6), none⟩,
       ⟨(some 34), .bin .lss (.t 33) (.c (.int .u8 128)), none⟩]) <|
    .cond (.t 34)
     (.seq
      (.seq
       (.region [⟨(some 35), .mov (.t 6), none⟩,
          ⟨(some 36), .bin .eql (.t 35) (.c (.int .u8 0)), none⟩,
          ⟨(some 37), .mov (.t 36), none⟩,
          ⟨(some 38), .mov (.t 5), (some (37, true))⟩,
          ⟨(some 39), .bin .gtr (.t 38) (.c (.int .i64 0)), (some (37, true))⟩,
          ⟨(some 40), .pick (.t 37) (.t 39) (.c (.bool false)), none⟩]) <|
       .cond (.t 40)
        (.seq
         (.region [⟨(some 2), .mov (.c (.int .u64 0)), none⟩,
            ⟨(some 3), .mov (.c (.int .i64 0)), none⟩]) <|
         .ret)
        (.skip)) <|
      .seq
      (.region [⟨(some 41), .mov (.t 4), none⟩,
         ⟨(some 42), .mov (.t 5), none⟩,
         ⟨(some 43), .bin .add (.t 42) (.c (.int .i64 1)), none⟩,
         ⟨(some 2), .mov (.t 41), none⟩,
         ⟨(some 3), .mov (.t 43), none⟩]) <|
      .ret)
     (.skip)) <|
   .region [⟨(some 44), .bin .add (.t 9) (.c (.int .i64 1)), none⟩,
     ⟨(some 9), .mov (.t 44), none⟩]) <|
 .seq
 (.region [⟨(some 2), .mov (.c (.int .u64 0)), none⟩,
    ⟨(some 3), .mov (.c (.int .i64 0)), none⟩]) <|
 .ret, [.slot 2, .slot 3]⟩
theorem c24 : Code1 Try.prog 24 45 b24 := Code1.mk' Try.func24 (by kernel_rfl) (by kernel_rfl) Try.ntmps24

/-- cmp.Less[int] -/
def b25 : IFn := ⟨
 .seq
 (.region [⟨(some 4), .mov (.c (.bool false)), none⟩]) <|
 .seq
 (.region [⟨(some 5), .mov (.t 0), none⟩,
    ⟨(some 6), .call (.f 27) [(.t 5)], none⟩,
    ⟨(some 7), .mov (.t 6), none⟩,
    ⟨(some 8), .mov (.t 1), (some (7, true))⟩,
    ⟨(some 9), .call (.f 27) [(.t 8)], (some (7, true))⟩,
    ⟨(some 10), .un .not (.t 9), (some (7, true))⟩,
    ⟨(some 11), .pick (.t 7) (.t 10) (.c (.bool false)), none⟩,
    ⟨(some 12), .mov (.t 11), none⟩,
    ⟨(some 13), .mov (.t 0), (some (12, false))⟩,
    ⟨(some 14), .mov (.t 1), (some (12, false))⟩,
    ⟨(some 15), .bin .lss (.t 13) (.t 14), (some (12, false))⟩,
    ⟨(some 16), .pick (.t 12) (.c (.bool true)) (.t 15), none⟩,
    ⟨(some 4), .mov (.t 16), none⟩]) <|
 .ret, [.slot 4]⟩
theorem c25 : Code1 Try.prog 25 17 b25 := Code1.mk' Try.func25 (by kernel_rfl) (by kernel_rfl) Try.ntmps25

/-- slices.isNaN[int] -/
def b26 : IFn := ⟨
 .seq
 (.region [⟨(some 2), .mov (.c (.bool false)), none⟩]) <|
 .seq
 (.region [⟨(some 3), .mov (.t 0), none⟩,
    ⟨(some 4), .mov (.t 0), none⟩,
    ⟨(some 5), .bin .neq (.t 3) (.t 4), none⟩,
    ⟨(some 2), .mov (.t 5), none⟩]) <|
 .ret, [.slot 2]⟩
theorem c26 : Code1 Try.prog 26 6 b26 := Code1.mk' Try.func26 (by kernel_rfl) (by kernel_rfl) Try.ntmps26

/-- cmp.isNaN[int] -/
def b27 : IFn := ⟨
 .seq
 (.region [⟨(some 2), .mov (.c (.bool false)), none⟩]) <|
 .seq
 (.region [⟨(some 3), .mov (.t 0), none⟩,
    ⟨(some 4), .mov (.t 0), none⟩,
    ⟨(some 5), .bin .neq (.t 3) (.t 4), none⟩,
    ⟨(some 2), .mov (.t 5), none⟩]) <|
 .ret, [.slot 2]⟩
theorem c27 : Code1 Try.prog 27 6 b27 := Code1.mk' Try.func27 (by kernel_rfl) (by kernel_rfl) Try.ntmps27

/-- The functions that the facts at the head of each statement call. -/
abbrev code : CodeL := [(8, 77, b8), (9, 43, b9), (10, 32, b10), (11, 12, b11), (12, 66, b12), (13, 49, b13), (15, 28, b15), (16, 29, b16), (17, 21, b17), (18, 13, b18), (19, 28, b19), (20, 32, b20), (21, 17, b21), (22, 54, b22), (23, 21, b23), (24, 45, b24), (25, 17, b25), (26, 6, b26), (27, 6, b27)]
theorem codeOk : CodeOk Try.prog code := ⟨c8, c9, c10, c11, c12, c13, c15, c16, c17, c18, c19, c20, c21, c22, c23, c24, c25, c26, c27, trivial⟩

end Go.Proofs.Ytdjofnipknioiaa
