/-
  THE CODE of the functions of this seat, as the plain machine's; each is what the compiler makes of the program's.
-/
import Derived.Test.YthclgfhlfmbjfaaChecked
import Derived.Test.YthclgfhlfmbjfaaAm20
import Derived.KernelRfl
namespace Go.Proofs.Ythclgfhlfmbjfaa
open Go Go.AM
set_option linter.unusedVariables false

theorem hm : Try.prog.follows .mixedOrders = true := by kernel_rfl

/-- fusee/fuseelaw35.RingKeeps -/
def b3 : IFn := ⟨
 .seq
 (.region [⟨(some 10), .mov (.c (.bool false)), none⟩]) <|
 .seq
 (.seq
  (.region [⟨(some 33), .call (.f 5) [], none⟩,
     ⟨(some 34), .un .not (.t 33), none⟩]) <|
  .cond (.t 34)
   (.seq
    (.region [⟨(some 10), .mov (.c (.bool false)), none⟩]) <|
    .ret)
   (.skip)) <|
 .seq
 (.seq
  (.region [⟨(some 35), .mov (.t 1), none⟩,
     ⟨(some 36), .len .sl (.t 35), none⟩,
     ⟨(some 37), .bin .gtr (.t 36) (.c (.int .i64 200)), none⟩]) <|
  .cond (.t 37)
   (.seq
    (.region [⟨(some 10), .mov (.c (.bool true)), none⟩]) <|
    .ret)
   (.skip)) <|
 .seq
 (.region [⟨(some 38), .mov (.t 0), none⟩,
    ⟨(some 39), .call (.f 6) [(.t 38)], none⟩,
    ⟨(some 11), .mov (.t 39), none⟩]) <|
 .seq
 (.seq
  (.region [⟨(some 40), .mov (.t 0), none⟩,
     ⟨(some 41), .bin .lss (.t 40) (.c (.int .i64 1)), none⟩,
     ⟨(some 42), .mov (.t 41), none⟩,
     ⟨(some 43), .mov (.t 0), (some (42, false))⟩,
     ⟨(some 44), .bin .gtr (.t 43) (.c (.int .i64 4096)), (some (42, false))⟩,
     ⟨(some 45), .pick (.t 42) (.c (.bool true)) (.t 44), none⟩]) <|
  .cond (.t 45)
   (.seq
    (.region [⟨(some 47), .mov (.t 11), none⟩,
       ⟨(some 48), .mov (.t 2), none⟩,
       ⟨(some 49), .call (.f 7) [(.t 47), (.t 48)], none⟩,
       ⟨(some 46), .mov (.t 49), none⟩,
       ⟨(some 50), .extract (.t 46) 0, none⟩,
       ⟨(some 51), .extract (.t 46) 1, none⟩,
       ⟨(some 12), .alloc [(.int .i64 0), (.int .i64 0), (.int .i64 0)], none⟩,
       ⟨none, .store 3 (.t 12) (.t 50), none⟩,
       ⟨(some 13), .mov (.t 51), none⟩]) <|
    .seq
    (.region [⟨(some 52), .mov (.t 11), none⟩,
       ⟨(some 53), .eq false false [.ptr] (.t 52) (.c (.ptr none)), none⟩,
       ⟨(some 54), .mov (.t 53), none⟩,
       ⟨(some 55), .mov (.t 13), (some (54, true))⟩,
       ⟨(some 56), .un .not (.t 55), (some (54, true))⟩,
       ⟨(some 57), .pick (.t 54) (.t 56) (.c (.bool false)), none⟩,
       ⟨(some 58), .mov (.t 57), none⟩,
       ⟨(some 59), .mov (.t 11), (some (58, true))⟩,
       ⟨(some 60), .mov (.t 3), (some (58, true))⟩,
       ⟨(some 61), .call (.f 8) [(.t 59), (.t 60)], (some (58, true))⟩,
       ⟨(some 62), .len .sl (.t 61), (some (58, true))⟩,
       ⟨(some 63), .mov (.t 11), (some (58, true))⟩,
       ⟨(some 64), .mov (.t 4), (some (58, true))⟩,
       ⟨(some 65), .call (.f 9) [(.t 63), (.t 64)], (some (58, true))⟩,
       ⟨(some 66), .len .sl (.t 65), (some (58, true))⟩,
       ⟨(some 67), .bin .add (.t 62) (.t 66), (some (58, true))⟩,
       ⟨(some 68), .bin .eql (.t 67) (.c (.int .i64 0)), (some (58, true))⟩,
       ⟨(some 69), .pick (.t 58) (.t 68) (.c (.bool false)), none⟩,
       ⟨(some 10), .mov (.t 69), none⟩]) <|
    .ret)
   (.skip)) <|
 .seq
 (.region [⟨(some 14), .mov (.c (.sl none 0 (some 0))), none⟩]) <|
 .seq
 (.seq
  (.region [⟨(some 70), .mov (.t 1), none⟩,
     ⟨(some 71), .len .sl (.t 70), none⟩,
     ⟨(some 72), .mov (.c (.int .i64 0)), none⟩]) <|
  .block 0 <|
  .loop [0, 2, 3, 4, 11, 14, 70, 71, 72] <|
   .seq
   (.region [⟨(some 73), .bin .lss (.t 72) (.t 71), none⟩]) <|
   .seq
   (.cond (.t 73)
     (.skip)
     (.exit 0)) <|
   .seq
   (.block 1 <|
    .seq
    (.region [⟨(some 74), .mov (.t 72), none⟩,
       ⟨(some 75), .iaddr 2 (.t 70) (.t 72), none⟩,
       ⟨(some 76), .load true 2 (.t 75), none⟩,
       ⟨(some 16), .alloc [(.int .i64 0), (.int .i64 0)], none⟩,
       ⟨(some 15), .mov (.t 74), none⟩,
       ⟨none, .store 2 (.t 16) (.t 76), none⟩]) <|
    .seq
    (.region [⟨(some 77), .faddr 0 (.t 16), none⟩,
       ⟨(some 78), .load false 1 (.t 77), none⟩,
       ⟨(some 17), .mov (.t 78), none⟩]) <|
    .seq
    (.seq
     (.region [⟨(some 79), .mov (.t 15), none⟩,
        ⟨(some 80), .bin .gtr (.t 79) (.c (.int .i64 0)), none⟩]) <|
     .cond (.t 80)
      (.region [⟨(some 81), .mov (.t 17), none⟩,
         ⟨(some 82), .mov (.t 14), none⟩,
         ⟨(some 83), .mov (.t 15), none⟩,
         ⟨(some 84), .bin .sub (.t 83) (.c (.int .i64 1)), none⟩,
         ⟨(some 85), .iaddr 3 (.t 82) (.t 84), none⟩,
         ⟨(some 86), .faddr 1 (.t 85), none⟩,
         ⟨(some 87), .load false 1 (.t 86), none⟩,
         ⟨(some 88), .max [(.t 81), (.t 87)], none⟩,
         ⟨(some 17), .mov (.t 88), none⟩])
      (.skip)) <|
    .seq
    (.region [⟨(some 89), .mov (.t 14), none⟩,
       ⟨(some 90), .mov (.t 15), none⟩,
       ⟨(some 91), .bin .add (.t 90) (.c (.int .i64 1)), none⟩,
       ⟨(some 92), .mov (.t 17), none⟩,
       ⟨(some 93), .faddr 1 (.t 16), none⟩,
       ⟨(some 94), .load false 1 (.t 93), none⟩,
       ⟨(some 95), .build [(.int .i64 0), (.int .i64 0), (.int .i64 0)] [(0, 1, (.t 91)), (1, 1, (.t 92)), (2, 1, (.t 94))], none⟩,
       ⟨(some 96), .buildSl 3 [(.int .i64 0), (.int .i64 0), (.int .i64 0)] [(0, 3, (.t 95))], none⟩,
       ⟨(some 97), .app 3 24 (.t 89) (.t 96), none⟩,
       ⟨(some 14), .mov (.t 97), none⟩]) <|
    .seq
    (.region [⟨(some 98), .mov (.t 11), none⟩,
       ⟨(some 99), .faddr 0 (.t 16), none⟩,
       ⟨(some 100), .load false 1 (.t 99), none⟩,
       ⟨(some 101), .faddr 1 (.t 16), none⟩,
       ⟨(some 102), .load false 1 (.t 101), none⟩,
       ⟨(some 103), .call (.f 10) [(.t 98), (.t 100), (.t 102)], none⟩,
       ⟨(some 104), .mov (.t 15), none⟩,
       ⟨(some 105), .bin .add (.t 104) (.c (.int .i64 1)), none⟩,
       ⟨(some 106), .bin .neq (.t 103) (.t 105), none⟩]) <|
    .cond (.t 106)
     (.seq
      (.region [⟨(some 10), .mov (.c (.bool false)), none⟩]) <|
      .ret)
     (.skip)) <|
   .region [⟨(some 107), .bin .add (.t 72) (.c (.int .i64 1)), none⟩,
     ⟨(some 72), .mov (.t 107), none⟩]) <|
 .seq
 (.region [⟨(some 108), .mov (.t 14), none⟩,
    ⟨(some 109), .len .sl (.t 108), none⟩,
    ⟨(some 110), .mov (.t 0), none⟩,
    ⟨(some 111), .bin .sub (.t 109) (.t 110), none⟩,
    ⟨(some 112), .max [(.t 111), (.c (.int .i64 0))], none⟩,
    ⟨(some 18), .mov (.t 112), none⟩]) <|
 .seq
 (.region [⟨(some 113), .mov (.t 14), none⟩,
    ⟨(some 114), .mov (.t 18), none⟩,
    ⟨(some 115), .slice 3 (.t 113) (some (.t 114)) none none, none⟩,
    ⟨(some 19), .mov (.t 115), none⟩]) <|
 .seq
 (.region [⟨(some 20), .mov (.c (.sl none 0 (some 0))), none⟩,
    ⟨(some 21), .mov (.c (.sl none 0 (some 0))), none⟩]) <|
 .seq
 (.seq
  (.region [⟨(some 116), .mov (.t 19), none⟩,
     ⟨(some 117), .len .sl (.t 116), none⟩,
     ⟨(some 118), .mov (.c (.int .i64 0)), none⟩]) <|
  .block 2 <|
  .loop [2, 3, 4, 11, 14, 18, 19, 20, 21, 116, 117, 118] <|
   .seq
   (.region [⟨(some 119), .bin .lss (.t 118) (.t 117), none⟩]) <|
   .seq
   (.cond (.t 119)
     (.skip)
     (.exit 2)) <|
   .seq
   (.block 3 <|
    .seq
    (.region [⟨(some 120), .iaddr 3 (.t 116) (.t 118), none⟩,
       ⟨(some 121), .load true 3 (.t 120), none⟩,
       ⟨(some 23), .alloc [(.int .i64 0), (.int .i64 0), (.int .i64 0)], none⟩,
       ⟨none, .store 3 (.t 23) (.t 121), none⟩]) <|
    .seq
    (.seq
     (.region [⟨(some 122), .faddr 1 (.t 23), none⟩,
        ⟨(some 123), .load false 1 (.t 122), none⟩,
        ⟨(some 124), .mov (.t 4), none⟩,
        ⟨(some 125), .bin .geq (.t 123) (.t 124), none⟩]) <|
     .cond (.t 125)
      (.region [⟨(some 126), .mov (.t 20), none⟩,
         ⟨(some 127), .load true 3 (.t 23), none⟩,
         ⟨(some 128), .buildSl 3 [(.int .i64 0), (.int .i64 0), (.int .i64 0)] [(0, 3, (.t 127))], none⟩,
         ⟨(some 129), .app 3 24 (.t 126) (.t 128), none⟩,
         ⟨(some 20), .mov (.t 129), none⟩])
      (.skip)) <|
    .seq
    (.region [⟨(some 130), .faddr 0 (.t 23), none⟩,
       ⟨(some 131), .load false 1 (.t 130), none⟩,
       ⟨(some 132), .mov (.t 2), none⟩,
       ⟨(some 133), .bin .gtr (.t 131) (.t 132), none⟩]) <|
    .cond (.t 133)
     (.region [⟨(some 134), .mov (.t 21), none⟩,
        ⟨(some 135), .load true 3 (.t 23), none⟩,
        ⟨(some 136), .buildSl 3 [(.int .i64 0), (.int .i64 0), (.int .i64 0)] [(0, 3, (.t 135))], none⟩,
        ⟨(some 137), .app 3 24 (.t 134) (.t 136), none⟩,
        ⟨(some 21), .mov (.t 137), none⟩])
     (.skip)) <|
   .region [⟨(some 138), .bin .add (.t 118) (.c (.int .i64 1)), none⟩,
     ⟨(some 118), .mov (.t 138), none⟩]) <|
 .seq
 (.region [⟨(some 24), .mov (.c (.int .i64 0)), none⟩]) <|
 .seq
 (.seq
  (.region [⟨(some 139), .mov (.t 14), none⟩,
     ⟨(some 140), .mov (.t 18), none⟩,
     ⟨(some 141), .slice 3 (.t 139) none (some (.t 140)) none, none⟩,
     ⟨(some 142), .len .sl (.t 141), none⟩,
     ⟨(some 143), .mov (.c (.int .i64 0)), none⟩]) <|
  .block 4 <|
  .loop [2, 3, 4, 11, 14, 18, 19, 20, 21, 24, 141, 142, 143] <|
   .seq
   (.region [⟨(some 144), .bin .lss (.t 143) (.t 142), none⟩]) <|
   .seq
   (.cond (.t 144)
     (.skip)
     (.exit 4)) <|
   .seq
   (.block 5 <|
    .seq
    (.region [⟨(some 145), .iaddr 3 (.t 141) (.t 143), none⟩,
       ⟨(some 146), .load true 3 (.t 145), none⟩,
       ⟨(some 26), .alloc [(.int .i64 0), (.int .i64 0), (.int .i64 0)], none⟩,
       ⟨none, .store 3 (.t 26) (.t 146), none⟩]) <|
    .seq
    (.region [⟨(some 147), .faddr 0 (.t 26), none⟩,
       ⟨(some 148), .load false 1 (.t 147), none⟩,
       ⟨(some 149), .mov (.t 2), none⟩,
       ⟨(some 150), .bin .gtr (.t 148) (.t 149), none⟩]) <|
    .cond (.t 150)
     (.region [⟨(some 151), .mov (.t 24), none⟩,
        ⟨(some 152), .bin .add (.t 151) (.c (.int .i64 1)), none⟩,
        ⟨(some 24), .mov (.t 152), none⟩])
     (.skip)) <|
   .region [⟨(some 153), .bin .add (.t 143) (.c (.int .i64 1)), none⟩,
     ⟨(some 143), .mov (.t 153), none⟩]) <|
 .seq
 (.region [⟨(some 155), .mov (.t 11), none⟩,
    ⟨(some 156), .mov (.t 2), none⟩,
    ⟨(some 157), .call (.f 7) [(.t 155), (.t 156)], none⟩,
    ⟨(some 154), .mov (.t 157), none⟩,
    ⟨(some 158), .extract (.t 154) 0, none⟩,
    ⟨(some 159), .extract (.t 154) 1, none⟩,
    ⟨(some 27), .alloc [(.int .i64 0), (.int .i64 0), (.int .i64 0)], none⟩,
    ⟨none, .store 3 (.t 27) (.t 158), none⟩,
    ⟨(some 28), .mov (.t 159), none⟩]) <|
 .seq
 (.region [⟨(some 160), .mov (.t 2), none⟩,
    ⟨(some 161), .mov (.t 18), none⟩,
    ⟨(some 162), .bin .gtr (.t 160) (.t 161), none⟩,
    ⟨(some 163), .mov (.t 162), none⟩,
    ⟨(some 164), .mov (.t 2), (some (163, true))⟩,
    ⟨(some 165), .mov (.t 14), (some (163, true))⟩,
    ⟨(some 166), .len .sl (.t 165), (some (163, true))⟩,
    ⟨(some 167), .bin .leq (.t 164) (.t 166), (some (163, true))⟩,
    ⟨(some 168), .pick (.t 163) (.t 167) (.c (.bool false)), none⟩,
    ⟨(some 29), .mov (.t 168), none⟩]) <|
 .seq
 (.seq
  (.draw false [2, 3, 4, 11, 19, 20, 21, 24, 196] (
     .op ⟨(some 169), .mov (.t 28), none⟩ <|
     .op ⟨(some 170), .mov (.t 29), none⟩ <|
     .op ⟨(some 171), .eq true false [.bool] (.t 169) (.t 170), none⟩ <|
     .op ⟨(some 172), .mov (.t 171), none⟩ <|
     .op ⟨(some 173), .mov (.t 28), (some (172, false))⟩ <|
     .op ⟨(some 174), .mov (.t 173), (some (172, false))⟩ <|
     .op ⟨(some 175), .load true 3 (.t 27), (some (174, true))⟩ <|
     .op ⟨(some 176), .mov (.t 14), (some (174, true))⟩ <|
     .op ⟨(some 177), .mov (.t 2), (some (174, true))⟩ <|
     .op ⟨(some 178), .bin .sub (.t 177) (.c (.int .i64 1)), (some (174, true))⟩ <|
     .op ⟨(some 179), .iaddr 3 (.t 176) (.t 178), (some (174, true))⟩ <|
     .op ⟨(some 180), .load true 3 (.t 179), (some (174, true))⟩ <|
     .op ⟨(some 181), .eq true true [.int, .int, .int] (.t 175) (.t 180), (some (174, true))⟩ <|
     .op ⟨(some 182), .pick (.t 174) (.t 181) (.c (.bool false)), (some (172, false))⟩ <|
     .op ⟨(some 183), .pick (.t 172) (.c (.bool true)) (.t 182), none⟩ <|
     .op ⟨(some 184), .mov (.t 183), none⟩ <|
     .op ⟨(some 185), .mov (.t 11), (some (184, false))⟩ <|
     .op ⟨(some 187), .mov (.t 18), (some (184, false))⟩ <|
     .op ⟨(some 186), .call (.f 11) [(.t 185)], (some (184, false))⟩ <|
     .op ⟨(some 188), .bin .neq (.t 186) (.t 187), (some (184, false))⟩ <|
     .op ⟨(some 189), .pick (.t 184) (.c (.bool true)) (.t 188), none⟩ <|
     .op ⟨(some 190), .mov (.t 189), none⟩ <|
     .op ⟨(some 191), .mov (.t 11), (some (190, false))⟩ <|
     .op ⟨(some 193), .mov (.t 19), (some (190, false))⟩ <|
     .op ⟨(some 194), .len .sl (.t 193), (some (190, false))⟩ <|
     .op ⟨(some 192), .call (.f 12) [(.t 191)], (some (190, false))⟩ <|
     .op ⟨(some 195), .bin .neq (.t 192) (.t 194), (some (190, false))⟩ <|
     .op ⟨(some 196), .pick (.t 190) (.c (.bool true)) (.t 195), none⟩ <|
     .done)) <|
  .cond (.t 196)
   (.seq
    (.region [⟨(some 10), .mov (.c (.bool false)), none⟩]) <|
    .ret)
   (.skip)) <|
 .seq
 (.region [⟨(some 198), .mov (.t 11), none⟩,
    ⟨(some 199), .mov (.t 2), none⟩,
    ⟨(some 200), .call (.f 13) [(.t 198), (.t 199)], none⟩,
    ⟨(some 197), .mov (.t 200), none⟩,
    ⟨(some 201), .extract (.t 197) 0, none⟩,
    ⟨(some 202), .extract (.t 197) 1, none⟩,
    ⟨(some 30), .mov (.t 201), none⟩,
    ⟨(some 31), .mov (.t 202), none⟩]) <|
 .seq
 (.region [⟨(some 203), .mov (.t 11), none⟩,
    ⟨(some 204), .mov (.t 3), none⟩,
    ⟨(some 205), .call (.f 8) [(.t 203), (.t 204)], none⟩,
    ⟨(some 32), .mov (.t 205), none⟩]) <|
 .seq
 (.region [⟨(some 206), .mov (.t 11), none⟩,
    ⟨(some 207), .mov (.t 4), none⟩,
    ⟨(some 208), .call (.f 9) [(.t 206), (.t 207)], none⟩,
    ⟨(some 209), .mov (.t 20), none⟩,
    ⟨(some 210), .call (.f 14) [(.t 208), (.t 209)], none⟩,
    ⟨(some 211), .mov (.t 210), none⟩,
    ⟨(some 212), .mov (.t 30), (some (211, true))⟩,
    ⟨(some 213), .mov (.t 21), (some (211, true))⟩,
    ⟨(some 214), .call (.f 14) [(.t 212), (.t 213)], (some (211, true))⟩,
    ⟨(some 215), .pick (.t 211) (.t 214) (.c (.bool false)), none⟩,
    ⟨(some 216), .mov (.t 215), none⟩,
    ⟨(some 217), .mov (.t 31), (some (216, true))⟩,
    ⟨(some 218), .mov (.t 24), (some (216, true))⟩,
    ⟨(some 219), .bin .eql (.t 217) (.t 218), (some (216, true))⟩,
    ⟨(some 220), .pick (.t 216) (.t 219) (.c (.bool false)), none⟩,
    ⟨(some 221), .mov (.t 220), none⟩,
    ⟨(some 222), .mov (.t 32), (some (221, true))⟩,
    ⟨(some 223), .mov (.t 19), (some (221, true))⟩,
    ⟨(some 224), .mov (.t 19), (some (221, true))⟩,
    ⟨(some 225), .len .sl (.t 224), (some (221, true))⟩,
    ⟨(some 226), .mov (.t 3), (some (221, true))⟩,
    ⟨(some 227), .max [(.t 226), (.c (.int .i64 0))], (some (221, true))⟩,
    ⟨(some 228), .mov (.t 19), (some (221, true))⟩,
    ⟨(some 229), .len .sl (.t 228), (some (221, true))⟩,
    ⟨(some 230), .min [(.t 227), (.t 229)], (some (221, true))⟩,
    ⟨(some 231), .bin .sub (.t 225) (.t 230), (some (221, true))⟩,
    ⟨(some 232), .slice 3 (.t 223) (some (.t 231)) none none, (some (221, true))⟩,
    ⟨(some 233), .call (.f 14) [(.t 222), (.t 232)], (some (221, true))⟩,
    ⟨(some 234), .pick (.t 221) (.t 233) (.c (.bool false)), none⟩,
    ⟨(some 10), .mov (.t 234), none⟩]) <|
 .ret, [.slot 10]⟩
theorem c3 : Code1 Try.prog 3 235 b3 := Code1.mk' Try.func3 (by kernel_rfl) (by kernel_rfl) Try.ntmps3

/-- fusee/fuseelaw35.RingFollows -/
def b4 : IFn := ⟨
 .seq
 (.region [⟨(some 4), .mov (.c (.bool false)), none⟩]) <|
 .seq
 (.seq
  (.region [⟨(some 16), .call (.f 5) [], none⟩,
     ⟨(some 17), .un .not (.t 16), none⟩]) <|
  .cond (.t 17)
   (.seq
    (.region [⟨(some 4), .mov (.c (.bool false)), none⟩]) <|
    .ret)
   (.skip)) <|
 .seq
 (.seq
  (.region [⟨(some 18), .mov (.t 1), none⟩,
     ⟨(some 19), .len .sl (.t 18), none⟩,
     ⟨(some 20), .bin .gtr (.t 19) (.c (.int .i64 60)), none⟩]) <|
  .cond (.t 20)
   (.seq
    (.region [⟨(some 4), .mov (.c (.bool true)), none⟩]) <|
    .ret)
   (.skip)) <|
 .seq
 (.region [⟨(some 21), .mov (.t 0), none⟩,
    ⟨(some 22), .conv .i64 (.t 21), none⟩,
    ⟨(some 23), .bin .add (.c (.int .i64 1)) (.t 22), none⟩,
    ⟨(some 24), .call (.f 6) [(.t 23)], none⟩,
    ⟨(some 5), .mov (.t 24), none⟩]) <|
 .seq
 (.region [⟨(some 6), .mov (.c (.int .i64 0)), none⟩,
    ⟨(some 7), .mov (.c (.int .i64 0)), none⟩,
    ⟨(some 8), .mov (.c (.int .i64 0)), none⟩,
    ⟨(some 9), .mov (.c (.int .i64 0)), none⟩]) <|
 .seq
 (.seq
  (.region [⟨(some 25), .mov (.t 1), none⟩,
     ⟨(some 26), .len .sl (.t 25), none⟩,
     ⟨(some 27), .mov (.c (.int .i64 0)), none⟩]) <|
  .block 0 <|
  .loop [5, 6, 7, 8, 9, 25, 26, 27] <|
   .seq
   (.region [⟨(some 28), .bin .lss (.t 27) (.t 26), none⟩]) <|
   .seq
   (.cond (.t 28)
     (.skip)
     (.exit 0)) <|
   .seq
   (.block 1 <|
    .seq
    (.region [⟨(some 29), .iaddr 1 (.t 25) (.t 27), none⟩,
       ⟨(some 30), .load false 1 (.t 29), none⟩,
       ⟨(some 11), .mov (.t 30), none⟩]) <|
    .seq
    (.seq
     (.region [⟨(some 31), .mov (.t 11), none⟩,
        ⟨(some 32), .conv .i64 (.t 31), none⟩,
        ⟨(some 33), .mov (.c (.int .i64 0)), none⟩]) <|
     .block 2 <|
     .loop [5, 6, 7, 8, 9, 25, 26, 27, 32, 33] <|
      .seq
      (.region [⟨(some 34), .bin .lss (.t 33) (.t 32), none⟩]) <|
      .seq
      (.cond (.t 34)
        (.skip)
        (.exit 2)) <|
      .seq
      (.block 3 <|
       .seq
       (.region [⟨(some 35), .mov (.t 9), none⟩,
          ⟨(some 36), .bin .add (.t 35) (.c (.int .i64 1)), none⟩,
          ⟨(some 9), .mov (.t 36), none⟩]) <|
       .region [⟨(some 37), .mov (.t 5), none⟩,
         ⟨(some 38), .mov (.t 9), none⟩,
         ⟨(some 39), .mov (.t 9), none⟩,
         ⟨(some 40), .call (.f 10) [(.t 37), (.t 38), (.t 39)], none⟩]) <|
      .region [⟨(some 41), .bin .add (.t 33) (.c (.int .i64 1)), none⟩,
        ⟨(some 33), .mov (.t 41), none⟩]) <|
    .seq
    (.region [⟨(some 43), .mov (.t 5), none⟩,
       ⟨(some 44), .mov (.t 6), none⟩,
       ⟨(some 45), .call (.f 13) [(.t 43), (.t 44)], none⟩,
       ⟨(some 42), .mov (.t 45), none⟩,
       ⟨(some 46), .extract (.t 42) 0, none⟩,
       ⟨(some 47), .extract (.t 42) 1, none⟩,
       ⟨(some 12), .mov (.t 46), none⟩,
       ⟨(some 13), .mov (.t 47), none⟩]) <|
    .seq
    (.seq
     (.region [⟨(some 48), .mov (.t 12), none⟩,
        ⟨(some 49), .len .sl (.t 48), none⟩,
        ⟨(some 50), .mov (.c (.int .i64 0)), none⟩]) <|
     .block 4 <|
     .loop [5, 6, 7, 8, 9, 12, 13, 25, 26, 27, 48, 49, 50] <|
      .seq
      (.region [⟨(some 51), .bin .lss (.t 50) (.t 49), none⟩]) <|
      .seq
      (.cond (.t 51)
        (.skip)
        (.exit 4)) <|
      .seq
      (.block 5 <|
       .seq
       (.region [⟨(some 52), .mov (.t 50), none⟩,
          ⟨(some 53), .iaddr 3 (.t 48) (.t 50), none⟩,
          ⟨(some 54), .load true 3 (.t 53), none⟩,
          ⟨(some 15), .alloc [(.int .i64 0), (.int .i64 0), (.int .i64 0)], none⟩,
          ⟨(some 14), .mov (.t 52), none⟩,
          ⟨none, .store 3 (.t 15) (.t 54), none⟩]) <|
       .seq
       (.region [⟨(some 55), .faddr 0 (.t 15), none⟩,
          ⟨(some 56), .load false 1 (.t 55), none⟩,
          ⟨(some 57), .mov (.t 6), none⟩,
          ⟨(some 58), .mov (.t 13), none⟩,
          ⟨(some 59), .bin .add (.t 57) (.t 58), none⟩,
          ⟨(some 60), .mov (.t 14), none⟩,
          ⟨(some 61), .bin .add (.t 59) (.t 60), none⟩,
          ⟨(some 62), .bin .add (.t 61) (.c (.int .i64 1)), none⟩,
          ⟨(some 63), .bin .neq (.t 56) (.t 62), none⟩,
          ⟨(some 64), .mov (.t 63), none⟩,
          ⟨(some 65), .faddr 2 (.t 15), (some (64, false))⟩,
          ⟨(some 66), .load false 1 (.t 65), (some (64, false))⟩,
          ⟨(some 67), .faddr 0 (.t 15), (some (64, false))⟩,
          ⟨(some 68), .load false 1 (.t 67), (some (64, false))⟩,
          ⟨(some 69), .bin .neq (.t 66) (.t 68), (some (64, false))⟩,
          ⟨(some 70), .pick (.t 64) (.c (.bool true)) (.t 69), none⟩]) <|
       .cond (.t 70)
        (.seq
         (.region [⟨(some 4), .mov (.c (.bool false)), none⟩]) <|
         .ret)
        (.skip)) <|
      .region [⟨(some 71), .bin .add (.t 50) (.c (.int .i64 1)), none⟩,
        ⟨(some 50), .mov (.t 71), none⟩]) <|
    .seq
    (.region [⟨(some 72), .mov (.t 7), none⟩,
       ⟨(some 73), .mov (.t 12), none⟩,
       ⟨(some 74), .len .sl (.t 73), none⟩,
       ⟨(some 75), .bin .add (.t 72) (.t 74), none⟩,
       ⟨(some 76), .mov (.t 8), none⟩,
       ⟨(some 77), .mov (.t 13), none⟩,
       ⟨(some 78), .bin .add (.t 76) (.t 77), none⟩,
       ⟨(some 7), .mov (.t 75), none⟩,
       ⟨(some 8), .mov (.t 78), none⟩]) <|
    .region [⟨(some 79), .mov (.t 9), none⟩,
      ⟨(some 6), .mov (.t 79), none⟩]) <|
   .region [⟨(some 80), .bin .add (.t 27) (.c (.int .i64 1)), none⟩,
     ⟨(some 27), .mov (.t 80), none⟩]) <|
 .seq
 (.region [⟨(some 81), .mov (.t 7), none⟩,
    ⟨(some 82), .mov (.t 8), none⟩,
    ⟨(some 83), .bin .add (.t 81) (.t 82), none⟩,
    ⟨(some 84), .mov (.t 9), none⟩,
    ⟨(some 85), .bin .eql (.t 83) (.t 84), none⟩,
    ⟨(some 4), .mov (.t 85), none⟩]) <|
 .ret, [.slot 4]⟩
theorem c4 : Code1 Try.prog 4 86 b4 := Code1.mk' Try.func4 (by kernel_rfl) (by kernel_rfl) Try.ntmps4

/-- fusee/fuseelaw35.fixed -/
def b5 : IFn := ⟨
 .seq
 (.region [⟨(some 0), .mov (.c (.bool false)), none⟩]) <|
 .seq
 (.region [⟨(some 12), .call (.f 6) [(.c (.int .i64 2))], none⟩,
    ⟨(some 1), .mov (.t 12), none⟩]) <|
 .seq
 (.region [⟨(some 13), .mov (.t 1), none⟩,
    ⟨(some 14), .call (.f 10) [(.t 13), (.c (.int .i64 5)), (.c (.int .i64 50))], none⟩,
    ⟨(some 15), .mov (.t 1), none⟩,
    ⟨(some 16), .call (.f 10) [(.t 15), (.c (.int .i64 7)), (.c (.int .i64 70))], none⟩,
    ⟨(some 17), .mov (.t 1), none⟩,
    ⟨(some 18), .call (.f 10) [(.t 17), (.c (.int .i64 6)), (.c (.int .i64 60))], none⟩,
    ⟨(some 2), .mov (.t 14), none⟩,
    ⟨(some 3), .mov (.t 16), none⟩,
    ⟨(some 4), .mov (.t 18), none⟩]) <|
 .seq
 (.region [⟨(some 20), .mov (.t 1), none⟩,
    ⟨(some 21), .call (.f 7) [(.t 20), (.c (.int .i64 1))], none⟩,
    ⟨(some 19), .mov (.t 21), none⟩,
    ⟨(some 22), .extract (.t 19) 0, none⟩,
    ⟨(some 23), .extract (.t 19) 1, none⟩,
    ⟨(some 5), .alloc [(.int .i64 0), (.int .i64 0), (.int .i64 0)], none⟩,
    ⟨none, .store 3 (.t 5) (.t 22), none⟩,
    ⟨(some 6), .mov (.t 23), none⟩]) <|
 .seq
 (.region [⟨(some 25), .mov (.t 1), none⟩,
    ⟨(some 26), .call (.f 7) [(.t 25), (.c (.int .i64 3))], none⟩,
    ⟨(some 24), .mov (.t 26), none⟩,
    ⟨(some 27), .extract (.t 24) 0, none⟩,
    ⟨(some 28), .extract (.t 24) 1, none⟩,
    ⟨(some 7), .alloc [(.int .i64 0), (.int .i64 0), (.int .i64 0)], none⟩,
    ⟨none, .store 3 (.t 7) (.t 27), none⟩,
    ⟨(some 8), .mov (.t 28), none⟩]) <|
 .seq
 (.region [⟨(some 30), .mov (.t 1), none⟩,
    ⟨(some 31), .call (.f 13) [(.t 30), (.c (.int .i64 0))], none⟩,
    ⟨(some 29), .mov (.t 31), none⟩,
    ⟨(some 32), .extract (.t 29) 0, none⟩,
    ⟨(some 33), .extract (.t 29) 1, none⟩,
    ⟨(some 9), .mov (.t 32), none⟩,
    ⟨(some 10), .mov (.t 33), none⟩]) <|
 .seq
 (.region [⟨(some 11), .mov (.c (.ptr none)), none⟩]) <|
 .seq
 (.region [⟨(some 34), .mov (.t 2), none⟩,
    ⟨(some 35), .bin .eql (.t 34) (.c (.int .i64 1)), none⟩,
    ⟨(some 36), .mov (.t 35), none⟩,
    ⟨(some 37), .mov (.t 3), (some (36, true))⟩,
    ⟨(some 38), .bin .eql (.t 37) (.c (.int .i64 2)), (some (36, true))⟩,
    ⟨(some 39), .pick (.t 36) (.t 38) (.c (.bool false)), none⟩,
    ⟨(some 40), .mov (.t 39), none⟩,
    ⟨(some 41), .mov (.t 4), (some (40, true))⟩,
    ⟨(some 42), .bin .eql (.t 41) (.c (.int .i64 3)), (some (40, true))⟩,
    ⟨(some 43), .pick (.t 40) (.t 42) (.c (.bool false)), none⟩,
    ⟨(some 44), .mov (.t 43), none⟩,
    ⟨(some 45), .mov (.t 6), (some (44, true))⟩,
    ⟨(some 46), .un .not (.t 45), (some (44, true))⟩,
    ⟨(some 47), .pick (.t 44) (.t 46) (.c (.bool false)), none⟩,
    ⟨(some 48), .mov (.t 47), none⟩,
    ⟨(some 49), .mov (.t 8), (some (48, true))⟩,
    ⟨(some 50), .pick (.t 48) (.t 49) (.c (.bool false)), none⟩,
    ⟨(some 51), .mov (.t 50), none⟩,
    ⟨(some 52), .load true 3 (.t 7), (some (51, true))⟩,
    ⟨(some 53), .build [(.int .i64 0), (.int .i64 0), (.int .i64 0)] [(0, 1, (.c (.int .i64 3))), (1, 1, (.c (.int .i64 7))), (2, 1, (.c (.int .i64 60)))], (some (51, true))⟩,
    ⟨(some 54), .eq false true [.int, .int, .int] (.t 52) (.t 53), (some (51, true))⟩,
    ⟨(some 55), .pick (.t 51) (.t 54) (.c (.bool false)), none⟩,
    ⟨(some 56), .mov (.t 55), none⟩,
    ⟨(some 57), .mov (.t 9), (some (56, true))⟩,
    ⟨(some 58), .len .sl (.t 57), (some (56, true))⟩,
    ⟨(some 59), .bin .eql (.t 58) (.c (.int .i64 2)), (some (56, true))⟩,
    ⟨(some 60), .pick (.t 56) (.t 59) (.c (.bool false)), none⟩,
    ⟨(some 61), .mov (.t 60), none⟩,
    ⟨(some 62), .mov (.t 10), (some (61, true))⟩,
    ⟨(some 63), .bin .eql (.t 62) (.c (.int .i64 1)), (some (61, true))⟩,
    ⟨(some 64), .pick (.t 61) (.t 63) (.c (.bool false)), none⟩,
    ⟨(some 65), .mov (.t 64), none⟩,
    ⟨(some 66), .mov (.t 1), (some (65, true))⟩,
    ⟨(some 67), .call (.f 11) [(.t 66)], (some (65, true))⟩,
    ⟨(some 68), .bin .eql (.t 67) (.c (.int .i64 1)), (some (65, true))⟩,
    ⟨(some 69), .pick (.t 65) (.t 68) (.c (.bool false)), none⟩,
    ⟨(some 70), .mov (.t 69), none⟩,
    ⟨(some 71), .mov (.t 1), (some (70, true))⟩,
    ⟨(some 72), .call (.f 12) [(.t 71)], (some (70, true))⟩,
    ⟨(some 73), .bin .eql (.t 72) (.c (.int .i64 2)), (some (70, true))⟩,
    ⟨(some 74), .pick (.t 70) (.t 73) (.c (.bool false)), none⟩,
    ⟨(some 75), .mov (.t 74), none⟩,
    ⟨(some 76), .mov (.t 1), (some (75, true))⟩,
    ⟨(some 77), .call (.f 8) [(.t 76), (.c (.int .i64 1))], (some (75, true))⟩,
    ⟨(some 78), .len .sl (.t 77), (some (75, true))⟩,
    ⟨(some 79), .bin .eql (.t 78) (.c (.int .i64 1)), (some (75, true))⟩,
    ⟨(some 80), .pick (.t 75) (.t 79) (.c (.bool false)), none⟩,
    ⟨(some 81), .mov (.t 80), none⟩,
    ⟨(some 82), .mov (.t 1), (some (81, true))⟩,
    ⟨(some 83), .call (.f 9) [(.t 82), (.c (.int .i64 8))], (some (81, true))⟩,
    ⟨(some 84), .len .sl (.t 83), (some (81, true))⟩,
    ⟨(some 85), .bin .eql (.t 84) (.c (.int .i64 0)), (some (81, true))⟩,
    ⟨(some 86), .pick (.t 81) (.t 85) (.c (.bool false)), none⟩,
    ⟨(some 87), .mov (.t 86), none⟩,
    ⟨(some 88), .call (.f 6) [(.c (.int .i64 0))], (some (87, true))⟩,
    ⟨(some 89), .eq false false [.ptr] (.t 88) (.c (.ptr none)), (some (87, true))⟩,
    ⟨(some 90), .pick (.t 87) (.t 89) (.c (.bool false)), none⟩,
    ⟨(some 91), .mov (.t 90), none⟩,
    ⟨(some 92), .mov (.t 11), (some (91, true))⟩,
    ⟨(some 93), .call (.f 10) [(.t 92), (.c (.int .i64 1)), (.c (.int .i64 1))], (some (91, true))⟩,
    ⟨(some 94), .mov (.t 11), (some (91, true))⟩,
    ⟨(some 95), .call (.f 12) [(.t 94)], (some (91, true))⟩,
    ⟨(some 96), .bin .add (.t 93) (.t 95), (some (91, true))⟩,
    ⟨(some 97), .mov (.t 11), (some (91, true))⟩,
    ⟨(some 98), .call (.f 11) [(.t 97)], (some (91, true))⟩,
    ⟨(some 99), .bin .add (.t 96) (.t 98), (some (91, true))⟩,
    ⟨(some 100), .bin .eql (.t 99) (.c (.int .i64 0)), (some (91, true))⟩,
    ⟨(some 101), .pick (.t 91) (.t 100) (.c (.bool false)), none⟩,
    ⟨(some 0), .mov (.t 101), none⟩]) <|
 .ret, [.slot 0]⟩
theorem c5 : Code1 Try.prog 5 102 b5 := Code1.mk' Try.func5 (by kernel_rfl) (by kernel_rfl) Try.ntmps5

/-- fusee/ring.New -/
def b6 : IFn := ⟨
 .seq
 (.region [⟨(some 2), .mov (.c (.ptr none)), none⟩]) <|
 .seq
 (.seq
  (.region [⟨(some 3), .mov (.t 0), none⟩,
     ⟨(some 4), .bin .lss (.t 3) (.c (.int .i64 1)), none⟩,
     ⟨(some 5), .mov (.t 4), none⟩,
     ⟨(some 6), .mov (.t 0), (some (5, false))⟩,
     ⟨(some 7), .bin .gtr (.t 6) (.c (.int .i64 4096)), (some (5, false))⟩,
     ⟨(some 8), .pick (.t 5) (.c (.bool true)) (.t 7), none⟩]) <|
  .cond (.t 8)
   (.seq
    (.region [⟨(some 2), .mov (.c (.ptr none)), none⟩]) <|
    .ret)
   (.skip)) <|
 .seq
 (.region [⟨(some 9), .mov (.t 0), none⟩,
    ⟨(some 10), .mkSl [(.int .i64 0), (.int .i64 0), (.int .i64 0)] 24 (.t 9) (.t 9), none⟩,
    ⟨(some 11), .build [(.sl none 0 (some 0)), (.int .i64 0)] [(0, 1, (.t 10))], none⟩,
    ⟨(some 12), .box (.t 11), none⟩,
    ⟨(some 2), .mov (.t 12), none⟩]) <|
 .ret, [.slot 2]⟩
theorem c6 : Code1 Try.prog 6 13 b6 := Code1.mk' Try.func6 (by kernel_rfl) (by kernel_rfl) Try.ntmps6

/-- fusee/ring.Ring.Get -/
def b7 : IFn := ⟨
 .seq
 (.region [⟨(some 4), .alloc [(.int .i64 0), (.int .i64 0), (.int .i64 0)], none⟩,
    ⟨(some 5), .mov (.c (.bool false)), none⟩]) <|
 .seq
 (.seq
  (.region [⟨(some 6), .mov (.t 0), none⟩,
     ⟨(some 7), .eq false false [.ptr] (.t 6) (.c (.ptr none)), none⟩,
     ⟨(some 8), .mov (.t 7), none⟩,
     ⟨(some 9), .mov (.t 1), (some (8, false))⟩,
     ⟨(some 10), .mov (.t 0), (some (8, false))⟩,
     ⟨(some 11), .call (.f 11) [(.t 10)], (some (8, false))⟩,
     ⟨(some 12), .bin .leq (.t 9) (.t 11), (some (8, false))⟩,
     ⟨(some 13), .pick (.t 8) (.c (.bool true)) (.t 12), none⟩,
     ⟨(some 14), .mov (.t 13), none⟩,
     ⟨(some 15), .mov (.t 1), (some (14, false))⟩,
     ⟨(some 16), .mov (.t 0), (some (14, false))⟩,
     ⟨(some 17), .nilck (.t 16), (some (14, false))⟩,
     ⟨(some 18), .faddr 1 (.t 17), (some (14, false))⟩,
     ⟨(some 19), .load false 1 (.t 18), (some (14, false))⟩,
     ⟨(some 20), .bin .gtr (.t 15) (.t 19), (some (14, false))⟩,
     ⟨(some 21), .pick (.t 14) (.c (.bool true)) (.t 20), none⟩]) <|
  .cond (.t 21)
   (.seq
    (.region [⟨(some 22), .build [(.int .i64 0), (.int .i64 0), (.int .i64 0)] [], none⟩,
       ⟨none, .store 3 (.t 4) (.t 22), none⟩,
       ⟨(some 5), .mov (.c (.bool false)), none⟩]) <|
    .ret)
   (.skip)) <|
 .seq
 (.region [⟨(some 23), .mov (.t 0), none⟩,
    ⟨(some 24), .mov (.t 1), none⟩,
    ⟨(some 25), .call (.f 15) [(.t 23), (.t 24)], none⟩,
    ⟨(some 26), .nilck (.t 25), none⟩,
    ⟨(some 27), .load true 3 (.t 26), none⟩,
    ⟨none, .store 3 (.t 4) (.t 27), none⟩,
    ⟨(some 5), .mov (.c (.bool true)), none⟩]) <|
 .ret, [.cell 4 true 3, .slot 5]⟩
theorem c7 : Code1 Try.prog 7 28 b7 := Code1.mk' Try.func7 (by kernel_rfl) (by kernel_rfl) Try.ntmps7

/-- fusee/ring.Ring.Last -/
def b8 : IFn := ⟨
 .seq
 (.region [⟨(some 4), .mov (.c (.sl none 0 (some 0))), none⟩]) <|
 .seq
 (.seq
  (.region [⟨(some 5), .mov (.t 0), none⟩,
     ⟨(some 6), .eq false false [.ptr] (.t 5) (.c (.ptr none)), none⟩]) <|
  .cond (.t 6)
   (.seq
    (.region [⟨(some 4), .mov (.c (.sl none 0 (some 0))), none⟩]) <|
    .ret)
   (.skip)) <|
 .seq
 (.draw true [4] (
    .op ⟨(some 7), .mov (.t 0), none⟩ <|
    .op ⟨(some 8), .mov (.t 0), none⟩ <|
    .op ⟨(some 9), .nilck (.t 8), none⟩ <|
    .op ⟨(some 10), .faddr 1 (.t 9), none⟩ <|
    .op ⟨(some 12), .mov (.t 1), none⟩ <|
    .op ⟨(some 13), .max [(.t 12), (.c (.int .i64 0))], none⟩ <|
    .op ⟨(some 14), .mov (.t 0), none⟩ <|
    .alt (.op ⟨(some 11), .load false 1 (.t 10), none⟩ <|
     .op ⟨(some 15), .call (.f 12) [(.t 14)], none⟩ <|
     .op ⟨(some 16), .min [(.t 13), (.t 15)], none⟩ <|
     .op ⟨(some 17), .bin .sub (.t 11) (.t 16), none⟩ <|
     .op ⟨(some 18), .bin .add (.t 17) (.c (.int .i64 1)), none⟩ <|
     .op ⟨(some 19), .call (.f 16) [(.t 7), (.t 18)], none⟩ <|
     .op ⟨(some 4), .mov (.t 19), none⟩ <|
     .done) <|
    .op ⟨(some 15), .call (.f 12) [(.t 14)], none⟩ <|
    .op ⟨(some 11), .load false 1 (.t 10), none⟩ <|
    .op ⟨(some 16), .min [(.t 13), (.t 15)], none⟩ <|
    .op ⟨(some 17), .bin .sub (.t 11) (.t 16), none⟩ <|
    .op ⟨(some 18), .bin .add (.t 17) (.c (.int .i64 1)), none⟩ <|
    .op ⟨(some 19), .call (.f 16) [(.t 7), (.t 18)], none⟩ <|
    .op ⟨(some 4), .mov (.t 19), none⟩ <|
    .done)) <|
 .ret, [.slot 4]⟩
theorem c8 : Code1 Try.prog 8 20 b8 := Code1.mk' Try.func8 (by kernel_rfl) (by kernel_rfl) Try.ntmps8

/-- fusee/ring.Ring.Since -/
def b9 : IFn := ⟨
 .seq
 (.region [⟨(some 2), .box (.t 0), none⟩,
    ⟨(some 3), .box (.t 1), none⟩,
    ⟨(some 4), .mov (.c (.sl none 0 (some 0))), none⟩]) <|
 .seq
 (.seq
  (.region [⟨(some 7), .load false 1 (.t 2), none⟩,
     ⟨(some 8), .eq false false [.ptr] (.t 7) (.c (.ptr none)), none⟩]) <|
  .cond (.t 8)
   (.seq
    (.region [⟨(some 4), .mov (.c (.sl none 0 (some 0))), none⟩]) <|
    .ret)
   (.skip)) <|
 .seq
 (.region [⟨(some 9), .load false 1 (.t 2), none⟩,
    ⟨(some 10), .call (.f 11) [(.t 9)], none⟩,
    ⟨(some 11), .bin .add (.t 10) (.c (.int .i64 1)), none⟩,
    ⟨(some 5), .alloc [(.int .i64 0)], none⟩,
    ⟨none, .store 1 (.t 5) (.t 11), none⟩]) <|
 .seq
 (.region [⟨(some 12), .load false 1 (.t 2), none⟩,
    ⟨(some 13), .call (.f 12) [(.t 12)], none⟩,
    ⟨(some 14), .mkFn 18 [] [(.t 2), (.t 5), (.t 3)], none⟩,
    ⟨(some 15), .call (.f 17) [(.t 13), (.t 14)], none⟩,
    ⟨(some 6), .mov (.t 15), none⟩]) <|
 .seq
 (.region [⟨(some 16), .load false 1 (.t 2), none⟩,
    ⟨(some 17), .load false 1 (.t 5), none⟩,
    ⟨(some 18), .mov (.t 6), none⟩,
    ⟨(some 19), .bin .add (.t 17) (.t 18), none⟩,
    ⟨(some 20), .call (.f 16) [(.t 16), (.t 19)], none⟩,
    ⟨(some 4), .mov (.t 20), none⟩]) <|
 .ret, [.slot 4]⟩
theorem c9 : Code1 Try.prog 9 21 b9 := Code1.mk' Try.func9 (by kernel_rfl) (by kernel_rfl) Try.ntmps9

/-- fusee/ring.Ring.Put -/
def b10 : IFn := ⟨
 .seq
 (.region [⟨(some 6), .mov (.c (.int .i64 0)), none⟩]) <|
 .seq
 (.seq
  (.region [⟨(some 7), .mov (.t 0), none⟩,
     ⟨(some 8), .eq false false [.ptr] (.t 7) (.c (.ptr none)), none⟩]) <|
  .cond (.t 8)
   (.seq
    (.region [⟨(some 6), .mov (.c (.int .i64 0)), none⟩]) <|
    .ret)
   (.skip)) <|
 .seq
 (.seq
  (.region [⟨(some 9), .mov (.t 0), none⟩,
     ⟨(some 10), .nilck (.t 9), none⟩,
     ⟨(some 11), .faddr 1 (.t 10), none⟩,
     ⟨(some 12), .load false 1 (.t 11), none⟩,
     ⟨(some 13), .bin .gtr (.t 12) (.c (.int .i64 0)), none⟩]) <|
  .cond (.t 13)
   (.region [⟨(some 14), .mov (.t 1), none⟩,
      ⟨(some 15), .mov (.t 0), none⟩,
      ⟨(some 16), .mov (.t 0), none⟩,
      ⟨(some 17), .nilck (.t 16), none⟩,
      ⟨(some 18), .faddr 1 (.t 17), none⟩,
      ⟨(some 19), .load false 1 (.t 18), none⟩,
      ⟨(some 20), .call (.f 15) [(.t 15), (.t 19)], none⟩,
      ⟨(some 21), .nilck (.t 20), none⟩,
      ⟨(some 22), .faddr 1 (.t 21), none⟩,
      ⟨(some 23), .load false 1 (.t 22), none⟩,
      ⟨(some 24), .max [(.t 14), (.t 23)], none⟩,
      ⟨(some 1), .mov (.t 24), none⟩])
   (.skip)) <|
 .seq
 (.region [⟨(some 25), .mov (.t 0), none⟩,
    ⟨(some 26), .nilck (.t 25), none⟩,
    ⟨(some 27), .faddr 1 (.t 26), none⟩,
    ⟨(some 28), .load false 1 (.t 27), none⟩,
    ⟨(some 29), .bin .add (.t 28) (.c (.int .i64 1)), none⟩,
    ⟨(some 30), .nilck (.t 25), none⟩,
    ⟨(some 31), .faddr 1 (.t 30), none⟩,
    ⟨none, .store 1 (.t 31) (.t 29), none⟩]) <|
 .seq
 (.draw true [0] (
    .op ⟨(some 32), .mov (.t 0), none⟩ <|
    .op ⟨(some 33), .mov (.t 0), none⟩ <|
    .op ⟨(some 34), .nilck (.t 33), none⟩ <|
    .op ⟨(some 35), .faddr 1 (.t 34), none⟩ <|
    .op ⟨(some 36), .load false 1 (.t 35), none⟩ <|
    .op ⟨(some 38), .mov (.t 0), none⟩ <|
    .op ⟨(some 39), .nilck (.t 38), none⟩ <|
    .op ⟨(some 40), .faddr 1 (.t 39), none⟩ <|
    .op ⟨(some 42), .mov (.t 1), none⟩ <|
    .op ⟨(some 43), .mov (.t 2), none⟩ <|
    .alt (.op ⟨(some 37), .call (.f 15) [(.t 32), (.t 36)], none⟩ <|
     .op ⟨(some 41), .load false 1 (.t 40), none⟩ <|
     .op ⟨(some 44), .build [(.int .i64 0), (.int .i64 0), (.int .i64 0)] [(0, 1, (.t 41)), (1, 1, (.t 42)), (2, 1, (.t 43))], none⟩ <|
     .op ⟨(some 45), .nilck (.t 37), none⟩ <|
     .op ⟨none, .store 3 (.t 45) (.t 44), none⟩ <|
     .done) <|
    .op ⟨(some 41), .load false 1 (.t 40), none⟩ <|
    .op ⟨(some 44), .build [(.int .i64 0), (.int .i64 0), (.int .i64 0)] [(0, 1, (.t 41)), (1, 1, (.t 42)), (2, 1, (.t 43))], none⟩ <|
    .op ⟨(some 37), .call (.f 15) [(.t 32), (.t 36)], none⟩ <|
    .op ⟨(some 45), .nilck (.t 37), none⟩ <|
    .op ⟨none, .store 3 (.t 45) (.t 44), none⟩ <|
    .done)) <|
 .seq
 (.region [⟨(some 46), .mov (.t 0), none⟩,
    ⟨(some 47), .nilck (.t 46), none⟩,
    ⟨(some 48), .faddr 1 (.t 47), none⟩,
    ⟨(some 49), .load false 1 (.t 48), none⟩,
    ⟨(some 6), .mov (.t 49), none⟩]) <|
 .ret, [.slot 6]⟩
theorem c10 : Code1 Try.prog 10 50 b10 := Code1.mk' Try.func10 (by kernel_rfl) (by kernel_rfl) Try.ntmps10

/-- fusee/ring.Ring.Lost -/
def b11 : IFn := ⟨
 .seq
 (.region [⟨(some 2), .mov (.c (.int .i64 0)), none⟩]) <|
 .seq
 (.seq
  (.region [⟨(some 3), .mov (.t 0), none⟩,
     ⟨(some 4), .eq false false [.ptr] (.t 3) (.c (.ptr none)), none⟩]) <|
  .cond (.t 4)
   (.seq
    (.region [⟨(some 2), .mov (.c (.int .i64 0)), none⟩]) <|
    .ret)
   (.skip)) <|
 .seq
 (.draw true [2] (
    .op ⟨(some 5), .mov (.t 0), none⟩ <|
    .op ⟨(some 6), .nilck (.t 5), none⟩ <|
    .op ⟨(some 7), .faddr 1 (.t 6), none⟩ <|
    .op ⟨(some 9), .mov (.t 0), none⟩ <|
    .alt (.op ⟨(some 8), .load false 1 (.t 7), none⟩ <|
     .op ⟨(some 10), .call (.f 12) [(.t 9)], none⟩ <|
     .op ⟨(some 11), .bin .sub (.t 8) (.t 10), none⟩ <|
     .op ⟨(some 2), .mov (.t 11), none⟩ <|
     .done) <|
    .op ⟨(some 10), .call (.f 12) [(.t 9)], none⟩ <|
    .op ⟨(some 8), .load false 1 (.t 7), none⟩ <|
    .op ⟨(some 11), .bin .sub (.t 8) (.t 10), none⟩ <|
    .op ⟨(some 2), .mov (.t 11), none⟩ <|
    .done)) <|
 .ret, [.slot 2]⟩
theorem c11 : Code1 Try.prog 11 12 b11 := Code1.mk' Try.func11 (by kernel_rfl) (by kernel_rfl) Try.ntmps11

/-- fusee/ring.Ring.Len -/
def b12 : IFn := ⟨
 .seq
 (.region [⟨(some 2), .mov (.c (.int .i64 0)), none⟩]) <|
 .seq
 (.seq
  (.region [⟨(some 3), .mov (.t 0), none⟩,
     ⟨(some 4), .eq false false [.ptr] (.t 3) (.c (.ptr none)), none⟩]) <|
  .cond (.t 4)
   (.seq
    (.region [⟨(some 2), .mov (.c (.int .i64 0)), none⟩]) <|
    .ret)
   (.skip)) <|
 .seq
 (.draw false [2] (
    .op ⟨(some 5), .mov (.t 0), none⟩ <|
    .op ⟨(some 6), .nilck (.t 5), none⟩ <|
    .op ⟨(some 7), .faddr 1 (.t 6), none⟩ <|
    .op ⟨(some 8), .load false 1 (.t 7), none⟩ <|
    .op ⟨(some 9), .mov (.t 0), none⟩ <|
    .op ⟨(some 10), .nilck (.t 9), none⟩ <|
    .op ⟨(some 11), .faddr 0 (.t 10), none⟩ <|
    .op ⟨(some 12), .load false 1 (.t 11), none⟩ <|
    .op ⟨(some 13), .len .sl (.t 12), none⟩ <|
    .op ⟨(some 14), .min [(.t 8), (.t 13)], none⟩ <|
    .op ⟨(some 2), .mov (.t 14), none⟩ <|
    .done)) <|
 .ret, [.slot 2]⟩
theorem c12 : Code1 Try.prog 12 15 b12 := Code1.mk' Try.func12 (by kernel_rfl) (by kernel_rfl) Try.ntmps12

/-- fusee/ring.Ring.After -/
def b13 : IFn := ⟨
 .seq
 (.region [⟨(some 4), .mov (.c (.sl none 0 (some 0))), none⟩,
    ⟨(some 5), .mov (.c (.int .i64 0)), none⟩]) <|
 .seq
 (.seq
  (.region [⟨(some 6), .mov (.t 0), none⟩,
     ⟨(some 7), .eq false false [.ptr] (.t 6) (.c (.ptr none)), none⟩]) <|
  .cond (.t 7)
   (.seq
    (.region [⟨(some 4), .mov (.c (.sl none 0 (some 0))), none⟩,
       ⟨(some 5), .mov (.c (.int .i64 0)), none⟩]) <|
    .ret)
   (.skip)) <|
 .seq
 (.region [⟨(some 8), .mov (.t 1), none⟩,
    ⟨(some 9), .max [(.t 8), (.c (.int .i64 0))], none⟩,
    ⟨(some 10), .mov (.t 0), none⟩,
    ⟨(some 11), .nilck (.t 10), none⟩,
    ⟨(some 12), .faddr 1 (.t 11), none⟩,
    ⟨(some 13), .load false 1 (.t 12), none⟩,
    ⟨(some 14), .min [(.t 9), (.t 13)], none⟩,
    ⟨(some 1), .mov (.t 14), none⟩]) <|
 .seq
 (.region [⟨(some 15), .mov (.t 0), none⟩,
    ⟨(some 16), .mov (.t 1), none⟩,
    ⟨(some 17), .mov (.t 0), none⟩,
    ⟨(some 18), .call (.f 11) [(.t 17)], none⟩,
    ⟨(some 19), .max [(.t 16), (.t 18)], none⟩,
    ⟨(some 20), .bin .add (.t 19) (.c (.int .i64 1)), none⟩,
    ⟨(some 21), .call (.f 16) [(.t 15), (.t 20)], none⟩,
    ⟨(some 22), .mov (.t 0), none⟩,
    ⟨(some 23), .call (.f 11) [(.t 22)], none⟩,
    ⟨(some 24), .mov (.t 1), none⟩,
    ⟨(some 25), .bin .sub (.t 23) (.t 24), none⟩,
    ⟨(some 26), .max [(.t 25), (.c (.int .i64 0))], none⟩,
    ⟨(some 4), .mov (.t 21), none⟩,
    ⟨(some 5), .mov (.t 26), none⟩]) <|
 .ret, [.slot 4, .slot 5]⟩
theorem c13 : Code1 Try.prog 13 27 b13 := Code1.mk' Try.func13 (by kernel_rfl) (by kernel_rfl) Try.ntmps13

/-- fusee/fuseelaw35.same -/
def b14 : IFn := ⟨
 .seq
 (.region [⟨(some 4), .mov (.c (.bool false)), none⟩]) <|
 .seq
 (.seq
  (.region [⟨(some 6), .mov (.t 0), none⟩,
     ⟨(some 7), .len .sl (.t 6), none⟩,
     ⟨(some 8), .mov (.t 1), none⟩,
     ⟨(some 9), .len .sl (.t 8), none⟩,
     ⟨(some 10), .bin .neq (.t 7) (.t 9), none⟩]) <|
  .cond (.t 10)
   (.seq
    (.region [⟨(some 4), .mov (.c (.bool false)), none⟩]) <|
    .ret)
   (.skip)) <|
 .seq
 (.seq
  (.region [⟨(some 11), .mov (.t 0), none⟩,
     ⟨(some 12), .len .sl (.t 11), none⟩,
     ⟨(some 13), .mov (.c (.int .i64 0)), none⟩]) <|
  .block 0 <|
  .loop [0, 1, 12, 13] <|
   .seq
   (.region [⟨(some 14), .bin .lss (.t 13) (.t 12), none⟩]) <|
   .seq
   (.cond (.t 14)
     (.skip)
     (.exit 0)) <|
   .seq
   (.block 1 <|
    .seq
    (.region [⟨(some 15), .mov (.t 13), none⟩,
       ⟨(some 5), .mov (.t 15), none⟩]) <|
    .seq
    (.draw false [0, 1, 12, 13, 24] (
       .op ⟨(some 16), .mov (.t 0), none⟩ <|
       .op ⟨(some 17), .mov (.t 5), none⟩ <|
       .op ⟨(some 18), .iaddr 3 (.t 16) (.t 17), none⟩ <|
       .op ⟨(some 19), .load true 3 (.t 18), none⟩ <|
       .op ⟨(some 20), .mov (.t 1), none⟩ <|
       .op ⟨(some 21), .mov (.t 5), none⟩ <|
       .op ⟨(some 22), .iaddr 3 (.t 20) (.t 21), none⟩ <|
       .op ⟨(some 23), .load true 3 (.t 22), none⟩ <|
       .op ⟨(some 24), .eq true true [.int, .int, .int] (.t 19) (.t 23), none⟩ <|
       .done)) <|
    .cond (.t 24)
     (.seq
      (.region [⟨(some 4), .mov (.c (.bool false)), none⟩]) <|
      .ret)
     (.skip)) <|
   .region [⟨(some 25), .bin .add (.t 13) (.c (.int .i64 1)), none⟩,
     ⟨(some 13), .mov (.t 25), none⟩]) <|
 .seq
 (.region [⟨(some 4), .mov (.c (.bool true)), none⟩]) <|
 .ret, [.slot 4]⟩
theorem c14 : Code1 Try.prog 14 26 b14 := Code1.mk' Try.func14 (by kernel_rfl) (by kernel_rfl) Try.ntmps14

/-- fusee/ring.Ring.at -/
def b15 : IFn := ⟨
 .seq
 (.region [⟨(some 4), .mov (.c (.ptr none)), none⟩]) <|
 .seq
 (.draw false [4] (
    .op ⟨(some 5), .mov (.t 0), none⟩ <|
    .op ⟨(some 6), .nilck (.t 5), none⟩ <|
    .op ⟨(some 7), .faddr 0 (.t 6), none⟩ <|
    .op ⟨(some 8), .load false 1 (.t 7), none⟩ <|
    .op ⟨(some 9), .mov (.t 1), none⟩ <|
    .op ⟨(some 10), .bin .sub (.t 9) (.c (.int .i64 1)), none⟩ <|
    .op ⟨(some 11), .mov (.t 0), none⟩ <|
    .op ⟨(some 12), .nilck (.t 11), none⟩ <|
    .op ⟨(some 13), .faddr 0 (.t 12), none⟩ <|
    .op ⟨(some 14), .load false 1 (.t 13), none⟩ <|
    .op ⟨(some 15), .len .sl (.t 14), none⟩ <|
    .op ⟨(some 16), .bin .rem (.t 10) (.t 15), none⟩ <|
    .op ⟨(some 17), .iaddr 3 (.t 8) (.t 16), none⟩ <|
    .op ⟨(some 4), .mov (.t 17), none⟩ <|
    .done)) <|
 .ret, [.slot 4]⟩
theorem c15 : Code1 Try.prog 15 18 b15 := Code1.mk' Try.func15 (by kernel_rfl) (by kernel_rfl) Try.ntmps15

/-- fusee/ring.Ring.from -/
def b16 : IFn := ⟨
 .seq
 (.region [⟨(some 4), .mov (.c (.sl none 0 (some 0))), none⟩]) <|
 .seq
 (.region [⟨(some 5), .mov (.c (.sl none 0 (some 0))), none⟩]) <|
 .seq
 (.block 0 <|
  .loop [0, 1, 5] <|
   .seq
   (.seq
    (.region [⟨(some 6), .mov (.t 1), none⟩,
       ⟨(some 7), .mov (.t 0), none⟩,
       ⟨(some 8), .nilck (.t 7), none⟩,
       ⟨(some 9), .faddr 1 (.t 8), none⟩,
       ⟨(some 10), .load false 1 (.t 9), none⟩,
       ⟨(some 11), .bin .leq (.t 6) (.t 10), none⟩]) <|
    .cond (.t 11)
     (.skip)
     (.exit 0)) <|
   .seq
   (.block 1 <|
    .region [⟨(some 14), .mov (.t 5), none⟩,
      ⟨(some 15), .mov (.t 0), none⟩,
      ⟨(some 16), .mov (.t 1), none⟩,
      ⟨(some 17), .call (.f 15) [(.t 15), (.t 16)], none⟩,
      ⟨(some 18), .nilck (.t 17), none⟩,
      ⟨(some 19), .load true 3 (.t 18), none⟩,
      ⟨(some 20), .buildSl 3 [(.int .i64 0), (.int .i64 0), (.int .i64 0)] [(0, 3, (.t 19))], none⟩,
      ⟨(some 21), .app 3 24 (.t 14) (.t 20), none⟩,
      ⟨(some 5), .mov (.t 21), none⟩]) <|
   .region [⟨(some 12), .mov (.t 1), none⟩,
     ⟨(some 13), .bin .add (.t 12) (.c (.int .i64 1)), none⟩,
     ⟨(some 1), .mov (.t 13), none⟩]) <|
 .seq
 (.region [⟨(some 22), .mov (.t 5), none⟩,
    ⟨(some 4), .mov (.t 22), none⟩]) <|
 .ret, [.slot 4]⟩
theorem c16 : Code1 Try.prog 16 23 b16 := Code1.mk' Try.func16 (by kernel_rfl) (by kernel_rfl) Try.ntmps16

/-- sort.Search -/
def b17 : IFn := ⟨
 .seq
 (.region [⟨(some 4), .mov (.c (.int .i64 0)), none⟩]) <|
 .seq
 (.region [⟨(some 8), .mov (.t 0), none⟩,
    ⟨(some 5), .mov (.c (.int .i64 0)), none⟩,
    ⟨(some 6), .mov (.t 8), none⟩]) <|
 .seq
 (.block 0 <|
  .loop [1, 5, 6] <|
   .seq
   (.seq
    (.region [⟨(some 9), .mov (.t 5), none⟩,
       ⟨(some 10), .mov (.t 6), none⟩,
       ⟨(some 11), .bin .lss (.t 9) (.t 10), none⟩]) <|
    .cond (.t 11)
     (.skip)
     (.exit 0)) <|
   .block 1 <|
   .seq
   (.region [⟨(some 12), .mov (.t 5), none⟩,
      ⟨(some 13), .mov (.t 6), none⟩,
      ⟨(some 14), .bin .add (.t 12) (.t 13), none⟩,
      ⟨(some 15), .conv .u64 (.t 14), none⟩,
      ⟨(some 16), .bin .shr (.t 15) (.c (.int .u64 1)), none⟩,
      ⟨(some 17), .conv .i64 (.t 16), none⟩,
      ⟨(some 7), .mov (.t 17), none⟩]) <|
   .seq
   (.region [⟨(some 18), .mov (.t 1), none⟩,
      ⟨(some 19), .mov (.t 7), none⟩,
      ⟨(some 20), .call (.t 18) [(.t 19)], none⟩,
      ⟨(some 21), .un .not (.t 20), none⟩]) <|
   .cond (.t 21)
    (.region [⟨(some 22), .mov (.t 7), none⟩,
       ⟨(some 23), .bin .add (.t 22) (.c (.int .i64 1)), none⟩,
       ⟨(some 5), .mov (.t 23), none⟩])
    (.region [⟨(some 24), .mov (.t 7), none⟩,
       ⟨(some 6), .mov (.t 24), none⟩])) <|
 .seq
 (.region [⟨(some 25), .mov (.t 5), none⟩,
    ⟨(some 4), .mov (.t 25), none⟩]) <|
 .ret, [.slot 4]⟩
theorem c17 : Code1 Try.prog 17 26 b17 := Code1.mk' Try.func17 (by kernel_rfl) (by kernel_rfl) Try.ntmps17

/-- fusee/ring.Ring.Since$1 -/
def b18 : IFn := ⟨
 .seq
 (.region [⟨(some 5), .mov (.c (.bool false)), none⟩]) <|
 .seq
 (.draw true [5] (
    .op ⟨(some 6), .load false 1 (.t 1), none⟩ <|
    .op ⟨(some 7), .load false 1 (.t 2), none⟩ <|
    .op ⟨(some 8), .mov (.t 0), none⟩ <|
    .op ⟨(some 9), .bin .add (.t 7) (.t 8), none⟩ <|
    .alt (.op ⟨(some 10), .call (.f 15) [(.t 6), (.t 9)], none⟩ <|
     .op ⟨(some 11), .nilck (.t 10), none⟩ <|
     .op ⟨(some 12), .faddr 1 (.t 11), none⟩ <|
     .op ⟨(some 13), .load false 1 (.t 12), none⟩ <|
     .op ⟨(some 14), .load false 1 (.t 3), none⟩ <|
     .op ⟨(some 15), .bin .geq (.t 13) (.t 14), none⟩ <|
     .op ⟨(some 5), .mov (.t 15), none⟩ <|
     .done) <|
    .op ⟨(some 14), .load false 1 (.t 3), none⟩ <|
    .op ⟨(some 10), .call (.f 15) [(.t 6), (.t 9)], none⟩ <|
    .op ⟨(some 11), .nilck (.t 10), none⟩ <|
    .op ⟨(some 12), .faddr 1 (.t 11), none⟩ <|
    .op ⟨(some 13), .load false 1 (.t 12), none⟩ <|
    .op ⟨(some 15), .bin .geq (.t 13) (.t 14), none⟩ <|
    .op ⟨(some 5), .mov (.t 15), none⟩ <|
    .done)) <|
 .ret, [.slot 5]⟩
theorem c18 : Code1 Try.prog 18 16 b18 := Code1.mk' Try.func18 (by kernel_rfl) (by kernel_rfl) Try.ntmps18

end Go.Proofs.Ythclgfhlfmbjfaa
