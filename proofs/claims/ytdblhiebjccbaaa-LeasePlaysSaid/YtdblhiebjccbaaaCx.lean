/-
  THE CODE of the functions of this seat, as the plain machine's; each is what the compiler makes of the program's.
-/
import Derived.Test.YtdblhiebjccbaaaChecked
import Derived.Test.YtdblhiebjccbaaaAm32
import Derived.KernelRfl
namespace Go.Proofs.Ytdblhiebjccbaaa
open Go Go.AM
set_option linter.unusedVariables false

/-- A desk's cells. -/
def zRow : List V := List.replicate 770 (.int .i64 0) ++ List.replicate 256 (.bool false)
theorem hm : Try.prog.follows .mixedOrders = true := by kernel_rfl

/-- fusee/fuseelaw41.LeasePlays -/
def b3 : IFn := ⟨
 .seq
 (.region [⟨(some 4), .mov (.c (.bool false)), none⟩]) <|
 .seq
 (.seq
  (.region [⟨(some 28), .call (.f 5) [], none⟩,
     ⟨(some 29), .un .not (.t 28), none⟩]) <|
  .cond (.t 29)
   (.seq
    (.region [⟨(some 4), .mov (.c (.bool false)), none⟩]) <|
    .ret)
   (.skip)) <|
 .seq
 (.seq
  (.region [⟨(some 30), .mov (.t 1), none⟩,
     ⟨(some 31), .len .sl (.t 30), none⟩,
     ⟨(some 32), .bin .gtr (.t 31) (.c (.int .i64 80)), none⟩]) <|
  .cond (.t 32)
   (.seq
    (.region [⟨(some 4), .mov (.c (.bool true)), none⟩]) <|
    .ret)
   (.skip)) <|
 .seq
 (.region [⟨(some 33), .mov (.t 0), none⟩,
    ⟨(some 34), .call (.f 6) [(.t 33)], none⟩,
    ⟨(some 5), .mov (.t 34), none⟩]) <|
 .seq
 (.seq
  (.region [⟨(some 35), .mov (.t 0), none⟩,
     ⟨(some 36), .bin .lss (.t 35) (.c (.int .i64 0)), none⟩,
     ⟨(some 37), .mov (.t 36), none⟩,
     ⟨(some 38), .mov (.t 0), (some (37, false))⟩,
     ⟨(some 39), .bin .gtr (.t 38) (.c (.int .i64 1099511627776)), (some (37, false))⟩,
     ⟨(some 40), .pick (.t 37) (.c (.bool true)) (.t 39), none⟩]) <|
  .cond (.t 40)
   (.seq
    (.region [⟨(some 42), .mov (.t 5), none⟩,
       ⟨(some 43), .call (.f 7) [(.t 42), (.c (.int .i64 1)), (.c (.int .i64 1))], none⟩,
       ⟨(some 41), .mov (.t 43), none⟩,
       ⟨(some 44), .extract (.t 41) 0, none⟩,
       ⟨(some 45), .extract (.t 41) 1, none⟩,
       ⟨(some 6), .alloc [(.int .i64 0), (.int .i64 0), (.int .i64 0)], none⟩,
       ⟨none, .store 3 (.t 6) (.t 44), none⟩,
       ⟨(some 7), .mov (.t 45), none⟩]) <|
    .seq
    (.region [⟨(some 46), .mov (.t 5), none⟩,
       ⟨(some 47), .eq false false [.ptr] (.t 46) (.c (.ptr none)), none⟩,
       ⟨(some 48), .mov (.t 47), none⟩,
       ⟨(some 49), .mov (.t 7), (some (48, true))⟩,
       ⟨(some 50), .un .not (.t 49), (some (48, true))⟩,
       ⟨(some 51), .pick (.t 48) (.t 50) (.c (.bool false)), none⟩,
       ⟨(some 52), .mov (.t 51), none⟩,
       ⟨(some 53), .mov (.t 5), (some (52, true))⟩,
       ⟨(some 54), .call (.f 8) [(.t 53), (.c (.int .i64 1))], (some (52, true))⟩,
       ⟨(some 55), .len .sl (.t 54), (some (52, true))⟩,
       ⟨(some 56), .bin .eql (.t 55) (.c (.int .i64 0)), (some (52, true))⟩,
       ⟨(some 57), .pick (.t 52) (.t 56) (.c (.bool false)), none⟩,
       ⟨(some 4), .mov (.t 57), none⟩]) <|
    .ret)
   (.skip)) <|
 .seq
 (.region [⟨(some 58), .mkMap, none⟩,
    ⟨(some 8), .mov (.t 58), none⟩]) <|
 .seq
 (.region [⟨(some 9), .mov (.c (.int .i64 (-2305843009213693952))), none⟩]) <|
 .seq
 (.seq
  (.region [⟨(some 59), .mov (.t 1), none⟩,
     ⟨(some 60), .len .sl (.t 59), none⟩,
     ⟨(some 61), .mov (.c (.int .i64 0)), none⟩]) <|
  .block 0 <|
  .loop [0, 5, 8, 9, 59, 60, 61] <|
   .seq
   (.region [⟨(some 62), .bin .lss (.t 61) (.t 60), none⟩]) <|
   .seq
   (.cond (.t 62)
     (.skip)
     (.exit 0)) <|
   .seq
   (.block 1 <|
    .seq
    (.region [⟨(some 63), .iaddr 6 (.t 59) (.t 61), none⟩,
       ⟨(some 64), .load true 6 (.t 63), none⟩,
       ⟨(some 11), .alloc [(.int .u8 0), (.int .i64 0), (.int .i64 0), (.int .i64 0), (.int .i64 0), (.int .i64 0)], none⟩,
       ⟨none, .store 6 (.t 11) (.t 64), none⟩]) <|
    .seq
    (.seq
     (.region [⟨(some 65), .faddr 1 (.t 11), none⟩,
        ⟨(some 66), .load false 1 (.t 65), none⟩,
        ⟨(some 67), .bin .lss (.t 66) (.c (.int .i64 (-1125899906842624))), none⟩,
        ⟨(some 68), .mov (.t 67), none⟩,
        ⟨(some 69), .faddr 1 (.t 11), (some (68, false))⟩,
        ⟨(some 70), .load false 1 (.t 69), (some (68, false))⟩,
        ⟨(some 71), .bin .gtr (.t 70) (.c (.int .i64 1125899906842624)), (some (68, false))⟩,
        ⟨(some 72), .pick (.t 68) (.c (.bool true)) (.t 71), none⟩]) <|
     .cond (.t 72)
      (.seq
       (.region [⟨(some 4), .mov (.c (.bool true)), none⟩]) <|
       .ret)
      (.skip)) <|
    .seq
    (.region [⟨(some 73), .faddr 2 (.t 11), none⟩,
       ⟨(some 74), .load false 1 (.t 73), none⟩,
       ⟨(some 75), .bin .geq (.t 74) (.c (.int .i64 0)), none⟩,
       ⟨(some 76), .mov (.t 75), none⟩,
       ⟨(some 77), .faddr 2 (.t 11), (some (76, true))⟩,
       ⟨(some 78), .load false 1 (.t 77), (some (76, true))⟩,
       ⟨(some 79), .bin .lss (.t 78) (.c (.int .i64 256)), (some (76, true))⟩,
       ⟨(some 80), .pick (.t 76) (.t 79) (.c (.bool false)), none⟩,
       ⟨(some 12), .mov (.t 80), none⟩]) <|
    .seq
    (.seq
     (.region [⟨(some 81), .faddr 0 (.t 11), none⟩,
        ⟨(some 82), .load false 1 (.t 81), none⟩,
        ⟨(some 83), .bin .rem (.t 82) (.c (.int .u8 3)), none⟩,
        ⟨(some 84), .bin .eql (.t 83) (.c (.int .u8 0)), none⟩,
        ⟨(some 85), .mov (.t 84), none⟩,
        ⟨(some 86), .faddr 3 (.t 11), (some (85, true))⟩,
        ⟨(some 87), .load false 1 (.t 86), (some (85, true))⟩,
        ⟨(some 88), .bin .lss (.t 87) (.c (.int .i64 1)), (some (85, true))⟩,
        ⟨(some 89), .mov (.t 88), (some (85, true))⟩,
        ⟨(some 90), .faddr 5 (.t 11), (some (89, false))⟩,
        ⟨(some 91), .load false 1 (.t 90), (some (89, false))⟩,
        ⟨(some 92), .bin .lss (.t 91) (.c (.int .i64 1)), (some (89, false))⟩,
        ⟨(some 93), .pick (.t 89) (.c (.bool true)) (.t 92), (some (85, true))⟩,
        ⟨(some 94), .mov (.t 93), (some (85, true))⟩,
        ⟨(some 95), .faddr 5 (.t 11), (some (94, false))⟩,
        ⟨(some 96), .load false 1 (.t 95), (some (94, false))⟩,
        ⟨(some 97), .bin .gtr (.t 96) (.c (.int .i64 1099511627776)), (some (94, false))⟩,
        ⟨(some 98), .pick (.t 94) (.c (.bool true)) (.t 97), (some (85, true))⟩,
        ⟨(some 99), .pick (.t 85) (.t 98) (.c (.bool false)), none⟩,
        ⟨(some 100), .mov (.t 99), none⟩,
        ⟨(some 101), .faddr 0 (.t 11), (some (100, false))⟩,
        ⟨(some 102), .load false 1 (.t 101), (some (100, false))⟩,
        ⟨(some 103), .bin .rem (.t 102) (.c (.int .u8 3)), (some (100, false))⟩,
        ⟨(some 104), .bin .eql (.t 103) (.c (.int .u8 1)), (some (100, false))⟩,
        ⟨(some 105), .mov (.t 104), (some (100, false))⟩,
        ⟨(some 106), .faddr 5 (.t 11), (some (105, true))⟩,
        ⟨(some 107), .load false 1 (.t 106), (some (105, true))⟩,
        ⟨(some 108), .bin .lss (.t 107) (.c (.int .i64 1)), (some (105, true))⟩,
        ⟨(some 109), .mov (.t 108), (some (105, true))⟩,
        ⟨(some 110), .faddr 5 (.t 11), (some (109, false))⟩,
        ⟨(some 111), .load false 1 (.t 110), (some (109, false))⟩,
        ⟨(some 112), .bin .gtr (.t 111) (.c (.int .i64 1099511627776)), (some (109, false))⟩,
        ⟨(some 113), .pick (.t 109) (.c (.bool true)) (.t 112), (some (105, true))⟩,
        ⟨(some 114), .pick (.t 105) (.t 113) (.c (.bool false)), (some (100, false))⟩,
        ⟨(some 115), .pick (.t 100) (.c (.bool true)) (.t 114), none⟩,
        ⟨(some 116), .mov (.t 115), none⟩,
        ⟨(some 117), .mov (.t 12), (some (116, false))⟩,
        ⟨(some 118), .un .not (.t 117), (some (116, false))⟩,
        ⟨(some 119), .pick (.t 116) (.c (.bool true)) (.t 118), none⟩]) <|
     .cond (.t 119)
      (.seq
       (.region [⟨(some 13), .mov (.c (.int .i64 0)), none⟩]) <|
       .seq
       (.seq
        (.region [⟨(some 120), .faddr 0 (.t 11), none⟩,
           ⟨(some 121), .load false 1 (.t 120), none⟩,
           ⟨(some 122), .bin .rem (.t 121) (.c (.int .u8 3)), none⟩]) <|
        .block 2 <|
        .seq
        (.region [⟨(some 124), .bin .eql (.t 122) (.c (.int .u8 0)), none⟩,
           ⟨(some 123), .mov (.t 124), none⟩]) <|
        .cond (.t 123)
         (.region [⟨(some 126), .mov (.t 5), none⟩,
            ⟨(some 127), .faddr 1 (.t 11), none⟩,
            ⟨(some 128), .load false 1 (.t 127), none⟩,
            ⟨(some 129), .faddr 2 (.t 11), none⟩,
            ⟨(some 130), .load false 1 (.t 129), none⟩,
            ⟨(some 131), .faddr 3 (.t 11), none⟩,
            ⟨(some 132), .load false 1 (.t 131), none⟩,
            ⟨(some 133), .faddr 5 (.t 11), none⟩,
            ⟨(some 134), .load false 1 (.t 133), none⟩,
            ⟨(some 135), .call (.f 9) [(.t 126), (.t 128), (.t 130), (.t 132), (.t 134)], none⟩,
            ⟨(some 125), .mov (.t 135), none⟩,
            ⟨(some 136), .extract (.t 125) 0, none⟩,
            ⟨(some 137), .extract (.t 125) 1, none⟩,
            ⟨(some 13), .mov (.t 137), none⟩])
         (.seq
          (.region [⟨(some 139), .bin .eql (.t 122) (.c (.int .u8 1)), none⟩,
             ⟨(some 138), .mov (.t 139), none⟩]) <|
          .cond (.t 138)
           (.region [⟨(some 141), .mov (.t 5), none⟩,
              ⟨(some 142), .faddr 1 (.t 11), none⟩,
              ⟨(some 143), .load false 1 (.t 142), none⟩,
              ⟨(some 144), .faddr 2 (.t 11), none⟩,
              ⟨(some 145), .load false 1 (.t 144), none⟩,
              ⟨(some 146), .faddr 4 (.t 11), none⟩,
              ⟨(some 147), .load false 1 (.t 146), none⟩,
              ⟨(some 148), .faddr 5 (.t 11), none⟩,
              ⟨(some 149), .load false 1 (.t 148), none⟩,
              ⟨(some 150), .call (.f 10) [(.t 141), (.t 143), (.t 145), (.t 147), (.t 149)], none⟩,
              ⟨(some 140), .mov (.t 150), none⟩,
              ⟨(some 151), .extract (.t 140) 0, none⟩,
              ⟨(some 152), .extract (.t 140) 1, none⟩,
              ⟨(some 13), .mov (.t 152), none⟩])
           (.seq
            (.region [⟨(some 154), .bin .eql (.t 122) (.c (.int .u8 2)), none⟩,
               ⟨(some 153), .mov (.t 154), none⟩]) <|
            .cond (.t 153)
             (.region [⟨(some 155), .mov (.t 5), none⟩,
                ⟨(some 156), .faddr 1 (.t 11), none⟩,
                ⟨(some 157), .load false 1 (.t 156), none⟩,
                ⟨(some 158), .faddr 2 (.t 11), none⟩,
                ⟨(some 159), .load false 1 (.t 158), none⟩,
                ⟨(some 160), .faddr 4 (.t 11), none⟩,
                ⟨(some 161), .load false 1 (.t 160), none⟩,
                ⟨(some 162), .call (.f 11) [(.t 155), (.t 157), (.t 159), (.t 161)], none⟩,
                ⟨(some 13), .mov (.t 162), none⟩])
             (.skip)))) <|
       .seq
       (.seq
        (.region [⟨(some 163), .mov (.t 13), none⟩,
           ⟨(some 164), .bin .neq (.t 163) (.c (.int .i64 2)), none⟩]) <|
        .cond (.t 164)
         (.seq
          (.region [⟨(some 4), .mov (.c (.bool false)), none⟩]) <|
          .ret)
         (.skip)) <|
       .exit 1)
      (.skip)) <|
    .seq
    (.region [⟨(some 165), .mov (.t 9), none⟩,
       ⟨(some 166), .faddr 1 (.t 11), none⟩,
       ⟨(some 167), .load false 1 (.t 166), none⟩,
       ⟨(some 168), .max [(.t 165), (.t 167)], none⟩,
       ⟨(some 9), .mov (.t 168), none⟩]) <|
    .seq
    (.region [⟨(some 169), .mov (.t 8), none⟩,
       ⟨(some 170), .faddr 2 (.t 11), none⟩,
       ⟨(some 171), .load false 1 (.t 170), none⟩,
       ⟨(some 172), .lookup (.ptr none) (.t 169) (.t 171) false, none⟩,
       ⟨(some 14), .mov (.t 172), none⟩]) <|
    .seq
    (.seq
     (.region [⟨(some 173), .mov (.t 14), none⟩,
        ⟨(some 174), .eq false false [.ptr] (.t 173) (.c (.ptr none)), none⟩]) <|
     .cond (.t 174)
      (.seq
       (.region [⟨(some 175), .build [(.int .i64 0), (.int .i64 0), (.int .i64 0), (.bool false)] [(3, 1, (.c (.bool true)))], none⟩,
          ⟨(some 176), .box (.t 175), none⟩,
          ⟨(some 14), .mov (.t 176), none⟩]) <|
       .region [⟨(some 177), .mov (.t 8), none⟩,
         ⟨(some 178), .faddr 2 (.t 11), none⟩,
         ⟨(some 179), .load false 1 (.t 178), none⟩,
         ⟨(some 180), .mov (.t 14), none⟩,
         ⟨none, .mapUpd (.t 177) (.t 179) (.t 180), none⟩])
      (.skip)) <|
    .seq
    (.region [⟨(some 181), .mov (.t 14), none⟩,
       ⟨(some 182), .nilck (.t 181), none⟩,
       ⟨(some 183), .faddr 3 (.t 182), none⟩,
       ⟨(some 184), .load false 1 (.t 183), none⟩,
       ⟨(some 185), .un .not (.t 184), none⟩,
       ⟨(some 186), .mov (.t 185), none⟩,
       ⟨(some 187), .mov (.t 14), (some (186, true))⟩,
       ⟨(some 188), .nilck (.t 187), (some (186, true))⟩,
       ⟨(some 189), .faddr 2 (.t 188), (some (186, true))⟩,
       ⟨(some 190), .load false 1 (.t 189), (some (186, true))⟩,
       ⟨(some 191), .mov (.t 9), (some (186, true))⟩,
       ⟨(some 192), .bin .gtr (.t 190) (.t 191), (some (186, true))⟩,
       ⟨(some 193), .pick (.t 186) (.t 192) (.c (.bool false)), none⟩,
       ⟨(some 15), .mov (.t 193), none⟩]) <|
    .seq
    (.seq
     (.region [⟨(some 194), .faddr 0 (.t 11), none⟩,
        ⟨(some 195), .load false 1 (.t 194), none⟩,
        ⟨(some 196), .bin .rem (.t 195) (.c (.int .u8 3)), none⟩]) <|
     .block 3 <|
     .seq
     (.region [⟨(some 198), .bin .eql (.t 196) (.c (.int .u8 0)), none⟩,
        ⟨(some 197), .mov (.t 198), none⟩]) <|
     .cond (.t 197)
      (.seq
       (.region [⟨(some 200), .mov (.t 5), none⟩,
          ⟨(some 201), .faddr 1 (.t 11), none⟩,
          ⟨(some 202), .load false 1 (.t 201), none⟩,
          ⟨(some 203), .faddr 2 (.t 11), none⟩,
          ⟨(some 204), .load false 1 (.t 203), none⟩,
          ⟨(some 205), .faddr 3 (.t 11), none⟩,
          ⟨(some 206), .load false 1 (.t 205), none⟩,
          ⟨(some 207), .faddr 5 (.t 11), none⟩,
          ⟨(some 208), .load false 1 (.t 207), none⟩,
          ⟨(some 209), .call (.f 9) [(.t 200), (.t 202), (.t 204), (.t 206), (.t 208)], none⟩,
          ⟨(some 199), .mov (.t 209), none⟩,
          ⟨(some 210), .extract (.t 199) 0, none⟩,
          ⟨(some 211), .extract (.t 199) 1, none⟩,
          ⟨(some 16), .alloc [(.int .i64 0), (.int .i64 0), (.int .i64 0)], none⟩,
          ⟨none, .store 3 (.t 16) (.t 210), none⟩,
          ⟨(some 17), .mov (.t 211), none⟩]) <|
       .seq
       (.seq
        (.draw false [0, 5, 8, 9, 11, 14, 16, 17, 59, 60, 61, 238] (
           .op ⟨(some 212), .mov (.t 15), none⟩ <|
           .op ⟨(some 213), .mov (.t 212), none⟩ <|
           .op ⟨(some 214), .mov (.t 14), (some (213, false))⟩ <|
           .op ⟨(some 215), .nilck (.t 214), (some (213, false))⟩ <|
           .op ⟨(some 216), .faddr 3 (.t 215), (some (213, false))⟩ <|
           .op ⟨(some 217), .load false 1 (.t 216), (some (213, false))⟩ <|
           .op ⟨(some 218), .un .not (.t 217), (some (213, false))⟩ <|
           .op ⟨(some 219), .mov (.t 218), (some (213, false))⟩ <|
           .op ⟨(some 220), .mov (.t 14), (some (219, true))⟩ <|
           .op ⟨(some 221), .nilck (.t 220), (some (219, true))⟩ <|
           .op ⟨(some 222), .faddr 0 (.t 221), (some (219, true))⟩ <|
           .op ⟨(some 223), .load false 1 (.t 222), (some (219, true))⟩ <|
           .op ⟨(some 224), .faddr 3 (.t 11), (some (219, true))⟩ <|
           .op ⟨(some 225), .load false 1 (.t 224), (some (219, true))⟩ <|
           .op ⟨(some 226), .bin .neq (.t 223) (.t 225), (some (219, true))⟩ <|
           .op ⟨(some 227), .pick (.t 219) (.t 226) (.c (.bool false)), (some (213, false))⟩ <|
           .op ⟨(some 228), .mov (.t 227), (some (213, false))⟩ <|
           .op ⟨(some 229), .mov (.t 9), (some (228, true))⟩ <|
           .op ⟨(some 230), .mov (.t 14), (some (228, true))⟩ <|
           .op ⟨(some 231), .nilck (.t 230), (some (228, true))⟩ <|
           .op ⟨(some 232), .faddr 2 (.t 231), (some (228, true))⟩ <|
           .op ⟨(some 233), .load false 1 (.t 232), (some (228, true))⟩ <|
           .op ⟨(some 234), .bin .sub (.t 229) (.t 233), (some (228, true))⟩ <|
           .op ⟨(some 235), .mov (.t 0), (some (228, true))⟩ <|
           .op ⟨(some 236), .bin .lss (.t 234) (.t 235), (some (228, true))⟩ <|
           .op ⟨(some 237), .pick (.t 228) (.t 236) (.c (.bool false)), (some (213, false))⟩ <|
           .op ⟨(some 238), .pick (.t 213) (.c (.bool true)) (.t 237), none⟩ <|
           .done)) <|
        .cond (.t 238)
         (.seq
          (.seq
           (.region [⟨(some 239), .mov (.t 17), none⟩,
              ⟨(some 240), .bin .neq (.t 239) (.c (.int .i64 9)), none⟩,
              ⟨(some 241), .mov (.t 240), none⟩,
              ⟨(some 242), .load true 3 (.t 16), (some (241, false))⟩,
              ⟨(some 243), .build [(.int .i64 0), (.int .i64 0), (.int .i64 0)] [], (some (241, false))⟩,
              ⟨(some 244), .eq true true [.int, .int, .int] (.t 242) (.t 243), (some (241, false))⟩,
              ⟨(some 245), .pick (.t 241) (.c (.bool true)) (.t 244), none⟩]) <|
           .cond (.t 245)
            (.seq
             (.region [⟨(some 4), .mov (.c (.bool false)), none⟩]) <|
             .ret)
            (.skip)) <|
          .exit 3)
         (.skip)) <|
       .seq
       (.draw true [0, 5, 8, 9, 11, 14, 16, 17, 59, 60, 61] (
          .op ⟨(some 246), .mov (.t 14), none⟩ <|
          .op ⟨(some 247), .mov (.t 14), none⟩ <|
          .op ⟨(some 248), .mov (.t 14), none⟩ <|
          .op ⟨(some 249), .mov (.t 14), none⟩ <|
          .op ⟨(some 250), .faddr 3 (.t 11), none⟩ <|
          .op ⟨(some 251), .load false 1 (.t 250), none⟩ <|
          .op ⟨(some 252), .mov (.t 14), none⟩ <|
          .op ⟨(some 253), .nilck (.t 252), none⟩ <|
          .op ⟨(some 254), .faddr 1 (.t 253), none⟩ <|
          .op ⟨(some 255), .load false 1 (.t 254), none⟩ <|
          .op ⟨(some 256), .bin .add (.t 255) (.c (.int .i64 1)), none⟩ <|
          .op ⟨(some 257), .mov (.t 9), none⟩ <|
          .op ⟨(some 258), .faddr 5 (.t 11), none⟩ <|
          .op ⟨(some 261), .nilck (.t 246), none⟩ <|
          .op ⟨(some 262), .faddr 0 (.t 261), none⟩ <|
          .alt (.op ⟨(some 259), .load false 1 (.t 258), none⟩ <|
           .op ⟨(some 260), .bin .add (.t 257) (.t 259), none⟩ <|
           .op ⟨none, .store 1 (.t 262) (.t 251), none⟩ <|
           .op ⟨(some 263), .nilck (.t 247), none⟩ <|
           .op ⟨(some 264), .faddr 1 (.t 263), none⟩ <|
           .op ⟨none, .store 1 (.t 264) (.t 256), none⟩ <|
           .op ⟨(some 265), .nilck (.t 248), none⟩ <|
           .op ⟨(some 266), .faddr 2 (.t 265), none⟩ <|
           .op ⟨none, .store 1 (.t 266) (.t 260), none⟩ <|
           .op ⟨(some 267), .nilck (.t 249), none⟩ <|
           .op ⟨(some 268), .faddr 3 (.t 267), none⟩ <|
           .op ⟨none, .store 1 (.t 268) (.c (.bool false)), none⟩ <|
           .done) <|
          .op ⟨none, .store 1 (.t 262) (.t 251), none⟩ <|
          .op ⟨(some 263), .nilck (.t 247), none⟩ <|
          .op ⟨(some 264), .faddr 1 (.t 263), none⟩ <|
          .alt (.op ⟨(some 259), .load false 1 (.t 258), none⟩ <|
           .op ⟨(some 260), .bin .add (.t 257) (.t 259), none⟩ <|
           .op ⟨none, .store 1 (.t 264) (.t 256), none⟩ <|
           .op ⟨(some 265), .nilck (.t 248), none⟩ <|
           .op ⟨(some 266), .faddr 2 (.t 265), none⟩ <|
           .op ⟨none, .store 1 (.t 266) (.t 260), none⟩ <|
           .op ⟨(some 267), .nilck (.t 249), none⟩ <|
           .op ⟨(some 268), .faddr 3 (.t 267), none⟩ <|
           .op ⟨none, .store 1 (.t 268) (.c (.bool false)), none⟩ <|
           .done) <|
          .op ⟨none, .store 1 (.t 264) (.t 256), none⟩ <|
          .op ⟨(some 259), .load false 1 (.t 258), none⟩ <|
          .op ⟨(some 260), .bin .add (.t 257) (.t 259), none⟩ <|
          .op ⟨(some 265), .nilck (.t 248), none⟩ <|
          .op ⟨(some 266), .faddr 2 (.t 265), none⟩ <|
          .op ⟨none, .store 1 (.t 266) (.t 260), none⟩ <|
          .op ⟨(some 267), .nilck (.t 249), none⟩ <|
          .op ⟨(some 268), .faddr 3 (.t 267), none⟩ <|
          .op ⟨none, .store 1 (.t 268) (.c (.bool false)), none⟩ <|
          .done)) <|
       .seq
       (.draw false [0, 5, 8, 9, 11, 59, 60, 61, 287] (
          .op ⟨(some 269), .mov (.t 17), none⟩ <|
          .op ⟨(some 270), .bin .neq (.t 269) (.c (.int .i64 0)), none⟩ <|
          .op ⟨(some 271), .mov (.t 270), none⟩ <|
          .op ⟨(some 272), .load true 3 (.t 16), (some (271, false))⟩ <|
          .op ⟨(some 273), .mov (.t 14), (some (271, false))⟩ <|
          .op ⟨(some 274), .nilck (.t 273), (some (271, false))⟩ <|
          .op ⟨(some 275), .faddr 0 (.t 274), (some (271, false))⟩ <|
          .op ⟨(some 276), .load false 1 (.t 275), (some (271, false))⟩ <|
          .op ⟨(some 277), .mov (.t 14), (some (271, false))⟩ <|
          .op ⟨(some 278), .nilck (.t 277), (some (271, false))⟩ <|
          .op ⟨(some 279), .faddr 1 (.t 278), (some (271, false))⟩ <|
          .op ⟨(some 280), .load false 1 (.t 279), (some (271, false))⟩ <|
          .op ⟨(some 281), .mov (.t 14), (some (271, false))⟩ <|
          .op ⟨(some 282), .nilck (.t 281), (some (271, false))⟩ <|
          .op ⟨(some 283), .faddr 2 (.t 282), (some (271, false))⟩ <|
          .op ⟨(some 284), .load false 1 (.t 283), (some (271, false))⟩ <|
          .op ⟨(some 285), .build [(.int .i64 0), (.int .i64 0), (.int .i64 0)] [(0, 1, (.t 276)), (1, 1, (.t 280)), (2, 1, (.t 284))], (some (271, false))⟩ <|
          .op ⟨(some 286), .eq true true [.int, .int, .int] (.t 272) (.t 285), (some (271, false))⟩ <|
          .op ⟨(some 287), .pick (.t 271) (.c (.bool true)) (.t 286), none⟩ <|
          .done)) <|
       .cond (.t 287)
        (.seq
         (.region [⟨(some 4), .mov (.c (.bool false)), none⟩]) <|
         .ret)
        (.skip))
      (.seq
       (.region [⟨(some 289), .bin .eql (.t 196) (.c (.int .u8 1)), none⟩,
          ⟨(some 288), .mov (.t 289), none⟩]) <|
       .cond (.t 288)
        (.seq
         (.region [⟨(some 291), .mov (.t 5), none⟩,
            ⟨(some 292), .faddr 1 (.t 11), none⟩,
            ⟨(some 293), .load false 1 (.t 292), none⟩,
            ⟨(some 294), .faddr 2 (.t 11), none⟩,
            ⟨(some 295), .load false 1 (.t 294), none⟩,
            ⟨(some 296), .faddr 4 (.t 11), none⟩,
            ⟨(some 297), .load false 1 (.t 296), none⟩,
            ⟨(some 298), .faddr 5 (.t 11), none⟩,
            ⟨(some 299), .load false 1 (.t 298), none⟩,
            ⟨(some 300), .call (.f 10) [(.t 291), (.t 293), (.t 295), (.t 297), (.t 299)], none⟩,
            ⟨(some 290), .mov (.t 300), none⟩,
            ⟨(some 301), .extract (.t 290) 0, none⟩,
            ⟨(some 302), .extract (.t 290) 1, none⟩,
            ⟨(some 18), .alloc [(.int .i64 0), (.int .i64 0), (.int .i64 0)], none⟩,
            ⟨none, .store 3 (.t 18) (.t 301), none⟩,
            ⟨(some 19), .mov (.t 302), none⟩]) <|
         .seq
         (.seq
          (.draw false [0, 5, 8, 9, 11, 14, 18, 19, 59, 60, 61, 313] (
             .op ⟨(some 303), .mov (.t 15), none⟩ <|
             .op ⟨(some 304), .un .not (.t 303), none⟩ <|
             .op ⟨(some 305), .mov (.t 304), none⟩ <|
             .op ⟨(some 306), .mov (.t 14), (some (305, false))⟩ <|
             .op ⟨(some 307), .nilck (.t 306), (some (305, false))⟩ <|
             .op ⟨(some 308), .faddr 1 (.t 307), (some (305, false))⟩ <|
             .op ⟨(some 309), .load false 1 (.t 308), (some (305, false))⟩ <|
             .op ⟨(some 310), .faddr 4 (.t 11), (some (305, false))⟩ <|
             .op ⟨(some 311), .load false 1 (.t 310), (some (305, false))⟩ <|
             .op ⟨(some 312), .bin .neq (.t 309) (.t 311), (some (305, false))⟩ <|
             .op ⟨(some 313), .pick (.t 305) (.c (.bool true)) (.t 312), none⟩ <|
             .done)) <|
          .cond (.t 313)
           (.seq
            (.seq
             (.region [⟨(some 314), .mov (.t 19), none⟩,
                ⟨(some 315), .bin .neq (.t 314) (.c (.int .i64 7)), none⟩]) <|
             .cond (.t 315)
              (.seq
               (.region [⟨(some 4), .mov (.c (.bool false)), none⟩]) <|
               .ret)
              (.skip)) <|
            .exit 3)
           (.skip)) <|
         .seq
         (.draw false [0, 5, 8, 9, 11, 14, 18, 19, 59, 60, 61] (
            .op ⟨(some 316), .mov (.t 14), none⟩ <|
            .op ⟨(some 317), .mov (.t 14), none⟩ <|
            .op ⟨(some 318), .nilck (.t 317), none⟩ <|
            .op ⟨(some 319), .faddr 2 (.t 318), none⟩ <|
            .op ⟨(some 320), .load false 1 (.t 319), none⟩ <|
            .op ⟨(some 321), .mov (.t 9), none⟩ <|
            .op ⟨(some 322), .faddr 5 (.t 11), none⟩ <|
            .op ⟨(some 323), .load false 1 (.t 322), none⟩ <|
            .op ⟨(some 324), .bin .add (.t 321) (.t 323), none⟩ <|
            .op ⟨(some 325), .max [(.t 320), (.t 324)], none⟩ <|
            .op ⟨(some 326), .nilck (.t 316), none⟩ <|
            .op ⟨(some 327), .faddr 2 (.t 326), none⟩ <|
            .op ⟨none, .store 1 (.t 327) (.t 325), none⟩ <|
            .done)) <|
         .seq
         (.draw false [0, 5, 8, 9, 11, 59, 60, 61, 347] (
            .op ⟨(some 328), .mov (.t 19), none⟩ <|
            .op ⟨(some 329), .bin .neq (.t 328) (.c (.int .i64 0)), none⟩ <|
            .op ⟨(some 330), .mov (.t 329), none⟩ <|
            .op ⟨(some 331), .faddr 2 (.t 18), (some (330, false))⟩ <|
            .op ⟨(some 332), .load false 1 (.t 331), (some (330, false))⟩ <|
            .op ⟨(some 333), .mov (.t 14), (some (330, false))⟩ <|
            .op ⟨(some 334), .nilck (.t 333), (some (330, false))⟩ <|
            .op ⟨(some 335), .faddr 2 (.t 334), (some (330, false))⟩ <|
            .op ⟨(some 336), .load false 1 (.t 335), (some (330, false))⟩ <|
            .op ⟨(some 337), .bin .neq (.t 332) (.t 336), (some (330, false))⟩ <|
            .op ⟨(some 338), .pick (.t 330) (.c (.bool true)) (.t 337), none⟩ <|
            .op ⟨(some 339), .mov (.t 338), none⟩ <|
            .op ⟨(some 340), .faddr 1 (.t 18), (some (339, false))⟩ <|
            .op ⟨(some 341), .load false 1 (.t 340), (some (339, false))⟩ <|
            .op ⟨(some 342), .mov (.t 14), (some (339, false))⟩ <|
            .op ⟨(some 343), .nilck (.t 342), (some (339, false))⟩ <|
            .op ⟨(some 344), .faddr 1 (.t 343), (some (339, false))⟩ <|
            .op ⟨(some 345), .load false 1 (.t 344), (some (339, false))⟩ <|
            .op ⟨(some 346), .bin .neq (.t 341) (.t 345), (some (339, false))⟩ <|
            .op ⟨(some 347), .pick (.t 339) (.c (.bool true)) (.t 346), none⟩ <|
            .done)) <|
         .cond (.t 347)
          (.seq
           (.region [⟨(some 4), .mov (.c (.bool false)), none⟩]) <|
           .ret)
          (.skip))
        (.seq
         (.region [⟨(some 349), .bin .eql (.t 196) (.c (.int .u8 2)), none⟩,
            ⟨(some 348), .mov (.t 349), none⟩]) <|
         .cond (.t 348)
          (.seq
           (.region [⟨(some 20), .mov (.c (.int .i64 7)), none⟩]) <|
           .seq
           (.seq
            (.draw false [0, 5, 8, 9, 11, 14, 20, 59, 60, 61, 359] (
               .op ⟨(some 350), .mov (.t 15), none⟩ <|
               .op ⟨(some 351), .mov (.t 350), none⟩ <|
               .op ⟨(some 352), .mov (.t 14), (some (351, true))⟩ <|
               .op ⟨(some 353), .nilck (.t 352), (some (351, true))⟩ <|
               .op ⟨(some 354), .faddr 1 (.t 353), (some (351, true))⟩ <|
               .op ⟨(some 355), .load false 1 (.t 354), (some (351, true))⟩ <|
               .op ⟨(some 356), .faddr 4 (.t 11), (some (351, true))⟩ <|
               .op ⟨(some 357), .load false 1 (.t 356), (some (351, true))⟩ <|
               .op ⟨(some 358), .bin .eql (.t 355) (.t 357), (some (351, true))⟩ <|
               .op ⟨(some 359), .pick (.t 351) (.t 358) (.c (.bool false)), none⟩ <|
               .done)) <|
            .cond (.t 359)
             (.region [⟨(some 360), .mov (.t 14), none⟩,
                ⟨(some 20), .mov (.c (.int .i64 0)), none⟩,
                ⟨(some 361), .nilck (.t 360), none⟩,
                ⟨(some 362), .faddr 3 (.t 361), none⟩,
                ⟨none, .store 1 (.t 362) (.c (.bool true)), none⟩])
             (.skip)) <|
           .seq
           (.region [⟨(some 363), .mov (.t 5), none⟩,
              ⟨(some 364), .faddr 1 (.t 11), none⟩,
              ⟨(some 365), .load false 1 (.t 364), none⟩,
              ⟨(some 366), .faddr 2 (.t 11), none⟩,
              ⟨(some 367), .load false 1 (.t 366), none⟩,
              ⟨(some 368), .faddr 4 (.t 11), none⟩,
              ⟨(some 369), .load false 1 (.t 368), none⟩,
              ⟨(some 370), .call (.f 11) [(.t 363), (.t 365), (.t 367), (.t 369)], none⟩,
              ⟨(some 371), .mov (.t 20), none⟩,
              ⟨(some 372), .bin .neq (.t 370) (.t 371), none⟩]) <|
           .cond (.t 372)
            (.seq
             (.region [⟨(some 4), .mov (.c (.bool false)), none⟩]) <|
             .ret)
            (.skip))
          (.skip)))) <|
    .seq
    (.region [⟨(some 21), .mov (.c (.int .i64 0)), none⟩,
       ⟨(some 22), .mov (.c (.int .i64 4611686018427387903)), none⟩]) <|
    .seq
    (.seq
     (.region [⟨(some 373), .mov (.t 8), none⟩,
        ⟨(some 374), .range (.t 373), none⟩]) <|
     .block 4 <|
     .loop [0, 5, 8, 9, 11, 21, 22, 59, 60, 61, 374] <|
      .seq
      (.region [⟨(some 375), .next (.t 374), none⟩,
         ⟨(some 376), .extract (.t 375) 0, none⟩]) <|
      .seq
      (.cond (.t 376)
        (.skip)
        (.exit 4)) <|
      .block 5 <|
      .seq
      (.region [⟨(some 377), .entry (.t 374), none⟩,
         ⟨(some 378), .extract (.t 377) 0, none⟩,
         ⟨(some 379), .extract (.t 377) 1, none⟩,
         ⟨(some 23), .mov (.t 378), none⟩,
         ⟨(some 24), .mov (.t 379), none⟩]) <|
      .seq
      (.region [⟨(some 381), .mov (.t 5), none⟩,
         ⟨(some 382), .faddr 1 (.t 11), none⟩,
         ⟨(some 383), .load false 1 (.t 382), none⟩,
         ⟨(some 384), .mov (.t 23), none⟩,
         ⟨(some 385), .call (.f 7) [(.t 381), (.t 383), (.t 384)], none⟩,
         ⟨(some 380), .mov (.t 385), none⟩,
         ⟨(some 386), .extract (.t 380) 0, none⟩,
         ⟨(some 387), .extract (.t 380) 1, none⟩,
         ⟨(some 25), .alloc [(.int .i64 0), (.int .i64 0), (.int .i64 0)], none⟩,
         ⟨none, .store 3 (.t 25) (.t 386), none⟩,
         ⟨(some 26), .mov (.t 387), none⟩]) <|
      .seq
      (.region [⟨(some 388), .mov (.t 24), none⟩,
         ⟨(some 389), .nilck (.t 388), none⟩,
         ⟨(some 390), .faddr 3 (.t 389), none⟩,
         ⟨(some 391), .load false 1 (.t 390), none⟩,
         ⟨(some 392), .un .not (.t 391), none⟩,
         ⟨(some 393), .mov (.t 392), none⟩,
         ⟨(some 394), .mov (.t 24), (some (393, true))⟩,
         ⟨(some 395), .nilck (.t 394), (some (393, true))⟩,
         ⟨(some 396), .faddr 2 (.t 395), (some (393, true))⟩,
         ⟨(some 397), .load false 1 (.t 396), (some (393, true))⟩,
         ⟨(some 398), .mov (.t 9), (some (393, true))⟩,
         ⟨(some 399), .bin .gtr (.t 397) (.t 398), (some (393, true))⟩,
         ⟨(some 400), .pick (.t 393) (.t 399) (.c (.bool false)), none⟩,
         ⟨(some 27), .mov (.t 400), none⟩]) <|
      .seq
      (.seq
       (.draw false [0, 5, 8, 9, 11, 21, 22, 24, 27, 59, 60, 61, 374, 437] (
          .op ⟨(some 401), .mov (.t 26), none⟩ <|
          .op ⟨(some 402), .mov (.t 27), none⟩ <|
          .op ⟨(some 403), .eq true false [.bool] (.t 401) (.t 402), none⟩ <|
          .op ⟨(some 404), .mov (.t 403), none⟩ <|
          .op ⟨(some 405), .mov (.t 26), (some (404, false))⟩ <|
          .op ⟨(some 406), .mov (.t 405), (some (404, false))⟩ <|
          .op ⟨(some 407), .faddr 0 (.t 25), (some (406, true))⟩ <|
          .op ⟨(some 408), .load false 1 (.t 407), (some (406, true))⟩ <|
          .op ⟨(some 409), .mov (.t 24), (some (406, true))⟩ <|
          .op ⟨(some 410), .nilck (.t 409), (some (406, true))⟩ <|
          .op ⟨(some 411), .faddr 0 (.t 410), (some (406, true))⟩ <|
          .op ⟨(some 412), .load false 1 (.t 411), (some (406, true))⟩ <|
          .op ⟨(some 413), .bin .neq (.t 408) (.t 412), (some (406, true))⟩ <|
          .op ⟨(some 414), .mov (.t 413), (some (406, true))⟩ <|
          .op ⟨(some 415), .faddr 2 (.t 25), (some (414, false))⟩ <|
          .op ⟨(some 416), .load false 1 (.t 415), (some (414, false))⟩ <|
          .op ⟨(some 417), .mov (.t 24), (some (414, false))⟩ <|
          .op ⟨(some 418), .nilck (.t 417), (some (414, false))⟩ <|
          .op ⟨(some 419), .faddr 2 (.t 418), (some (414, false))⟩ <|
          .op ⟨(some 420), .load false 1 (.t 419), (some (414, false))⟩ <|
          .op ⟨(some 421), .bin .neq (.t 416) (.t 420), (some (414, false))⟩ <|
          .op ⟨(some 422), .pick (.t 414) (.c (.bool true)) (.t 421), (some (406, true))⟩ <|
          .op ⟨(some 423), .pick (.t 406) (.t 422) (.c (.bool false)), (some (404, false))⟩ <|
          .op ⟨(some 424), .pick (.t 404) (.c (.bool true)) (.t 423), none⟩ <|
          .op ⟨(some 425), .mov (.t 424), none⟩ <|
          .op ⟨(some 426), .mov (.t 5), (some (425, false))⟩ <|
          .op ⟨(some 427), .faddr 1 (.t 11), (some (425, false))⟩ <|
          .op ⟨(some 428), .load false 1 (.t 427), (some (425, false))⟩ <|
          .op ⟨(some 429), .mov (.t 23), (some (425, false))⟩ <|
          .op ⟨(some 430), .mov (.t 24), (some (425, false))⟩ <|
          .op ⟨(some 431), .nilck (.t 430), (some (425, false))⟩ <|
          .op ⟨(some 432), .faddr 1 (.t 431), (some (425, false))⟩ <|
          .op ⟨(some 433), .load false 1 (.t 432), (some (425, false))⟩ <|
          .op ⟨(some 435), .mov (.t 27), (some (425, false))⟩ <|
          .op ⟨(some 434), .call (.f 12) [(.t 426), (.t 428), (.t 429), (.t 433)], (some (425, false))⟩ <|
          .op ⟨(some 436), .eq true false [.bool] (.t 434) (.t 435), (some (425, false))⟩ <|
          .op ⟨(some 437), .pick (.t 425) (.c (.bool true)) (.t 436), none⟩ <|
          .done)) <|
       .cond (.t 437)
        (.seq
         (.region [⟨(some 4), .mov (.c (.bool false)), none⟩]) <|
         .ret)
        (.skip)) <|
      .seq
      (.region [⟨(some 438), .mov (.t 27), none⟩]) <|
      .cond (.t 438)
       (.seq
        (.region [⟨(some 439), .mov (.t 21), none⟩,
           ⟨(some 440), .bin .add (.t 439) (.c (.int .i64 1)), none⟩,
           ⟨(some 21), .mov (.t 440), none⟩]) <|
        .region [⟨(some 441), .mov (.t 22), none⟩,
          ⟨(some 442), .mov (.t 24), none⟩,
          ⟨(some 443), .nilck (.t 442), none⟩,
          ⟨(some 444), .faddr 2 (.t 443), none⟩,
          ⟨(some 445), .load false 1 (.t 444), none⟩,
          ⟨(some 446), .min [(.t 441), (.t 445)], none⟩,
          ⟨(some 22), .mov (.t 446), none⟩])
       (.skip)) <|
    .seq
    (.region [⟨(some 447), .mov (.t 5), none⟩,
       ⟨(some 448), .faddr 1 (.t 11), none⟩,
       ⟨(some 449), .load false 1 (.t 448), none⟩,
       ⟨(some 450), .call (.f 8) [(.t 447), (.t 449)], none⟩,
       ⟨(some 451), .len .sl (.t 450), none⟩,
       ⟨(some 452), .mov (.t 21), none⟩,
       ⟨(some 453), .bin .neq (.t 451) (.t 452), none⟩,
       ⟨(some 454), .mov (.t 453), none⟩,
       ⟨(some 455), .mov (.t 5), (some (454, false))⟩,
       ⟨(some 456), .faddr 1 (.t 11), (some (454, false))⟩,
       ⟨(some 457), .load false 1 (.t 456), (some (454, false))⟩,
       ⟨(some 458), .call (.f 13) [(.t 455), (.t 457)], (some (454, false))⟩,
       ⟨(some 459), .mov (.t 22), (some (454, false))⟩,
       ⟨(some 460), .bin .neq (.t 458) (.t 459), (some (454, false))⟩,
       ⟨(some 461), .pick (.t 454) (.c (.bool true)) (.t 460), none⟩]) <|
    .cond (.t 461)
     (.seq
      (.region [⟨(some 4), .mov (.c (.bool false)), none⟩]) <|
      .ret)
     (.skip)) <|
   .region [⟨(some 462), .bin .add (.t 61) (.c (.int .i64 1)), none⟩,
     ⟨(some 61), .mov (.t 462), none⟩]) <|
 .seq
 (.region [⟨(some 4), .mov (.c (.bool true)), none⟩]) <|
 .ret, [.slot 4]⟩
theorem c3 : Code1 Try.prog 3 463 b3 := Code1.mk' Try.func3 (by kernel_rfl) (by kernel_rfl) Try.ntmps3

/-- fusee/fuseelaw41.LeaseAlone -/
def b4 : IFn := ⟨
 .seq
 (.region [⟨(some 4), .mov (.c (.bool false)), none⟩]) <|
 .seq
 (.seq
  (.region [⟨(some 17), .call (.f 5) [], none⟩,
     ⟨(some 18), .un .not (.t 17), none⟩]) <|
  .cond (.t 18)
   (.seq
    (.region [⟨(some 4), .mov (.c (.bool false)), none⟩]) <|
    .ret)
   (.skip)) <|
 .seq
 (.seq
  (.region [⟨(some 19), .mov (.t 1), none⟩,
     ⟨(some 20), .len .sl (.t 19), none⟩,
     ⟨(some 21), .bin .gtr (.t 20) (.c (.int .i64 150)), none⟩]) <|
  .cond (.t 21)
   (.seq
    (.region [⟨(some 4), .mov (.c (.bool true)), none⟩]) <|
    .ret)
   (.skip)) <|
 .seq
 (.region [⟨(some 22), .mov (.t 0), none⟩,
    ⟨(some 23), .conv .i64 (.t 22), none⟩,
    ⟨(some 24), .call (.f 6) [(.t 23)], none⟩,
    ⟨(some 5), .mov (.t 24), none⟩]) <|
 .seq
 (.region [⟨(some 6), .mov (.c (.int .i64 0)), none⟩,
    ⟨(some 7), .mov (.c (.int .i64 0)), none⟩,
    ⟨(some 8), .mov (.c (.int .i64 0)), none⟩,
    ⟨(some 9), .mov (.c (.int .i64 0)), none⟩]) <|
 .seq
 (.seq
  (.region [⟨(some 25), .mov (.t 1), none⟩,
     ⟨(some 26), .len .sl (.t 25), none⟩,
     ⟨(some 27), .mov (.c (.int .i64 0)), none⟩]) <|
  .block 0 <|
  .loop [0, 5, 6, 7, 8, 9, 25, 26, 27] <|
   .seq
   (.region [⟨(some 28), .bin .lss (.t 27) (.t 26), none⟩]) <|
   .seq
   (.cond (.t 28)
     (.skip)
     (.exit 0)) <|
   .seq
   (.block 1 <|
    .seq
    (.region [⟨(some 29), .iaddr 1 (.t 25) (.t 27), none⟩,
       ⟨(some 30), .load false 1 (.t 29), none⟩,
       ⟨(some 11), .mov (.t 30), none⟩]) <|
    .seq
    (.region [⟨(some 31), .mov (.t 6), none⟩,
       ⟨(some 32), .mov (.t 11), none⟩,
       ⟨(some 33), .bin .rem (.t 32) (.c (.int .u16 8)), none⟩,
       ⟨(some 34), .conv .i64 (.t 33), none⟩,
       ⟨(some 35), .bin .add (.t 31) (.t 34), none⟩,
       ⟨(some 6), .mov (.t 35), none⟩]) <|
    .seq
    (.region [⟨(some 36), .mov (.t 11), none⟩,
       ⟨(some 37), .bin .quo (.t 36) (.c (.int .u16 8)), none⟩,
       ⟨(some 38), .bin .rem (.t 37) (.c (.int .u16 4)), none⟩,
       ⟨(some 39), .conv .i64 (.t 38), none⟩,
       ⟨(some 40), .bin .add (.c (.int .i64 1)) (.t 39), none⟩,
       ⟨(some 12), .mov (.t 40), none⟩]) <|
    .seq
    (.region [⟨(some 42), .mov (.t 5), none⟩,
       ⟨(some 43), .mov (.t 6), none⟩,
       ⟨(some 44), .mov (.t 12), none⟩,
       ⟨(some 45), .mov (.t 11), none⟩,
       ⟨(some 46), .bin .quo (.t 45) (.c (.int .u16 32)), none⟩,
       ⟨(some 47), .bin .rem (.t 46) (.c (.int .u16 16)), none⟩,
       ⟨(some 48), .conv .i64 (.t 47), none⟩,
       ⟨(some 49), .bin .add (.c (.int .i64 1)) (.t 48), none⟩,
       ⟨(some 50), .call (.f 9) [(.t 42), (.t 43), (.c (.int .i64 9)), (.t 44), (.t 49)], none⟩,
       ⟨(some 41), .mov (.t 50), none⟩,
       ⟨(some 51), .extract (.t 41) 0, none⟩,
       ⟨(some 52), .extract (.t 41) 1, none⟩,
       ⟨(some 13), .alloc [(.int .i64 0), (.int .i64 0), (.int .i64 0)], none⟩,
       ⟨none, .store 3 (.t 13) (.t 51), none⟩,
       ⟨(some 14), .mov (.t 52), none⟩]) <|
    .seq
    (.seq
     (.region [⟨(some 53), .mov (.t 14), none⟩,
        ⟨(some 54), .bin .eql (.t 53) (.c (.int .i64 0)), none⟩]) <|
     .cond (.t 54)
      (.seq
       (.seq
        (.region [⟨(some 55), .mov (.t 6), none⟩,
           ⟨(some 56), .mov (.t 8), none⟩,
           ⟨(some 57), .bin .lss (.t 55) (.t 56), none⟩,
           ⟨(some 58), .mov (.t 57), none⟩,
           ⟨(some 59), .mov (.t 7), (some (58, false))⟩,
           ⟨(some 60), .bin .neq (.t 59) (.c (.int .i64 0)), (some (58, false))⟩,
           ⟨(some 61), .mov (.t 60), (some (58, false))⟩,
           ⟨(some 62), .mov (.t 12), (some (61, true))⟩,
           ⟨(some 63), .mov (.t 7), (some (61, true))⟩,
           ⟨(some 64), .bin .neq (.t 62) (.t 63), (some (61, true))⟩,
           ⟨(some 65), .pick (.t 61) (.t 64) (.c (.bool false)), (some (58, false))⟩,
           ⟨(some 66), .mov (.t 65), (some (58, false))⟩,
           ⟨(some 67), .mov (.t 6), (some (66, true))⟩,
           ⟨(some 68), .mov (.t 8), (some (66, true))⟩,
           ⟨(some 69), .mov (.t 0), (some (66, true))⟩,
           ⟨(some 70), .conv .i64 (.t 69), (some (66, true))⟩,
           ⟨(some 71), .bin .add (.t 68) (.t 70), (some (66, true))⟩,
           ⟨(some 72), .bin .lss (.t 67) (.t 71), (some (66, true))⟩,
           ⟨(some 73), .pick (.t 66) (.t 72) (.c (.bool false)), (some (58, false))⟩,
           ⟨(some 74), .pick (.t 58) (.c (.bool true)) (.t 73), none⟩,
           ⟨(some 75), .mov (.t 74), none⟩,
           ⟨(some 76), .faddr 1 (.t 13), (some (75, false))⟩,
           ⟨(some 77), .load false 1 (.t 76), (some (75, false))⟩,
           ⟨(some 78), .mov (.t 9), (some (75, false))⟩,
           ⟨(some 79), .bin .leq (.t 77) (.t 78), (some (75, false))⟩,
           ⟨(some 80), .pick (.t 75) (.c (.bool true)) (.t 79), none⟩,
           ⟨(some 81), .mov (.t 80), none⟩,
           ⟨(some 82), .faddr 0 (.t 13), (some (81, false))⟩,
           ⟨(some 83), .load false 1 (.t 82), (some (81, false))⟩,
           ⟨(some 84), .mov (.t 12), (some (81, false))⟩,
           ⟨(some 85), .bin .neq (.t 83) (.t 84), (some (81, false))⟩,
           ⟨(some 86), .pick (.t 81) (.c (.bool true)) (.t 85), none⟩]) <|
        .cond (.t 86)
         (.seq
          (.region [⟨(some 4), .mov (.c (.bool false)), none⟩]) <|
          .ret)
         (.skip)) <|
       .draw false [0, 5, 6, 7, 8, 9, 25, 26, 27] (
         .op ⟨(some 87), .mov (.t 12), none⟩ <|
         .op ⟨(some 88), .faddr 2 (.t 13), none⟩ <|
         .op ⟨(some 89), .load false 1 (.t 88), none⟩ <|
         .op ⟨(some 90), .faddr 1 (.t 13), none⟩ <|
         .op ⟨(some 91), .load false 1 (.t 90), none⟩ <|
         .op ⟨(some 7), .mov (.t 87), none⟩ <|
         .op ⟨(some 8), .mov (.t 89), none⟩ <|
         .op ⟨(some 9), .mov (.t 91), none⟩ <|
         .done))
      (.skip)) <|
    .seq
    (.region [⟨(some 93), .mov (.t 5), none⟩,
       ⟨(some 94), .mov (.t 6), none⟩,
       ⟨(some 95), .call (.f 7) [(.t 93), (.t 94), (.c (.int .i64 9))], none⟩,
       ⟨(some 92), .mov (.t 95), none⟩,
       ⟨(some 96), .extract (.t 92) 0, none⟩,
       ⟨(some 97), .extract (.t 92) 1, none⟩,
       ⟨(some 15), .alloc [(.int .i64 0), (.int .i64 0), (.int .i64 0)], none⟩,
       ⟨none, .store 3 (.t 15) (.t 96), none⟩,
       ⟨(some 16), .mov (.t 97), none⟩]) <|
    .seq
    (.region [⟨(some 98), .mov (.t 16), none⟩,
       ⟨(some 99), .mov (.t 6), none⟩,
       ⟨(some 100), .mov (.t 8), none⟩,
       ⟨(some 101), .bin .lss (.t 99) (.t 100), none⟩,
       ⟨(some 102), .eq true false [.bool] (.t 98) (.t 101), none⟩,
       ⟨(some 103), .mov (.t 102), none⟩,
       ⟨(some 104), .mov (.t 16), (some (103, false))⟩,
       ⟨(some 105), .mov (.t 104), (some (103, false))⟩,
       ⟨(some 106), .faddr 0 (.t 15), (some (105, true))⟩,
       ⟨(some 107), .load false 1 (.t 106), (some (105, true))⟩,
       ⟨(some 108), .mov (.t 7), (some (105, true))⟩,
       ⟨(some 109), .bin .neq (.t 107) (.t 108), (some (105, true))⟩,
       ⟨(some 110), .mov (.t 109), (some (105, true))⟩,
       ⟨(some 111), .faddr 1 (.t 15), (some (110, false))⟩,
       ⟨(some 112), .load false 1 (.t 111), (some (110, false))⟩,
       ⟨(some 113), .mov (.t 9), (some (110, false))⟩,
       ⟨(some 114), .bin .neq (.t 112) (.t 113), (some (110, false))⟩,
       ⟨(some 115), .pick (.t 110) (.c (.bool true)) (.t 114), (some (105, true))⟩,
       ⟨(some 116), .pick (.t 105) (.t 115) (.c (.bool false)), (some (103, false))⟩,
       ⟨(some 117), .pick (.t 103) (.c (.bool true)) (.t 116), none⟩]) <|
    .cond (.t 117)
     (.seq
      (.region [⟨(some 4), .mov (.c (.bool false)), none⟩]) <|
      .ret)
     (.skip)) <|
   .region [⟨(some 118), .bin .add (.t 27) (.c (.int .i64 1)), none⟩,
     ⟨(some 27), .mov (.t 118), none⟩]) <|
 .seq
 (.region [⟨(some 4), .mov (.c (.bool true)), none⟩]) <|
 .ret, [.slot 4]⟩
theorem c4 : Code1 Try.prog 4 119 b4 := Code1.mk' Try.func4 (by kernel_rfl) (by kernel_rfl) Try.ntmps4

/-- fusee/fuseelaw41.fixed -/
def b5 : IFn := ⟨
 .seq
 (.region [⟨(some 0), .mov (.c (.bool false)), none⟩]) <|
 .seq
 (.region [⟨(some 15), .call (.f 6) [(.c (.int .i64 3))], none⟩,
    ⟨(some 1), .mov (.t 15), none⟩]) <|
 .seq
 (.region [⟨(some 17), .mov (.t 1), none⟩,
    ⟨(some 18), .call (.f 9) [(.t 17), (.c (.int .i64 10)), (.c (.int .i64 7)), (.c (.int .i64 1)), (.c (.int .i64 5))], none⟩,
    ⟨(some 16), .mov (.t 18), none⟩,
    ⟨(some 19), .extract (.t 16) 0, none⟩,
    ⟨(some 20), .extract (.t 16) 1, none⟩,
    ⟨(some 2), .alloc [(.int .i64 0), (.int .i64 0), (.int .i64 0)], none⟩,
    ⟨none, .store 3 (.t 2) (.t 19), none⟩,
    ⟨(some 3), .mov (.t 20), none⟩]) <|
 .seq
 (.region [⟨(some 22), .mov (.t 1), none⟩,
    ⟨(some 23), .call (.f 9) [(.t 22), (.c (.int .i64 14)), (.c (.int .i64 7)), (.c (.int .i64 2)), (.c (.int .i64 5))], none⟩,
    ⟨(some 21), .mov (.t 23), none⟩,
    ⟨(some 24), .extract (.t 21) 0, none⟩,
    ⟨(some 25), .extract (.t 21) 1, none⟩,
    ⟨(some 4), .alloc [(.int .i64 0), (.int .i64 0), (.int .i64 0)], none⟩,
    ⟨none, .store 3 (.t 4) (.t 24), none⟩,
    ⟨(some 5), .mov (.t 25), none⟩]) <|
 .seq
 (.region [⟨(some 27), .mov (.t 1), none⟩,
    ⟨(some 28), .call (.f 9) [(.t 27), (.c (.int .i64 16)), (.c (.int .i64 7)), (.c (.int .i64 2)), (.c (.int .i64 5))], none⟩,
    ⟨(some 26), .mov (.t 28), none⟩,
    ⟨(some 29), .extract (.t 26) 0, none⟩,
    ⟨(some 30), .extract (.t 26) 1, none⟩,
    ⟨(some 6), .alloc [(.int .i64 0), (.int .i64 0), (.int .i64 0)], none⟩,
    ⟨none, .store 3 (.t 6) (.t 29), none⟩,
    ⟨(some 7), .mov (.t 30), none⟩]) <|
 .seq
 (.region [⟨(some 32), .mov (.t 1), none⟩,
    ⟨(some 33), .call (.f 9) [(.t 32), (.c (.int .i64 18)), (.c (.int .i64 7)), (.c (.int .i64 2)), (.c (.int .i64 5))], none⟩,
    ⟨(some 31), .mov (.t 33), none⟩,
    ⟨(some 34), .extract (.t 31) 0, none⟩,
    ⟨(some 35), .extract (.t 31) 1, none⟩,
    ⟨(some 8), .alloc [(.int .i64 0), (.int .i64 0), (.int .i64 0)], none⟩,
    ⟨none, .store 3 (.t 8) (.t 34), none⟩,
    ⟨(some 9), .mov (.t 35), none⟩]) <|
 .seq
 (.region [⟨(some 37), .mov (.t 1), none⟩,
    ⟨(some 38), .call (.f 10) [(.t 37), (.c (.int .i64 20)), (.c (.int .i64 7)), (.c (.int .i64 2)), (.c (.int .i64 9))], none⟩,
    ⟨(some 36), .mov (.t 38), none⟩,
    ⟨(some 39), .extract (.t 36) 0, none⟩,
    ⟨(some 40), .extract (.t 36) 1, none⟩,
    ⟨(some 10), .alloc [(.int .i64 0), (.int .i64 0), (.int .i64 0)], none⟩,
    ⟨none, .store 3 (.t 10) (.t 39), none⟩,
    ⟨(some 11), .mov (.t 40), none⟩]) <|
 .seq
 (.region [⟨(some 12), .mov (.c (.ptr none)), none⟩]) <|
 .seq
 (.region [⟨(some 42), .mov (.t 12), none⟩,
    ⟨(some 43), .call (.f 9) [(.t 42), (.c (.int .i64 1)), (.c (.int .i64 1)), (.c (.int .i64 1)), (.c (.int .i64 1))], none⟩,
    ⟨(some 41), .mov (.t 43), none⟩,
    ⟨(some 44), .extract (.t 41) 0, none⟩,
    ⟨(some 45), .extract (.t 41) 1, none⟩,
    ⟨(some 13), .alloc [(.int .i64 0), (.int .i64 0), (.int .i64 0)], none⟩,
    ⟨none, .store 3 (.t 13) (.t 44), none⟩,
    ⟨(some 14), .mov (.t 45), none⟩]) <|
 .seq
 (.region [⟨(some 46), .mov (.t 3), none⟩,
    ⟨(some 47), .bin .eql (.t 46) (.c (.int .i64 0)), none⟩,
    ⟨(some 48), .mov (.t 47), none⟩,
    ⟨(some 49), .load true 3 (.t 2), (some (48, true))⟩,
    ⟨(some 50), .build [(.int .i64 0), (.int .i64 0), (.int .i64 0)] [(0, 1, (.c (.int .i64 1))), (1, 1, (.c (.int .i64 1))), (2, 1, (.c (.int .i64 15)))], (some (48, true))⟩,
    ⟨(some 51), .eq false true [.int, .int, .int] (.t 49) (.t 50), (some (48, true))⟩,
    ⟨(some 52), .pick (.t 48) (.t 51) (.c (.bool false)), none⟩,
    ⟨(some 53), .mov (.t 52), none⟩,
    ⟨(some 54), .mov (.t 5), (some (53, true))⟩,
    ⟨(some 55), .bin .eql (.t 54) (.c (.int .i64 9)), (some (53, true))⟩,
    ⟨(some 56), .pick (.t 53) (.t 55) (.c (.bool false)), none⟩,
    ⟨(some 57), .mov (.t 56), none⟩,
    ⟨(some 58), .mov (.t 7), (some (57, true))⟩,
    ⟨(some 59), .bin .eql (.t 58) (.c (.int .i64 9)), (some (57, true))⟩,
    ⟨(some 60), .pick (.t 57) (.t 59) (.c (.bool false)), none⟩,
    ⟨(some 61), .mov (.t 60), none⟩,
    ⟨(some 62), .mov (.t 9), (some (61, true))⟩,
    ⟨(some 63), .bin .eql (.t 62) (.c (.int .i64 0)), (some (61, true))⟩,
    ⟨(some 64), .pick (.t 61) (.t 63) (.c (.bool false)), none⟩,
    ⟨(some 65), .mov (.t 64), none⟩,
    ⟨(some 66), .faddr 1 (.t 8), (some (65, true))⟩,
    ⟨(some 67), .load false 1 (.t 66), (some (65, true))⟩,
    ⟨(some 68), .bin .eql (.t 67) (.c (.int .i64 2)), (some (65, true))⟩,
    ⟨(some 69), .pick (.t 65) (.t 68) (.c (.bool false)), none⟩,
    ⟨(some 70), .mov (.t 69), none⟩,
    ⟨(some 71), .mov (.t 11), (some (70, true))⟩,
    ⟨(some 72), .bin .eql (.t 71) (.c (.int .i64 0)), (some (70, true))⟩,
    ⟨(some 73), .pick (.t 70) (.t 72) (.c (.bool false)), none⟩,
    ⟨(some 74), .mov (.t 73), none⟩,
    ⟨(some 75), .faddr 2 (.t 10), (some (74, true))⟩,
    ⟨(some 76), .load false 1 (.t 75), (some (74, true))⟩,
    ⟨(some 77), .bin .eql (.t 76) (.c (.int .i64 29)), (some (74, true))⟩,
    ⟨(some 78), .pick (.t 74) (.t 77) (.c (.bool false)), none⟩,
    ⟨(some 79), .mov (.t 78), none⟩,
    ⟨(some 80), .mov (.t 1), (some (79, true))⟩,
    ⟨(some 81), .call (.f 12) [(.t 80), (.c (.int .i64 21)), (.c (.int .i64 7)), (.c (.int .i64 2))], (some (79, true))⟩,
    ⟨(some 82), .pick (.t 79) (.t 81) (.c (.bool false)), none⟩,
    ⟨(some 83), .mov (.t 82), none⟩,
    ⟨(some 84), .mov (.t 1), (some (83, true))⟩,
    ⟨(some 85), .call (.f 13) [(.t 84), (.c (.int .i64 21))], (some (83, true))⟩,
    ⟨(some 86), .bin .eql (.t 85) (.c (.int .i64 29)), (some (83, true))⟩,
    ⟨(some 87), .pick (.t 83) (.t 86) (.c (.bool false)), none⟩,
    ⟨(some 88), .mov (.t 87), none⟩,
    ⟨(some 89), .mov (.t 1), (some (88, true))⟩,
    ⟨(some 90), .call (.f 8) [(.t 89), (.c (.int .i64 21))], (some (88, true))⟩,
    ⟨(some 91), .len .sl (.t 90), (some (88, true))⟩,
    ⟨(some 92), .bin .eql (.t 91) (.c (.int .i64 1)), (some (88, true))⟩,
    ⟨(some 93), .pick (.t 88) (.t 92) (.c (.bool false)), none⟩,
    ⟨(some 94), .mov (.t 93), none⟩,
    ⟨(some 95), .mov (.t 1), (some (94, true))⟩,
    ⟨(some 96), .call (.f 11) [(.t 95), (.c (.int .i64 21)), (.c (.int .i64 7)), (.c (.int .i64 2))], (some (94, true))⟩,
    ⟨(some 97), .bin .eql (.t 96) (.c (.int .i64 0)), (some (94, true))⟩,
    ⟨(some 98), .pick (.t 94) (.t 97) (.c (.bool false)), none⟩,
    ⟨(some 99), .mov (.t 98), none⟩,
    ⟨(some 100), .mov (.t 1), (some (99, true))⟩,
    ⟨(some 101), .call (.f 11) [(.t 100), (.c (.int .i64 21)), (.c (.int .i64 7)), (.c (.int .i64 2))], (some (99, true))⟩,
    ⟨(some 102), .bin .eql (.t 101) (.c (.int .i64 7)), (some (99, true))⟩,
    ⟨(some 103), .pick (.t 99) (.t 102) (.c (.bool false)), none⟩,
    ⟨(some 104), .mov (.t 103), none⟩,
    ⟨(some 105), .mov (.t 14), (some (104, true))⟩,
    ⟨(some 106), .bin .eql (.t 105) (.c (.int .i64 1)), (some (104, true))⟩,
    ⟨(some 107), .pick (.t 104) (.t 106) (.c (.bool false)), none⟩,
    ⟨(some 108), .mov (.t 107), none⟩,
    ⟨(some 109), .call (.f 6) [(.c (.int .i64 (-1)))], (some (108, true))⟩,
    ⟨(some 110), .eq false false [.ptr] (.t 109) (.c (.ptr none)), (some (108, true))⟩,
    ⟨(some 111), .pick (.t 108) (.t 110) (.c (.bool false)), none⟩,
    ⟨(some 112), .mov (.t 111), none⟩,
    ⟨(some 113), .mov (.t 12), (some (112, true))⟩,
    ⟨(some 114), .call (.f 13) [(.t 113), (.c (.int .i64 1))], (some (112, true))⟩,
    ⟨(some 115), .bin .eql (.t 114) (.c (.int .i64 4611686018427387903)), (some (112, true))⟩,
    ⟨(some 116), .pick (.t 112) (.t 115) (.c (.bool false)), none⟩,
    ⟨(some 0), .mov (.t 116), none⟩]) <|
 .ret, [.slot 0]⟩
theorem c5 : Code1 Try.prog 5 117 b5 := Code1.mk' Try.func5 (by kernel_rfl) (by kernel_rfl) Try.ntmps5

/-- fusee/lease.New -/
def b6 : IFn := ⟨
 .seq
 (.region [⟨(some 2), .mov (.c (.ptr none)), none⟩]) <|
 .seq
 (.seq
  (.region [⟨(some 5), .mov (.t 0), none⟩,
     ⟨(some 6), .bin .lss (.t 5) (.c (.int .i64 0)), none⟩,
     ⟨(some 7), .mov (.t 6), none⟩,
     ⟨(some 8), .mov (.t 0), (some (7, false))⟩,
     ⟨(some 9), .bin .gtr (.t 8) (.c (.int .i64 1099511627776)), (some (7, false))⟩,
     ⟨(some 10), .pick (.t 7) (.c (.bool true)) (.t 9), none⟩]) <|
  .cond (.t 10)
   (.seq
    (.region [⟨(some 2), .mov (.c (.ptr none)), none⟩]) <|
    .ret)
   (.skip)) <|
 .seq
 (.region [⟨(some 11), .mov (.t 0), none⟩,
    ⟨(some 12), .build zRow [(0, 1, (.t 11)), (1, 1, (.c (.int .i64 (-4611686018427387903))))], none⟩,
    ⟨(some 13), .box (.t 12), none⟩,
    ⟨(some 3), .mov (.t 13), none⟩]) <|
 .seq
 (.seq
  (.region [⟨(some 14), .mov (.c (.int .i64 0)), none⟩]) <|
  .block 0 <|
  .loop [3, 14] <|
   .seq
   (.region [⟨(some 15), .bin .lss (.t 14) (.c (.int .i64 256)), none⟩]) <|
   .seq
   (.cond (.t 15)
     (.skip)
     (.exit 0)) <|
   .seq
   (.block 1 <|
    .seq
    (.region [⟨(some 16), .mov (.t 14), none⟩,
       ⟨(some 4), .mov (.t 16), none⟩]) <|
    .region [⟨(some 17), .mov (.t 3), none⟩,
      ⟨(some 18), .mov (.t 4), none⟩,
      ⟨(some 19), .nilck (.t 17), none⟩,
      ⟨(some 20), .faddr 770 (.t 19), none⟩,
      ⟨(some 21), .iaddrA 256 1 (.t 20) (.t 18), none⟩,
      ⟨none, .store 1 (.t 21) (.c (.bool true)), none⟩]) <|
   .region [⟨(some 22), .bin .add (.t 14) (.c (.int .i64 1)), none⟩,
     ⟨(some 14), .mov (.t 22), none⟩]) <|
 .seq
 (.region [⟨(some 23), .mov (.t 3), none⟩,
    ⟨(some 2), .mov (.t 23), none⟩]) <|
 .ret, [.slot 2]⟩
theorem c6 : Code1 Try.prog 6 24 b6 := Code1.mk' Try.func6 (by kernel_rfl) (by kernel_rfl) Try.ntmps6

/-- fusee/lease.Desk.Of -/
def b7 : IFn := ⟨
 .seq
 (.region [⟨(some 6), .alloc [(.int .i64 0), (.int .i64 0), (.int .i64 0)], none⟩,
    ⟨(some 7), .mov (.c (.bool false)), none⟩]) <|
 .seq
 (.region [⟨(some 9), .mov (.t 0), none⟩,
    ⟨(some 10), .mov (.t 1), none⟩,
    ⟨(some 11), .mov (.t 2), none⟩,
    ⟨(some 12), .call (.f 14) [(.t 9), (.t 10), (.t 11)], none⟩,
    ⟨(some 8), .mov (.t 12), none⟩]) <|
 .seq
 (.seq
  (.region [⟨(some 13), .mov (.t 8), none⟩,
     ⟨(some 14), .eq false false [.ptr] (.t 13) (.c (.ptr none)), none⟩,
     ⟨(some 15), .mov (.t 14), none⟩,
     ⟨(some 16), .mov (.t 0), (some (15, false))⟩,
     ⟨(some 17), .mov (.t 2), (some (15, false))⟩,
     ⟨(some 18), .call (.f 15) [(.t 16), (.t 17)], (some (15, false))⟩,
     ⟨(some 19), .un .not (.t 18), (some (15, false))⟩,
     ⟨(some 20), .pick (.t 15) (.c (.bool true)) (.t 19), none⟩]) <|
  .cond (.t 20)
   (.seq
    (.region [⟨(some 21), .build [(.int .i64 0), (.int .i64 0), (.int .i64 0)] [], none⟩,
       ⟨none, .store 3 (.t 6) (.t 21), none⟩,
       ⟨(some 7), .mov (.c (.bool false)), none⟩]) <|
    .ret)
   (.skip)) <|
 .seq
 (.region [⟨(some 22), .mov (.t 8), none⟩,
    ⟨(some 23), .nilck (.t 22), none⟩,
    ⟨(some 24), .load true 3 (.t 23), none⟩,
    ⟨none, .store 3 (.t 6) (.t 24), none⟩,
    ⟨(some 7), .mov (.c (.bool true)), none⟩]) <|
 .ret, [.cell 6 true 3, .slot 7]⟩
theorem c7 : Code1 Try.prog 7 25 b7 := Code1.mk' Try.func7 (by kernel_rfl) (by kernel_rfl) Try.ntmps7

/-- fusee/lease.Desk.Held -/
def b8 : IFn := ⟨
 .seq
 (.region [⟨(some 4), .mov (.c (.sl none 0 (some 0))), none⟩]) <|
 .seq
 (.region [⟨(some 5), .mov (.c (.sl none 0 (some 0))), none⟩]) <|
 .seq
 (.seq
  (.region [⟨(some 9), .mov (.c (.int .i64 0)), none⟩]) <|
  .block 0 <|
  .loop [0, 1, 5, 9] <|
   .seq
   (.region [⟨(some 10), .bin .lss (.t 9) (.c (.int .i64 256)), none⟩]) <|
   .seq
   (.cond (.t 10)
     (.skip)
     (.exit 0)) <|
   .seq
   (.block 1 <|
    .seq
    (.region [⟨(some 11), .mov (.t 9), none⟩,
       ⟨(some 6), .mov (.t 11), none⟩]) <|
    .seq
    (.region [⟨(some 13), .mov (.t 0), none⟩,
       ⟨(some 14), .mov (.t 1), none⟩,
       ⟨(some 15), .mov (.t 6), none⟩,
       ⟨(some 16), .call (.f 7) [(.t 13), (.t 14), (.t 15)], none⟩,
       ⟨(some 12), .mov (.t 16), none⟩,
       ⟨(some 17), .extract (.t 12) 0, none⟩,
       ⟨(some 18), .extract (.t 12) 1, none⟩,
       ⟨(some 7), .alloc [(.int .i64 0), (.int .i64 0), (.int .i64 0)], none⟩,
       ⟨none, .store 3 (.t 7) (.t 17), none⟩,
       ⟨(some 8), .mov (.t 18), none⟩]) <|
    .seq
    (.region [⟨(some 19), .mov (.t 8), none⟩]) <|
    .cond (.t 19)
     (.region [⟨(some 20), .mov (.t 5), none⟩,
        ⟨(some 21), .mov (.t 6), none⟩,
        ⟨(some 22), .buildSl 1 [(.int .i64 0)] [(0, 1, (.t 21))], none⟩,
        ⟨(some 23), .app 1 8 (.t 20) (.t 22), none⟩,
        ⟨(some 5), .mov (.t 23), none⟩])
     (.skip)) <|
   .region [⟨(some 24), .bin .add (.t 9) (.c (.int .i64 1)), none⟩,
     ⟨(some 9), .mov (.t 24), none⟩]) <|
 .seq
 (.region [⟨(some 25), .mov (.t 5), none⟩,
    ⟨(some 4), .mov (.t 25), none⟩]) <|
 .ret, [.slot 4]⟩
theorem c8 : Code1 Try.prog 8 26 b8 := Code1.mk' Try.func8 (by kernel_rfl) (by kernel_rfl) Try.ntmps8

/-- fusee/lease.Desk.Take -/
def b9 : IFn := ⟨
 .seq
 (.region [⟨(some 10), .alloc [(.int .i64 0), (.int .i64 0), (.int .i64 0)], none⟩,
    ⟨(some 11), .mov (.c (.int .i64 0)), none⟩]) <|
 .seq
 (.seq
  (.region [⟨(some 13), .mov (.t 0), none⟩,
     ⟨(some 14), .eq true false [.ptr] (.t 13) (.c (.ptr none)), none⟩,
     ⟨(some 15), .mov (.t 14), none⟩,
     ⟨(some 16), .mov (.t 3), (some (15, true))⟩,
     ⟨(some 17), .bin .lss (.t 16) (.c (.int .i64 1)), (some (15, true))⟩,
     ⟨(some 18), .mov (.t 17), (some (15, true))⟩,
     ⟨(some 19), .mov (.t 4), (some (18, false))⟩,
     ⟨(some 20), .bin .lss (.t 19) (.c (.int .i64 1)), (some (18, false))⟩,
     ⟨(some 21), .pick (.t 18) (.c (.bool true)) (.t 20), (some (15, true))⟩,
     ⟨(some 22), .mov (.t 21), (some (15, true))⟩,
     ⟨(some 23), .mov (.t 4), (some (22, false))⟩,
     ⟨(some 24), .bin .gtr (.t 23) (.c (.int .i64 1099511627776)), (some (22, false))⟩,
     ⟨(some 25), .pick (.t 22) (.c (.bool true)) (.t 24), (some (15, true))⟩,
     ⟨(some 26), .pick (.t 15) (.t 25) (.c (.bool false)), none⟩]) <|
  .cond (.t 26)
   (.seq
    (.region [⟨(some 27), .build [(.int .i64 0), (.int .i64 0), (.int .i64 0)] [], none⟩,
       ⟨none, .store 3 (.t 10) (.t 27), none⟩,
       ⟨(some 11), .mov (.c (.int .i64 2)), none⟩]) <|
    .ret)
   (.skip)) <|
 .seq
 (.region [⟨(some 28), .mov (.t 0), none⟩,
    ⟨(some 29), .mov (.t 1), none⟩,
    ⟨(some 30), .mov (.t 2), none⟩,
    ⟨(some 31), .call (.f 14) [(.t 28), (.t 29), (.t 30)], none⟩,
    ⟨(some 12), .mov (.t 31), none⟩]) <|
 .seq
 (.block 0 <|
  .seq
  (.region [⟨(some 33), .mov (.t 12), none⟩,
     ⟨(some 34), .eq false false [.ptr] (.t 33) (.c (.ptr none)), none⟩,
     ⟨(some 32), .mov (.t 34), none⟩]) <|
  .cond (.t 32)
   (.seq
    (.region [⟨(some 35), .build [(.int .i64 0), (.int .i64 0), (.int .i64 0)] [], none⟩,
       ⟨(some 36), .mov (.t 0), none⟩,
       ⟨(some 37), .call (.f 16) [(.t 36)], none⟩,
       ⟨none, .store 3 (.t 10) (.t 35), none⟩,
       ⟨(some 11), .mov (.t 37), none⟩]) <|
    .ret)
   (.seq
    (.seq
     (.region [⟨(some 39), .mov (.t 0), none⟩,
        ⟨(some 40), .mov (.t 2), none⟩,
        ⟨(some 41), .call (.f 15) [(.t 39), (.t 40)], none⟩,
        ⟨(some 38), .mov (.t 41), none⟩]) <|
     .cond (.t 38)
      (.skip)
      (.draw true [0, 2, 3, 4, 10, 12, 38] (
         .op ⟨(some 42), .mov (.t 0), none⟩ <|
         .op ⟨(some 43), .mov (.t 2), none⟩ <|
         .op ⟨(some 44), .nilck (.t 42), none⟩ <|
         .op ⟨(some 45), .faddr 770 (.t 44), none⟩ <|
         .op ⟨(some 46), .iaddrA 256 1 (.t 45) (.t 43), none⟩ <|
         .op ⟨(some 47), .load false 1 (.t 46), none⟩ <|
         .op ⟨(some 48), .un .not (.t 47), none⟩ <|
         .op ⟨(some 49), .mov (.t 48), none⟩ <|
         .op ⟨(some 50), .mov (.t 12), (some (49, true))⟩ <|
         .op ⟨(some 51), .nilck (.t 50), (some (49, true))⟩ <|
         .op ⟨(some 52), .faddr 0 (.t 51), (some (49, true))⟩ <|
         .op ⟨(some 53), .load false 1 (.t 52), (some (49, true))⟩ <|
         .op ⟨(some 54), .mov (.t 3), (some (49, true))⟩ <|
         .op ⟨(some 55), .bin .neq (.t 53) (.t 54), (some (49, true))⟩ <|
         .op ⟨(some 56), .pick (.t 49) (.t 55) (.c (.bool false)), none⟩ <|
         .op ⟨(some 57), .mov (.t 56), none⟩ <|
         .op ⟨(some 58), .mov (.t 0), (some (57, true))⟩ <|
         .op ⟨(some 59), .nilck (.t 58), (some (57, true))⟩ <|
         .op ⟨(some 60), .faddr 1 (.t 59), (some (57, true))⟩ <|
         .op ⟨(some 61), .load false 1 (.t 60), (some (57, true))⟩ <|
         .op ⟨(some 62), .mov (.t 12), (some (57, true))⟩ <|
         .op ⟨(some 63), .nilck (.t 62), (some (57, true))⟩ <|
         .op ⟨(some 64), .faddr 2 (.t 63), (some (57, true))⟩ <|
         .op ⟨(some 65), .load false 1 (.t 64), (some (57, true))⟩ <|
         .op ⟨(some 67), .mov (.t 0), (some (57, true))⟩ <|
         .op ⟨(some 68), .nilck (.t 67), (some (57, true))⟩ <|
         .op ⟨(some 69), .faddr 0 (.t 68), (some (57, true))⟩ <|
         .alt (.op ⟨(some 66), .call (.f 17) [(.t 61), (.t 65)], (some (57, true))⟩ <|
          .op ⟨(some 70), .load false 1 (.t 69), (some (57, true))⟩ <|
          .op ⟨(some 71), .bin .lss (.t 66) (.t 70), (some (57, true))⟩ <|
          .op ⟨(some 72), .pick (.t 57) (.t 71) (.c (.bool false)), none⟩ <|
          .op ⟨(some 38), .mov (.t 72), none⟩ <|
          .done) <|
         .op ⟨(some 70), .load false 1 (.t 69), (some (57, true))⟩ <|
         .op ⟨(some 66), .call (.f 17) [(.t 61), (.t 65)], (some (57, true))⟩ <|
         .op ⟨(some 71), .bin .lss (.t 66) (.t 70), (some (57, true))⟩ <|
         .op ⟨(some 72), .pick (.t 57) (.t 71) (.c (.bool false)), none⟩ <|
         .op ⟨(some 38), .mov (.t 72), none⟩ <|
         .done))) <|
    .cond (.t 38)
     (.seq
      (.region [⟨(some 73), .build [(.int .i64 0), (.int .i64 0), (.int .i64 0)] [], none⟩,
         ⟨none, .store 3 (.t 10) (.t 73), none⟩,
         ⟨(some 11), .mov (.c (.int .i64 9)), none⟩]) <|
      .ret)
     (.skip))) <|
 .seq
 (.draw true [0, 2, 10, 12] (
    .op ⟨(some 74), .mov (.t 12), none⟩ <|
    .op ⟨(some 75), .mov (.t 3), none⟩ <|
    .op ⟨(some 76), .mov (.t 12), none⟩ <|
    .op ⟨(some 77), .nilck (.t 76), none⟩ <|
    .op ⟨(some 78), .faddr 1 (.t 77), none⟩ <|
    .op ⟨(some 81), .mov (.t 0), none⟩ <|
    .op ⟨(some 82), .nilck (.t 81), none⟩ <|
    .op ⟨(some 83), .faddr 1 (.t 82), none⟩ <|
    .op ⟨(some 84), .load false 1 (.t 83), none⟩ <|
    .op ⟨(some 85), .mov (.t 4), none⟩ <|
    .alt (.op ⟨(some 79), .load false 1 (.t 78), none⟩ <|
     .op ⟨(some 80), .bin .add (.t 79) (.c (.int .i64 1)), none⟩ <|
     .op ⟨(some 86), .call (.f 18) [(.t 84), (.t 85)], none⟩ <|
     .op ⟨(some 87), .build [(.int .i64 0), (.int .i64 0), (.int .i64 0)] [(0, 1, (.t 75)), (1, 1, (.t 80)), (2, 1, (.t 86))], none⟩ <|
     .op ⟨(some 88), .nilck (.t 74), none⟩ <|
     .op ⟨none, .store 3 (.t 88) (.t 87), none⟩ <|
     .done) <|
    .op ⟨(some 86), .call (.f 18) [(.t 84), (.t 85)], none⟩ <|
    .op ⟨(some 79), .load false 1 (.t 78), none⟩ <|
    .op ⟨(some 80), .bin .add (.t 79) (.c (.int .i64 1)), none⟩ <|
    .op ⟨(some 87), .build [(.int .i64 0), (.int .i64 0), (.int .i64 0)] [(0, 1, (.t 75)), (1, 1, (.t 80)), (2, 1, (.t 86))], none⟩ <|
    .op ⟨(some 88), .nilck (.t 74), none⟩ <|
    .op ⟨none, .store 3 (.t 88) (.t 87), none⟩ <|
    .done)) <|
 .seq
 (.region [⟨(some 89), .mov (.t 0), none⟩,
    ⟨(some 90), .mov (.t 2), none⟩,
    ⟨(some 91), .nilck (.t 89), none⟩,
    ⟨(some 92), .faddr 770 (.t 91), none⟩,
    ⟨(some 93), .iaddrA 256 1 (.t 92) (.t 90), none⟩,
    ⟨none, .store 1 (.t 93) (.c (.bool false)), none⟩]) <|
 .seq
 (.region [⟨(some 94), .mov (.t 12), none⟩,
    ⟨(some 95), .nilck (.t 94), none⟩,
    ⟨(some 96), .load true 3 (.t 95), none⟩,
    ⟨none, .store 3 (.t 10) (.t 96), none⟩,
    ⟨(some 11), .mov (.c (.int .i64 0)), none⟩]) <|
 .ret, [.cell 10 true 3, .slot 11]⟩
theorem c9 : Code1 Try.prog 9 97 b9 := Code1.mk' Try.func9 (by kernel_rfl) (by kernel_rfl) Try.ntmps9

/-- fusee/lease.Desk.Renew -/
def b10 : IFn := ⟨
 .seq
 (.region [⟨(some 10), .alloc [(.int .i64 0), (.int .i64 0), (.int .i64 0)], none⟩,
    ⟨(some 11), .mov (.c (.int .i64 0)), none⟩]) <|
 .seq
 (.seq
  (.region [⟨(some 13), .mov (.t 0), none⟩,
     ⟨(some 14), .eq true false [.ptr] (.t 13) (.c (.ptr none)), none⟩,
     ⟨(some 15), .mov (.t 14), none⟩,
     ⟨(some 16), .mov (.t 4), (some (15, true))⟩,
     ⟨(some 17), .bin .lss (.t 16) (.c (.int .i64 1)), (some (15, true))⟩,
     ⟨(some 18), .mov (.t 17), (some (15, true))⟩,
     ⟨(some 19), .mov (.t 4), (some (18, false))⟩,
     ⟨(some 20), .bin .gtr (.t 19) (.c (.int .i64 1099511627776)), (some (18, false))⟩,
     ⟨(some 21), .pick (.t 18) (.c (.bool true)) (.t 20), (some (15, true))⟩,
     ⟨(some 22), .pick (.t 15) (.t 21) (.c (.bool false)), none⟩]) <|
  .cond (.t 22)
   (.seq
    (.region [⟨(some 23), .build [(.int .i64 0), (.int .i64 0), (.int .i64 0)] [], none⟩,
       ⟨none, .store 3 (.t 10) (.t 23), none⟩,
       ⟨(some 11), .mov (.c (.int .i64 2)), none⟩]) <|
    .ret)
   (.skip)) <|
 .seq
 (.region [⟨(some 24), .mov (.t 0), none⟩,
    ⟨(some 25), .mov (.t 1), none⟩,
    ⟨(some 26), .mov (.t 2), none⟩,
    ⟨(some 27), .call (.f 14) [(.t 24), (.t 25), (.t 26)], none⟩,
    ⟨(some 12), .mov (.t 27), none⟩]) <|
 .seq
 (.block 0 <|
  .seq
  (.region [⟨(some 29), .mov (.t 12), none⟩,
     ⟨(some 30), .eq false false [.ptr] (.t 29) (.c (.ptr none)), none⟩,
     ⟨(some 28), .mov (.t 30), none⟩]) <|
  .cond (.t 28)
   (.seq
    (.region [⟨(some 31), .build [(.int .i64 0), (.int .i64 0), (.int .i64 0)] [], none⟩,
       ⟨(some 32), .mov (.t 0), none⟩,
       ⟨(some 33), .call (.f 16) [(.t 32)], none⟩,
       ⟨none, .store 3 (.t 10) (.t 31), none⟩,
       ⟨(some 11), .mov (.t 33), none⟩]) <|
    .ret)
   (.seq
    (.region [⟨(some 35), .mov (.t 0), none⟩,
       ⟨(some 36), .mov (.t 2), none⟩,
       ⟨(some 37), .call (.f 15) [(.t 35), (.t 36)], none⟩,
       ⟨(some 38), .un .not (.t 37), none⟩,
       ⟨(some 39), .mov (.t 38), none⟩,
       ⟨(some 40), .mov (.t 12), (some (39, false))⟩,
       ⟨(some 41), .nilck (.t 40), (some (39, false))⟩,
       ⟨(some 42), .faddr 1 (.t 41), (some (39, false))⟩,
       ⟨(some 43), .load false 1 (.t 42), (some (39, false))⟩,
       ⟨(some 44), .mov (.t 3), (some (39, false))⟩,
       ⟨(some 45), .bin .neq (.t 43) (.t 44), (some (39, false))⟩,
       ⟨(some 46), .pick (.t 39) (.c (.bool true)) (.t 45), none⟩,
       ⟨(some 34), .mov (.t 46), none⟩]) <|
    .cond (.t 34)
     (.seq
      (.region [⟨(some 47), .build [(.int .i64 0), (.int .i64 0), (.int .i64 0)] [], none⟩,
         ⟨none, .store 3 (.t 10) (.t 47), none⟩,
         ⟨(some 11), .mov (.c (.int .i64 7)), none⟩]) <|
      .ret)
     (.skip))) <|
 .seq
 (.draw true [10, 12] (
    .op ⟨(some 48), .mov (.t 12), none⟩ <|
    .op ⟨(some 49), .mov (.t 12), none⟩ <|
    .op ⟨(some 50), .nilck (.t 49), none⟩ <|
    .op ⟨(some 51), .faddr 2 (.t 50), none⟩ <|
    .op ⟨(some 53), .mov (.t 0), none⟩ <|
    .op ⟨(some 54), .nilck (.t 53), none⟩ <|
    .op ⟨(some 55), .faddr 1 (.t 54), none⟩ <|
    .op ⟨(some 56), .load false 1 (.t 55), none⟩ <|
    .op ⟨(some 57), .mov (.t 4), none⟩ <|
    .alt (.op ⟨(some 52), .load false 1 (.t 51), none⟩ <|
     .op ⟨(some 58), .call (.f 18) [(.t 56), (.t 57)], none⟩ <|
     .op ⟨(some 59), .max [(.t 52), (.t 58)], none⟩ <|
     .op ⟨(some 60), .nilck (.t 48), none⟩ <|
     .op ⟨(some 61), .faddr 2 (.t 60), none⟩ <|
     .op ⟨none, .store 1 (.t 61) (.t 59), none⟩ <|
     .done) <|
    .op ⟨(some 58), .call (.f 18) [(.t 56), (.t 57)], none⟩ <|
    .op ⟨(some 52), .load false 1 (.t 51), none⟩ <|
    .op ⟨(some 59), .max [(.t 52), (.t 58)], none⟩ <|
    .op ⟨(some 60), .nilck (.t 48), none⟩ <|
    .op ⟨(some 61), .faddr 2 (.t 60), none⟩ <|
    .op ⟨none, .store 1 (.t 61) (.t 59), none⟩ <|
    .done)) <|
 .seq
 (.region [⟨(some 62), .mov (.t 12), none⟩,
    ⟨(some 63), .nilck (.t 62), none⟩,
    ⟨(some 64), .load true 3 (.t 63), none⟩,
    ⟨none, .store 3 (.t 10) (.t 64), none⟩,
    ⟨(some 11), .mov (.c (.int .i64 0)), none⟩]) <|
 .ret, [.cell 10 true 3, .slot 11]⟩
theorem c10 : Code1 Try.prog 10 65 b10 := Code1.mk' Try.func10 (by kernel_rfl) (by kernel_rfl) Try.ntmps10

/-- fusee/lease.Desk.Give -/
def b11 : IFn := ⟨
 .seq
 (.region [⟨(some 8), .mov (.c (.int .i64 0)), none⟩]) <|
 .seq
 (.region [⟨(some 10), .mov (.t 0), none⟩,
    ⟨(some 11), .mov (.t 1), none⟩,
    ⟨(some 12), .mov (.t 2), none⟩,
    ⟨(some 13), .call (.f 14) [(.t 10), (.t 11), (.t 12)], none⟩,
    ⟨(some 9), .mov (.t 13), none⟩]) <|
 .seq
 (.block 0 <|
  .seq
  (.region [⟨(some 15), .mov (.t 9), none⟩,
     ⟨(some 16), .eq false false [.ptr] (.t 15) (.c (.ptr none)), none⟩,
     ⟨(some 14), .mov (.t 16), none⟩]) <|
  .cond (.t 14)
   (.seq
    (.region [⟨(some 17), .mov (.t 0), none⟩,
       ⟨(some 18), .call (.f 16) [(.t 17)], none⟩,
       ⟨(some 8), .mov (.t 18), none⟩]) <|
    .ret)
   (.seq
    (.region [⟨(some 20), .mov (.t 0), none⟩,
       ⟨(some 21), .mov (.t 2), none⟩,
       ⟨(some 22), .call (.f 15) [(.t 20), (.t 21)], none⟩,
       ⟨(some 23), .un .not (.t 22), none⟩,
       ⟨(some 24), .mov (.t 23), none⟩,
       ⟨(some 25), .mov (.t 9), (some (24, false))⟩,
       ⟨(some 26), .nilck (.t 25), (some (24, false))⟩,
       ⟨(some 27), .faddr 1 (.t 26), (some (24, false))⟩,
       ⟨(some 28), .load false 1 (.t 27), (some (24, false))⟩,
       ⟨(some 29), .mov (.t 3), (some (24, false))⟩,
       ⟨(some 30), .bin .neq (.t 28) (.t 29), (some (24, false))⟩,
       ⟨(some 31), .pick (.t 24) (.c (.bool true)) (.t 30), none⟩,
       ⟨(some 19), .mov (.t 31), none⟩]) <|
    .cond (.t 19)
     (.seq
      (.region [⟨(some 8), .mov (.c (.int .i64 7)), none⟩]) <|
      .ret)
     (.skip))) <|
 .seq
 (.region [⟨(some 32), .mov (.t 0), none⟩,
    ⟨(some 33), .mov (.t 2), none⟩,
    ⟨(some 34), .nilck (.t 32), none⟩,
    ⟨(some 35), .faddr 770 (.t 34), none⟩,
    ⟨(some 36), .iaddrA 256 1 (.t 35) (.t 33), none⟩,
    ⟨none, .store 1 (.t 36) (.c (.bool true)), none⟩]) <|
 .seq
 (.region [⟨(some 8), .mov (.c (.int .i64 0)), none⟩]) <|
 .ret, [.slot 8]⟩
theorem c11 : Code1 Try.prog 11 37 b11 := Code1.mk' Try.func11 (by kernel_rfl) (by kernel_rfl) Try.ntmps11

/-- fusee/lease.Desk.Right -/
def b12 : IFn := ⟨
 .seq
 (.region [⟨(some 8), .mov (.c (.bool false)), none⟩]) <|
 .seq
 (.region [⟨(some 12), .mov (.t 0), none⟩,
    ⟨(some 13), .mov (.t 1), none⟩,
    ⟨(some 14), .mov (.t 2), none⟩,
    ⟨(some 15), .call (.f 7) [(.t 12), (.t 13), (.t 14)], none⟩,
    ⟨(some 11), .mov (.t 15), none⟩,
    ⟨(some 16), .extract (.t 11) 0, none⟩,
    ⟨(some 17), .extract (.t 11) 1, none⟩,
    ⟨(some 9), .alloc [(.int .i64 0), (.int .i64 0), (.int .i64 0)], none⟩,
    ⟨none, .store 3 (.t 9) (.t 16), none⟩,
    ⟨(some 10), .mov (.t 17), none⟩]) <|
 .seq
 (.region [⟨(some 18), .mov (.t 10), none⟩,
    ⟨(some 19), .mov (.t 18), none⟩,
    ⟨(some 20), .faddr 1 (.t 9), (some (19, true))⟩,
    ⟨(some 21), .load false 1 (.t 20), (some (19, true))⟩,
    ⟨(some 22), .mov (.t 3), (some (19, true))⟩,
    ⟨(some 23), .bin .eql (.t 21) (.t 22), (some (19, true))⟩,
    ⟨(some 24), .pick (.t 19) (.t 23) (.c (.bool false)), none⟩,
    ⟨(some 8), .mov (.t 24), none⟩]) <|
 .ret, [.slot 8]⟩
theorem c12 : Code1 Try.prog 12 25 b12 := Code1.mk' Try.func12 (by kernel_rfl) (by kernel_rfl) Try.ntmps12

/-- fusee/lease.Desk.Next -/
def b13 : IFn := ⟨
 .seq
 (.region [⟨(some 4), .mov (.c (.int .i64 0)), none⟩]) <|
 .seq
 (.region [⟨(some 5), .mov (.c (.int .i64 4611686018427387903)), none⟩]) <|
 .seq
 (.seq
  (.region [⟨(some 9), .mov (.c (.int .i64 0)), none⟩]) <|
  .block 0 <|
  .loop [0, 1, 5, 9] <|
   .seq
   (.region [⟨(some 10), .bin .lss (.t 9) (.c (.int .i64 256)), none⟩]) <|
   .seq
   (.cond (.t 10)
     (.skip)
     (.exit 0)) <|
   .seq
   (.block 1 <|
    .seq
    (.region [⟨(some 11), .mov (.t 9), none⟩,
       ⟨(some 6), .mov (.t 11), none⟩]) <|
    .seq
    (.region [⟨(some 13), .mov (.t 0), none⟩,
       ⟨(some 14), .mov (.t 1), none⟩,
       ⟨(some 15), .mov (.t 6), none⟩,
       ⟨(some 16), .call (.f 7) [(.t 13), (.t 14), (.t 15)], none⟩,
       ⟨(some 12), .mov (.t 16), none⟩,
       ⟨(some 17), .extract (.t 12) 0, none⟩,
       ⟨(some 18), .extract (.t 12) 1, none⟩,
       ⟨(some 7), .alloc [(.int .i64 0), (.int .i64 0), (.int .i64 0)], none⟩,
       ⟨none, .store 3 (.t 7) (.t 17), none⟩,
       ⟨(some 8), .mov (.t 18), none⟩]) <|
    .seq
    (.region [⟨(some 19), .mov (.t 8), none⟩]) <|
    .cond (.t 19)
     (.region [⟨(some 20), .mov (.t 5), none⟩,
        ⟨(some 21), .faddr 2 (.t 7), none⟩,
        ⟨(some 22), .load false 1 (.t 21), none⟩,
        ⟨(some 23), .min [(.t 20), (.t 22)], none⟩,
        ⟨(some 5), .mov (.t 23), none⟩])
     (.skip)) <|
   .region [⟨(some 24), .bin .add (.t 9) (.c (.int .i64 1)), none⟩,
     ⟨(some 9), .mov (.t 24), none⟩]) <|
 .seq
 (.region [⟨(some 25), .mov (.t 5), none⟩,
    ⟨(some 4), .mov (.t 25), none⟩]) <|
 .ret, [.slot 4]⟩
theorem c13 : Code1 Try.prog 13 26 b13 := Code1.mk' Try.func13 (by kernel_rfl) (by kernel_rfl) Try.ntmps13

/-- fusee/lease.Desk.at -/
def b14 : IFn := ⟨
 .seq
 (.region [⟨(some 6), .mov (.c (.ptr none)), none⟩]) <|
 .seq
 (.seq
  (.region [⟨(some 7), .mov (.t 0), none⟩,
     ⟨(some 8), .eq false false [.ptr] (.t 7) (.c (.ptr none)), none⟩,
     ⟨(some 9), .mov (.t 8), none⟩,
     ⟨(some 10), .mov (.t 2), (some (9, false))⟩,
     ⟨(some 11), .bin .lss (.t 10) (.c (.int .i64 0)), (some (9, false))⟩,
     ⟨(some 12), .pick (.t 9) (.c (.bool true)) (.t 11), none⟩,
     ⟨(some 13), .mov (.t 12), none⟩,
     ⟨(some 14), .mov (.t 2), (some (13, false))⟩,
     ⟨(some 15), .bin .geq (.t 14) (.c (.int .i64 256)), (some (13, false))⟩,
     ⟨(some 16), .pick (.t 13) (.c (.bool true)) (.t 15), none⟩]) <|
  .cond (.t 16)
   (.seq
    (.region [⟨(some 6), .mov (.c (.ptr none)), none⟩]) <|
    .ret)
   (.skip)) <|
 .seq
 (.draw true [0, 2] (
    .op ⟨(some 17), .mov (.t 0), none⟩ <|
    .op ⟨(some 18), .mov (.t 0), none⟩ <|
    .op ⟨(some 19), .nilck (.t 18), none⟩ <|
    .op ⟨(some 20), .faddr 1 (.t 19), none⟩ <|
    .op ⟨(some 22), .mov (.t 1), none⟩ <|
    .alt (.op ⟨(some 21), .load false 1 (.t 20), none⟩ <|
     .op ⟨(some 23), .call (.f 19) [(.t 22)], none⟩ <|
     .op ⟨(some 24), .max [(.t 21), (.t 23)], none⟩ <|
     .op ⟨(some 25), .nilck (.t 17), none⟩ <|
     .op ⟨(some 26), .faddr 1 (.t 25), none⟩ <|
     .op ⟨none, .store 1 (.t 26) (.t 24), none⟩ <|
     .done) <|
    .op ⟨(some 23), .call (.f 19) [(.t 22)], none⟩ <|
    .op ⟨(some 21), .load false 1 (.t 20), none⟩ <|
    .op ⟨(some 24), .max [(.t 21), (.t 23)], none⟩ <|
    .op ⟨(some 25), .nilck (.t 17), none⟩ <|
    .op ⟨(some 26), .faddr 1 (.t 25), none⟩ <|
    .op ⟨none, .store 1 (.t 26) (.t 24), none⟩ <|
    .done)) <|
 .seq
 (.region [⟨(some 27), .mov (.t 0), none⟩,
    ⟨(some 28), .mov (.t 2), none⟩,
    ⟨(some 29), .nilck (.t 27), none⟩,
    ⟨(some 30), .faddr 2 (.t 29), none⟩,
    ⟨(some 31), .iaddrA 256 3 (.t 30) (.t 28), none⟩,
    ⟨(some 6), .mov (.t 31), none⟩]) <|
 .ret, [.slot 6]⟩
theorem c14 : Code1 Try.prog 14 32 b14 := Code1.mk' Try.func14 (by kernel_rfl) (by kernel_rfl) Try.ntmps14

/-- fusee/lease.Desk.held -/
def b15 : IFn := ⟨
 .seq
 (.region [⟨(some 4), .mov (.c (.bool false)), none⟩]) <|
 .seq
 (.draw false [4] (
    .op ⟨(some 5), .mov (.t 0), none⟩ <|
    .op ⟨(some 6), .mov (.t 1), none⟩ <|
    .op ⟨(some 7), .nilck (.t 5), none⟩ <|
    .op ⟨(some 8), .faddr 770 (.t 7), none⟩ <|
    .op ⟨(some 9), .iaddrA 256 1 (.t 8) (.t 6), none⟩ <|
    .op ⟨(some 10), .load false 1 (.t 9), none⟩ <|
    .op ⟨(some 11), .un .not (.t 10), none⟩ <|
    .op ⟨(some 12), .mov (.t 11), none⟩ <|
    .op ⟨(some 13), .mov (.t 0), (some (12, true))⟩ <|
    .op ⟨(some 14), .mov (.t 1), (some (12, true))⟩ <|
    .op ⟨(some 15), .nilck (.t 13), (some (12, true))⟩ <|
    .op ⟨(some 16), .faddr 2 (.t 15), (some (12, true))⟩ <|
    .op ⟨(some 17), .iaddrA 256 3 (.t 16) (.t 14), (some (12, true))⟩ <|
    .op ⟨(some 18), .faddr 2 (.t 17), (some (12, true))⟩ <|
    .op ⟨(some 19), .load false 1 (.t 18), (some (12, true))⟩ <|
    .op ⟨(some 20), .mov (.t 0), (some (12, true))⟩ <|
    .op ⟨(some 21), .nilck (.t 20), (some (12, true))⟩ <|
    .op ⟨(some 22), .faddr 1 (.t 21), (some (12, true))⟩ <|
    .op ⟨(some 23), .load false 1 (.t 22), (some (12, true))⟩ <|
    .op ⟨(some 24), .bin .gtr (.t 19) (.t 23), (some (12, true))⟩ <|
    .op ⟨(some 25), .pick (.t 12) (.t 24) (.c (.bool false)), none⟩ <|
    .op ⟨(some 4), .mov (.t 25), none⟩ <|
    .done)) <|
 .ret, [.slot 4]⟩
theorem c15 : Code1 Try.prog 15 26 b15 := Code1.mk' Try.func15 (by kernel_rfl) (by kernel_rfl) Try.ntmps15

/-- fusee/lease.Desk.missing -/
def b16 : IFn := ⟨
 .seq
 (.region [⟨(some 2), .mov (.c (.int .i64 0)), none⟩]) <|
 .seq
 (.seq
  (.region [⟨(some 3), .mov (.t 0), none⟩,
     ⟨(some 4), .eq false false [.ptr] (.t 3) (.c (.ptr none)), none⟩]) <|
  .cond (.t 4)
   (.seq
    (.region [⟨(some 2), .mov (.c (.int .i64 1)), none⟩]) <|
    .ret)
   (.skip)) <|
 .seq
 (.region [⟨(some 2), .mov (.c (.int .i64 2)), none⟩]) <|
 .ret, [.slot 2]⟩
theorem c16 : Code1 Try.prog 16 5 b16 := Code1.mk' Try.func16 (by kernel_rfl) (by kernel_rfl) Try.ntmps16

/-- fusee/ktime.Sub -/
def b17 : IFn := ⟨
 .seq
 (.region [⟨(some 4), .mov (.c (.int .i64 0)), none⟩]) <|
 .seq
 (.seq
  (.region [⟨(some 5), .mov (.t 0), none⟩,
     ⟨(some 6), .call (.f 20) [(.t 5)], none⟩]) <|
  .cond (.t 6)
   (.seq
    (.region [⟨(some 4), .mov (.c (.int .i64 4611686018427387903)), none⟩]) <|
    .ret)
   (.skip)) <|
 .seq
 (.region [⟨(some 7), .mov (.t 0), none⟩,
    ⟨(some 8), .call (.f 19) [(.t 7)], none⟩,
    ⟨(some 9), .mov (.t 1), none⟩,
    ⟨(some 10), .call (.f 19) [(.t 9)], none⟩,
    ⟨(some 11), .bin .sub (.t 8) (.t 10), none⟩,
    ⟨(some 12), .call (.f 19) [(.t 11)], none⟩,
    ⟨(some 4), .mov (.t 12), none⟩]) <|
 .ret, [.slot 4]⟩
theorem c17 : Code1 Try.prog 17 13 b17 := Code1.mk' Try.func17 (by kernel_rfl) (by kernel_rfl) Try.ntmps17

/-- fusee/ktime.Add -/
def b18 : IFn := ⟨
 .seq
 (.region [⟨(some 4), .mov (.c (.int .i64 0)), none⟩]) <|
 .seq
 (.seq
  (.region [⟨(some 5), .mov (.t 0), none⟩,
     ⟨(some 6), .call (.f 20) [(.t 5)], none⟩]) <|
  .cond (.t 6)
   (.seq
    (.region [⟨(some 4), .mov (.c (.int .i64 4611686018427387903)), none⟩]) <|
    .ret)
   (.skip)) <|
 .seq
 (.region [⟨(some 7), .mov (.t 0), none⟩,
    ⟨(some 8), .call (.f 19) [(.t 7)], none⟩,
    ⟨(some 9), .mov (.t 1), none⟩,
    ⟨(some 10), .call (.f 19) [(.t 9)], none⟩,
    ⟨(some 11), .bin .add (.t 8) (.t 10), none⟩,
    ⟨(some 12), .call (.f 19) [(.t 11)], none⟩,
    ⟨(some 4), .mov (.t 12), none⟩]) <|
 .ret, [.slot 4]⟩
theorem c18 : Code1 Try.prog 18 13 b18 := Code1.mk' Try.func18 (by kernel_rfl) (by kernel_rfl) Try.ntmps18

/-- fusee/ktime.Clamp -/
def b19 : IFn := ⟨
 .seq
 (.region [⟨(some 2), .mov (.c (.int .i64 0)), none⟩]) <|
 .seq
 (.region [⟨(some 3), .mov (.t 0), none⟩,
    ⟨(some 4), .max [(.t 3), (.c (.int .i64 (-4611686018427387903)))], none⟩,
    ⟨(some 5), .min [(.t 4), (.c (.int .i64 4611686018427387903))], none⟩,
    ⟨(some 2), .mov (.t 5), none⟩]) <|
 .ret, [.slot 2]⟩
theorem c19 : Code1 Try.prog 19 6 b19 := Code1.mk' Try.func19 (by kernel_rfl) (by kernel_rfl) Try.ntmps19

/-- fusee/ktime.Never -/
def b20 : IFn := ⟨
 .seq
 (.region [⟨(some 2), .mov (.c (.bool false)), none⟩]) <|
 .seq
 (.region [⟨(some 3), .mov (.t 0), none⟩,
    ⟨(some 4), .bin .geq (.t 3) (.c (.int .i64 4611686018427387903)), none⟩,
    ⟨(some 2), .mov (.t 4), none⟩]) <|
 .ret, [.slot 2]⟩
theorem c20 : Code1 Try.prog 20 5 b20 := Code1.mk' Try.func20 (by kernel_rfl) (by kernel_rfl) Try.ntmps20

/-- The functions that the facts at the head of each statement call. -/
abbrev code : CodeL := [(5, 117, b5), (6, 24, b6), (7, 25, b7), (8, 26, b8), (9, 97, b9), (10, 65, b10), (11, 37, b11), (12, 25, b12), (13, 26, b13), (14, 32, b14), (15, 26, b15), (16, 5, b16), (17, 13, b17), (18, 13, b18), (19, 6, b19), (20, 5, b20)]
theorem codeOk : CodeOk Try.prog code := ⟨c5, c6, c7, c8, c9, c10, c11, c12, c13, c14, c15, c16, c17, c18, c19, c20, trivial⟩

end Go.Proofs.Ytdblhiebjccbaaa
