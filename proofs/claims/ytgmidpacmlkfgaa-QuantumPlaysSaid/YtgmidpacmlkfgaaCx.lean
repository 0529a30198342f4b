/-
  THE CODE of the functions of this seat, as the plain machine's; each is what the compiler makes of the program's.
-/
import Derived.Test.YtgmidpacmlkfgaaChecked
import Derived.Test.YtgmidpacmlkfgaaAm23
import Derived.KernelRfl
namespace Go.Proofs.Ytgmidpacmlkfgaa
open Go Go.AM
set_option linter.unusedVariables false

theorem hm : Try.prog.follows .mixedOrders = true := by kernel_rfl

/-- fusee/fuseelaw43.QuantumPlays -/
def b3 : IFn := ⟨
 .seq
 (.region [⟨(some 4), .mov (.c (.bool false)), none⟩]) <|
 .seq
 (.seq
  (.region [⟨(some 26), .call (.f 6) [], none⟩,
     ⟨(some 27), .un .not (.t 26), none⟩]) <|
  .cond (.t 27)
   (.seq
    (.region [⟨(some 4), .mov (.c (.bool false)), none⟩]) <|
    .ret)
   (.skip)) <|
 .seq
 (.seq
  (.region [⟨(some 28), .mov (.t 1), none⟩,
     ⟨(some 29), .len .sl (.t 28), none⟩,
     ⟨(some 30), .bin .gtr (.t 29) (.c (.int .i64 150)), none⟩]) <|
  .cond (.t 30)
   (.seq
    (.region [⟨(some 4), .mov (.c (.bool true)), none⟩]) <|
    .ret)
   (.skip)) <|
 .seq
 (.region [⟨(some 31), .mov (.t 0), none⟩,
    ⟨(some 32), .call (.f 7) [(.t 31)], none⟩,
    ⟨(some 5), .mov (.t 32), none⟩]) <|
 .seq
 (.seq
  (.region [⟨(some 33), .mov (.t 0), none⟩,
     ⟨(some 34), .bin .lss (.t 33) (.c (.int .i64 1)), none⟩,
     ⟨(some 35), .mov (.t 34), none⟩,
     ⟨(some 36), .mov (.t 0), (some (35, false))⟩,
     ⟨(some 37), .bin .gtr (.t 36) (.c (.int .i64 1000)), (some (35, false))⟩,
     ⟨(some 38), .pick (.t 35) (.c (.bool true)) (.t 37), none⟩]) <|
  .cond (.t 38)
   (.seq
    (.region [⟨(some 40), .mov (.t 5), none⟩,
       ⟨(some 41), .call (.f 8) [(.t 40), (.c (.int .i64 1))], none⟩,
       ⟨(some 39), .mov (.t 41), none⟩,
       ⟨(some 42), .extract (.t 39) 0, none⟩,
       ⟨(some 43), .extract (.t 39) 1, none⟩,
       ⟨(some 6), .mov (.t 42), none⟩,
       ⟨(some 7), .mov (.t 43), none⟩]) <|
    .seq
    (.region [⟨(some 44), .mov (.t 5), none⟩,
       ⟨(some 45), .eq false false [.ptr] (.t 44) (.c (.ptr none)), none⟩,
       ⟨(some 46), .mov (.t 45), none⟩,
       ⟨(some 47), .mov (.t 7), (some (46, true))⟩,
       ⟨(some 48), .un .not (.t 47), (some (46, true))⟩,
       ⟨(some 49), .pick (.t 46) (.t 48) (.c (.bool false)), none⟩,
       ⟨(some 4), .mov (.t 49), none⟩]) <|
    .ret)
   (.skip)) <|
 .seq
 (.region [⟨(some 8), .mov (.c (.sl none 0 (some 0))), none⟩]) <|
 .seq
 (.region [⟨(some 9), .mov (.c (.int .i64 0)), none⟩]) <|
 .seq
 (.seq
  (.region [⟨(some 50), .mov (.t 1), none⟩,
     ⟨(some 51), .len .sl (.t 50), none⟩,
     ⟨(some 52), .mov (.c (.int .i64 0)), none⟩]) <|
  .block 0 <|
  .loop [0, 5, 8, 9, 50, 51, 52] <|
   .seq
   (.region [⟨(some 53), .bin .lss (.t 52) (.t 51), none⟩]) <|
   .seq
   (.cond (.t 53)
     (.skip)
     (.exit 0)) <|
   .seq
   (.block 1 <|
    .seq
    (.region [⟨(some 54), .iaddr 3 (.t 50) (.t 52), none⟩,
       ⟨(some 55), .load true 3 (.t 54), none⟩,
       ⟨(some 11), .alloc [(.int .u8 0), (.int .i64 0), (.int .i64 0)], none⟩,
       ⟨none, .store 3 (.t 11) (.t 55), none⟩]) <|
    .seq
    (.region [⟨(some 12), .mov (.c (.int .i64 (-1))), none⟩]) <|
    .seq
    (.seq
     (.region [⟨(some 56), .mov (.t 8), none⟩,
        ⟨(some 57), .len .sl (.t 56), none⟩,
        ⟨(some 58), .mov (.c (.int .i64 0)), none⟩]) <|
     .block 2 <|
     .loop [0, 5, 8, 9, 11, 12, 50, 51, 52, 56, 57, 58] <|
      .seq
      (.region [⟨(some 59), .bin .lss (.t 58) (.t 57), none⟩]) <|
      .seq
      (.cond (.t 59)
        (.skip)
        (.exit 2)) <|
      .seq
      (.block 3 <|
       .seq
       (.region [⟨(some 60), .mov (.t 58), none⟩,
          ⟨(some 61), .iaddr 2 (.t 56) (.t 58), none⟩,
          ⟨(some 62), .load true 2 (.t 61), none⟩,
          ⟨(some 14), .alloc [(.int .i64 0), (.int .i64 0)], none⟩,
          ⟨(some 13), .mov (.t 60), none⟩,
          ⟨none, .store 2 (.t 14) (.t 62), none⟩]) <|
       .seq
       (.region [⟨(some 63), .faddr 0 (.t 14), none⟩,
          ⟨(some 64), .load false 1 (.t 63), none⟩,
          ⟨(some 65), .faddr 1 (.t 11), none⟩,
          ⟨(some 66), .load false 1 (.t 65), none⟩,
          ⟨(some 67), .bin .eql (.t 64) (.t 66), none⟩]) <|
       .cond (.t 67)
        (.region [⟨(some 68), .mov (.t 13), none⟩,
           ⟨(some 12), .mov (.t 68), none⟩])
        (.skip)) <|
      .region [⟨(some 69), .bin .add (.t 58) (.c (.int .i64 1)), none⟩,
        ⟨(some 58), .mov (.t 69), none⟩]) <|
    .seq
    (.seq
     (.region [⟨(some 70), .faddr 0 (.t 11), none⟩,
        ⟨(some 71), .load false 1 (.t 70), none⟩,
        ⟨(some 72), .bin .rem (.t 71) (.c (.int .u8 3)), none⟩]) <|
     .block 4 <|
     .seq
     (.region [⟨(some 74), .bin .eql (.t 72) (.c (.int .u8 0)), none⟩,
        ⟨(some 73), .mov (.t 74), none⟩]) <|
     .cond (.t 73)
      (.seq
       (.region [⟨(some 15), .mov (.c (.int .i64 0)), none⟩]) <|
       .seq
       (.block 5 <|
        .seq
        (.region [⟨(some 84), .faddr 2 (.t 11), none⟩,
           ⟨(some 85), .load false 1 (.t 84), none⟩,
           ⟨(some 86), .bin .lss (.t 85) (.c (.int .i64 1)), none⟩,
           ⟨(some 87), .mov (.t 86), none⟩,
           ⟨(some 88), .faddr 2 (.t 11), (some (87, false))⟩,
           ⟨(some 89), .load false 1 (.t 88), (some (87, false))⟩,
           ⟨(some 90), .bin .gtr (.t 89) (.c (.int .i64 10000)), (some (87, false))⟩,
           ⟨(some 91), .pick (.t 87) (.c (.bool true)) (.t 90), none⟩,
           ⟨(some 83), .mov (.t 91), none⟩]) <|
        .cond (.t 83)
         (.region [⟨(some 15), .mov (.c (.int .i64 2)), none⟩])
         (.seq
          (.region [⟨(some 93), .mov (.t 12), none⟩,
             ⟨(some 94), .bin .geq (.t 93) (.c (.int .i64 0)), none⟩,
             ⟨(some 92), .mov (.t 94), none⟩]) <|
          .cond (.t 92)
           (.region [⟨(some 15), .mov (.c (.int .i64 9)), none⟩])
           (.seq
            (.region [⟨(some 96), .mov (.t 8), none⟩,
               ⟨(some 97), .len .sl (.t 96), none⟩,
               ⟨(some 98), .bin .geq (.t 97) (.c (.int .i64 64)), none⟩,
               ⟨(some 95), .mov (.t 98), none⟩]) <|
            .cond (.t 95)
             (.region [⟨(some 15), .mov (.c (.int .i64 3)), none⟩])
             (.region [⟨(some 75), .mov (.t 8), none⟩,
                ⟨(some 76), .faddr 1 (.t 11), none⟩,
                ⟨(some 77), .load false 1 (.t 76), none⟩,
                ⟨(some 78), .faddr 2 (.t 11), none⟩,
                ⟨(some 79), .load false 1 (.t 78), none⟩,
                ⟨(some 80), .build [(.int .i64 0), (.int .i64 0)] [(0, 1, (.t 77)), (1, 1, (.t 79))], none⟩,
                ⟨(some 81), .buildSl 2 [(.int .i64 0), (.int .i64 0)] [(0, 2, (.t 80))], none⟩,
                ⟨(some 82), .app 2 16 (.t 75) (.t 81), none⟩,
                ⟨(some 8), .mov (.t 82), none⟩])))) <|
       .seq
       (.region [⟨(some 99), .mov (.t 5), none⟩,
          ⟨(some 100), .faddr 1 (.t 11), none⟩,
          ⟨(some 101), .load false 1 (.t 100), none⟩,
          ⟨(some 102), .faddr 2 (.t 11), none⟩,
          ⟨(some 103), .load false 1 (.t 102), none⟩,
          ⟨(some 104), .call (.f 9) [(.t 99), (.t 101), (.t 103)], none⟩,
          ⟨(some 105), .mov (.t 15), none⟩,
          ⟨(some 106), .bin .neq (.t 104) (.t 105), none⟩]) <|
       .cond (.t 106)
        (.seq
         (.region [⟨(some 4), .mov (.c (.bool false)), none⟩]) <|
         .ret)
        (.skip))
      (.seq
       (.region [⟨(some 108), .bin .eql (.t 72) (.c (.int .u8 1)), none⟩,
          ⟨(some 107), .mov (.t 108), none⟩]) <|
       .cond (.t 107)
        (.seq
         (.region [⟨(some 110), .mov (.t 5), none⟩,
            ⟨(some 111), .faddr 1 (.t 11), none⟩,
            ⟨(some 112), .load false 1 (.t 111), none⟩,
            ⟨(some 113), .call (.f 8) [(.t 110), (.t 112)], none⟩,
            ⟨(some 109), .mov (.t 113), none⟩,
            ⟨(some 114), .extract (.t 109) 0, none⟩,
            ⟨(some 115), .extract (.t 109) 1, none⟩,
            ⟨(some 16), .mov (.t 114), none⟩,
            ⟨(some 17), .mov (.t 115), none⟩]) <|
         .seq
         (.seq
          (.region [⟨(some 116), .mov (.t 17), none⟩,
             ⟨(some 117), .mov (.t 12), none⟩,
             ⟨(some 118), .bin .geq (.t 117) (.c (.int .i64 0)), none⟩,
             ⟨(some 119), .eq true false [.bool] (.t 116) (.t 118), none⟩,
             ⟨(some 120), .mov (.t 119), none⟩,
             ⟨(some 121), .mov (.t 17), (some (120, false))⟩,
             ⟨(some 122), .mov (.t 121), (some (120, false))⟩,
             ⟨(some 123), .mov (.t 16), (some (122, true))⟩,
             ⟨(some 124), .mov (.t 8), (some (122, true))⟩,
             ⟨(some 125), .mov (.t 12), (some (122, true))⟩,
             ⟨(some 126), .iaddr 2 (.t 124) (.t 125), (some (122, true))⟩,
             ⟨(some 127), .faddr 1 (.t 126), (some (122, true))⟩,
             ⟨(some 128), .load false 1 (.t 127), (some (122, true))⟩,
             ⟨(some 129), .bin .neq (.t 123) (.t 128), (some (122, true))⟩,
             ⟨(some 130), .pick (.t 122) (.t 129) (.c (.bool false)), (some (120, false))⟩,
             ⟨(some 131), .pick (.t 120) (.c (.bool true)) (.t 130), none⟩]) <|
          .cond (.t 131)
           (.seq
            (.region [⟨(some 4), .mov (.c (.bool false)), none⟩]) <|
            .ret)
           (.skip)) <|
         .seq
         (.region [⟨(some 132), .mov (.t 17), none⟩]) <|
         .cond (.t 132)
          (.draw false [0, 5, 8, 9, 50, 51, 52] (
             .op ⟨(some 134), .mov (.t 8), none⟩ <|
             .op ⟨(some 135), .mov (.t 12), none⟩ <|
             .op ⟨(some 136), .slice 2 (.t 134) none (some (.t 135)) none, none⟩ <|
             .op ⟨(some 138), .mov (.t 8), none⟩ <|
             .op ⟨(some 139), .mov (.t 12), none⟩ <|
             .op ⟨(some 140), .bin .add (.t 139) (.c (.int .i64 1)), none⟩ <|
             .op ⟨(some 141), .slice 2 (.t 138) (some (.t 140)) none none, none⟩ <|
             .op ⟨(some 133), .buildSl 2 [] [], none⟩ <|
             .op ⟨(some 137), .app 2 16 (.t 133) (.t 136), none⟩ <|
             .op ⟨(some 142), .app 2 16 (.t 137) (.t 141), none⟩ <|
             .op ⟨(some 8), .mov (.t 142), none⟩ <|
             .done))
          (.skip))
        (.seq
         (.region [⟨(some 144), .bin .eql (.t 72) (.c (.int .u8 2)), none⟩,
            ⟨(some 143), .mov (.t 144), none⟩]) <|
         .cond (.t 143)
          (.seq
           (.region [⟨(some 146), .mov (.t 5), none⟩,
              ⟨(some 147), .call (.f 10) [(.t 146)], none⟩,
              ⟨(some 145), .mov (.t 147), none⟩,
              ⟨(some 148), .extract (.t 145) 0, none⟩,
              ⟨(some 149), .extract (.t 145) 1, none⟩,
              ⟨(some 18), .alloc [(.int .i64 0), (.int .i64 0), (.int .i64 0), (.bool false)], none⟩,
              ⟨none, .store 4 (.t 18) (.t 148), none⟩,
              ⟨(some 19), .mov (.t 149), none⟩]) <|
           .seq
           (.seq
            (.region [⟨(some 150), .mov (.t 19), none⟩,
               ⟨(some 151), .mov (.t 8), none⟩,
               ⟨(some 152), .len .sl (.t 151), none⟩,
               ⟨(some 153), .bin .gtr (.t 152) (.c (.int .i64 0)), none⟩,
               ⟨(some 154), .eq true false [.bool] (.t 150) (.t 153), none⟩]) <|
            .cond (.t 154)
             (.seq
              (.region [⟨(some 4), .mov (.c (.bool false)), none⟩]) <|
              .ret)
             (.skip)) <|
           .seq
           (.seq
            (.region [⟨(some 155), .mov (.t 19), none⟩,
               ⟨(some 156), .un .not (.t 155), none⟩]) <|
            .cond (.t 156)
             (.exit 4)
             (.skip)) <|
           .seq
           (.region [⟨(some 157), .mov (.t 8), none⟩,
              ⟨(some 158), .iaddr 2 (.t 157) (.c (.int .i64 0)), none⟩,
              ⟨(some 159), .load true 2 (.t 158), none⟩,
              ⟨(some 20), .alloc [(.int .i64 0), (.int .i64 0)], none⟩,
              ⟨none, .store 2 (.t 20) (.t 159), none⟩]) <|
           .seq
           (.region [⟨(some 160), .buildSl 2 [] [], none⟩,
              ⟨(some 161), .mov (.t 8), none⟩,
              ⟨(some 162), .slice 2 (.t 161) (some (.c (.int .i64 1))) none none, none⟩,
              ⟨(some 163), .app 2 16 (.t 160) (.t 162), none⟩,
              ⟨(some 8), .mov (.t 163), none⟩]) <|
           .seq
           (.region [⟨(some 164), .faddr 1 (.t 20), none⟩,
              ⟨(some 165), .load false 1 (.t 164), none⟩,
              ⟨(some 166), .mov (.t 0), none⟩,
              ⟨(some 167), .min [(.t 165), (.t 166)], none⟩,
              ⟨(some 21), .mov (.t 167), none⟩]) <|
           .seq
           (.seq
            (.region [⟨(some 168), .load true 4 (.t 18), none⟩,
               ⟨(some 169), .faddr 0 (.t 20), none⟩,
               ⟨(some 170), .load false 1 (.t 169), none⟩,
               ⟨(some 171), .mov (.t 9), none⟩,
               ⟨(some 172), .mov (.t 21), none⟩,
               ⟨(some 173), .mov (.t 21), none⟩,
               ⟨(some 174), .faddr 1 (.t 20), none⟩,
               ⟨(some 175), .load false 1 (.t 174), none⟩,
               ⟨(some 176), .bin .eql (.t 173) (.t 175), none⟩,
               ⟨(some 177), .build [(.int .i64 0), (.int .i64 0), (.int .i64 0), (.bool false)] [(0, 1, (.t 170)), (1, 1, (.t 171)), (2, 1, (.t 172)), (3, 1, (.t 176))], none⟩,
               ⟨(some 178), .eq true true [.int, .int, .int, .bool] (.t 168) (.t 177), none⟩]) <|
            .cond (.t 178)
             (.seq
              (.region [⟨(some 4), .mov (.c (.bool false)), none⟩]) <|
              .ret)
             (.skip)) <|
           .seq
           (.region [⟨(some 179), .mov (.t 9), none⟩,
              ⟨(some 180), .mov (.t 21), none⟩,
              ⟨(some 181), .bin .add (.t 179) (.t 180), none⟩,
              ⟨(some 9), .mov (.t 181), none⟩]) <|
           .seq
           (.region [⟨(some 182), .mov (.t 21), none⟩,
              ⟨(some 183), .faddr 1 (.t 20), none⟩,
              ⟨(some 184), .load false 1 (.t 183), none⟩,
              ⟨(some 185), .bin .lss (.t 182) (.t 184), none⟩]) <|
           .cond (.t 185)
            (.region [⟨(some 186), .mov (.t 8), none⟩,
               ⟨(some 187), .faddr 0 (.t 20), none⟩,
               ⟨(some 188), .load false 1 (.t 187), none⟩,
               ⟨(some 189), .faddr 1 (.t 20), none⟩,
               ⟨(some 190), .load false 1 (.t 189), none⟩,
               ⟨(some 191), .mov (.t 21), none⟩,
               ⟨(some 192), .bin .sub (.t 190) (.t 191), none⟩,
               ⟨(some 193), .build [(.int .i64 0), (.int .i64 0)] [(0, 1, (.t 188)), (1, 1, (.t 192))], none⟩,
               ⟨(some 194), .buildSl 2 [(.int .i64 0), (.int .i64 0)] [(0, 2, (.t 193))], none⟩,
               ⟨(some 195), .app 2 16 (.t 186) (.t 194), none⟩,
               ⟨(some 8), .mov (.t 195), none⟩])
            (.skip))
          (.skip)))) <|
    .seq
    (.region [⟨(some 196), .mov (.t 5), none⟩,
       ⟨(some 197), .call (.f 11) [(.t 196)], none⟩,
       ⟨(some 22), .mov (.t 197), none⟩]) <|
    .seq
    (.region [⟨(some 23), .mov (.c (.int .i64 0)), none⟩]) <|
    .seq
    (.seq
     (.region [⟨(some 198), .mov (.t 22), none⟩,
        ⟨(some 199), .len .sl (.t 198), none⟩,
        ⟨(some 200), .mov (.t 8), none⟩,
        ⟨(some 201), .len .sl (.t 200), none⟩,
        ⟨(some 202), .bin .neq (.t 199) (.t 201), none⟩,
        ⟨(some 203), .mov (.t 202), none⟩,
        ⟨(some 204), .mov (.t 5), (some (203, false))⟩,
        ⟨(some 205), .call (.f 12) [(.t 204)], (some (203, false))⟩,
        ⟨(some 206), .mov (.t 9), (some (203, false))⟩,
        ⟨(some 207), .bin .neq (.t 205) (.t 206), (some (203, false))⟩,
        ⟨(some 208), .pick (.t 203) (.c (.bool true)) (.t 207), none⟩]) <|
     .cond (.t 208)
      (.seq
       (.region [⟨(some 4), .mov (.c (.bool false)), none⟩]) <|
       .ret)
      (.skip)) <|
    .seq
    (.seq
     (.region [⟨(some 209), .mov (.t 8), none⟩,
        ⟨(some 210), .len .sl (.t 209), none⟩,
        ⟨(some 211), .mov (.c (.int .i64 0)), none⟩]) <|
     .block 6 <|
     .loop [0, 5, 8, 9, 22, 23, 50, 51, 52, 209, 210, 211] <|
      .seq
      (.region [⟨(some 212), .bin .lss (.t 211) (.t 210), none⟩]) <|
      .seq
      (.cond (.t 212)
        (.skip)
        (.exit 6)) <|
      .seq
      (.block 7 <|
       .seq
       (.region [⟨(some 213), .mov (.t 211), none⟩,
          ⟨(some 214), .iaddr 2 (.t 209) (.t 211), none⟩,
          ⟨(some 215), .load true 2 (.t 214), none⟩,
          ⟨(some 25), .alloc [(.int .i64 0), (.int .i64 0)], none⟩,
          ⟨(some 24), .mov (.t 213), none⟩,
          ⟨none, .store 2 (.t 25) (.t 215), none⟩]) <|
       .seq
       (.region [⟨(some 216), .mov (.t 23), none⟩,
          ⟨(some 217), .faddr 1 (.t 25), none⟩,
          ⟨(some 218), .load false 1 (.t 217), none⟩,
          ⟨(some 219), .bin .add (.t 216) (.t 218), none⟩,
          ⟨(some 23), .mov (.t 219), none⟩]) <|
       .seq
       (.draw false [0, 5, 8, 9, 22, 23, 50, 51, 52, 209, 210, 211, 226] (
          .op ⟨(some 220), .mov (.t 22), none⟩ <|
          .op ⟨(some 221), .mov (.t 24), none⟩ <|
          .op ⟨(some 222), .iaddr 1 (.t 220) (.t 221), none⟩ <|
          .op ⟨(some 223), .load false 1 (.t 222), none⟩ <|
          .op ⟨(some 224), .faddr 0 (.t 25), none⟩ <|
          .op ⟨(some 225), .load false 1 (.t 224), none⟩ <|
          .op ⟨(some 226), .bin .neq (.t 223) (.t 225), none⟩ <|
          .done)) <|
       .cond (.t 226)
        (.seq
         (.region [⟨(some 4), .mov (.c (.bool false)), none⟩]) <|
         .ret)
        (.skip)) <|
      .region [⟨(some 227), .bin .add (.t 211) (.c (.int .i64 1)), none⟩,
        ⟨(some 211), .mov (.t 227), none⟩]) <|
    .seq
    (.region [⟨(some 228), .mov (.t 5), none⟩,
       ⟨(some 229), .call (.f 13) [(.t 228)], none⟩,
       ⟨(some 230), .mov (.t 23), none⟩,
       ⟨(some 231), .bin .neq (.t 229) (.t 230), none⟩]) <|
    .cond (.t 231)
     (.seq
      (.region [⟨(some 4), .mov (.c (.bool false)), none⟩]) <|
      .ret)
     (.skip)) <|
   .region [⟨(some 232), .bin .add (.t 52) (.c (.int .i64 1)), none⟩,
     ⟨(some 52), .mov (.t 232), none⟩]) <|
 .seq
 (.region [⟨(some 4), .mov (.c (.bool true)), none⟩]) <|
 .ret, [.slot 4]⟩
theorem c3 : Code1 Try.prog 3 233 b3 := Code1.mk' Try.func3 (by kernel_rfl) (by kernel_rfl) Try.ntmps3

/-- fusee/fuseelaw43.QuantumFair -/
def b4 : IFn := ⟨
 .seq
 (.region [⟨(some 4), .mov (.c (.bool false)), none⟩]) <|
 .seq
 (.seq
  (.region [⟨(some 18), .call (.f 6) [], none⟩,
     ⟨(some 19), .un .not (.t 18), none⟩]) <|
  .cond (.t 19)
   (.seq
    (.region [⟨(some 4), .mov (.c (.bool false)), none⟩]) <|
    .ret)
   (.skip)) <|
 .seq
 (.seq
  (.region [⟨(some 20), .mov (.t 1), none⟩,
     ⟨(some 21), .len .sl (.t 20), none⟩,
     ⟨(some 22), .bin .gtr (.t 21) (.c (.int .i64 30)), none⟩]) <|
  .cond (.t 22)
   (.seq
    (.region [⟨(some 4), .mov (.c (.bool true)), none⟩]) <|
    .ret)
   (.skip)) <|
 .seq
 (.region [⟨(some 23), .mov (.t 0), none⟩,
    ⟨(some 24), .conv .i64 (.t 23), none⟩,
    ⟨(some 25), .bin .add (.c (.int .i64 1)) (.t 24), none⟩,
    ⟨(some 26), .call (.f 7) [(.t 25)], none⟩,
    ⟨(some 5), .mov (.t 26), none⟩]) <|
 .seq
 (.region [⟨(some 6), .mov (.c (.sl none 0 (some 0))), none⟩]) <|
 .seq
 (.seq
  (.region [⟨(some 27), .mov (.t 1), none⟩,
     ⟨(some 28), .len .sl (.t 27), none⟩,
     ⟨(some 29), .mov (.c (.int .i64 0)), none⟩]) <|
  .block 0 <|
  .loop [0, 5, 6, 27, 28, 29] <|
   .seq
   (.region [⟨(some 30), .bin .lss (.t 29) (.t 28), none⟩]) <|
   .seq
   (.cond (.t 30)
     (.skip)
     (.exit 0)) <|
   .seq
   (.block 1 <|
    .seq
    (.region [⟨(some 31), .mov (.t 29), none⟩,
       ⟨(some 32), .iaddr 1 (.t 27) (.t 29), none⟩,
       ⟨(some 33), .load false 1 (.t 32), none⟩,
       ⟨(some 7), .mov (.t 31), none⟩,
       ⟨(some 8), .mov (.t 33), none⟩]) <|
    .seq
    (.region [⟨(some 34), .mov (.t 8), none⟩,
       ⟨(some 35), .bin .rem (.t 34) (.c (.int .u16 2000)), none⟩,
       ⟨(some 36), .conv .i64 (.t 35), none⟩,
       ⟨(some 37), .bin .add (.c (.int .i64 1)) (.t 36), none⟩,
       ⟨(some 9), .mov (.t 37), none⟩]) <|
    .seq
    (.region [⟨(some 38), .mov (.t 6), none⟩,
       ⟨(some 39), .mov (.t 9), none⟩,
       ⟨(some 40), .buildSl 1 [(.int .i64 0)] [(0, 1, (.t 39))], none⟩,
       ⟨(some 41), .app 1 8 (.t 38) (.t 40), none⟩,
       ⟨(some 6), .mov (.t 41), none⟩]) <|
    .seq
    (.region [⟨(some 42), .mov (.t 5), none⟩,
       ⟨(some 43), .mov (.t 7), none⟩,
       ⟨(some 44), .mov (.t 9), none⟩,
       ⟨(some 45), .call (.f 9) [(.t 42), (.t 43), (.t 44)], none⟩,
       ⟨(some 46), .bin .neq (.t 45) (.c (.int .i64 0)), none⟩]) <|
    .cond (.t 46)
     (.seq
      (.region [⟨(some 4), .mov (.c (.bool false)), none⟩]) <|
      .ret)
     (.skip)) <|
   .region [⟨(some 47), .bin .add (.t 29) (.c (.int .i64 1)), none⟩,
     ⟨(some 29), .mov (.t 47), none⟩]) <|
 .seq
 (.region [⟨(some 48), .mov (.t 0), none⟩,
    ⟨(some 49), .conv .i64 (.t 48), none⟩,
    ⟨(some 50), .bin .add (.c (.int .i64 1)) (.t 49), none⟩,
    ⟨(some 51), .mov (.t 6), none⟩,
    ⟨(some 52), .call (.f 14) [(.t 50), (.t 51)], none⟩,
    ⟨(some 10), .mov (.t 52), none⟩]) <|
 .seq
 (.region [⟨(some 53), .mov (.t 6), none⟩,
    ⟨(some 54), .len .sl (.t 53), none⟩,
    ⟨(some 55), .mkSl [(.int .i64 0)] 8 (.t 54) (.t 54), none⟩,
    ⟨(some 11), .mov (.t 55), none⟩]) <|
 .seq
 (.region [⟨(some 56), .mov (.t 6), none⟩,
    ⟨(some 57), .len .sl (.t 56), none⟩,
    ⟨(some 58), .mkSl [(.int .i64 0)] 8 (.t 57) (.t 57), none⟩,
    ⟨(some 12), .mov (.t 58), none⟩]) <|
 .seq
 (.seq
  (.region [⟨(some 13), .mov (.c (.int .i64 1)), none⟩]) <|
  .block 2 <|
  .loop [5, 6, 10, 11, 12, 13] <|
   .seq
   (.block 3 <|
    .seq
    (.region [⟨(some 62), .mov (.t 5), none⟩,
       ⟨(some 63), .call (.f 10) [(.t 62)], none⟩,
       ⟨(some 61), .mov (.t 63), none⟩,
       ⟨(some 64), .extract (.t 61) 0, none⟩,
       ⟨(some 65), .extract (.t 61) 1, none⟩,
       ⟨(some 14), .alloc [(.int .i64 0), (.int .i64 0), (.int .i64 0), (.bool false)], none⟩,
       ⟨none, .store 4 (.t 14) (.t 64), none⟩,
       ⟨(some 15), .mov (.t 65), none⟩]) <|
    .seq
    (.seq
     (.region [⟨(some 66), .mov (.t 15), none⟩,
        ⟨(some 67), .un .not (.t 66), none⟩]) <|
     .cond (.t 67)
      (.exit 2)
      (.skip)) <|
    .seq
    (.seq
     (.region [⟨(some 68), .faddr 0 (.t 14), none⟩,
        ⟨(some 69), .load false 1 (.t 68), none⟩,
        ⟨(some 70), .bin .lss (.t 69) (.c (.int .i64 0)), none⟩,
        ⟨(some 71), .mov (.t 70), none⟩,
        ⟨(some 72), .faddr 0 (.t 14), (some (71, false))⟩,
        ⟨(some 73), .load false 1 (.t 72), (some (71, false))⟩,
        ⟨(some 74), .mov (.t 6), (some (71, false))⟩,
        ⟨(some 75), .len .sl (.t 74), (some (71, false))⟩,
        ⟨(some 76), .bin .geq (.t 73) (.t 75), (some (71, false))⟩,
        ⟨(some 77), .pick (.t 71) (.c (.bool true)) (.t 76), none⟩,
        ⟨(some 78), .mov (.t 77), none⟩,
        ⟨(some 79), .mov (.t 12), (some (78, false))⟩,
        ⟨(some 80), .faddr 0 (.t 14), (some (78, false))⟩,
        ⟨(some 81), .load false 1 (.t 80), (some (78, false))⟩,
        ⟨(some 82), .iaddr 1 (.t 79) (.t 81), (some (78, false))⟩,
        ⟨(some 83), .load false 1 (.t 82), (some (78, false))⟩,
        ⟨(some 84), .bin .gtr (.t 83) (.c (.int .i64 0)), (some (78, false))⟩,
        ⟨(some 85), .mov (.t 84), (some (78, false))⟩,
        ⟨(some 86), .mov (.t 13), (some (85, true))⟩,
        ⟨(some 87), .mov (.t 12), (some (85, true))⟩,
        ⟨(some 88), .faddr 0 (.t 14), (some (85, true))⟩,
        ⟨(some 89), .load false 1 (.t 88), (some (85, true))⟩,
        ⟨(some 90), .iaddr 1 (.t 87) (.t 89), (some (85, true))⟩,
        ⟨(some 91), .load false 1 (.t 90), (some (85, true))⟩,
        ⟨(some 92), .bin .sub (.t 86) (.t 91), (some (85, true))⟩,
        ⟨(some 93), .mov (.t 6), (some (85, true))⟩,
        ⟨(some 94), .len .sl (.t 93), (some (85, true))⟩,
        ⟨(some 95), .bin .gtr (.t 92) (.t 94), (some (85, true))⟩,
        ⟨(some 96), .pick (.t 85) (.t 95) (.c (.bool false)), (some (78, false))⟩,
        ⟨(some 97), .pick (.t 78) (.c (.bool true)) (.t 96), none⟩]) <|
     .cond (.t 97)
      (.seq
       (.region [⟨(some 4), .mov (.c (.bool false)), none⟩]) <|
       .ret)
      (.skip)) <|
    .seq
    (.seq
     (.region [⟨(some 98), .mov (.t 6), none⟩,
        ⟨(some 99), .len .sl (.t 98), none⟩,
        ⟨(some 100), .mov (.c (.int .i64 0)), none⟩]) <|
     .block 4 <|
     .loop [5, 6, 10, 11, 12, 13, 14, 99, 100] <|
      .seq
      (.region [⟨(some 101), .bin .lss (.t 100) (.t 99), none⟩]) <|
      .seq
      (.cond (.t 101)
        (.skip)
        (.exit 4)) <|
      .seq
      (.block 5 <|
       .seq
       (.region [⟨(some 102), .mov (.t 100), none⟩,
          ⟨(some 16), .mov (.t 102), none⟩]) <|
       .seq
       (.draw false [5, 6, 10, 11, 12, 13, 14, 99, 100, 137] (
          .op ⟨(some 103), .mov (.t 16), none⟩ <|
          .op ⟨(some 104), .faddr 0 (.t 14), none⟩ <|
          .op ⟨(some 105), .load false 1 (.t 104), none⟩ <|
          .op ⟨(some 106), .bin .neq (.t 103) (.t 105), none⟩ <|
          .op ⟨(some 107), .mov (.t 106), none⟩ <|
          .op ⟨(some 108), .mov (.t 11), (some (107, true))⟩ <|
          .op ⟨(some 109), .mov (.t 16), (some (107, true))⟩ <|
          .op ⟨(some 110), .iaddr 1 (.t 108) (.t 109), (some (107, true))⟩ <|
          .op ⟨(some 111), .load false 1 (.t 110), (some (107, true))⟩ <|
          .op ⟨(some 112), .mov (.t 6), (some (107, true))⟩ <|
          .op ⟨(some 113), .mov (.t 16), (some (107, true))⟩ <|
          .op ⟨(some 114), .iaddr 1 (.t 112) (.t 113), (some (107, true))⟩ <|
          .op ⟨(some 115), .load false 1 (.t 114), (some (107, true))⟩ <|
          .op ⟨(some 116), .bin .lss (.t 111) (.t 115), (some (107, true))⟩ <|
          .op ⟨(some 117), .pick (.t 107) (.t 116) (.c (.bool false)), none⟩ <|
          .op ⟨(some 118), .mov (.t 117), none⟩ <|
          .op ⟨(some 119), .mov (.t 12), (some (118, true))⟩ <|
          .op ⟨(some 120), .faddr 0 (.t 14), (some (118, true))⟩ <|
          .op ⟨(some 121), .load false 1 (.t 120), (some (118, true))⟩ <|
          .op ⟨(some 122), .iaddr 1 (.t 119) (.t 121), (some (118, true))⟩ <|
          .op ⟨(some 123), .load false 1 (.t 122), (some (118, true))⟩ <|
          .op ⟨(some 124), .bin .gtr (.t 123) (.c (.int .i64 0)), (some (118, true))⟩ <|
          .op ⟨(some 125), .pick (.t 118) (.t 124) (.c (.bool false)), none⟩ <|
          .op ⟨(some 126), .mov (.t 125), none⟩ <|
          .op ⟨(some 127), .mov (.t 12), (some (126, true))⟩ <|
          .op ⟨(some 128), .mov (.t 16), (some (126, true))⟩ <|
          .op ⟨(some 129), .iaddr 1 (.t 127) (.t 128), (some (126, true))⟩ <|
          .op ⟨(some 130), .load false 1 (.t 129), (some (126, true))⟩ <|
          .op ⟨(some 131), .mov (.t 12), (some (126, true))⟩ <|
          .op ⟨(some 132), .faddr 0 (.t 14), (some (126, true))⟩ <|
          .op ⟨(some 133), .load false 1 (.t 132), (some (126, true))⟩ <|
          .op ⟨(some 134), .iaddr 1 (.t 131) (.t 133), (some (126, true))⟩ <|
          .op ⟨(some 135), .load false 1 (.t 134), (some (126, true))⟩ <|
          .op ⟨(some 136), .bin .lss (.t 130) (.t 135), (some (126, true))⟩ <|
          .op ⟨(some 137), .pick (.t 126) (.t 136) (.c (.bool false)), none⟩ <|
          .done)) <|
       .cond (.t 137)
        (.seq
         (.region [⟨(some 4), .mov (.c (.bool false)), none⟩]) <|
         .ret)
        (.skip)) <|
      .region [⟨(some 138), .bin .add (.t 100) (.c (.int .i64 1)), none⟩,
        ⟨(some 100), .mov (.t 138), none⟩]) <|
    .seq
    (.region [⟨(some 139), .mov (.t 12), none⟩,
       ⟨(some 140), .faddr 0 (.t 14), none⟩,
       ⟨(some 141), .load false 1 (.t 140), none⟩,
       ⟨(some 142), .mov (.t 13), none⟩,
       ⟨(some 143), .iaddr 1 (.t 139) (.t 141), none⟩,
       ⟨none, .store 1 (.t 143) (.t 142), none⟩]) <|
    .seq
    (.draw false [5, 6, 10, 11, 12, 13, 14] (
       .op ⟨(some 144), .mov (.t 11), none⟩ <|
       .op ⟨(some 145), .faddr 0 (.t 14), none⟩ <|
       .op ⟨(some 146), .load false 1 (.t 145), none⟩ <|
       .op ⟨(some 147), .iaddr 1 (.t 144) (.t 146), none⟩ <|
       .op ⟨(some 148), .load false 1 (.t 147), none⟩ <|
       .op ⟨(some 149), .faddr 2 (.t 14), none⟩ <|
       .op ⟨(some 150), .load false 1 (.t 149), none⟩ <|
       .op ⟨(some 151), .bin .add (.t 148) (.t 150), none⟩ <|
       .op ⟨(some 152), .iaddr 1 (.t 144) (.t 146), none⟩ <|
       .op ⟨none, .store 1 (.t 152) (.t 151), none⟩ <|
       .done)) <|
    .seq
    (.draw false [5, 6, 10, 11, 12, 13, 180] (
       .op ⟨(some 153), .faddr 3 (.t 14), none⟩ <|
       .op ⟨(some 154), .load false 1 (.t 153), none⟩ <|
       .op ⟨(some 155), .mov (.t 154), none⟩ <|
       .op ⟨(some 156), .mov (.t 11), (some (155, true))⟩ <|
       .op ⟨(some 157), .faddr 0 (.t 14), (some (155, true))⟩ <|
       .op ⟨(some 158), .load false 1 (.t 157), (some (155, true))⟩ <|
       .op ⟨(some 159), .iaddr 1 (.t 156) (.t 158), (some (155, true))⟩ <|
       .op ⟨(some 160), .load false 1 (.t 159), (some (155, true))⟩ <|
       .op ⟨(some 161), .mov (.t 6), (some (155, true))⟩ <|
       .op ⟨(some 162), .faddr 0 (.t 14), (some (155, true))⟩ <|
       .op ⟨(some 163), .load false 1 (.t 162), (some (155, true))⟩ <|
       .op ⟨(some 164), .iaddr 1 (.t 161) (.t 163), (some (155, true))⟩ <|
       .op ⟨(some 165), .load false 1 (.t 164), (some (155, true))⟩ <|
       .op ⟨(some 166), .bin .neq (.t 160) (.t 165), (some (155, true))⟩ <|
       .op ⟨(some 167), .mov (.t 166), (some (155, true))⟩ <|
       .op ⟨(some 168), .mov (.t 10), (some (167, false))⟩ <|
       .op ⟨(some 169), .faddr 0 (.t 14), (some (167, false))⟩ <|
       .op ⟨(some 170), .load false 1 (.t 169), (some (167, false))⟩ <|
       .op ⟨(some 171), .iaddr 1 (.t 168) (.t 170), (some (167, false))⟩ <|
       .op ⟨(some 172), .load false 1 (.t 171), (some (167, false))⟩ <|
       .op ⟨(some 173), .faddr 1 (.t 14), (some (167, false))⟩ <|
       .op ⟨(some 174), .load false 1 (.t 173), (some (167, false))⟩ <|
       .op ⟨(some 175), .faddr 2 (.t 14), (some (167, false))⟩ <|
       .op ⟨(some 176), .load false 1 (.t 175), (some (167, false))⟩ <|
       .op ⟨(some 177), .bin .add (.t 174) (.t 176), (some (167, false))⟩ <|
       .op ⟨(some 178), .bin .neq (.t 172) (.t 177), (some (167, false))⟩ <|
       .op ⟨(some 179), .pick (.t 167) (.c (.bool true)) (.t 178), (some (155, true))⟩ <|
       .op ⟨(some 180), .pick (.t 155) (.t 179) (.c (.bool false)), none⟩ <|
       .done)) <|
    .cond (.t 180)
     (.seq
      (.region [⟨(some 4), .mov (.c (.bool false)), none⟩]) <|
      .ret)
     (.skip)) <|
   .region [⟨(some 59), .mov (.t 13), none⟩,
     ⟨(some 60), .bin .add (.t 59) (.c (.int .i64 1)), none⟩,
     ⟨(some 13), .mov (.t 60), none⟩]) <|
 .seq
 (.seq
  (.region [⟨(some 181), .mov (.t 6), none⟩,
     ⟨(some 182), .len .sl (.t 181), none⟩,
     ⟨(some 183), .mov (.c (.int .i64 0)), none⟩]) <|
  .block 6 <|
  .loop [5, 6, 10, 11, 182, 183] <|
   .seq
   (.region [⟨(some 184), .bin .lss (.t 183) (.t 182), none⟩]) <|
   .seq
   (.cond (.t 184)
     (.skip)
     (.exit 6)) <|
   .seq
   (.block 7 <|
    .seq
    (.region [⟨(some 185), .mov (.t 183), none⟩,
       ⟨(some 17), .mov (.t 185), none⟩]) <|
    .seq
    (.draw false [5, 6, 10, 11, 182, 183, 194] (
       .op ⟨(some 186), .mov (.t 11), none⟩ <|
       .op ⟨(some 187), .mov (.t 17), none⟩ <|
       .op ⟨(some 188), .iaddr 1 (.t 186) (.t 187), none⟩ <|
       .op ⟨(some 189), .load false 1 (.t 188), none⟩ <|
       .op ⟨(some 190), .mov (.t 6), none⟩ <|
       .op ⟨(some 191), .mov (.t 17), none⟩ <|
       .op ⟨(some 192), .iaddr 1 (.t 190) (.t 191), none⟩ <|
       .op ⟨(some 193), .load false 1 (.t 192), none⟩ <|
       .op ⟨(some 194), .bin .neq (.t 189) (.t 193), none⟩ <|
       .done)) <|
    .cond (.t 194)
     (.seq
      (.region [⟨(some 4), .mov (.c (.bool false)), none⟩]) <|
      .ret)
     (.skip)) <|
   .region [⟨(some 195), .bin .add (.t 183) (.c (.int .i64 1)), none⟩,
     ⟨(some 183), .mov (.t 195), none⟩]) <|
 .seq
 (.region [⟨(some 196), .mov (.t 10), none⟩,
    ⟨(some 197), .len .sl (.t 196), none⟩,
    ⟨(some 198), .mov (.t 6), none⟩,
    ⟨(some 199), .len .sl (.t 198), none⟩,
    ⟨(some 200), .bin .eql (.t 197) (.t 199), none⟩,
    ⟨(some 201), .mov (.t 200), none⟩,
    ⟨(some 202), .mov (.t 5), (some (201, true))⟩,
    ⟨(some 203), .call (.f 13) [(.t 202)], (some (201, true))⟩,
    ⟨(some 204), .bin .eql (.t 203) (.c (.int .i64 0)), (some (201, true))⟩,
    ⟨(some 205), .pick (.t 201) (.t 204) (.c (.bool false)), none⟩,
    ⟨(some 4), .mov (.t 205), none⟩]) <|
 .ret, [.slot 4]⟩
theorem c4 : Code1 Try.prog 4 206 b4 := Code1.mk' Try.func4 (by kernel_rfl) (by kernel_rfl) Try.ntmps4

/-- fusee/fuseelaw43.QuantumEnds -/
def b5 : IFn := ⟨
 .seq
 (.region [⟨(some 4), .mov (.c (.bool false)), none⟩]) <|
 .seq
 (.seq
  (.region [⟨(some 13), .call (.f 6) [], none⟩,
     ⟨(some 14), .un .not (.t 13), none⟩]) <|
  .cond (.t 14)
   (.seq
    (.region [⟨(some 4), .mov (.c (.bool false)), none⟩]) <|
    .ret)
   (.skip)) <|
 .seq
 (.seq
  (.region [⟨(some 15), .mov (.t 1), none⟩,
     ⟨(some 16), .len .sl (.t 15), none⟩,
     ⟨(some 17), .bin .gtr (.t 16) (.c (.int .i64 100)), none⟩]) <|
  .cond (.t 17)
   (.seq
    (.region [⟨(some 4), .mov (.c (.bool true)), none⟩]) <|
    .ret)
   (.skip)) <|
 .seq
 (.region [⟨(some 18), .mov (.t 0), none⟩,
    ⟨(some 19), .mov (.t 1), none⟩,
    ⟨(some 20), .call (.f 14) [(.t 18), (.t 19)], none⟩,
    ⟨(some 5), .mov (.t 20), none⟩]) <|
 .seq
 (.region [⟨(some 21), .mov (.t 0), none⟩,
    ⟨(some 22), .bin .geq (.t 21) (.c (.int .i64 1)), none⟩,
    ⟨(some 23), .mov (.t 22), none⟩,
    ⟨(some 24), .mov (.t 0), (some (23, true))⟩,
    ⟨(some 25), .bin .leq (.t 24) (.c (.int .i64 1000)), (some (23, true))⟩,
    ⟨(some 26), .pick (.t 23) (.t 25) (.c (.bool false)), none⟩,
    ⟨(some 27), .mov (.t 26), none⟩,
    ⟨(some 28), .mov (.t 1), (some (27, true))⟩,
    ⟨(some 29), .len .sl (.t 28), (some (27, true))⟩,
    ⟨(some 30), .bin .leq (.t 29) (.c (.int .i64 64)), (some (27, true))⟩,
    ⟨(some 31), .pick (.t 27) (.t 30) (.c (.bool false)), none⟩,
    ⟨(some 6), .mov (.c (.int .i64 0)), none⟩,
    ⟨(some 7), .mov (.t 31), none⟩]) <|
 .seq
 (.seq
  (.region [⟨(some 32), .mov (.t 1), none⟩,
     ⟨(some 33), .len .sl (.t 32), none⟩,
     ⟨(some 34), .mov (.c (.int .i64 0)), none⟩]) <|
  .block 0 <|
  .loop [1, 5, 6, 7, 32, 33, 34] <|
   .seq
   (.region [⟨(some 35), .bin .lss (.t 34) (.t 33), none⟩]) <|
   .seq
   (.cond (.t 35)
     (.skip)
     (.exit 0)) <|
   .seq
   (.block 1 <|
    .seq
    (.region [⟨(some 36), .iaddr 1 (.t 32) (.t 34), none⟩,
       ⟨(some 37), .load false 1 (.t 36), none⟩,
       ⟨(some 9), .mov (.t 37), none⟩]) <|
    .seq
    (.region [⟨(some 38), .mov (.t 7), none⟩,
       ⟨(some 39), .mov (.t 38), none⟩,
       ⟨(some 40), .mov (.t 9), (some (39, true))⟩,
       ⟨(some 41), .bin .geq (.t 40) (.c (.int .i64 1)), (some (39, true))⟩,
       ⟨(some 42), .pick (.t 39) (.t 41) (.c (.bool false)), none⟩,
       ⟨(some 43), .mov (.t 42), none⟩,
       ⟨(some 44), .mov (.t 9), (some (43, true))⟩,
       ⟨(some 45), .bin .leq (.t 44) (.c (.int .i64 10000)), (some (43, true))⟩,
       ⟨(some 46), .pick (.t 43) (.t 45) (.c (.bool false)), none⟩,
       ⟨(some 7), .mov (.t 46), none⟩]) <|
    .seq
    (.region [⟨(some 47), .mov (.t 7), none⟩]) <|
    .cond (.t 47)
     (.region [⟨(some 48), .mov (.t 6), none⟩,
        ⟨(some 49), .mov (.t 9), none⟩,
        ⟨(some 50), .bin .add (.t 48) (.t 49), none⟩,
        ⟨(some 6), .mov (.t 50), none⟩])
     (.skip)) <|
   .region [⟨(some 51), .bin .add (.t 34) (.c (.int .i64 1)), none⟩,
     ⟨(some 34), .mov (.t 51), none⟩]) <|
 .seq
 (.seq
  (.region [⟨(some 52), .mov (.t 7), none⟩,
     ⟨(some 53), .un .not (.t 52), none⟩]) <|
  .cond (.t 53)
   (.seq
    (.region [⟨(some 54), .mov (.t 5), none⟩,
       ⟨(some 55), .len .sl (.t 54), none⟩,
       ⟨(some 56), .bin .eql (.t 55) (.c (.int .i64 0)), none⟩,
       ⟨(some 4), .mov (.t 56), none⟩]) <|
    .ret)
   (.skip)) <|
 .seq
 (.region [⟨(some 10), .mov (.c (.int .i64 0)), none⟩]) <|
 .seq
 (.seq
  (.region [⟨(some 57), .mov (.t 5), none⟩,
     ⟨(some 58), .len .sl (.t 57), none⟩,
     ⟨(some 59), .mov (.c (.int .i64 0)), none⟩]) <|
  .block 2 <|
  .loop [1, 5, 6, 10, 57, 58, 59] <|
   .seq
   (.region [⟨(some 60), .bin .lss (.t 59) (.t 58), none⟩]) <|
   .seq
   (.cond (.t 60)
     (.skip)
     (.exit 2)) <|
   .seq
   (.block 3 <|
    .seq
    (.region [⟨(some 61), .mov (.t 59), none⟩,
       ⟨(some 62), .iaddr 1 (.t 57) (.t 59), none⟩,
       ⟨(some 63), .load false 1 (.t 62), none⟩,
       ⟨(some 11), .mov (.t 61), none⟩,
       ⟨(some 12), .mov (.t 63), none⟩]) <|
    .seq
    (.seq
     (.region [⟨(some 64), .mov (.t 12), none⟩,
        ⟨(some 65), .mov (.t 1), none⟩,
        ⟨(some 66), .mov (.t 11), none⟩,
        ⟨(some 67), .iaddr 1 (.t 65) (.t 66), none⟩,
        ⟨(some 68), .load false 1 (.t 67), none⟩,
        ⟨(some 69), .bin .lss (.t 64) (.t 68), none⟩]) <|
     .cond (.t 69)
      (.seq
       (.region [⟨(some 4), .mov (.c (.bool false)), none⟩]) <|
       .ret)
      (.skip)) <|
    .region [⟨(some 70), .mov (.t 10), none⟩,
      ⟨(some 71), .mov (.t 12), none⟩,
      ⟨(some 72), .max [(.t 70), (.t 71)], none⟩,
      ⟨(some 10), .mov (.t 72), none⟩]) <|
   .region [⟨(some 73), .bin .add (.t 59) (.c (.int .i64 1)), none⟩,
     ⟨(some 59), .mov (.t 73), none⟩]) <|
 .seq
 (.region [⟨(some 74), .mov (.t 5), none⟩,
    ⟨(some 75), .len .sl (.t 74), none⟩,
    ⟨(some 76), .mov (.t 1), none⟩,
    ⟨(some 77), .len .sl (.t 76), none⟩,
    ⟨(some 78), .bin .eql (.t 75) (.t 77), none⟩,
    ⟨(some 79), .mov (.t 78), none⟩,
    ⟨(some 80), .mov (.t 10), (some (79, true))⟩,
    ⟨(some 81), .mov (.t 6), (some (79, true))⟩,
    ⟨(some 82), .bin .eql (.t 80) (.t 81), (some (79, true))⟩,
    ⟨(some 83), .pick (.t 79) (.t 82) (.c (.bool false)), none⟩,
    ⟨(some 4), .mov (.t 83), none⟩]) <|
 .ret, [.slot 4]⟩
theorem c5 : Code1 Try.prog 5 84 b5 := Code1.mk' Try.func5 (by kernel_rfl) (by kernel_rfl) Try.ntmps5

/-- fusee/fuseelaw43.fixed -/
def b6 : IFn := ⟨
 .seq
 (.region [⟨(some 0), .mov (.c (.bool false)), none⟩]) <|
 .seq
 (.region [⟨(some 15), .call (.f 7) [(.c (.int .i64 2))], none⟩,
    ⟨(some 1), .mov (.t 15), none⟩]) <|
 .seq
 (.region [⟨(some 16), .mov (.t 1), none⟩,
    ⟨(some 17), .call (.f 9) [(.t 16), (.c (.int .i64 7)), (.c (.int .i64 3))], none⟩,
    ⟨(some 18), .mov (.t 1), none⟩,
    ⟨(some 19), .call (.f 9) [(.t 18), (.c (.int .i64 8)), (.c (.int .i64 1))], none⟩,
    ⟨(some 2), .mov (.t 17), none⟩,
    ⟨(some 3), .mov (.t 19), none⟩]) <|
 .seq
 (.region [⟨(some 20), .mov (.t 1), none⟩,
    ⟨(some 21), .call (.f 9) [(.t 20), (.c (.int .i64 7)), (.c (.int .i64 1))], none⟩,
    ⟨(some 4), .mov (.t 21), none⟩]) <|
 .seq
 (.region [⟨(some 23), .mov (.t 1), none⟩,
    ⟨(some 24), .call (.f 10) [(.t 23)], none⟩,
    ⟨(some 22), .mov (.t 24), none⟩,
    ⟨(some 25), .extract (.t 22) 0, none⟩,
    ⟨(some 26), .extract (.t 22) 1, none⟩,
    ⟨(some 5), .alloc [(.int .i64 0), (.int .i64 0), (.int .i64 0), (.bool false)], none⟩,
    ⟨none, .store 4 (.t 5) (.t 25), none⟩,
    ⟨(some 6), .mov (.t 26), none⟩]) <|
 .seq
 (.region [⟨(some 28), .mov (.t 1), none⟩,
    ⟨(some 29), .call (.f 10) [(.t 28)], none⟩,
    ⟨(some 27), .mov (.t 29), none⟩,
    ⟨(some 30), .extract (.t 27) 0, none⟩,
    ⟨(some 31), .extract (.t 27) 1, none⟩,
    ⟨(some 7), .alloc [(.int .i64 0), (.int .i64 0), (.int .i64 0), (.bool false)], none⟩,
    ⟨none, .store 4 (.t 7) (.t 30), none⟩,
    ⟨(some 8), .mov (.t 31), none⟩]) <|
 .seq
 (.region [⟨(some 33), .mov (.t 1), none⟩,
    ⟨(some 34), .call (.f 8) [(.t 33), (.c (.int .i64 7))], none⟩,
    ⟨(some 32), .mov (.t 34), none⟩,
    ⟨(some 35), .extract (.t 32) 0, none⟩,
    ⟨(some 36), .extract (.t 32) 1, none⟩,
    ⟨(some 9), .mov (.t 35), none⟩,
    ⟨(some 10), .mov (.t 36), none⟩]) <|
 .seq
 (.region [⟨(some 37), .buildSl 1 [(.int .i64 0), (.int .i64 0)] [(0, 1, (.c (.int .i64 3))), (1, 1, (.c (.int .i64 1)))], none⟩,
    ⟨(some 38), .call (.f 14) [(.c (.int .i64 2)), (.t 37)], none⟩,
    ⟨(some 11), .mov (.t 38), none⟩]) <|
 .seq
 (.region [⟨(some 12), .mov (.c (.ptr none)), none⟩]) <|
 .seq
 (.region [⟨(some 40), .mov (.t 12), none⟩,
    ⟨(some 41), .call (.f 10) [(.t 40)], none⟩,
    ⟨(some 39), .mov (.t 41), none⟩,
    ⟨(some 42), .extract (.t 39) 0, none⟩,
    ⟨(some 43), .extract (.t 39) 1, none⟩,
    ⟨(some 13), .alloc [(.int .i64 0), (.int .i64 0), (.int .i64 0), (.bool false)], none⟩,
    ⟨none, .store 4 (.t 13) (.t 42), none⟩,
    ⟨(some 14), .mov (.t 43), none⟩]) <|
 .seq
 (.region [⟨(some 44), .mov (.t 2), none⟩,
    ⟨(some 45), .bin .eql (.t 44) (.c (.int .i64 0)), none⟩,
    ⟨(some 46), .mov (.t 45), none⟩,
    ⟨(some 47), .mov (.t 3), (some (46, true))⟩,
    ⟨(some 48), .bin .eql (.t 47) (.c (.int .i64 0)), (some (46, true))⟩,
    ⟨(some 49), .pick (.t 46) (.t 48) (.c (.bool false)), none⟩,
    ⟨(some 50), .mov (.t 49), none⟩,
    ⟨(some 51), .mov (.t 4), (some (50, true))⟩,
    ⟨(some 52), .bin .eql (.t 51) (.c (.int .i64 9)), (some (50, true))⟩,
    ⟨(some 53), .pick (.t 50) (.t 52) (.c (.bool false)), none⟩,
    ⟨(some 54), .mov (.t 53), none⟩,
    ⟨(some 55), .mov (.t 6), (some (54, true))⟩,
    ⟨(some 56), .pick (.t 54) (.t 55) (.c (.bool false)), none⟩,
    ⟨(some 57), .mov (.t 56), none⟩,
    ⟨(some 58), .load true 4 (.t 5), (some (57, true))⟩,
    ⟨(some 59), .build [(.int .i64 0), (.int .i64 0), (.int .i64 0), (.bool false)] [(0, 1, (.c (.int .i64 7))), (2, 1, (.c (.int .i64 2)))], (some (57, true))⟩,
    ⟨(some 60), .eq false true [.int, .int, .int, .bool] (.t 58) (.t 59), (some (57, true))⟩,
    ⟨(some 61), .pick (.t 57) (.t 60) (.c (.bool false)), none⟩,
    ⟨(some 62), .mov (.t 61), none⟩,
    ⟨(some 63), .load true 4 (.t 7), (some (62, true))⟩,
    ⟨(some 64), .build [(.int .i64 0), (.int .i64 0), (.int .i64 0), (.bool false)] [(0, 1, (.c (.int .i64 8))), (1, 1, (.c (.int .i64 2))), (2, 1, (.c (.int .i64 1))), (3, 1, (.c (.bool true)))], (some (62, true))⟩,
    ⟨(some 65), .eq false true [.int, .int, .int, .bool] (.t 63) (.t 64), (some (62, true))⟩,
    ⟨(some 66), .pick (.t 62) (.t 65) (.c (.bool false)), none⟩,
    ⟨(some 67), .mov (.t 66), none⟩,
    ⟨(some 68), .mov (.t 10), (some (67, true))⟩,
    ⟨(some 69), .pick (.t 67) (.t 68) (.c (.bool false)), none⟩,
    ⟨(some 70), .mov (.t 69), none⟩,
    ⟨(some 71), .mov (.t 9), (some (70, true))⟩,
    ⟨(some 72), .bin .eql (.t 71) (.c (.int .i64 1)), (some (70, true))⟩,
    ⟨(some 73), .pick (.t 70) (.t 72) (.c (.bool false)), none⟩,
    ⟨(some 74), .mov (.t 73), none⟩,
    ⟨(some 75), .mov (.t 1), (some (74, true))⟩,
    ⟨(some 76), .call (.f 12) [(.t 75)], (some (74, true))⟩,
    ⟨(some 77), .bin .eql (.t 76) (.c (.int .i64 3)), (some (74, true))⟩,
    ⟨(some 78), .pick (.t 74) (.t 77) (.c (.bool false)), none⟩,
    ⟨(some 79), .mov (.t 78), none⟩,
    ⟨(some 80), .mov (.t 1), (some (79, true))⟩,
    ⟨(some 81), .call (.f 13) [(.t 80)], (some (79, true))⟩,
    ⟨(some 82), .bin .eql (.t 81) (.c (.int .i64 0)), (some (79, true))⟩,
    ⟨(some 83), .pick (.t 79) (.t 82) (.c (.bool false)), none⟩,
    ⟨(some 84), .mov (.t 83), none⟩,
    ⟨(some 85), .mov (.t 11), (some (84, true))⟩,
    ⟨(some 86), .len .sl (.t 85), (some (84, true))⟩,
    ⟨(some 87), .bin .eql (.t 86) (.c (.int .i64 2)), (some (84, true))⟩,
    ⟨(some 88), .pick (.t 84) (.t 87) (.c (.bool false)), none⟩,
    ⟨(some 89), .mov (.t 88), none⟩,
    ⟨(some 90), .mov (.t 11), (some (89, true))⟩,
    ⟨(some 91), .iaddr 1 (.t 90) (.c (.int .i64 0)), (some (89, true))⟩,
    ⟨(some 92), .load false 1 (.t 91), (some (89, true))⟩,
    ⟨(some 93), .bin .eql (.t 92) (.c (.int .i64 4)), (some (89, true))⟩,
    ⟨(some 94), .pick (.t 89) (.t 93) (.c (.bool false)), none⟩,
    ⟨(some 95), .mov (.t 94), none⟩,
    ⟨(some 96), .mov (.t 11), (some (95, true))⟩,
    ⟨(some 97), .iaddr 1 (.t 96) (.c (.int .i64 1)), (some (95, true))⟩,
    ⟨(some 98), .load false 1 (.t 97), (some (95, true))⟩,
    ⟨(some 99), .bin .eql (.t 98) (.c (.int .i64 3)), (some (95, true))⟩,
    ⟨(some 100), .pick (.t 95) (.t 99) (.c (.bool false)), none⟩,
    ⟨(some 101), .mov (.t 100), none⟩,
    ⟨(some 102), .call (.f 7) [(.c (.int .i64 0))], (some (101, true))⟩,
    ⟨(some 103), .eq false false [.ptr] (.t 102) (.c (.ptr none)), (some (101, true))⟩,
    ⟨(some 104), .pick (.t 101) (.t 103) (.c (.bool false)), none⟩,
    ⟨(some 105), .mov (.t 104), none⟩,
    ⟨(some 106), .mov (.t 14), (some (105, true))⟩,
    ⟨(some 107), .un .not (.t 106), (some (105, true))⟩,
    ⟨(some 108), .pick (.t 105) (.t 107) (.c (.bool false)), none⟩,
    ⟨(some 109), .mov (.t 108), none⟩,
    ⟨(some 110), .mov (.t 12), (some (109, true))⟩,
    ⟨(some 111), .call (.f 9) [(.t 110), (.c (.int .i64 1)), (.c (.int .i64 1))], (some (109, true))⟩,
    ⟨(some 112), .bin .eql (.t 111) (.c (.int .i64 1)), (some (109, true))⟩,
    ⟨(some 113), .pick (.t 109) (.t 112) (.c (.bool false)), none⟩,
    ⟨(some 114), .mov (.t 113), none⟩,
    ⟨(some 115), .mov (.t 12), (some (114, true))⟩,
    ⟨(some 116), .call (.f 13) [(.t 115)], (some (114, true))⟩,
    ⟨(some 117), .mov (.t 12), (some (114, true))⟩,
    ⟨(some 118), .call (.f 12) [(.t 117)], (some (114, true))⟩,
    ⟨(some 119), .bin .add (.t 116) (.t 118), (some (114, true))⟩,
    ⟨(some 120), .mov (.t 12), (some (114, true))⟩,
    ⟨(some 121), .call (.f 11) [(.t 120)], (some (114, true))⟩,
    ⟨(some 122), .len .sl (.t 121), (some (114, true))⟩,
    ⟨(some 123), .bin .add (.t 119) (.t 122), (some (114, true))⟩,
    ⟨(some 124), .bin .eql (.t 123) (.c (.int .i64 0)), (some (114, true))⟩,
    ⟨(some 125), .pick (.t 114) (.t 124) (.c (.bool false)), none⟩,
    ⟨(some 0), .mov (.t 125), none⟩]) <|
 .ret, [.slot 0]⟩
theorem c6 : Code1 Try.prog 6 126 b6 := Code1.mk' Try.func6 (by kernel_rfl) (by kernel_rfl) Try.ntmps6

/-- fusee/quantum.New -/
def b7 : IFn := ⟨
 .seq
 (.region [⟨(some 2), .mov (.c (.ptr none)), none⟩]) <|
 .seq
 (.seq
  (.region [⟨(some 3), .mov (.t 0), none⟩,
     ⟨(some 4), .bin .lss (.t 3) (.c (.int .i64 1)), none⟩,
     ⟨(some 5), .mov (.t 4), none⟩,
     ⟨(some 6), .mov (.t 0), (some (5, false))⟩,
     ⟨(some 7), .bin .gtr (.t 6) (.c (.int .i64 1000)), (some (5, false))⟩,
     ⟨(some 8), .pick (.t 5) (.c (.bool true)) (.t 7), none⟩]) <|
  .cond (.t 8)
   (.seq
    (.region [⟨(some 2), .mov (.c (.ptr none)), none⟩]) <|
    .ret)
   (.skip)) <|
 .seq
 (.region [⟨(some 9), .mov (.t 0), none⟩,
    ⟨(some 10), .build [(.int .i64 0), (.int .i64 0), (.sl none 0 (some 0))] [(0, 1, (.t 9))], none⟩,
    ⟨(some 11), .box (.t 10), none⟩,
    ⟨(some 2), .mov (.t 11), none⟩]) <|
 .ret, [.slot 2]⟩
theorem c7 : Code1 Try.prog 7 12 b7 := Code1.mk' Try.func7 (by kernel_rfl) (by kernel_rfl) Try.ntmps7

/-- fusee/quantum.Round.Drop -/
def b8 : IFn := ⟨
 .seq
 (.region [⟨(some 4), .mov (.c (.int .i64 0)), none⟩,
    ⟨(some 5), .mov (.c (.bool false)), none⟩]) <|
 .seq
 (.region [⟨(some 8), .mov (.t 0), none⟩,
    ⟨(some 9), .mov (.t 1), none⟩,
    ⟨(some 10), .call (.f 15) [(.t 8), (.t 9)], none⟩,
    ⟨(some 6), .mov (.t 10), none⟩]) <|
 .seq
 (.seq
  (.region [⟨(some 11), .mov (.t 6), none⟩,
     ⟨(some 12), .bin .lss (.t 11) (.c (.int .i64 0)), none⟩]) <|
  .cond (.t 12)
   (.seq
    (.region [⟨(some 4), .mov (.c (.int .i64 0)), none⟩,
       ⟨(some 5), .mov (.c (.bool false)), none⟩]) <|
    .ret)
   (.skip)) <|
 .seq
 (.region [⟨(some 13), .mov (.t 0), none⟩,
    ⟨(some 14), .nilck (.t 13), none⟩,
    ⟨(some 15), .faddr 2 (.t 14), none⟩,
    ⟨(some 16), .load false 1 (.t 15), none⟩,
    ⟨(some 17), .mov (.t 6), none⟩,
    ⟨(some 18), .iaddr 2 (.t 16) (.t 17), none⟩,
    ⟨(some 19), .faddr 1 (.t 18), none⟩,
    ⟨(some 20), .load false 1 (.t 19), none⟩,
    ⟨(some 7), .mov (.t 20), none⟩]) <|
 .seq
 (.region [⟨(some 21), .mov (.t 0), none⟩,
    ⟨(some 22), .mov (.t 0), none⟩,
    ⟨(some 23), .nilck (.t 22), none⟩,
    ⟨(some 24), .faddr 2 (.t 23), none⟩,
    ⟨(some 25), .load false 1 (.t 24), none⟩,
    ⟨(some 26), .mov (.t 6), none⟩,
    ⟨(some 27), .mov (.t 6), none⟩,
    ⟨(some 28), .bin .add (.t 27) (.c (.int .i64 1)), none⟩,
    ⟨(some 29), .call (.f 16) [(.t 25), (.t 26), (.t 28)], none⟩,
    ⟨(some 30), .nilck (.t 21), none⟩,
    ⟨(some 31), .faddr 2 (.t 30), none⟩,
    ⟨none, .store 1 (.t 31) (.t 29), none⟩]) <|
 .seq
 (.region [⟨(some 32), .mov (.t 7), none⟩,
    ⟨(some 4), .mov (.t 32), none⟩,
    ⟨(some 5), .mov (.c (.bool true)), none⟩]) <|
 .ret, [.slot 4, .slot 5]⟩
theorem c8 : Code1 Try.prog 8 33 b8 := Code1.mk' Try.func8 (by kernel_rfl) (by kernel_rfl) Try.ntmps8

/-- fusee/quantum.Round.Add -/
def b9 : IFn := ⟨
 .seq
 (.region [⟨(some 6), .mov (.c (.int .i64 0)), none⟩]) <|
 .seq
 (.block 0 <|
  .seq
  (.region [⟨(some 8), .mov (.t 0), none⟩,
     ⟨(some 9), .eq false false [.ptr] (.t 8) (.c (.ptr none)), none⟩,
     ⟨(some 7), .mov (.t 9), none⟩]) <|
  .cond (.t 7)
   (.seq
    (.region [⟨(some 6), .mov (.c (.int .i64 1)), none⟩]) <|
    .ret)
   (.seq
    (.region [⟨(some 11), .mov (.t 2), none⟩,
       ⟨(some 12), .bin .lss (.t 11) (.c (.int .i64 1)), none⟩,
       ⟨(some 13), .mov (.t 12), none⟩,
       ⟨(some 14), .mov (.t 2), (some (13, false))⟩,
       ⟨(some 15), .bin .gtr (.t 14) (.c (.int .i64 10000)), (some (13, false))⟩,
       ⟨(some 16), .pick (.t 13) (.c (.bool true)) (.t 15), none⟩,
       ⟨(some 10), .mov (.t 16), none⟩]) <|
    .cond (.t 10)
     (.seq
      (.region [⟨(some 6), .mov (.c (.int .i64 2)), none⟩]) <|
      .ret)
     (.seq
      (.region [⟨(some 18), .mov (.t 0), none⟩,
         ⟨(some 19), .mov (.t 1), none⟩,
         ⟨(some 20), .call (.f 15) [(.t 18), (.t 19)], none⟩,
         ⟨(some 21), .bin .geq (.t 20) (.c (.int .i64 0)), none⟩,
         ⟨(some 17), .mov (.t 21), none⟩]) <|
      .cond (.t 17)
       (.seq
        (.region [⟨(some 6), .mov (.c (.int .i64 9)), none⟩]) <|
        .ret)
       (.seq
        (.region [⟨(some 23), .mov (.t 0), none⟩,
           ⟨(some 24), .nilck (.t 23), none⟩,
           ⟨(some 25), .faddr 2 (.t 24), none⟩,
           ⟨(some 26), .load false 1 (.t 25), none⟩,
           ⟨(some 27), .len .sl (.t 26), none⟩,
           ⟨(some 28), .bin .geq (.t 27) (.c (.int .i64 64)), none⟩,
           ⟨(some 22), .mov (.t 28), none⟩]) <|
        .cond (.t 22)
         (.seq
          (.region [⟨(some 6), .mov (.c (.int .i64 3)), none⟩]) <|
          .ret)
         (.skip))))) <|
 .seq
 (.region [⟨(some 29), .mov (.t 0), none⟩,
    ⟨(some 30), .mov (.t 0), none⟩,
    ⟨(some 31), .nilck (.t 30), none⟩,
    ⟨(some 32), .faddr 2 (.t 31), none⟩,
    ⟨(some 33), .load false 1 (.t 32), none⟩,
    ⟨(some 34), .mov (.t 1), none⟩,
    ⟨(some 35), .mov (.t 2), none⟩,
    ⟨(some 36), .build [(.int .i64 0), (.int .i64 0)] [(0, 1, (.t 34)), (1, 1, (.t 35))], none⟩,
    ⟨(some 37), .buildSl 2 [(.int .i64 0), (.int .i64 0)] [(0, 2, (.t 36))], none⟩,
    ⟨(some 38), .app 2 16 (.t 33) (.t 37), none⟩,
    ⟨(some 39), .nilck (.t 29), none⟩,
    ⟨(some 40), .faddr 2 (.t 39), none⟩,
    ⟨none, .store 1 (.t 40) (.t 38), none⟩]) <|
 .seq
 (.region [⟨(some 6), .mov (.c (.int .i64 0)), none⟩]) <|
 .ret, [.slot 6]⟩
theorem c9 : Code1 Try.prog 9 41 b9 := Code1.mk' Try.func9 (by kernel_rfl) (by kernel_rfl) Try.ntmps9

/-- fusee/quantum.Round.Next -/
def b10 : IFn := ⟨
 .seq
 (.region [⟨(some 2), .alloc [(.int .i64 0), (.int .i64 0), (.int .i64 0), (.bool false)], none⟩,
    ⟨(some 3), .mov (.c (.bool false)), none⟩]) <|
 .seq
 (.seq
  (.region [⟨(some 6), .mov (.t 0), none⟩,
     ⟨(some 7), .eq false false [.ptr] (.t 6) (.c (.ptr none)), none⟩,
     ⟨(some 8), .mov (.t 7), none⟩,
     ⟨(some 9), .mov (.t 0), (some (8, false))⟩,
     ⟨(some 10), .nilck (.t 9), (some (8, false))⟩,
     ⟨(some 11), .faddr 2 (.t 10), (some (8, false))⟩,
     ⟨(some 12), .load false 1 (.t 11), (some (8, false))⟩,
     ⟨(some 13), .len .sl (.t 12), (some (8, false))⟩,
     ⟨(some 14), .bin .eql (.t 13) (.c (.int .i64 0)), (some (8, false))⟩,
     ⟨(some 15), .pick (.t 8) (.c (.bool true)) (.t 14), none⟩]) <|
  .cond (.t 15)
   (.seq
    (.region [⟨(some 16), .build [(.int .i64 0), (.int .i64 0), (.int .i64 0), (.bool false)] [], none⟩,
       ⟨none, .store 4 (.t 2) (.t 16), none⟩,
       ⟨(some 3), .mov (.c (.bool false)), none⟩]) <|
    .ret)
   (.skip)) <|
 .seq
 (.region [⟨(some 17), .mov (.t 0), none⟩,
    ⟨(some 18), .nilck (.t 17), none⟩,
    ⟨(some 19), .faddr 2 (.t 18), none⟩,
    ⟨(some 20), .load false 1 (.t 19), none⟩,
    ⟨(some 21), .iaddr 2 (.t 20) (.c (.int .i64 0)), none⟩,
    ⟨(some 22), .load true 2 (.t 21), none⟩,
    ⟨(some 4), .alloc [(.int .i64 0), (.int .i64 0)], none⟩,
    ⟨none, .store 2 (.t 4) (.t 22), none⟩]) <|
 .seq
 (.draw false [0, 2, 4] (
    .op ⟨(some 23), .mov (.t 0), none⟩ <|
    .op ⟨(some 24), .mov (.t 0), none⟩ <|
    .op ⟨(some 25), .nilck (.t 24), none⟩ <|
    .op ⟨(some 26), .faddr 2 (.t 25), none⟩ <|
    .op ⟨(some 27), .load false 1 (.t 26), none⟩ <|
    .op ⟨(some 28), .mov (.t 0), none⟩ <|
    .op ⟨(some 29), .nilck (.t 28), none⟩ <|
    .op ⟨(some 30), .faddr 2 (.t 29), none⟩ <|
    .op ⟨(some 31), .load false 1 (.t 30), none⟩ <|
    .op ⟨(some 32), .len .sl (.t 31), none⟩ <|
    .op ⟨(some 33), .mov (.t 0), none⟩ <|
    .op ⟨(some 34), .nilck (.t 33), none⟩ <|
    .op ⟨(some 35), .faddr 2 (.t 34), none⟩ <|
    .op ⟨(some 36), .load false 1 (.t 35), none⟩ <|
    .op ⟨(some 37), .len .sl (.t 36), none⟩ <|
    .op ⟨(some 38), .slice 2 (.t 27) (some (.c (.int .i64 1))) (some (.t 32)) (some (.t 37)), none⟩ <|
    .op ⟨(some 39), .nilck (.t 23), none⟩ <|
    .op ⟨(some 40), .faddr 2 (.t 39), none⟩ <|
    .op ⟨none, .store 1 (.t 40) (.t 38), none⟩ <|
    .done)) <|
 .seq
 (.draw false [0, 2, 4, 5] (
    .op ⟨(some 41), .faddr 0 (.t 4), none⟩ <|
    .op ⟨(some 42), .load false 1 (.t 41), none⟩ <|
    .op ⟨(some 43), .mov (.t 0), none⟩ <|
    .op ⟨(some 44), .nilck (.t 43), none⟩ <|
    .op ⟨(some 45), .faddr 1 (.t 44), none⟩ <|
    .op ⟨(some 46), .load false 1 (.t 45), none⟩ <|
    .op ⟨(some 47), .faddr 1 (.t 4), none⟩ <|
    .op ⟨(some 48), .load false 1 (.t 47), none⟩ <|
    .op ⟨(some 49), .mov (.t 0), none⟩ <|
    .op ⟨(some 50), .nilck (.t 49), none⟩ <|
    .op ⟨(some 51), .faddr 0 (.t 50), none⟩ <|
    .op ⟨(some 52), .load false 1 (.t 51), none⟩ <|
    .op ⟨(some 53), .min [(.t 48), (.t 52)], none⟩ <|
    .op ⟨(some 54), .build [(.int .i64 0), (.int .i64 0), (.int .i64 0), (.bool false)] [(0, 1, (.t 42)), (1, 1, (.t 46)), (2, 1, (.t 53))], none⟩ <|
    .op ⟨(some 5), .alloc [(.int .i64 0), (.int .i64 0), (.int .i64 0), (.bool false)], none⟩ <|
    .op ⟨none, .store 4 (.t 5) (.t 54), none⟩ <|
    .done)) <|
 .seq
 (.draw false [0, 2, 4, 5] (
    .op ⟨(some 55), .mov (.t 0), none⟩ <|
    .op ⟨(some 56), .nilck (.t 55), none⟩ <|
    .op ⟨(some 57), .faddr 1 (.t 56), none⟩ <|
    .op ⟨(some 58), .load false 1 (.t 57), none⟩ <|
    .op ⟨(some 59), .faddr 2 (.t 5), none⟩ <|
    .op ⟨(some 60), .load false 1 (.t 59), none⟩ <|
    .op ⟨(some 61), .bin .add (.t 58) (.t 60), none⟩ <|
    .op ⟨(some 62), .nilck (.t 55), none⟩ <|
    .op ⟨(some 63), .faddr 1 (.t 62), none⟩ <|
    .op ⟨none, .store 1 (.t 63) (.t 61), none⟩ <|
    .done)) <|
 .seq
 (.region [⟨(some 64), .faddr 1 (.t 4), none⟩,
    ⟨(some 65), .load false 1 (.t 64), none⟩,
    ⟨(some 66), .faddr 2 (.t 5), none⟩,
    ⟨(some 67), .load false 1 (.t 66), none⟩,
    ⟨(some 68), .bin .sub (.t 65) (.t 67), none⟩,
    ⟨(some 69), .faddr 1 (.t 4), none⟩,
    ⟨none, .store 1 (.t 69) (.t 68), none⟩]) <|
 .seq
 (.seq
  (.region [⟨(some 70), .faddr 1 (.t 4), none⟩,
     ⟨(some 71), .load false 1 (.t 70), none⟩,
     ⟨(some 72), .bin .eql (.t 71) (.c (.int .i64 0)), none⟩,
     ⟨(some 73), .faddr 3 (.t 5), none⟩,
     ⟨none, .store 1 (.t 73) (.t 72), none⟩]) <|
  .seq
  (.region [⟨(some 74), .faddr 3 (.t 5), none⟩,
     ⟨(some 75), .load false 1 (.t 74), none⟩,
     ⟨(some 76), .un .not (.t 75), none⟩]) <|
  .cond (.t 76)
   (.draw false [2, 5] (
      .op ⟨(some 77), .mov (.t 0), none⟩ <|
      .op ⟨(some 78), .mov (.t 0), none⟩ <|
      .op ⟨(some 79), .nilck (.t 78), none⟩ <|
      .op ⟨(some 80), .faddr 2 (.t 79), none⟩ <|
      .op ⟨(some 81), .load false 1 (.t 80), none⟩ <|
      .op ⟨(some 82), .load true 2 (.t 4), none⟩ <|
      .op ⟨(some 83), .buildSl 2 [(.int .i64 0), (.int .i64 0)] [(0, 2, (.t 82))], none⟩ <|
      .op ⟨(some 84), .app 2 16 (.t 81) (.t 83), none⟩ <|
      .op ⟨(some 85), .nilck (.t 77), none⟩ <|
      .op ⟨(some 86), .faddr 2 (.t 85), none⟩ <|
      .op ⟨none, .store 1 (.t 86) (.t 84), none⟩ <|
      .done))
   (.skip)) <|
 .seq
 (.region [⟨(some 87), .load true 4 (.t 5), none⟩,
    ⟨none, .store 4 (.t 2) (.t 87), none⟩,
    ⟨(some 3), .mov (.c (.bool true)), none⟩]) <|
 .ret, [.cell 2 true 4, .slot 3]⟩
theorem c10 : Code1 Try.prog 10 88 b10 := Code1.mk' Try.func10 (by kernel_rfl) (by kernel_rfl) Try.ntmps10

/-- fusee/quantum.Round.Row -/
def b11 : IFn := ⟨
 .seq
 (.region [⟨(some 2), .mov (.c (.sl none 0 (some 0))), none⟩]) <|
 .seq
 (.region [⟨(some 3), .mov (.c (.sl none 0 (some 0))), none⟩]) <|
 .seq
 (.seq
  (.region [⟨(some 6), .mov (.t 0), none⟩,
     ⟨(some 7), .eq false false [.ptr] (.t 6) (.c (.ptr none)), none⟩]) <|
  .cond (.t 7)
   (.seq
    (.region [⟨(some 2), .mov (.c (.sl none 0 (some 0))), none⟩]) <|
    .ret)
   (.skip)) <|
 .seq
 (.seq
  (.region [⟨(some 8), .mov (.t 0), none⟩,
     ⟨(some 9), .nilck (.t 8), none⟩,
     ⟨(some 10), .faddr 2 (.t 9), none⟩,
     ⟨(some 11), .load false 1 (.t 10), none⟩,
     ⟨(some 12), .len .sl (.t 11), none⟩,
     ⟨(some 13), .mov (.c (.int .i64 0)), none⟩]) <|
  .block 0 <|
  .loop [3, 11, 12, 13] <|
   .seq
   (.region [⟨(some 14), .bin .lss (.t 13) (.t 12), none⟩]) <|
   .seq
   (.cond (.t 14)
     (.skip)
     (.exit 0)) <|
   .seq
   (.block 1 <|
    .seq
    (.region [⟨(some 15), .iaddr 2 (.t 11) (.t 13), none⟩,
       ⟨(some 16), .load true 2 (.t 15), none⟩,
       ⟨(some 5), .alloc [(.int .i64 0), (.int .i64 0)], none⟩,
       ⟨none, .store 2 (.t 5) (.t 16), none⟩]) <|
    .region [⟨(some 17), .mov (.t 3), none⟩,
      ⟨(some 18), .faddr 0 (.t 5), none⟩,
      ⟨(some 19), .load false 1 (.t 18), none⟩,
      ⟨(some 20), .buildSl 1 [(.int .i64 0)] [(0, 1, (.t 19))], none⟩,
      ⟨(some 21), .app 1 8 (.t 17) (.t 20), none⟩,
      ⟨(some 3), .mov (.t 21), none⟩]) <|
   .region [⟨(some 22), .bin .add (.t 13) (.c (.int .i64 1)), none⟩,
     ⟨(some 13), .mov (.t 22), none⟩]) <|
 .seq
 (.region [⟨(some 23), .mov (.t 3), none⟩,
    ⟨(some 2), .mov (.t 23), none⟩]) <|
 .ret, [.slot 2]⟩
theorem c11 : Code1 Try.prog 11 24 b11 := Code1.mk' Try.func11 (by kernel_rfl) (by kernel_rfl) Try.ntmps11

/-- fusee/quantum.Round.Now -/
def b12 : IFn := ⟨
 .seq
 (.region [⟨(some 2), .mov (.c (.int .i64 0)), none⟩]) <|
 .seq
 (.seq
  (.region [⟨(some 3), .mov (.t 0), none⟩,
     ⟨(some 4), .eq false false [.ptr] (.t 3) (.c (.ptr none)), none⟩]) <|
  .cond (.t 4)
   (.seq
    (.region [⟨(some 2), .mov (.c (.int .i64 0)), none⟩]) <|
    .ret)
   (.skip)) <|
 .seq
 (.region [⟨(some 5), .mov (.t 0), none⟩,
    ⟨(some 6), .nilck (.t 5), none⟩,
    ⟨(some 7), .faddr 1 (.t 6), none⟩,
    ⟨(some 8), .load false 1 (.t 7), none⟩,
    ⟨(some 2), .mov (.t 8), none⟩]) <|
 .ret, [.slot 2]⟩
theorem c12 : Code1 Try.prog 12 9 b12 := Code1.mk' Try.func12 (by kernel_rfl) (by kernel_rfl) Try.ntmps12

/-- fusee/quantum.Round.Left -/
def b13 : IFn := ⟨
 .seq
 (.region [⟨(some 2), .mov (.c (.int .i64 0)), none⟩]) <|
 .seq
 (.region [⟨(some 3), .mov (.c (.int .i64 0)), none⟩]) <|
 .seq
 (.seq
  (.region [⟨(some 6), .mov (.t 0), none⟩,
     ⟨(some 7), .eq false false [.ptr] (.t 6) (.c (.ptr none)), none⟩]) <|
  .cond (.t 7)
   (.seq
    (.region [⟨(some 2), .mov (.c (.int .i64 0)), none⟩]) <|
    .ret)
   (.skip)) <|
 .seq
 (.seq
  (.region [⟨(some 8), .mov (.t 0), none⟩,
     ⟨(some 9), .nilck (.t 8), none⟩,
     ⟨(some 10), .faddr 2 (.t 9), none⟩,
     ⟨(some 11), .load false 1 (.t 10), none⟩,
     ⟨(some 12), .len .sl (.t 11), none⟩,
     ⟨(some 13), .mov (.c (.int .i64 0)), none⟩]) <|
  .block 0 <|
  .loop [3, 11, 12, 13] <|
   .seq
   (.region [⟨(some 14), .bin .lss (.t 13) (.t 12), none⟩]) <|
   .seq
   (.cond (.t 14)
     (.skip)
     (.exit 0)) <|
   .seq
   (.block 1 <|
    .seq
    (.region [⟨(some 15), .iaddr 2 (.t 11) (.t 13), none⟩,
       ⟨(some 16), .load true 2 (.t 15), none⟩,
       ⟨(some 5), .alloc [(.int .i64 0), (.int .i64 0)], none⟩,
       ⟨none, .store 2 (.t 5) (.t 16), none⟩]) <|
    .region [⟨(some 17), .mov (.t 3), none⟩,
      ⟨(some 18), .faddr 1 (.t 5), none⟩,
      ⟨(some 19), .load false 1 (.t 18), none⟩,
      ⟨(some 20), .bin .add (.t 17) (.t 19), none⟩,
      ⟨(some 3), .mov (.t 20), none⟩]) <|
   .region [⟨(some 21), .bin .add (.t 13) (.c (.int .i64 1)), none⟩,
     ⟨(some 13), .mov (.t 21), none⟩]) <|
 .seq
 (.region [⟨(some 22), .mov (.t 3), none⟩,
    ⟨(some 2), .mov (.t 22), none⟩]) <|
 .ret, [.slot 2]⟩
theorem c13 : Code1 Try.prog 13 23 b13 := Code1.mk' Try.func13 (by kernel_rfl) (by kernel_rfl) Try.ntmps13

/-- fusee/quantum.Ends -/
def b14 : IFn := ⟨
 .seq
 (.region [⟨(some 4), .mov (.c (.sl none 0 (some 0))), none⟩]) <|
 .seq
 (.region [⟨(some 11), .mov (.t 0), none⟩,
    ⟨(some 12), .call (.f 7) [(.t 11)], none⟩,
    ⟨(some 5), .mov (.t 12), none⟩]) <|
 .seq
 (.region [⟨(some 13), .mov (.t 1), none⟩,
    ⟨(some 14), .len .sl (.t 13), none⟩,
    ⟨(some 15), .mkSl [(.int .i64 0)] 8 (.t 14) (.t 14), none⟩,
    ⟨(some 6), .mov (.t 15), none⟩]) <|
 .seq
 (.seq
  (.region [⟨(some 16), .mov (.t 1), none⟩,
     ⟨(some 17), .len .sl (.t 16), none⟩,
     ⟨(some 18), .mov (.c (.int .i64 0)), none⟩]) <|
  .block 0 <|
  .loop [5, 6, 16, 17, 18] <|
   .seq
   (.region [⟨(some 19), .bin .lss (.t 18) (.t 17), none⟩]) <|
   .seq
   (.cond (.t 19)
     (.skip)
     (.exit 0)) <|
   .seq
   (.block 1 <|
    .seq
    (.region [⟨(some 20), .mov (.t 18), none⟩,
       ⟨(some 21), .iaddr 1 (.t 16) (.t 18), none⟩,
       ⟨(some 22), .load false 1 (.t 21), none⟩,
       ⟨(some 7), .mov (.t 20), none⟩,
       ⟨(some 8), .mov (.t 22), none⟩]) <|
    .seq
    (.region [⟨(some 23), .mov (.t 5), none⟩,
       ⟨(some 24), .mov (.t 7), none⟩,
       ⟨(some 25), .mov (.t 8), none⟩,
       ⟨(some 26), .call (.f 9) [(.t 23), (.t 24), (.t 25)], none⟩,
       ⟨(some 27), .bin .neq (.t 26) (.c (.int .i64 0)), none⟩]) <|
    .cond (.t 27)
     (.seq
      (.region [⟨(some 4), .mov (.c (.sl none 0 (some 0))), none⟩]) <|
      .ret)
     (.skip)) <|
   .region [⟨(some 28), .bin .add (.t 18) (.c (.int .i64 1)), none⟩,
     ⟨(some 18), .mov (.t 28), none⟩]) <|
 .seq
 (.seq
  (.region [⟨(some 30), .mov (.t 5), none⟩,
     ⟨(some 31), .call (.f 10) [(.t 30)], none⟩,
     ⟨(some 29), .mov (.t 31), none⟩,
     ⟨(some 32), .extract (.t 29) 0, none⟩,
     ⟨(some 33), .extract (.t 29) 1, none⟩,
     ⟨(some 9), .alloc [(.int .i64 0), (.int .i64 0), (.int .i64 0), (.bool false)], none⟩,
     ⟨none, .store 4 (.t 9) (.t 32), none⟩,
     ⟨(some 10), .mov (.t 33), none⟩]) <|
  .block 2 <|
  .loop [5, 6, 9, 10] <|
   .seq
   (.seq
    (.region [⟨(some 34), .mov (.t 10), none⟩]) <|
    .cond (.t 34)
     (.skip)
     (.exit 2)) <|
   .seq
   (.block 3 <|
    .seq
    (.region [⟨(some 40), .faddr 3 (.t 9), none⟩,
       ⟨(some 41), .load false 1 (.t 40), none⟩]) <|
    .cond (.t 41)
     (.region [⟨(some 42), .mov (.t 6), none⟩,
        ⟨(some 43), .faddr 0 (.t 9), none⟩,
        ⟨(some 44), .load false 1 (.t 43), none⟩,
        ⟨(some 45), .faddr 1 (.t 9), none⟩,
        ⟨(some 46), .load false 1 (.t 45), none⟩,
        ⟨(some 47), .faddr 2 (.t 9), none⟩,
        ⟨(some 48), .load false 1 (.t 47), none⟩,
        ⟨(some 49), .bin .add (.t 46) (.t 48), none⟩,
        ⟨(some 50), .iaddr 1 (.t 42) (.t 44), none⟩,
        ⟨none, .store 1 (.t 50) (.t 49), none⟩])
     (.skip)) <|
   .seq
   (.seq
    (.region [⟨(some 51), .load true 4 (.t 9), none⟩]) <|
    .region [⟨(some 9), .alloc [(.int .i64 0), (.int .i64 0), (.int .i64 0), (.bool false)], none⟩,
      ⟨none, .store 4 (.t 9) (.t 51), none⟩]) <|
   .region [⟨(some 36), .mov (.t 5), none⟩,
     ⟨(some 37), .call (.f 10) [(.t 36)], none⟩,
     ⟨(some 35), .mov (.t 37), none⟩,
     ⟨(some 38), .extract (.t 35) 0, none⟩,
     ⟨(some 39), .extract (.t 35) 1, none⟩,
     ⟨none, .store 4 (.t 9) (.t 38), none⟩,
     ⟨(some 10), .mov (.t 39), none⟩]) <|
 .seq
 (.region [⟨(some 52), .mov (.t 6), none⟩,
    ⟨(some 4), .mov (.t 52), none⟩]) <|
 .ret, [.slot 4]⟩
theorem c14 : Code1 Try.prog 14 53 b14 := Code1.mk' Try.func14 (by kernel_rfl) (by kernel_rfl) Try.ntmps14

/-- fusee/quantum.Round.place -/
def b15 : IFn := ⟨
 .seq
 (.region [⟨(some 3), .box (.t 1), none⟩,
    ⟨(some 4), .mov (.c (.int .i64 0)), none⟩]) <|
 .seq
 (.seq
  (.region [⟨(some 5), .mov (.t 0), none⟩,
     ⟨(some 6), .eq false false [.ptr] (.t 5) (.c (.ptr none)), none⟩]) <|
  .cond (.t 6)
   (.seq
    (.region [⟨(some 4), .mov (.c (.int .i64 (-1))), none⟩]) <|
    .ret)
   (.skip)) <|
 .seq
 (.region [⟨(some 7), .mov (.t 0), none⟩,
    ⟨(some 8), .nilck (.t 7), none⟩,
    ⟨(some 9), .faddr 2 (.t 8), none⟩,
    ⟨(some 10), .load false 1 (.t 9), none⟩,
    ⟨(some 11), .mkFn 18 [] [(.t 3)], none⟩,
    ⟨(some 12), .call (.f 17) [(.t 10), (.t 11)], none⟩,
    ⟨(some 4), .mov (.t 12), none⟩]) <|
 .ret, [.slot 4]⟩
theorem c15 : Code1 Try.prog 15 13 b15 := Code1.mk' Try.func15 (by kernel_rfl) (by kernel_rfl) Try.ntmps15

/-- slices.Delete[[]fusee/quantum.job,fusee/quantum.job] -/
def b16 : IFn := ⟨
 .seq
 (.region [⟨(some 6), .mov (.c (.sl none 0 (some 0))), none⟩]) <|
 .seq
 (.region [⟨(some 8), .mov (.t 0), none⟩,
    ⟨(some 9), .mov (.t 1), none⟩,
    ⟨(some 10), .mov (.t 2), none⟩,
    ⟨(some 11), .mov (.t 0), none⟩,
    ⟨(some 12), .len .sl (.t 11), none⟩,
    ⟨(some 13), .slice 2 (.t 8) (some (.t 9)) (some (.t 10)) (some (.t 12)), none⟩]) <|
 .seq
 (.seq
  (.region [⟨(some 14), .mov (.t 1), none⟩,
     ⟨(some 15), .mov (.t 2), none⟩,
     ⟨(some 16), .bin .eql (.t 14) (.t 15), none⟩]) <|
  .cond (.t 16)
   (.seq
    (.region [⟨(some 17), .mov (.t 0), none⟩,
       ⟨(some 6), .mov (.t 17), none⟩]) <|
    .ret)
   (.skip)) <|
 .seq
 (.region [⟨(some 18), .mov (.t 0), none⟩,
    ⟨(some 19), .len .sl (.t 18), none⟩,
    ⟨(some 7), .mov (.t 19), none⟩]) <|
 .seq
 (.draw false [0, 7] (
    .op ⟨(some 20), .mov (.t 0), none⟩ <|
    .op ⟨(some 21), .mov (.t 1), none⟩ <|
    .op ⟨(some 22), .slice 2 (.t 20) none (some (.t 21)) none, none⟩ <|
    .op ⟨(some 23), .mov (.t 0), none⟩ <|
    .op ⟨(some 24), .mov (.t 2), none⟩ <|
    .op ⟨(some 25), .slice 2 (.t 23) (some (.t 24)) none none, none⟩ <|
    .op ⟨(some 26), .app 2 16 (.t 22) (.t 25), none⟩ <|
    .op ⟨(some 0), .mov (.t 26), none⟩ <|
    .done)) <|
 .seq
 (.region [⟨(some 27), .mov (.t 0), none⟩,
    ⟨(some 28), .mov (.t 0), none⟩,
    ⟨(some 29), .len .sl (.t 28), none⟩,
    ⟨(some 30), .mov (.t 7), none⟩,
    ⟨(some 31), .sliceM 2 (.t 27) (.t 29) (.t 30), none⟩,
    ⟨none, .clear [(.int .i64 0), (.int .i64 0)] (.t 31), none⟩]) <|
 .seq
 (.region [⟨(some 32), .mov (.t 0), none⟩,
    ⟨(some 6), .mov (.t 32), none⟩]) <|
 .ret, [.slot 6]⟩
theorem c16 : Code1 Try.prog 16 33 b16 := Code1.mk' Try.func16 (by kernel_rfl) (by kernel_rfl) Try.ntmps16

/-- slices.IndexFunc[[]fusee/quantum.job,fusee/quantum.job] -/
def b17 : IFn := ⟨
 .seq
 (.region [⟨(some 4), .mov (.c (.int .i64 0)), none⟩]) <|
 .seq
 (.seq
  (.region [⟨(some 6), .mov (.t 0), none⟩,
     ⟨(some 7), .len .sl (.t 6), none⟩,
     ⟨(some 8), .mov (.c (.int .i64 0)), none⟩]) <|
  .block 0 <|
  .loop [0, 1, 7, 8] <|
   .seq
   (.region [⟨(some 9), .bin .lss (.t 8) (.t 7), none⟩]) <|
   .seq
   (.cond (.t 9)
     (.skip)
     (.exit 0)) <|
   .seq
   (.block 1 <|
    .seq
    (.region [⟨(some 10), .mov (.t 8), none⟩,
       ⟨(some 5), .mov (.t 10), none⟩]) <|
    .seq
    (.region [⟨(some 11), .mov (.t 1), none⟩,
       ⟨(some 12), .mov (.t 0), none⟩,
       ⟨(some 13), .mov (.t 5), none⟩,
       ⟨(some 14), .iaddr 2 (.t 12) (.t 13), none⟩,
       ⟨(some 15), .load true 2 (.t 14), none⟩,
       ⟨(some 16), .call (.t 11) [(.t 15)], none⟩]) <|
    .cond (.t 16)
     (.seq
      (.region [⟨(some 17), .mov (.t 5), none⟩,
         ⟨(some 4), .mov (.t 17), none⟩]) <|
      .ret)
     (.skip)) <|
   .region [⟨(some 18), .bin .add (.t 8) (.c (.int .i64 1)), none⟩,
     ⟨(some 8), .mov (.t 18), none⟩]) <|
 .seq
 (.region [⟨(some 4), .mov (.c (.int .i64 (-1))), none⟩]) <|
 .ret, [.slot 4]⟩
theorem c17 : Code1 Try.prog 17 19 b17 := Code1.mk' Try.func17 (by kernel_rfl) (by kernel_rfl) Try.ntmps17

/-- fusee/quantum.Round.place$1 -/
def b18 : IFn := ⟨
 .seq
 (.region [⟨(some 2), .box (.t 0), none⟩,
    ⟨(some 3), .mov (.c (.bool false)), none⟩]) <|
 .seq
 (.region [⟨(some 4), .faddr 0 (.t 2), none⟩,
    ⟨(some 5), .load false 1 (.t 4), none⟩,
    ⟨(some 6), .load false 1 (.t 1), none⟩,
    ⟨(some 7), .bin .eql (.t 5) (.t 6), none⟩,
    ⟨(some 3), .mov (.t 7), none⟩]) <|
 .ret, [.slot 3]⟩
theorem c18 : Code1 Try.prog 18 8 b18 := Code1.mk' Try.func18 (by kernel_rfl) (by kernel_rfl) Try.ntmps18

/-- The functions that the facts at the head of each statement call. -/
abbrev code : CodeL := [(6, 126, b6), (7, 12, b7), (8, 33, b8), (9, 41, b9), (10, 88, b10), (11, 24, b11), (12, 9, b12), (13, 23, b13), (14, 53, b14), (15, 13, b15), (16, 33, b16), (17, 19, b17), (18, 8, b18)]
theorem codeOk : CodeOk Try.prog code := ⟨c6, c7, c8, c9, c10, c11, c12, c13, c14, c15, c16, c17, c18, trivial⟩

end Go.Proofs.Ytgmidpacmlkfgaa
