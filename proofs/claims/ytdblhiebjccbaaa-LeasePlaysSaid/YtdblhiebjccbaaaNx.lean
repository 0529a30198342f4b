/-
  LEASEPLAYS: the things that are kept beside; what is asked behind each act.
-/
import Derived.Test.YtdblhiebjccbaaaIx
namespace Go.Proofs.Ytdblhiebjccbaaa
open Go Go.AM
set_option linter.unusedVariables false
set_option linter.unusedSimpArgs false
set_option maxRecDepth 20000
set_option maxHeartbeats 8000000

/-- What is asked behind each act. -/
def tail41 : St :=
    .seq
    (.region [⟨(some 21), .mov (.c (.int .i64 0)), none⟩,
       ⟨(some 22), .mov (.c (.int .i64 4611686018427387903)), none⟩]) <|
    .seq
    (.seq
     (.region [⟨(some 373), .mov (.t 8), none⟩,
        ⟨(some 374), .range (.t 373), none⟩]) <|
     .block 4 <|
     .loop [0, 5, 8, 9, 11, 21, 22, 59, 60, 61, 374] <|
      .seq
      (.region [⟨(some 375), .next (.t 374), none⟩,
         ⟨(some 376), .extract (.t 375) 0, none⟩]) <|
      .seq
      (.cond (.t 376)
        (.skip)
        (.exit 4)) <|
      .block 5 <|
      .seq
      (.region [⟨(some 377), .entry (.t 374), none⟩,
         ⟨(some 378), .extract (.t 377) 0, none⟩,
         ⟨(some 379), .extract (.t 377) 1, none⟩,
         ⟨(some 23), .mov (.t 378), none⟩,
         ⟨(some 24), .mov (.t 379), none⟩]) <|
      .seq
      (.region [⟨(some 381), .mov (.t 5), none⟩,
         ⟨(some 382), .faddr 1 (.t 11), none⟩,
         ⟨(some 383), .load false 1 (.t 382), none⟩,
         ⟨(some 384), .mov (.t 23), none⟩,
         ⟨(some 385), .call (.f 7) [(.t 381), (.t 383), (.t 384)], none⟩,
         ⟨(some 380), .mov (.t 385), none⟩,
         ⟨(some 386), .extract (.t 380) 0, none⟩,
         ⟨(some 387), .extract (.t 380) 1, none⟩,
         ⟨(some 25), .alloc [(.int .i64 0), (.int .i64 0), (.int .i64 0)], none⟩,
         ⟨none, .store 3 (.t 25) (.t 386), none⟩,
         ⟨(some 26), .mov (.t 387), none⟩]) <|
      .seq
      (.region [⟨(some 388), .mov (.t 24), none⟩,
         ⟨(some 389), .nilck (.t 388), none⟩,
         ⟨(some 390), .faddr 3 (.t 389), none⟩,
         ⟨(some 391), .load false 1 (.t 390), none⟩,
         ⟨(some 392), .un .not (.t 391), none⟩,
         ⟨(some 393), .mov (.t 392), none⟩,
         ⟨(some 394), .mov (.t 24), (some (393, true))⟩,
         ⟨(some 395), .nilck (.t 394), (some (393, true))⟩,
         ⟨(some 396), .faddr 2 (.t 395), (some (393, true))⟩,
         ⟨(some 397), .load false 1 (.t 396), (some (393, true))⟩,
         ⟨(some 398), .mov (.t 9), (some (393, true))⟩,
         ⟨(some 399), .bin .gtr (.t 397) (.t 398), (some (393, true))⟩,
         ⟨(some 400), .pick (.t 393) (.t 399) (.c (.bool false)), none⟩,
         ⟨(some 27), .mov (.t 400), none⟩]) <|
      .seq
      (.seq
       (.draw false [0, 5, 8, 9, 11, 21, 22, 24, 27, 59, 60, 61, 374, 437] (
          .op ⟨(some 401), .mov (.t 26), none⟩ <|
          .op ⟨(some 402), .mov (.t 27), none⟩ <|
          .op ⟨(some 403), .eq true false [.bool] (.t 401) (.t 402), none⟩ <|
          .op ⟨(some 404), .mov (.t 403), none⟩ <|
          .op ⟨(some 405), .mov (.t 26), (some (404, false))⟩ <|
          .op ⟨(some 406), .mov (.t 405), (some (404, false))⟩ <|
          .op ⟨(some 407), .faddr 0 (.t 25), (some (406, true))⟩ <|
          .op ⟨(some 408), .load false 1 (.t 407), (some (406, true))⟩ <|
          .op ⟨(some 409), .mov (.t 24), (some (406, true))⟩ <|
          .op ⟨(some 410), .nilck (.t 409), (some (406, true))⟩ <|
          .op ⟨(some 411), .faddr 0 (.t 410), (some (406, true))⟩ <|
          .op ⟨(some 412), .load false 1 (.t 411), (some (406, true))⟩ <|
          .op ⟨(some 413), .bin .neq (.t 408) (.t 412), (some (406, true))⟩ <|
          .op ⟨(some 414), .mov (.t 413), (some (406, true))⟩ <|
          .op ⟨(some 415), .faddr 2 (.t 25), (some (414, false))⟩ <|
          .op ⟨(some 416), .load false 1 (.t 415), (some (414, false))⟩ <|
          .op ⟨(some 417), .mov (.t 24), (some (414, false))⟩ <|
          .op ⟨(some 418), .nilck (.t 417), (some (414, false))⟩ <|
          .op ⟨(some 419), .faddr 2 (.t 418), (some (414, false))⟩ <|
          .op ⟨(some 420), .load false 1 (.t 419), (some (414, false))⟩ <|
          .op ⟨(some 421), .bin .neq (.t 416) (.t 420), (some (414, false))⟩ <|
          .op ⟨(some 422), .pick (.t 414) (.c (.bool true)) (.t 421), (some (406, true))⟩ <|
          .op ⟨(some 423), .pick (.t 406) (.t 422) (.c (.bool false)), (some (404, false))⟩ <|
          .op ⟨(some 424), .pick (.t 404) (.c (.bool true)) (.t 423), none⟩ <|
          .op ⟨(some 425), .mov (.t 424), none⟩ <|
          .op ⟨(some 426), .mov (.t 5), (some (425, false))⟩ <|
          .op ⟨(some 427), .faddr 1 (.t 11), (some (425, false))⟩ <|
          .op ⟨(some 428), .load false 1 (.t 427), (some (425, false))⟩ <|
          .op ⟨(some 429), .mov (.t 23), (some (425, false))⟩ <|
          .op ⟨(some 430), .mov (.t 24), (some (425, false))⟩ <|
          .op ⟨(some 431), .nilck (.t 430), (some (425, false))⟩ <|
          .op ⟨(some 432), .faddr 1 (.t 431), (some (425, false))⟩ <|
          .op ⟨(some 433), .load false 1 (.t 432), (some (425, false))⟩ <|
          .op ⟨(some 435), .mov (.t 27), (some (425, false))⟩ <|
          .op ⟨(some 434), .call (.f 12) [(.t 426), (.t 428), (.t 429), (.t 433)], (some (425, false))⟩ <|
          .op ⟨(some 436), .eq true false [.bool] (.t 434) (.t 435), (some (425, false))⟩ <|
          .op ⟨(some 437), .pick (.t 425) (.c (.bool true)) (.t 436), none⟩ <|
          .done)) <|
       .cond (.t 437)
        (.seq
         (.region [⟨(some 4), .mov (.c (.bool false)), none⟩]) <|
         .ret)
        (.skip)) <|
      .seq
      (.region [⟨(some 438), .mov (.t 27), none⟩]) <|
      .cond (.t 438)
       (.seq
        (.region [⟨(some 439), .mov (.t 21), none⟩,
           ⟨(some 440), .bin .add (.t 439) (.c (.int .i64 1)), none⟩,
           ⟨(some 21), .mov (.t 440), none⟩]) <|
        .region [⟨(some 441), .mov (.t 22), none⟩,
          ⟨(some 442), .mov (.t 24), none⟩,
          ⟨(some 443), .nilck (.t 442), none⟩,
          ⟨(some 444), .faddr 2 (.t 443), none⟩,
          ⟨(some 445), .load false 1 (.t 444), none⟩,
          ⟨(some 446), .min [(.t 441), (.t 445)], none⟩,
          ⟨(some 22), .mov (.t 446), none⟩])
       (.skip)) <|
    .seq
    (.region [⟨(some 447), .mov (.t 5), none⟩,
       ⟨(some 448), .faddr 1 (.t 11), none⟩,
       ⟨(some 449), .load false 1 (.t 448), none⟩,
       ⟨(some 450), .call (.f 8) [(.t 447), (.t 449)], none⟩,
       ⟨(some 451), .len .sl (.t 450), none⟩,
       ⟨(some 452), .mov (.t 21), none⟩,
       ⟨(some 453), .bin .neq (.t 451) (.t 452), none⟩,
       ⟨(some 454), .mov (.t 453), none⟩,
       ⟨(some 455), .mov (.t 5), (some (454, false))⟩,
       ⟨(some 456), .faddr 1 (.t 11), (some (454, false))⟩,
       ⟨(some 457), .load false 1 (.t 456), (some (454, false))⟩,
       ⟨(some 458), .call (.f 13) [(.t 455), (.t 457)], (some (454, false))⟩,
       ⟨(some 459), .mov (.t 22), (some (454, false))⟩,
       ⟨(some 460), .bin .neq (.t 458) (.t 459), (some (454, false))⟩,
       ⟨(some 461), .pick (.t 454) (.c (.bool true)) (.t 460), none⟩]) <|
    .cond (.t 461)
     (.seq
      (.region [⟨(some 4), .mov (.c (.bool false)), none⟩]) <|
      .ret)
     (.skip)
/-- A round, behind the act. -/
def body41 : St :=
    .seq
    (.seq
     (.region [⟨(some 65), .faddr 1 (.t 11), none⟩,
        ⟨(some 66), .load false 1 (.t 65), none⟩,
        ⟨(some 67), .bin .lss (.t 66) (.c (.int .i64 (-1125899906842624))), none⟩,
        ⟨(some 68), .mov (.t 67), none⟩,
        ⟨(some 69), .faddr 1 (.t 11), (some (68, false))⟩,
        ⟨(some 70), .load false 1 (.t 69), (some (68, false))⟩,
        ⟨(some 71), .bin .gtr (.t 70) (.c (.int .i64 1125899906842624)), (some (68, false))⟩,
        ⟨(some 72), .pick (.t 68) (.c (.bool true)) (.t 71), none⟩]) <|
     .cond (.t 72)
      (.seq
       (.region [⟨(some 4), .mov (.c (.bool true)), none⟩]) <|
       .ret)
      (.skip)) <|
    .seq
    (.region [⟨(some 73), .faddr 2 (.t 11), none⟩,
       ⟨(some 74), .load false 1 (.t 73), none⟩,
       ⟨(some 75), .bin .geq (.t 74) (.c (.int .i64 0)), none⟩,
       ⟨(some 76), .mov (.t 75), none⟩,
       ⟨(some 77), .faddr 2 (.t 11), (some (76, true))⟩,
       ⟨(some 78), .load false 1 (.t 77), (some (76, true))⟩,
       ⟨(some 79), .bin .lss (.t 78) (.c (.int .i64 256)), (some (76, true))⟩,
       ⟨(some 80), .pick (.t 76) (.t 79) (.c (.bool false)), none⟩,
       ⟨(some 12), .mov (.t 80), none⟩]) <|
    .seq
    (.seq
     (.region [⟨(some 81), .faddr 0 (.t 11), none⟩,
        ⟨(some 82), .load false 1 (.t 81), none⟩,
        ⟨(some 83), .bin .rem (.t 82) (.c (.int .u8 3)), none⟩,
        ⟨(some 84), .bin .eql (.t 83) (.c (.int .u8 0)), none⟩,
        ⟨(some 85), .mov (.t 84), none⟩,
        ⟨(some 86), .faddr 3 (.t 11), (some (85, true))⟩,
        ⟨(some 87), .load false 1 (.t 86), (some (85, true))⟩,
        ⟨(some 88), .bin .lss (.t 87) (.c (.int .i64 1)), (some (85, true))⟩,
        ⟨(some 89), .mov (.t 88), (some (85, true))⟩,
        ⟨(some 90), .faddr 5 (.t 11), (some (89, false))⟩,
        ⟨(some 91), .load false 1 (.t 90), (some (89, false))⟩,
        ⟨(some 92), .bin .lss (.t 91) (.c (.int .i64 1)), (some (89, false))⟩,
        ⟨(some 93), .pick (.t 89) (.c (.bool true)) (.t 92), (some (85, true))⟩,
        ⟨(some 94), .mov (.t 93), (some (85, true))⟩,
        ⟨(some 95), .faddr 5 (.t 11), (some (94, false))⟩,
        ⟨(some 96), .load false 1 (.t 95), (some (94, false))⟩,
        ⟨(some 97), .bin .gtr (.t 96) (.c (.int .i64 1099511627776)), (some (94, false))⟩,
        ⟨(some 98), .pick (.t 94) (.c (.bool true)) (.t 97), (some (85, true))⟩,
        ⟨(some 99), .pick (.t 85) (.t 98) (.c (.bool false)), none⟩,
        ⟨(some 100), .mov (.t 99), none⟩,
        ⟨(some 101), .faddr 0 (.t 11), (some (100, false))⟩,
        ⟨(some 102), .load false 1 (.t 101), (some (100, false))⟩,
        ⟨(some 103), .bin .rem (.t 102) (.c (.int .u8 3)), (some (100, false))⟩,
        ⟨(some 104), .bin .eql (.t 103) (.c (.int .u8 1)), (some (100, false))⟩,
        ⟨(some 105), .mov (.t 104), (some (100, false))⟩,
        ⟨(some 106), .faddr 5 (.t 11), (some (105, true))⟩,
        ⟨(some 107), .load false 1 (.t 106), (some (105, true))⟩,
        ⟨(some 108), .bin .lss (.t 107) (.c (.int .i64 1)), (some (105, true))⟩,
        ⟨(some 109), .mov (.t 108), (some (105, true))⟩,
        ⟨(some 110), .faddr 5 (.t 11), (some (109, false))⟩,
        ⟨(some 111), .load false 1 (.t 110), (some (109, false))⟩,
        ⟨(some 112), .bin .gtr (.t 111) (.c (.int .i64 1099511627776)), (some (109, false))⟩,
        ⟨(some 113), .pick (.t 109) (.c (.bool true)) (.t 112), (some (105, true))⟩,
        ⟨(some 114), .pick (.t 105) (.t 113) (.c (.bool false)), (some (100, false))⟩,
        ⟨(some 115), .pick (.t 100) (.c (.bool true)) (.t 114), none⟩,
        ⟨(some 116), .mov (.t 115), none⟩,
        ⟨(some 117), .mov (.t 12), (some (116, false))⟩,
        ⟨(some 118), .un .not (.t 117), (some (116, false))⟩,
        ⟨(some 119), .pick (.t 116) (.c (.bool true)) (.t 118), none⟩]) <|
     .cond (.t 119)
      (.seq
       (.region [⟨(some 13), .mov (.c (.int .i64 0)), none⟩]) <|
       .seq
       (.seq
        (.region [⟨(some 120), .faddr 0 (.t 11), none⟩,
           ⟨(some 121), .load false 1 (.t 120), none⟩,
           ⟨(some 122), .bin .rem (.t 121) (.c (.int .u8 3)), none⟩]) <|
        .block 2 <|
        .seq
        (.region [⟨(some 124), .bin .eql (.t 122) (.c (.int .u8 0)), none⟩,
           ⟨(some 123), .mov (.t 124), none⟩]) <|
        .cond (.t 123)
         (.region [⟨(some 126), .mov (.t 5), none⟩,
            ⟨(some 127), .faddr 1 (.t 11), none⟩,
            ⟨(some 128), .load false 1 (.t 127), none⟩,
            ⟨(some 129), .faddr 2 (.t 11), none⟩,
            ⟨(some 130), .load false 1 (.t 129), none⟩,
            ⟨(some 131), .faddr 3 (.t 11), none⟩,
            ⟨(some 132), .load false 1 (.t 131), none⟩,
            ⟨(some 133), .faddr 5 (.t 11), none⟩,
            ⟨(some 134), .load false 1 (.t 133), none⟩,
            ⟨(some 135), .call (.f 9) [(.t 126), (.t 128), (.t 130), (.t 132), (.t 134)], none⟩,
            ⟨(some 125), .mov (.t 135), none⟩,
            ⟨(some 136), .extract (.t 125) 0, none⟩,
            ⟨(some 137), .extract (.t 125) 1, none⟩,
            ⟨(some 13), .mov (.t 137), none⟩])
         (.seq
          (.region [⟨(some 139), .bin .eql (.t 122) (.c (.int .u8 1)), none⟩,
             ⟨(some 138), .mov (.t 139), none⟩]) <|
          .cond (.t 138)
           (.region [⟨(some 141), .mov (.t 5), none⟩,
              ⟨(some 142), .faddr 1 (.t 11), none⟩,
              ⟨(some 143), .load false 1 (.t 142), none⟩,
              ⟨(some 144), .faddr 2 (.t 11), none⟩,
              ⟨(some 145), .load false 1 (.t 144), none⟩,
              ⟨(some 146), .faddr 4 (.t 11), none⟩,
              ⟨(some 147), .load false 1 (.t 146), none⟩,
              ⟨(some 148), .faddr 5 (.t 11), none⟩,
              ⟨(some 149), .load false 1 (.t 148), none⟩,
              ⟨(some 150), .call (.f 10) [(.t 141), (.t 143), (.t 145), (.t 147), (.t 149)], none⟩,
              ⟨(some 140), .mov (.t 150), none⟩,
              ⟨(some 151), .extract (.t 140) 0, none⟩,
              ⟨(some 152), .extract (.t 140) 1, none⟩,
              ⟨(some 13), .mov (.t 152), none⟩])
           (.seq
            (.region [⟨(some 154), .bin .eql (.t 122) (.c (.int .u8 2)), none⟩,
               ⟨(some 153), .mov (.t 154), none⟩]) <|
            .cond (.t 153)
             (.region [⟨(some 155), .mov (.t 5), none⟩,
                ⟨(some 156), .faddr 1 (.t 11), none⟩,
                ⟨(some 157), .load false 1 (.t 156), none⟩,
                ⟨(some 158), .faddr 2 (.t 11), none⟩,
                ⟨(some 159), .load false 1 (.t 158), none⟩,
                ⟨(some 160), .faddr 4 (.t 11), none⟩,
                ⟨(some 161), .load false 1 (.t 160), none⟩,
                ⟨(some 162), .call (.f 11) [(.t 155), (.t 157), (.t 159), (.t 161)], none⟩,
                ⟨(some 13), .mov (.t 162), none⟩])
             (.skip)))) <|
       .seq
       (.seq
        (.region [⟨(some 163), .mov (.t 13), none⟩,
           ⟨(some 164), .bin .neq (.t 163) (.c (.int .i64 2)), none⟩]) <|
        .cond (.t 164)
         (.seq
          (.region [⟨(some 4), .mov (.c (.bool false)), none⟩]) <|
          .ret)
         (.skip)) <|
       .exit 1)
      (.skip)) <|
    .seq
    (.region [⟨(some 165), .mov (.t 9), none⟩,
       ⟨(some 166), .faddr 1 (.t 11), none⟩,
       ⟨(some 167), .load false 1 (.t 166), none⟩,
       ⟨(some 168), .max [(.t 165), (.t 167)], none⟩,
       ⟨(some 9), .mov (.t 168), none⟩]) <|
    .seq
    (.region [⟨(some 169), .mov (.t 8), none⟩,
       ⟨(some 170), .faddr 2 (.t 11), none⟩,
       ⟨(some 171), .load false 1 (.t 170), none⟩,
       ⟨(some 172), .lookup (.ptr none) (.t 169) (.t 171) false, none⟩,
       ⟨(some 14), .mov (.t 172), none⟩]) <|
    .seq
    (.seq
     (.region [⟨(some 173), .mov (.t 14), none⟩,
        ⟨(some 174), .eq false false [.ptr] (.t 173) (.c (.ptr none)), none⟩]) <|
     .cond (.t 174)
      (.seq
       (.region [⟨(some 175), .build [(.int .i64 0), (.int .i64 0), (.int .i64 0), (.bool false)] [(3, 1, (.c (.bool true)))], none⟩,
          ⟨(some 176), .box (.t 175), none⟩,
          ⟨(some 14), .mov (.t 176), none⟩]) <|
       .region [⟨(some 177), .mov (.t 8), none⟩,
         ⟨(some 178), .faddr 2 (.t 11), none⟩,
         ⟨(some 179), .load false 1 (.t 178), none⟩,
         ⟨(some 180), .mov (.t 14), none⟩,
         ⟨none, .mapUpd (.t 177) (.t 179) (.t 180), none⟩])
      (.skip)) <|
    .seq
    (.region [⟨(some 181), .mov (.t 14), none⟩,
       ⟨(some 182), .nilck (.t 181), none⟩,
       ⟨(some 183), .faddr 3 (.t 182), none⟩,
       ⟨(some 184), .load false 1 (.t 183), none⟩,
       ⟨(some 185), .un .not (.t 184), none⟩,
       ⟨(some 186), .mov (.t 185), none⟩,
       ⟨(some 187), .mov (.t 14), (some (186, true))⟩,
       ⟨(some 188), .nilck (.t 187), (some (186, true))⟩,
       ⟨(some 189), .faddr 2 (.t 188), (some (186, true))⟩,
       ⟨(some 190), .load false 1 (.t 189), (some (186, true))⟩,
       ⟨(some 191), .mov (.t 9), (some (186, true))⟩,
       ⟨(some 192), .bin .gtr (.t 190) (.t 191), (some (186, true))⟩,
       ⟨(some 193), .pick (.t 186) (.t 192) (.c (.bool false)), none⟩,
       ⟨(some 15), .mov (.t 193), none⟩]) <|
    .seq
    (.seq
     (.region [⟨(some 194), .faddr 0 (.t 11), none⟩,
        ⟨(some 195), .load false 1 (.t 194), none⟩,
        ⟨(some 196), .bin .rem (.t 195) (.c (.int .u8 3)), none⟩]) <|
     .block 3 <|
     .seq
     (.region [⟨(some 198), .bin .eql (.t 196) (.c (.int .u8 0)), none⟩,
        ⟨(some 197), .mov (.t 198), none⟩]) <|
     .cond (.t 197)
      (.seq
       (.region [⟨(some 200), .mov (.t 5), none⟩,
          ⟨(some 201), .faddr 1 (.t 11), none⟩,
          ⟨(some 202), .load false 1 (.t 201), none⟩,
          ⟨(some 203), .faddr 2 (.t 11), none⟩,
          ⟨(some 204), .load false 1 (.t 203), none⟩,
          ⟨(some 205), .faddr 3 (.t 11), none⟩,
          ⟨(some 206), .load false 1 (.t 205), none⟩,
          ⟨(some 207), .faddr 5 (.t 11), none⟩,
          ⟨(some 208), .load false 1 (.t 207), none⟩,
          ⟨(some 209), .call (.f 9) [(.t 200), (.t 202), (.t 204), (.t 206), (.t 208)], none⟩,
          ⟨(some 199), .mov (.t 209), none⟩,
          ⟨(some 210), .extract (.t 199) 0, none⟩,
          ⟨(some 211), .extract (.t 199) 1, none⟩,
          ⟨(some 16), .alloc [(.int .i64 0), (.int .i64 0), (.int .i64 0)], none⟩,
          ⟨none, .store 3 (.t 16) (.t 210), none⟩,
          ⟨(some 17), .mov (.t 211), none⟩]) <|
       .seq
       (.seq
        (.draw false [0, 5, 8, 9, 11, 14, 16, 17, 59, 60, 61, 238] (
           .op ⟨(some 212), .mov (.t 15), none⟩ <|
           .op ⟨(some 213), .mov (.t 212), none⟩ <|
           .op ⟨(some 214), .mov (.t 14), (some (213, false))⟩ <|
           .op ⟨(some 215), .nilck (.t 214), (some (213, false))⟩ <|
           .op ⟨(some 216), .faddr 3 (.t 215), (some (213, false))⟩ <|
           .op ⟨(some 217), .load false 1 (.t 216), (some (213, false))⟩ <|
           .op ⟨(some 218), .un .not (.t 217), (some (213, false))⟩ <|
           .op ⟨(some 219), .mov (.t 218), (some (213, false))⟩ <|
           .op ⟨(some 220), .mov (.t 14), (some (219, true))⟩ <|
           .op ⟨(some 221), .nilck (.t 220), (some (219, true))⟩ <|
           .op ⟨(some 222), .faddr 0 (.t 221), (some (219, true))⟩ <|
           .op ⟨(some 223), .load false 1 (.t 222), (some (219, true))⟩ <|
           .op ⟨(some 224), .faddr 3 (.t 11), (some (219, true))⟩ <|
           .op ⟨(some 225), .load false 1 (.t 224), (some (219, true))⟩ <|
           .op ⟨(some 226), .bin .neq (.t 223) (.t 225), (some (219, true))⟩ <|
           .op ⟨(some 227), .pick (.t 219) (.t 226) (.c (.bool false)), (some (213, false))⟩ <|
           .op ⟨(some 228), .mov (.t 227), (some (213, false))⟩ <|
           .op ⟨(some 229), .mov (.t 9), (some (228, true))⟩ <|
           .op ⟨(some 230), .mov (.t 14), (some (228, true))⟩ <|
           .op ⟨(some 231), .nilck (.t 230), (some (228, true))⟩ <|
           .op ⟨(some 232), .faddr 2 (.t 231), (some (228, true))⟩ <|
           .op ⟨(some 233), .load false 1 (.t 232), (some (228, true))⟩ <|
           .op ⟨(some 234), .bin .sub (.t 229) (.t 233), (some (228, true))⟩ <|
           .op ⟨(some 235), .mov (.t 0), (some (228, true))⟩ <|
           .op ⟨(some 236), .bin .lss (.t 234) (.t 235), (some (228, true))⟩ <|
           .op ⟨(some 237), .pick (.t 228) (.t 236) (.c (.bool false)), (some (213, false))⟩ <|
           .op ⟨(some 238), .pick (.t 213) (.c (.bool true)) (.t 237), none⟩ <|
           .done)) <|
        .cond (.t 238)
         (.seq
          (.seq
           (.region [⟨(some 239), .mov (.t 17), none⟩,
              ⟨(some 240), .bin .neq (.t 239) (.c (.int .i64 9)), none⟩,
              ⟨(some 241), .mov (.t 240), none⟩,
              ⟨(some 242), .load true 3 (.t 16), (some (241, false))⟩,
              ⟨(some 243), .build [(.int .i64 0), (.int .i64 0), (.int .i64 0)] [], (some (241, false))⟩,
              ⟨(some 244), .eq true true [.int, .int, .int] (.t 242) (.t 243), (some (241, false))⟩,
              ⟨(some 245), .pick (.t 241) (.c (.bool true)) (.t 244), none⟩]) <|
           .cond (.t 245)
            (.seq
             (.region [⟨(some 4), .mov (.c (.bool false)), none⟩]) <|
             .ret)
            (.skip)) <|
          .exit 3)
         (.skip)) <|
       .seq
       (.draw true [0, 5, 8, 9, 11, 14, 16, 17, 59, 60, 61] (
          .op ⟨(some 246), .mov (.t 14), none⟩ <|
          .op ⟨(some 247), .mov (.t 14), none⟩ <|
          .op ⟨(some 248), .mov (.t 14), none⟩ <|
          .op ⟨(some 249), .mov (.t 14), none⟩ <|
          .op ⟨(some 250), .faddr 3 (.t 11), none⟩ <|
          .op ⟨(some 251), .load false 1 (.t 250), none⟩ <|
          .op ⟨(some 252), .mov (.t 14), none⟩ <|
          .op ⟨(some 253), .nilck (.t 252), none⟩ <|
          .op ⟨(some 254), .faddr 1 (.t 253), none⟩ <|
          .op ⟨(some 255), .load false 1 (.t 254), none⟩ <|
          .op ⟨(some 256), .bin .add (.t 255) (.c (.int .i64 1)), none⟩ <|
          .op ⟨(some 257), .mov (.t 9), none⟩ <|
          .op ⟨(some 258), .faddr 5 (.t 11), none⟩ <|
          .op ⟨(some 261), .nilck (.t 246), none⟩ <|
          .op ⟨(some 262), .faddr 0 (.t 261), none⟩ <|
          .alt (.op ⟨(some 259), .load false 1 (.t 258), none⟩ <|
           .op ⟨(some 260), .bin .add (.t 257) (.t 259), none⟩ <|
           .op ⟨none, .store 1 (.t 262) (.t 251), none⟩ <|
           .op ⟨(some 263), .nilck (.t 247), none⟩ <|
           .op ⟨(some 264), .faddr 1 (.t 263), none⟩ <|
           .op ⟨none, .store 1 (.t 264) (.t 256), none⟩ <|
           .op ⟨(some 265), .nilck (.t 248), none⟩ <|
           .op ⟨(some 266), .faddr 2 (.t 265), none⟩ <|
           .op ⟨none, .store 1 (.t 266) (.t 260), none⟩ <|
           .op ⟨(some 267), .nilck (.t 249), none⟩ <|
           .op ⟨(some 268), .faddr 3 (.t 267), none⟩ <|
           .op ⟨none, .store 1 (.t 268) (.c (.bool false)), none⟩ <|
           .done) <|
          .op ⟨none, .store 1 (.t 262) (.t 251), none⟩ <|
          .op ⟨(some 263), .nilck (.t 247), none⟩ <|
          .op ⟨(some 264), .faddr 1 (.t 263), none⟩ <|
          .alt (.op ⟨(some 259), .load false 1 (.t 258), none⟩ <|
           .op ⟨(some 260), .bin .add (.t 257) (.t 259), none⟩ <|
           .op ⟨none, .store 1 (.t 264) (.t 256), none⟩ <|
           .op ⟨(some 265), .nilck (.t 248), none⟩ <|
           .op ⟨(some 266), .faddr 2 (.t 265), none⟩ <|
           .op ⟨none, .store 1 (.t 266) (.t 260), none⟩ <|
           .op ⟨(some 267), .nilck (.t 249), none⟩ <|
           .op ⟨(some 268), .faddr 3 (.t 267), none⟩ <|
           .op ⟨none, .store 1 (.t 268) (.c (.bool false)), none⟩ <|
           .done) <|
          .op ⟨none, .store 1 (.t 264) (.t 256), none⟩ <|
          .op ⟨(some 259), .load false 1 (.t 258), none⟩ <|
          .op ⟨(some 260), .bin .add (.t 257) (.t 259), none⟩ <|
          .op ⟨(some 265), .nilck (.t 248), none⟩ <|
          .op ⟨(some 266), .faddr 2 (.t 265), none⟩ <|
          .op ⟨none, .store 1 (.t 266) (.t 260), none⟩ <|
          .op ⟨(some 267), .nilck (.t 249), none⟩ <|
          .op ⟨(some 268), .faddr 3 (.t 267), none⟩ <|
          .op ⟨none, .store 1 (.t 268) (.c (.bool false)), none⟩ <|
          .done)) <|
       .seq
       (.draw false [0, 5, 8, 9, 11, 59, 60, 61, 287] (
          .op ⟨(some 269), .mov (.t 17), none⟩ <|
          .op ⟨(some 270), .bin .neq (.t 269) (.c (.int .i64 0)), none⟩ <|
          .op ⟨(some 271), .mov (.t 270), none⟩ <|
          .op ⟨(some 272), .load true 3 (.t 16), (some (271, false))⟩ <|
          .op ⟨(some 273), .mov (.t 14), (some (271, false))⟩ <|
          .op ⟨(some 274), .nilck (.t 273), (some (271, false))⟩ <|
          .op ⟨(some 275), .faddr 0 (.t 274), (some (271, false))⟩ <|
          .op ⟨(some 276), .load false 1 (.t 275), (some (271, false))⟩ <|
          .op ⟨(some 277), .mov (.t 14), (some (271, false))⟩ <|
          .op ⟨(some 278), .nilck (.t 277), (some (271, false))⟩ <|
          .op ⟨(some 279), .faddr 1 (.t 278), (some (271, false))⟩ <|
          .op ⟨(some 280), .load false 1 (.t 279), (some (271, false))⟩ <|
          .op ⟨(some 281), .mov (.t 14), (some (271, false))⟩ <|
          .op ⟨(some 282), .nilck (.t 281), (some (271, false))⟩ <|
          .op ⟨(some 283), .faddr 2 (.t 282), (some (271, false))⟩ <|
          .op ⟨(some 284), .load false 1 (.t 283), (some (271, false))⟩ <|
          .op ⟨(some 285), .build [(.int .i64 0), (.int .i64 0), (.int .i64 0)] [(0, 1, (.t 276)), (1, 1, (.t 280)), (2, 1, (.t 284))], (some (271, false))⟩ <|
          .op ⟨(some 286), .eq true true [.int, .int, .int] (.t 272) (.t 285), (some (271, false))⟩ <|
          .op ⟨(some 287), .pick (.t 271) (.c (.bool true)) (.t 286), none⟩ <|
          .done)) <|
       .cond (.t 287)
        (.seq
         (.region [⟨(some 4), .mov (.c (.bool false)), none⟩]) <|
         .ret)
        (.skip))
      (.seq
       (.region [⟨(some 289), .bin .eql (.t 196) (.c (.int .u8 1)), none⟩,
          ⟨(some 288), .mov (.t 289), none⟩]) <|
       .cond (.t 288)
        (.seq
         (.region [⟨(some 291), .mov (.t 5), none⟩,
            ⟨(some 292), .faddr 1 (.t 11), none⟩,
            ⟨(some 293), .load false 1 (.t 292), none⟩,
            ⟨(some 294), .faddr 2 (.t 11), none⟩,
            ⟨(some 295), .load false 1 (.t 294), none⟩,
            ⟨(some 296), .faddr 4 (.t 11), none⟩,
            ⟨(some 297), .load false 1 (.t 296), none⟩,
            ⟨(some 298), .faddr 5 (.t 11), none⟩,
            ⟨(some 299), .load false 1 (.t 298), none⟩,
            ⟨(some 300), .call (.f 10) [(.t 291), (.t 293), (.t 295), (.t 297), (.t 299)], none⟩,
            ⟨(some 290), .mov (.t 300), none⟩,
            ⟨(some 301), .extract (.t 290) 0, none⟩,
            ⟨(some 302), .extract (.t 290) 1, none⟩,
            ⟨(some 18), .alloc [(.int .i64 0), (.int .i64 0), (.int .i64 0)], none⟩,
            ⟨none, .store 3 (.t 18) (.t 301), none⟩,
            ⟨(some 19), .mov (.t 302), none⟩]) <|
         .seq
         (.seq
          (.draw false [0, 5, 8, 9, 11, 14, 18, 19, 59, 60, 61, 313] (
             .op ⟨(some 303), .mov (.t 15), none⟩ <|
             .op ⟨(some 304), .un .not (.t 303), none⟩ <|
             .op ⟨(some 305), .mov (.t 304), none⟩ <|
             .op ⟨(some 306), .mov (.t 14), (some (305, false))⟩ <|
             .op ⟨(some 307), .nilck (.t 306), (some (305, false))⟩ <|
             .op ⟨(some 308), .faddr 1 (.t 307), (some (305, false))⟩ <|
             .op ⟨(some 309), .load false 1 (.t 308), (some (305, false))⟩ <|
             .op ⟨(some 310), .faddr 4 (.t 11), (some (305, false))⟩ <|
             .op ⟨(some 311), .load false 1 (.t 310), (some (305, false))⟩ <|
             .op ⟨(some 312), .bin .neq (.t 309) (.t 311), (some (305, false))⟩ <|
             .op ⟨(some 313), .pick (.t 305) (.c (.bool true)) (.t 312), none⟩ <|
             .done)) <|
          .cond (.t 313)
           (.seq
            (.seq
             (.region [⟨(some 314), .mov (.t 19), none⟩,
                ⟨(some 315), .bin .neq (.t 314) (.c (.int .i64 7)), none⟩]) <|
             .cond (.t 315)
              (.seq
               (.region [⟨(some 4), .mov (.c (.bool false)), none⟩]) <|
               .ret)
              (.skip)) <|
            .exit 3)
           (.skip)) <|
         .seq
         (.draw false [0, 5, 8, 9, 11, 14, 18, 19, 59, 60, 61] (
            .op ⟨(some 316), .mov (.t 14), none⟩ <|
            .op ⟨(some 317), .mov (.t 14), none⟩ <|
            .op ⟨(some 318), .nilck (.t 317), none⟩ <|
            .op ⟨(some 319), .faddr 2 (.t 318), none⟩ <|
            .op ⟨(some 320), .load false 1 (.t 319), none⟩ <|
            .op ⟨(some 321), .mov (.t 9), none⟩ <|
            .op ⟨(some 322), .faddr 5 (.t 11), none⟩ <|
            .op ⟨(some 323), .load false 1 (.t 322), none⟩ <|
            .op ⟨(some 324), .bin .add (.t 321) (.t 323), none⟩ <|
            .op ⟨(some 325), .max [(.t 320), (.t 324)], none⟩ <|
            .op ⟨(some 326), .nilck (.t 316), none⟩ <|
            .op ⟨(some 327), .faddr 2 (.t 326), none⟩ <|
            .op ⟨none, .store 1 (.t 327) (.t 325), none⟩ <|
            .done)) <|
         .seq
         (.draw false [0, 5, 8, 9, 11, 59, 60, 61, 347] (
            .op ⟨(some 328), .mov (.t 19), none⟩ <|
            .op ⟨(some 329), .bin .neq (.t 328) (.c (.int .i64 0)), none⟩ <|
            .op ⟨(some 330), .mov (.t 329), none⟩ <|
            .op ⟨(some 331), .faddr 2 (.t 18), (some (330, false))⟩ <|
            .op ⟨(some 332), .load false 1 (.t 331), (some (330, false))⟩ <|
            .op ⟨(some 333), .mov (.t 14), (some (330, false))⟩ <|
            .op ⟨(some 334), .nilck (.t 333), (some (330, false))⟩ <|
            .op ⟨(some 335), .faddr 2 (.t 334), (some (330, false))⟩ <|
            .op ⟨(some 336), .load false 1 (.t 335), (some (330, false))⟩ <|
            .op ⟨(some 337), .bin .neq (.t 332) (.t 336), (some (330, false))⟩ <|
            .op ⟨(some 338), .pick (.t 330) (.c (.bool true)) (.t 337), none⟩ <|
            .op ⟨(some 339), .mov (.t 338), none⟩ <|
            .op ⟨(some 340), .faddr 1 (.t 18), (some (339, false))⟩ <|
            .op ⟨(some 341), .load false 1 (.t 340), (some (339, false))⟩ <|
            .op ⟨(some 342), .mov (.t 14), (some (339, false))⟩ <|
            .op ⟨(some 343), .nilck (.t 342), (some (339, false))⟩ <|
            .op ⟨(some 344), .faddr 1 (.t 343), (some (339, false))⟩ <|
            .op ⟨(some 345), .load false 1 (.t 344), (some (339, false))⟩ <|
            .op ⟨(some 346), .bin .neq (.t 341) (.t 345), (some (339, false))⟩ <|
            .op ⟨(some 347), .pick (.t 339) (.c (.bool true)) (.t 346), none⟩ <|
            .done)) <|
         .cond (.t 347)
          (.seq
           (.region [⟨(some 4), .mov (.c (.bool false)), none⟩]) <|
           .ret)
          (.skip))
        (.seq
         (.region [⟨(some 349), .bin .eql (.t 196) (.c (.int .u8 2)), none⟩,
            ⟨(some 348), .mov (.t 349), none⟩]) <|
         .cond (.t 348)
          (.seq
           (.region [⟨(some 20), .mov (.c (.int .i64 7)), none⟩]) <|
           .seq
           (.seq
            (.draw false [0, 5, 8, 9, 11, 14, 20, 59, 60, 61, 359] (
               .op ⟨(some 350), .mov (.t 15), none⟩ <|
               .op ⟨(some 351), .mov (.t 350), none⟩ <|
               .op ⟨(some 352), .mov (.t 14), (some (351, true))⟩ <|
               .op ⟨(some 353), .nilck (.t 352), (some (351, true))⟩ <|
               .op ⟨(some 354), .faddr 1 (.t 353), (some (351, true))⟩ <|
               .op ⟨(some 355), .load false 1 (.t 354), (some (351, true))⟩ <|
               .op ⟨(some 356), .faddr 4 (.t 11), (some (351, true))⟩ <|
               .op ⟨(some 357), .load false 1 (.t 356), (some (351, true))⟩ <|
               .op ⟨(some 358), .bin .eql (.t 355) (.t 357), (some (351, true))⟩ <|
               .op ⟨(some 359), .pick (.t 351) (.t 358) (.c (.bool false)), none⟩ <|
               .done)) <|
            .cond (.t 359)
             (.region [⟨(some 360), .mov (.t 14), none⟩,
                ⟨(some 20), .mov (.c (.int .i64 0)), none⟩,
                ⟨(some 361), .nilck (.t 360), none⟩,
                ⟨(some 362), .faddr 3 (.t 361), none⟩,
                ⟨none, .store 1 (.t 362) (.c (.bool true)), none⟩])
             (.skip)) <|
           .seq
           (.region [⟨(some 363), .mov (.t 5), none⟩,
              ⟨(some 364), .faddr 1 (.t 11), none⟩,
              ⟨(some 365), .load false 1 (.t 364), none⟩,
              ⟨(some 366), .faddr 2 (.t 11), none⟩,
              ⟨(some 367), .load false 1 (.t 366), none⟩,
              ⟨(some 368), .faddr 4 (.t 11), none⟩,
              ⟨(some 369), .load false 1 (.t 368), none⟩,
              ⟨(some 370), .call (.f 11) [(.t 363), (.t 365), (.t 367), (.t 369)], none⟩,
              ⟨(some 371), .mov (.t 20), none⟩,
              ⟨(some 372), .bin .neq (.t 370) (.t 371), none⟩]) <|
           .cond (.t 372)
            (.seq
             (.region [⟨(some 4), .mov (.c (.bool false)), none⟩]) <|
             .ret)
            (.skip))
          (.skip)))) <|
    tail41
/-- The law's code, with that told by its name. -/
def b3t : IFn := ⟨
 .seq
 (.region [⟨(some 4), .mov (.c (.bool false)), none⟩]) <|
 .seq
 (.seq
  (.region [⟨(some 28), .call (.f 5) [], none⟩,
     ⟨(some 29), .un .not (.t 28), none⟩]) <|
  .cond (.t 29)
   (.seq
    (.region [⟨(some 4), .mov (.c (.bool false)), none⟩]) <|
    .ret)
   (.skip)) <|
 .seq
 (.seq
  (.region [⟨(some 30), .mov (.t 1), none⟩,
     ⟨(some 31), .len .sl (.t 30), none⟩,
     ⟨(some 32), .bin .gtr (.t 31) (.c (.int .i64 80)), none⟩]) <|
  .cond (.t 32)
   (.seq
    (.region [⟨(some 4), .mov (.c (.bool true)), none⟩]) <|
    .ret)
   (.skip)) <|
 .seq
 (.region [⟨(some 33), .mov (.t 0), none⟩,
    ⟨(some 34), .call (.f 6) [(.t 33)], none⟩,
    ⟨(some 5), .mov (.t 34), none⟩]) <|
 .seq
 (.seq
  (.region [⟨(some 35), .mov (.t 0), none⟩,
     ⟨(some 36), .bin .lss (.t 35) (.c (.int .i64 0)), none⟩,
     ⟨(some 37), .mov (.t 36), none⟩,
     ⟨(some 38), .mov (.t 0), (some (37, false))⟩,
     ⟨(some 39), .bin .gtr (.t 38) (.c (.int .i64 1099511627776)), (some (37, false))⟩,
     ⟨(some 40), .pick (.t 37) (.c (.bool true)) (.t 39), none⟩]) <|
  .cond (.t 40)
   (.seq
    (.region [⟨(some 42), .mov (.t 5), none⟩,
       ⟨(some 43), .call (.f 7) [(.t 42), (.c (.int .i64 1)), (.c (.int .i64 1))], none⟩,
       ⟨(some 41), .mov (.t 43), none⟩,
       ⟨(some 44), .extract (.t 41) 0, none⟩,
       ⟨(some 45), .extract (.t 41) 1, none⟩,
       ⟨(some 6), .alloc [(.int .i64 0), (.int .i64 0), (.int .i64 0)], none⟩,
       ⟨none, .store 3 (.t 6) (.t 44), none⟩,
       ⟨(some 7), .mov (.t 45), none⟩]) <|
    .seq
    (.region [⟨(some 46), .mov (.t 5), none⟩,
       ⟨(some 47), .eq false false [.ptr] (.t 46) (.c (.ptr none)), none⟩,
       ⟨(some 48), .mov (.t 47), none⟩,
       ⟨(some 49), .mov (.t 7), (some (48, true))⟩,
       ⟨(some 50), .un .not (.t 49), (some (48, true))⟩,
       ⟨(some 51), .pick (.t 48) (.t 50) (.c (.bool false)), none⟩,
       ⟨(some 52), .mov (.t 51), none⟩,
       ⟨(some 53), .mov (.t 5), (some (52, true))⟩,
       ⟨(some 54), .call (.f 8) [(.t 53), (.c (.int .i64 1))], (some (52, true))⟩,
       ⟨(some 55), .len .sl (.t 54), (some (52, true))⟩,
       ⟨(some 56), .bin .eql (.t 55) (.c (.int .i64 0)), (some (52, true))⟩,
       ⟨(some 57), .pick (.t 52) (.t 56) (.c (.bool false)), none⟩,
       ⟨(some 4), .mov (.t 57), none⟩]) <|
    .ret)
   (.skip)) <|
 .seq
 (.region [⟨(some 58), .mkMap, none⟩,
    ⟨(some 8), .mov (.t 58), none⟩]) <|
 .seq
 (.region [⟨(some 9), .mov (.c (.int .i64 (-2305843009213693952))), none⟩]) <|
 .seq
 (.seq
  (.region [⟨(some 59), .mov (.t 1), none⟩,
     ⟨(some 60), .len .sl (.t 59), none⟩,
     ⟨(some 61), .mov (.c (.int .i64 0)), none⟩]) <|
  .block 0 <|
  .loop [0, 5, 8, 9, 59, 60, 61] <|
   .seq
   (.region [⟨(some 62), .bin .lss (.t 61) (.t 60), none⟩]) <|
   .seq
   (.cond (.t 62)
     (.skip)
     (.exit 0)) <|
   .seq
   (.block 1 <|
    .seq
    (.region [⟨(some 63), .iaddr 6 (.t 59) (.t 61), none⟩,
       ⟨(some 64), .load true 6 (.t 63), none⟩,
       ⟨(some 11), .alloc [(.int .u8 0), (.int .i64 0), (.int .i64 0), (.int .i64 0), (.int .i64 0), (.int .i64 0)], none⟩,
       ⟨none, .store 6 (.t 11) (.t 64), none⟩]) <|
    body41) <|
   .region [⟨(some 462), .bin .add (.t 61) (.c (.int .i64 1)), none⟩,
     ⟨(some 61), .mov (.t 462), none⟩]) <|
 .seq
 (.region [⟨(some 4), .mov (.c (.bool true)), none⟩]) <|
 .ret, [.slot 4]⟩
theorem c3t : Code1 Try.prog 3 463 b3t := c3

/-- A plain thing's cells: who holds it, its token, its end; was it given back? -/
abbrev Th := Hd × Bool
def thc (x : Th) : List V := [.int .i64 x.1.who, .int .i64 x.1.tok, .int .i64 x.1.en, .bool x.2]
/-- The plain things. -/
structure Thgs (n0 : Nat) (M : Mem) (r q : Nat) (l : List (Int × V)) (g : List Nat × Nat) (T : Nat → Th) : Prop where
  K : KeysI l
  G : GOk (mapI l) g
  Q : M.obj q = some (.map (mapI l) g)
  q1 : q < M.next ∧ q ≠ r ∧ n0 ≤ q
  ent : ∀ k v, getI l k = some v → ∃ i t : Nat, k = (i : Int) ∧ i < 256 ∧ v = .ptr (some (t, 0, 0)) ∧ t < M.next ∧ t ≠ r ∧ t ≠ q ∧ n0 ≤ t ∧ M.obj t = some (.row 4 [thc (T i)] true)
  inj : ∀ k k' t, getI l k = some (.ptr (some (t, 0, 0))) → getI l k' = some (.ptr (some (t, 0, 0))) → k = k'
  off : ∀ i, i < 256 → getI l (i : Nat) = none → T i = (hd0, true)
theorem Thgs.keep {n0 : Nat} {M M' : Mem} {r q : Nat} {l : List (Int × V)} {g : List Nat × Nat} {T : Nat → Th} (h : Thgs n0 M r q l g T) (hn : M.next ≤ M'.next) (ho : ∀ p, p < M.next → p ≠ r → M'.obj p = M.obj p) : Thgs n0 M' r q l g T := by
  obtain ⟨h1, h2, h3, h4, h5, h6, h7⟩ := h
  refine ⟨h1, h2, by rw [ho q h4.1 h4.2.1]; exact h3, ⟨by omega, h4.2⟩, fun k v hv => ?_, h6, h7⟩
  obtain ⟨i, t, a1, a2, a3, a4, a5, a6, a7, a8⟩ := h5 k v hv
  exact ⟨i, t, a1, a2, a3, by omega, a5, a6, a7, by rw [ho t a4 a5]; exact a8⟩
theorem Thgs.step {n0 : Nat} {M M' : Mem} {r q : Nat} {l : List (Int × V)} {g : List Nat × Nat} {T : Nat → Th} (h : Thgs n0 M r q l g T) (hs : Stp M M' [r] [r]) : Thgs n0 M' r q l g T :=
  h.keep hs.next fun p hp hr => hs.obj p hp (by simpa using hr)
theorem Thgs.grow {n0 : Nat} {M M' : Mem} {r q : Nat} {l : List (Int × V)} {g : List Nat × Nat} {T : Nat → Th} (h : Thgs n0 M r q l g T) (hg : M.Grew M') : Thgs n0 M' r q l g T :=
  h.keep hg.next fun p hp _ => hg.obj p hp

theorem getI_mem {l : List (Int × V)} (h : KeysI l) {k : Int} {v : V} : (k, v) ∈ l ↔ getI l k = some v := by
  induction l with
  | nil => simp [getI]
  | cons x l ih =>
    obtain ⟨b, u⟩ := x
    have h' : b ∉ l.map (·.1) ∧ KeysI l := by simpa [KeysI] using h
    simp only [List.mem_cons, Prod.mk.injEq, getI]
    by_cases e : k = b
    · subst e
      rw [if_pos rfl]
      constructor
      · rintro (⟨_, rfl⟩ | hm)
        · rfl
        · exact absurd (List.mem_map.2 ⟨_, hm, rfl⟩) h'.1
      · intro e; injection e with e; exact .inl ⟨rfl, e.symm⟩
    · rw [if_neg e, ← ih h'.2]
      constructor
      · rintro (⟨e2, _⟩ | hm)
        · exact absurd e2 e
        · exact hm
      · exact .inr

/-! ### how many are held, and the earliest end -/

def isH (T : Nat → Th) (now : Int) (k : Nat) : Bool := !(T k).2 && decide (now < (T k).1.en)
def keyN (x : V × V) : Nat := match x.1 with
  | .int _ k => k.toNat
  | _ => 0
def fst41 (T : Nat → Th) (now : Int) : List (V × V) → Int
  | [] => 4611686018427387903
  | x :: l => if isH T now (keyN x) = true then min (fst41 T now l) (T (keyN x)).1.en else fst41 T now l
theorem fst_app (T : Nat → Th) (now : Int) (l : List (V × V)) (x : V × V) : fst41 T now (l ++ [x]) = if isH T now (keyN x) = true then min (fst41 T now l) (T (keyN x)).1.en else fst41 T now l := by
  induction l with
  | nil => simp [fst41]
  | cons y l ih =>
    simp only [List.cons_append, fst41, ih]
    split <;> split <;> omega
theorem fst_perm {T : Nat → Th} {now : Int} {l l' : List (V × V)} (h : l.Perm l') : fst41 T now l = fst41 T now l' := by
  induction h with
  | nil => rfl
  | cons x _ ih => simp only [fst41, ih]
  | swap x y l => simp only [fst41]; split <;> split <;> omega
  | trans _ _ ih1 ih2 => rw [ih1, ih2]
theorem fst_ge {T : Nat → Th} {now x : Int} {l : List (V × V)} : x ≤ fst41 T now l ↔ x ≤ 4611686018427387903 ∧ ∀ y ∈ l, isH T now (keyN y) = true → x ≤ (T (keyN y)).1.en := by
  induction l with
  | nil => simp [fst41]
  | cons y l ih =>
    simp only [fst41, List.forall_mem_cons]
    by_cases h : isH T now (keyN y) = true
    · rw [if_pos h]
      constructor
      · intro h1
        have := ih.1 (by omega)
        exact ⟨this.1, fun _ => by omega, this.2⟩
      · rintro ⟨h1, h2, h3⟩
        have := ih.2 ⟨h1, h3⟩
        have := h2 h
        omega
    · rw [if_neg h, ih]
      constructor
      · rintro ⟨h1, h2⟩; exact ⟨h1, fun h3 => absurd h3 h, h2⟩
      · rintro ⟨h1, _, h2⟩; exact ⟨h1, h2⟩
theorem next_ge {D : Dk} {x : Int} : ∀ n, x ≤ nextI D n ↔ x ≤ 4611686018427387903 ∧ ∀ i, i < n → D.held i = true → x ≤ (D.h i).en
  | 0 => by simp [nextI]
  | n + 1 => by
    simp only [nextI]
    have ih := next_ge (D := D) (x := x) n
    by_cases h : D.held n = true
    · rw [if_pos h]
      constructor
      · intro h1
        have := ih.1 (by omega)
        refine ⟨this.1, fun i hi hh => ?_⟩
        by_cases e : i = n
        · subst e; omega
        · exact this.2 i (by omega) hh
      · rintro ⟨h1, h2⟩
        have := ih.2 ⟨h1, fun i hi => h2 i (by omega)⟩
        have := h2 n (by omega) h
        omega
    · rw [if_neg h, ih]
      constructor
      · rintro ⟨h1, h2⟩
        refine ⟨h1, fun i hi hh => ?_⟩
        by_cases e : i = n
        · subst e; exact absurd hh h
        · exact h2 i (by omega) hh
      · rintro ⟨h1, h2⟩; exact ⟨h1, fun i hi => h2 i (by omega)⟩

/-- The desk's things are the plain ones. -/
def Alike (D : Dk) (T : Nat → Th) : Prop := ∀ i, i < 256 → D.h i = (T i).1 ∧ D.g i = (T i).2
theorem Alike.held {D : Dk} {T : Nat → Th} (h : Alike D T) {i : Nat} (hi : i < 256) : D.held i = isH T D.now i := by
  unfold Dk.held isH; rw [(h i hi).1, (h i hi).2]
theorem Thgs.keys {n0 : Nat} {M : Mem} {r q : Nat} {l : List (Int × V)} {g : List Nat × Nat} {T : Nat → Th} (h : Thgs n0 M r q l g T) {x : V × V} (hx : x ∈ mapI l) : ∃ i t : Nat, x = (.int .i64 (i : Int), .ptr (some (t, 0, 0))) ∧ keyN x = i ∧ i < 256 ∧ t < M.next ∧ t ≠ r ∧ t ≠ q ∧ M.obj t = some (.row 4 [thc (T i)] true) ∧ getI l (i : Int) = some (.ptr (some (t, 0, 0))) := by
  unfold mapI at hx
  obtain ⟨⟨k, v⟩, hm, rfl⟩ := List.mem_map.1 hx
  have hg := (getI_mem h.K).1 hm
  obtain ⟨i, t, rfl, a2, rfl, a4, a5, a6, a7, a8⟩ := h.ent k v hg
  exact ⟨i, t, rfl, by simp [keyN], a2, a4, a5, a6, a8, hg⟩
theorem Thgs.heldIn {n0 : Nat} {M : Mem} {r q : Nat} {l : List (Int × V)} {g : List Nat × Nat} {T : Nat → Th} (h : Thgs n0 M r q l g T) {now : Int} {i : Nat} (hi : i < 256) (hh : isH T now i = true) : ∃ x ∈ mapI l, keyN x = i := by
  cases hg : getI l (i : Int) with
  | none =>
    have := h.off i hi hg
    unfold isH at hh; rw [this] at hh; simp at hh
  | some v => exact ⟨(.int .i64 (i : Int), v), List.mem_map.2 ⟨(i, v), (getI_mem h.K).2 hg, rfl⟩, by simp [keyN]⟩
theorem Thgs.fst {n0 : Nat} {M : Mem} {r q : Nat} {l : List (Int × V)} {g : List Nat × Nat} {T : Nat → Th} (h : Thgs n0 M r q l g T) {D : Dk} (hD : Alike D T) : fst41 T D.now (mapI l) = nextI D 256 := by
  have key : ∀ x, x ≤ fst41 T D.now (mapI l) ↔ x ≤ nextI D 256 := by
    intro x
    rw [fst_ge, next_ge]
    constructor
    · rintro ⟨h1, h2⟩
      refine ⟨h1, fun i hi hh => ?_⟩
      rw [hD.held hi] at hh
      obtain ⟨y, hy, hk⟩ := h.heldIn hi hh
      have := h2 y hy (by rw [hk]; exact hh)
      rw [hk] at this
      rw [(hD i hi).1]; exact this
    · rintro ⟨h1, h2⟩
      refine ⟨h1, fun y hy hh => ?_⟩
      obtain ⟨i, t, _, hk, hi, _⟩ := h.keys hy
      rw [hk] at hh ⊢
      have := h2 i hi (by rw [hD.held hi]; exact hh)
      rw [(hD i hi).1] at this; exact this
  have h1 := (key _).1 (Int.le_refl _)
  have h2 := (key _).2 (Int.le_refl _)
  omega
theorem Thgs.cnt {n0 : Nat} {M : Mem} {r q : Nat} {l : List (Int × V)} {g : List Nat × Nat} {T : Nat → Th} (h : Thgs n0 M r q l g T) {D : Dk} (hD : Alike D T) : ((mapI l).filter fun x => isH T D.now (keyN x)).length = (heldL D 256).length := by
  have h1 : (((mapI l).filter fun x => isH T D.now (keyN x)).map keyN).Perm ((List.range 256).filter D.held) := by
    rw [List.perm_ext_iff_of_nodup]
    · intro i
      rw [List.mem_map, List.mem_filter, List.mem_range]
      constructor
      · rintro ⟨x, hx, rfl⟩
        rw [List.mem_filter] at hx
        obtain ⟨j, t, _, hk, hj, _⟩ := h.keys hx.1
        rw [hk] at hx ⊢
        exact ⟨hj, by rw [hD.held hj]; exact hx.2⟩
      · rintro ⟨hi, hh⟩
        rw [hD.held hi] at hh
        obtain ⟨x, hx, hk⟩ := h.heldIn hi hh
        exact ⟨x, List.mem_filter.2 ⟨hx, by rw [hk]; exact hh⟩, hk⟩
    · have hn : ((mapI l).map keyN).Nodup := by
        rw [List.nodup_iff_pairwise_ne, List.pairwise_map]
        have hK := h.K
        unfold KeysI at hK
        rw [List.nodup_iff_pairwise_ne, List.pairwise_map] at hK
        unfold mapI
        rw [List.pairwise_map]
        refine hK.imp_of_mem fun {a b} ha hb hab e => ?_
        obtain ⟨i, t, e1, e2, _⟩ := h.keys (List.mem_map.2 ⟨a, ha, rfl⟩)
        obtain ⟨j, t', e3, e4, _⟩ := h.keys (List.mem_map.2 ⟨b, hb, rfl⟩)
        rw [e2, e4] at e
        simp only [Prod.mk.injEq, V.int.injEq, true_and] at e1 e3
        rw [e1.1, e3.1, e] at hab
        exact hab rfl
      exact hn.sublist ((List.filter_sublist).map _)
    · exact List.nodup_range.sublist List.filter_sublist
  have h2 := h1.length_eq
  rw [List.length_map] at h2
  rw [h2]; unfold heldL; rw [List.length_map]

/-! ### what is asked -/

theorem tail_ok {e : Env} {M : Mem} {K : KX} {n0 A r q i N : Nat} {grace now kk a th who tok long : Int} {v : V} {l : List (Int × V)} {g : List Nat × Nat} {T : Nat → Th} {D : Dk}
    (h0 : e 0 = .int .i64 grace) (h5 : e 5 = .ptr (some (r, 0, 0))) (h8 : e 8 = .map (some q)) (h9 : e 9 = .int .i64 now) (h11 : e 11 = .ptr (some (A, 0, 0))) (h59 : e 59 = v) (h60 : e 60 = .int .i64 N) (h61 : e 61 = .int .i64 i)
    (hA : M.obj A = some (.row 6 [[.int .u8 kk, .int .i64 a, .int .i64 th, .int .i64 who, .int .i64 tok, .int .i64 long]] true)) (hA1 : A < M.next ∧ A ≠ r)
    (hT : Thgs n0 M r q l g T) (hD : Desk M r D) (hDT : Alike D T) (htk : D.tick a = D) (hnow : D.now = now) (hl : l.length ≤ 1000)
    (h : ∀ e' M', e' 0 = .int .i64 grace → e' 5 = .ptr (some (r, 0, 0)) → e' 8 = .map (some q) → e' 9 = .int .i64 now → e' 59 = v → e' 60 = .int .i64 N → e' 61 = .int .i64 i → Thgs n0 M' r q l g T → Desk M' r D → Stp M M' [r] [r] → K .normal e' M') :
    exec (Ctx.on Try.prog []) tail41 e M K := by
  have hq := hT.Q
  have hq1 := hT.q1
  unfold tail41
  simp (disch := omega) [-getElem?_pos, h0, h5, h8, h9, h11, h59, h60, h61, hq]
  have gI := Mem.Grew.new M (.iter (some q) g.2 [] g.2)
  have oI : (M.new (.iter (some q) g.2 [] g.2)).obj M.next = some (.iter (some q) g.2 [] g.2) := by simp
  have bI : M.next < (M.new (.iter (some q) g.2 [] g.2)).next := by simp
  generalize M.new (.iter (some q) g.2 [] g.2) = M1 at *
  generalize hIe : M.next = I at *
  refine exec_loopU (σ := List Nat × List (V × V) × Mem) (fun (seen, done, _) => [(21, .int .i64 ((done.filter fun x => isH T now (keyN x)).length : Nat)), (22, .int .i64 (fst41 T now done))]) (fun (_, _, M) => M)
    (fun (seen, done, M2) => M2.obj I = some (.iter (some q) g.2 seen g.2) ∧ I < M2.next ∧ Visd (mapI l) g seen done ∧ Stp M M2 [r] [r] ∧ Desk M2 r D ∧ done.length ≤ l.length) (fun (_, done, _) => l.length - done.length) ([], [], M1) rfl
    (by dsimp only; exact ⟨oI, bI, Visd.nil _ _, Stp.grow gI _, hD.grow gI, by simp⟩) (by simp [fst41]) ?_
  intro (seen, done, M2) ⟨a1, a2, a3, a4, a5, a6⟩
  have hT2 := hT.step a4
  have hA2 : M2.obj A = _ := (a4.obj A (by omega) (by simpa using hA1.2)).trans hA
  simp (disch := omega) [-getElem?_pos]
  refine nextX_go a1 hT2.Q (fun hs => ?_) (fun j k v' s c1 c2 c3 => ?_)
  · have hp := a3.all hT.G hs
    have n1 := (hp.filter fun x => isH T now (keyN x)).length_eq
    have f1 := fst_perm (T := T) (now := now) hp
    subst hnow
    rw [hT.cnt hDT] at n1
    rw [hT.fst hDT] at f1
    simp (disch := omega) [-getElem?_pos, hA2, n1, f1]
    refine heldS_calls a5 fun u M3 hD3 s3 u3 => ?_
    rw [htk] at hD3 u3
    have hu := u3.sl.lenSl
    rw [rowI_length] at hu
    have hA3 : M3.obj A = _ := (s3.obj A (by have := a4.next; omega) (by simpa using hA1.2)).trans hA2
    simp (disch := omega) [-getElem?_pos, hu, hA3]
    refine next_calls hD3 fun M4 hD4 s4 => ?_
    rw [htk] at hD4 ⊢
    simp (disch := omega) [-getElem?_pos]
    exact h _ M4 (by simp) (by simp) (by simp) (by simp) (by simp) (by simp) (by simp) ((hT2.step s3).step s4) hD4 ((a4.trans s3).trans s4)
  · have hm := List.mem_of_getElem? c1
    obtain ⟨x, t, e1, e2, x1, x2, x3, x4, x5, x6⟩ := hT2.keys hm
    injection e1 with e3 e4
    subst e3; subst e4
    have hit : t ≠ I := fun e => by
      subst e; rw [a1] at x5; cases x5
    have hqI : q ≠ I := fun e => by
      have := hT2.Q; rw [e, a1] at this; cases this
    have hrI : r ≠ I := fun e => by
      obtain ⟨cs, o1, _⟩ := a5.obj
      rw [e, a1] at o1; cases o1
    have hAI : A ≠ I := fun e => by rw [e, a1] at hA2; cases hA2
    simp (disch := omega) [-getElem?_pos]
    have sU : Stp M2 (M2.upd I (some (.iter (some q) g.2 (seen ++ [s]) g.2))) [I] [I] := Stp.upd _ (by simp) _
    have oI2 : (M2.upd I (some (.iter (some q) g.2 (seen ++ [s]) g.2))).obj I = some (.iter (some q) g.2 (seen ++ [s]) g.2) := by simp
    have hI2 : I < (M2.upd I (some (.iter (some q) g.2 (seen ++ [s]) g.2))).next := a2
    have kU : ∀ p, p < M2.next → p ≠ I → (M2.upd I (some (.iter (some q) g.2 (seen ++ [s]) g.2))).obj p = M2.obj p := fun p hp hne => sU.obj p hp (by simpa using hne)
    have nU : (M2.upd I (some (.iter (some q) g.2 (seen ++ [s]) g.2))).next = M2.next := rfl
    generalize M2.upd I (some (.iter (some q) g.2 (seen ++ [s]) g.2)) = M3 at *
    have hge : M.next ≤ I := by omega
    have s3 : Stp M M3 [r] [r] := ⟨by have := a4.next; omega, fun p hp hr => by rw [kU p (by have := a4.next; omega) (by omega)]; exact a4.obj p hp hr, fun p hp => .inl hp⟩
    have hT3 := hT.step s3
    have hD3 : Desk M3 r D := a5.keep (by omega) (kU r a5.lt hrI)
    have hA3 : M3.obj A = _ := (s3.obj A (by omega) (by simpa using hA1.2)).trans hA
    have ht3 : M3.obj t = _ := (kU t x2 hit).trans x5
    refine entryX_go (s := s) (i := j) oI2 hT3.Q c1 c2 ?_
    simp (disch := omega) [-getElem?_pos, hA3]
    refine of_calls hD3 x1 fun M4 hD4 s4 => ?_
    rw [htk] at hD4 ⊢
    have hnxt := s4.next
    have ht4 : M4.obj t = _ := (s4.obj t (by omega) (by simpa using x3)).trans ht3
    have hA4 : M4.obj A = _ := (s4.obj A (by have := s3.next; omega) (by simpa using hA1.2)).trans hA3
    have hI4 : M4.obj I = _ := (s4.obj I (by omega) (by simpa using hrI.symm)).trans oI2
    have hh := hDT.held x1
    have hDx := (hDT x x1).1
    rw [hnow] at hh
    have fin : ∀ M5, M4.Grew M5 → ∀ M6, Desk M6 r D → Stp M5 M6 [r] [r] → M6.obj I = some (.iter (some q) g.2 (seen ++ [s]) g.2) ∧ I < M6.next ∧ Visd (mapI l) g (seen ++ [s]) (done ++ [(.int .i64 (x : Int), .ptr (some (t, 0, 0)))]) ∧ Stp M M6 [r] [r] ∧ Desk M6 r D ∧ (done ++ [((.int .i64 (x : Int), .ptr (some (t, 0, 0))) : V × V)]).length ≤ l.length := by
      intro M5 g5 M6 hD6 s6
      have n5 := g5.next
      have n6 := s6.next
      refine ⟨by rw [s6.obj I (by omega) (by simpa using hrI.symm), g5.obj I (by omega)]; exact hI4, by omega, a3.step c1 c2 c3, ((s3.trans s4).trans (Stp.grow g5 _)).trans s6, hD6, ?_⟩
      have := (a3.step c1 c2 c3).len
      rwa [mapI_length] at this
    have hfl : (done.filter fun x => isH T now (keyN x)).length ≤ 1000 := by
      have := List.length_filter_le (fun x => isH T now (keyN x)) done
      omega
    obtain ⟨X, hX⟩ : ∃ X : V × V, ((.int .i64 (x : Int), .ptr (some (t, 0, 0))) : V × V) = X := ⟨_, rfl⟩
    have hkX : keyN X = x := by rw [← hX]; simp [keyN]
    rw [hX] at fin
    have hfst := fst_app T now done X
    rw [hkX] at hfst
    obtain ⟨w, hw⟩ : ∃ w, T x = w := ⟨_, rfl⟩
    obtain ⟨⟨w1, w2, w3⟩, w4⟩ := w
    rw [hw] at ht4 hDx hfst
    simp only [thc] at ht4
    have hisH : isH T now x = (!w4 && decide (now < w3)) := by unfold isH; rw [hw]
    have htl : t < M4.next := by omega
    have hAl : A < M4.next := by have := s3.next; omega
    cases hb : isH T now x with
    | false =>
      have hcn : ((done ++ [X]).filter fun x => isH T now (keyN x)).length = (done.filter fun x => isH T now (keyN x)).length := by rw [List.filter_append, List.length_append]; simp [hkX, hb]
      rw [hb, if_neg (by simp)] at hfst
      rw [hb] at hh hisH
      rw [see_not hh, hh]
      have h5 : w4 = true ∨ (w4 = false ∧ ¬ now < w3) := by
        cases w4
        · right; exact ⟨rfl, by simpa using hisH.symm⟩
        · exact .inl rfl
      rcases h5 with rfl | ⟨rfl, h5⟩
      all_goals
        simp (disch := omega) [-getElem?_pos, hd0, Hd.v, Hd.cs, ht4, hA4]
        refine right_calls (hD4.new1 _) x1 fun M6 hD6 s6 => ?_
        rw [htk] at hD6 ⊢
        rw [hh]
        simp (disch := omega) [-getElem?_pos]
        exact again_mk (seen ++ [s], done ++ [X], M6) (by dsimp only; exact fin _ (Mem.Grew.new _ _) M6 hD6 s6) (by dsimp only; have := (fin _ (Mem.Grew.new _ (.row 3 [[.int .i64 0, .int .i64 0, .int .i64 0]] true)) M6 hD6 s6).2.2.2.2.2; simp at this ⊢; omega) (by dsimp only; rw [hcn, hfst]; simp) rfl
    | true =>
      have hcn : ((done ++ [X]).filter fun x => isH T now (keyN x)).length = (done.filter fun x => isH T now (keyN x)).length + 1 := by rw [List.filter_append, List.length_append]; simp [hkX, hb]
      rw [hb, if_pos rfl] at hfst
      rw [hb] at hh hisH
      rw [see_held hh, hh, hDx]
      have h5 : w4 = false ∧ now < w3 := by
        cases w4
        · exact ⟨rfl, by simpa using hisH.symm⟩
        · simp at hisH
      obtain ⟨rfl, h5⟩ := h5
      simp (disch := omega) [-getElem?_pos, Hd.v, Hd.cs, ht4, hA4]
      refine right_calls (hD4.new1 _) x1 fun M6 hD6 s6 => ?_
      rw [htk] at hD6 ⊢
      rw [hh, hDx]
      have ht6 : M6.obj t = some (.row 4 [[.int .i64 w1, .int .i64 w2, .int .i64 w3, .bool false]] true) := by
        rw [s6.obj t (by simp; omega) (by simpa using x3), newO _ (by omega)]; exact ht4
      simp (disch := omega) [-getElem?_pos, ht6]
      exact again_mk (seen ++ [s], done ++ [X], M6) (by dsimp only; exact fin _ (Mem.Grew.new _ _) M6 hD6 s6) (by dsimp only; have := (fin _ (Mem.Grew.new _ (.row 3 [[.int .i64 w1, .int .i64 w2, .int .i64 w3]] true)) M6 hD6 s6).2.2.2.2.2; simp at this ⊢; omega) (by dsimp only; rw [hcn, hfst]; simp) rfl
end Go.Proofs.Ytdblhiebjccbaaa
