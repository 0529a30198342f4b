/-
  A ROUND of WHEELPLAYS: its code told by name; what is asked behind each act.
-/
import Derived.Test.YtkpdpdpilggcfaaJx
namespace Go.Proofs.Ytkpdpdpilggcfaa
open Go Go.AM
set_option linter.unusedVariables false
set_option linter.unusedSimpArgs false
set_option maxRecDepth 60000
set_option maxHeartbeats 8000000

def tail10 : St :=
    .seq
    (.region [⟨(some 15), .mov (.c (.int .i64 1048576)), none⟩]) <|
    .seq
    (.seq
     (.region [⟨(some 141), .mov (.t 4), none⟩,
        ⟨(some 142), .len .sl (.t 141), none⟩,
        ⟨(some 143), .mov (.c (.int .i64 0)), none⟩]) <|
     .block 6 <|
     .loop [3, 4, 5, 6, 15, 28, 29, 30, 141, 142, 143] <|
      .seq
      (.region [⟨(some 144), .bin .lss (.t 143) (.t 142), none⟩]) <|
      .seq
      (.cond (.t 144)
        (.skip)
        (.exit 6)) <|
      .seq
      (.block 7 <|
       .seq
       (.region [⟨(some 145), .iaddr 2 (.t 141) (.t 143), none⟩,
          ⟨(some 146), .load true 2 (.t 145), none⟩,
          ⟨(some 17), .alloc [(.int .i64 0), (.int .i64 0)], none⟩,
          ⟨none, .store 2 (.t 17) (.t 146), none⟩]) <|
       .seq
       (.region [⟨(some 147), .mov (.t 15), none⟩,
          ⟨(some 148), .faddr 1 (.t 17), none⟩,
          ⟨(some 149), .load false 1 (.t 148), none⟩,
          ⟨(some 150), .mov (.t 5), none⟩,
          ⟨(some 151), .bin .sub (.t 149) (.t 150), none⟩,
          ⟨(some 152), .min [(.t 147), (.t 151)], none⟩,
          ⟨(some 15), .mov (.t 152), none⟩]) <|
       .seq
       (.region [⟨(some 154), .mov (.t 3), none⟩,
          ⟨(some 155), .faddr 0 (.t 17), none⟩,
          ⟨(some 156), .load false 1 (.t 155), none⟩,
          ⟨(some 157), .call (.f 14) [(.t 154), (.t 156)], none⟩,
          ⟨(some 153), .mov (.t 157), none⟩,
          ⟨(some 158), .extract (.t 153) 0, none⟩,
          ⟨(some 159), .extract (.t 153) 1, none⟩,
          ⟨(some 18), .mov (.t 158), none⟩,
          ⟨(some 19), .mov (.t 159), none⟩]) <|
       .seq
       (.region [⟨(some 160), .mov (.t 19), none⟩,
          ⟨(some 161), .un .not (.t 160), none⟩,
          ⟨(some 162), .mov (.t 161), none⟩,
          ⟨(some 163), .mov (.t 18), (some (162, false))⟩,
          ⟨(some 164), .faddr 1 (.t 17), (some (162, false))⟩,
          ⟨(some 165), .load false 1 (.t 164), (some (162, false))⟩,
          ⟨(some 166), .mov (.t 5), (some (162, false))⟩,
          ⟨(some 167), .bin .sub (.t 165) (.t 166), (some (162, false))⟩,
          ⟨(some 168), .bin .neq (.t 163) (.t 167), (some (162, false))⟩,
          ⟨(some 169), .pick (.t 162) (.c (.bool true)) (.t 168), none⟩]) <|
       .cond (.t 169)
        (.seq
         (.region [⟨(some 2), .mov (.c (.bool false)), none⟩]) <|
         .ret)
        (.skip)) <|
      .region [⟨(some 170), .bin .add (.t 143) (.c (.int .i64 1)), none⟩,
        ⟨(some 143), .mov (.t 170), none⟩]) <|
    .seq
    (.region [⟨(some 172), .mov (.t 3), none⟩,
       ⟨(some 173), .call (.f 15) [(.t 172)], none⟩,
       ⟨(some 171), .mov (.t 173), none⟩,
       ⟨(some 174), .extract (.t 171) 0, none⟩,
       ⟨(some 175), .extract (.t 171) 1, none⟩,
       ⟨(some 20), .mov (.t 174), none⟩,
       ⟨(some 21), .mov (.t 175), none⟩]) <|
    .seq
    (.region [⟨(some 176), .mov (.t 21), none⟩,
       ⟨(some 177), .mov (.t 4), none⟩,
       ⟨(some 178), .len .sl (.t 177), none⟩,
       ⟨(some 179), .bin .gtr (.t 178) (.c (.int .i64 0)), none⟩,
       ⟨(some 180), .eq true false [.bool] (.t 176) (.t 179), none⟩,
       ⟨(some 181), .mov (.t 180), none⟩,
       ⟨(some 182), .mov (.t 21), (some (181, false))⟩,
       ⟨(some 183), .mov (.t 182), (some (181, false))⟩,
       ⟨(some 184), .mov (.t 20), (some (183, true))⟩,
       ⟨(some 185), .mov (.t 15), (some (183, true))⟩,
       ⟨(some 186), .bin .neq (.t 184) (.t 185), (some (183, true))⟩,
       ⟨(some 187), .pick (.t 183) (.t 186) (.c (.bool false)), (some (181, false))⟩,
       ⟨(some 188), .pick (.t 181) (.c (.bool true)) (.t 187), none⟩,
       ⟨(some 189), .mov (.t 188), none⟩,
       ⟨(some 190), .mov (.t 3), (some (189, false))⟩,
       ⟨(some 191), .call (.f 10) [(.t 190)], (some (189, false))⟩,
       ⟨(some 192), .mov (.t 4), (some (189, false))⟩,
       ⟨(some 193), .len .sl (.t 192), (some (189, false))⟩,
       ⟨(some 194), .bin .neq (.t 191) (.t 193), (some (189, false))⟩,
       ⟨(some 195), .pick (.t 189) (.c (.bool true)) (.t 194), none⟩,
       ⟨(some 196), .mov (.t 195), none⟩,
       ⟨(some 197), .mov (.t 3), (some (196, false))⟩,
       ⟨(some 198), .call (.f 16) [(.t 197)], (some (196, false))⟩,
       ⟨(some 199), .mov (.t 5), (some (196, false))⟩,
       ⟨(some 200), .bin .neq (.t 198) (.t 199), (some (196, false))⟩,
       ⟨(some 201), .pick (.t 196) (.c (.bool true)) (.t 200), none⟩]) <|
    .cond (.t 201)
     (.seq
      (.region [⟨(some 2), .mov (.c (.bool false)), none⟩]) <|
      .ret)
     (.skip)
def body10 : St :=
    .seq
    (.seq
     (.region [⟨(some 34), .faddr 0 (.t 8), none⟩,
        ⟨(some 35), .load false 1 (.t 34), none⟩,
        ⟨(some 36), .bin .rem (.t 35) (.c (.int .u8 3)), none⟩]) <|
     .block 2 <|
     .seq
     (.region [⟨(some 38), .bin .eql (.t 36) (.c (.int .u8 0)), none⟩,
        ⟨(some 37), .mov (.t 38), none⟩]) <|
     .cond (.t 37)
      (.seq
       (.region [⟨(some 9), .mov (.c (.int .i64 0)), none⟩]) <|
       .seq
       (.block 3 <|
        .seq
        (.region [⟨(some 50), .faddr 2 (.t 8), none⟩,
           ⟨(some 51), .load false 1 (.t 50), none⟩,
           ⟨(some 52), .bin .lss (.t 51) (.c (.int .i64 1)), none⟩,
           ⟨(some 53), .mov (.t 52), none⟩,
           ⟨(some 54), .faddr 2 (.t 8), (some (53, false))⟩,
           ⟨(some 55), .load false 1 (.t 54), (some (53, false))⟩,
           ⟨(some 56), .bin .gtr (.t 55) (.c (.int .i64 65535)), (some (53, false))⟩,
           ⟨(some 57), .pick (.t 53) (.c (.bool true)) (.t 56), none⟩,
           ⟨(some 49), .mov (.t 57), none⟩]) <|
        .cond (.t 49)
         (.region [⟨(some 9), .mov (.c (.int .i64 6)), none⟩])
         (.seq
          (.region [⟨(some 59), .mov (.t 4), none⟩,
             ⟨(some 60), .faddr 1 (.t 8), none⟩,
             ⟨(some 61), .load false 1 (.t 60), none⟩,
             ⟨(some 62), .call (.f 12) [(.t 59), (.t 61)], none⟩,
             ⟨(some 63), .bin .geq (.t 62) (.c (.int .i64 0)), none⟩,
             ⟨(some 58), .mov (.t 63), none⟩]) <|
          .cond (.t 58)
           (.region [⟨(some 9), .mov (.c (.int .i64 9)), none⟩])
           (.region [⟨(some 39), .mov (.t 4), none⟩,
              ⟨(some 40), .faddr 1 (.t 8), none⟩,
              ⟨(some 41), .load false 1 (.t 40), none⟩,
              ⟨(some 42), .mov (.t 5), none⟩,
              ⟨(some 43), .faddr 2 (.t 8), none⟩,
              ⟨(some 44), .load false 1 (.t 43), none⟩,
              ⟨(some 45), .bin .add (.t 42) (.t 44), none⟩,
              ⟨(some 46), .build [(.int .i64 0), (.int .i64 0)] [(0, 1, (.t 41)), (1, 1, (.t 45))], none⟩,
              ⟨(some 47), .buildSl 2 [(.int .i64 0), (.int .i64 0)] [(0, 2, (.t 46))], none⟩,
              ⟨(some 48), .app 2 16 (.t 39) (.t 47), none⟩,
              ⟨(some 4), .mov (.t 48), none⟩]))) <|
       .seq
       (.region [⟨(some 64), .mov (.t 3), none⟩,
          ⟨(some 65), .faddr 1 (.t 8), none⟩,
          ⟨(some 66), .load false 1 (.t 65), none⟩,
          ⟨(some 67), .faddr 2 (.t 8), none⟩,
          ⟨(some 68), .load false 1 (.t 67), none⟩,
          ⟨(some 69), .call (.f 8) [(.t 64), (.t 66), (.t 68)], none⟩,
          ⟨(some 70), .mov (.t 9), none⟩,
          ⟨(some 71), .bin .neq (.t 69) (.t 70), none⟩]) <|
       .cond (.t 71)
        (.seq
         (.region [⟨(some 2), .mov (.c (.bool false)), none⟩]) <|
         .ret)
        (.skip))
      (.seq
       (.region [⟨(some 73), .bin .eql (.t 36) (.c (.int .u8 1)), none⟩,
          ⟨(some 72), .mov (.t 73), none⟩]) <|
       .cond (.t 72)
        (.seq
         (.region [⟨(some 74), .mov (.t 4), none⟩,
            ⟨(some 75), .faddr 1 (.t 8), none⟩,
            ⟨(some 76), .load false 1 (.t 75), none⟩,
            ⟨(some 77), .call (.f 12) [(.t 74), (.t 76)], none⟩,
            ⟨(some 10), .mov (.t 77), none⟩]) <|
         .seq
         (.seq
          (.region [⟨(some 78), .mov (.t 3), none⟩,
             ⟨(some 79), .faddr 1 (.t 8), none⟩,
             ⟨(some 80), .load false 1 (.t 79), none⟩,
             ⟨(some 81), .call (.f 11) [(.t 78), (.t 80)], none⟩,
             ⟨(some 82), .mov (.t 10), none⟩,
             ⟨(some 83), .bin .geq (.t 82) (.c (.int .i64 0)), none⟩,
             ⟨(some 84), .eq true false [.bool] (.t 81) (.t 83), none⟩]) <|
          .cond (.t 84)
           (.seq
            (.region [⟨(some 2), .mov (.c (.bool false)), none⟩]) <|
            .ret)
           (.skip)) <|
         .seq
         (.region [⟨(some 85), .mov (.t 10), none⟩,
            ⟨(some 86), .bin .geq (.t 85) (.c (.int .i64 0)), none⟩]) <|
         .cond (.t 86)
          (.draw false [3, 4, 5, 6, 28, 29, 30] (
             .op ⟨(some 88), .mov (.t 4), none⟩ <|
             .op ⟨(some 89), .mov (.t 10), none⟩ <|
             .op ⟨(some 90), .slice 2 (.t 88) none (some (.t 89)) none, none⟩ <|
             .op ⟨(some 92), .mov (.t 4), none⟩ <|
             .op ⟨(some 93), .mov (.t 10), none⟩ <|
             .op ⟨(some 94), .bin .add (.t 93) (.c (.int .i64 1)), none⟩ <|
             .op ⟨(some 95), .slice 2 (.t 92) (some (.t 94)) none none, none⟩ <|
             .op ⟨(some 87), .buildSl 2 [] [], none⟩ <|
             .op ⟨(some 91), .app 2 16 (.t 87) (.t 90), none⟩ <|
             .op ⟨(some 96), .app 2 16 (.t 91) (.t 95), none⟩ <|
             .op ⟨(some 4), .mov (.t 96), none⟩ <|
             .done))
          (.skip))
        (.seq
         (.region [⟨(some 98), .bin .eql (.t 36) (.c (.int .u8 2)), none⟩,
            ⟨(some 97), .mov (.t 98), none⟩]) <|
         .cond (.t 97)
          (.seq
           (.region [⟨(some 99), .faddr 2 (.t 8), none⟩,
              ⟨(some 100), .load false 1 (.t 99), none⟩,
              ⟨(some 101), .max [(.t 100), (.c (.int .i64 0))], none⟩,
              ⟨(some 102), .min [(.t 101), (.c (.int .i64 65535))], none⟩,
              ⟨(some 11), .mov (.t 102), none⟩]) <|
           .seq
           (.seq
            (.region [⟨(some 103), .mov (.t 6), none⟩,
               ⟨(some 104), .mov (.t 11), none⟩,
               ⟨(some 105), .bin .add (.t 103) (.t 104), none⟩,
               ⟨(some 6), .mov (.t 105), none⟩]) <|
            .seq
            (.region [⟨(some 106), .mov (.t 6), none⟩,
               ⟨(some 107), .bin .gtr (.t 106) (.c (.int .i64 300000)), none⟩]) <|
            .cond (.t 107)
             (.seq
              (.region [⟨(some 2), .mov (.c (.bool true)), none⟩]) <|
              .ret)
             (.skip)) <|
           .seq
           (.region [⟨(some 108), .mov (.t 5), none⟩,
              ⟨(some 109), .mov (.t 11), none⟩,
              ⟨(some 110), .bin .add (.t 108) (.t 109), none⟩,
              ⟨(some 5), .mov (.t 110), none⟩]) <|
           .seq
           (.region [⟨(some 12), .mov (.c (.sl none 0 (some 0))), none⟩]) <|
           .seq
           (.region [⟨(some 112), .mov (.t 4), none⟩,
              ⟨(some 113), .mov (.t 5), none⟩,
              ⟨(some 114), .call (.f 13) [(.t 112), (.t 113)], none⟩,
              ⟨(some 111), .mov (.t 114), none⟩,
              ⟨(some 115), .extract (.t 111) 0, none⟩,
              ⟨(some 116), .extract (.t 111) 1, none⟩,
              ⟨(some 12), .mov (.t 115), none⟩,
              ⟨(some 4), .mov (.t 116), none⟩]) <|
           .seq
           (.region [⟨(some 117), .mov (.t 3), none⟩,
              ⟨(some 118), .faddr 2 (.t 8), none⟩,
              ⟨(some 119), .load false 1 (.t 118), none⟩,
              ⟨(some 120), .call (.f 9) [(.t 117), (.t 119)], none⟩,
              ⟨(some 13), .mov (.t 120), none⟩]) <|
           .seq
           (.seq
            (.region [⟨(some 121), .mov (.t 13), none⟩,
               ⟨(some 122), .len .sl (.t 121), none⟩,
               ⟨(some 123), .mov (.t 12), none⟩,
               ⟨(some 124), .len .sl (.t 123), none⟩,
               ⟨(some 125), .bin .neq (.t 122) (.t 124), none⟩]) <|
            .cond (.t 125)
             (.seq
              (.region [⟨(some 2), .mov (.c (.bool false)), none⟩]) <|
              .ret)
             (.skip)) <|
           .seq
           (.region [⟨(some 126), .mov (.t 13), none⟩,
              ⟨(some 127), .len .sl (.t 126), none⟩,
              ⟨(some 128), .mov (.c (.int .i64 0)), none⟩]) <|
           .block 4 <|
           .loop [3, 4, 5, 6, 12, 13, 28, 29, 30, 127, 128] <|
            .seq
            (.region [⟨(some 129), .bin .lss (.t 128) (.t 127), none⟩]) <|
            .seq
            (.cond (.t 129)
              (.skip)
              (.exit 4)) <|
            .seq
            (.block 5 <|
             .seq
             (.region [⟨(some 130), .mov (.t 128), none⟩,
                ⟨(some 14), .mov (.t 130), none⟩]) <|
             .seq
             (.draw false [3, 4, 5, 6, 12, 13, 28, 29, 30, 127, 128, 139] (
                .op ⟨(some 131), .mov (.t 13), none⟩ <|
                .op ⟨(some 132), .mov (.t 14), none⟩ <|
                .op ⟨(some 133), .iaddr 1 (.t 131) (.t 132), none⟩ <|
                .op ⟨(some 134), .load false 1 (.t 133), none⟩ <|
                .op ⟨(some 135), .mov (.t 12), none⟩ <|
                .op ⟨(some 136), .mov (.t 14), none⟩ <|
                .op ⟨(some 137), .iaddr 1 (.t 135) (.t 136), none⟩ <|
                .op ⟨(some 138), .load false 1 (.t 137), none⟩ <|
                .op ⟨(some 139), .bin .neq (.t 134) (.t 138), none⟩ <|
                .done)) <|
             .cond (.t 139)
              (.seq
               (.region [⟨(some 2), .mov (.c (.bool false)), none⟩]) <|
               .ret)
              (.skip)) <|
            .region [⟨(some 140), .bin .add (.t 128) (.c (.int .i64 1)), none⟩,
              ⟨(some 128), .mov (.t 140), none⟩])
          (.skip)))) <|
    tail10
def b5t : IFn := ⟨
 .seq
 (.region [⟨(some 2), .mov (.c (.bool false)), none⟩]) <|
 .seq
 (.seq
  (.region [⟨(some 22), .call (.f 6) [], none⟩,
     ⟨(some 23), .un .not (.t 22), none⟩]) <|
  .cond (.t 23)
   (.seq
    (.region [⟨(some 2), .mov (.c (.bool false)), none⟩]) <|
    .ret)
   (.skip)) <|
 .seq
 (.seq
  (.region [⟨(some 24), .mov (.t 0), none⟩,
     ⟨(some 25), .len .sl (.t 24), none⟩,
     ⟨(some 26), .bin .gtr (.t 25) (.c (.int .i64 60)), none⟩]) <|
  .cond (.t 26)
   (.seq
    (.region [⟨(some 2), .mov (.c (.bool true)), none⟩]) <|
    .ret)
   (.skip)) <|
 .seq
 (.region [⟨(some 27), .call (.f 7) [], none⟩,
    ⟨(some 3), .mov (.t 27), none⟩]) <|
 .seq
 (.region [⟨(some 4), .mov (.c (.sl none 0 (some 0))), none⟩]) <|
 .seq
 (.region [⟨(some 5), .mov (.c (.int .i64 0)), none⟩,
    ⟨(some 6), .mov (.c (.int .i64 0)), none⟩]) <|
 .seq
 (.seq
  (.region [⟨(some 28), .mov (.t 0), none⟩,
     ⟨(some 29), .len .sl (.t 28), none⟩,
     ⟨(some 30), .mov (.c (.int .i64 0)), none⟩]) <|
  .block 0 <|
  .loop [3, 4, 5, 6, 28, 29, 30] <|
   .seq
   (.region [⟨(some 31), .bin .lss (.t 30) (.t 29), none⟩]) <|
   .seq
   (.cond (.t 31)
     (.skip)
     (.exit 0)) <|
   .seq
   (.block 1 <|
    .seq
    (.region [⟨(some 32), .iaddr 3 (.t 28) (.t 30), none⟩,
       ⟨(some 33), .load true 3 (.t 32), none⟩,
       ⟨(some 8), .alloc [(.int .u8 0), (.int .i64 0), (.int .i64 0)], none⟩,
       ⟨none, .store 3 (.t 8) (.t 33), none⟩]) <|
    body10) <|
   .region [⟨(some 202), .bin .add (.t 30) (.c (.int .i64 1)), none⟩,
     ⟨(some 30), .mov (.t 202), none⟩]) <|
 .seq
 (.region [⟨(some 2), .mov (.c (.bool true)), none⟩]) <|
 .ret, [.slot 2]⟩
theorem c5t : Code1 Try.prog 5 203 b5t := c5

/-- What goes on: a wheel, and a plain row of the same items. -/
structure Mir (n0 c : Nat) (m : Mem) (r n : Nat) (R : List It) (D : List Nat) (u : V) : Prop where
  W : Whl c m D r n R
  U : Ows m 2 u (R.map ip)
  dj : ∀ p ∈ u.fp, p ∉ D
  geD : ∀ p ∈ D, n0 ≤ p
  geU : ∀ p ∈ u.fp, n0 ≤ p
theorem Mir.grow {n0 c : Nat} {m m' : Mem} {r n : Nat} {R : List It} {D : List Nat} {u : V} (h : Mir n0 c m r n R D u) (g : m.Grew m') : Mir n0 c m' r n R D u := ⟨h.W.grow g, h.U.grow g, h.dj, h.geD, h.geU⟩

theorem tail_ok {e : Env} {M : Mem} {K : KX} {n0 c r n i N sm : Nat} {R : List It} {D : List Nat} {u v : V} 
    (h3 : e 3 = .ptr (some (r, 0, 0))) (h4 : e 4 = u) (h5 : e 5 = .int .i64 n) (h6 : e 6 = .int .i64 sm) (h28 : e 28 = v) (h29 : e 29 = .int .i64 N) (h30 : e 30 = .int .i64 i)
    (hM : Mir n0 c M r n R D u) (hn : n ≤ 300000)
    (h : ∀ e' M', e' 3 = .ptr (some (r, 0, 0)) → e' 4 = u → e' 5 = .int .i64 n → e' 6 = .int .i64 sm → e' 28 = v → e' 29 = .int .i64 N → e' 30 = .int .i64 i → M.Grew M' → K .normal e' M') :
    exec (Ctx.on Try.prog []) tail10 e M K := by
  have hdue := hM.W.due
  have hlen := hM.W.len
  have hu := hM.U.sl.lenSl
  rw [List.length_map] at hu
  obtain ⟨w, hw⟩ : ∃ w, R.length = w := ⟨_, rfl⟩
  rw [hw] at hu hlen
  unfold tail10
  simp (disch := omega) [-getElem?_pos, h3, h4, h5, h6, h28, h29, h30, hu]
  refine exec_loopU (σ := Nat × Nat × Mem) (fun (k, f, _) => [(15, .int .i64 f), (143, .int .i64 k)]) (fun (_, _, M) => M) (fun (k, f, M') => k ≤ w ∧ M.Grew M' ∧ f ≤ 1048576 ∧ (f = 1048576 ∨ ∃ x ∈ R, x.2.1 = n + f) ∧ ∀ x ∈ R.take k, n + f ≤ x.2.1) (fun (k, _, _) => w - k) (0, 1048576, M) rfl
    (by dsimp only; exact ⟨by omega, Mem.Grew.refl _, by omega, .inl rfl, by simp⟩) (by simp) ?_
  intro (k, f, M') ⟨a1, a2, a3, a4, a5⟩
  have hW' := hM.W.grow a2
  by_cases hk : k < w
  · obtain ⟨x, hx⟩ : ∃ x, R[k]? = some x := ⟨_, List.getElem?_eq_getElem (by omega)⟩
    have hxR := mem_of_idx hx
    have hxd := hdue x hxR
    obtain ⟨p, c', full, rw, z1, z2, z3, z4, _⟩ := (hM.U.grow a2).sl.at (ip_get hx) .i64
    simp only [ip] at z4
    have gS := Mem.Grew.new M' (.row 2 [[.int .i64 x.1, .int .i64 x.2.1]] true)
    obtain ⟨d, hd⟩ : ∃ d : Nat, x.2.1 = n + d := ⟨x.2.1 - n, by omega⟩
    have hdi : ((x.2.1 : Nat) : Int) - n = d := by omega
    have hmn : min (f : Int) d = ((min f d : Nat) : Int) := by omega
    simp (disch := omega) [-getElem?_pos, z1, z3, z4, h3, h5, hdi, hmn]
    refine left_yes (hW'.grow gS) hxR ?_
    simp (disch := omega) [-getElem?_pos, hdi]
    exact again_mk (k + 1, min f d, _) (by
      dsimp only
      refine ⟨by omega, a2.trans gS, by omega, ?_, fun y hy => ?_⟩
      · rcases Nat.le_total d f with q | q
        · rw [Nat.min_eq_right q]; exact .inr ⟨x, hxR, hd⟩
        · rw [Nat.min_eq_left q]; exact a4
      · rw [takeS hx] at hy
        rcases List.mem_append.1 hy with hy | hy
        · have := a5 y hy; omega
        · simp at hy; subst hy; omega) (by dsimp only; omega) (by simp [hmn]) rfl
  have hkw : k = w := by omega
  subst hkw
  rw [← hw, List.take_length] at a5
  simp (disch := omega) [-getElem?_pos, h3, h4, h5, h6]
  by_cases hR0 : R = []
  · subst hR0
    simp only [List.length_nil] at hw
    refine next_none hW' ?_
    simp (disch := omega) [-getElem?_pos, h3, h4, h5, hu]
    refine len_calls hW' ?_
    simp (disch := omega) [-getElem?_pos, h3, h4, h5, hu]
    refine now_calls hW' ?_
    simp (disch := omega) [-getElem?_pos, h3, h4, h5]
    refine h _ _ ?_ ?_ ?_ ?_ ?_ ?_ ?_ a2
    all_goals simp [h3, h4, h5, h6, h28, h29, h30]
  · have hpos := List.length_pos_iff.2 hR0
    refine next_calls hW' hR0 fun M2 f2 k1 k2 g2 => ?_
    have hff : f2 = f := by
      obtain ⟨x, hx, ex⟩ := k1
      have h1 := a5 x hx
      rcases a4 with rfl | ⟨y, hy, ey⟩
      · have := hdue x hx; omega
      · have := k2 y hy; omega
    subst hff
    have hW2 := hW'.grow g2
    simp (disch := omega) [-getElem?_pos, h3, h4, h5, hu]
    refine len_calls hW2 ?_
    simp (disch := omega) [-getElem?_pos, h3, h4, h5, hu, hw]
    refine now_calls hW2 ?_
    simp (disch := omega) [-getElem?_pos, h3, h4, h5]
    refine h _ _ ?_ ?_ ?_ ?_ ?_ ?_ ?_ (a2.trans g2)
    all_goals simp [h3, h4, h5, h6, h28, h29, h30]

end Go.Proofs.Ytkpdpdpilggcfaa
