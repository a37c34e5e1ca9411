/- The parser of layer 5: the states. -/
import Derived.Test.YtgdgfefojfgpaaaDoorB4
set_option linter.unusedVariables false
set_option linter.unusedSimpArgs false
set_option maxRecDepth 100000
namespace Go.Proofs.YtgdgfefojfgpaaaDoor
open Go Go.Ab
/-- (*clavier/host.Parser).inside -/
def ir_hostParserinside : ICode :=
 (.seq
  (.reg [⟨some 4, none, .mov (.c .nilf)⟩] (some [0, 1]))
  (.seq
   (.blk 0
    (.seq
     (.reg [⟨some 6, none, .mov (.t 1)⟩,
       ⟨some 7, none, .bin .eql .none (.t 6) (.c (.int .u8 7))⟩,
       ⟨some 8, none, .mov (.t 7)⟩,
       ⟨some 9, some (8, true), .mov (.t 0)⟩,
       ⟨some 10, some (8, true), .nck (.t 9)⟩,
       ⟨some 11, some (8, true), .fa 1 (.t 10)⟩,
       ⟨some 12, some (8, true), .fa 0 (.t 11)⟩,
       ⟨some 13, some (8, true), .ld none (.t 12)⟩,
       ⟨some 14, some (8, true), .bin .eql .none (.t 13) (.c (.int .i64 4))⟩,
       ⟨some 15, none, .pick (.t 8) (.t 14) (.c (.bool false))⟩,
       ⟨some 5, none, .mov (.t 15)⟩] (some [0, 1, 5]))
     (.cond (.t 5)
      (.seq
       (.reg [⟨some 16, none, .mov (.t 0)⟩,
         ⟨some 17, none, .call (.c (.fn (.func 27) [] [])) [(.t 16)]⟩] (some []))
       (.seq
        (.reg [⟨some 4, none, .mov (.c .nilf)⟩] (some [4]))
        .ret))
      (.seq
       (.reg [⟨some 19, none, .mov (.t 1)⟩,
         ⟨some 20, none, .bin .lss .none (.t 19) (.c (.int .u8 32))⟩,
         ⟨some 21, none, .mov (.t 20)⟩,
         ⟨some 22, some (21, false), .mov (.t 1)⟩,
         ⟨some 23, some (21, false), .bin .eql .none (.t 22) (.c (.int .u8 127))⟩,
         ⟨some 24, none, .pick (.t 21) (.c (.bool true)) (.t 23)⟩,
         ⟨some 18, none, .mov (.t 24)⟩] (some [0, 1, 18]))
       (.cond (.t 18)
        (.seq
         (.reg [⟨some 4, none, .mov (.c (.fn (.func 36) [] []))⟩] (some [4]))
         .ret)
        .skip)))))
   (.seq
    (.reg [⟨some 25, none, .mov (.t 0)⟩,
      ⟨some 26, none, .mov (.t 0)⟩,
      ⟨some 27, none, .nck (.t 26)⟩,
      ⟨some 28, none, .fa 10 (.t 27)⟩,
      ⟨some 29, none, .ld none (.t 28)⟩,
      ⟨some 30, none, .mov (.t 29)⟩,
      ⟨some 31, some (30, false), .mov (.t 1)⟩,
      ⟨some 32, some (30, false), .bin .geq .none (.t 31) (.c (.int .u8 128))⟩,
      ⟨some 33, none, .pick (.t 30) (.c (.bool true)) (.t 32)⟩,
      ⟨some 34, none, .mov (.t 33)⟩,
      ⟨some 35, some (34, false), .mov (.t 0)⟩,
      ⟨some 36, some (34, false), .nck (.t 35)⟩,
      ⟨some 37, some (34, false), .fa 8 (.t 36)⟩,
      ⟨some 38, some (34, false), .ld none (.t 37)⟩,
      ⟨some 39, some (34, false), .len (.t 38)⟩,
      ⟨some 40, some (34, false), .bin .eql .none (.t 39) (.c (.int .i64 4096))⟩,
      ⟨some 41, none, .pick (.t 34) (.c (.bool true)) (.t 40)⟩,
      ⟨some 42, none, .nck (.t 25)⟩,
      ⟨some 43, none, .fa 10 (.t 42)⟩,
      ⟨none, none, .st 1 (.t 43) (.t 41)⟩] (some [0, 1]))
    (.seq
     (.seq
      (.reg [⟨some 44, none, .mov (.t 0)⟩,
        ⟨some 45, none, .nck (.t 44)⟩,
        ⟨some 46, none, .fa 10 (.t 45)⟩,
        ⟨some 47, none, .ld none (.t 46)⟩,
        ⟨some 48, none, .un .not (.t 47)⟩] (some [0, 1, 48]))
      (.cond (.t 48)
       (.reg [⟨some 49, none, .mov (.t 0)⟩,
         ⟨some 50, none, .mov (.t 0)⟩,
         ⟨some 51, none, .nck (.t 50)⟩,
         ⟨some 52, none, .fa 8 (.t 51)⟩,
         ⟨some 53, none, .ld none (.t 52)⟩,
         ⟨some 54, none, .mov (.t 1)⟩,
         ⟨some 55, none, .row 5 1 [(.t 54)]⟩,
         ⟨some 56, none, .app 5 1 1 (.t 53) (.t 55)⟩,
         ⟨some 57, none, .nck (.t 49)⟩,
         ⟨some 58, none, .fa 8 (.t 57)⟩,
         ⟨none, none, .st 1 (.t 58) (.t 56)⟩] (some []))
       .skip))
     (.seq
      (.reg [⟨some 4, none, .mov (.c (.fn (.func 36) [] []))⟩] (some [4]))
      .ret)))))
theorem is_hostParserinside : IrOf Tryd.prog 36 59 ir_hostParserinside [.t 4] := ⟨_, Tryd.func36, rfl, by kernel_rfl, by kernel_rfl, by kernel_rfl⟩

/-- (*clavier/host.Parser).head -/
def ir_hostParserhead : ICode :=
 (.seq
  (.reg [⟨some 4, none, .mov (.c .nilf)⟩] (some [0, 1]))
  (.seq
   (.reg [⟨some 6, none, .mov (.t 0)⟩,
     ⟨some 7, none, .nck (.t 6)⟩,
     ⟨some 8, none, .fa 9 (.t 7)⟩,
     ⟨some 9, none, .ld none (.t 8)⟩,
     ⟨some 5, none, .mov (.t 9)⟩] (some [0, 1, 5]))
   (.seq
    (.blk 0
     (.seq
      (.reg [⟨some 27, none, .mov (.t 1)⟩,
        ⟨some 28, none, .bin .lss .none (.t 27) (.c (.int .u8 32))⟩,
        ⟨some 29, none, .mov (.t 28)⟩,
        ⟨some 30, some (29, false), .mov (.t 1)⟩,
        ⟨some 31, some (29, false), .bin .eql .none (.t 30) (.c (.int .u8 127))⟩,
        ⟨some 32, none, .pick (.t 29) (.c (.bool true)) (.t 31)⟩,
        ⟨some 26, none, .mov (.t 32)⟩] (some [0, 1, 5, 26]))
      (.cond (.t 26)
       (.seq
        (.reg [⟨some 4, none, .mov (.c (.fn (.func 35) [] []))⟩] (some [4]))
        .ret)
       (.seq
        (.reg [⟨some 34, none, .mov (.t 1)⟩,
          ⟨some 35, none, .bin .geq .none (.t 34) (.c (.int .u8 128))⟩,
          ⟨some 33, none, .mov (.t 35)⟩] (some [0, 1, 5, 33]))
        (.cond (.t 33)
         (.seq
          (.reg [⟨some 36, none, .mov (.t 0)⟩,
            ⟨some 37, none, .call (.c (.fn (.func 18) [] [])) [(.t 36)]⟩] (some []))
          (.seq
           (.reg [⟨some 4, none, .mov (.c .nilf)⟩] (some [4]))
           .ret))
         (.seq
          (.reg [⟨some 39, none, .mov (.t 1)⟩,
            ⟨some 40, none, .bin .lss .none (.t 39) (.c (.int .u8 48))⟩,
            ⟨some 38, none, .mov (.t 40)⟩] (some [0, 1, 5, 38]))
          (.cond (.t 38)
           (.reg [⟨some 41, none, .mov (.t 0)⟩,
             ⟨some 42, none, .mov (.t 1)⟩,
             ⟨some 43, none, .call (.c (.fn (.func 28) [] [])) [(.t 41), (.t 42)]⟩] (some [0]))
           (.seq
            (.reg [⟨some 45, none, .mov (.t 1)⟩,
              ⟨some 46, none, .bin .lss .none (.t 45) (.c (.int .u8 60))⟩,
              ⟨some 44, none, .mov (.t 46)⟩] (some [0, 1, 5, 44]))
            (.cond (.t 44)
             (.seq
              (.reg [⟨some 47, none, .mov (.t 0)⟩,
                ⟨some 48, none, .mov (.t 0)⟩,
                ⟨some 49, none, .nck (.t 48)⟩,
                ⟨some 50, none, .fa 10 (.t 49)⟩,
                ⟨some 51, none, .ld none (.t 50)⟩,
                ⟨some 52, none, .mov (.t 51)⟩,
                ⟨some 53, some (52, false), .mov (.t 0)⟩,
                ⟨some 54, some (52, false), .nck (.t 53)⟩,
                ⟨some 55, some (52, false), .fa 1 (.t 54)⟩,
                ⟨some 56, some (52, false), .fa 3 (.t 55)⟩,
                ⟨some 57, some (52, false), .ld none (.t 56)⟩,
                ⟨some 58, some (52, false), .bin .neq .none (.t 57) (.c (.str []))⟩,
                ⟨some 59, none, .pick (.t 52) (.c (.bool true)) (.t 58)⟩,
                ⟨some 60, none, .nck (.t 47)⟩,
                ⟨some 61, none, .fa 10 (.t 60)⟩,
                ⟨none, none, .st 1 (.t 61) (.t 59)⟩] (some [0, 1]))
              (.reg [⟨some 62, none, .mov (.t 0)⟩,
                ⟨some 63, none, .mov (.t 0)⟩,
                ⟨some 64, none, .nck (.t 63)⟩,
                ⟨some 65, none, .fa 7 (.t 64)⟩,
                ⟨some 66, none, .ld none (.t 65)⟩,
                ⟨some 67, none, .mov (.t 1)⟩,
                ⟨some 68, none, .row 5 1 [(.t 67)]⟩,
                ⟨some 69, none, .app 5 1 1 (.t 66) (.t 68)⟩,
                ⟨some 70, none, .nck (.t 62)⟩,
                ⟨some 71, none, .fa 7 (.t 70)⟩,
                ⟨none, none, .st 1 (.t 71) (.t 69)⟩] (some [0])))
             (.seq
              (.reg [⟨some 73, none, .mov (.t 1)⟩,
                ⟨some 74, none, .bin .lss .none (.t 73) (.c (.int .u8 64))⟩,
                ⟨some 72, none, .mov (.t 74)⟩] (some [0, 1, 5, 72]))
              (.cond (.t 72)
               (.seq
                (.reg [⟨some 75, none, .mov (.t 0)⟩,
                  ⟨some 76, none, .mov (.t 0)⟩,
                  ⟨some 77, none, .nck (.t 76)⟩,
                  ⟨some 78, none, .fa 10 (.t 77)⟩,
                  ⟨some 79, none, .ld none (.t 78)⟩,
                  ⟨some 80, none, .mov (.t 79)⟩,
                  ⟨some 81, some (80, false), .mov (.t 5)⟩,
                  ⟨some 82, some (80, false), .un .not (.t 81)⟩,
                  ⟨some 83, none, .pick (.t 80) (.c (.bool true)) (.t 82)⟩,
                  ⟨some 84, none, .nck (.t 75)⟩,
                  ⟨some 85, none, .fa 10 (.t 84)⟩,
                  ⟨none, none, .st 1 (.t 85) (.t 83)⟩] (some [0, 1]))
                (.reg [⟨some 86, none, .mov (.t 0)⟩,
                  ⟨some 87, none, .mov (.t 1)⟩,
                  ⟨some 88, none, .nck (.t 86)⟩,
                  ⟨some 89, none, .fa 1 (.t 88)⟩,
                  ⟨some 90, none, .fa 1 (.t 89)⟩,
                  ⟨none, none, .st 1 (.t 90) (.t 87)⟩] (some [0])))
               (.seq
                (.reg [⟨some 10, none, .mov (.t 0)⟩,
                  ⟨some 11, none, .mov (.t 1)⟩,
                  ⟨some 12, none, .nck (.t 10)⟩,
                  ⟨some 13, none, .fa 1 (.t 12)⟩,
                  ⟨some 14, none, .fa 4 (.t 13)⟩,
                  ⟨none, none, .st 1 (.t 14) (.t 11)⟩] (some [0]))
                (.seq
                 (.seq
                  (.reg [⟨some 15, none, .mov (.t 0)⟩,
                    ⟨some 16, none, .nck (.t 15)⟩,
                    ⟨some 17, none, .fa 1 (.t 16)⟩,
                    ⟨some 18, none, .fa 0 (.t 17)⟩,
                    ⟨some 19, none, .ld none (.t 18)⟩,
                    ⟨some 20, none, .bin .eql .none (.t 19) (.c (.int .i64 3))⟩] (some [0, 20]))
                  (.cond (.t 20)
                   (.seq
                    (.reg [⟨some 21, none, .mov (.t 0)⟩,
                      ⟨some 22, none, .nck (.t 21)⟩,
                      ⟨some 23, none, .fa 11 (.t 22)⟩,
                      ⟨none, none, .st 1 (.t 23) (.c (.bool true))⟩] (some []))
                    (.seq
                     (.reg [⟨some 4, none, .mov (.c (.fn (.func 36) [] []))⟩] (some [4]))
                     .ret))
                   .skip))
                 (.seq
                  (.reg [⟨some 24, none, .mov (.t 0)⟩,
                    ⟨some 25, none, .call (.c (.fn (.func 27) [] [])) [(.t 24)]⟩] (some []))
                  (.seq
                   (.reg [⟨some 4, none, .mov (.c .nilf)⟩] (some [4]))
                   .ret)))))))))))))))
    (.seq
     (.reg [⟨some 91, none, .mov (.t 0)⟩,
       ⟨some 92, none, .nck (.t 91)⟩,
       ⟨some 93, none, .fa 9 (.t 92)⟩,
       ⟨none, none, .st 1 (.t 93) (.c (.bool false))⟩] (some []))
     (.seq
      (.reg [⟨some 4, none, .mov (.c (.fn (.func 35) [] []))⟩] (some [4]))
      .ret)))))
theorem is_hostParserhead : IrOf Tryd.prog 35 94 ir_hostParserhead [.t 4] := ⟨_, Tryd.func35, rfl, by kernel_rfl, by kernel_rfl, by kernel_rfl⟩

/-- (*clavier/host.Parser).behind -/
def ir_hostParserbehind : ICode :=
 (.seq
  (.reg [⟨some 4, none, .mov (.c .nilf)⟩] (some [0, 1]))
  (.seq
   (.blk 0
    (.seq
     (.reg [⟨some 6, none, .mov (.t 1)⟩,
       ⟨some 7, none, .bin .lss .none (.t 6) (.c (.int .u8 32))⟩,
       ⟨some 8, none, .mov (.t 7)⟩,
       ⟨some 9, some (8, false), .mov (.t 1)⟩,
       ⟨some 10, some (8, false), .bin .eql .none (.t 9) (.c (.int .u8 127))⟩,
       ⟨some 11, none, .pick (.t 8) (.c (.bool true)) (.t 10)⟩,
       ⟨some 5, none, .mov (.t 11)⟩] (some [0, 1, 5]))
     (.cond (.t 5)
      (.seq
       (.reg [⟨some 4, none, .mov (.c (.fn (.func 20) [] []))⟩] (some [4]))
       .ret)
      (.seq
       (.reg [⟨some 13, none, .mov (.t 1)⟩,
         ⟨some 14, none, .bin .geq .none (.t 13) (.c (.int .u8 128))⟩,
         ⟨some 12, none, .mov (.t 14)⟩] (some [0, 1, 12]))
       (.cond (.t 12)
        (.seq
         (.reg [⟨some 15, none, .mov (.t 0)⟩,
           ⟨some 16, none, .call (.c (.fn (.func 18) [] [])) [(.t 15)]⟩] (some []))
         (.seq
          (.reg [⟨some 4, none, .mov (.c .nilf)⟩] (some [4]))
          .ret))
        (.seq
         (.reg [⟨some 18, none, .mov (.t 1)⟩,
           ⟨some 19, none, .bin .lss .none (.t 18) (.c (.int .u8 48))⟩,
           ⟨some 17, none, .mov (.t 19)⟩] (some [0, 1, 17]))
         (.cond (.t 17)
          (.seq
           (.reg [⟨some 20, none, .mov (.t 0)⟩,
             ⟨some 21, none, .mov (.t 1)⟩,
             ⟨some 22, none, .call (.c (.fn (.func 28) [] [])) [(.t 20), (.t 21)]⟩] (some []))
           (.seq
            (.reg [⟨some 4, none, .mov (.c (.fn (.func 20) [] []))⟩] (some [4]))
            .ret))
          (.seq
           (.reg [⟨some 24, none, .mov (.t 0)⟩,
             ⟨some 25, none, .nck (.t 24)⟩,
             ⟨some 26, none, .fa 1 (.t 25)⟩,
             ⟨some 27, none, .fa 3 (.t 26)⟩,
             ⟨some 28, none, .ld none (.t 27)⟩,
             ⟨some 29, none, .bin .neq .none (.t 28) (.c (.str []))⟩,
             ⟨some 30, none, .mov (.t 29)⟩,
             ⟨some 31, some (30, false), .mov (.t 1)⟩,
             ⟨some 32, some (30, false), .cvi .i32 (.t 31)⟩,
             ⟨some 33, some (30, false), .call (.c (.fn (.func 29) [] [])) [(.c (.str [91, 80, 93, 88, 94, 95])), (.t 32)]⟩,
             ⟨some 34, some (30, false), .un .not (.t 33)⟩,
             ⟨some 35, none, .pick (.t 30) (.c (.bool true)) (.t 34)⟩,
             ⟨some 23, none, .mov (.t 35)⟩] (some [0, 1, 23]))
           (.cond (.t 23)
            (.seq
             (.reg [⟨some 36, none, .mov (.t 0)⟩,
               ⟨some 37, none, .mov (.t 0)⟩,
               ⟨some 38, none, .mov (.t 1)⟩,
               ⟨some 39, none, .nck (.t 36)⟩,
               ⟨some 40, none, .fa 1 (.t 39)⟩,
               ⟨some 41, none, .fa 0 (.t 40)⟩,
               ⟨none, none, .st 1 (.t 41) (.c (.int .i64 5))⟩,
               ⟨some 42, none, .nck (.t 37)⟩,
               ⟨some 43, none, .fa 1 (.t 42)⟩,
               ⟨some 44, none, .fa 4 (.t 43)⟩,
               ⟨none, none, .st 1 (.t 44) (.t 38)⟩] (some [0]))
             (.seq
              (.reg [⟨some 45, none, .mov (.t 0)⟩,
                ⟨some 46, none, .call (.c (.fn (.func 27) [] [])) [(.t 45)]⟩] (some []))
              (.seq
               (.reg [⟨some 4, none, .mov (.c .nilf)⟩] (some [4]))
               .ret)))
            .skip)))))))))
   (.seq
    (.reg [⟨some 47, none, .mov (.t 0)⟩,
      ⟨some 48, none, .mov (.t 1)⟩,
      ⟨some 49, none, .call (.c (.fn (.func 30) [] [])) [(.t 47), (.t 48)]⟩,
      ⟨some 4, none, .mov (.t 49)⟩] (some [4]))
    .ret)))
theorem is_hostParserbehind : IrOf Tryd.prog 20 50 ir_hostParserbehind [.t 4] := ⟨_, Tryd.func20, rfl, by kernel_rfl, by kernel_rfl, by kernel_rfl⟩

/-- (*clavier/host.Parser).ending -/
def ir_hostParserending : ICode :=
 (.seq
  (.reg [⟨some 4, none, .mov (.c .nilf)⟩] (some [0, 1]))
  (.seq
   (.seq
    (.reg [⟨some 5, none, .mov (.t 1)⟩,
      ⟨some 6, none, .bin .eql .none (.t 5) (.c (.int .u8 92))⟩] (some [0, 1, 6]))
    (.cond (.t 6)
     (.seq
      (.reg [⟨some 7, none, .mov (.t 0)⟩,
        ⟨some 8, none, .call (.c (.fn (.func 27) [] [])) [(.t 7)]⟩] (some []))
      (.seq
       (.reg [⟨some 4, none, .mov (.c .nilf)⟩] (some [4]))
       .ret))
     .skip))
   (.seq
    (.reg [⟨some 9, none, .mov (.t 0)⟩,
      ⟨some 10, none, .call (.c (.fn (.func 18) [] [])) [(.t 9)]⟩] (some [0, 1]))
    (.seq
     (.reg [⟨some 11, none, .mov (.t 0)⟩,
       ⟨some 12, none, .mov (.t 1)⟩,
       ⟨some 13, none, .call (.c (.fn (.func 20) [] [])) [(.t 11), (.t 12)]⟩,
       ⟨some 4, none, .mov (.t 13)⟩] (some [4]))
     .ret))))
theorem is_hostParserending : IrOf Tryd.prog 19 14 ir_hostParserending [.t 4] := ⟨_, Tryd.func19, rfl, by kernel_rfl, by kernel_rfl, by kernel_rfl⟩

/-- (*clavier/host.Parser).one -/
def ir_hostParserone : ICode :=
 (.seq
  (.reg [⟨some 4, none, .mov (.c .nilf)⟩] (some [0, 1]))
  (.seq
   (.blk 0
    (.seq
     (.reg [⟨some 6, none, .mov (.t 1)⟩,
       ⟨some 7, none, .bin .eql .none (.t 6) (.c (.int .u8 24))⟩,
       ⟨some 8, none, .mov (.t 7)⟩,
       ⟨some 9, some (8, false), .mov (.t 1)⟩,
       ⟨some 10, some (8, false), .bin .eql .none (.t 9) (.c (.int .u8 26))⟩,
       ⟨some 11, none, .pick (.t 8) (.c (.bool true)) (.t 10)⟩,
       ⟨some 5, none, .mov (.t 11)⟩] (some [0, 1, 5]))
     (.cond (.t 5)
      (.seq
       (.reg [⟨some 12, none, .mov (.t 0)⟩,
         ⟨some 13, none, .call (.c (.fn (.func 18) [] [])) [(.t 12)]⟩] (some []))
       (.seq
        (.reg [⟨some 4, none, .mov (.c .nilf)⟩] (some [4]))
        .ret))
      (.seq
       (.reg [⟨some 15, none, .mov (.t 1)⟩,
         ⟨some 16, none, .bin .eql .none (.t 15) (.c (.int .u8 27))⟩,
         ⟨some 17, none, .mov (.t 16)⟩,
         ⟨some 18, some (17, true), .mov (.t 0)⟩,
         ⟨some 19, some (17, true), .nck (.t 18)⟩,
         ⟨some 20, some (17, true), .fa 11 (.t 19)⟩,
         ⟨some 21, some (17, true), .ld none (.t 20)⟩,
         ⟨some 22, none, .pick (.t 17) (.t 21) (.c (.bool false))⟩,
         ⟨some 14, none, .mov (.t 22)⟩] (some [0, 1, 14]))
       (.cond (.t 14)
        (.seq
         (.reg [⟨some 23, none, .mov (.t 0)⟩,
           ⟨some 24, none, .nck (.t 23)⟩,
           ⟨some 25, none, .fa 11 (.t 24)⟩,
           ⟨none, none, .st 1 (.t 25) (.c (.bool false))⟩] (some []))
         (.seq
          (.reg [⟨some 4, none, .mov (.c (.fn (.func 19) [] []))⟩] (some [4]))
          .ret))
        (.seq
         (.reg [⟨some 27, none, .mov (.t 1)⟩,
           ⟨some 28, none, .bin .eql .none (.t 27) (.c (.int .u8 27))⟩,
           ⟨some 26, none, .mov (.t 28)⟩] (some [0, 1, 26]))
         (.cond (.t 26)
          (.seq
           (.reg [⟨some 29, none, .mov (.t 0)⟩,
             ⟨some 30, none, .call (.c (.fn (.func 18) [] [])) [(.t 29)]⟩] (some []))
           (.seq
            (.reg [⟨some 4, none, .mov (.c (.fn (.func 20) [] []))⟩] (some [4]))
            .ret))
          (.seq
           (.reg [⟨some 32, none, .mov (.t 0)⟩,
             ⟨some 33, none, .nck (.t 32)⟩,
             ⟨some 34, none, .fa 0 (.t 33)⟩,
             ⟨some 35, none, .ld none (.t 34)⟩,
             ⟨some 36, none, .bin .eql .func (.t 35) (.c .nilf)⟩,
             ⟨some 31, none, .mov (.t 36)⟩] (some [0, 1, 31]))
           (.cond (.t 31)
            (.seq
             (.reg [⟨some 4, none, .mov (.c .nilf)⟩] (some [4]))
             .ret)
            .skip)))))))))
   (.seq
    (.reg [⟨some 37, none, .mov (.t 0)⟩,
      ⟨some 38, none, .nck (.t 37)⟩,
      ⟨some 39, none, .fa 0 (.t 38)⟩,
      ⟨some 40, none, .ld none (.t 39)⟩,
      ⟨some 41, none, .mov (.t 0)⟩,
      ⟨some 42, none, .mov (.t 1)⟩,
      ⟨some 43, none, .call (.t 40) [(.t 41), (.t 42)]⟩,
      ⟨some 4, none, .mov (.t 43)⟩] (some [4]))
    .ret)))
theorem is_hostParserone : IrOf Tryd.prog 14 44 ir_hostParserone [.t 4] := ⟨_, Tryd.func14, rfl, by kernel_rfl, by kernel_rfl, by kernel_rfl⟩


/-- A method's end behind a call of another. -/
theorem PR.behind {rs : List IRes} {p : Nm} {hb : HB} {y : AV} {γ : Nat} {s : St} {q s' : Ps} (h : resOf s rs = some y) (hy : ∀ f, Ab.rn f y = y) (oy : ∀ m L T, AV.okIn m L T y) (hp : 1 ≤ p.1) (hT0 : ∀ t ∈ q.toks, 1 ≤ t.1) (hH : (p, .cells s'.c) ∈ s.H) (hok : s'.ok)
    (hq : ∀ t ∈ s'.toks, 1 ≤ t.1 ∧ (t ∈ q.toks ∨ t.1 = γ)) (hT : ∀ t ∈ s'.toks, s.T t) : ∃ r H1 T1, PR p q.toks y s'.x r H1 T1 ∧ Ret rs [(p, hb)] q.toks r H1 T1 γ s :=
  PR.ret s' h hy oy hp hT0 hH hok fun t h => ⟨hT t h, (hq t h).2.imp _root_.id fun e => Nat.le_of_eq e.symm⟩

def Pp.inside (x : Pp) (c : UInt8) : Option Nx × Pp :=
  if ((c.toNat : Int) == 7 && x.k == 4) = true then (none, x.tell)
  else if (decide ((c.toNat : Int) < 32) || (c.toNat : Int) == 127) = true then (some .inside, x)
  else if (x.b || decide ((c.toNat : Int) ≥ 128) || (x.da.length : Int) == 4096) = true then (some .inside, { x with b := true })
  else (some .inside, { x with b := false, da := x.da ++ [c] })

theorem bytesAV_len (l : List UInt8) : (bytesAV l).length = l.length := by simp [bytesAV]
/-- A state with a new name for its data. -/
theorem Ps.newd {s : Ps} (hok : s.ok) {n : Nm} (hn : n ∉ s.toks) (x' : Pp) (h1 : x'.tx = s.x.tx) (h2 : x'.ou = s.x.ou) : (⟨x', s.tt, some n, s.ot⟩ : Ps).ok ∧ (∀ t ∈ (⟨x', s.tt, some n, s.ot⟩ : Ps).toks, (t ∈ s.toks ∧ s.dt ≠ some t) ∨ t = n) := by
  have hnd := hok.nd
  simp only [Ps.toks] at hnd hn ⊢
  obtain ⟨a1, a2, a3⟩ := List.nodup_append.1 hnd
  obtain ⟨b1, b2, b3⟩ := List.nodup_append.1 a1
  refine ⟨⟨List.nodup_append.2 ⟨List.nodup_append.2 ⟨b1, by simp, fun a ha b hb e => ?_⟩, a2, fun a ha b hb e => ?_⟩, fun h => h1.trans (hok.t h), fun h => (by cases h), fun h => h2.trans (hok.o h)⟩, fun t ht => ?_⟩
  · simp only [Option.toList_some, List.mem_singleton] at hb
    subst hb; subst e
    exact hn (List.mem_append.2 (.inl (List.mem_append.2 (.inl ha))))
  · subst e
    rcases List.mem_append.1 ha with ha | ha
    · exact a3 a (List.mem_append.2 (.inl ha)) a hb rfl
    · simp only [Option.toList_some, List.mem_singleton] at ha
      subst ha
      exact hn (List.mem_append.2 (.inr hb))
  · rcases List.mem_append.1 ht with ht | ht
    · rcases List.mem_append.1 ht with ht | ht
      · exact .inl ⟨List.mem_append.2 (.inl (List.mem_append.2 (.inl ht))), fun e => b3 t ht t (by rw [e]; simp) rfl⟩
      · simp only [Option.toList_some, List.mem_singleton] at ht
        exact .inr ht
    · exact .inl ⟨List.mem_append.2 (.inr ht), fun e => a3 t (List.mem_append.2 (.inr (by rw [e]; simp))) t ht rfl⟩

theorem fs_inside {Gl : Gh → Prop} (hst : Stays Gl) {p : Nm} (hp : 1 ≤ p.1) {s : Ps} (hok : s.ok) (ht : ∀ t ∈ s.toks, 1 ≤ t.1) (hz : s.x.sz) {c : UInt8} : FSR Tryd.prog Gl 36 [.ptr p 0, .int .u8 (c.toNat : Int)] [(p, .cells s.c)] s.toks (PR p s.toks (nxv (s.x.inside c).1) (s.x.inside c).2) := by
  refine FSR.of hm hst is_hostParserinside (by simp) fun γ hγ hfr => ?_
  have htγ : ∀ t ∈ s.toks, 1 ≤ t.1 ∧ ∀ i j, t ≠ (γ, i, j) := fun t h => ⟨ht t h, fun i j e => hfr.2 t h (by rw [e])⟩
  clear hfr
  (generalize hQ : (fun (ex : Ex) (_ _ : Nat) (s : St) => _) = Q; unfold ir_hostParserinside)
  simp only [Ps.c]
  simp +contextual (maxSteps := 1000000) only [go_sem, reduceCtorEq, ↓reduceIte, Nat.reduceAdd, Nat.reduceEqDiff, Nat.reduceLeDiff, Nat.reduceMul, Nat.reduceBEq, Int.reduceBEq, Int.reduceBNe, Int.reduceLT, Int.reduceLE, Int.reduceGT, Int.reduceGE, Int.reduceToNat, Int.natCast_one, Int.natCast_zero, Int.cast_ofNat_Int]
  cases h1 : ((c.toNat : Int) == 7 && s.x.k == 4) with
  | true =>
    have e : s.x.inside c = (none, s.x.tell) := by simp only [Pp.inside, if_pos h1]
    simp +contextual (maxSteps := 1000000) only [go_sem, reduceCtorEq, ↓reduceIte, Nat.reduceAdd, Nat.reduceEqDiff, Nat.reduceLeDiff, Nat.reduceMul, Nat.reduceBEq, Int.reduceBEq, Int.reduceBNe, Int.reduceLT, Int.reduceLE, Int.reduceGT, Int.reduceGE, Int.reduceToNat, Int.natCast_one, Int.natCast_zero, Int.cast_ofNat_Int]
    refine PR.call (s := s) (fs_tell hst hp hok ht hz) hp (fun _ => rfl) hγ (fun _ h => h) (fun t h => ⟨ht t h, fun j => (htγ t h).2 _ _⟩) fun s' q1 q2 q3 => ?_
    simp +contextual (maxSteps := 1000000) only [go_sem, reduceCtorEq, ↓reduceIte, Nat.reduceAdd, Nat.reduceEqDiff, Nat.reduceLeDiff, Nat.reduceMul, Nat.reduceBEq, Int.reduceBEq, Int.reduceBNe, Int.reduceLT, Int.reduceLE, Int.reduceGT, Int.reduceGE, Int.reduceToNat, Int.natCast_one, Int.natCast_zero, Int.cast_ofNat_Int]
    rw [← hQ, e, ← q1]
    exact ⟨trivial, PR.behind rfl (fun _ => nxv_rn) (fun _ _ _ => nxv_ok) hp ht (by simp) q2 q3 fun _ h => h⟩
  | false =>
    simp +contextual (maxSteps := 1000000) only [go_sem, reduceCtorEq, ↓reduceIte, Nat.reduceAdd, Nat.reduceEqDiff, Nat.reduceLeDiff, Nat.reduceMul, Nat.reduceBEq, Int.reduceBEq, Int.reduceBNe, Int.reduceLT, Int.reduceLE, Int.reduceGT, Int.reduceGE, Int.reduceToNat, Int.natCast_one, Int.natCast_zero, Int.cast_ofNat_Int]
    cases h2 : (decide ((c.toNat : Int) < 32) || (c.toNat : Int) == 127) with
    | true =>
      have e : s.x.inside c = (some .inside, s.x) := by simp only [Pp.inside, h1, h2, if_true, Bool.false_eq_true, if_false]
      simp +contextual (maxSteps := 1000000) only [go_sem, reduceCtorEq, ↓reduceIte, Nat.reduceAdd, Nat.reduceEqDiff, Nat.reduceLeDiff, Nat.reduceMul, Nat.reduceBEq, Int.reduceBEq, Int.reduceBNe, Int.reduceLT, Int.reduceLE, Int.reduceGT, Int.reduceGE, Int.reduceToNat, Int.natCast_one, Int.natCast_zero, Int.cast_ofNat_Int]
      rw [← hQ, e]
      exact ⟨trivial, PR.same _ rfl (fun _ => nxv_rn) (fun _ _ _ => nxv_ok) hp hok ht (by simp [Ps.c]) rfl rfl rfl fun _ h => h⟩
    | false =>
      have hN : ∀ n : Nm, n.1 = γ → n ∉ s.toks := fun n e h => (htγ n h).2 n.2.1 n.2.2 (by rw [← e])
      have hl : ((s.x.da.length : Int) == 4096) = decide (s.x.da.length = 4096) := by rw [Bool.eq_iff_iff]; simp; omega
      cases h3 : (s.x.b || decide ((c.toNat : Int) ≥ 128) || (s.x.da.length : Int) == 4096) with
      | true =>
        have e : s.x.inside c = (some .inside, { s.x with b := true }) := by simp only [Pp.inside, h1, h2, h3, if_true, Bool.false_eq_true, if_false]
        cases hd : s.dt with
        | none =>
          have hd0 := hok.d hd
          have h3' : (s.x.b || decide ((c.toNat : Int) ≥ 128)) = true := by simpa [hd0] using h3
          simp +contextual (maxSteps := 1000000) only [bytesAV_len, h3', hd0, List.length_nil, Bool.or_false, go_sem, reduceCtorEq, ↓reduceIte, Nat.reduceAdd, Nat.reduceEqDiff, Nat.reduceLeDiff, Nat.reduceMul, Nat.reduceBEq, Int.reduceBEq, Int.reduceBNe, Int.reduceLT, Int.reduceLE, Int.reduceGT, Int.reduceGE, Int.reduceToNat, Int.natCast_one, Int.natCast_zero, Int.cast_ofNat_Int]
          rw [← hQ, e]
          exact ⟨trivial, PR.same _ rfl (fun _ => nxv_rn) (fun _ _ _ => nxv_ok) hp hok ht (by simp [Ps.c, hd, sv, nxv, Nx.f]) rfl rfl rfl fun _ h => h⟩
        | some d1 =>
          simp +contextual (maxSteps := 1000000) only [bytesAV_len, h3, go_sem, reduceCtorEq, ↓reduceIte, Nat.reduceAdd, Nat.reduceEqDiff, Nat.reduceLeDiff, Nat.reduceMul, Nat.reduceBEq, Int.reduceBEq, Int.reduceBNe, Int.reduceLT, Int.reduceLE, Int.reduceGT, Int.reduceGE, Int.reduceToNat, Int.natCast_one, Int.natCast_zero, Int.cast_ofNat_Int]
          rw [← hQ, e]
          exact ⟨trivial, PR.same _ rfl (fun _ => nxv_rn) (fun _ _ _ => nxv_ok) hp hok ht (by simp [Ps.c, hd, sv, nxv, Nx.f]) rfl rfl rfl fun _ h => h⟩
      | false =>
        have e : s.x.inside c = (some .inside, { s.x with b := false, da := s.x.da ++ [c] }) := by simp only [Pp.inside, h1, h2, h3, Bool.false_eq_true, if_false]
        have hfit : ((s.x.da.length + 1) * 1 ≤ 140737488355328) = True := by have := hz.da; simp only [eq_iff_iff, iff_true]; omega
        cases hd : s.dt with
        | none =>
          have hd0 := hok.d hd
          have h3' : (s.x.b || decide ((c.toNat : Int) ≥ 128)) = false := by simpa [hd0] using h3
          simp +contextual (maxSteps := 1000000) only [bytesAV_len, h3', hd0, List.length_nil, Bool.or_false, go_sem, reduceCtorEq, ↓reduceIte, Nat.reduceAdd, Nat.reduceEqDiff, Nat.reduceLeDiff, Nat.reduceMul, Nat.reduceBEq, Int.reduceBEq, Int.reduceBNe, Int.reduceLT, Int.reduceLE, Int.reduceGT, Int.reduceGE, Int.reduceToNat, Int.natCast_one, Int.natCast_zero, Int.cast_ofNat_Int]
          rw [← hQ, e]
          obtain ⟨k1, k2⟩ := Ps.newd (n := (γ, 51, 0)) hok (hN _ rfl) { s.x with b := false, da := s.x.da ++ [c] } rfl rfl
          refine ⟨trivial, PR.ret ⟨{ s.x with b := false, da := s.x.da ++ [c] }, s.tt, some (γ, 51, 0), s.ot⟩ rfl (fun _ => nxv_rn) (fun _ _ _ => nxv_ok) hp ht (by simp [Ps.c, hd0, bytesAV, nxv, Nx.f, sv]) k1 fun t h => ?_⟩
          rcases k2 t h with ⟨h, _⟩ | rfl
          · exact ⟨by simp [h], .inl h⟩
          · exact ⟨by simp, .inr (Nat.le_refl _)⟩
        | some d1 =>
          have hdT : d1 ∈ s.toks := by simp [Ps.toks, hd]
          simp +contextual (maxSteps := 1000000) only [bytesAV_len, h3, hfit, go_sem, reduceCtorEq, ↓reduceIte, Nat.reduceAdd, Nat.reduceEqDiff, Nat.reduceLeDiff, Nat.reduceMul, Nat.reduceBEq, Int.reduceBEq, Int.reduceBNe, Int.reduceLT, Int.reduceLE, Int.reduceGT, Int.reduceGE, Int.reduceToNat, Int.natCast_one, Int.natCast_zero, Int.cast_ofNat_Int]
          refine ⟨.inr hdT, ?_⟩
          rw [← hQ, e]
          obtain ⟨k1, k2⟩ := Ps.newd (n := (γ, 51, 0)) hok (hN _ rfl) { s.x with b := false, da := s.x.da ++ [c] } rfl rfl
          refine ⟨trivial, PR.ret ⟨{ s.x with b := false, da := s.x.da ++ [c] }, s.tt, some (γ, 51, 0), s.ot⟩ rfl (fun _ => nxv_rn) (fun _ _ _ => nxv_ok) hp ht (by simp [Ps.c, bytesAV, nxv, Nx.f, sv]) k1 fun t h => ?_⟩
          rcases k2 t h with ⟨h, h'⟩ | rfl
          · exact ⟨.inr ⟨.inr h, fun e => h' (by rw [hd, e])⟩, .inl h⟩
          · exact ⟨.inl rfl, .inr (Nat.le_refl _)⟩
end Go.Proofs.YtgdgfefojfgpaaaDoor
