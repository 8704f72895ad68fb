/- Own work over the kit: abstract memory, its rules, and the walk. -/
import Derived.Test.YtmkaaplbidlmcaaDoorPxRunS
import Derived.Test.YtmkaaplbidlmcaaDoorProg
set_option linter.unusedVariables false
set_option maxRecDepth 100000
namespace Go.Proofs.YtmkaaplbidlmcaaDoor
open Go Go.Px
/- sledge/sledgelaw3.IsaTable -/
def b3 : IC :=
  .seq (.reg [⟨none, (some 25), .newv (.v 0)⟩,
   ⟨none, (some 1), .mov (.c (.s (.b false)))⟩])
  (.seq (.seq (.reg [⟨none, (some 2), .mov (.c (.s (.i .i64 (-2))))⟩])
  (.blk 0 (.loop (.seq (.seq (.reg [⟨none, none, .mov (.v 2)⟩,
    ⟨none, (some 3), .bin .leq (.l 0) (.c (.s (.i .i64 35)))⟩])
   (.cond (.v 3) (.skip)
    (.exit 0)))
   (.seq (.blk 1 (.seq (.reg [⟨none, none, .mov (.v 2)⟩,
    ⟨none, none, .call 4 [(.l 0)]⟩,
    ⟨none, none, .mov (.l 1)⟩,
    ⟨none, none, .ext 2 0⟩,
    ⟨none, none, .ext 2 1⟩,
    ⟨none, (some 11), .mov (.l 3)⟩,
    ⟨none, (some 9), .mov (.l 4)⟩])
   (.seq (.reg [⟨none, none, .mov (.v 2)⟩,
    ⟨none, none, .call 5 [(.l 0)]⟩,
    ⟨none, none, .mov (.l 1)⟩,
    ⟨none, none, .ext 2 0⟩,
    ⟨none, none, .ext 2 1⟩,
    ⟨none, (some 13), .mov (.l 3)⟩,
    ⟨none, (some 12), .mov (.l 4)⟩])
   (.seq (.reg [⟨none, none, .mov (.v 2)⟩,
    ⟨none, none, .call 6 [(.l 0)]⟩,
    ⟨none, none, .mov (.l 1)⟩,
    ⟨none, none, .ext 2 0⟩,
    ⟨none, none, .ext 2 1⟩,
    ⟨none, (some 16), .mov (.l 3)⟩,
    ⟨none, (some 15), .mov (.l 4)⟩])
   (.seq (.reg [⟨none, none, .mov (.v 2)⟩,
    ⟨none, none, .call 7 [(.l 0)]⟩,
    ⟨none, none, .mov (.l 1)⟩,
    ⟨none, none, .ext 2 0⟩,
    ⟨none, none, .ext 2 1⟩,
    ⟨none, (some 19), .mov (.l 3)⟩,
    ⟨none, (some 18), .mov (.l 4)⟩])
   (.seq (.reg [⟨none, (some 10), .mov (.c (.s (.i .i64 1)))⟩])
   (.seq (.reg [⟨none, (some 5), .mov (.c (.s (.s [])))⟩,
    ⟨none, (some 14), .mov (.c (.s (.i .i64 0)))⟩,
    ⟨none, (some 17), .mov (.c (.s (.i .i64 0)))⟩])
   (.seq (.reg [⟨none, (some 20), .mov (.c (.s (.nsl)))⟩])
   (.seq (.seq (.reg [⟨none, none, .mov (.v 2)⟩,
    ⟨none, (some 4), .call 8 [(.l 0)]⟩])
   (.cond (.v 4) (.seq (.dreg 11 [⟨none, none, .call 9 []⟩,
     ⟨none, none, .mov (.v 2)⟩,
     ⟨none, none, .iadS 1 (.l 0) (.l 1)⟩,
     ⟨none, none, .ld none (.l 2)⟩,
     ⟨none, none, .mov (.v 2)⟩,
     ⟨none, none, .call 10 [(.l 4)]⟩,
     ⟨none, none, .mov (.v 2)⟩,
     ⟨none, none, .call 11 [(.l 6)]⟩,
     ⟨none, none, .mov (.v 2)⟩,
     ⟨none, none, .call 12 [(.l 8)]⟩,
     ⟨none, (some 10), .mov (.c (.s (.i .i64 0)))⟩,
     ⟨none, (some 5), .mov (.l 3)⟩,
     ⟨none, (some 14), .mov (.l 5)⟩,
     ⟨none, (some 17), .mov (.l 7)⟩,
     ⟨none, (some 20), .mov (.l 9)⟩])
    (.seq (.reg [⟨none, none, .mov (.v 5)⟩,
     ⟨none, none, .call 13 [(.l 0)]⟩,
     ⟨none, none, .mov (.l 1)⟩,
     ⟨none, none, .ext 2 0⟩,
     ⟨none, none, .ext 2 1⟩,
     ⟨none, (some 7), .mov (.l 3)⟩,
     ⟨none, (some 6), .mov (.l 4)⟩])
    (.seq (.reg [⟨none, none, .mov (.v 6)⟩,
     ⟨none, none, .call 14 [(.l 0)]⟩,
     ⟨none, none, .bin .neq (.l 1) (.c (.s (.i .i64 0)))⟩,
     ⟨none, none, .mov (.l 2)⟩,
     ⟨(some (3, false)), none, .mov (.v 7)⟩,
     ⟨(some (3, false)), none, .mov (.v 2)⟩,
     ⟨(some (3, false)), none, .bin .neq (.l 4) (.l 5)⟩,
     ⟨none, (some 8), .pick (.l 3) (.c (.s (.b true))) (.l 6)⟩])
    (.cond (.v 8) (.seq (.reg [⟨none, (some 1), .mov (.c (.s (.b false)))⟩])
     (.ret))
     (.skip)))))
    (.skip)))
   (.seq (.seq (.reg [⟨none, none, .mov (.v 9)⟩,
    ⟨none, none, .call 14 [(.l 0)]⟩,
    ⟨none, none, .mov (.v 10)⟩,
    ⟨none, none, .bin .neq (.l 1) (.l 2)⟩,
    ⟨none, none, .mov (.l 3)⟩,
    ⟨(some (4, false)), none, .mov (.v 11)⟩,
    ⟨(some (4, false)), none, .mov (.v 5)⟩,
    ⟨(some (4, false)), none, .bin .neq (.l 5) (.l 6)⟩,
    ⟨none, none, .pick (.l 4) (.c (.s (.b true))) (.l 7)⟩,
    ⟨none, none, .mov (.l 8)⟩,
    ⟨(some (9, false)), none, .mov (.v 12)⟩,
    ⟨(some (9, false)), none, .call 14 [(.l 10)]⟩,
    ⟨(some (9, false)), none, .mov (.v 10)⟩,
    ⟨(some (9, false)), none, .bin .neq (.l 11) (.l 12)⟩,
    ⟨none, none, .pick (.l 9) (.c (.s (.b true))) (.l 13)⟩,
    ⟨none, none, .mov (.l 14)⟩,
    ⟨(some (15, false)), none, .mov (.v 13)⟩,
    ⟨(some (15, false)), none, .mov (.v 14)⟩,
    ⟨(some (15, false)), none, .bin .neq (.l 16) (.l 17)⟩,
    ⟨none, none, .pick (.l 15) (.c (.s (.b true))) (.l 18)⟩,
    ⟨none, none, .mov (.l 19)⟩,
    ⟨(some (20, false)), none, .mov (.v 15)⟩,
    ⟨(some (20, false)), none, .call 14 [(.l 21)]⟩,
    ⟨(some (20, false)), none, .mov (.v 10)⟩,
    ⟨(some (20, false)), none, .bin .neq (.l 22) (.l 23)⟩,
    ⟨none, none, .pick (.l 20) (.c (.s (.b true))) (.l 24)⟩,
    ⟨none, none, .mov (.l 25)⟩,
    ⟨(some (26, false)), none, .mov (.v 16)⟩,
    ⟨(some (26, false)), none, .mov (.v 17)⟩,
    ⟨(some (26, false)), none, .bin .neq (.l 27) (.l 28)⟩,
    ⟨none, none, .pick (.l 26) (.c (.s (.b true))) (.l 29)⟩,
    ⟨none, none, .mov (.l 30)⟩,
    ⟨(some (31, false)), none, .mov (.v 18)⟩,
    ⟨(some (31, false)), none, .call 14 [(.l 32)]⟩,
    ⟨(some (31, false)), none, .mov (.v 10)⟩,
    ⟨(some (31, false)), none, .bin .neq (.l 33) (.l 34)⟩,
    ⟨none, none, .pick (.l 31) (.c (.s (.b true))) (.l 35)⟩,
    ⟨none, none, .mov (.l 36)⟩,
    ⟨(some (37, false)), none, .mov (.v 19)⟩,
    ⟨(some (37, false)), none, .mov (.v 20)⟩,
    ⟨(some (37, false)), none, .call 15 [(.l 38), (.l 39)]⟩,
    ⟨(some (37, false)), none, .un .not (.l 40)⟩,
    ⟨none, none, .pick (.l 37) (.c (.s (.b true))) (.l 41)⟩,
    ⟨none, none, .mov (.l 42)⟩,
    ⟨(some (43, false)), none, .mov (.v 2)⟩,
    ⟨(some (43, false)), none, .call 16 [(.l 44)]⟩,
    ⟨(some (43, false)), none, .mov (.v 2)⟩,
    ⟨(some (43, false)), none, .call 17 [(.l 46)]⟩,
    ⟨(some (43, false)), none, .eqb true (.l 45) (.l 47)⟩,
    ⟨none, none, .pick (.l 43) (.c (.s (.b true))) (.l 48)⟩,
    ⟨none, none, .mov (.l 49)⟩,
    ⟨(some (50, false)), none, .mov (.v 2)⟩,
    ⟨(some (50, false)), none, .call 18 [(.l 51)]⟩,
    ⟨(some (50, false)), none, .mov (.v 2)⟩,
    ⟨(some (50, false)), none, .call 19 [(.l 53)]⟩,
    ⟨(some (50, false)), none, .eqb true (.l 52) (.l 54)⟩,
    ⟨none, (some 21), .pick (.l 50) (.c (.s (.b true))) (.l 55)⟩])
   (.cond (.v 21) (.seq (.reg [⟨none, (some 1), .mov (.c (.s (.b false)))⟩])
    (.ret))
    (.skip)))
   (.seq (.reg [⟨none, (some 22), .mov (.c (.s (.i .i64 (-1))))⟩])
   (.blk 2 (.loop (.seq (.seq (.reg [⟨none, none, .mov (.v 22)⟩,
     ⟨none, (some 23), .bin .leq (.l 0) (.c (.s (.i .i64 5)))⟩])
    (.cond (.v 23) (.skip)
     (.exit 2)))
    (.seq (.blk 3 (.seq (.reg [⟨none, none, .mov (.v 2)⟩,
     ⟨none, none, .mov (.v 22)⟩,
     ⟨none, none, .call 20 [(.l 0), (.l 1)]⟩,
     ⟨none, none, .mov (.v 2)⟩,
     ⟨none, none, .mov (.v 22)⟩,
     ⟨none, none, .call 21 [(.l 3), (.l 4)]⟩,
     ⟨none, (some 24), .eqb true (.l 2) (.l 5)⟩])
    (.cond (.v 24) (.seq (.reg [⟨none, (some 1), .mov (.c (.s (.b false)))⟩])
     (.ret))
     (.skip))))
    (.reg [⟨none, none, .mov (.v 22)⟩,
     ⟨none, none, .bin .add (.l 0) (.c (.s (.i .i64 1)))⟩,
     ⟨none, (some 22), .mov (.l 1)⟩]))))))))))))))))
   (.reg [⟨none, none, .mov (.v 2)⟩,
    ⟨none, none, .bin .add (.l 0) (.c (.s (.i .i64 1)))⟩,
    ⟨none, (some 2), .mov (.l 1)⟩]))))))
  (.seq (.reg [⟨none, none, .mksl 1 5 [.s []] [(0, 1, (.c (.s (.s [])))), (1, 1, (.c (.s (.s [65, 68, 68])))), (2, 1, (.c (.s (.s [97, 100])))), (3, 1, (.c (.s (.s [110, 111, 112, 32])))), (4, 1, (.c (.s (.s [46, 99, 111, 100, 101]))))]⟩,
   ⟨none, none, .fad 1 (.v 25)⟩,
   ⟨none, none, .ld none (.l 1)⟩,
   ⟨none, none, .app 1 16 (.l 0) (.l 2)⟩,
   ⟨none, (some 27), .mov (.l 3)⟩])
  (.seq (.seq (.reg [⟨none, (some 26), .mov (.c (.s (.i .i64 0)))⟩])
  (.blk 4 (.loop (.seq (.seq (.reg [⟨none, none, .mov (.v 26)⟩,
    ⟨none, none, .mov (.v 27)⟩,
    ⟨none, none, .len false (.l 1)⟩,
    ⟨none, none, .bin .lss (.l 0) (.l 2)⟩,
    ⟨none, none, .mov (.l 3)⟩,
    ⟨(some (4, true)), none, .mov (.v 26)⟩,
    ⟨(some (4, true)), none, .bin .lss (.l 5) (.c (.s (.i .i64 20)))⟩,
    ⟨none, (some 28), .pick (.l 4) (.l 6) (.c (.s (.b false)))⟩])
   (.cond (.v 28) (.skip)
    (.exit 4)))
   (.seq (.blk 5 (.seq (.reg [⟨none, none, .mov (.v 27)⟩,
    ⟨none, none, .mov (.v 26)⟩,
    ⟨none, none, .iadS 1 (.l 0) (.l 1)⟩,
    ⟨none, none, .ld none (.l 2)⟩,
    ⟨none, none, .call 13 [(.l 3)]⟩,
    ⟨none, none, .mov (.l 4)⟩,
    ⟨none, none, .ext 5 0⟩,
    ⟨none, none, .ext 5 1⟩,
    ⟨none, (some 31), .mov (.l 6)⟩,
    ⟨none, (some 30), .mov (.l 7)⟩])
   (.seq (.dreg 5 [⟨none, none, .call 9 []⟩,
    ⟨none, none, .mov (.v 27)⟩,
    ⟨none, none, .mov (.v 26)⟩,
    ⟨none, none, .iadS 1 (.l 1) (.l 2)⟩,
    ⟨none, none, .ld none (.l 3)⟩,
    ⟨none, none, .call 22 [(.l 0), (.l 4)]⟩,
    ⟨none, (some 29), .mov (.l 5)⟩])
   (.seq (.dreg 35 [⟨none, none, .mov (.v 29)⟩,
    ⟨none, none, .bin .geq (.l 0) (.c (.s (.i .i64 0)))⟩,
    ⟨none, none, .mov (.l 1)⟩,
    ⟨(some (2, true)), none, .mov (.v 30)⟩,
    ⟨(some (2, true)), none, .call 14 [(.l 3)]⟩,
    ⟨(some (2, true)), none, .bin .neq (.l 4) (.c (.s (.i .i64 0)))⟩,
    ⟨(some (2, true)), none, .mov (.l 5)⟩,
    ⟨(some (6, false)), none, .mov (.v 31)⟩,
    ⟨(some (6, false)), none, .mov (.v 29)⟩,
    ⟨(some (6, false)), none, .bin .neq (.l 7) (.l 8)⟩,
    ⟨(some (2, true)), none, .pick (.l 6) (.c (.s (.b true))) (.l 9)⟩,
    ⟨none, none, .pick (.l 2) (.l 10) (.c (.s (.b false)))⟩,
    ⟨none, none, .mov (.l 11)⟩,
    ⟨(some (12, false)), none, .mov (.v 29)⟩,
    ⟨(some (12, false)), none, .bin .lss (.l 13) (.c (.s (.i .i64 0)))⟩,
    ⟨(some (12, false)), none, .mov (.l 14)⟩,
    ⟨(some (15, true)), none, .mov (.v 30)⟩,
    ⟨(some (15, true)), none, .call 14 [(.l 16)]⟩,
    ⟨(some (15, true)), none, .bin .neq (.l 17) (.c (.s (.i .i64 9)))⟩,
    ⟨(some (15, true)), none, .mov (.l 18)⟩,
    ⟨(some (19, false)), none, .mov (.v 31)⟩,
    ⟨(some (19, false)), none, .bin .neq (.l 20) (.c (.s (.i .i64 0)))⟩,
    ⟨(some (15, true)), none, .pick (.l 19) (.c (.s (.b true))) (.l 21)⟩,
    ⟨(some (12, false)), none, .pick (.l 15) (.l 22) (.c (.s (.b false)))⟩,
    ⟨none, none, .pick (.l 12) (.c (.s (.b true))) (.l 23)⟩,
    ⟨none, none, .mov (.l 24)⟩,
    ⟨(some (25, false)), none, .mov (.v 27)⟩,
    ⟨(some (25, false)), none, .mov (.v 26)⟩,
    ⟨(some (25, false)), none, .iadS 1 (.l 26) (.l 27)⟩,
    ⟨(some (25, false)), none, .ld none (.l 28)⟩,
    ⟨(some (25, false)), none, .call 23 [(.l 29)]⟩,
    ⟨(some (25, false)), none, .mov (.v 27)⟩,
    ⟨(some (25, false)), none, .mov (.v 26)⟩,
    ⟨(some (25, false)), none, .iadS 1 (.l 31) (.l 32)⟩,
    ⟨(some (25, false)), none, .ld none (.l 33)⟩,
    ⟨(some (25, false)), none, .call 24 [(.l 34)]⟩,
    ⟨(some (25, false)), none, .eqb true (.l 30) (.l 35)⟩,
    ⟨none, (some 32), .pick (.l 25) (.c (.s (.b true))) (.l 36)⟩])
   (.cond (.v 32) (.seq (.reg [⟨none, (some 1), .mov (.c (.s (.b false)))⟩])
    (.ret))
    (.skip))))))
   (.reg [⟨none, none, .mov (.v 26)⟩,
    ⟨none, none, .bin .add (.l 0) (.c (.s (.i .i64 1)))⟩,
    ⟨none, (some 26), .mov (.l 1)⟩]))))))
  (.seq (.reg [⟨none, none, .call 25 []⟩,
   ⟨none, (some 1), .mov (.l 0)⟩])
  (.ret)))))
def ir3 : IFn := ⟨1, [0, 2, 3, 26, 50, 13, 18, 17, 73, 5, 12, 4, 7, 6, 14, 9, 8, 15, 11, 10, 16, 130, 19, 132, 141, 1, 21, 20, 153, 24, 23, 22, 207], [.tmp 1], b3⟩
theorem fn3 : FnIs Tryd.prog 3 ir3 := ⟨Tryd.f3, [0, 2, 3, 26, 50, 13, 18, 17, 73, 5, 12, 4, 7, 6, 14, 9, 8, 15, 11, 10, 16, 130, 19, 132, 141, 1, 21, 20, 153, 24, 23, 22, 207], Tryd.func3, by kernel_rfl⟩
/- sledge/isa.Name -/
def b4 : IC :=
  .seq (.reg [⟨none, (some 1), .mov (.c (.s (.s [])))⟩,
   ⟨none, (some 2), .mov (.c (.s (.i .i64 0)))⟩])
  (.seq (.seq (.reg [⟨none, none, .mov (.v 0)⟩,
   ⟨none, none, .call 26 [(.l 0)]⟩,
   ⟨none, (some 3), .un .not (.l 1)⟩])
  (.cond (.v 3) (.seq (.reg [⟨none, (some 1), .mov (.c (.s (.s [])))⟩,
    ⟨none, (some 2), .mov (.c (.s (.i .i64 1)))⟩])
   (.ret))
   (.skip)))
  (.seq (.reg [⟨none, none, .call 27 []⟩,
   ⟨none, none, .mov (.v 0)⟩,
   ⟨none, none, .iadS 1 (.l 0) (.l 1)⟩,
   ⟨none, none, .ld none (.l 2)⟩,
   ⟨none, (some 1), .mov (.l 3)⟩,
   ⟨none, (some 2), .mov (.c (.s (.i .i64 0)))⟩])
  (.ret)))
def ir4 : IFn := ⟨1, [0, 2, 3, 6], [.tmp 1, .tmp 2], b4⟩
theorem fn4 : FnIs Tryd.prog 4 ir4 := ⟨Tryd.f4, [0, 2, 3, 6], Tryd.func4, by kernel_rfl⟩
/- sledge/isa.Form -/
def b5 : IC :=
  .seq (.reg [⟨none, (some 1), .mov (.c (.s (.i .i64 0)))⟩,
   ⟨none, (some 2), .mov (.c (.s (.i .i64 0)))⟩])
  (.seq (.seq (.reg [⟨none, none, .mov (.v 0)⟩,
   ⟨none, none, .call 26 [(.l 0)]⟩,
   ⟨none, (some 3), .un .not (.l 1)⟩])
  (.cond (.v 3) (.seq (.reg [⟨none, (some 1), .mov (.c (.s (.i .i64 0)))⟩,
    ⟨none, (some 2), .mov (.c (.s (.i .i64 1)))⟩])
   (.ret))
   (.skip)))
  (.seq (.reg [⟨none, none, .mov (.v 0)⟩,
   ⟨none, none, .call 28 [(.l 0)]⟩,
   ⟨none, (some 1), .mov (.l 1)⟩,
   ⟨none, (some 2), .mov (.c (.s (.i .i64 0)))⟩])
  (.ret)))
def ir5 : IFn := ⟨1, [0, 2, 3, 6], [.tmp 1, .tmp 2], b5⟩
theorem fn5 : FnIs Tryd.prog 5 ir5 := ⟨Tryd.f5, [0, 2, 3, 6], Tryd.func5, by kernel_rfl⟩
/- sledge/isa.Latency -/
def b6 : IC :=
  .seq (.reg [⟨none, (some 1), .mov (.c (.s (.i .i64 0)))⟩,
   ⟨none, (some 2), .mov (.c (.s (.i .i64 0)))⟩])
  (.seq (.seq (.reg [⟨none, none, .mov (.v 0)⟩,
   ⟨none, none, .call 26 [(.l 0)]⟩,
   ⟨none, (some 3), .un .not (.l 1)⟩])
  (.cond (.v 3) (.seq (.reg [⟨none, (some 1), .mov (.c (.s (.i .i64 0)))⟩,
    ⟨none, (some 2), .mov (.c (.s (.i .i64 1)))⟩])
   (.ret))
   (.skip)))
  (.seq (.reg [⟨none, none, .mov (.v 0)⟩,
   ⟨none, none, .call 29 [(.l 0)]⟩,
   ⟨none, (some 1), .mov (.l 1)⟩,
   ⟨none, (some 2), .mov (.c (.s (.i .i64 0)))⟩])
  (.ret)))
def ir6 : IFn := ⟨1, [0, 2, 3, 6], [.tmp 1, .tmp 2], b6⟩
theorem fn6 : FnIs Tryd.prog 6 ir6 := ⟨Tryd.f6, [0, 2, 3, 6], Tryd.func6, by kernel_rfl⟩
/- sledge/isa.Slots -/
def b7 : IC :=
  .seq (.reg [⟨none, (some 3), .newv (.v 0)⟩,
   ⟨none, (some 1), .mov (.c (.s (.nsl)))⟩,
   ⟨none, (some 2), .mov (.c (.s (.i .i64 0)))⟩])
  (.seq (.seq (.reg [⟨none, none, .ld none (.v 3)⟩,
   ⟨none, none, .call 26 [(.l 0)]⟩,
   ⟨none, (some 4), .un .not (.l 1)⟩])
  (.cond (.v 4) (.seq (.reg [⟨none, (some 1), .mov (.c (.s (.nsl)))⟩,
    ⟨none, (some 2), .mov (.c (.s (.i .i64 1)))⟩])
   (.ret))
   (.skip)))
  (.seq (.reg [⟨none, none, .mksl 1 4 [.i .i64 0] [(0, 1, (.c (.s (.i .i64 0)))), (1, 1, (.c (.s (.i .i64 1)))), (2, 1, (.c (.s (.i .i64 2)))), (3, 1, (.c (.s (.i .i64 3))))]⟩,
   ⟨none, none, .mkf 31 [(.v 3)]⟩,
   ⟨none, none, .call 30 [(.l 0), (.l 1)]⟩,
   ⟨none, (some 1), .mov (.l 2)⟩,
   ⟨none, (some 2), .mov (.c (.s (.i .i64 0)))⟩])
  (.ret)))
def ir7 : IFn := ⟨1, [0, 2, 3, 1, 6], [.tmp 1, .tmp 2], b7⟩
theorem fn7 : FnIs Tryd.prog 7 ir7 := ⟨Tryd.f7, [0, 2, 3, 1, 6], Tryd.func7, by kernel_rfl⟩
/- sledge/sledgeref3.Valid -/
def b8 : IC :=
  .seq (.reg [⟨none, (some 1), .mov (.c (.s (.b false)))⟩])
  (.seq (.reg [⟨none, none, .mov (.v 0)⟩,
   ⟨none, none, .call 32 [(.l 0), (.c (.s (.i .i64 0))), (.c (.s (.i .i64 33)))]⟩,
   ⟨none, (some 1), .mov (.l 1)⟩])
  (.ret))
def ir8 : IFn := ⟨1, [0, 2], [.tmp 1], b8⟩
theorem fn8 : FnIs Tryd.prog 8 ir8 := ⟨Tryd.f8, [0, 2], Tryd.func8, by kernel_rfl⟩
/- sledge/sledgeref3.Names -/
def b9 : IC :=
  .seq (.reg [⟨none, (some 0), .mov (.c (.s (.nsl)))⟩])
  (.seq (.reg [⟨none, none, .mksl 1 34 [.s []] [(0, 1, (.c (.s (.s [110, 111, 112])))), (1, 1, (.c (.s (.s [97, 100, 100])))), (2, 1, (.c (.s (.s [115, 117, 98])))), (3, 1, (.c (.s (.s [97, 110, 100])))), (4, 1, (.c (.s (.s [111, 114])))), (5, 1, (.c (.s (.s [120, 111, 114])))), (6, 1, (.c (.s (.s [115, 104, 108])))), (7, 1, (.c (.s (.s [115, 104, 114])))), (8, 1, (.c (.s (.s [115, 97, 114])))), (9, 1, (.c (.s (.s [115, 108, 116])))), (10, 1, (.c (.s (.s [115, 108, 116, 117])))), (11, 1, (.c (.s (.s [101, 113])))), (12, 1, (.c (.s (.s [109, 105, 110])))), (13, 1, (.c (.s (.s [109, 97, 120])))), (14, 1, (.c (.s (.s [109, 117, 108])))), (15, 1, (.c (.s (.s [109, 117, 108, 104])))), (16, 1, (.c (.s (.s [100, 105, 118])))), (17, 1, (.c (.s (.s [114, 101, 109])))), (18, 1, (.c (.s (.s [99, 97, 100, 100])))), (19, 1, (.c (.s (.s [99, 115, 117, 98])))), (20, 1, (.c (.s (.s [99, 109, 117, 108])))), (21, 1, (.c (.s (.s [99, 111, 110, 106])))), (22, 1, (.c (.s (.s [97, 100, 100, 105])))), (23, 1, (.c (.s (.s [108, 105])))), (24, 1, (.c (.s (.s [108, 100])))), (25, 1, (.c (.s (.s [115, 116])))), (26, 1, (.c (.s (.s [105, 110])))), (27, 1, (.c (.s (.s [111, 117, 116])))), (28, 1, (.c (.s (.s [106, 109, 112])))), (29, 1, (.c (.s (.s [98, 122])))), (30, 1, (.c (.s (.s [98, 110, 122])))), (31, 1, (.c (.s (.s [99, 97, 108, 108])))), (32, 1, (.c (.s (.s [114, 101, 116])))), (33, 1, (.c (.s (.s [104, 97, 108, 116]))))]⟩,
   ⟨none, (some 0), .mov (.l 0)⟩])
  (.ret))
def ir9 : IFn := ⟨0, [0], [.tmp 0], b9⟩
theorem fn9 : FnIs Tryd.prog 9 ir9 := ⟨Tryd.f9, [0], Tryd.func9, by kernel_rfl⟩
/- sledge/sledgeref3.Form -/
def b10 : IC :=
  .seq (.reg [⟨none, (some 1), .mov (.c (.s (.i .i64 0)))⟩])
  (.seq (.reg [⟨none, none, .mksl 1 34 [.i .i64 0] [(0, 1, (.c (.s (.i .i64 0)))), (1, 1, (.c (.s (.i .i64 1)))), (2, 1, (.c (.s (.i .i64 1)))), (3, 1, (.c (.s (.i .i64 1)))), (4, 1, (.c (.s (.i .i64 1)))), (5, 1, (.c (.s (.i .i64 1)))), (6, 1, (.c (.s (.i .i64 1)))), (7, 1, (.c (.s (.i .i64 1)))), (8, 1, (.c (.s (.i .i64 1)))), (9, 1, (.c (.s (.i .i64 1)))), (10, 1, (.c (.s (.i .i64 1)))), (11, 1, (.c (.s (.i .i64 1)))), (12, 1, (.c (.s (.i .i64 1)))), (13, 1, (.c (.s (.i .i64 1)))), (14, 1, (.c (.s (.i .i64 1)))), (15, 1, (.c (.s (.i .i64 1)))), (16, 1, (.c (.s (.i .i64 1)))), (17, 1, (.c (.s (.i .i64 1)))), (18, 1, (.c (.s (.i .i64 1)))), (19, 1, (.c (.s (.i .i64 1)))), (20, 1, (.c (.s (.i .i64 1)))), (21, 1, (.c (.s (.i .i64 2)))), (22, 1, (.c (.s (.i .i64 3)))), (23, 1, (.c (.s (.i .i64 4)))), (24, 1, (.c (.s (.i .i64 3)))), (25, 1, (.c (.s (.i .i64 5)))), (26, 1, (.c (.s (.i .i64 6)))), (27, 1, (.c (.s (.i .i64 7)))), (28, 1, (.c (.s (.i .i64 8)))), (29, 1, (.c (.s (.i .i64 9)))), (30, 1, (.c (.s (.i .i64 9)))), (31, 1, (.c (.s (.i .i64 8)))), (32, 1, (.c (.s (.i .i64 0)))), (33, 1, (.c (.s (.i .i64 0))))]⟩,
   ⟨none, none, .mov (.v 0)⟩,
   ⟨none, none, .iadS 1 (.l 0) (.l 1)⟩,
   ⟨none, none, .ld none (.l 2)⟩,
   ⟨none, (some 1), .mov (.l 3)⟩])
  (.ret))
def ir10 : IFn := ⟨1, [0, 2], [.tmp 1], b10⟩
theorem fn10 : FnIs Tryd.prog 10 ir10 := ⟨Tryd.f10, [0, 2], Tryd.func10, by kernel_rfl⟩
/- sledge/sledgeref3.Latency -/
def b11 : IC :=
  .seq (.reg [⟨none, (some 1), .mov (.c (.s (.i .i64 0)))⟩])
  (.seq (.seq (.reg [⟨none, (some 2), .mov (.v 0)⟩])
  (.blk 0 (.seq (.seq (.reg [⟨none, none, .bin .eql (.v 2) (.c (.s (.i .i64 14)))⟩,
   ⟨none, (some 3), .mov (.l 0)⟩])
  (.cond (.v 3) (.skip)
   (.seq (.reg [⟨none, none, .bin .eql (.v 2) (.c (.s (.i .i64 15)))⟩,
    ⟨none, (some 3), .mov (.l 0)⟩])
   (.cond (.v 3) (.skip)
    (.reg [⟨none, none, .bin .eql (.v 2) (.c (.s (.i .i64 26)))⟩,
     ⟨none, (some 3), .mov (.l 0)⟩])))))
  (.cond (.v 3) (.seq (.reg [⟨none, (some 1), .mov (.c (.s (.i .i64 2)))⟩])
   (.ret))
   (.seq (.seq (.reg [⟨none, none, .bin .eql (.v 2) (.c (.s (.i .i64 20)))⟩,
    ⟨none, (some 4), .mov (.l 0)⟩])
   (.cond (.v 4) (.skip)
    (.reg [⟨none, none, .bin .eql (.v 2) (.c (.s (.i .i64 24)))⟩,
     ⟨none, (some 4), .mov (.l 0)⟩])))
   (.cond (.v 4) (.seq (.reg [⟨none, (some 1), .mov (.c (.s (.i .i64 3)))⟩])
    (.ret))
    (.seq (.seq (.reg [⟨none, none, .bin .eql (.v 2) (.c (.s (.i .i64 16)))⟩,
     ⟨none, (some 5), .mov (.l 0)⟩])
    (.cond (.v 5) (.skip)
     (.reg [⟨none, none, .bin .eql (.v 2) (.c (.s (.i .i64 17)))⟩,
      ⟨none, (some 5), .mov (.l 0)⟩])))
    (.cond (.v 5) (.seq (.reg [⟨none, (some 1), .mov (.c (.s (.i .i64 4)))⟩])
     (.ret))
     (.skip)))))))))
  (.seq (.reg [⟨none, (some 1), .mov (.c (.s (.i .i64 1)))⟩])
  (.ret)))
def ir11 : IFn := ⟨1, [0, 2, 3, 4, 8, 11], [.tmp 1], b11⟩
theorem fn11 : FnIs Tryd.prog 11 ir11 := ⟨Tryd.f11, [0, 2, 3, 4, 8, 11], Tryd.func11, by kernel_rfl⟩
/- sledge/sledgeref3.Slots -/
def b12 : IC :=
  .seq (.reg [⟨none, (some 1), .mov (.c (.s (.nsl)))⟩])
  (.seq (.blk 0 (.seq (.reg [⟨none, none, .mov (.v 0)⟩,
   ⟨none, none, .bin .eql (.l 0) (.c (.s (.i .i64 0)))⟩,
   ⟨none, (some 2), .mov (.l 1)⟩])
  (.cond (.v 2) (.seq (.reg [⟨none, none, .mksl 1 4 [.i .i64 0] [(0, 1, (.c (.s (.i .i64 0)))), (1, 1, (.c (.s (.i .i64 1)))), (2, 1, (.c (.s (.i .i64 2)))), (3, 1, (.c (.s (.i .i64 3))))]⟩,
    ⟨none, (some 1), .mov (.l 0)⟩])
   (.ret))
   (.seq (.reg [⟨none, none, .mov (.v 0)⟩,
    ⟨none, none, .bin .eql (.l 0) (.c (.s (.i .i64 18)))⟩,
    ⟨none, none, .mov (.l 1)⟩,
    ⟨(some (2, false)), none, .mov (.v 0)⟩,
    ⟨(some (2, false)), none, .bin .eql (.l 3) (.c (.s (.i .i64 19)))⟩,
    ⟨none, none, .pick (.l 2) (.c (.s (.b true))) (.l 4)⟩,
    ⟨none, none, .mov (.l 5)⟩,
    ⟨(some (6, false)), none, .mov (.v 0)⟩,
    ⟨(some (6, false)), none, .bin .eql (.l 7) (.c (.s (.i .i64 21)))⟩,
    ⟨none, none, .pick (.l 6) (.c (.s (.b true))) (.l 8)⟩,
    ⟨none, (some 3), .mov (.l 9)⟩])
   (.cond (.v 3) (.seq (.reg [⟨none, none, .mksl 1 1 [.i .i64 0] [(0, 1, (.c (.s (.i .i64 1))))]⟩,
     ⟨none, (some 1), .mov (.l 0)⟩])
    (.ret))
    (.seq (.reg [⟨none, none, .mov (.v 0)⟩,
     ⟨none, none, .call 32 [(.l 0), (.c (.s (.i .i64 14))), (.c (.s (.i .i64 17)))]⟩,
     ⟨none, none, .mov (.l 1)⟩,
     ⟨(some (2, false)), none, .mov (.v 0)⟩,
     ⟨(some (2, false)), none, .bin .eql (.l 3) (.c (.s (.i .i64 20)))⟩,
     ⟨none, none, .pick (.l 2) (.c (.s (.b true))) (.l 4)⟩,
     ⟨none, (some 4), .mov (.l 5)⟩])
    (.cond (.v 4) (.seq (.reg [⟨none, none, .mksl 1 1 [.i .i64 0] [(0, 1, (.c (.s (.i .i64 3))))]⟩,
      ⟨none, (some 1), .mov (.l 0)⟩])
     (.ret))
     (.seq (.reg [⟨none, none, .mov (.v 0)⟩,
      ⟨none, none, .call 32 [(.l 0), (.c (.s (.i .i64 24))), (.c (.s (.i .i64 27)))]⟩,
      ⟨none, (some 5), .mov (.l 1)⟩])
     (.cond (.v 5) (.seq (.reg [⟨none, none, .mksl 1 1 [.i .i64 0] [(0, 1, (.c (.s (.i .i64 2))))]⟩,
       ⟨none, (some 1), .mov (.l 0)⟩])
      (.ret))
      (.seq (.reg [⟨none, none, .mov (.v 0)⟩,
       ⟨none, none, .call 17 [(.l 0)]⟩,
       ⟨none, (some 6), .mov (.l 1)⟩])
      (.cond (.v 6) (.seq (.reg [⟨none, none, .mksl 1 1 [.i .i64 0] [(0, 1, (.c (.s (.i .i64 0))))]⟩,
        ⟨none, (some 1), .mov (.l 0)⟩])
       (.ret))
       (.skip))))))))))))
  (.seq (.reg [⟨none, none, .mksl 1 2 [.i .i64 0] [(0, 1, (.c (.s (.i .i64 0)))), (1, 1, (.c (.s (.i .i64 1))))]⟩,
   ⟨none, (some 1), .mov (.l 0)⟩])
  (.ret)))
def ir12 : IFn := ⟨1, [0, 2, 3, 7, 19, 27, 31], [.tmp 1], b12⟩
theorem fn12 : FnIs Tryd.prog 12 ir12 := ⟨Tryd.f12, [0, 2, 3, 7, 19, 27, 31], Tryd.func12, by kernel_rfl⟩
/- sledge/isa.Op -/
def b13 : IC :=
  .seq (.reg [⟨none, (some 1), .mov (.c (.s (.i .i64 0)))⟩,
   ⟨none, (some 2), .mov (.c (.s (.i .i64 0)))⟩])
  (.seq (.reg [⟨none, none, .call 27 []⟩,
   ⟨none, none, .mov (.v 0)⟩,
   ⟨none, none, .call 33 [(.l 0), (.l 1)]⟩,
   ⟨none, (some 3), .mov (.l 2)⟩])
  (.seq (.seq (.reg [⟨none, none, .mov (.v 3)⟩,
   ⟨none, (some 4), .bin .lss (.l 0) (.c (.s (.i .i64 0)))⟩])
  (.cond (.v 4) (.seq (.reg [⟨none, (some 1), .mov (.c (.s (.i .i64 0)))⟩,
    ⟨none, (some 2), .mov (.c (.s (.i .i64 9)))⟩])
   (.ret))
   (.skip)))
  (.seq (.reg [⟨none, none, .mov (.v 3)⟩,
   ⟨none, (some 1), .mov (.l 0)⟩,
   ⟨none, (some 2), .mov (.c (.s (.i .i64 0)))⟩])
  (.ret))))
def ir13 : IFn := ⟨1, [0, 2, 3, 4, 9], [.tmp 1, .tmp 2], b13⟩
theorem fn13 : FnIs Tryd.prog 13 ir13 := ⟨Tryd.f13, [0, 2, 3, 4, 9], Tryd.func13, by kernel_rfl⟩
/- sledge/sledgelaw3.num -/
def b14 : IC :=
  .seq (.reg [⟨none, (some 1), .mov (.c (.s (.i .i64 0)))⟩])
  (.seq (.reg [⟨none, none, .mov (.v 0)⟩,
   ⟨none, (some 1), .mov (.l 0)⟩])
  (.ret))
def ir14 : IFn := ⟨1, [0, 2], [.tmp 1], b14⟩
theorem fn14 : FnIs Tryd.prog 14 ir14 := ⟨Tryd.f14, [0, 2], Tryd.func14, by kernel_rfl⟩
/- sledge/sledgeref0.EqNumbers -/
def b15 : IC :=
  .seq (.reg [⟨none, (some 2), .mov (.c (.s (.b false)))⟩])
  (.seq (.seq (.reg [⟨none, none, .mov (.v 0)⟩,
   ⟨none, none, .len false (.l 0)⟩,
   ⟨none, none, .mov (.v 1)⟩,
   ⟨none, none, .len false (.l 2)⟩,
   ⟨none, (some 3), .bin .neq (.l 1) (.l 3)⟩])
  (.cond (.v 3) (.seq (.reg [⟨none, (some 2), .mov (.c (.s (.b false)))⟩])
   (.ret))
   (.skip)))
  (.seq (.seq (.reg [⟨none, (some 4), .mov (.c (.s (.i .i64 0)))⟩])
  (.blk 0 (.loop (.seq (.seq (.reg [⟨none, none, .mov (.v 4)⟩,
    ⟨none, none, .mov (.v 0)⟩,
    ⟨none, none, .len false (.l 1)⟩,
    ⟨none, (some 5), .bin .lss (.l 0) (.l 2)⟩])
   (.cond (.v 5) (.skip)
    (.exit 0)))
   (.seq (.blk 1 (.seq (.dreg 8 [⟨none, none, .mov (.v 0)⟩,
    ⟨none, none, .mov (.v 4)⟩,
    ⟨none, none, .iadS 1 (.l 0) (.l 1)⟩,
    ⟨none, none, .ld none (.l 2)⟩,
    ⟨none, none, .mov (.v 1)⟩,
    ⟨none, none, .mov (.v 4)⟩,
    ⟨none, none, .iadS 1 (.l 4) (.l 5)⟩,
    ⟨none, none, .ld none (.l 6)⟩,
    ⟨none, (some 6), .bin .neq (.l 3) (.l 7)⟩])
   (.cond (.v 6) (.seq (.reg [⟨none, (some 2), .mov (.c (.s (.b false)))⟩])
    (.ret))
    (.skip))))
   (.reg [⟨none, none, .mov (.v 4)⟩,
    ⟨none, none, .bin .add (.l 0) (.c (.s (.i .i64 1)))⟩,
    ⟨none, (some 4), .mov (.l 1)⟩]))))))
  (.seq (.reg [⟨none, (some 2), .mov (.c (.s (.b true)))⟩])
  (.ret))))
def ir15 : IFn := ⟨2, [0, 1, 4, 10, 5, 14, 25], [.tmp 2], b15⟩
theorem fn15 : FnIs Tryd.prog 15 ir15 := ⟨Tryd.f15, [0, 1, 4, 10, 5, 14, 25], Tryd.func15, by kernel_rfl⟩
/- sledge/isa.Ends -/
def b16 : IC :=
  .seq (.reg [⟨none, (some 1), .mov (.c (.s (.b false)))⟩])
  (.seq (.reg [⟨none, none, .mov (.v 0)⟩,
   ⟨none, none, .bin .geq (.l 0) (.c (.s (.i .i64 28)))⟩,
   ⟨none, none, .mov (.l 1)⟩,
   ⟨(some (2, true)), none, .mov (.v 0)⟩,
   ⟨(some (2, true)), none, .bin .leq (.l 3) (.c (.s (.i .i64 33)))⟩,
   ⟨none, none, .pick (.l 2) (.l 4) (.c (.s (.b false)))⟩,
   ⟨none, (some 1), .mov (.l 5)⟩])
  (.ret))
def ir16 : IFn := ⟨1, [0, 2], [.tmp 1], b16⟩
theorem fn16 : FnIs Tryd.prog 16 ir16 := ⟨Tryd.f16, [0, 2], Tryd.func16, by kernel_rfl⟩
/- sledge/sledgeref3.Ends -/
def b17 : IC :=
  .seq (.reg [⟨none, (some 1), .mov (.c (.s (.b false)))⟩])
  (.seq (.reg [⟨none, none, .mov (.v 0)⟩,
   ⟨none, none, .call 32 [(.l 0), (.c (.s (.i .i64 28))), (.c (.s (.i .i64 33)))]⟩,
   ⟨none, (some 1), .mov (.l 1)⟩])
  (.ret))
def ir17 : IFn := ⟨1, [0, 2], [.tmp 1], b17⟩
theorem fn17 : FnIs Tryd.prog 17 ir17 := ⟨Tryd.f17, [0, 2], Tryd.func17, by kernel_rfl⟩
/- sledge/isa.Effect -/
def b18 : IC :=
  .seq (.reg [⟨none, (some 1), .mov (.c (.s (.b false)))⟩])
  (.seq (.seq (.reg [⟨none, (some 2), .mov (.v 0)⟩])
  (.blk 0 (.seq (.seq (.reg [⟨none, none, .bin .eql (.v 2) (.c (.s (.i .i64 16)))⟩,
   ⟨none, (some 3), .mov (.l 0)⟩])
  (.cond (.v 3) (.skip)
   (.seq (.reg [⟨none, none, .bin .eql (.v 2) (.c (.s (.i .i64 17)))⟩,
    ⟨none, (some 3), .mov (.l 0)⟩])
   (.cond (.v 3) (.skip)
    (.seq (.reg [⟨none, none, .bin .eql (.v 2) (.c (.s (.i .i64 24)))⟩,
     ⟨none, (some 3), .mov (.l 0)⟩])
    (.cond (.v 3) (.skip)
     (.seq (.reg [⟨none, none, .bin .eql (.v 2) (.c (.s (.i .i64 25)))⟩,
      ⟨none, (some 3), .mov (.l 0)⟩])
     (.cond (.v 3) (.skip)
      (.seq (.reg [⟨none, none, .bin .eql (.v 2) (.c (.s (.i .i64 26)))⟩,
       ⟨none, (some 3), .mov (.l 0)⟩])
      (.cond (.v 3) (.skip)
       (.seq (.reg [⟨none, none, .bin .eql (.v 2) (.c (.s (.i .i64 27)))⟩,
        ⟨none, (some 3), .mov (.l 0)⟩])
       (.cond (.v 3) (.skip)
        (.seq (.reg [⟨none, none, .bin .eql (.v 2) (.c (.s (.i .i64 31)))⟩,
         ⟨none, (some 3), .mov (.l 0)⟩])
        (.cond (.v 3) (.skip)
         (.seq (.reg [⟨none, none, .bin .eql (.v 2) (.c (.s (.i .i64 32)))⟩,
          ⟨none, (some 3), .mov (.l 0)⟩])
         (.cond (.v 3) (.skip)
          (.reg [⟨none, none, .bin .eql (.v 2) (.c (.s (.i .i64 33)))⟩,
           ⟨none, (some 3), .mov (.l 0)⟩])))))))))))))))))
  (.cond (.v 3) (.seq (.reg [⟨none, (some 1), .mov (.c (.s (.b true)))⟩])
   (.ret))
   (.skip)))))
  (.seq (.reg [⟨none, (some 1), .mov (.c (.s (.b false)))⟩])
  (.ret)))
def ir18 : IFn := ⟨1, [0, 2, 3, 4], [.tmp 1], b18⟩
theorem fn18 : FnIs Tryd.prog 18 ir18 := ⟨Tryd.f18, [0, 2, 3, 4], Tryd.func18, by kernel_rfl⟩
/- sledge/sledgeref3.Effect -/
def b19 : IC :=
  .seq (.reg [⟨none, (some 1), .mov (.c (.s (.b false)))⟩])
  (.seq (.reg [⟨none, none, .mov (.v 0)⟩,
   ⟨none, none, .bin .eql (.l 0) (.c (.s (.i .i64 16)))⟩,
   ⟨none, none, .mov (.l 1)⟩,
   ⟨(some (2, false)), none, .mov (.v 0)⟩,
   ⟨(some (2, false)), none, .bin .eql (.l 3) (.c (.s (.i .i64 17)))⟩,
   ⟨none, none, .pick (.l 2) (.c (.s (.b true))) (.l 4)⟩,
   ⟨none, none, .mov (.l 5)⟩,
   ⟨(some (6, false)), none, .mov (.v 0)⟩,
   ⟨(some (6, false)), none, .call 32 [(.l 7), (.c (.s (.i .i64 24))), (.c (.s (.i .i64 27)))]⟩,
   ⟨none, none, .pick (.l 6) (.c (.s (.b true))) (.l 8)⟩,
   ⟨none, none, .mov (.l 9)⟩,
   ⟨(some (10, false)), none, .mov (.v 0)⟩,
   ⟨(some (10, false)), none, .call 32 [(.l 11), (.c (.s (.i .i64 31))), (.c (.s (.i .i64 33)))]⟩,
   ⟨none, none, .pick (.l 10) (.c (.s (.b true))) (.l 12)⟩,
   ⟨none, (some 1), .mov (.l 13)⟩])
  (.ret))
def ir19 : IFn := ⟨1, [0, 2], [.tmp 1], b19⟩
theorem fn19 : FnIs Tryd.prog 19 ir19 := ⟨Tryd.f19, [0, 2], Tryd.func19, by kernel_rfl⟩
/- sledge/isa.May -/
def b20 : IC :=
  .seq (.reg [⟨none, (some 2), .mov (.c (.s (.b false)))⟩])
  (.seq (.seq (.reg [⟨none, none, .mov (.v 0)⟩,
   ⟨none, none, .call 26 [(.l 0)]⟩,
   ⟨none, none, .un .not (.l 1)⟩,
   ⟨none, none, .mov (.l 2)⟩,
   ⟨(some (3, false)), none, .mov (.v 1)⟩,
   ⟨(some (3, false)), none, .bin .lss (.l 4) (.c (.s (.i .i64 0)))⟩,
   ⟨none, none, .pick (.l 3) (.c (.s (.b true))) (.l 5)⟩,
   ⟨none, none, .mov (.l 6)⟩,
   ⟨(some (7, false)), none, .mov (.v 1)⟩,
   ⟨(some (7, false)), none, .bin .gtr (.l 8) (.c (.s (.i .i64 3)))⟩,
   ⟨none, (some 3), .pick (.l 7) (.c (.s (.b true))) (.l 9)⟩])
  (.cond (.v 3) (.seq (.reg [⟨none, (some 2), .mov (.c (.s (.b false)))⟩])
   (.ret))
   (.skip)))
  (.seq (.seq (.reg [⟨none, (some 4), .mov (.v 0)⟩])
  (.blk 0 (.seq (.reg [⟨none, none, .bin .eql (.v 4) (.c (.s (.i .i64 0)))⟩,
   ⟨none, (some 5), .mov (.l 0)⟩])
  (.cond (.v 5) (.seq (.reg [⟨none, (some 2), .mov (.c (.s (.b true)))⟩])
   (.ret))
   (.seq (.seq (.reg [⟨none, none, .bin .eql (.v 4) (.c (.s (.i .i64 14)))⟩,
    ⟨none, (some 6), .mov (.l 0)⟩])
   (.cond (.v 6) (.skip)
    (.seq (.reg [⟨none, none, .bin .eql (.v 4) (.c (.s (.i .i64 15)))⟩,
     ⟨none, (some 6), .mov (.l 0)⟩])
    (.cond (.v 6) (.skip)
     (.seq (.reg [⟨none, none, .bin .eql (.v 4) (.c (.s (.i .i64 16)))⟩,
      ⟨none, (some 6), .mov (.l 0)⟩])
     (.cond (.v 6) (.skip)
      (.seq (.reg [⟨none, none, .bin .eql (.v 4) (.c (.s (.i .i64 17)))⟩,
       ⟨none, (some 6), .mov (.l 0)⟩])
      (.cond (.v 6) (.skip)
       (.reg [⟨none, none, .bin .eql (.v 4) (.c (.s (.i .i64 20)))⟩,
        ⟨none, (some 6), .mov (.l 0)⟩])))))))))
   (.cond (.v 6) (.seq (.reg [⟨none, none, .mov (.v 1)⟩,
     ⟨none, none, .bin .eql (.l 0) (.c (.s (.i .i64 3)))⟩,
     ⟨none, (some 2), .mov (.l 1)⟩])
    (.ret))
    (.seq (.seq (.reg [⟨none, none, .bin .eql (.v 4) (.c (.s (.i .i64 18)))⟩,
     ⟨none, (some 7), .mov (.l 0)⟩])
    (.cond (.v 7) (.skip)
     (.seq (.reg [⟨none, none, .bin .eql (.v 4) (.c (.s (.i .i64 19)))⟩,
      ⟨none, (some 7), .mov (.l 0)⟩])
     (.cond (.v 7) (.skip)
      (.reg [⟨none, none, .bin .eql (.v 4) (.c (.s (.i .i64 21)))⟩,
       ⟨none, (some 7), .mov (.l 0)⟩])))))
    (.cond (.v 7) (.seq (.reg [⟨none, none, .mov (.v 1)⟩,
      ⟨none, none, .bin .eql (.l 0) (.c (.s (.i .i64 1)))⟩,
      ⟨none, (some 2), .mov (.l 1)⟩])
     (.ret))
     (.seq (.seq (.reg [⟨none, none, .bin .eql (.v 4) (.c (.s (.i .i64 24)))⟩,
      ⟨none, (some 8), .mov (.l 0)⟩])
     (.cond (.v 8) (.skip)
      (.seq (.reg [⟨none, none, .bin .eql (.v 4) (.c (.s (.i .i64 25)))⟩,
       ⟨none, (some 8), .mov (.l 0)⟩])
      (.cond (.v 8) (.skip)
       (.seq (.reg [⟨none, none, .bin .eql (.v 4) (.c (.s (.i .i64 26)))⟩,
        ⟨none, (some 8), .mov (.l 0)⟩])
       (.cond (.v 8) (.skip)
        (.reg [⟨none, none, .bin .eql (.v 4) (.c (.s (.i .i64 27)))⟩,
         ⟨none, (some 8), .mov (.l 0)⟩])))))))
     (.cond (.v 8) (.seq (.reg [⟨none, none, .mov (.v 1)⟩,
       ⟨none, none, .bin .eql (.l 0) (.c (.s (.i .i64 2)))⟩,
       ⟨none, (some 2), .mov (.l 1)⟩])
      (.ret))
      (.skip)))))))))))
  (.seq (.reg [⟨none, none, .mov (.v 1)⟩,
   ⟨none, none, .bin .eql (.l 0) (.c (.s (.i .i64 0)))⟩,
   ⟨none, none, .mov (.l 1)⟩,
   ⟨(some (2, false)), none, .mov (.v 1)⟩,
   ⟨(some (2, false)), none, .bin .eql (.l 3) (.c (.s (.i .i64 1)))⟩,
   ⟨(some (2, false)), none, .mov (.l 4)⟩,
   ⟨(some (5, true)), none, .mov (.v 0)⟩,
   ⟨(some (5, true)), none, .call 16 [(.l 6)]⟩,
   ⟨(some (5, true)), none, .un .not (.l 7)⟩,
   ⟨(some (2, false)), none, .pick (.l 5) (.l 8) (.c (.s (.b false)))⟩,
   ⟨none, none, .pick (.l 2) (.c (.s (.b true))) (.l 9)⟩,
   ⟨none, (some 2), .mov (.l 10)⟩])
  (.ret))))
def ir20 : IFn := ⟨2, [0, 1, 4, 15, 16, 17, 19, 27, 33], [.tmp 2], b20⟩
theorem fn20 : FnIs Tryd.prog 20 ir20 := ⟨Tryd.f20, [0, 1, 4, 15, 16, 17, 19, 27, 33], Tryd.func20, by kernel_rfl⟩
/- sledge/sledgeref3.May -/
def b21 : IC :=
  .seq (.reg [⟨none, (some 2), .mov (.c (.s (.b false)))⟩])
  (.seq (.reg [⟨none, none, .mov (.v 0)⟩,
   ⟨none, none, .call 8 [(.l 0)]⟩,
   ⟨none, none, .mov (.l 1)⟩,
   ⟨(some (2, true)), none, .mov (.v 0)⟩,
   ⟨(some (2, true)), none, .call 12 [(.l 3)]⟩,
   ⟨(some (2, true)), none, .mov (.v 1)⟩,
   ⟨(some (2, true)), none, .call 34 [(.l 4), (.l 5)]⟩,
   ⟨(some (2, true)), none, .bin .geq (.l 6) (.c (.s (.i .i64 0)))⟩,
   ⟨none, none, .pick (.l 2) (.l 7) (.c (.s (.b false)))⟩,
   ⟨none, (some 2), .mov (.l 8)⟩])
  (.ret))
def ir21 : IFn := ⟨2, [0, 1, 4], [.tmp 2], b21⟩
theorem fn21 : FnIs Tryd.prog 21 ir21 := ⟨Tryd.f21, [0, 1, 4], Tryd.func21, by kernel_rfl⟩
/- sledge/sledgeref0.At -/
def b22 : IC :=
  .seq (.reg [⟨none, (some 2), .mov (.c (.s (.i .i64 0)))⟩])
  (.seq (.seq (.reg [⟨none, (some 3), .mov (.c (.s (.i .i64 0)))⟩])
  (.blk 0 (.loop (.seq (.seq (.reg [⟨none, none, .mov (.v 3)⟩,
    ⟨none, none, .mov (.v 0)⟩,
    ⟨none, none, .len false (.l 1)⟩,
    ⟨none, (some 4), .bin .lss (.l 0) (.l 2)⟩])
   (.cond (.v 4) (.skip)
    (.exit 0)))
   (.seq (.blk 1 (.seq (.reg [⟨none, none, .mov (.v 0)⟩,
    ⟨none, none, .mov (.v 3)⟩,
    ⟨none, none, .iadS 1 (.l 0) (.l 1)⟩,
    ⟨none, none, .ld none (.l 2)⟩,
    ⟨none, none, .mov (.v 1)⟩,
    ⟨none, (some 5), .bin .eql (.l 3) (.l 4)⟩])
   (.cond (.v 5) (.seq (.reg [⟨none, none, .mov (.v 3)⟩,
     ⟨none, (some 2), .mov (.l 0)⟩])
    (.ret))
    (.skip))))
   (.reg [⟨none, none, .mov (.v 3)⟩,
    ⟨none, none, .bin .add (.l 0) (.c (.s (.i .i64 1)))⟩,
    ⟨none, (some 3), .mov (.l 1)⟩]))))))
  (.seq (.reg [⟨none, (some 2), .mov (.c (.s (.i .i64 (-1))))⟩])
  (.ret)))
def ir22 : IFn := ⟨2, [0, 1, 4, 5, 9, 17], [.tmp 2], b22⟩
theorem fn22 : FnIs Tryd.prog 22 ir22 := ⟨Tryd.f22, [0, 1, 4, 5, 9, 17], Tryd.func22, by kernel_rfl⟩
/- sledge/isa.Name2 -/
def b23 : IC :=
  .seq (.reg [⟨none, (some 1), .mov (.c (.s (.b false)))⟩])
  (.seq (.seq (.reg [⟨none, none, .mov (.v 0)⟩,
   ⟨none, none, .bin .eql (.l 0) (.c (.s (.s [])))⟩,
   ⟨none, none, .mov (.l 1)⟩,
   ⟨(some (2, false)), none, .mov (.v 0)⟩,
   ⟨(some (2, false)), none, .len true (.l 3)⟩,
   ⟨(some (2, false)), none, .bin .gtr (.l 4) (.c (.s (.i .i64 12)))⟩,
   ⟨none, none, .pick (.l 2) (.c (.s (.b true))) (.l 5)⟩,
   ⟨none, none, .mov (.l 6)⟩,
   ⟨(some (7, false)), none, .mov (.v 0)⟩,
   ⟨(some (7, false)), none, .ixS (.l 8) (.c (.s (.i .i64 0)))⟩,
   ⟨(some (7, false)), none, .call 35 [(.l 9)]⟩,
   ⟨(some (7, false)), none, .un .not (.l 10)⟩,
   ⟨none, (some 2), .pick (.l 7) (.c (.s (.b true))) (.l 11)⟩])
  (.cond (.v 2) (.seq (.reg [⟨none, (some 1), .mov (.c (.s (.b false)))⟩])
   (.ret))
   (.skip)))
  (.seq (.seq (.reg [⟨none, none, .mov (.v 0)⟩,
   ⟨none, (some 4), .len true (.l 0)⟩,
   ⟨none, (some 3), .mov (.c (.s (.i .i64 0)))⟩])
  (.blk 0 (.loop (.seq (.reg [⟨none, (some 5), .bin .lss (.v 3) (.v 4)⟩])
   (.seq (.cond (.v 5) (.skip)
    (.exit 0))
   (.seq (.blk 1 (.seq (.reg [⟨none, none, .mov (.v 3)⟩,
    ⟨none, (some 6), .mov (.l 0)⟩])
   (.seq (.reg [⟨none, none, .mov (.v 0)⟩,
    ⟨none, none, .mov (.v 6)⟩,
    ⟨none, none, .ixS (.l 0) (.l 1)⟩,
    ⟨none, (some 7), .mov (.l 2)⟩])
   (.seq (.reg [⟨none, none, .mov (.v 7)⟩,
    ⟨none, none, .call 35 [(.l 0)]⟩,
    ⟨none, none, .un .not (.l 1)⟩,
    ⟨none, none, .mov (.l 2)⟩,
    ⟨(some (3, true)), none, .mov (.v 7)⟩,
    ⟨(some (3, true)), none, .bin .lss (.l 4) (.c (.s (.i .u8 48)))⟩,
    ⟨(some (3, true)), none, .mov (.l 5)⟩,
    ⟨(some (6, false)), none, .mov (.v 7)⟩,
    ⟨(some (6, false)), none, .bin .gtr (.l 7) (.c (.s (.i .u8 57)))⟩,
    ⟨(some (3, true)), none, .pick (.l 6) (.c (.s (.b true))) (.l 8)⟩,
    ⟨none, (some 8), .pick (.l 3) (.l 9) (.c (.s (.b false)))⟩])
   (.cond (.v 8) (.seq (.reg [⟨none, (some 1), .mov (.c (.s (.b false)))⟩])
    (.ret))
    (.skip))))))
   (.reg [⟨none, none, .bin .add (.v 3) (.c (.s (.i .i64 1)))⟩,
    ⟨none, (some 3), .mov (.l 0)⟩])))))))
  (.seq (.reg [⟨none, (some 1), .mov (.c (.s (.b true)))⟩])
  (.ret))))
def ir23 : IFn := ⟨1, [0, 2, 17, 20, 19, 21, 3, 4, 36], [.tmp 1], b23⟩
theorem fn23 : FnIs Tryd.prog 23 ir23 := ⟨Tryd.f23, [0, 2, 17, 20, 19, 21, 3, 4, 36], Tryd.func23, by kernel_rfl⟩
/- sledge/sledgeref3.Name -/
def b24 : IC :=
  .seq (.reg [⟨none, (some 1), .mov (.c (.s (.b false)))⟩])
  (.seq (.seq (.reg [⟨none, none, .mov (.v 0)⟩,
   ⟨none, none, .len true (.l 0)⟩,
   ⟨none, none, .bin .eql (.l 1) (.c (.s (.i .i64 0)))⟩,
   ⟨none, none, .mov (.l 2)⟩,
   ⟨(some (3, false)), none, .mov (.v 0)⟩,
   ⟨(some (3, false)), none, .len true (.l 4)⟩,
   ⟨(some (3, false)), none, .bin .gtr (.l 5) (.c (.s (.i .i64 12)))⟩,
   ⟨none, none, .pick (.l 3) (.c (.s (.b true))) (.l 6)⟩,
   ⟨none, none, .mov (.l 7)⟩,
   ⟨(some (8, false)), none, .mov (.v 0)⟩,
   ⟨(some (8, false)), none, .ixS (.l 9) (.c (.s (.i .i64 0)))⟩,
   ⟨(some (8, false)), none, .bin .geq (.l 10) (.c (.s (.i .u8 48)))⟩,
   ⟨(some (8, false)), none, .mov (.l 11)⟩,
   ⟨(some (12, true)), none, .mov (.v 0)⟩,
   ⟨(some (12, true)), none, .ixS (.l 13) (.c (.s (.i .i64 0)))⟩,
   ⟨(some (12, true)), none, .bin .leq (.l 14) (.c (.s (.i .u8 57)))⟩,
   ⟨(some (8, false)), none, .pick (.l 12) (.l 15) (.c (.s (.b false)))⟩,
   ⟨none, (some 2), .pick (.l 8) (.c (.s (.b true))) (.l 16)⟩])
  (.cond (.v 2) (.seq (.reg [⟨none, (some 1), .mov (.c (.s (.b false)))⟩])
   (.ret))
   (.skip)))
  (.seq (.seq (.reg [⟨none, (some 3), .mov (.c (.s (.i .i64 0)))⟩])
  (.blk 0 (.loop (.seq (.seq (.reg [⟨none, none, .mov (.v 3)⟩,
    ⟨none, none, .mov (.v 0)⟩,
    ⟨none, none, .len true (.l 1)⟩,
    ⟨none, (some 4), .bin .lss (.l 0) (.l 2)⟩])
   (.cond (.v 4) (.skip)
    (.exit 0)))
   (.seq (.blk 1 (.seq (.reg [⟨none, none, .mov (.v 0)⟩,
    ⟨none, none, .mov (.v 3)⟩,
    ⟨none, none, .ixS (.l 0) (.l 1)⟩,
    ⟨none, none, .bin .geq (.l 2) (.c (.s (.i .u8 97)))⟩,
    ⟨none, none, .mov (.l 3)⟩,
    ⟨(some (4, true)), none, .mov (.v 0)⟩,
    ⟨(some (4, true)), none, .mov (.v 3)⟩,
    ⟨(some (4, true)), none, .ixS (.l 5) (.l 6)⟩,
    ⟨(some (4, true)), none, .bin .leq (.l 7) (.c (.s (.i .u8 122)))⟩,
    ⟨none, none, .pick (.l 4) (.l 8) (.c (.s (.b false)))⟩,
    ⟨none, none, .mov (.l 9)⟩,
    ⟨(some (10, false)), none, .mov (.v 0)⟩,
    ⟨(some (10, false)), none, .mov (.v 3)⟩,
    ⟨(some (10, false)), none, .ixS (.l 11) (.l 12)⟩,
    ⟨(some (10, false)), none, .bin .eql (.l 13) (.c (.s (.i .u8 95)))⟩,
    ⟨none, none, .pick (.l 10) (.c (.s (.b true))) (.l 14)⟩,
    ⟨none, none, .mov (.l 15)⟩,
    ⟨(some (16, false)), none, .mov (.v 0)⟩,
    ⟨(some (16, false)), none, .mov (.v 3)⟩,
    ⟨(some (16, false)), none, .ixS (.l 17) (.l 18)⟩,
    ⟨(some (16, false)), none, .bin .geq (.l 19) (.c (.s (.i .u8 48)))⟩,
    ⟨(some (16, false)), none, .mov (.l 20)⟩,
    ⟨(some (21, true)), none, .mov (.v 0)⟩,
    ⟨(some (21, true)), none, .mov (.v 3)⟩,
    ⟨(some (21, true)), none, .ixS (.l 22) (.l 23)⟩,
    ⟨(some (21, true)), none, .bin .leq (.l 24) (.c (.s (.i .u8 57)))⟩,
    ⟨(some (16, false)), none, .pick (.l 21) (.l 25) (.c (.s (.b false)))⟩,
    ⟨none, none, .pick (.l 16) (.c (.s (.b true))) (.l 26)⟩,
    ⟨none, (some 5), .un .not (.l 27)⟩])
   (.cond (.v 5) (.seq (.reg [⟨none, (some 1), .mov (.c (.s (.b false)))⟩])
    (.ret))
    (.skip))))
   (.reg [⟨none, none, .mov (.v 3)⟩,
    ⟨none, none, .bin .add (.l 0) (.c (.s (.i .i64 1)))⟩,
    ⟨none, (some 3), .mov (.l 1)⟩]))))))
  (.seq (.reg [⟨none, (some 1), .mov (.c (.s (.b true)))⟩])
  (.ret))))
def ir24 : IFn := ⟨1, [0, 2, 21, 3, 25, 56], [.tmp 1], b24⟩
theorem fn24 : FnIs Tryd.prog 24 ir24 := ⟨Tryd.f24, [0, 2, 21, 3, 25, 56], Tryd.func24, by kernel_rfl⟩
/- sledge/sledgelaw3.wakes -/
def b25 : IC :=
  .seq (.reg [⟨none, (some 0), .mov (.c (.s (.b false)))⟩])
  (.seq (.reg [⟨none, none, .mkagg [.i .i64 0, .i .i64 0, .i .i64 0, .i .i64 0, .i .i64 0, .s []] [(0, 1, (.c (.s (.i .i64 25)))), (2, 1, (.c (.s (.i .i64 2)))), (3, 1, (.c (.s (.i .i64 1)))), (4, 1, (.c (.s (.i .i64 4))))]⟩,
   ⟨none, none, .call 36 [(.l 0)]⟩,
   ⟨none, none, .mov (.l 1)⟩,
   ⟨none, none, .ext 2 0⟩,
   ⟨none, none, .ext 2 1⟩,
   ⟨none, (some 3), .mov (.l 3)⟩,
   ⟨none, (some 1), .mov (.l 4)⟩])
  (.seq (.reg [⟨none, none, .call 13 [(.c (.s (.s [104, 97, 108, 116])))]⟩,
   ⟨none, none, .mov (.l 0)⟩,
   ⟨none, none, .ext 1 0⟩,
   ⟨none, none, .ext 1 1⟩,
   ⟨none, (some 4), .mov (.l 2)⟩,
   ⟨none, (some 2), .mov (.l 3)⟩])
  (.seq (.reg [⟨none, none, .mov (.v 1)⟩,
   ⟨none, none, .call 14 [(.l 0)]⟩,
   ⟨none, none, .bin .eql (.l 1) (.c (.s (.i .i64 0)))⟩,
   ⟨none, none, .mov (.l 2)⟩,
   ⟨(some (3, true)), none, .mov (.v 2)⟩,
   ⟨(some (3, true)), none, .call 14 [(.l 4)]⟩,
   ⟨(some (3, true)), none, .bin .eql (.l 5) (.c (.s (.i .i64 0)))⟩,
   ⟨none, none, .pick (.l 3) (.l 6) (.c (.s (.b false)))⟩,
   ⟨none, none, .mov (.l 7)⟩,
   ⟨(some (8, true)), none, .mov (.v 3)⟩,
   ⟨(some (8, true)), none, .bin .eql (.l 9) (.c (.s (.s [115, 116, 32, 114, 49, 44, 32, 114, 50, 44, 32, 52])))⟩,
   ⟨none, none, .pick (.l 8) (.l 10) (.c (.s (.b false)))⟩,
   ⟨none, none, .mov (.l 11)⟩,
   ⟨(some (12, true)), none, .mov (.v 4)⟩,
   ⟨(some (12, true)), none, .bin .eql (.l 13) (.c (.s (.i .i64 33)))⟩,
   ⟨none, none, .pick (.l 12) (.l 14) (.c (.s (.b false)))⟩,
   ⟨none, (some 0), .mov (.l 15)⟩])
  (.ret))))
def ir25 : IFn := ⟨0, [0, 2, 4, 1, 3], [.tmp 0], b25⟩
theorem fn25 : FnIs Tryd.prog 25 ir25 := ⟨Tryd.f25, [0, 2, 4, 1, 3], Tryd.func25, by kernel_rfl⟩
/- sledge/isa.Is -/
def b26 : IC :=
  .seq (.reg [⟨none, (some 1), .mov (.c (.s (.b false)))⟩])
  (.seq (.reg [⟨none, none, .mov (.v 0)⟩,
   ⟨none, none, .bin .geq (.l 0) (.c (.s (.i .i64 0)))⟩,
   ⟨none, none, .mov (.l 1)⟩,
   ⟨(some (2, true)), none, .mov (.v 0)⟩,
   ⟨(some (2, true)), none, .bin .leq (.l 3) (.c (.s (.i .i64 33)))⟩,
   ⟨none, none, .pick (.l 2) (.l 4) (.c (.s (.b false)))⟩,
   ⟨none, (some 1), .mov (.l 5)⟩])
  (.ret))
def ir26 : IFn := ⟨1, [0, 2], [.tmp 1], b26⟩
theorem fn26 : FnIs Tryd.prog 26 ir26 := ⟨Tryd.f26, [0, 2], Tryd.func26, by kernel_rfl⟩
/- sledge/isa.names -/
def b27 : IC :=
  .seq (.reg [⟨none, (some 0), .mov (.c (.s (.nsl)))⟩])
  (.seq (.reg [⟨none, none, .call 37 [(.c (.s (.s [110, 111, 112, 32, 97, 100, 100, 32, 115, 117, 98, 32, 97, 110, 100, 32, 111, 114, 32, 120, 111, 114, 32, 115, 104, 108, 32, 115, 104, 114, 32, 115, 97, 114, 32, 115, 108, 116, 32, 115, 108, 116, 117, 32, 101, 113, 32, 109, 105, 110, 32, 109, 97, 120, 32, 109, 117, 108, 32, 109, 117, 108, 104, 32, 100, 105, 118, 32, 114, 101, 109, 32, 99, 97, 100, 100, 32, 99, 115, 117, 98, 32, 99, 109, 117, 108, 32, 99, 111, 110, 106, 32, 97, 100, 100, 105, 32, 108, 105, 32, 108, 100, 32, 115, 116, 32, 105, 110, 32, 111, 117, 116, 32, 106, 109, 112, 32, 98, 122, 32, 98, 110, 122, 32, 99, 97, 108, 108, 32, 114, 101, 116, 32, 104, 97, 108, 116])))]⟩,
   ⟨none, (some 0), .mov (.l 0)⟩])
  (.ret))
def ir27 : IFn := ⟨0, [0], [.tmp 0], b27⟩
theorem fn27 : FnIs Tryd.prog 27 ir27 := ⟨Tryd.f27, [0], Tryd.func27, by kernel_rfl⟩
/- sledge/isa.Shape -/
def b28 : IC :=
  .seq (.reg [⟨none, (some 1), .mov (.c (.s (.i .i64 0)))⟩])
  (.seq (.seq (.reg [⟨none, (some 2), .mov (.v 0)⟩])
  (.blk 0 (.seq (.reg [⟨none, none, .bin .eql (.v 2) (.c (.s (.i .i64 21)))⟩,
   ⟨none, (some 3), .mov (.l 0)⟩])
  (.cond (.v 3) (.seq (.reg [⟨none, (some 1), .mov (.c (.s (.i .i64 2)))⟩])
   (.ret))
   (.seq (.seq (.reg [⟨none, none, .bin .eql (.v 2) (.c (.s (.i .i64 22)))⟩,
    ⟨none, (some 4), .mov (.l 0)⟩])
   (.cond (.v 4) (.skip)
    (.reg [⟨none, none, .bin .eql (.v 2) (.c (.s (.i .i64 24)))⟩,
     ⟨none, (some 4), .mov (.l 0)⟩])))
   (.cond (.v 4) (.seq (.reg [⟨none, (some 1), .mov (.c (.s (.i .i64 3)))⟩])
    (.ret))
    (.seq (.reg [⟨none, none, .bin .eql (.v 2) (.c (.s (.i .i64 23)))⟩,
     ⟨none, (some 5), .mov (.l 0)⟩])
    (.cond (.v 5) (.seq (.reg [⟨none, (some 1), .mov (.c (.s (.i .i64 4)))⟩])
     (.ret))
     (.seq (.reg [⟨none, none, .bin .eql (.v 2) (.c (.s (.i .i64 25)))⟩,
      ⟨none, (some 6), .mov (.l 0)⟩])
     (.cond (.v 6) (.seq (.reg [⟨none, (some 1), .mov (.c (.s (.i .i64 5)))⟩])
      (.ret))
      (.seq (.reg [⟨none, none, .bin .eql (.v 2) (.c (.s (.i .i64 26)))⟩,
       ⟨none, (some 7), .mov (.l 0)⟩])
      (.cond (.v 7) (.seq (.reg [⟨none, (some 1), .mov (.c (.s (.i .i64 6)))⟩])
       (.ret))
       (.seq (.reg [⟨none, none, .bin .eql (.v 2) (.c (.s (.i .i64 27)))⟩,
        ⟨none, (some 8), .mov (.l 0)⟩])
       (.cond (.v 8) (.seq (.reg [⟨none, (some 1), .mov (.c (.s (.i .i64 7)))⟩])
        (.ret))
        (.seq (.seq (.reg [⟨none, none, .bin .eql (.v 2) (.c (.s (.i .i64 28)))⟩,
         ⟨none, (some 9), .mov (.l 0)⟩])
        (.cond (.v 9) (.skip)
         (.reg [⟨none, none, .bin .eql (.v 2) (.c (.s (.i .i64 31)))⟩,
          ⟨none, (some 9), .mov (.l 0)⟩])))
        (.cond (.v 9) (.seq (.reg [⟨none, (some 1), .mov (.c (.s (.i .i64 8)))⟩])
         (.ret))
         (.seq (.seq (.reg [⟨none, none, .bin .eql (.v 2) (.c (.s (.i .i64 29)))⟩,
          ⟨none, (some 10), .mov (.l 0)⟩])
         (.cond (.v 10) (.skip)
          (.reg [⟨none, none, .bin .eql (.v 2) (.c (.s (.i .i64 30)))⟩,
           ⟨none, (some 10), .mov (.l 0)⟩])))
         (.cond (.v 10) (.seq (.reg [⟨none, (some 1), .mov (.c (.s (.i .i64 9)))⟩])
          (.ret))
          (.seq (.seq (.reg [⟨none, none, .bin .eql (.v 2) (.c (.s (.i .i64 0)))⟩,
           ⟨none, (some 11), .mov (.l 0)⟩])
          (.cond (.v 11) (.skip)
           (.seq (.reg [⟨none, none, .bin .eql (.v 2) (.c (.s (.i .i64 32)))⟩,
            ⟨none, (some 11), .mov (.l 0)⟩])
           (.cond (.v 11) (.skip)
            (.reg [⟨none, none, .bin .eql (.v 2) (.c (.s (.i .i64 33)))⟩,
             ⟨none, (some 11), .mov (.l 0)⟩])))))
          (.cond (.v 11) (.seq (.reg [⟨none, (some 1), .mov (.c (.s (.i .i64 0)))⟩])
           (.ret))
           (.skip)))))))))))))))))))))
  (.seq (.reg [⟨none, (some 1), .mov (.c (.s (.i .i64 1)))⟩])
  (.ret)))
def ir28 : IFn := ⟨1, [0, 2, 3, 4, 6, 9, 11, 13, 15, 17, 20, 23], [.tmp 1], b28⟩
theorem fn28 : FnIs Tryd.prog 28 ir28 := ⟨Tryd.f28, [0, 2, 3, 4, 6, 9, 11, 13, 15, 17, 20, 23], Tryd.func28, by kernel_rfl⟩
/- sledge/isa.Late -/
def b29 : IC :=
  .seq (.reg [⟨none, (some 1), .mov (.c (.s (.i .i64 0)))⟩])
  (.seq (.seq (.reg [⟨none, (some 2), .mov (.v 0)⟩])
  (.blk 0 (.seq (.seq (.reg [⟨none, none, .bin .eql (.v 2) (.c (.s (.i .i64 14)))⟩,
   ⟨none, (some 3), .mov (.l 0)⟩])
  (.cond (.v 3) (.skip)
   (.seq (.reg [⟨none, none, .bin .eql (.v 2) (.c (.s (.i .i64 15)))⟩,
    ⟨none, (some 3), .mov (.l 0)⟩])
   (.cond (.v 3) (.skip)
    (.reg [⟨none, none, .bin .eql (.v 2) (.c (.s (.i .i64 26)))⟩,
     ⟨none, (some 3), .mov (.l 0)⟩])))))
  (.cond (.v 3) (.seq (.reg [⟨none, (some 1), .mov (.c (.s (.i .i64 2)))⟩])
   (.ret))
   (.seq (.seq (.reg [⟨none, none, .bin .eql (.v 2) (.c (.s (.i .i64 20)))⟩,
    ⟨none, (some 4), .mov (.l 0)⟩])
   (.cond (.v 4) (.skip)
    (.reg [⟨none, none, .bin .eql (.v 2) (.c (.s (.i .i64 24)))⟩,
     ⟨none, (some 4), .mov (.l 0)⟩])))
   (.cond (.v 4) (.seq (.reg [⟨none, (some 1), .mov (.c (.s (.i .i64 3)))⟩])
    (.ret))
    (.seq (.seq (.reg [⟨none, none, .bin .eql (.v 2) (.c (.s (.i .i64 16)))⟩,
     ⟨none, (some 5), .mov (.l 0)⟩])
    (.cond (.v 5) (.skip)
     (.reg [⟨none, none, .bin .eql (.v 2) (.c (.s (.i .i64 17)))⟩,
      ⟨none, (some 5), .mov (.l 0)⟩])))
    (.cond (.v 5) (.seq (.reg [⟨none, (some 1), .mov (.c (.s (.i .i64 4)))⟩])
     (.ret))
     (.skip)))))))))
  (.seq (.reg [⟨none, (some 1), .mov (.c (.s (.i .i64 1)))⟩])
  (.ret)))
def ir29 : IFn := ⟨1, [0, 2, 3, 4, 8, 11], [.tmp 1], b29⟩
theorem fn29 : FnIs Tryd.prog 29 ir29 := ⟨Tryd.f29, [0, 2, 3, 4, 8, 11], Tryd.func29, by kernel_rfl⟩
/- slices.DeleteFunc[[]int,int] -/
def b30 : IC :=
  .seq (.reg [⟨none, (some 2), .mov (.c (.s (.nsl)))⟩])
  (.seq (.reg [⟨none, none, .mov (.v 0)⟩,
   ⟨none, none, .mov (.v 1)⟩,
   ⟨none, none, .call 38 [(.l 0), (.l 1)]⟩,
   ⟨none, (some 3), .mov (.l 2)⟩])
  (.seq (.seq (.reg [⟨none, none, .mov (.v 3)⟩,
   ⟨none, (some 4), .bin .eql (.l 0) (.c (.s (.i .i64 (-1))))⟩])
  (.cond (.v 4) (.seq (.reg [⟨none, none, .mov (.v 0)⟩,
    ⟨none, (some 2), .mov (.l 0)⟩])
   (.ret))
   (.skip)))
  (.seq (.seq (.reg [⟨none, none, .mov (.v 3)⟩,
   ⟨none, none, .bin .add (.l 0) (.c (.s (.i .i64 1)))⟩,
   ⟨none, (some 5), .mov (.l 1)⟩])
  (.blk 0 (.loop (.seq (.seq (.reg [⟨none, none, .mov (.v 5)⟩,
    ⟨none, none, .mov (.v 0)⟩,
    ⟨none, none, .len false (.l 1)⟩,
    ⟨none, (some 6), .bin .lss (.l 0) (.l 2)⟩])
   (.cond (.v 6) (.skip)
    (.exit 0)))
   (.seq (.blk 1 (.seq (.reg [⟨none, none, .mov (.v 0)⟩,
    ⟨none, none, .mov (.v 5)⟩,
    ⟨none, none, .iadS 1 (.l 0) (.l 1)⟩,
    ⟨none, none, .ld none (.l 2)⟩,
    ⟨none, (some 7), .mov (.l 3)⟩])
   (.seq (.reg [⟨none, none, .mov (.v 1)⟩,
    ⟨none, none, .mov (.v 7)⟩,
    ⟨none, none, .cald (.l 0) [(.l 1)]⟩,
    ⟨none, (some 8), .un .not (.l 2)⟩])
   (.cond (.v 8) (.seq (.reg [⟨none, none, .mov (.v 0)⟩,
     ⟨none, none, .mov (.v 3)⟩,
     ⟨none, none, .mov (.v 7)⟩,
     ⟨none, none, .iadS 1 (.l 0) (.l 1)⟩,
     ⟨none, none, .st 1 (.l 3) (.l 2)⟩])
    (.reg [⟨none, none, .mov (.v 3)⟩,
     ⟨none, none, .bin .add (.l 0) (.c (.s (.i .i64 1)))⟩,
     ⟨none, (some 3), .mov (.l 1)⟩]))
    (.skip)))))
   (.reg [⟨none, none, .mov (.v 5)⟩,
    ⟨none, none, .bin .add (.l 0) (.c (.s (.i .i64 1)))⟩,
    ⟨none, (some 5), .mov (.l 1)⟩]))))))
  (.seq (.reg [⟨none, none, .mov (.v 0)⟩,
   ⟨none, none, .mov (.v 3)⟩,
   ⟨none, none, .ssl 1 (.l 0) (some (.l 1)) none none⟩,
   ⟨none, none, .clr 1 [.i .i64 0] (.l 2)⟩])
  (.seq (.reg [⟨none, none, .mov (.v 0)⟩,
   ⟨none, none, .mov (.v 3)⟩,
   ⟨none, none, .ssl 1 (.l 0) none (some (.l 1)) none⟩,
   ⟨none, (some 2), .mov (.l 2)⟩])
  (.ret))))))
def ir30 : IFn := ⟨2, [0, 1, 4, 5, 12, 6, 19, 7, 29], [.tmp 2], b30⟩
theorem fn30 : FnIs Tryd.prog 30 ir30 := ⟨Tryd.f30, [0, 1, 4, 5, 12, 6, 19, 7, 29], Tryd.func30, by kernel_rfl⟩
/- sledge/isa.Slots$1 -/
def b31 : IC :=
  .seq (.reg [⟨none, (some 2), .mov (.c (.s (.b false)))⟩])
  (.seq (.reg [⟨none, none, .ld none (.v 1)⟩,
   ⟨none, none, .mov (.v 0)⟩,
   ⟨none, none, .call 20 [(.l 0), (.l 1)]⟩,
   ⟨none, none, .un .not (.l 2)⟩,
   ⟨none, (some 2), .mov (.l 3)⟩])
  (.ret))
def ir31 : IFn := ⟨2, [0, 1, 3], [.tmp 2], b31⟩
theorem fn31 : FnIs Tryd.prog 31 ir31 := ⟨Tryd.f31, [0, 1, 3], Tryd.func31, by kernel_rfl⟩
/- sledge/sledgeref0.Between -/
def b32 : IC :=
  .seq (.reg [⟨none, (some 3), .mov (.c (.s (.b false)))⟩])
  (.seq (.reg [⟨none, none, .mov (.v 0)⟩,
   ⟨none, none, .mov (.v 1)⟩,
   ⟨none, none, .bin .geq (.l 0) (.l 1)⟩,
   ⟨none, none, .mov (.l 2)⟩,
   ⟨(some (3, true)), none, .mov (.v 0)⟩,
   ⟨(some (3, true)), none, .mov (.v 2)⟩,
   ⟨(some (3, true)), none, .bin .leq (.l 4) (.l 5)⟩,
   ⟨none, none, .pick (.l 3) (.l 6) (.c (.s (.b false)))⟩,
   ⟨none, (some 3), .mov (.l 7)⟩])
  (.ret))
def ir32 : IFn := ⟨3, [0, 1, 2, 6], [.tmp 3], b32⟩
theorem fn32 : FnIs Tryd.prog 32 ir32 := ⟨Tryd.f32, [0, 1, 2, 6], Tryd.func32, by kernel_rfl⟩
/- slices.Index[[]string,string] -/
def b33 : IC :=
  .seq (.reg [⟨none, (some 2), .mov (.c (.s (.i .i64 0)))⟩])
  (.seq (.seq (.reg [⟨none, none, .mov (.v 0)⟩,
   ⟨none, (some 4), .len false (.l 0)⟩,
   ⟨none, (some 3), .mov (.c (.s (.i .i64 0)))⟩])
  (.blk 0 (.loop (.seq (.reg [⟨none, (some 5), .bin .lss (.v 3) (.v 4)⟩])
   (.seq (.cond (.v 5) (.skip)
    (.exit 0))
   (.seq (.blk 1 (.seq (.reg [⟨none, none, .mov (.v 3)⟩,
    ⟨none, (some 6), .mov (.l 0)⟩])
   (.seq (.reg [⟨none, none, .mov (.v 1)⟩,
    ⟨none, none, .mov (.v 0)⟩,
    ⟨none, none, .mov (.v 6)⟩,
    ⟨none, none, .iadS 1 (.l 1) (.l 2)⟩,
    ⟨none, none, .ld none (.l 3)⟩,
    ⟨none, (some 7), .bin .eql (.l 0) (.l 4)⟩])
   (.cond (.v 7) (.seq (.reg [⟨none, none, .mov (.v 6)⟩,
     ⟨none, (some 2), .mov (.l 0)⟩])
    (.ret))
    (.skip)))))
   (.reg [⟨none, none, .bin .add (.v 3) (.c (.s (.i .i64 1)))⟩,
    ⟨none, (some 3), .mov (.l 0)⟩])))))))
  (.seq (.reg [⟨none, (some 2), .mov (.c (.s (.i .i64 (-1))))⟩])
  (.ret)))
def ir33 : IFn := ⟨2, [0, 1, 4, 8, 7, 9, 5, 16], [.tmp 2], b33⟩
theorem fn33 : FnIs Tryd.prog 33 ir33 := ⟨Tryd.f33, [0, 1, 4, 8, 7, 9, 5, 16], Tryd.func33, by kernel_rfl⟩
/- sledge/sledgeref0.In -/
def b34 : IC :=
  .seq (.reg [⟨none, (some 2), .mov (.c (.s (.i .i64 0)))⟩])
  (.seq (.seq (.reg [⟨none, (some 3), .mov (.c (.s (.i .i64 0)))⟩])
  (.blk 0 (.loop (.seq (.seq (.reg [⟨none, none, .mov (.v 3)⟩,
    ⟨none, none, .mov (.v 0)⟩,
    ⟨none, none, .len false (.l 1)⟩,
    ⟨none, (some 4), .bin .lss (.l 0) (.l 2)⟩])
   (.cond (.v 4) (.skip)
    (.exit 0)))
   (.seq (.blk 1 (.seq (.reg [⟨none, none, .mov (.v 0)⟩,
    ⟨none, none, .mov (.v 3)⟩,
    ⟨none, none, .iadS 1 (.l 0) (.l 1)⟩,
    ⟨none, none, .ld none (.l 2)⟩,
    ⟨none, none, .mov (.v 1)⟩,
    ⟨none, (some 5), .bin .eql (.l 3) (.l 4)⟩])
   (.cond (.v 5) (.seq (.reg [⟨none, none, .mov (.v 3)⟩,
     ⟨none, (some 2), .mov (.l 0)⟩])
    (.ret))
    (.skip))))
   (.reg [⟨none, none, .mov (.v 3)⟩,
    ⟨none, none, .bin .add (.l 0) (.c (.s (.i .i64 1)))⟩,
    ⟨none, (some 3), .mov (.l 1)⟩]))))))
  (.seq (.reg [⟨none, (some 2), .mov (.c (.s (.i .i64 (-1))))⟩])
  (.ret)))
def ir34 : IFn := ⟨2, [0, 1, 4, 5, 9, 17], [.tmp 2], b34⟩
theorem fn34 : FnIs Tryd.prog 34 ir34 := ⟨Tryd.f34, [0, 1, 4, 5, 9, 17], Tryd.func34, by kernel_rfl⟩
/- sledge/isa.letter -/
def b35 : IC :=
  .seq (.reg [⟨none, (some 1), .mov (.c (.s (.b false)))⟩])
  (.seq (.reg [⟨none, none, .mov (.v 0)⟩,
   ⟨none, none, .bin .eql (.l 0) (.c (.s (.i .u8 95)))⟩,
   ⟨none, none, .mov (.l 1)⟩,
   ⟨(some (2, false)), none, .mov (.v 0)⟩,
   ⟨(some (2, false)), none, .bin .geq (.l 3) (.c (.s (.i .u8 97)))⟩,
   ⟨(some (2, false)), none, .mov (.l 4)⟩,
   ⟨(some (5, true)), none, .mov (.v 0)⟩,
   ⟨(some (5, true)), none, .bin .leq (.l 6) (.c (.s (.i .u8 122)))⟩,
   ⟨(some (2, false)), none, .pick (.l 5) (.l 7) (.c (.s (.b false)))⟩,
   ⟨none, none, .pick (.l 2) (.c (.s (.b true))) (.l 8)⟩,
   ⟨none, (some 1), .mov (.l 9)⟩])
  (.ret))
def ir35 : IFn := ⟨1, [0, 2], [.tmp 1], b35⟩
theorem fn35 : FnIs Tryd.prog 35 ir35 := ⟨Tryd.f35, [0, 2], Tryd.func35, by kernel_rfl⟩
/- sledge/isa.Text -/
def b36 : IC :=
  .seq (.reg [⟨none, (some 3), .newv (.v 0)⟩,
   ⟨none, (some 1), .mov (.c (.s (.s [])))⟩,
   ⟨none, (some 2), .mov (.c (.s (.i .i64 0)))⟩])
  (.seq (.seq (.reg [⟨none, none, .ld (some 6) (.v 3)⟩,
   ⟨none, none, .call 39 [(.l 0)]⟩,
   ⟨none, (some 4), .un .not (.l 1)⟩])
  (.cond (.v 4) (.seq (.reg [⟨none, (some 1), .mov (.c (.s (.s [])))⟩,
    ⟨none, (some 2), .mov (.c (.s (.i .i64 1)))⟩])
   (.ret))
   (.skip)))
  (.seq (.reg [⟨none, none, .fad 0 (.v 3)⟩,
   ⟨none, none, .ld none (.l 0)⟩,
   ⟨none, none, .call 28 [(.l 1)]⟩,
   ⟨none, (some 7), .mov (.l 2)⟩])
  (.seq (.reg [⟨none, (some 5), .newv (.c (.s (.nsl)))⟩])
  (.seq (.reg [⟨none, none, .mkf 40 [(.v 5)]⟩,
   ⟨none, (some 6), .mov (.l 0)⟩])
  (.seq (.reg [⟨none, none, .mov (.v 6)⟩,
   ⟨none, none, .mov (.v 7)⟩,
   ⟨none, none, .bin .eql (.l 1) (.c (.s (.i .i64 5)))⟩,
   ⟨none, none, .fad 3 (.v 3)⟩,
   ⟨none, none, .ld none (.l 3)⟩,
   ⟨none, none, .cald (.l 0) [(.l 2), (.l 4)]⟩])
  (.seq (.dreg 5 [⟨none, none, .mov (.v 6)⟩,
   ⟨none, none, .mov (.v 7)⟩,
   ⟨none, none, .call 42 [(.l 1)]⟩,
   ⟨none, none, .fad 1 (.v 3)⟩,
   ⟨none, none, .ld none (.l 3)⟩,
   ⟨none, none, .cald (.l 0) [(.l 2), (.l 4)]⟩])
  (.seq (.dreg 5 [⟨none, none, .mov (.v 6)⟩,
   ⟨none, none, .mov (.v 7)⟩,
   ⟨none, none, .call 43 [(.l 1)]⟩,
   ⟨none, none, .fad 2 (.v 3)⟩,
   ⟨none, none, .ld none (.l 3)⟩,
   ⟨none, none, .cald (.l 0) [(.l 2), (.l 4)]⟩])
  (.seq (.reg [⟨none, none, .mov (.v 6)⟩,
   ⟨none, none, .mov (.v 7)⟩,
   ⟨none, none, .bin .eql (.l 1) (.c (.s (.i .i64 1)))⟩,
   ⟨none, none, .fad 3 (.v 3)⟩,
   ⟨none, none, .ld none (.l 3)⟩,
   ⟨none, none, .cald (.l 0) [(.l 2), (.l 4)]⟩])
  (.seq (.seq (.reg [⟨none, none, .mov (.v 7)⟩,
   ⟨none, none, .call 44 [(.l 0)]⟩,
   ⟨none, (some 8), .bin .gtr (.l 1) (.c (.s (.i .i64 0)))⟩])
  (.cond (.v 8) (.dreg 4 [⟨none, none, .ld none (.v 5)⟩,
    ⟨none, none, .ld (some 6) (.v 3)⟩,
    ⟨none, none, .call 45 [(.l 1)]⟩,
    ⟨none, none, .mksl 1 1 [.s []] [(0, 1, (.l 2))]⟩,
    ⟨none, none, .app 1 16 (.l 0) (.l 3)⟩,
    ⟨none, none, .st 1 (.v 5) (.l 4)⟩])
   (.skip)))
  (.seq (.dreg 3 [⟨none, none, .call 27 []⟩,
   ⟨none, none, .fad 0 (.v 3)⟩,
   ⟨none, none, .ld none (.l 1)⟩,
   ⟨none, none, .iadS 1 (.l 0) (.l 2)⟩,
   ⟨none, none, .ld none (.l 3)⟩,
   ⟨none, (some 10), .mov (.l 4)⟩])
  (.seq (.seq (.reg [⟨none, none, .ld none (.v 5)⟩,
   ⟨none, none, .len false (.l 0)⟩,
   ⟨none, (some 9), .bin .gtr (.l 1) (.c (.s (.i .i64 0)))⟩])
  (.cond (.v 9) (.reg [⟨none, none, .mov (.v 10)⟩,
    ⟨none, none, .ld none (.v 5)⟩,
    ⟨none, none, .call 46 [(.l 1), (.c (.s (.s [44, 32])))]⟩,
    ⟨none, none, .bin .add (.c (.s (.s [32]))) (.l 2)⟩,
    ⟨none, none, .bin .add (.l 0) (.l 3)⟩,
    ⟨none, (some 10), .mov (.l 4)⟩])
   (.skip)))
  (.seq (.reg [⟨none, none, .mov (.v 10)⟩,
   ⟨none, (some 1), .mov (.l 0)⟩,
   ⟨none, (some 2), .mov (.c (.s (.i .i64 0)))⟩])
  (.ret)))))))))))))
def ir36 : IFn := ⟨1, [0, 2, 3, 1, 10, 5, 6, 4, 41, 54, 7], [.tmp 1, .tmp 2], b36⟩
theorem fn36 : FnIs Tryd.prog 36 ir36 := ⟨Tryd.f36, [0, 2, 3, 1, 10, 5, 6, 4, 41, 54, 7], Tryd.func36, by kernel_rfl⟩
/- slices.IndexFunc[[]int,int] -/
def b38 : IC :=
  .seq (.reg [⟨none, (some 2), .mov (.c (.s (.i .i64 0)))⟩])
  (.seq (.seq (.reg [⟨none, none, .mov (.v 0)⟩,
   ⟨none, (some 4), .len false (.l 0)⟩,
   ⟨none, (some 3), .mov (.c (.s (.i .i64 0)))⟩])
  (.blk 0 (.loop (.seq (.reg [⟨none, (some 5), .bin .lss (.v 3) (.v 4)⟩])
   (.seq (.cond (.v 5) (.skip)
    (.exit 0))
   (.seq (.blk 1 (.seq (.reg [⟨none, none, .mov (.v 3)⟩,
    ⟨none, (some 6), .mov (.l 0)⟩])
   (.seq (.reg [⟨none, none, .mov (.v 1)⟩,
    ⟨none, none, .mov (.v 0)⟩,
    ⟨none, none, .mov (.v 6)⟩,
    ⟨none, none, .iadS 1 (.l 1) (.l 2)⟩,
    ⟨none, none, .ld none (.l 3)⟩,
    ⟨none, (some 7), .cald (.l 0) [(.l 4)]⟩])
   (.cond (.v 7) (.seq (.reg [⟨none, none, .mov (.v 6)⟩,
     ⟨none, (some 2), .mov (.l 0)⟩])
    (.ret))
    (.skip)))))
   (.reg [⟨none, none, .bin .add (.v 3) (.c (.s (.i .i64 1)))⟩,
    ⟨none, (some 3), .mov (.l 0)⟩])))))))
  (.seq (.reg [⟨none, (some 2), .mov (.c (.s (.i .i64 (-1))))⟩])
  (.ret)))
def ir38 : IFn := ⟨2, [0, 1, 4, 8, 7, 9, 5, 16], [.tmp 2], b38⟩
theorem fn38 : FnIs Tryd.prog 38 ir38 := ⟨Tryd.f38, [0, 1, 4, 8, 7, 9, 5, 16], Tryd.func38, by kernel_rfl⟩
/- sledge/isa.IsIns -/
def b39 : IC :=
  .seq (.reg [⟨none, (some 2), .newv (.v 0)⟩,
   ⟨none, (some 1), .mov (.c (.s (.b false)))⟩])
  (.seq (.seq (.reg [⟨none, none, .fad 0 (.v 2)⟩,
   ⟨none, none, .ld none (.l 0)⟩,
   ⟨none, none, .call 26 [(.l 1)]⟩,
   ⟨none, (some 3), .un .not (.l 2)⟩])
  (.cond (.v 3) (.seq (.reg [⟨none, (some 1), .mov (.c (.s (.b false)))⟩])
   (.ret))
   (.skip)))
  (.seq (.reg [⟨none, none, .fad 0 (.v 2)⟩,
   ⟨none, none, .ld none (.l 0)⟩,
   ⟨none, none, .call 28 [(.l 1)]⟩,
   ⟨none, (some 4), .mov (.l 2)⟩])
  (.seq (.dreg 22 [⟨none, none, .mov (.v 4)⟩,
   ⟨none, none, .call 42 [(.l 0)]⟩,
   ⟨none, none, .fad 1 (.v 2)⟩,
   ⟨none, none, .ld none (.l 2)⟩,
   ⟨none, none, .call 49 [(.l 1), (.l 3)]⟩,
   ⟨none, none, .mov (.l 4)⟩,
   ⟨(some (5, true)), none, .mov (.v 4)⟩,
   ⟨(some (5, true)), none, .call 43 [(.l 6)]⟩,
   ⟨(some (5, true)), none, .fad 2 (.v 2)⟩,
   ⟨(some (5, true)), none, .ld none (.l 8)⟩,
   ⟨(some (5, true)), none, .call 49 [(.l 7), (.l 9)]⟩,
   ⟨none, none, .pick (.l 5) (.l 10) (.c (.s (.b false)))⟩,
   ⟨none, none, .mov (.l 11)⟩,
   ⟨(some (12, true)), none, .mov (.v 4)⟩,
   ⟨(some (12, true)), none, .call 50 [(.l 13)]⟩,
   ⟨(some (12, true)), none, .fad 3 (.v 2)⟩,
   ⟨(some (12, true)), none, .ld none (.l 15)⟩,
   ⟨(some (12, true)), none, .call 49 [(.l 14), (.l 16)]⟩,
   ⟨none, none, .pick (.l 12) (.l 17) (.c (.s (.b false)))⟩,
   ⟨none, none, .mov (.l 18)⟩,
   ⟨(some (19, true)), none, .ld (some 6) (.v 2)⟩,
   ⟨(some (19, true)), none, .mov (.v 4)⟩,
   ⟨(some (19, true)), none, .call 51 [(.l 20), (.l 21)]⟩,
   ⟨none, none, .pick (.l 19) (.l 22) (.c (.s (.b false)))⟩,
   ⟨none, (some 1), .mov (.l 23)⟩])
  (.ret))))
def ir39 : IFn := ⟨1, [0, 2, 1, 7, 3], [.tmp 1], b39⟩
theorem fn39 : FnIs Tryd.prog 39 ir39 := ⟨Tryd.f39, [0, 2, 1, 7, 3], Tryd.func39, by kernel_rfl⟩
/- sledge/isa.Text$1 -/
def b40 : IC :=
  .seq (.reg [⟨none, (some 3), .mov (.v 0)⟩])
  (.cond (.v 3) (.dreg 5 [⟨none, none, .ld none (.v 2)⟩,
    ⟨none, none, .mov (.v 1)⟩,
    ⟨none, none, .call 41 [(.l 1)]⟩,
    ⟨none, none, .bin .add (.c (.s (.s [114]))) (.l 2)⟩,
    ⟨none, none, .mksl 1 1 [.s []] [(0, 1, (.l 3))]⟩,
    ⟨none, none, .app 1 16 (.l 0) (.l 4)⟩,
    ⟨none, none, .st 1 (.v 2) (.l 5)⟩])
   (.skip))
def ir40 : IFn := ⟨3, [0, 1, 2, 5], [], b40⟩
theorem fn40 : FnIs Tryd.prog 40 ir40 := ⟨Tryd.f40, [0, 1, 2, 5], Tryd.func40, by kernel_rfl⟩
/- sledge/isa.HasD -/
def b42 : IC :=
  .seq (.reg [⟨none, (some 1), .mov (.c (.s (.b false)))⟩])
  (.seq (.reg [⟨none, none, .mov (.v 0)⟩,
   ⟨none, none, .bin .geq (.l 0) (.c (.s (.i .i64 1)))⟩,
   ⟨none, none, .mov (.l 1)⟩,
   ⟨(some (2, true)), none, .mov (.v 0)⟩,
   ⟨(some (2, true)), none, .bin .leq (.l 3) (.c (.s (.i .i64 4)))⟩,
   ⟨none, none, .pick (.l 2) (.l 4) (.c (.s (.b false)))⟩,
   ⟨none, none, .mov (.l 5)⟩,
   ⟨(some (6, false)), none, .mov (.v 0)⟩,
   ⟨(some (6, false)), none, .bin .eql (.l 7) (.c (.s (.i .i64 6)))⟩,
   ⟨none, none, .pick (.l 6) (.c (.s (.b true))) (.l 8)⟩,
   ⟨none, (some 1), .mov (.l 9)⟩])
  (.ret))
def ir42 : IFn := ⟨1, [0, 2], [.tmp 1], b42⟩
theorem fn42 : FnIs Tryd.prog 42 ir42 := ⟨Tryd.f42, [0, 2], Tryd.func42, by kernel_rfl⟩
/- sledge/isa.HasA -/
def b43 : IC :=
  .seq (.reg [⟨none, (some 1), .mov (.c (.s (.b false)))⟩])
  (.seq (.seq (.reg [⟨none, (some 2), .mov (.v 0)⟩])
  (.blk 0 (.seq (.seq (.reg [⟨none, none, .bin .eql (.v 2) (.c (.s (.i .i64 1)))⟩,
   ⟨none, (some 3), .mov (.l 0)⟩])
  (.cond (.v 3) (.skip)
   (.seq (.reg [⟨none, none, .bin .eql (.v 2) (.c (.s (.i .i64 2)))⟩,
    ⟨none, (some 3), .mov (.l 0)⟩])
   (.cond (.v 3) (.skip)
    (.seq (.reg [⟨none, none, .bin .eql (.v 2) (.c (.s (.i .i64 3)))⟩,
     ⟨none, (some 3), .mov (.l 0)⟩])
    (.cond (.v 3) (.skip)
     (.seq (.reg [⟨none, none, .bin .eql (.v 2) (.c (.s (.i .i64 5)))⟩,
      ⟨none, (some 3), .mov (.l 0)⟩])
     (.cond (.v 3) (.skip)
      (.seq (.reg [⟨none, none, .bin .eql (.v 2) (.c (.s (.i .i64 7)))⟩,
       ⟨none, (some 3), .mov (.l 0)⟩])
      (.cond (.v 3) (.skip)
       (.reg [⟨none, none, .bin .eql (.v 2) (.c (.s (.i .i64 9)))⟩,
        ⟨none, (some 3), .mov (.l 0)⟩])))))))))))
  (.cond (.v 3) (.seq (.reg [⟨none, (some 1), .mov (.c (.s (.b true)))⟩])
   (.ret))
   (.skip)))))
  (.seq (.reg [⟨none, (some 1), .mov (.c (.s (.b false)))⟩])
  (.ret)))
def ir43 : IFn := ⟨1, [0, 2, 3, 4], [.tmp 1], b43⟩
theorem fn43 : FnIs Tryd.prog 43 ir43 := ⟨Tryd.f43, [0, 2, 3, 4], Tryd.func43, by kernel_rfl⟩
/- sledge/isa.Bits -/
def b44 : IC :=
  .seq (.reg [⟨none, (some 1), .mov (.c (.s (.i .i64 0)))⟩])
  (.seq (.seq (.reg [⟨none, (some 2), .mov (.v 0)⟩])
  (.blk 0 (.seq (.seq (.reg [⟨none, none, .bin .eql (.v 2) (.c (.s (.i .i64 3)))⟩,
   ⟨none, (some 3), .mov (.l 0)⟩])
  (.cond (.v 3) (.skip)
   (.seq (.reg [⟨none, none, .bin .eql (.v 2) (.c (.s (.i .i64 5)))⟩,
    ⟨none, (some 3), .mov (.l 0)⟩])
   (.cond (.v 3) (.skip)
    (.reg [⟨none, none, .bin .eql (.v 2) (.c (.s (.i .i64 9)))⟩,
     ⟨none, (some 3), .mov (.l 0)⟩])))))
  (.cond (.v 3) (.seq (.reg [⟨none, (some 1), .mov (.c (.s (.i .i64 14)))⟩])
   (.ret))
   (.seq (.seq (.reg [⟨none, none, .bin .eql (.v 2) (.c (.s (.i .i64 4)))⟩,
    ⟨none, (some 4), .mov (.l 0)⟩])
   (.cond (.v 4) (.skip)
    (.reg [⟨none, none, .bin .eql (.v 2) (.c (.s (.i .i64 8)))⟩,
     ⟨none, (some 4), .mov (.l 0)⟩])))
   (.cond (.v 4) (.seq (.reg [⟨none, (some 1), .mov (.c (.s (.i .i64 18)))⟩])
    (.ret))
    (.skip)))))))
  (.seq (.reg [⟨none, (some 1), .mov (.c (.s (.i .i64 0)))⟩])
  (.ret)))
def ir44 : IFn := ⟨1, [0, 2, 3, 4, 8], [.tmp 1], b44⟩
theorem fn44 : FnIs Tryd.prog 44 ir44 := ⟨Tryd.f44, [0, 2, 3, 4, 8], Tryd.func44, by kernel_rfl⟩
/- sledge/isa.constant -/
def b45 : IC :=
  .seq (.reg [⟨none, (some 2), .newv (.v 0)⟩,
   ⟨none, (some 1), .mov (.c (.s (.s [])))⟩])
  (.seq (.blk 0 (.seq (.reg [⟨none, none, .fad 5 (.v 2)⟩,
   ⟨none, none, .ld none (.l 0)⟩,
   ⟨none, none, .bin .eql (.l 1) (.c (.s (.s [])))⟩,
   ⟨none, (some 3), .mov (.l 2)⟩])
  (.cond (.v 3) (.seq (.reg [⟨none, none, .fad 4 (.v 2)⟩,
    ⟨none, none, .ld none (.l 0)⟩,
    ⟨none, none, .call 41 [(.l 1)]⟩,
    ⟨none, (some 1), .mov (.l 2)⟩])
   (.ret))
   (.seq (.reg [⟨none, none, .fad 4 (.v 2)⟩,
    ⟨none, none, .ld none (.l 0)⟩,
    ⟨none, none, .bin .gtr (.l 1) (.c (.s (.i .i64 0)))⟩,
    ⟨none, (some 4), .mov (.l 2)⟩])
   (.cond (.v 4) (.seq (.dreg 6 [⟨none, none, .fad 5 (.v 2)⟩,
     ⟨none, none, .ld none (.l 0)⟩,
     ⟨none, none, .bin .add (.l 1) (.c (.s (.s [43])))⟩,
     ⟨none, none, .fad 4 (.v 2)⟩,
     ⟨none, none, .ld none (.l 3)⟩,
     ⟨none, none, .call 41 [(.l 4)]⟩,
     ⟨none, none, .bin .add (.l 2) (.l 5)⟩,
     ⟨none, (some 1), .mov (.l 6)⟩])
    (.ret))
    (.seq (.reg [⟨none, none, .fad 4 (.v 2)⟩,
     ⟨none, none, .ld none (.l 0)⟩,
     ⟨none, none, .bin .lss (.l 1) (.c (.s (.i .i64 0)))⟩,
     ⟨none, (some 5), .mov (.l 2)⟩])
    (.cond (.v 5) (.seq (.dreg 5 [⟨none, none, .fad 5 (.v 2)⟩,
      ⟨none, none, .ld none (.l 0)⟩,
      ⟨none, none, .fad 4 (.v 2)⟩,
      ⟨none, none, .ld none (.l 2)⟩,
      ⟨none, none, .call 41 [(.l 3)]⟩,
      ⟨none, none, .bin .add (.l 1) (.l 4)⟩,
      ⟨none, (some 1), .mov (.l 5)⟩])
     (.ret))
     (.skip))))))))
  (.seq (.reg [⟨none, none, .fad 5 (.v 2)⟩,
   ⟨none, none, .ld none (.l 0)⟩,
   ⟨none, (some 1), .mov (.l 1)⟩])
  (.ret)))
def ir45 : IFn := ⟨1, [0, 2, 1, 3, 10, 21], [.tmp 1], b45⟩
theorem fn45 : FnIs Tryd.prog 45 ir45 := ⟨Tryd.f45, [0, 2, 1, 3, 10, 21], Tryd.func45, by kernel_rfl⟩
/- sledge/isa.reg -/
def b49 : IC :=
  .seq (.reg [⟨none, (some 2), .mov (.c (.s (.b false)))⟩])
  (.seq (.reg [⟨none, none, .mov (.v 1)⟩,
   ⟨none, none, .bin .eql (.l 0) (.c (.s (.i .i64 0)))⟩,
   ⟨none, none, .mov (.l 1)⟩,
   ⟨(some (2, false)), none, .mov (.v 0)⟩,
   ⟨(some (2, false)), none, .mov (.l 3)⟩,
   ⟨(some (4, true)), none, .mov (.v 1)⟩,
   ⟨(some (4, true)), none, .bin .gtr (.l 5) (.c (.s (.i .i64 0)))⟩,
   ⟨(some (2, false)), none, .pick (.l 4) (.l 6) (.c (.s (.b false)))⟩,
   ⟨(some (2, false)), none, .mov (.l 7)⟩,
   ⟨(some (8, true)), none, .mov (.v 1)⟩,
   ⟨(some (8, true)), none, .bin .lss (.l 9) (.c (.s (.i .i64 16)))⟩,
   ⟨(some (2, false)), none, .pick (.l 8) (.l 10) (.c (.s (.b false)))⟩,
   ⟨none, none, .pick (.l 2) (.c (.s (.b true))) (.l 11)⟩,
   ⟨none, (some 2), .mov (.l 12)⟩])
  (.ret))
def ir49 : IFn := ⟨2, [0, 1, 4], [.tmp 2], b49⟩
theorem fn49 : FnIs Tryd.prog 49 ir49 := ⟨Tryd.f49, [0, 1, 4], Tryd.func49, by kernel_rfl⟩
/- sledge/isa.HasB -/
def b50 : IC :=
  .seq (.reg [⟨none, (some 1), .mov (.c (.s (.b false)))⟩])
  (.seq (.reg [⟨none, none, .mov (.v 0)⟩,
   ⟨none, none, .bin .eql (.l 0) (.c (.s (.i .i64 1)))⟩,
   ⟨none, none, .mov (.l 1)⟩,
   ⟨(some (2, false)), none, .mov (.v 0)⟩,
   ⟨(some (2, false)), none, .bin .eql (.l 3) (.c (.s (.i .i64 5)))⟩,
   ⟨none, none, .pick (.l 2) (.c (.s (.b true))) (.l 4)⟩,
   ⟨none, (some 1), .mov (.l 5)⟩])
  (.ret))
def ir50 : IFn := ⟨1, [0, 2], [.tmp 1], b50⟩
theorem fn50 : FnIs Tryd.prog 50 ir50 := ⟨Tryd.f50, [0, 2], Tryd.func50, by kernel_rfl⟩
/- sledge/isa.imm -/
def b51 : IC :=
  .seq (.reg [⟨none, (some 3), .newv (.v 0)⟩,
   ⟨none, (some 2), .mov (.c (.s (.b false)))⟩])
  (.seq (.blk 0 (.seq (.reg [⟨none, none, .mov (.v 1)⟩,
   ⟨none, none, .call 57 [(.l 0)]⟩,
   ⟨none, none, .mov (.l 1)⟩,
   ⟨(some (2, true)), none, .fad 5 (.v 3)⟩,
   ⟨(some (2, true)), none, .ld none (.l 3)⟩,
   ⟨(some (2, true)), none, .bin .neq (.l 4) (.c (.s (.s [])))⟩,
   ⟨none, none, .pick (.l 2) (.l 5) (.c (.s (.b false)))⟩,
   ⟨none, (some 4), .mov (.l 6)⟩])
  (.cond (.v 4) (.seq (.reg [⟨none, none, .fad 4 (.v 3)⟩,
    ⟨none, none, .ld none (.l 0)⟩,
    ⟨none, none, .bin .eql (.l 1) (.c (.s (.i .i64 0)))⟩,
    ⟨none, none, .mov (.l 2)⟩,
    ⟨(some (3, true)), none, .fad 5 (.v 3)⟩,
    ⟨(some (3, true)), none, .ld none (.l 4)⟩,
    ⟨(some (3, true)), none, .call 23 [(.l 5)]⟩,
    ⟨none, none, .pick (.l 3) (.l 6) (.c (.s (.b false)))⟩,
    ⟨none, (some 2), .mov (.l 7)⟩])
   (.ret))
   (.seq (.reg [⟨none, none, .mov (.v 1)⟩,
    ⟨none, none, .call 57 [(.l 0)]⟩,
    ⟨none, (some 5), .mov (.l 1)⟩])
   (.cond (.v 5) (.seq (.reg [⟨none, none, .fad 4 (.v 3)⟩,
     ⟨none, none, .ld none (.l 0)⟩,
     ⟨none, none, .bin .geq (.l 1) (.c (.s (.i .i64 0)))⟩,
     ⟨none, none, .mov (.l 2)⟩,
     ⟨(some (3, true)), none, .fad 4 (.v 3)⟩,
     ⟨(some (3, true)), none, .ld none (.l 4)⟩,
     ⟨(some (3, true)), none, .bin .lss (.l 5) (.c (.s (.i .i64 1024)))⟩,
     ⟨none, none, .pick (.l 3) (.l 6) (.c (.s (.b false)))⟩,
     ⟨none, (some 2), .mov (.l 7)⟩])
    (.ret))
    (.seq (.seq (.reg [⟨none, none, .mov (.v 1)⟩,
     ⟨none, none, .bin .eql (.l 0) (.c (.s (.i .i64 4)))⟩,
     ⟨none, none, .mov (.l 1)⟩,
     ⟨(some (2, true)), none, .fad 5 (.v 3)⟩,
     ⟨(some (2, true)), none, .ld none (.l 3)⟩,
     ⟨(some (2, true)), none, .bin .neq (.l 4) (.c (.s (.s [])))⟩,
     ⟨none, none, .pick (.l 2) (.l 5) (.c (.s (.b false)))⟩,
     ⟨none, none, .mov (.l 6)⟩,
     ⟨(some (7, true)), none, .fad 5 (.v 3)⟩,
     ⟨(some (7, true)), none, .ld none (.l 8)⟩,
     ⟨(some (7, true)), none, .call 23 [(.l 9)]⟩,
     ⟨(some (7, true)), none, .un .not (.l 10)⟩,
     ⟨none, none, .pick (.l 7) (.l 11) (.c (.s (.b false)))⟩,
     ⟨none, (some 6), .mov (.l 12)⟩])
    (.cond (.v 6) (.skip)
     (.reg [⟨none, none, .mov (.v 1)⟩,
      ⟨none, none, .bin .neq (.l 0) (.c (.s (.i .i64 4)))⟩,
      ⟨none, none, .mov (.l 1)⟩,
      ⟨(some (2, true)), none, .fad 5 (.v 3)⟩,
      ⟨(some (2, true)), none, .ld none (.l 3)⟩,
      ⟨(some (2, true)), none, .bin .neq (.l 4) (.c (.s (.s [])))⟩,
      ⟨none, none, .pick (.l 2) (.l 5) (.c (.s (.b false)))⟩,
      ⟨none, (some 6), .mov (.l 6)⟩])))
    (.cond (.v 6) (.seq (.reg [⟨none, (some 2), .mov (.c (.s (.b false)))⟩])
     (.ret))
     (.seq (.reg [⟨none, none, .mov (.v 1)⟩,
      ⟨none, none, .call 44 [(.l 0)]⟩,
      ⟨none, none, .bin .eql (.l 1) (.c (.s (.i .i64 0)))⟩,
      ⟨none, (some 7), .mov (.l 2)⟩])
     (.cond (.v 7) (.seq (.reg [⟨none, none, .fad 4 (.v 3)⟩,
       ⟨none, none, .ld none (.l 0)⟩,
       ⟨none, none, .bin .eql (.l 1) (.c (.s (.i .i64 0)))⟩,
       ⟨none, (some 2), .mov (.l 2)⟩])
      (.ret))
      (.skip))))))))))
  (.seq (.dreg 4 [⟨none, none, .fad 4 (.v 3)⟩,
   ⟨none, none, .ld none (.l 0)⟩,
   ⟨none, none, .mov (.v 1)⟩,
   ⟨none, none, .call 44 [(.l 2)]⟩,
   ⟨none, none, .call 58 [(.l 1), (.l 3)]⟩,
   ⟨none, (some 2), .mov (.l 4)⟩])
  (.ret)))
def ir51 : IFn := ⟨2, [0, 1, 4, 2, 5, 21, 32, 53], [.tmp 2], b51⟩
theorem fn51 : FnIs Tryd.prog 51 ir51 := ⟨Tryd.f51, [0, 1, 4, 2, 5, 21, 32, 53], Tryd.func51, by kernel_rfl⟩
/- sledge/isa.Target -/
def b57 : IC :=
  .seq (.reg [⟨none, (some 1), .mov (.c (.s (.b false)))⟩])
  (.seq (.reg [⟨none, none, .mov (.v 0)⟩,
   ⟨none, none, .bin .eql (.l 0) (.c (.s (.i .i64 8)))⟩,
   ⟨none, none, .mov (.l 1)⟩,
   ⟨(some (2, false)), none, .mov (.v 0)⟩,
   ⟨(some (2, false)), none, .bin .eql (.l 3) (.c (.s (.i .i64 9)))⟩,
   ⟨none, none, .pick (.l 2) (.c (.s (.b true))) (.l 4)⟩,
   ⟨none, (some 1), .mov (.l 5)⟩])
  (.ret))
def ir57 : IFn := ⟨1, [0, 2], [.tmp 1], b57⟩
theorem fn57 : FnIs Tryd.prog 57 ir57 := ⟨Tryd.f57, [0, 2], Tryd.func57, by kernel_rfl⟩
/- sledge/word.Within -/
def b58 : IC :=
  .seq (.reg [⟨none, (some 2), .mov (.c (.s (.b false)))⟩])
  (.seq (.reg [⟨none, none, .mov (.v 0)⟩,
   ⟨none, none, .mov (.v 1)⟩,
   ⟨none, none, .bin .sub (.l 1) (.c (.s (.i .i64 1)))⟩,
   ⟨none, none, .bin .shl (.c (.s (.i .i64 (-1)))) (.l 2)⟩,
   ⟨none, none, .bin .geq (.l 0) (.l 3)⟩,
   ⟨none, none, .mov (.l 4)⟩,
   ⟨(some (5, true)), none, .mov (.v 0)⟩,
   ⟨(some (5, true)), none, .mov (.v 1)⟩,
   ⟨(some (5, true)), none, .bin .sub (.l 7) (.c (.s (.i .i64 1)))⟩,
   ⟨(some (5, true)), none, .bin .shl (.c (.s (.i .i64 1))) (.l 8)⟩,
   ⟨(some (5, true)), none, .bin .lss (.l 6) (.l 9)⟩,
   ⟨none, none, .pick (.l 5) (.l 10) (.c (.s (.b false)))⟩,
   ⟨none, (some 2), .mov (.l 11)⟩])
  (.ret))
def ir58 : IFn := ⟨2, [0, 1, 4], [.tmp 2], b58⟩
theorem fn58 : FnIs Tryd.prog 58 ir58 := ⟨Tryd.f58, [0, 1, 4], Tryd.func58, by kernel_rfl⟩
/- strconv.Itoa -/
def b41 : IC :=
  .seq (.reg [⟨none, (some 1), .mov (.c (.s (.s [])))⟩])
  (.seq (.reg [⟨none, none, .mov (.v 0)⟩,
   ⟨none, none, .call 52 [(.l 0)]⟩,
   ⟨none, (some 1), .mov (.l 1)⟩])
  (.ret))
def ir41 : IFn := ⟨1, [0, 2], [.tmp 1], b41⟩
theorem fn41 : FnIs Tryd.prog 41 ir41 := ⟨Tryd.f41, [0, 2], Tryd.func41, by kernel_rfl⟩
/- strings.Join -/
def b46 : IC :=
  .seq (.reg [⟨none, (some 2), .mov (.c (.s (.s [])))⟩])
  (.seq (.seq (.reg [⟨none, none, .mov (.v 0)⟩,
   ⟨none, (some 3), .len false (.l 0)⟩])
  (.blk 0 (.seq (.reg [⟨none, none, .bin .eql (.v 3) (.c (.s (.i .i64 0)))⟩,
   ⟨none, (some 4), .mov (.l 0)⟩])
  (.cond (.v 4) (.seq (.reg [⟨none, (some 2), .mov (.c (.s (.s [])))⟩])
   (.ret))
   (.seq (.reg [⟨none, none, .bin .eql (.v 3) (.c (.s (.i .i64 1)))⟩,
    ⟨none, (some 5), .mov (.l 0)⟩])
   (.cond (.v 5) (.seq (.reg [⟨none, none, .mov (.v 0)⟩,
     ⟨none, none, .iadS 1 (.l 0) (.c (.s (.i .i64 0)))⟩,
     ⟨none, none, .ld none (.l 1)⟩,
     ⟨none, (some 2), .mov (.l 2)⟩])
    (.ret))
    (.skip)))))))
  (.seq (.reg [⟨none, (some 8), .mov (.c (.s (.i .i64 0)))⟩])
  (.seq (.seq (.reg [⟨none, none, .mov (.v 1)⟩,
   ⟨none, none, .len true (.l 0)⟩,
   ⟨none, (some 6), .bin .gtr (.l 1) (.c (.s (.i .i64 0)))⟩])
  (.cond (.v 6) (.seq (.seq (.reg [⟨none, none, .mov (.v 1)⟩,
    ⟨none, none, .len true (.l 0)⟩,
    ⟨none, none, .mov (.v 0)⟩,
    ⟨none, none, .len false (.l 2)⟩,
    ⟨none, none, .bin .sub (.l 3) (.c (.s (.i .i64 1)))⟩,
    ⟨none, none, .bin .quo (.c (.s (.i .i64 9223372036854775807))) (.l 4)⟩,
    ⟨none, (some 7), .bin .geq (.l 1) (.l 5)⟩])
   (.cond (.v 7) (.reg [⟨none, none, .bad⟩,
     ⟨none, none, .bad⟩])
    (.skip)))
   (.reg [⟨none, none, .mov (.v 8)⟩,
    ⟨none, none, .mov (.v 1)⟩,
    ⟨none, none, .len true (.l 1)⟩,
    ⟨none, none, .mov (.v 0)⟩,
    ⟨none, none, .len false (.l 3)⟩,
    ⟨none, none, .bin .sub (.l 4) (.c (.s (.i .i64 1)))⟩,
    ⟨none, none, .bin .mul (.l 2) (.l 5)⟩,
    ⟨none, none, .bin .add (.l 0) (.l 6)⟩,
    ⟨none, (some 8), .mov (.l 7)⟩]))
   (.skip)))
  (.seq (.seq (.reg [⟨none, (some 12), .mov (.v 0)⟩,
   ⟨none, (some 10), .len false (.v 12)⟩,
   ⟨none, (some 9), .mov (.c (.s (.i .i64 0)))⟩])
  (.blk 1 (.loop (.seq (.reg [⟨none, (some 11), .bin .lss (.v 9) (.v 10)⟩])
   (.seq (.cond (.v 11) (.skip)
    (.exit 1))
   (.seq (.blk 2 (.seq (.reg [⟨none, none, .iadS 1 (.v 12) (.v 9)⟩,
    ⟨none, none, .ld none (.l 0)⟩,
    ⟨none, (some 13), .mov (.l 1)⟩])
   (.seq (.seq (.reg [⟨none, none, .mov (.v 13)⟩,
    ⟨none, none, .len true (.l 0)⟩,
    ⟨none, none, .mov (.v 8)⟩,
    ⟨none, none, .bin .sub (.c (.s (.i .i64 9223372036854775807))) (.l 2)⟩,
    ⟨none, (some 14), .bin .gtr (.l 1) (.l 3)⟩])
   (.cond (.v 14) (.reg [⟨none, none, .bad⟩,
     ⟨none, none, .bad⟩])
    (.skip)))
   (.reg [⟨none, none, .mov (.v 8)⟩,
    ⟨none, none, .mov (.v 13)⟩,
    ⟨none, none, .len true (.l 1)⟩,
    ⟨none, none, .bin .add (.l 0) (.l 2)⟩,
    ⟨none, (some 8), .mov (.l 3)⟩]))))
   (.reg [⟨none, none, .bin .add (.v 9) (.c (.s (.i .i64 1)))⟩,
    ⟨none, (some 9), .mov (.l 0)⟩])))))))
  (.seq (.reg [⟨none, (some 15), .newv (.c (.a [.np, .nsl]))⟩])
  (.seq (.reg [⟨none, none, .mov (.v 8)⟩,
   ⟨none, none, .call 53 [(.v 15), (.l 0)]⟩])
  (.seq (.reg [⟨none, none, .mov (.v 0)⟩,
   ⟨none, none, .iadS 1 (.l 0) (.c (.s (.i .i64 0)))⟩,
   ⟨none, none, .ld none (.l 1)⟩,
   ⟨none, none, .call 54 [(.v 15), (.l 2)]⟩])
  (.seq (.seq (.reg [⟨none, none, .mov (.v 0)⟩,
   ⟨none, (some 19), .ssl 1 (.l 0) (some (.c (.s (.i .i64 1)))) none none⟩,
   ⟨none, (some 17), .len false (.v 19)⟩,
   ⟨none, (some 16), .mov (.c (.s (.i .i64 0)))⟩])
  (.blk 3 (.loop (.seq (.reg [⟨none, (some 18), .bin .lss (.v 16) (.v 17)⟩])
   (.seq (.cond (.v 18) (.skip)
    (.exit 3))
   (.seq (.blk 4 (.seq (.reg [⟨none, none, .iadS 1 (.v 19) (.v 16)⟩,
    ⟨none, none, .ld none (.l 0)⟩,
    ⟨none, (some 20), .mov (.l 1)⟩])
   (.seq (.reg [⟨none, none, .mov (.v 1)⟩,
    ⟨none, none, .call 54 [(.v 15), (.l 0)]⟩])
   (.reg [⟨none, none, .mov (.v 20)⟩,
    ⟨none, none, .call 54 [(.v 15), (.l 0)]⟩]))))
   (.reg [⟨none, none, .bin .add (.v 16) (.c (.s (.i .i64 1)))⟩,
    ⟨none, (some 16), .mov (.l 0)⟩])))))))
  (.seq (.reg [⟨none, none, .call 55 [(.v 15)]⟩,
   ⟨none, (some 2), .mov (.l 0)⟩])
  (.ret))))))))))
def ir46 : IFn := ⟨2, [0, 1, 4, 12, 13, 15, 22, 29, 5, 41, 40, 42, 39, 7, 49, 8, 65, 64, 66, 63, 10], [.tmp 2], b46⟩
theorem fn46 : FnIs Tryd.prog 46 ir46 := ⟨Tryd.f46, [0, 1, 4, 12, 13, 15, 22, 29, 5, 41, 40, 42, 39, 7, 49, 8, 65, 64, 66, 63, 10], Tryd.func46, by kernel_rfl⟩
/- internal/strconv.Itoa -/
def b52 : IC :=
  .seq (.reg [⟨none, (some 1), .mov (.c (.s (.s [])))⟩])
  (.seq (.reg [⟨none, none, .mov (.v 0)⟩,
   ⟨none, none, .call 59 [(.l 0), (.c (.s (.i .i64 10)))]⟩,
   ⟨none, (some 1), .mov (.l 1)⟩])
  (.ret))
def ir52 : IFn := ⟨1, [0, 2], [.tmp 1], b52⟩
theorem fn52 : FnIs Tryd.prog 52 ir52 := ⟨Tryd.f52, [0, 2], Tryd.func52, by kernel_rfl⟩
/- (*strings.Builder).Grow -/
def b53 : IC :=
  .seq (.reg [⟨none, none, .mov (.v 0)⟩,
   ⟨none, none, .call 60 [(.l 0)]⟩])
  (.seq (.seq (.reg [⟨none, none, .mov (.v 1)⟩,
   ⟨none, (some 2), .bin .lss (.l 0) (.c (.s (.i .i64 0)))⟩])
  (.cond (.v 2) (.reg [⟨none, none, .bad⟩,
    ⟨none, none, .bad⟩])
   (.skip)))
  (.seq (.dreg 12 [⟨none, none, .mov (.v 0)⟩,
   ⟨none, none, .nilc (.l 0)⟩,
   ⟨none, none, .fad 1 (.l 1)⟩,
   ⟨none, none, .ld none (.l 2)⟩,
   ⟨none, none, .bad⟩,
   ⟨none, none, .mov (.v 0)⟩,
   ⟨none, none, .nilc (.l 5)⟩,
   ⟨none, none, .fad 1 (.l 6)⟩,
   ⟨none, none, .ld none (.l 7)⟩,
   ⟨none, none, .len false (.l 8)⟩,
   ⟨none, none, .bin .sub (.l 4) (.l 9)⟩,
   ⟨none, none, .mov (.v 1)⟩,
   ⟨none, (some 3), .bin .lss (.l 10) (.l 11)⟩])
  (.cond (.v 3) (.reg [⟨none, none, .mov (.v 0)⟩,
    ⟨none, none, .mov (.v 1)⟩,
    ⟨none, none, .call 61 [(.l 0), (.l 1)]⟩])
   (.skip))))
def ir53 : IFn := ⟨2, [0, 1, 7, 21], [], b53⟩
theorem fn53 : FnIs Tryd.prog 53 ir53 := ⟨Tryd.f53, [0, 1, 7, 21], Tryd.func53, by kernel_rfl⟩
/- (*strings.Builder).WriteString -/
def b54 : IC :=
  .seq (.reg [⟨none, (some 2), .mov (.c (.s (.i .i64 0)))⟩,
   ⟨none, (some 3), .bad⟩])
  (.seq (.reg [⟨none, none, .mov (.v 0)⟩,
   ⟨none, none, .call 60 [(.l 0)]⟩])
  (.seq (.reg [⟨none, none, .mov (.v 0)⟩,
   ⟨none, none, .mov (.v 0)⟩,
   ⟨none, none, .nilc (.l 1)⟩,
   ⟨none, none, .fad 1 (.l 2)⟩,
   ⟨none, none, .ld none (.l 3)⟩,
   ⟨none, none, .mov (.v 1)⟩,
   ⟨none, none, .app 1 1 (.l 4) (.l 5)⟩,
   ⟨none, none, .nilc (.l 0)⟩,
   ⟨none, none, .fad 1 (.l 7)⟩,
   ⟨none, none, .st 1 (.l 8) (.l 6)⟩])
  (.seq (.reg [⟨none, none, .mov (.v 1)⟩,
   ⟨none, none, .len true (.l 0)⟩,
   ⟨none, (some 2), .mov (.l 1)⟩,
   ⟨none, (some 3), .bad⟩])
  (.ret))))
def ir54 : IFn := ⟨2, [0, 1, 4, 5], [.tmp 2, .tmp 3], b54⟩
theorem fn54 : FnIs Tryd.prog 54 ir54 := ⟨Tryd.f54, [0, 1, 4, 5], Tryd.func54, by kernel_rfl⟩
/- (*strings.Builder).String -/
def b55 : IC :=
  .seq (.reg [⟨none, (some 1), .mov (.c (.s (.s [])))⟩])
  (.seq (.dreg 10 [⟨none, none, .mov (.v 0)⟩,
   ⟨none, none, .nilc (.l 0)⟩,
   ⟨none, none, .fad 1 (.l 1)⟩,
   ⟨none, none, .ld none (.l 2)⟩,
   ⟨none, none, .bad⟩,
   ⟨none, none, .mov (.v 0)⟩,
   ⟨none, none, .nilc (.l 5)⟩,
   ⟨none, none, .fad 1 (.l 6)⟩,
   ⟨none, none, .ld none (.l 7)⟩,
   ⟨none, none, .len false (.l 8)⟩,
   ⟨none, none, .bad⟩,
   ⟨none, (some 1), .mov (.l 10)⟩])
  (.ret))
def ir55 : IFn := ⟨1, [0, 2], [.tmp 1], b55⟩
theorem fn55 : FnIs Tryd.prog 55 ir55 := ⟨Tryd.f55, [0, 2], Tryd.func55, by kernel_rfl⟩
def T : List (Nat × IFn) := [(3, ir3), (4, ir4), (5, ir5), (6, ir6), (7, ir7), (8, ir8), (9, ir9), (10, ir10), (11, ir11), (12, ir12), (13, ir13), (14, ir14), (15, ir15), (16, ir16), (17, ir17), (18, ir18), (19, ir19), (20, ir20), (21, ir21), (22, ir22), (23, ir23), (24, ir24), (25, ir25), (26, ir26), (27, ir27), (28, ir28), (29, ir29), (30, ir30), (31, ir31), (32, ir32), (33, ir33), (34, ir34), (35, ir35), (36, ir36), (38, ir38), (39, ir39), (40, ir40), (42, ir42), (43, ir43), (44, ir44), (45, ir45), (49, ir49), (50, ir50), (51, ir51), (57, ir57), (58, ir58), (41, ir41), (46, ir46), (52, ir52), (53, ir53), (54, ir54), (55, ir55)]
theorem T_ok : TOk Tryd.prog T := by
  intro x hx
  simp only [T, List.mem_cons, List.not_mem_nil, or_false] at hx
  rcases hx with rfl | rfl | rfl | rfl | rfl | rfl | rfl | rfl | rfl | rfl | rfl | rfl | rfl | rfl | rfl | rfl | rfl | rfl | rfl | rfl | rfl | rfl | rfl | rfl | rfl | rfl | rfl | rfl | rfl | rfl | rfl | rfl | rfl | rfl | rfl | rfl | rfl | rfl | rfl | rfl | rfl | rfl | rfl | rfl | rfl | rfl | rfl | rfl | rfl | rfl | rfl | rfl
  · exact fn3
  · exact fn4
  · exact fn5
  · exact fn6
  · exact fn7
  · exact fn8
  · exact fn9
  · exact fn10
  · exact fn11
  · exact fn12
  · exact fn13
  · exact fn14
  · exact fn15
  · exact fn16
  · exact fn17
  · exact fn18
  · exact fn19
  · exact fn20
  · exact fn21
  · exact fn22
  · exact fn23
  · exact fn24
  · exact fn25
  · exact fn26
  · exact fn27
  · exact fn28
  · exact fn29
  · exact fn30
  · exact fn31
  · exact fn32
  · exact fn33
  · exact fn34
  · exact fn35
  · exact fn36
  · exact fn38
  · exact fn39
  · exact fn40
  · exact fn42
  · exact fn43
  · exact fn44
  · exact fn45
  · exact fn49
  · exact fn50
  · exact fn51
  · exact fn57
  · exact fn58
  · exact fn41
  · exact fn46
  · exact fn52
  · exact fn53
  · exact fn54
  · exact fn55
end Go.Proofs.YtmkaaplbidlmcaaDoor
