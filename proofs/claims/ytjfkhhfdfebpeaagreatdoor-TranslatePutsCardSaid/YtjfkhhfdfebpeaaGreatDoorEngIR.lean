/- The engine: what a link takes. -/
import Derived.Test.YtjfkhhfdfebpeaaGreatDoorEngC
set_option linter.all false
set_option linter.unusedVariables false
set_option linter.unusedSimpArgs false
namespace Eng
open Go
def lkL {α : Type} (f : Nat) : List (Nat × α) → Option α
  | [] => none
  | (i, x) :: l => bif Nat.beq i f then some x else lkL f l
def chkFn (X : Ctx) (rf : RFunc) (fn : Func) : Bool := !(fn.name == "runtime.NumGoroutine") && (match fn.body with
    | some c => chkC X fn.ntmps rf.body c
    | none => false) && chkRes X rf.res fn.results.toList
theorem chkF_of {X : Ctx} {f : Nat} {rf : RFunc} {fn : Func} (h1 : X.P.funcs[X.fid f]? = some fn) (h2 : chkFn X rf fn = true) : chkF X f rf = true := by
  unfold chkF
  rw [h1]
  exact h2
def allOk (X : Ctx) : List (Nat × RFunc) → Prop
  | [] => True
  | (i, r) :: l => FnOk X i r ∧ allOk X l
theorem linked_of {X : Ctx} {R : RProg} {l : List (Nat × RFunc)} (hR : R = fun f => lkL f l) (hm : X.P.follows .mixedOrders = true) (h : allOk X l) : Linked X R := by
  refine ⟨hm, fun f rf hf => ?_⟩
  subst hR
  dsimp only at hf
  induction l with
  | nil => simp [lkL] at hf
  | cons x l ih =>
    obtain ⟨i, r⟩ := x
    simp only [lkL] at hf
    simp only [allOk] at h
    cases hb : Nat.beq i f with
    | true =>
      rw [hb] at hf
      simp only [cond_true, Option.some.injEq] at hf
      rw [← Nat.eq_of_beq_eq_true hb, ← hf]
      exact h.1
    | false =>
      rw [hb] at hf
      exact ih h.2 hf
def GV : Nat → AV := fun i => bif Nat.beq i 369 then .rp 14 [.int .i64 0, .int .i64 0, .int .i64 1, .int .i64 2, .int .i64 0, .int .i64 1, .int .i64 3, .int .i64 0, .int .i64 2, .int .i64 3, .int .i64 2, .int .i64 1, .int .i64 1, .int .i64 0] else .undef
end Eng

set_option maxRecDepth 100000
namespace Eng
open Go
def r2 : RFunc := ⟨0, [.tmp 0],
  (.seq (.reg [.a 0 (.mov (.c (.pl (.bool false))))])
  (.seq (.reg [.a 5 (.call 1000 12 [(.i 0)]),
   .a 6 (.call 1016 12 [(.i 0)]),
   .a 7 (.call 1032 13 [(.t 5), (.t 6)]),
   .a 8 (.call 1048 12 [(.i 1)]),
   .a 9 (.call 1064 12 [(.i 2)]),
   .a 10 (.call 1080 13 [(.t 8), (.t 9)]),
   .a 1 (.alloc 1096 5 (.agg [.pl (.int .i64 0), .pl (.int .i64 0), .own 1097 0, .own 1098 0, .own 1099 0]) [(1097, 2), (1098, 5), (1099, 5)]),
   .a 2 (.alloc 1112 5 (.agg [.pl (.int .i64 0), .pl (.int .i64 0), .own 1113 0, .own 1114 0, .own 1115 0]) [(1113, 2), (1114, 5), (1115, 5)]),
   .n (.store 5 (.t 1) (.t 7)),
   .n (.store 5 (.t 2) (.t 10))])
  (.seq (.reg [.a 12 (.load 5 true (.t 2)),
   .a 13 (.load 5 true (.t 1)),
   .a 14 (.call 1128 9 [(.t 12), (.t 13)]),
   .a 11 (.mov (.t 14)),
   .a 15 (.ext (.t 11) 0),
   .a 16 (.ext (.t 11) 1),
   .a 3 (.alloc 1144 5 (.agg [.pl (.int .i64 0), .pl (.int .i64 0), .own 1145 0, .own 1146 0, .own 1147 0]) [(1145, 2), (1146, 5), (1147, 5)]),
   .n (.store 5 (.t 3) (.t 15)),
   .a 4 (.mov (.t 16))])
  (.seq (.drw [.a 17 (.mov (.t 4)),
   .a 18 (.bin .eql (.t 17) (.i 0)),
   .a 19 (.mov (.t 18)),
   .q 20 (.load 5 true (.t 3)) 19 true,
   .q 21 (.load 5 true (.t 1)) 19 true,
   .q 22 (.load 5 true (.t 2)) 19 true,
   .q 23 (.call 1160 14 [(.i 3), (.t 21), (.t 22)]) 19 true,
   .q 24 (.load 5 true (.t 2)) 19 true,
   .q 25 (.call 1176 14 [(.i 3), (.t 23), (.t 24)]) 19 true,
   .q 26 (.call 1192 11 [(.t 20), (.t 25)]) 19 true,
   .a 27 (.pick (.t 19) (.t 26) (.c (.pl (.bool false)))),
   .a 0 (.mov (.t 27))] [0, 1, 3, 7, 7, 7, 55, 7, 247, 511, 1023, 2047])
  .ret))))⟩
def r3 : RFunc := ⟨1, [.tmp 2],
  (.seq (.reg [.a 2 (.mov (.c (.pl (.bool false))))])
  (.seq (.reg [.a 3 (.mov (.t 0)),
   .a 4 (.len (.t 3)),
   .a 5 (.bin .leq (.t 4) (.i 500)),
   .a 2 (.mov (.t 5))])
  .ret))⟩
def r5 : RFunc := ⟨1, [.tmp 2],
  (.seq (.reg [.a 2 (.mov (.c (.nilp)))])
  (.seq (.reg [.a 3 (.mov (.t 0)),
   .a 4 (.build [.pl (.sl 1 []), .pl (.int .i64 0)] [] [(0, 1, (.t 3))]),
   .a 5 (.box 1016 2 (.t 4)),
   .a 2 (.mov (.t 5))])
  .ret))⟩
def r6 : RFunc := ⟨1, [.tmp 2],
  (.seq (.reg [.a 2 (.nilb 1000 2)])
  (.seq (.reg [.a 3 (.nilb 1016 2)])
  (.seq (.seq (.reg [.a 5 (.mov (.t 0)),
   .a 6 (.call 1032 16 [(.t 5), (.i 4)]),
   .a 4 (.mov (.t 6))])
  (.block 0 (.loop [0, 3, 4] [0, 1, 2, 3, 4, 5, 1000, 1016]
   (.seq (.seq (.reg [.a 7 (.mov (.t 4)),
   .a 8 (.bin .gtr (.t 7) (.i 0))])
    (.cond (.t 8) .skip
    (.exit 0)))
    (.seq (.block 1 (.reg [.a 11 (.mov (.t 3)),
   .a 12 (.mov (.t 0)),
   .a 13 (.call 1048 17 [(.t 12), (.i 1)]),
   .a 14 (.bsl 2 [(.t 13)]),
   .a 15 (.app 2 (.t 11) (.t 14)),
   .a 3 (.mov (.t 15))]))
    (.reg [.a 9 (.mov (.t 4)),
   .a 10 (.bin .sub (.t 9) (.i 1)),
   .a 4 (.mov (.t 10))]))))))
  (.seq (.reg [.a 16 (.mov (.t 3)),
   .a 2 (.mov (.t 16))])
  .ret))))⟩
def r7 : RFunc := ⟨3, [.cell 6 5 true],
  (.seq (.reg [.a 6 (.alloc 1000 5 (.agg [.pl (.int .i64 0), .pl (.int .i64 0), .own 1001 0, .own 1002 0, .own 1003 0]) [(1001, 2), (1002, 5), (1003, 5)])])
  (.seq (.seq (.reg [.a 10 (.mov (.t 2)),
   .a 11 (.bin .gtr (.t 10) (.i 0))])
  (.cond (.t 11) (.seq (.reg [.a 12 (.mov (.t 0)),
   .a 13 (.call 1016 16 [(.t 12), (.i 7)])])
   (.block 0 (.seq (.reg [.a 15 (.bin .eql (.t 13) (.i 0)),
   .a 14 (.mov (.t 15))])
    (.cond (.t 14) (.seq (.reg [.a 16 (.mov (.t 0)),
   .a 17 (.mov (.t 1)),
   .a 18 (.mov (.t 2)),
   .a 19 (.bin .sub (.t 18) (.i 1)),
   .a 20 (.call 1032 7 [(.t 16), (.t 17), (.t 19)]),
   .a 21 (.mov (.t 0)),
   .a 22 (.mov (.t 1)),
   .a 23 (.mov (.t 2)),
   .a 24 (.bin .sub (.t 23) (.i 1)),
   .a 25 (.call 1048 7 [(.t 21), (.t 22), (.t 24)]),
   .a 26 (.call 1064 14 [(.i 2), (.t 20), (.t 25)]),
   .n (.store 5 (.t 6) (.t 26))])
     .ret)
    (.seq (.seq (.reg [.a 28 (.bin .eql (.t 13) (.i 1)),
   .a 27 (.mov (.t 28))])
     (.cond (.t 27) .skip
     (.reg [.a 29 (.bin .eql (.t 13) (.i 2)),
   .a 27 (.mov (.t 29))])))
     (.cond (.t 27) (.seq (.reg [.a 30 (.mov (.t 0)),
   .a 31 (.mov (.t 1)),
   .a 32 (.mov (.t 2)),
   .a 33 (.bin .sub (.t 32) (.i 1)),
   .a 34 (.call 1080 7 [(.t 30), (.t 31), (.t 33)]),
   .a 35 (.mov (.t 0)),
   .a 36 (.mov (.t 1)),
   .a 37 (.mov (.t 2)),
   .a 38 (.bin .sub (.t 37) (.i 1)),
   .a 39 (.call 1096 7 [(.t 35), (.t 36), (.t 38)]),
   .a 40 (.call 1112 14 [(.i 3), (.t 34), (.t 39)]),
   .n (.store 5 (.t 6) (.t 40))])
      .ret)
     (.seq (.seq (.reg [.a 42 (.bin .eql (.t 13) (.i 3)),
   .a 41 (.mov (.t 42))])
      (.cond (.t 41) .skip
      (.reg [.a 43 (.bin .eql (.t 13) (.i 4)),
   .a 41 (.mov (.t 43))])))
      (.cond (.t 41) (.seq (.reg [.a 44 (.mov (.t 0)),
   .a 45 (.call 1128 17 [(.t 44), (.i 0)]),
   .a 7 (.alloc 1144 2 (.agg [.pl (.int .i64 0), .own 1145 0]) [(1145, 2)]),
   .n (.store 2 (.t 7) (.t 45))])
       (.seq (.drw [.a 46 (.load 2 true (.t 7)),
   .a 47 (.mov (.t 0)),
   .a 48 (.mov (.t 1)),
   .a 49 (.load 2 true (.t 7)),
   .a 50 (.bsl 2 [(.t 49)]),
   .a 51 (.call 1160 18 [(.t 48), (.t 50)]),
   .a 52 (.mov (.t 2)),
   .a 53 (.bin .sub (.t 52) (.i 1)),
   .a 54 (.call 1176 7 [(.t 47), (.t 51), (.t 53)]),
   .a 55 (.call 1192 19 [(.i 4), (.t 46), (.t 54)]),
   .n (.store 5 (.t 6) (.t 55))] [0, 0, 0, 0, 8, 28, 0, 64, 254, 511, 1023])
       .ret))
      (.seq (.reg [.a 57 (.bin .eql (.t 13) (.i 5)),
   .a 56 (.mov (.t 57))])
       (.cond (.t 56) (.seq (.reg [.a 58 (.mov (.t 0)),
   .a 59 (.call 1208 17 [(.t 58), (.i 0)]),
   .a 8 (.alloc 1224 2 (.agg [.pl (.int .i64 0), .own 1225 0]) [(1225, 2)]),
   .n (.store 2 (.t 8) (.t 59))])
        (.seq (.drw [.a 60 (.load 2 true (.t 8)),
   .a 61 (.mov (.t 0)),
   .a 62 (.mov (.t 1)),
   .a 63 (.load 2 true (.t 8)),
   .a 64 (.bsl 2 [(.t 63)]),
   .a 65 (.call 1240 18 [(.t 62), (.t 64)]),
   .a 66 (.mov (.t 2)),
   .a 67 (.bin .sub (.t 66) (.i 1)),
   .a 68 (.call 1256 7 [(.t 61), (.t 65), (.t 67)]),
   .a 69 (.call 1272 19 [(.i 5), (.t 60), (.t 68)]),
   .n (.store 5 (.t 6) (.t 69))] [0, 0, 0, 0, 8, 28, 0, 64, 254, 511, 1023])
        .ret))
       .skip))))))))))
  .skip))
  (.seq (.reg [.a 70 (.call 1288 20 []),
   .a 9 (.alloc 1304 2 (.agg [.pl (.int .i64 0), .own 1305 0]) [(1305, 2)]),
   .n (.store 2 (.t 9) (.t 70))])
  (.seq (.drw [.a 71 (.mov (.t 0)),
   .a 72 (.mov (.t 1)),
   .a 73 (.load 2 true (.t 9)),
   .a 74 (.call 1320 21 [(.t 71), (.t 72), (.t 73), (.i 1)]),
   .a 75 (.mov (.t 0)),
   .a 76 (.mov (.t 1)),
   .a 77 (.load 2 true (.t 9)),
   .a 78 (.call 1336 21 [(.t 75), (.t 76), (.t 77), (.i 1)]),
   .a 79 (.call 1352 13 [(.t 74), (.t 78)]),
   .n (.store 5 (.t 6) (.t 79))] [0, 0, 0, 7, 0, 0, 0, 127, 255, 511])
  .ret))))⟩
def r9 : RFunc := ⟨2, [.cell 4 5 true, .tmp 5],
  (.seq (.reg [.a 2 (.box 1000 5 (.t 0)),
   .a 3 (.box 1016 5 (.t 1)),
   .a 4 (.alloc 1032 5 (.agg [.pl (.int .i64 0), .pl (.int .i64 0), .own 1033 0, .own 1034 0, .own 1035 0]) [(1033, 2), (1034, 5), (1035, 5)]),
   .a 5 (.mov (.i 0))])
  (.seq (.seq (.reg [.a 7 (.load 5 true (.t 2)),
   .a 8 (.load 5 true (.t 3)),
   .a 9 (.call 1048 22 [(.t 7), (.t 8)]),
   .a 6 (.mov (.t 9))])
  (.seq (.reg [.a 10 (.mov (.t 6)),
   .a 11 (.bin .neq (.t 10) (.i 0))])
  (.cond (.t 11) (.seq (.reg [.a 12 (.build [.pl (.int .i64 0), .pl (.int .i64 0), .pl (.sl 2 []), .pl (.sl 5 []), .pl (.sl 5 [])] [] []),
   .a 13 (.mov (.t 6)),
   .n (.store 5 (.t 4) (.t 12)),
   .a 5 (.mov (.t 13))])
   .ret)
  .skip)))
  (.seq (.drw [.a 14 (.load 5 true (.t 2)),
   .a 15 (.call 1080 23 [(.t 14)]),
   .a 16 (.load 5 true (.t 3)),
   .a 17 (.call 1096 24 [(.t 15), (.t 16), (.i 0)]),
   .a 18 (.call 1112 25 [(.t 17)]),
   .n (.store 5 (.t 4) (.t 18)),
   .a 5 (.mov (.i 0))] [0, 1, 0, 7, 15, 31, 63])
  .ret)))⟩
def r11 : RFunc := ⟨2, [.tmp 4],
  (.seq (.reg [.a 2 (.box 1000 5 (.t 0)),
   .a 3 (.box 1016 5 (.t 1)),
   .a 4 (.mov (.c (.pl (.bool false))))])
  (.seq (.seq (.reg [.a 6 (.fadd (.t 2) 0),
   .a 7 (.load 1 false (.t 6)),
   .a 8 (.fadd (.t 3) 0),
   .a 9 (.load 1 false (.t 8)),
   .a 10 (.bin .neq (.t 7) (.t 9)),
   .a 11 (.mov (.t 10)),
   .q 12 (.fadd (.t 2) 1) 11 false,
   .q 13 (.load 2 true (.t 12)) 11 false,
   .q 14 (.fadd (.t 3) 1) 11 false,
   .q 15 (.load 2 true (.t 14)) 11 false,
   .q 16 (.call 1032 29 [(.t 13), (.t 15)]) 11 false,
   .q 17 (.un .not (.t 16)) 11 false,
   .a 18 (.pick (.t 11) (.c (.pl (.bool true))) (.t 17)),
   .a 19 (.mov (.t 18)),
   .q 20 (.fadd (.t 2) 3) 19 false,
   .q 21 (.load 1 false (.t 20)) 19 false,
   .q 22 (.fadd (.t 3) 3) 19 false,
   .q 23 (.load 1 false (.t 22)) 19 false,
   .q 24 (.call 1048 30 [(.t 21), (.t 23)]) 19 false,
   .q 25 (.un .not (.t 24)) 19 false,
   .a 26 (.pick (.t 19) (.c (.pl (.bool true))) (.t 25)),
   .a 27 (.mov (.t 26)),
   .q 28 (.fadd (.t 2) 4) 27 false,
   .q 29 (.load 1 false (.t 28)) 27 false,
   .q 30 (.len (.t 29)) 27 false,
   .q 31 (.fadd (.t 3) 4) 27 false,
   .q 32 (.load 1 false (.t 31)) 27 false,
   .q 33 (.len (.t 32)) 27 false,
   .q 34 (.bin .neq (.t 30) (.t 33)) 27 false,
   .a 35 (.pick (.t 27) (.c (.pl (.bool true))) (.t 34))])
  (.cond (.t 35) (.seq (.reg [.a 4 (.mov (.c (.pl (.bool false))))])
   .ret)
  .skip))
  (.seq (.seq (.reg [.a 36 (.fadd (.t 2) 4),
   .a 37 (.load 1 false (.t 36)),
   .a 38 (.len (.t 37)),
   .a 39 (.mov (.i 0))])
  (.block 0 (.loop [2, 3, 4, 38, 39] [0, 1, 2, 3, 4, 5, 1000, 1016]
   (.seq (.reg [.a 40 (.bin .lss (.t 39) (.t 38))])
    (.seq (.cond (.t 40) .skip
    (.exit 0))
    (.seq (.block 1 (.seq (.reg [.a 41 (.mov (.t 39)),
   .a 5 (.mov (.t 41))])
     (.seq (.drw [.a 42 (.fadd (.t 2) 4),
   .a 43 (.load 1 false (.t 42)),
   .a 44 (.mov (.t 5)),
   .a 45 (.iadd 5 (.t 43) (.t 44)),
   .a 46 (.load 5 true (.t 45)),
   .a 47 (.fadd (.t 3) 4),
   .a 48 (.load 1 false (.t 47)),
   .a 49 (.mov (.t 5)),
   .a 50 (.iadd 5 (.t 48) (.t 49)),
   .a 51 (.load 5 true (.t 50)),
   .a 52 (.call 1064 11 [(.t 46), (.t 51)]),
   .a 53 (.un .not (.t 52))] [0, 1, 0, 7, 15, 0, 32, 0, 224, 480, 1023, 2047])
     (.cond (.t 53) (.seq (.reg [.a 4 (.mov (.c (.pl (.bool false))))])
      .ret)
     .skip))))
    (.reg [.a 54 (.bin .add (.t 39) (.i 1)),
   .a 39 (.mov (.t 54))])))))))
  (.seq (.reg [.a 4 (.mov (.c (.pl (.bool true))))])
  .ret))))⟩
def r12 : RFunc := ⟨1, [.cell 2 5 true],
  (.seq (.reg [.a 2 (.alloc 1000 5 (.agg [.pl (.int .i64 0), .pl (.int .i64 0), .pl (.int .i64 0), .own 1001 0, .own 1002 0]) [(1001, 2), (1002, 5)])])
  (.seq (.reg [.a 6 (.mov (.t 0)),
   .a 7 (.call 1016 31 [(.t 6)]),
   .a 5 (.mov (.t 7)),
   .a 8 (.ext (.t 5) 0),
   .a 9 (.ext (.t 5) 1),
   .a 3 (.alloc 1032 5 (.agg [.pl (.int .i64 0), .pl (.int .i64 0), .pl (.int .i64 0), .own 1033 0, .own 1034 0]) [(1033, 2), (1034, 5)]),
   .n (.store 5 (.t 3) (.t 8)),
   .a 4 (.mov (.t 9))])
  (.seq (.reg [.a 10 (.load 5 true (.t 3)),
   .n (.store 5 (.t 2) (.t 10))])
  .ret)))⟩
def r13 : RFunc := ⟨2, [.cell 4 5 true],
  (.seq (.reg [.a 2 (.box 1000 5 (.t 0)),
   .a 3 (.box 1016 5 (.t 1)),
   .a 4 (.alloc 1032 5 (.agg [.pl (.int .i64 0), .pl (.int .i64 0), .own 1033 0, .own 1034 0, .own 1035 0]) [(1033, 2), (1034, 5), (1035, 5)])])
  (.seq (.drw [.a 5 (.load 5 true (.t 2)),
   .a 6 (.call 1048 32 [(.t 5)]),
   .a 7 (.load 5 true (.t 3)),
   .a 8 (.call 1064 32 [(.t 7)]),
   .a 9 (.bsl 5 [(.t 6), (.t 8)]),
   .a 10 (.build [.pl (.int .i64 0), .pl (.int .i64 0), .own 1081 0, .pl (.sl 5 []), .own 1082 0] [(1081, 2), (1082, 5)] [(0, 1, (.i 1)), (3, 1, (.t 9))]),
   .n (.store 5 (.t 4) (.t 10))] [0, 1, 0, 7, 15, 31, 63])
  .ret))⟩
def r14 : RFunc := ⟨3, [.cell 6 5 true],
  (.seq (.reg [.a 4 (.box 1000 5 (.t 1)),
   .a 5 (.box 1016 5 (.t 2)),
   .a 6 (.alloc 1032 5 (.agg [.pl (.int .i64 0), .pl (.int .i64 0), .own 1033 0, .own 1034 0, .own 1035 0]) [(1033, 2), (1034, 5), (1035, 5)])])
  (.seq (.drw [.a 7 (.mov (.t 0)),
   .a 8 (.load 5 true (.t 4)),
   .a 9 (.call 1048 28 [(.t 8)]),
   .a 10 (.load 5 true (.t 5)),
   .a 11 (.call 1064 28 [(.t 10)]),
   .a 12 (.bsl 5 [(.t 9), (.t 11)]),
   .a 13 (.build [.pl (.int .i64 0), .pl (.int .i64 0), .own 1081 0, .own 1082 0, .pl (.sl 5 [])] [(1081, 2), (1082, 5)] [(0, 1, (.t 7)), (4, 1, (.t 12))]),
   .n (.store 5 (.t 6) (.t 13))] [0, 0, 2, 0, 14, 30, 63, 127])
  .ret))⟩
def r16 : RFunc := ⟨2, [.tmp 4],
  (.seq (.reg [.a 4 (.mov (.i 0))])
  (.seq (.seq (.drw [.a 6 (.mov (.t 1)),
   .a 7 (.bin .lss (.t 6) (.i 1)),
   .a 8 (.mov (.t 7)),
   .q 9 (.mov (.t 0)) 8 false,
   .q 10 (.chk (.t 9)) 8 false,
   .q 11 (.fadd (.t 10) 1) 8 false,
   .q 12 (.load 1 false (.t 11)) 8 false,
   .q 13 (.mov (.t 0)) 8 false,
   .q 14 (.chk (.t 13)) 8 false,
   .q 15 (.fadd (.t 14) 0) 8 false,
   .q 16 (.load 1 false (.t 15)) 8 false,
   .q 17 (.len (.t 16)) 8 false,
   .q 18 (.bin .geq (.t 12) (.t 17)) 8 false,
   .a 19 (.pick (.t 8) (.c (.pl (.bool true))) (.t 18))] [0, 1, 3, 7, 15, 31, 63, 7, 135, 391, 903, 1927, 4095, 8191])
  (.cond (.t 19) (.seq (.reg [.a 4 (.mov (.i 0))])
   .ret)
  .skip))
  (.seq (.drw [.a 20 (.mov (.t 0)),
   .a 21 (.chk (.t 20)),
   .a 22 (.fadd (.t 21) 0),
   .a 23 (.load 1 false (.t 22)),
   .a 24 (.mov (.t 0)),
   .a 25 (.chk (.t 24)),
   .a 26 (.fadd (.t 25) 1),
   .a 27 (.load 1 false (.t 26)),
   .a 28 (.iadd 1 (.t 23) (.t 27)),
   .a 29 (.load 1 false (.t 28)),
   .a 5 (.mov (.t 29))] [0, 1, 3, 7, 0, 16, 48, 112, 255, 511, 1023])
  (.seq (.reg [.a 30 (.mov (.t 0)),
   .a 31 (.chk (.t 30)),
   .a 32 (.fadd (.t 31) 1),
   .a 33 (.load 1 false (.t 32)),
   .a 34 (.bin .add (.t 33) (.i 1)),
   .a 35 (.chk (.t 30)),
   .a 36 (.fadd (.t 35) 1),
   .n (.store 1 (.t 36) (.t 34))])
  (.seq (.reg [.a 37 (.mov (.t 5)),
   .a 38 (.mov (.t 1)),
   .a 39 (.call 1000 35 [(.t 37), (.t 38)]),
   .a 4 (.mov (.t 39))])
  .ret)))))⟩
def r17 : RFunc := ⟨2, [.cell 4 2 true],
  (.seq (.reg [.a 4 (.alloc 1000 2 (.agg [.pl (.int .i64 0), .own 1001 0]) [(1001, 2)])])
  (.seq (.seq (.reg [.a 5 (.mov (.t 0)),
   .a 6 (.call 1016 16 [(.t 5), (.i 7)])])
  (.block 0 (.seq (.seq (.reg [.a 8 (.bin .eql (.t 6) (.i 0)),
   .a 7 (.mov (.t 8))])
   (.cond (.t 7) .skip
   (.seq (.reg [.a 9 (.bin .eql (.t 6) (.i 1)),
   .a 7 (.mov (.t 9))])
    (.cond (.t 7) .skip
    (.reg [.a 10 (.bin .eql (.t 6) (.i 2)),
   .a 7 (.mov (.t 10))])))))
   (.cond (.t 7) (.seq (.reg [.a 11 (.call 1032 20 []),
   .n (.store 2 (.t 4) (.t 11))])
    .ret)
   (.seq (.reg [.a 13 (.bin .eql (.t 6) (.i 3)),
   .a 12 (.mov (.t 13))])
    (.cond (.t 12) (.seq (.reg [.a 14 (.call 1048 36 []),
   .n (.store 2 (.t 4) (.t 14))])
     .ret)
    (.seq (.reg [.a 16 (.bin .eql (.t 6) (.i 4)),
   .a 15 (.mov (.t 16))])
     (.cond (.t 15) (.seq (.reg [.a 17 (.call 1064 37 []),
   .n (.store 2 (.t 4) (.t 17))])
      .ret)
     (.seq (.reg [.a 19 (.bin .eql (.t 6) (.i 5)),
   .a 18 (.mov (.t 19))])
      (.cond (.t 18) (.seq (.reg [.a 20 (.mov (.t 1)),
   .a 21 (.bin .gtr (.t 20) (.i 0))])
       (.cond (.t 21) (.seq (.reg [.a 22 (.mov (.t 0)),
   .a 23 (.mov (.t 1)),
   .a 24 (.bin .sub (.t 23) (.i 1)),
   .a 25 (.call 1080 17 [(.t 22), (.t 24)]),
   .a 26 (.mov (.t 0)),
   .a 27 (.mov (.t 1)),
   .a 28 (.bin .sub (.t 27) (.i 1)),
   .a 29 (.call 1096 17 [(.t 26), (.t 28)]),
   .a 30 (.call 1112 38 [(.t 25), (.t 29)]),
   .n (.store 2 (.t 4) (.t 30))])
        .ret)
       .skip))
      (.seq (.reg [.a 32 (.bin .eql (.t 6) (.i 6)),
   .a 31 (.mov (.t 32))])
       (.cond (.t 31) (.seq (.reg [.a 33 (.mov (.t 1)),
   .a 34 (.bin .gtr (.t 33) (.i 0))])
        (.cond (.t 34) (.seq (.reg [.a 35 (.mov (.t 0)),
   .a 36 (.mov (.t 1)),
   .a 37 (.bin .sub (.t 36) (.i 1)),
   .a 38 (.call 1128 17 [(.t 35), (.t 37)]),
   .a 39 (.mov (.t 0)),
   .a 40 (.mov (.t 1)),
   .a 41 (.bin .sub (.t 40) (.i 1)),
   .a 42 (.call 1144 17 [(.t 39), (.t 41)]),
   .a 43 (.call 1160 39 [(.t 38), (.t 42)]),
   .n (.store 2 (.t 4) (.t 43))])
         .ret)
        .skip))
       .skip))))))))))))
  (.seq (.reg [.a 44 (.call 1176 20 []),
   .n (.store 2 (.t 4) (.t 44))])
  .ret)))⟩
def r18 : RFunc := ⟨2, [.tmp 4],
  (.seq (.reg [.a 4 (.nilb 1000 2)])
  (.seq (.reg [.a 5 (.mov (.t 0)),
   .a 6 (.appn 1016 2 (.t 5)),
   .a 7 (.mov (.t 1)),
   .a 8 (.app 2 (.t 6) (.t 7)),
   .a 4 (.mov (.t 8))])
  .ret))⟩
def r19 : RFunc := ⟨3, [.cell 6 5 true],
  (.seq (.reg [.a 4 (.box 1000 2 (.t 1)),
   .a 5 (.box 1016 5 (.t 2)),
   .a 6 (.alloc 1032 5 (.agg [.pl (.int .i64 0), .pl (.int .i64 0), .own 1033 0, .own 1034 0, .own 1035 0]) [(1033, 2), (1034, 5), (1035, 5)])])
  (.seq (.drw [.a 7 (.mov (.t 0)),
   .a 8 (.load 2 true (.t 4)),
   .a 9 (.call 1048 40 [(.t 8)]),
   .a 10 (.load 5 true (.t 5)),
   .a 11 (.call 1064 28 [(.t 10)]),
   .a 12 (.bsl 5 [(.t 11)]),
   .a 13 (.build [.pl (.int .i64 0), .pl (.int .i64 0), .pl (.sl 2 []), .own 1081 0, .pl (.sl 5 [])] [(1081, 5)] [(0, 1, (.t 7)), (1, 2, (.t 9)), (4, 1, (.t 12))]),
   .n (.store 5 (.t 6) (.t 13))] [0, 0, 2, 0, 14, 30, 63, 127])
  .ret))⟩
def r20 : RFunc := ⟨0, [.cell 0 2 true],
  (.seq (.reg [.a 0 (.alloc 1000 2 (.agg [.pl (.int .i64 0), .own 1001 0]) [(1001, 2)])])
  (.seq (.reg [.a 1 (.build [.pl (.int .i64 0), .own 1017 0] [(1017, 2)] [(0, 1, (.i 1))]),
   .n (.store 2 (.t 0) (.t 1))])
  .ret))⟩
def r21 : RFunc := ⟨4, [.cell 8 5 true],
  (.seq (.reg [.a 6 (.box 1000 2 (.t 2)),
   .a 8 (.alloc 1016 5 (.agg [.pl (.int .i64 0), .pl (.int .i64 0), .pl (.int .i64 0), .own 1017 0, .own 1018 0]) [(1017, 2), (1018, 5)])])
  (.seq (.reg [.a 17 (.mov (.t 1)),
   .a 18 (.load 2 true (.t 6)),
   .a 19 (.call 1032 41 [(.t 17), (.t 18)]),
   .a 9 (.mov (.t 19))])
  (.seq (.seq (.reg [.a 20 (.mov (.t 9)),
   .a 21 (.len (.t 20)),
   .a 22 (.bin .gtr (.t 21) (.i 0)),
   .a 23 (.mov (.t 22)),
   .q 24 (.mov (.t 0)) 23 true,
   .q 25 (.call 1048 16 [(.t 24), (.i 3)]) 23 true,
   .q 26 (.bin .gtr (.t 25) (.i 0)) 23 true,
   .a 27 (.pick (.t 23) (.t 26) (.c (.pl (.bool false))))])
  (.cond (.t 27) (.seq (.reg [.a 28 (.mov (.t 9)),
   .a 29 (.mov (.t 0)),
   .a 30 (.mov (.t 9)),
   .a 31 (.len (.t 30)),
   .a 32 (.call 1064 16 [(.t 29), (.t 31)]),
   .a 33 (.iadd 1 (.t 28) (.t 32)),
   .a 34 (.load 1 false (.t 33)),
   .a 35 (.call 1080 42 [(.t 34)]),
   .n (.store 5 (.t 8) (.t 35))])
   .ret)
  .skip))
  (.seq (.seq (.reg [.a 36 (.mov (.t 3)),
   .a 37 (.bin .gtr (.t 36) (.i 0))])
  (.cond (.t 37) (.seq (.reg [.a 38 (.mov (.t 0)),
   .a 39 (.call 1096 16 [(.t 38), (.i 8)])])
   (.block 0 (.seq (.reg [.a 41 (.bin .eql (.t 39) (.i 0)),
   .a 40 (.mov (.t 41))])
    (.cond (.t 40) (.seq (.reg [.a 42 (.mov (.t 0)),
   .a 43 (.call 1112 17 [(.t 42), (.i 0)]),
   .a 10 (.alloc 1128 2 (.agg [.pl (.int .i64 0), .own 1129 0]) [(1129, 2)]),
   .n (.store 2 (.t 10) (.t 43))])
     (.seq (.drw [.a 44 (.load 2 true (.t 10)),
   .a 45 (.mov (.t 0)),
   .a 46 (.mov (.t 1)),
   .a 47 (.load 2 true (.t 10)),
   .a 48 (.bsl 2 [(.t 47)]),
   .a 49 (.call 1144 18 [(.t 46), (.t 48)]),
   .a 50 (.load 2 true (.t 6)),
   .a 51 (.mov (.t 3)),
   .a 52 (.bin .sub (.t 51) (.i 1)),
   .a 53 (.call 1160 21 [(.t 45), (.t 49), (.t 50), (.t 52)]),
   .a 54 (.bsl 5 [(.t 53)]),
   .a 55 (.call 1176 43 [(.i 2), (.t 44), (.t 54)]),
   .a 56 (.mov (.t 0)),
   .a 57 (.mov (.t 1)),
   .a 58 (.load 2 true (.t 10)),
   .a 59 (.mov (.t 3)),
   .a 60 (.bin .sub (.t 59) (.i 1)),
   .a 61 (.call 1192 21 [(.t 56), (.t 57), (.t 58), (.t 60)]),
   .a 62 (.bsl 5 [(.t 55), (.t 61)]),
   .a 63 (.call 1208 44 [(.i 3), (.t 62)]),
   .n (.store 5 (.t 8) (.t 63))] [0, 0, 0, 0, 8, 28, 0, 0, 128, 510, 1022, 2047, 0, 0, 0, 0, 32768, 131071, 262143, 524287, 1048575])
     .ret))
    (.seq (.reg [.a 65 (.bin .eql (.t 39) (.i 1)),
   .a 64 (.mov (.t 65))])
     (.cond (.t 64) (.seq (.reg [.a 66 (.mov (.t 0)),
   .a 67 (.call 1224 17 [(.t 66), (.i 0)]),
   .a 11 (.alloc 1240 2 (.agg [.pl (.int .i64 0), .own 1241 0]) [(1241, 2)]),
   .n (.store 2 (.t 11) (.t 67))])
      (.seq (.drw [.a 68 (.mov (.t 0)),
   .a 69 (.mov (.t 1)),
   .a 70 (.load 2 true (.t 6)),
   .a 71 (.mov (.t 3)),
   .a 72 (.bin .sub (.t 71) (.i 1)),
   .a 73 (.call 1256 21 [(.t 68), (.t 69), (.t 70), (.t 72)]),
   .a 74 (.mov (.t 0)),
   .a 75 (.mov (.t 1)),
   .a 76 (.load 2 true (.t 11)),
   .a 77 (.mov (.t 3)),
   .a 78 (.bin .sub (.t 77) (.i 1)),
   .a 79 (.call 1272 21 [(.t 74), (.t 75), (.t 76), (.t 78)]),
   .a 80 (.bsl 5 [(.t 73), (.t 79)]),
   .a 81 (.call 1288 44 [(.i 10), (.t 80)]),
   .a 82 (.bsl 5 [(.t 81)]),
   .a 83 (.call 1304 44 [(.i 11), (.t 82)]),
   .n (.store 5 (.t 8) (.t 83))] [0, 0, 0, 0, 8, 31, 0, 0, 0, 0, 512, 2047, 4095, 8191, 16383, 32767, 65535])
      .ret))
     (.seq (.reg [.a 85 (.bin .eql (.t 39) (.i 2)),
   .a 84 (.mov (.t 85))])
      (.cond (.t 84) (.seq (.drw [.a 86 (.call 1320 20 []),
   .a 87 (.load 2 true (.t 6)),
   .a 88 (.mov (.t 0)),
   .a 89 (.mov (.t 1)),
   .a 90 (.call 1336 20 []),
   .a 91 (.load 2 true (.t 6)),
   .a 92 (.bsl 2 [(.t 90), (.t 91)]),
   .a 93 (.call 1352 18 [(.t 89), (.t 92)]),
   .a 94 (.load 2 true (.t 6)),
   .a 95 (.mov (.t 3)),
   .a 96 (.bin .sub (.t 95) (.i 1)),
   .a 97 (.call 1368 21 [(.t 88), (.t 93), (.t 94), (.t 96)]),
   .a 98 (.bsl 5 [(.t 97)]),
   .a 99 (.call 1384 43 [(.i 2), (.t 87), (.t 98)]),
   .a 100 (.bsl 5 [(.t 99)]),
   .a 101 (.call 1400 43 [(.i 2), (.t 86), (.t 100)]),
   .a 12 (.alloc 1416 5 (.agg [.pl (.int .i64 0), .pl (.int .i64 0), .pl (.int .i64 0), .own 1417 0, .own 1418 0]) [(1417, 2), (1418, 5)]),
   .n (.store 5 (.t 12) (.t 101))] [0, 0, 0, 0, 1, 0, 49, 121, 0, 0, 512, 2045, 4093, 8191, 16383, 32767, 0, 131071])
       (.seq (.drw [.a 102 (.load 2 true (.t 6)),
   .a 103 (.mov (.t 0)),
   .a 104 (.mov (.t 1)),
   .a 105 (.load 2 true (.t 6)),
   .a 106 (.mov (.t 3)),
   .a 107 (.bin .sub (.t 106) (.i 1)),
   .a 108 (.call 1432 21 [(.t 103), (.t 104), (.t 105), (.t 107)]),
   .a 109 (.load 5 true (.t 12)),
   .a 110 (.mov (.t 0)),
   .a 111 (.call 1448 16 [(.t 110), (.i 3)]),
   .a 112 (.call 1464 12 [(.t 111)]),
   .a 113 (.bsl 5 [(.t 108), (.t 109), (.t 112)]),
   .a 114 (.call 1480 43 [(.i 6), (.t 102), (.t 113)]),
   .n (.store 5 (.t 8) (.t 114))] [0, 0, 0, 0, 0, 16, 62, 0, 0, 382, 894, 2046, 4095, 8191])
       .ret))
      (.seq (.reg [.a 116 (.bin .eql (.t 39) (.i 3)),
   .a 115 (.mov (.t 116))])
       (.cond (.t 115) (.seq (.drw [.a 117 (.call 1496 20 []),
   .a 118 (.call 1512 36 []),
   .a 119 (.load 2 true (.t 6)),
   .a 120 (.mov (.t 0)),
   .a 121 (.mov (.t 1)),
   .a 122 (.call 1528 20 []),
   .a 123 (.call 1544 36 []),
   .a 124 (.load 2 true (.t 6)),
   .a 125 (.bsl 2 [(.t 122), (.t 123), (.t 124)]),
   .a 126 (.call 1560 18 [(.t 121), (.t 125)]),
   .a 127 (.load 2 true (.t 6)),
   .a 128 (.mov (.t 3)),
   .a 129 (.bin .sub (.t 128) (.i 1)),
   .a 130 (.call 1576 21 [(.t 120), (.t 126), (.t 127), (.t 129)]),
   .a 131 (.bsl 5 [(.t 130)]),
   .a 132 (.call 1592 43 [(.i 2), (.t 119), (.t 131)]),
   .a 133 (.bsl 5 [(.t 132)]),
   .a 134 (.call 1608 43 [(.i 2), (.t 118), (.t 133)]),
   .a 135 (.bsl 5 [(.t 134)]),
   .a 136 (.call 1624 43 [(.i 2), (.t 117), (.t 135)]),
   .a 13 (.alloc 1640 5 (.agg [.pl (.int .i64 0), .pl (.int .i64 0), .pl (.int .i64 0), .own 1641 0, .own 1642 0]) [(1641, 2), (1642, 5)]),
   .n (.store 5 (.t 13) (.t 136))] [0, 1, 0, 0, 0, 3, 35, 0, 227, 499, 0, 0, 2048, 8187, 16379, 32767, 65535, 131071, 262143, 524287, 0, 2097151])
        (.seq (.drw [.a 137 (.load 2 true (.t 6)),
   .a 138 (.mov (.t 0)),
   .a 139 (.mov (.t 1)),
   .a 140 (.load 2 true (.t 6)),
   .a 141 (.mov (.t 3)),
   .a 142 (.bin .sub (.t 141) (.i 1)),
   .a 143 (.call 1656 21 [(.t 138), (.t 139), (.t 140), (.t 142)]),
   .a 144 (.load 5 true (.t 13)),
   .a 145 (.mov (.t 0)),
   .a 146 (.mov (.t 1)),
   .a 147 (.call 1672 36 []),
   .a 148 (.mov (.t 3)),
   .a 149 (.bin .sub (.t 148) (.i 1)),
   .a 150 (.call 1688 21 [(.t 145), (.t 146), (.t 147), (.t 149)]),
   .a 151 (.bsl 5 [(.t 143), (.t 144), (.t 150)]),
   .a 152 (.call 1704 43 [(.i 9), (.t 137), (.t 151)]),
   .n (.store 5 (.t 8) (.t 152))] [0, 0, 0, 0, 0, 16, 62, 0, 0, 0, 126, 0, 2048, 8062, 16382, 32767, 65535])
        .ret))
       (.seq (.reg [.a 154 (.bin .eql (.t 39) (.i 4)),
   .a 153 (.mov (.t 154))])
        (.cond (.t 153) (.seq (.reg [.a 155 (.mov (.t 0)),
   .a 156 (.call 1720 17 [(.t 155), (.i 0)]),
   .a 14 (.alloc 1736 2 (.agg [.pl (.int .i64 0), .own 1737 0]) [(1737, 2)]),
   .n (.store 2 (.t 14) (.t 156))])
         (.seq (.drw [.a 157 (.mov (.t 0)),
   .a 158 (.mov (.t 1)),
   .a 159 (.load 2 true (.t 14)),
   .a 160 (.mov (.t 3)),
   .a 161 (.bin .sub (.t 160) (.i 1)),
   .a 162 (.call 1752 21 [(.t 157), (.t 158), (.t 159), (.t 161)]),
   .a 163 (.mov (.t 0)),
   .a 164 (.mov (.t 1)),
   .a 165 (.load 2 true (.t 6)),
   .a 166 (.mov (.t 3)),
   .a 167 (.bin .sub (.t 166) (.i 1)),
   .a 168 (.call 1768 21 [(.t 163), (.t 164), (.t 165), (.t 167)]),
   .a 169 (.bsl 5 [(.t 162), (.t 168)]),
   .a 170 (.call 1784 44 [(.i 10), (.t 169)]),
   .a 171 (.bsl 5 [(.t 170)]),
   .a 172 (.call 1800 44 [(.i 12), (.t 171)]),
   .n (.store 5 (.t 8) (.t 172))] [0, 0, 0, 0, 8, 31, 0, 0, 0, 0, 512, 2047, 4095, 8191, 16383, 32767, 65535])
         .ret))
        (.seq (.reg [.a 174 (.bin .eql (.t 39) (.i 5)),
   .a 173 (.mov (.t 174))])
         (.cond (.t 173) (.seq (.reg [.a 175 (.mov (.t 1)),
   .a 176 (.len (.t 175)),
   .a 177 (.mov (.i 0))])
          (.block 1 (.loop [0, 1, 3, 6, 8, 176, 177] [0, 1, 2, 3, 4, 5, 1000, 1016, 1017, 1018, 1129, 1241, 1417, 1418, 1641, 1642, 1737]
           (.seq (.reg [.a 178 (.bin .lss (.t 177) (.t 176))])
            (.seq (.cond (.t 178) .skip
            (.exit 1))
            (.seq (.block 2 (.seq (.reg [.a 179 (.mov (.t 177)),
   .a 15 (.mov (.t 179))])
             (.seq (.reg [.a 180 (.mov (.t 1)),
   .a 181 (.mov (.t 1)),
   .a 182 (.len (.t 181)),
   .a 183 (.bin .sub (.t 182) (.i 1)),
   .a 184 (.mov (.t 15)),
   .a 185 (.bin .sub (.t 183) (.t 184)),
   .a 186 (.iadd 2 (.t 180) (.t 185)),
   .a 187 (.load 2 true (.t 186)),
   .a 16 (.alloc 1816 2 (.agg [.pl (.int .i64 0), .own 1817 0]) [(1817, 2)]),
   .n (.store 2 (.t 16) (.t 187))])
             (.seq (.drw [.a 188 (.fadd (.t 16) 0),
   .a 189 (.load 1 false (.t 188)),
   .a 190 (.bin .eql (.t 189) (.i 4)),
   .a 191 (.mov (.t 190)),
   .q 192 (.fadd (.t 16) 1) 191 true,
   .q 193 (.load 1 false (.t 192)) 191 true,
   .q 194 (.iadd 2 (.t 193) (.i 1)) 191 true,
   .q 195 (.load 2 true (.t 194)) 191 true,
   .q 196 (.load 2 true (.t 6)) 191 true,
   .q 197 (.call 1832 29 [(.t 195), (.t 196)]) 191 true,
   .a 198 (.pick (.t 191) (.t 197) (.c (.pl (.bool false))))] [0, 1, 3, 7, 15, 31, 63, 127, 15, 511, 1023])
             (.cond (.t 198) (.seq (.drw [.a 199 (.mov (.t 15)),
   .a 200 (.call 1848 42 [(.t 199)]),
   .a 201 (.mov (.t 0)),
   .a 202 (.mov (.t 1)),
   .a 203 (.fadd (.t 16) 1),
   .a 204 (.load 1 false (.t 203)),
   .a 205 (.iadd 2 (.t 204) (.i 0)),
   .a 206 (.load 2 true (.t 205)),
   .a 207 (.mov (.t 3)),
   .a 208 (.bin .sub (.t 207) (.i 1)),
   .a 209 (.call 1864 21 [(.t 201), (.t 202), (.t 206), (.t 208)]),
   .a 210 (.bsl 5 [(.t 200), (.t 209)]),
   .a 211 (.call 1880 44 [(.i 3), (.t 210)]),
   .n (.store 5 (.t 8) (.t 211))] [0, 1, 0, 0, 0, 16, 48, 112, 0, 256, 1023, 2047, 4095, 8191])
              .ret)
             .skip)))))
            (.reg [.a 212 (.bin .add (.t 177) (.i 1)),
   .a 177 (.mov (.t 212))])))))))
         .skip))))))))))))))
  .skip))
  (.seq (.seq (.reg [.a 213 (.fadd (.t 6) 0),
   .a 214 (.load 1 false (.t 213))])
  (.block 3 (.seq (.reg [.a 216 (.bin .eql (.t 214) (.i 1)),
   .a 215 (.mov (.t 216))])
   (.cond (.t 215) (.seq (.seq (.reg [.a 217 (.mov (.t 3)),
   .a 218 (.bin .gtr (.t 217) (.i 0))])
    (.cond (.t 218) (.seq (.reg [.a 219 (.mov (.t 0)),
   .a 220 (.call 1896 16 [(.t 219), (.i 5)])])
     (.block 4 (.seq (.reg [.a 222 (.bin .eql (.t 220) (.i 0)),
   .a 221 (.mov (.t 222))])
      (.cond (.t 221) (.seq (.reg [.a 223 (.mov (.t 0)),
   .a 224 (.mov (.t 1)),
   .a 225 (.load 2 true (.t 6)),
   .a 226 (.mov (.t 3)),
   .a 227 (.bin .sub (.t 226) (.i 1)),
   .a 228 (.call 1912 21 [(.t 223), (.t 224), (.t 225), (.t 227)]),
   .a 229 (.bsl 5 [(.t 228)]),
   .a 230 (.call 1928 44 [(.i 5), (.t 229)]),
   .n (.store 5 (.t 8) (.t 230))])
       .ret)
      (.seq (.reg [.a 232 (.bin .eql (.t 220) (.i 1)),
   .a 231 (.mov (.t 232))])
       (.cond (.t 231) (.seq (.drw [.a 233 (.call 1944 45 []),
   .a 234 (.mov (.t 0)),
   .a 235 (.mov (.t 1)),
   .a 236 (.load 2 true (.t 6)),
   .a 237 (.mov (.t 3)),
   .a 238 (.bin .sub (.t 237) (.i 1)),
   .a 239 (.call 1960 21 [(.t 234), (.t 235), (.t 236), (.t 238)]),
   .a 240 (.mov (.t 0)),
   .a 241 (.mov (.t 1)),
   .a 242 (.load 2 true (.t 6)),
   .a 243 (.mov (.t 3)),
   .a 244 (.bin .sub (.t 243) (.i 1)),
   .a 245 (.call 1976 21 [(.t 240), (.t 241), (.t 242), (.t 244)]),
   .a 246 (.bsl 5 [(.t 239), (.t 245)]),
   .a 247 (.call 1992 46 [(.t 233), (.t 246)]),
   .n (.store 5 (.t 8) (.t 247))] [0, 0, 0, 0, 0, 16, 63, 0, 0, 0, 0, 1024, 4095, 8191, 16383, 32767])
        .ret)
       (.seq (.reg [.a 249 (.bin .eql (.t 220) (.i 2)),
   .a 248 (.mov (.t 249))])
        (.cond (.t 248) (.seq (.drw [.a 250 (.call 2008 47 []),
   .a 251 (.mov (.t 0)),
   .a 252 (.mov (.t 1)),
   .a 253 (.load 2 true (.t 6)),
   .a 254 (.mov (.t 3)),
   .a 255 (.bin .sub (.t 254) (.i 1)),
   .a 256 (.call 2024 21 [(.t 251), (.t 252), (.t 253), (.t 255)]),
   .a 257 (.mov (.t 0)),
   .a 258 (.mov (.t 1)),
   .a 259 (.load 2 true (.t 6)),
   .a 260 (.mov (.t 3)),
   .a 261 (.bin .sub (.t 260) (.i 1)),
   .a 262 (.call 2040 21 [(.t 257), (.t 258), (.t 259), (.t 261)]),
   .a 263 (.bsl 5 [(.t 256), (.t 262)]),
   .a 264 (.call 2056 46 [(.t 250), (.t 263)]),
   .n (.store 5 (.t 8) (.t 264))] [0, 0, 0, 0, 0, 16, 63, 0, 0, 0, 0, 1024, 4095, 8191, 16383, 32767])
         .ret)
        .skip))))))))
    .skip))
    (.seq (.reg [.a 265 (.mov (.t 0)),
   .a 266 (.call 2072 16 [(.t 265), (.i 3)]),
   .a 267 (.call 2088 12 [(.t 266)]),
   .n (.store 5 (.t 8) (.t 267))])
    .ret))
   (.seq (.reg [.a 269 (.bin .eql (.t 214) (.i 2)),
   .a 268 (.mov (.t 269))])
    (.cond (.t 268) (.seq (.seq (.reg [.a 270 (.mov (.t 3)),
   .a 271 (.bin .gtr (.t 270) (.i 0)),
   .a 272 (.mov (.t 271)),
   .q 273 (.mov (.t 0)) 272 true,
   .q 274 (.call 2104 16 [(.t 273), (.i 2)]) 272 true,
   .q 275 (.bin .eql (.t 274) (.i 0)) 272 true,
   .a 276 (.pick (.t 272) (.t 275) (.c (.pl (.bool false))))])
     (.cond (.t 276) (.seq (.drw [.a 277 (.mov (.t 0)),
   .a 278 (.mov (.t 1)),
   .a 279 (.call 2120 20 []),
   .a 280 (.mov (.t 3)),
   .a 281 (.bin .sub (.t 280) (.i 1)),
   .a 282 (.call 2136 21 [(.t 277), (.t 278), (.t 279), (.t 281)]),
   .a 283 (.mov (.t 0)),
   .a 284 (.mov (.t 1)),
   .a 285 (.load 2 true (.t 6)),
   .a 286 (.mov (.t 3)),
   .a 287 (.bin .sub (.t 286) (.i 1)),
   .a 288 (.call 2152 21 [(.t 283), (.t 284), (.t 285), (.t 287)]),
   .a 289 (.bsl 5 [(.t 282), (.t 288)]),
   .a 290 (.call 2168 44 [(.i 8), (.t 289)]),
   .n (.store 5 (.t 8) (.t 290))] [0, 0, 0, 0, 8, 31, 0, 0, 0, 0, 512, 2047, 4095, 8191, 16383])
      .ret)
     .skip))
     (.seq (.reg [.a 291 (.call 2184 44 [(.i 7), (.c (.pl (.sl 0 [])))]),
   .n (.store 5 (.t 8) (.t 291))])
     .ret))
    (.seq (.reg [.a 293 (.bin .eql (.t 214) (.i 3)),
   .a 292 (.mov (.t 293))])
     (.cond (.t 292) (.seq (.drw [.a 294 (.mov (.t 0)),
   .a 295 (.mov (.t 1)),
   .a 296 (.fadd (.t 6) 1),
   .a 297 (.load 1 false (.t 296)),
   .a 298 (.iadd 2 (.t 297) (.i 0)),
   .a 299 (.load 2 true (.t 298)),
   .a 300 (.mov (.t 3)),
   .a 301 (.bin .sub (.t 300) (.i 1)),
   .a 302 (.call 2200 21 [(.t 294), (.t 295), (.t 299), (.t 301)]),
   .a 303 (.mov (.t 0)),
   .a 304 (.mov (.t 1)),
   .a 305 (.fadd (.t 6) 1),
   .a 306 (.load 1 false (.t 305)),
   .a 307 (.iadd 2 (.t 306) (.i 1)),
   .a 308 (.load 2 true (.t 307)),
   .a 309 (.mov (.t 3)),
   .a 310 (.bin .sub (.t 309) (.i 1)),
   .a 311 (.call 2216 21 [(.t 303), (.t 304), (.t 308), (.t 310)]),
   .a 312 (.bsl 5 [(.t 302), (.t 311)]),
   .a 313 (.call 2232 44 [(.i 10), (.t 312)]),
   .n (.store 5 (.t 8) (.t 313))] [0, 0, 0, 4, 12, 28, 0, 64, 255, 0, 0, 0, 2048, 6144, 14336, 0, 32768, 131071, 262143, 524287, 1048575])
      .ret)
     (.seq (.reg [.a 315 (.bin .eql (.t 214) (.i 4)),
   .a 314 (.mov (.t 315))])
      (.cond (.t 314) (.seq (.drw [.a 316 (.fadd (.t 6) 1),
   .a 317 (.load 1 false (.t 316)),
   .a 318 (.iadd 2 (.t 317) (.i 0)),
   .a 319 (.load 2 true (.t 318)),
   .a 320 (.mov (.t 0)),
   .a 321 (.mov (.t 1)),
   .a 322 (.fadd (.t 6) 1),
   .a 323 (.load 1 false (.t 322)),
   .a 324 (.iadd 2 (.t 323) (.i 0)),
   .a 325 (.load 2 true (.t 324)),
   .a 326 (.bsl 2 [(.t 325)]),
   .a 327 (.call 2248 18 [(.t 321), (.t 326)]),
   .a 328 (.fadd (.t 6) 1),
   .a 329 (.load 1 false (.t 328)),
   .a 330 (.iadd 2 (.t 329) (.i 1)),
   .a 331 (.load 2 true (.t 330)),
   .a 332 (.mov (.t 3)),
   .a 333 (.bin .sub (.t 332) (.i 1)),
   .a 334 (.call 2264 21 [(.t 320), (.t 327), (.t 331), (.t 333)]),
   .a 335 (.bsl 5 [(.t 334)]),
   .a 336 (.call 2280 43 [(.i 2), (.t 319), (.t 335)]),
   .n (.store 5 (.t 8) (.t 336))] [0, 1, 3, 7, 0, 0, 0, 64, 192, 448, 960, 2016, 0, 4096, 12288, 28672, 0, 65536, 262128, 524272, 1048575, 2097151])
       .ret)
      .skip))))))))))
  (.seq (.reg [.a 337 (.call 2296 44 [(.i 13), (.c (.pl (.sl 0 [])))]),
   .n (.store 5 (.t 8) (.t 337))])
  .ret))))))⟩
def r22 : RFunc := ⟨2, [.tmp 4],
  (.seq (.reg [.a 2 (.box 1000 5 (.t 0)),
   .a 3 (.box 1016 5 (.t 1)),
   .a 4 (.mov (.i 0))])
  (.seq (.seq (.reg [.a 11 (.load 5 true (.t 2)),
   .a 12 (.call 1032 48 [(.t 11)]),
   .a 5 (.mov (.t 12))])
  (.seq (.reg [.a 13 (.mov (.t 5)),
   .a 14 (.bin .neq (.t 13) (.i 0))])
  (.cond (.t 14) (.seq (.reg [.a 15 (.mov (.t 5)),
   .a 4 (.mov (.t 15))])
   .ret)
  .skip)))
  (.seq (.seq (.reg [.a 16 (.load 5 true (.t 3)),
   .a 17 (.call 1048 48 [(.t 16)]),
   .a 6 (.mov (.t 17))])
  (.seq (.reg [.a 18 (.mov (.t 6)),
   .a 19 (.bin .neq (.t 18) (.i 0))])
  (.cond (.t 19) (.seq (.reg [.a 20 (.mov (.t 6)),
   .a 4 (.mov (.t 20))])
   .ret)
  .skip)))
  (.seq (.seq (.reg [.a 21 (.load 5 true (.t 3)),
   .a 22 (.call 1064 49 [(.t 21)])])
  (.cond (.t 22) (.seq (.reg [.a 4 (.mov (.i 10))])
   .ret)
  .skip))
  (.seq (.seq (.reg [.a 24 (.load 5 true (.t 2)),
   .a 25 (.call 1080 50 [(.t 24), (.i 0), (.i 1)]),
   .a 23 (.mov (.t 25)),
   .a 26 (.ext (.t 23) 0),
   .a 27 (.ext (.t 23) 1),
   .a 7 (.alloc 1096 5 (.agg [.pl (.int .i64 0), .pl (.int .i64 0), .own 1097 0, .own 1098 0, .own 1099 0]) [(1097, 2), (1098, 5), (1099, 5)]),
   .n (.store 5 (.t 7) (.t 26)),
   .a 8 (.mov (.t 27))])
  (.seq (.reg [.a 28 (.mov (.t 8)),
   .a 29 (.bin .neq (.t 28) (.i 0))])
  (.cond (.t 29) (.seq (.reg [.a 30 (.mov (.t 8)),
   .a 4 (.mov (.t 30))])
   .ret)
  .skip)))
  (.seq (.reg [.a 32 (.load 5 true (.t 2)),
   .a 33 (.call 1112 51 [(.t 32)]),
   .a 31 (.mov (.t 33)),
   .a 34 (.ext (.t 31) 0),
   .a 35 (.ext (.t 31) 1),
   .a 9 (.mov (.t 34)),
   .a 10 (.mov (.t 35))])
  (.seq (.seq (.reg [.a 36 (.load 5 true (.t 3)),
   .a 37 (.mov (.t 9)),
   .a 38 (.call 1128 52 [(.t 36), (.t 37)]),
   .a 39 (.bin .gtr (.t 38) (.i 4096))])
  (.cond (.t 39) (.seq (.reg [.a 4 (.mov (.i 4))])
   .ret)
  .skip))
  (.seq (.reg [.a 4 (.mov (.i 0))])
  .ret))))))))⟩
def r23 : RFunc := ⟨1, [.tmp 2],
  (.seq (.reg [.a 1 (.box 1000 5 (.t 0)),
   .a 2 (.mov (.c (.nilp)))])
  (.seq (.reg [.a 3 (.load 5 true (.t 1)),
   .a 4 (.bslo 1016 5 [(.t 3)]),
   .a 5 (.build [.pl (.sl 5 []), .pl (.int .i64 0)] [] [(0, 1, (.t 4)), (1, 1, (.i 1048576))]),
   .a 6 (.box 1048 2 (.t 5)),
   .a 2 (.mov (.t 6))])
  .ret))⟩
def r24 : RFunc := ⟨3, [.cell 6 5 true],
  (.seq (.reg [.a 4 (.box 1000 5 (.t 1)),
   .a 6 (.alloc 1016 5 (.agg [.pl (.int .i64 0), .pl (.int .i64 0), .own 1017 0, .own 1018 0, .own 1019 0]) [(1017, 2), (1018, 5), (1019, 5)])])
  (.seq (.seq (.reg [.a 7 (.fadd (.t 4) 0),
   .a 8 (.load 1 false (.t 7))])
  (.block 0 (.seq (.reg [.a 10 (.bin .eql (.t 8) (.i 1)),
   .a 9 (.mov (.t 10))])
   (.cond (.t 9) (.seq (.drw [.a 11 (.load 5 true (.t 4)),
   .a 12 (.mov (.t 0)),
   .a 13 (.mov (.t 2)),
   .a 14 (.call 1032 53 [(.t 12), (.t 13)]),
   .a 15 (.call 1048 54 [(.t 11), (.t 14)]),
   .a 16 (.mov (.t 0)),
   .a 17 (.mov (.t 2)),
   .a 18 (.call 1064 53 [(.t 16), (.t 17)]),
   .a 19 (.call 1080 54 [(.t 15), (.t 18)]),
   .n (.store 5 (.t 6) (.t 19))] [0, 0, 0, 6, 15, 0, 0, 127, 255, 511])
    .ret)
   (.seq (.seq (.reg [.a 21 (.bin .eql (.t 8) (.i 2)),
   .a 20 (.mov (.t 21))])
    (.cond (.t 20) .skip
    (.reg [.a 22 (.bin .eql (.t 8) (.i 3)),
   .a 20 (.mov (.t 22))])))
    (.cond (.t 20) (.seq (.drw [.a 23 (.fadd (.t 4) 0),
   .a 24 (.load 1 false (.t 23)),
   .a 25 (.mov (.t 0)),
   .a 26 (.fadd (.t 4) 4),
   .a 27 (.load 1 false (.t 26)),
   .a 28 (.iadd 5 (.t 27) (.i 0)),
   .a 29 (.load 5 true (.t 28)),
   .a 30 (.mov (.t 2)),
   .a 31 (.call 1096 24 [(.t 25), (.t 29), (.t 30)]),
   .a 32 (.mov (.t 0)),
   .a 33 (.fadd (.t 4) 4),
   .a 34 (.load 1 false (.t 33)),
   .a 35 (.iadd 5 (.t 34) (.i 1)),
   .a 36 (.load 5 true (.t 35)),
   .a 37 (.mov (.t 2)),
   .a 38 (.call 1112 24 [(.t 32), (.t 36), (.t 37)]),
   .a 39 (.bsl 5 [(.t 31), (.t 38)]),
   .a 40 (.call 1128 55 [(.t 24), (.t 39)]),
   .n (.store 5 (.t 6) (.t 40))] [0, 1, 0, 0, 8, 24, 56, 0, 252, 0, 0, 1024, 3072, 7168, 0, 32764, 65532, 131071, 262143])
     .ret)
    (.seq (.reg [.a 42 (.bin .eql (.t 8) (.i 4)),
   .a 41 (.mov (.t 42))])
     (.cond (.t 41) (.seq (.drw [.a 43 (.fadd (.t 4) 1),
   .a 44 (.load 2 true (.t 43)),
   .a 45 (.mov (.t 0)),
   .a 46 (.fadd (.t 4) 4),
   .a 47 (.load 1 false (.t 46)),
   .a 48 (.iadd 5 (.t 47) (.i 0)),
   .a 49 (.load 5 true (.t 48)),
   .a 50 (.mov (.t 2)),
   .a 51 (.bin .add (.t 50) (.i 1)),
   .a 52 (.call 1144 24 [(.t 45), (.t 49), (.t 51)]),
   .a 53 (.call 1160 56 [(.i 4), (.t 44), (.t 52)]),
   .n (.store 5 (.t 6) (.t 53))] [0, 1, 0, 0, 8, 24, 56, 0, 128, 508, 1023, 2047])
      .ret)
     .skip))))))))
  (.seq (.reg [.a 54 (.mov (.t 0)),
   .a 55 (.load 5 true (.t 4)),
   .a 56 (.mov (.t 2)),
   .a 57 (.call 1176 57 [(.t 54), (.t 55), (.t 56)]),
   .a 58 (.mov (.t 0)),
   .a 59 (.mov (.t 2)),
   .a 60 (.call 1192 53 [(.t 58), (.t 59)]),
   .a 61 (.call 1208 54 [(.t 57), (.t 60)]),
   .n (.store 5 (.t 6) (.t 61))])
  .ret)))⟩
def r25 : RFunc := ⟨1, [.cell 2 5 true],
  (.seq (.reg [.a 1 (.box 1000 5 (.t 0)),
   .a 2 (.alloc 1016 5 (.agg [.pl (.int .i64 0), .pl (.int .i64 0), .own 1017 0, .own 1018 0, .own 1019 0]) [(1017, 2), (1018, 5), (1019, 5)])])
  (.seq (.reg [.a 3 (.load 5 true (.t 1)),
   .a 4 (.call 1032 58 [(.t 3), (.i 0), (.c (.fn 59 []))]),
   .n (.store 5 (.t 2) (.t 4))])
  .ret))⟩
def r28 : RFunc := ⟨1, [.cell 2 5 true],
  (.seq (.reg [.a 1 (.box 1000 5 (.t 0)),
   .a 2 (.alloc 1016 5 (.agg [.pl (.int .i64 0), .pl (.int .i64 0), .own 1017 0, .own 1018 0, .own 1019 0]) [(1017, 2), (1018, 5), (1019, 5)])])
  (.seq (.drw [.a 8 (.fadd (.t 1) 0),
   .a 9 (.load 1 false (.t 8)),
   .a 10 (.fadd (.t 1) 1),
   .a 11 (.load 2 true (.t 10)),
   .a 12 (.call 1032 40 [(.t 11)]),
   .a 13 (.build [.pl (.int .i64 0), .pl (.int .i64 0), .pl (.sl 2 []), .own 1049 0, .own 1050 0] [(1049, 5), (1050, 5)] [(0, 1, (.t 9)), (1, 2, (.t 12))]),
   .a 3 (.alloc 1064 5 (.agg [.pl (.int .i64 0), .pl (.int .i64 0), .own 1065 0, .own 1066 0, .own 1067 0]) [(1065, 2), (1066, 5), (1067, 5)]),
   .n (.store 5 (.t 3) (.t 13))] [0, 1, 0, 4, 12, 31, 0, 127])
  (.seq (.seq (.reg [.a 14 (.fadd (.t 1) 3),
   .a 15 (.load 1 false (.t 14)),
   .a 16 (.len (.t 15)),
   .a 17 (.mov (.i 0))])
  (.block 0 (.loop [1, 2, 3, 15, 16, 17] [0, 1, 2, 3, 4, 5, 1000, 1016, 1017, 1018, 1019, 1048, 1049, 1050, 1064, 1065, 1066, 1067]
   (.seq (.reg [.a 18 (.bin .lss (.t 17) (.t 16))])
    (.seq (.cond (.t 18) .skip
    (.exit 0))
    (.seq (.block 1 (.seq (.reg [.a 19 (.iadd 5 (.t 15) (.t 17)),
   .a 20 (.load 5 true (.t 19)),
   .a 5 (.alloc 1080 5 (.agg [.pl (.int .i64 0), .pl (.int .i64 0), .pl (.int .i64 0), .own 1081 0, .own 1082 0]) [(1081, 2), (1082, 5)]),
   .n (.store 5 (.t 5) (.t 20))])
     (.drw [.a 21 (.fadd (.t 3) 3),
   .a 22 (.load 1 false (.t 21)),
   .a 23 (.load 5 true (.t 5)),
   .a 24 (.call 1096 32 [(.t 23)]),
   .a 25 (.bsl 5 [(.t 24)]),
   .a 26 (.app 5 (.t 22) (.t 25)),
   .a 27 (.fadd (.t 3) 3),
   .n (.store 1 (.t 27) (.t 26))] [0, 1, 0, 4, 12, 31, 63, 127])))
    (.reg [.a 28 (.bin .add (.t 17) (.i 1)),
   .a 17 (.mov (.t 28))])))))))
  (.seq (.seq (.reg [.a 29 (.fadd (.t 1) 4),
   .a 30 (.load 1 false (.t 29)),
   .a 31 (.len (.t 30)),
   .a 32 (.mov (.i 0))])
  (.block 2 (.loop [2, 3, 30, 31, 32] [0, 1, 2, 3, 4, 5, 1016, 1017, 1018, 1019, 1048, 1049, 1050, 1064, 1065, 1066, 1067, 1081, 1082]
   (.seq (.reg [.a 33 (.bin .lss (.t 32) (.t 31))])
    (.seq (.cond (.t 33) .skip
    (.exit 2))
    (.seq (.block 3 (.seq (.reg [.a 34 (.iadd 5 (.t 30) (.t 32)),
   .a 35 (.load 5 true (.t 34)),
   .a 7 (.alloc 1112 5 (.agg [.pl (.int .i64 0), .pl (.int .i64 0), .own 1113 0, .own 1114 0, .own 1115 0]) [(1113, 2), (1114, 5), (1115, 5)]),
   .n (.store 5 (.t 7) (.t 35))])
     (.drw [.a 36 (.fadd (.t 3) 4),
   .a 37 (.load 1 false (.t 36)),
   .a 38 (.load 5 true (.t 7)),
   .a 39 (.call 1128 28 [(.t 38)]),
   .a 40 (.bsl 5 [(.t 39)]),
   .a 41 (.app 5 (.t 37) (.t 40)),
   .a 42 (.fadd (.t 3) 4),
   .n (.store 1 (.t 42) (.t 41))] [0, 1, 0, 4, 12, 31, 63, 127])))
    (.reg [.a 43 (.bin .add (.t 32) (.i 1)),
   .a 32 (.mov (.t 43))])))))))
  (.seq (.reg [.a 44 (.load 5 true (.t 3)),
   .n (.store 5 (.t 2) (.t 44))])
  .ret)))))⟩
def r29 : RFunc := ⟨2, [.tmp 4],
  (.seq (.reg [.a 2 (.box 1000 2 (.t 0)),
   .a 3 (.box 1016 2 (.t 1)),
   .a 4 (.mov (.c (.pl (.bool false))))])
  (.seq (.seq (.reg [.a 6 (.fadd (.t 2) 0),
   .a 7 (.load 1 false (.t 6)),
   .a 8 (.fadd (.t 3) 0),
   .a 9 (.load 1 false (.t 8)),
   .a 10 (.bin .neq (.t 7) (.t 9)),
   .a 11 (.mov (.t 10)),
   .q 12 (.fadd (.t 2) 1) 11 false,
   .q 13 (.load 1 false (.t 12)) 11 false,
   .q 14 (.len (.t 13)) 11 false,
   .q 15 (.fadd (.t 3) 1) 11 false,
   .q 16 (.load 1 false (.t 15)) 11 false,
   .q 17 (.len (.t 16)) 11 false,
   .q 18 (.bin .neq (.t 14) (.t 17)) 11 false,
   .a 19 (.pick (.t 11) (.c (.pl (.bool true))) (.t 18))])
  (.cond (.t 19) (.seq (.reg [.a 4 (.mov (.c (.pl (.bool false))))])
   .ret)
  .skip))
  (.seq (.seq (.reg [.a 20 (.fadd (.t 2) 1),
   .a 21 (.load 1 false (.t 20)),
   .a 22 (.len (.t 21)),
   .a 23 (.mov (.i 0))])
  (.block 0 (.loop [2, 3, 4, 22, 23] [0, 1, 2, 3, 4, 5, 1000, 1016]
   (.seq (.reg [.a 24 (.bin .lss (.t 23) (.t 22))])
    (.seq (.cond (.t 24) .skip
    (.exit 0))
    (.seq (.block 1 (.seq (.reg [.a 25 (.mov (.t 23)),
   .a 5 (.mov (.t 25))])
     (.seq (.drw [.a 26 (.fadd (.t 2) 1),
   .a 27 (.load 1 false (.t 26)),
   .a 28 (.mov (.t 5)),
   .a 29 (.iadd 2 (.t 27) (.t 28)),
   .a 30 (.load 2 true (.t 29)),
   .a 31 (.fadd (.t 3) 1),
   .a 32 (.load 1 false (.t 31)),
   .a 33 (.mov (.t 5)),
   .a 34 (.iadd 2 (.t 32) (.t 33)),
   .a 35 (.load 2 true (.t 34)),
   .a 36 (.call 1032 29 [(.t 30), (.t 35)]),
   .a 37 (.un .not (.t 36))] [0, 1, 0, 7, 15, 0, 32, 0, 224, 480, 1023, 2047])
     (.cond (.t 37) (.seq (.reg [.a 4 (.mov (.c (.pl (.bool false))))])
      .ret)
     .skip))))
    (.reg [.a 38 (.bin .add (.t 23) (.i 1)),
   .a 23 (.mov (.t 38))])))))))
  (.seq (.reg [.a 4 (.mov (.c (.pl (.bool true))))])
  .ret))))⟩
def r30 : RFunc := ⟨2, [.tmp 4],
  (.seq (.reg [.a 4 (.mov (.c (.pl (.bool false))))])
  (.seq (.seq (.reg [.a 6 (.mov (.t 0)),
   .a 7 (.len (.t 6)),
   .a 8 (.mov (.t 1)),
   .a 9 (.len (.t 8)),
   .a 10 (.bin .neq (.t 7) (.t 9))])
  (.cond (.t 10) (.seq (.reg [.a 4 (.mov (.c (.pl (.bool false))))])
   .ret)
  .skip))
  (.seq (.seq (.reg [.a 11 (.mov (.t 0)),
   .a 12 (.len (.t 11)),
   .a 13 (.mov (.i 0))])
  (.block 0 (.loop [0, 1, 4, 12, 13] [0, 1, 2, 3, 4, 5]
   (.seq (.reg [.a 14 (.bin .lss (.t 13) (.t 12))])
    (.seq (.cond (.t 14) .skip
    (.exit 0))
    (.seq (.block 1 (.seq (.reg [.a 15 (.mov (.t 13)),
   .a 5 (.mov (.t 15))])
     (.seq (.drw [.a 16 (.mov (.t 0)),
   .a 17 (.mov (.t 5)),
   .a 18 (.iadd 5 (.t 16) (.t 17)),
   .a 19 (.load 5 true (.t 18)),
   .a 20 (.mov (.t 1)),
   .a 21 (.mov (.t 5)),
   .a 22 (.iadd 5 (.t 20) (.t 21)),
   .a 23 (.load 5 true (.t 22)),
   .a 24 (.call 1000 68 [(.t 19), (.t 23)]),
   .a 25 (.un .not (.t 24))] [0, 0, 3, 7, 0, 0, 48, 112, 255, 511])
     (.cond (.t 25) (.seq (.reg [.a 4 (.mov (.c (.pl (.bool false))))])
      .ret)
     .skip))))
    (.reg [.a 26 (.bin .add (.t 13) (.i 1)),
   .a 13 (.mov (.t 26))])))))))
  (.seq (.reg [.a 4 (.mov (.c (.pl (.bool true))))])
  .ret))))⟩
def r31 : RFunc := ⟨1, [.cell 2 5 true, .tmp 3],
  (.seq (.reg [.a 2 (.alloc 1000 5 (.agg [.pl (.int .i64 0), .pl (.int .i64 0), .pl (.int .i64 0), .own 1001 0, .own 1002 0]) [(1001, 2), (1002, 5)]),
   .a 3 (.mov (.i 0))])
  (.seq (.seq (.reg [.a 4 (.mov (.t 0)),
   .a 5 (.bin .lss (.t 4) (.i 0))])
  (.cond (.t 5) (.seq (.reg [.a 6 (.build [.pl (.int .i64 0), .pl (.int .i64 0), .pl (.int .i64 0), .pl (.sl 2 []), .pl (.sl 5 [])] [] []),
   .n (.store 5 (.t 2) (.t 6)),
   .a 3 (.mov (.i 1))])
   .ret)
  .skip))
  (.seq (.seq (.reg [.a 7 (.mov (.t 0)),
   .a 8 (.bin .geq (.t 7) (.i 4096))])
  (.cond (.t 8) (.seq (.reg [.a 9 (.build [.pl (.int .i64 0), .pl (.int .i64 0), .pl (.int .i64 0), .pl (.sl 2 []), .pl (.sl 5 [])] [] []),
   .n (.store 5 (.t 2) (.t 9)),
   .a 3 (.mov (.i 4))])
   .ret)
  .skip))
  (.seq (.reg [.a 10 (.mov (.t 0)),
   .a 11 (.call 1048 69 [(.t 10)]),
   .n (.store 5 (.t 2) (.t 11)),
   .a 3 (.mov (.i 0))])
  .ret))))⟩
def r32 : RFunc := ⟨1, [.cell 2 5 true],
  (.seq (.reg [.a 1 (.box 1000 5 (.t 0)),
   .a 2 (.alloc 1016 5 (.agg [.pl (.int .i64 0), .pl (.int .i64 0), .pl (.int .i64 0), .own 1017 0, .own 1018 0]) [(1017, 2), (1018, 5)])])
  (.seq (.reg [.a 3 (.nilb 1032 5)])
  (.seq (.seq (.reg [.a 6 (.fadd (.t 1) 4),
   .a 7 (.load 1 false (.t 6)),
   .a 8 (.len (.t 7)),
   .a 9 (.mov (.i 0))])
  (.block 0 (.loop [1, 2, 3, 7, 8, 9] [0, 1, 2, 3, 4, 5, 1000, 1016, 1017, 1018, 1032]
   (.seq (.reg [.a 10 (.bin .lss (.t 9) (.t 8))])
    (.seq (.cond (.t 10) .skip
    (.exit 0))
    (.seq (.block 1 (.seq (.reg [.a 11 (.iadd 5 (.t 7) (.t 9)),
   .a 12 (.load 5 true (.t 11)),
   .a 5 (.alloc 1048 5 (.agg [.pl (.int .i64 0), .pl (.int .i64 0), .pl (.int .i64 0), .own 1049 0, .own 1050 0]) [(1049, 2), (1050, 5)]),
   .n (.store 5 (.t 5) (.t 12))])
     (.reg [.a 13 (.mov (.t 3)),
   .a 14 (.load 5 true (.t 5)),
   .a 15 (.call 1064 32 [(.t 14)]),
   .a 16 (.bsl 5 [(.t 15)]),
   .a 17 (.app 5 (.t 13) (.t 16)),
   .a 3 (.mov (.t 17))])))
    (.reg [.a 18 (.bin .add (.t 9) (.i 1)),
   .a 9 (.mov (.t 18))])))))))
  (.seq (.drw [.a 19 (.fadd (.t 1) 0),
   .a 20 (.load 1 false (.t 19)),
   .a 21 (.fadd (.t 1) 1),
   .a 22 (.load 1 false (.t 21)),
   .a 23 (.fadd (.t 1) 2),
   .a 24 (.load 2 true (.t 23)),
   .a 25 (.call 1080 40 [(.t 24)]),
   .a 26 (.mov (.t 3)),
   .a 27 (.build [.pl (.int .i64 0), .pl (.int .i64 0), .pl (.int .i64 0), .pl (.sl 2 []), .pl (.sl 5 [])] [] [(0, 1, (.t 20)), (1, 1, (.t 22)), (2, 2, (.t 25)), (4, 1, (.t 26))]),
   .n (.store 5 (.t 2) (.t 27))] [0, 1, 0, 4, 0, 16, 48, 0, 255, 511])
  .ret))))⟩
def r35 : RFunc := ⟨2, [.tmp 4],
  (.seq (.reg [.a 4 (.mov (.i 0))])
  (.seq (.reg [.a 5 (.mov (.t 0)),
   .a 6 (.mov (.t 1)),
   .a 7 (.bin .rem (.t 5) (.t 6)),
   .a 8 (.mov (.t 1)),
   .a 9 (.bin .add (.t 7) (.t 8)),
   .a 10 (.mov (.t 1)),
   .a 11 (.bin .rem (.t 9) (.t 10)),
   .a 4 (.mov (.t 11))])
  .ret))⟩
def r36 : RFunc := ⟨0, [.cell 0 2 true],
  (.seq (.reg [.a 0 (.alloc 1000 2 (.agg [.pl (.int .i64 0), .own 1001 0]) [(1001, 2)])])
  (.seq (.reg [.a 1 (.build [.pl (.int .i64 0), .own 1017 0] [(1017, 2)] [(0, 1, (.i 2))]),
   .n (.store 2 (.t 0) (.t 1))])
  .ret))⟩
def r37 : RFunc := ⟨0, [.cell 0 2 true],
  (.seq (.reg [.a 0 (.alloc 1000 2 (.agg [.pl (.int .i64 0), .own 1001 0]) [(1001, 2)])])
  (.seq (.reg [.a 1 (.build [.pl (.int .i64 0), .own 1017 0] [(1017, 2)] [(0, 1, (.i 5))]),
   .n (.store 2 (.t 0) (.t 1))])
  .ret))⟩
def r38 : RFunc := ⟨2, [.cell 4 2 true],
  (.seq (.reg [.a 2 (.box 1000 2 (.t 0)),
   .a 3 (.box 1016 2 (.t 1)),
   .a 4 (.alloc 1032 2 (.agg [.pl (.int .i64 0), .own 1033 0]) [(1033, 2)])])
  (.seq (.drw [.a 5 (.load 2 true (.t 2)),
   .a 6 (.call 1048 40 [(.t 5)]),
   .a 7 (.load 2 true (.t 3)),
   .a 8 (.call 1064 40 [(.t 7)]),
   .a 9 (.bsl 2 [(.t 6), (.t 8)]),
   .a 10 (.build [.pl (.int .i64 0), .pl (.sl 2 [])] [] [(0, 1, (.i 3)), (1, 1, (.t 9))]),
   .n (.store 2 (.t 4) (.t 10))] [0, 1, 0, 7, 15, 31, 63])
  .ret))⟩
def r39 : RFunc := ⟨2, [.cell 4 2 true],
  (.seq (.reg [.a 2 (.box 1000 2 (.t 0)),
   .a 3 (.box 1016 2 (.t 1)),
   .a 4 (.alloc 1032 2 (.agg [.pl (.int .i64 0), .own 1033 0]) [(1033, 2)])])
  (.seq (.drw [.a 5 (.load 2 true (.t 2)),
   .a 6 (.call 1048 40 [(.t 5)]),
   .a 7 (.load 2 true (.t 3)),
   .a 8 (.call 1064 40 [(.t 7)]),
   .a 9 (.bsl 2 [(.t 6), (.t 8)]),
   .a 10 (.build [.pl (.int .i64 0), .pl (.sl 2 [])] [] [(0, 1, (.i 4)), (1, 1, (.t 9))]),
   .n (.store 2 (.t 4) (.t 10))] [0, 1, 0, 7, 15, 31, 63])
  .ret))⟩
def r40 : RFunc := ⟨1, [.cell 2 2 true],
  (.seq (.reg [.a 1 (.box 1000 2 (.t 0)),
   .a 2 (.alloc 1016 2 (.agg [.pl (.int .i64 0), .own 1017 0]) [(1017, 2)])])
  (.seq (.reg [.a 3 (.nilb 1032 2)])
  (.seq (.seq (.reg [.a 6 (.fadd (.t 1) 1),
   .a 7 (.load 1 false (.t 6)),
   .a 8 (.len (.t 7)),
   .a 9 (.mov (.i 0))])
  (.block 0 (.loop [1, 2, 3, 7, 8, 9] [0, 1, 2, 3, 4, 5, 1000, 1016, 1017, 1032]
   (.seq (.reg [.a 10 (.bin .lss (.t 9) (.t 8))])
    (.seq (.cond (.t 10) .skip
    (.exit 0))
    (.seq (.block 1 (.seq (.reg [.a 11 (.iadd 2 (.t 7) (.t 9)),
   .a 12 (.load 2 true (.t 11)),
   .a 5 (.alloc 1048 2 (.agg [.pl (.int .i64 0), .own 1049 0]) [(1049, 2)]),
   .n (.store 2 (.t 5) (.t 12))])
     (.reg [.a 13 (.mov (.t 3)),
   .a 14 (.load 2 true (.t 5)),
   .a 15 (.call 1064 40 [(.t 14)]),
   .a 16 (.bsl 2 [(.t 15)]),
   .a 17 (.app 2 (.t 13) (.t 16)),
   .a 3 (.mov (.t 17))])))
    (.reg [.a 18 (.bin .add (.t 9) (.i 1)),
   .a 9 (.mov (.t 18))])))))))
  (.seq (.reg [.a 19 (.fadd (.t 1) 0),
   .a 20 (.load 1 false (.t 19)),
   .a 21 (.mov (.t 3)),
   .a 22 (.build [.pl (.int .i64 0), .pl (.sl 2 [])] [] [(0, 1, (.t 20)), (1, 1, (.t 21))]),
   .n (.store 2 (.t 2) (.t 22))])
  .ret))))⟩
def r41 : RFunc := ⟨2, [.tmp 4],
  (.seq (.reg [.a 3 (.box 1000 2 (.t 1)),
   .a 4 (.nilb 1016 1)])
  (.seq (.reg [.a 5 (.nilb 1032 1)])
  (.seq (.seq (.reg [.a 7 (.mov (.t 0)),
   .a 8 (.len (.t 7)),
   .a 9 (.mov (.i 0))])
  (.block 0 (.loop [0, 3, 5, 8, 9] [0, 1, 2, 3, 4, 5, 1000, 1016, 1032]
   (.seq (.reg [.a 10 (.bin .lss (.t 9) (.t 8))])
    (.seq (.cond (.t 10) .skip
    (.exit 0))
    (.seq (.block 1 (.seq (.reg [.a 11 (.mov (.t 9)),
   .a 6 (.mov (.t 11))])
     (.seq (.drw [.a 12 (.mov (.t 0)),
   .a 13 (.mov (.t 0)),
   .a 14 (.len (.t 13)),
   .a 15 (.bin .sub (.t 14) (.i 1)),
   .a 16 (.mov (.t 6)),
   .a 17 (.bin .sub (.t 15) (.t 16)),
   .a 18 (.iadd 2 (.t 12) (.t 17)),
   .a 19 (.load 2 true (.t 18)),
   .a 20 (.load 2 true (.t 3)),
   .a 21 (.call 1048 29 [(.t 19), (.t 20)])] [0, 0, 2, 6, 0, 30, 63, 127, 0, 511])
     (.cond (.t 21) (.reg [.a 22 (.mov (.t 5)),
   .a 23 (.mov (.t 6)),
   .a 24 (.bsl 1 [(.t 23)]),
   .a 25 (.app 1 (.t 22) (.t 24)),
   .a 5 (.mov (.t 25))])
     .skip))))
    (.reg [.a 26 (.bin .add (.t 9) (.i 1)),
   .a 9 (.mov (.t 26))])))))))
  (.seq (.reg [.a 27 (.mov (.t 5)),
   .a 4 (.mov (.t 27))])
  .ret))))⟩
def r42 : RFunc := ⟨1, [.cell 2 5 true],
  (.seq (.reg [.a 2 (.alloc 1000 5 (.agg [.pl (.int .i64 0), .pl (.int .i64 0), .pl (.int .i64 0), .own 1001 0, .own 1002 0]) [(1001, 2), (1002, 5)])])
  (.seq (.reg [.a 3 (.mov (.t 0)),
   .a 4 (.build [.pl (.int .i64 0), .pl (.int .i64 0), .pl (.int .i64 0), .own 1017 0, .own 1018 0] [(1017, 2), (1018, 5)] [(0, 1, (.i 1)), (1, 1, (.t 3))]),
   .n (.store 5 (.t 2) (.t 4))])
  .ret))⟩
def r43 : RFunc := ⟨3, [.cell 6 5 true],
  (.seq (.reg [.a 4 (.box 1000 2 (.t 1)),
   .a 6 (.alloc 1016 5 (.agg [.pl (.int .i64 0), .pl (.int .i64 0), .pl (.int .i64 0), .own 1017 0, .own 1018 0]) [(1017, 2), (1018, 5)])])
  (.seq (.reg [.a 8 (.mov (.t 0)),
   .a 9 (.mov (.t 2)),
   .a 10 (.call 1032 44 [(.t 8), (.t 9)]),
   .a 7 (.alloc 1048 5 (.agg [.pl (.int .i64 0), .pl (.int .i64 0), .pl (.int .i64 0), .own 1049 0, .own 1050 0]) [(1049, 2), (1050, 5)]),
   .n (.store 5 (.t 7) (.t 10))])
  (.seq (.reg [.a 11 (.load 2 true (.t 4)),
   .a 12 (.call 1064 40 [(.t 11)]),
   .a 13 (.fadd (.t 7) 2),
   .n (.store 2 (.t 13) (.t 12))])
  (.seq (.reg [.a 14 (.load 5 true (.t 7)),
   .n (.store 5 (.t 6) (.t 14))])
  .ret))))⟩
def r44 : RFunc := ⟨2, [.cell 4 5 true],
  (.seq (.reg [.a 4 (.alloc 1000 5 (.agg [.pl (.int .i64 0), .pl (.int .i64 0), .pl (.int .i64 0), .own 1001 0, .own 1002 0]) [(1001, 2), (1002, 5)])])
  (.seq (.reg [.a 5 (.nilb 1016 5)])
  (.seq (.seq (.reg [.a 8 (.mov (.t 1)),
   .a 9 (.len (.t 8)),
   .a 10 (.mov (.i 0))])
  (.block 0 (.loop [0, 4, 5, 8, 9, 10] [0, 1, 2, 3, 4, 5, 1000, 1001, 1002, 1016]
   (.seq (.reg [.a 11 (.bin .lss (.t 10) (.t 9))])
    (.seq (.cond (.t 11) .skip
    (.exit 0))
    (.seq (.block 1 (.seq (.reg [.a 12 (.iadd 5 (.t 8) (.t 10)),
   .a 13 (.load 5 true (.t 12)),
   .a 7 (.alloc 1032 5 (.agg [.pl (.int .i64 0), .pl (.int .i64 0), .pl (.int .i64 0), .own 1033 0, .own 1034 0]) [(1033, 2), (1034, 5)]),
   .n (.store 5 (.t 7) (.t 13))])
     (.reg [.a 14 (.mov (.t 5)),
   .a 15 (.load 5 true (.t 7)),
   .a 16 (.call 1048 32 [(.t 15)]),
   .a 17 (.bsl 5 [(.t 16)]),
   .a 18 (.app 5 (.t 14) (.t 17)),
   .a 5 (.mov (.t 18))])))
    (.reg [.a 19 (.bin .add (.t 10) (.i 1)),
   .a 10 (.mov (.t 19))])))))))
  (.seq (.reg [.a 20 (.mov (.t 0)),
   .a 21 (.mov (.t 5)),
   .a 22 (.build [.pl (.int .i64 0), .pl (.int .i64 0), .pl (.int .i64 0), .own 1065 0, .pl (.sl 5 [])] [(1065, 2)] [(0, 1, (.t 20)), (4, 1, (.t 21))]),
   .n (.store 5 (.t 4) (.t 22))])
  .ret))))⟩
def r45 : RFunc := ⟨0, [.cell 0 5 true],
  (.seq (.reg [.a 0 (.alloc 1000 5 (.agg [.pl (.int .i64 0), .pl (.int .i64 0), .pl (.int .i64 0), .own 1001 0, .own 1002 0]) [(1001, 2), (1002, 5)])])
  (.seq (.reg [.a 1 (.call 1016 42 [(.i 1)]),
   .a 2 (.call 1032 42 [(.i 0)]),
   .a 3 (.bsl 5 [(.t 2)]),
   .a 4 (.call 1048 44 [(.i 5), (.t 3)]),
   .a 5 (.call 1064 70 [(.t 4)]),
   .a 6 (.call 1080 70 [(.t 5)]),
   .a 7 (.call 1096 42 [(.i 0)]),
   .a 8 (.call 1112 71 [(.t 1), (.t 6), (.t 7)]),
   .a 9 (.call 1128 70 [(.t 8)]),
   .a 10 (.call 1144 70 [(.t 9)]),
   .n (.store 5 (.t 0) (.t 10))])
  .ret))⟩
def r46 : RFunc := ⟨2, [.cell 4 5 true],
  (.seq (.reg [.a 2 (.box 1000 5 (.t 0)),
   .a 4 (.alloc 1016 5 (.agg [.pl (.int .i64 0), .pl (.int .i64 0), .pl (.int .i64 0), .own 1017 0, .own 1018 0]) [(1017, 2), (1018, 5)])])
  (.seq (.seq (.reg [.a 7 (.mov (.t 1)),
   .a 8 (.len (.t 7)),
   .a 9 (.mov (.i 0))])
  (.block 0 (.loop [2, 4, 7, 8, 9] [0, 1, 2, 3, 4, 5, 1000, 1016, 1017, 1018]
   (.seq (.reg [.a 10 (.bin .lss (.t 9) (.t 8))])
    (.seq (.cond (.t 10) .skip
    (.exit 0))
    (.seq (.block 1 (.seq (.reg [.a 11 (.iadd 5 (.t 7) (.t 9)),
   .a 12 (.load 5 true (.t 11)),
   .a 6 (.alloc 1032 5 (.agg [.pl (.int .i64 0), .pl (.int .i64 0), .pl (.int .i64 0), .own 1033 0, .own 1034 0]) [(1033, 2), (1034, 5)]),
   .n (.store 5 (.t 6) (.t 12))])
     (.reg [.a 13 (.load 5 true (.t 2)),
   .a 14 (.load 5 true (.t 6)),
   .a 15 (.bsl 5 [(.t 13), (.t 14)]),
   .a 16 (.call 1048 44 [(.i 3), (.t 15)]),
   .n (.store 5 (.t 2) (.t 16))])))
    (.reg [.a 17 (.bin .add (.t 9) (.i 1)),
   .a 9 (.mov (.t 17))])))))))
  (.seq (.reg [.a 18 (.load 5 true (.t 2)),
   .n (.store 5 (.t 4) (.t 18))])
  .ret)))⟩
def r47 : RFunc := ⟨0, [.cell 0 5 true],
  (.seq (.reg [.a 0 (.alloc 1000 5 (.agg [.pl (.int .i64 0), .pl (.int .i64 0), .pl (.int .i64 0), .own 1001 0, .own 1002 0]) [(1001, 2), (1002, 5)])])
  (.seq (.reg [.a 1 (.call 1016 42 [(.i 1)]),
   .a 2 (.call 1032 72 []),
   .a 3 (.call 1048 42 [(.i 0)]),
   .a 4 (.bsl 5 [(.t 2), (.t 3)]),
   .a 5 (.call 1064 44 [(.i 3), (.t 4)]),
   .a 6 (.call 1080 70 [(.t 5)]),
   .a 7 (.call 1096 70 [(.t 6)]),
   .a 8 (.call 1112 42 [(.i 0)]),
   .a 9 (.call 1128 71 [(.t 1), (.t 7), (.t 8)]),
   .a 10 (.call 1144 70 [(.t 9)]),
   .a 11 (.call 1160 70 [(.t 10)]),
   .n (.store 5 (.t 0) (.t 11))])
  .ret))⟩
def r48 : RFunc := ⟨1, [.tmp 2],
  (.seq (.reg [.a 1 (.box 1000 5 (.t 0)),
   .a 2 (.mov (.i 0))])
  (.seq (.reg [.a 6 (.load 5 true (.t 1)),
   .a 7 (.call 1016 51 [(.t 6)]),
   .a 5 (.mov (.t 7)),
   .a 8 (.ext (.t 5) 0),
   .a 9 (.ext (.t 5) 1),
   .a 3 (.mov (.t 8)),
   .a 4 (.mov (.t 9))])
  (.seq (.reg [.a 10 (.mov (.t 4)),
   .a 2 (.mov (.t 10))])
  .ret)))⟩
def r49 : RFunc := ⟨1, [.tmp 2],
  (.seq (.reg [.a 1 (.box 1000 5 (.t 0)),
   .a 2 (.mov (.c (.pl (.bool false))))])
  (.seq (.seq (.reg [.a 5 (.fadd (.t 1) 0),
   .a 6 (.load 1 false (.t 5)),
   .a 7 (.bin .eql (.t 6) (.i 6)),
   .a 8 (.mov (.t 7)),
   .q 9 (.fadd (.t 1) 0) 8 false,
   .q 10 (.load 1 false (.t 9)) 8 false,
   .q 11 (.bin .eql (.t 10) (.i 7)) 8 false,
   .a 12 (.pick (.t 8) (.c (.pl (.bool true))) (.t 11))])
  (.cond (.t 12) (.seq (.reg [.a 2 (.mov (.c (.pl (.bool true))))])
   .ret)
  .skip))
  (.seq (.seq (.reg [.a 13 (.fadd (.t 1) 4),
   .a 14 (.load 1 false (.t 13)),
   .a 15 (.len (.t 14)),
   .a 16 (.mov (.i 0))])
  (.block 0 (.loop [2, 14, 15, 16] [0, 1, 2, 3, 4, 5]
   (.seq (.reg [.a 17 (.bin .lss (.t 16) (.t 15))])
    (.seq (.cond (.t 17) .skip
    (.exit 0))
    (.seq (.block 1 (.seq (.reg [.a 18 (.iadd 5 (.t 14) (.t 16)),
   .a 19 (.load 5 true (.t 18)),
   .a 4 (.alloc 1016 5 (.agg [.pl (.int .i64 0), .pl (.int .i64 0), .own 1017 0, .own 1018 0, .own 1019 0]) [(1017, 2), (1018, 5), (1019, 5)]),
   .n (.store 5 (.t 4) (.t 19))])
     (.seq (.reg [.a 20 (.load 5 true (.t 4)),
   .a 21 (.call 1032 49 [(.t 20)])])
     (.cond (.t 21) (.seq (.reg [.a 2 (.mov (.c (.pl (.bool true))))])
      .ret)
     .skip))))
    (.reg [.a 22 (.bin .add (.t 16) (.i 1)),
   .a 16 (.mov (.t 22))])))))))
  (.seq (.reg [.a 2 (.mov (.c (.pl (.bool false))))])
  .ret))))⟩
def r50 : RFunc := ⟨3, [.cell 6 5 true, .tmp 7],
  (.seq (.reg [.a 3 (.box 1000 5 (.t 0)),
   .a 6 (.alloc 1016 5 (.agg [.pl (.int .i64 0), .pl (.int .i64 0), .own 1017 0, .own 1018 0, .own 1019 0]) [(1017, 2), (1018, 5), (1019, 5)]),
   .a 7 (.mov (.i 0))])
  (.seq (.seq (.reg [.a 9 (.load 5 true (.t 3)),
   .a 10 (.call 1032 48 [(.t 9)]),
   .a 8 (.mov (.t 10))])
  (.seq (.reg [.a 11 (.mov (.t 8)),
   .a 12 (.bin .neq (.t 11) (.i 0))])
  (.cond (.t 12) (.seq (.reg [.a 13 (.build [.pl (.int .i64 0), .pl (.int .i64 0), .pl (.sl 2 []), .pl (.sl 5 []), .pl (.sl 5 [])] [] []),
   .a 14 (.mov (.t 8)),
   .n (.store 5 (.t 6) (.t 13)),
   .a 7 (.mov (.t 14))])
   .ret)
  .skip)))
  (.seq (.seq (.reg [.a 15 (.mov (.t 1)),
   .a 16 (.call 1064 73 [(.t 15)]),
   .a 17 (.un .not (.t 16)),
   .a 18 (.mov (.t 17)),
   .q 19 (.mov (.t 2)) 18 false,
   .q 20 (.call 1080 73 [(.t 19)]) 18 false,
   .q 21 (.un .not (.t 20)) 18 false,
   .a 22 (.pick (.t 18) (.c (.pl (.bool true))) (.t 21)),
   .a 23 (.mov (.t 22)),
   .q 24 (.load 5 true (.t 3)) 23 false,
   .q 25 (.call 1096 74 [(.t 24)]) 23 false,
   .q 26 (.un .not (.t 25)) 23 false,
   .a 27 (.pick (.t 23) (.c (.pl (.bool true))) (.t 26))])
  (.cond (.t 27) (.seq (.reg [.a 28 (.build [.pl (.int .i64 0), .pl (.int .i64 0), .pl (.sl 2 []), .pl (.sl 5 []), .pl (.sl 5 [])] [] []),
   .n (.store 5 (.t 6) (.t 28)),
   .a 7 (.mov (.i 1))])
   .ret)
  .skip))
  (.seq (.reg [.a 29 (.load 5 true (.t 3)),
   .a 30 (.mov (.t 1)),
   .a 31 (.mov (.t 2)),
   .a 32 (.call 1128 75 [(.t 29), (.t 30), (.t 31)]),
   .n (.store 5 (.t 6) (.t 32)),
   .a 7 (.mov (.i 0))])
  .ret))))⟩
def r51 : RFunc := ⟨1, [.tmp 2, .tmp 3],
  (.seq (.reg [.a 1 (.box 1000 5 (.t 0)),
   .a 2 (.mov (.i 0)),
   .a 3 (.mov (.i 0))])
  (.seq (.reg [.a 7 (.load 5 true (.t 1)),
   .a 8 (.call 1016 76 [(.t 7)]),
   .a 6 (.mov (.t 8)),
   .a 9 (.ext (.t 6) 0),
   .a 10 (.ext (.t 6) 1),
   .a 4 (.mov (.t 9)),
   .a 5 (.mov (.t 10))])
  (.seq (.block 0 (.seq (.reg [.a 12 (.mov (.t 5)),
   .a 13 (.un .not (.t 12)),
   .a 11 (.mov (.t 13))])
   (.cond (.t 11) (.seq (.reg [.a 2 (.mov (.i 0)),
   .a 3 (.mov (.i 2))])
    .ret)
   (.seq (.reg [.a 15 (.mov (.t 4)),
   .a 16 (.bin .gtr (.t 15) (.i 4096)),
   .a 14 (.mov (.t 16))])
    (.cond (.t 14) (.seq (.reg [.a 2 (.mov (.i 0)),
   .a 3 (.mov (.i 4))])
     .ret)
    .skip)))))
  (.seq (.reg [.a 17 (.mov (.t 4)),
   .a 2 (.mov (.t 17)),
   .a 3 (.mov (.i 0))])
  .ret))))⟩
def r52 : RFunc := ⟨2, [.tmp 4],
  (.seq (.reg [.a 2 (.box 1000 5 (.t 0)),
   .a 4 (.mov (.i 0))])
  (.seq (.reg [.a 10 (.load 5 true (.t 2)),
   .a 11 (.call 1016 51 [(.t 10)]),
   .a 9 (.mov (.t 11)),
   .a 12 (.ext (.t 9) 0),
   .a 13 (.ext (.t 9) 1),
   .a 5 (.mov (.t 12)),
   .a 6 (.mov (.t 13))])
  (.seq (.seq (.reg [.a 14 (.fadd (.t 2) 0),
   .a 15 (.load 1 false (.t 14))])
  (.block 0 (.seq (.reg [.a 17 (.bin .eql (.t 15) (.i 1)),
   .a 16 (.mov (.t 17))])
   (.cond (.t 16) (.seq (.reg [.a 18 (.mov (.t 5)),
   .a 19 (.bin .add (.t 18) (.i 2)),
   .a 20 (.mov (.t 1)),
   .a 21 (.bin .mul (.i 2) (.t 20)),
   .a 22 (.bin .add (.t 19) (.t 21)),
   .a 4 (.mov (.t 22))])
    .ret)
   (.seq (.reg [.a 24 (.bin .eql (.t 15) (.i 5)),
   .a 23 (.mov (.t 24))])
    (.cond (.t 23) (.seq (.reg [.a 25 (.fadd (.t 2) 4),
   .a 26 (.load 1 false (.t 25)),
   .a 27 (.iadd 5 (.t 26) (.i 0)),
   .a 28 (.load 5 true (.t 27)),
   .a 29 (.mov (.t 1)),
   .a 30 (.call 1032 52 [(.t 28), (.t 29)]),
   .a 31 (.bin .add (.t 30) (.i 3)),
   .a 32 (.mov (.t 1)),
   .a 33 (.bin .mul (.i 2) (.t 32)),
   .a 34 (.bin .add (.t 31) (.t 33)),
   .a 4 (.mov (.t 34))])
     .ret)
    .skip))))))
  (.seq (.reg [.a 5 (.mov (.i 1))])
  (.seq (.seq (.reg [.a 35 (.fadd (.t 2) 4),
   .a 36 (.load 1 false (.t 35)),
   .a 37 (.len (.t 36)),
   .a 38 (.mov (.i 0))])
  (.block 1 (.loop [1, 5, 36, 37, 38] [0, 1, 2, 3, 4, 5]
   (.seq (.reg [.a 39 (.bin .lss (.t 38) (.t 37))])
    (.seq (.cond (.t 39) .skip
    (.exit 1))
    (.seq (.block 2 (.seq (.reg [.a 40 (.iadd 5 (.t 36) (.t 38)),
   .a 41 (.load 5 true (.t 40)),
   .a 8 (.alloc 1048 5 (.agg [.pl (.int .i64 0), .pl (.int .i64 0), .own 1049 0, .own 1050 0, .own 1051 0]) [(1049, 2), (1050, 5), (1051, 5)]),
   .n (.store 5 (.t 8) (.t 41))])
     (.reg [.a 42 (.mov (.t 5)),
   .a 43 (.load 5 true (.t 8)),
   .a 44 (.mov (.t 1)),
   .a 45 (.call 1064 52 [(.t 43), (.t 44)]),
   .a 46 (.bin .add (.t 42) (.t 45)),
   .a 5 (.mov (.t 46))])))
    (.reg [.a 47 (.bin .add (.t 38) (.i 1)),
   .a 38 (.mov (.t 47))])))))))
  (.seq (.reg [.a 48 (.mov (.t 5)),
   .a 4 (.mov (.t 48))])
  .ret))))))⟩
def r53 : RFunc := ⟨2, [.cell 4 5 true],
  (.seq (.reg [.a 4 (.alloc 1000 5 (.agg [.pl (.int .i64 0), .pl (.int .i64 0), .own 1001 0, .own 1002 0, .own 1003 0]) [(1001, 2), (1002, 5), (1003, 5)])])
  (.seq (.block 0 (.loop [0, 1, 4] [0, 1, 2, 3, 4, 5, 1000, 1001, 1002, 1003]
   (.seq (.seq (.reg [.a 5 (.mov (.t 0)),
   .a 6 (.chk (.t 5)),
   .a 7 (.fadd (.t 6) 0),
   .a 8 (.load 1 false (.t 7)),
   .a 9 (.len (.t 8)),
   .a 10 (.mov (.t 1)),
   .a 11 (.bin .leq (.t 9) (.t 10))])
    (.cond (.t 11) .skip
    (.exit 0)))
    (.block 1 (.drw [.a 12 (.mov (.t 0)),
   .a 13 (.chk (.t 12)),
   .a 14 (.fadd (.t 13) 0),
   .a 15 (.load 1 false (.t 14)),
   .a 16 (.mov (.t 0)),
   .a 17 (.chk (.t 16)),
   .a 18 (.fadd (.t 17) 0),
   .a 19 (.load 1 false (.t 18)),
   .a 20 (.mov (.t 0)),
   .a 21 (.chk (.t 20)),
   .a 22 (.fadd (.t 21) 0),
   .a 23 (.load 1 false (.t 22)),
   .a 24 (.len (.t 23)),
   .a 25 (.bin .sub (.t 24) (.i 1)),
   .a 26 (.iadd 5 (.t 19) (.t 25)),
   .a 27 (.load 5 true (.t 26)),
   .a 28 (.call 1016 75 [(.t 27), (.i 0), (.i 1)]),
   .a 29 (.len (.t 15)),
   .a 30 (.bsl 5 [(.c (.st 5 [.int .i64 0, .int .i64 0, .sl 2 [], .sl 5 [], .sl 5 []]))]),
   .a 31 (.appo 5 (.t 15) (.t 30)),
   .a 32 (.iadd 5 (.t 31) (.t 29)),
   .n (.store 5 (.t 32) (.t 28)),
   .a 33 (.chk (.t 12)),
   .a 34 (.fadd (.t 33) 0),
   .n (.store 1 (.t 34) (.t 31))] [0, 1, 3, 7, 0, 16, 48, 112, 0, 256, 768, 1792, 3840, 7936, 16368, 32752, 65520, 15, 0, 524287, 1048575, 2097151, 1048575, 5242879, 13631487])))))
  (.seq (.reg [.a 35 (.mov (.t 0)),
   .a 36 (.chk (.t 35)),
   .a 37 (.fadd (.t 36) 0),
   .a 38 (.load 1 false (.t 37)),
   .a 39 (.mov (.t 1)),
   .a 40 (.iadd 5 (.t 38) (.t 39)),
   .a 41 (.load 5 true (.t 40)),
   .n (.store 5 (.t 4) (.t 41))])
  .ret)))⟩
def r54 : RFunc := ⟨2, [.cell 4 5 true],
  (.seq (.reg [.a 2 (.box 1000 5 (.t 0)),
   .a 3 (.box 1016 5 (.t 1)),
   .a 4 (.alloc 1032 5 (.agg [.pl (.int .i64 0), .pl (.int .i64 0), .own 1033 0, .own 1034 0, .own 1035 0]) [(1033, 2), (1034, 5), (1035, 5)])])
  (.seq (.reg [.a 5 (.load 5 true (.t 2)),
   .a 6 (.load 5 true (.t 3)),
   .a 7 (.bsl 5 [(.t 5), (.t 6)]),
   .a 8 (.call 1048 55 [(.i 3), (.t 7)]),
   .n (.store 5 (.t 4) (.t 8))])
  .ret))⟩
def r55 : RFunc := ⟨2, [.cell 4 5 true],
  (.seq (.reg [.a 4 (.alloc 1000 5 (.agg [.pl (.int .i64 0), .pl (.int .i64 0), .own 1001 0, .own 1002 0, .own 1003 0]) [(1001, 2), (1002, 5), (1003, 5)])])
  (.seq (.reg [.a 5 (.mov (.t 0)),
   .a 6 (.mov (.t 1)),
   .a 7 (.build [.pl (.int .i64 0), .pl (.int .i64 0), .own 1017 0, .own 1018 0, .pl (.sl 5 [])] [(1017, 2), (1018, 5)] [(0, 1, (.t 5)), (4, 1, (.t 6))]),
   .n (.store 5 (.t 4) (.t 7))])
  .ret))⟩
def r56 : RFunc := ⟨3, [.cell 6 5 true],
  (.seq (.reg [.a 4 (.box 1000 2 (.t 1)),
   .a 5 (.box 1016 5 (.t 2)),
   .a 6 (.alloc 1032 5 (.agg [.pl (.int .i64 0), .pl (.int .i64 0), .own 1033 0, .own 1034 0, .own 1035 0]) [(1033, 2), (1034, 5), (1035, 5)])])
  (.seq (.reg [.a 7 (.mov (.t 0)),
   .a 8 (.load 2 true (.t 4)),
   .a 9 (.load 5 true (.t 5)),
   .a 10 (.bsl 5 [(.t 9)]),
   .a 11 (.build [.pl (.int .i64 0), .pl (.int .i64 0), .pl (.sl 2 []), .own 1049 0, .pl (.sl 5 [])] [(1049, 5)] [(0, 1, (.t 7)), (1, 2, (.t 8)), (4, 1, (.t 10))]),
   .n (.store 5 (.t 6) (.t 11))])
  .ret))⟩
def r57 : RFunc := ⟨3, [.cell 6 5 true],
  (.seq (.reg [.a 4 (.box 1000 5 (.t 1)),
   .a 6 (.alloc 1016 5 (.agg [.pl (.int .i64 0), .pl (.int .i64 0), .own 1017 0, .own 1018 0, .own 1019 0]) [(1017, 2), (1018, 5), (1019, 5)])])
  (.seq (.drw [.a 7 (.fadd (.t 4) 1),
   .a 8 (.load 2 true (.t 7)),
   .a 9 (.mov (.t 0)),
   .a 10 (.fadd (.t 4) 4),
   .a 11 (.load 1 false (.t 10)),
   .a 12 (.iadd 5 (.t 11) (.i 0)),
   .a 13 (.load 5 true (.t 12)),
   .a 14 (.mov (.t 2)),
   .a 15 (.bin .add (.t 14) (.i 1)),
   .a 16 (.call 1032 24 [(.t 9), (.t 13), (.t 15)]),
   .a 17 (.mov (.t 0)),
   .a 18 (.mov (.t 2)),
   .a 19 (.bin .add (.t 18) (.i 1)),
   .a 20 (.call 1048 53 [(.t 17), (.t 19)]),
   .a 21 (.call 1064 54 [(.t 16), (.t 20)]),
   .a 22 (.call 1080 56 [(.i 4), (.t 8), (.t 21)]),
   .n (.store 5 (.t 6) (.t 22))] [0, 1, 0, 0, 8, 24, 56, 0, 128, 508, 0, 0, 2048, 8188, 16380, 32767, 65535])
  .ret))⟩
def r58 : RFunc := ⟨3, [.cell 6 5 true],
  (.seq (.reg [.a 3 (.box 1000 5 (.t 0)),
   .a 6 (.alloc 1016 5 (.agg [.pl (.int .i64 0), .pl (.int .i64 0), .own 1017 0, .own 1018 0, .own 1019 0]) [(1017, 2), (1018, 5), (1019, 5)])])
  (.seq (.drw [.a 12 (.fadd (.t 3) 0),
   .a 13 (.load 1 false (.t 12)),
   .a 14 (.fadd (.t 3) 1),
   .a 15 (.load 2 true (.t 14)),
   .a 16 (.call 1032 77 [(.t 15)]),
   .a 17 (.build [.pl (.int .i64 0), .pl (.int .i64 0), .pl (.sl 2 []), .own 1049 0, .own 1050 0] [(1049, 5), (1050, 5)] [(0, 1, (.t 13)), (1, 2, (.t 16))]),
   .a 7 (.alloc 1064 5 (.agg [.pl (.int .i64 0), .pl (.int .i64 0), .own 1065 0, .own 1066 0, .own 1067 0]) [(1065, 2), (1066, 5), (1067, 5)]),
   .n (.store 5 (.t 7) (.t 17))] [0, 1, 0, 4, 12, 31, 0, 127])
  (.seq (.seq (.reg [.a 18 (.fadd (.t 3) 3),
   .a 19 (.load 1 false (.t 18)),
   .a 20 (.len (.t 19)),
   .a 21 (.mov (.i 0))])
  (.block 0 (.loop [1, 2, 3, 6, 7, 19, 20, 21] [0, 1, 2, 3, 4, 5, 1000, 1016, 1017, 1018, 1019, 1048, 1049, 1050, 1064, 1065, 1066, 1067]
   (.seq (.reg [.a 22 (.bin .lss (.t 21) (.t 20))])
    (.seq (.cond (.t 22) .skip
    (.exit 0))
    (.seq (.block 1 (.seq (.reg [.a 23 (.iadd 5 (.t 19) (.t 21)),
   .a 24 (.load 5 true (.t 23)),
   .a 9 (.alloc 1080 5 (.agg [.pl (.int .i64 0), .pl (.int .i64 0), .pl (.int .i64 0), .own 1081 0, .own 1082 0]) [(1081, 2), (1082, 5)]),
   .n (.store 5 (.t 9) (.t 24))])
     (.drw [.a 25 (.fadd (.t 7) 3),
   .a 26 (.load 1 false (.t 25)),
   .a 27 (.mov (.t 2)),
   .a 28 (.load 5 true (.t 9)),
   .a 29 (.mov (.t 1)),
   .a 30 (.callv 1096 (.t 27) [(.t 28), (.t 29)]),
   .a 31 (.bsl 5 [(.t 30)]),
   .a 32 (.app 5 (.t 26) (.t 31)),
   .a 33 (.fadd (.t 7) 3),
   .n (.store 1 (.t 33) (.t 32))] [0, 1, 0, 0, 0, 28, 60, 127, 255, 511])))
    (.reg [.a 34 (.bin .add (.t 21) (.i 1)),
   .a 21 (.mov (.t 34))])))))))
  (.seq (.seq (.reg [.a 35 (.fadd (.t 3) 0),
   .a 36 (.load 1 false (.t 35)),
   .a 37 (.call 1112 78 [(.t 36)])])
  (.cond (.t 37) (.reg [.a 38 (.mov (.t 1)),
   .a 39 (.bin .add (.t 38) (.i 1)),
   .a 1 (.mov (.t 39))])
  .skip))
  (.seq (.seq (.reg [.a 40 (.fadd (.t 3) 4),
   .a 41 (.load 1 false (.t 40)),
   .a 42 (.len (.t 41)),
   .a 43 (.mov (.i 0))])
  (.block 2 (.loop [1, 2, 6, 7, 41, 42, 43] [0, 1, 2, 3, 4, 5, 1016, 1017, 1018, 1019, 1048, 1049, 1050, 1064, 1065, 1066, 1067, 1081, 1082]
   (.seq (.reg [.a 44 (.bin .lss (.t 43) (.t 42))])
    (.seq (.cond (.t 44) .skip
    (.exit 2))
    (.seq (.block 3 (.seq (.reg [.a 45 (.iadd 5 (.t 41) (.t 43)),
   .a 46 (.load 5 true (.t 45)),
   .a 11 (.alloc 1128 5 (.agg [.pl (.int .i64 0), .pl (.int .i64 0), .own 1129 0, .own 1130 0, .own 1131 0]) [(1129, 2), (1130, 5), (1131, 5)]),
   .n (.store 5 (.t 11) (.t 46))])
     (.drw [.a 47 (.fadd (.t 7) 4),
   .a 48 (.load 1 false (.t 47)),
   .a 49 (.load 5 true (.t 11)),
   .a 50 (.mov (.t 1)),
   .a 51 (.mov (.t 2)),
   .a 52 (.call 1144 58 [(.t 49), (.t 50), (.t 51)]),
   .a 53 (.bsl 5 [(.t 52)]),
   .a 54 (.app 5 (.t 48) (.t 53)),
   .a 55 (.fadd (.t 7) 4),
   .n (.store 1 (.t 55) (.t 54))] [0, 1, 0, 0, 0, 28, 60, 127, 255, 511])))
    (.reg [.a 56 (.bin .add (.t 43) (.i 1)),
   .a 43 (.mov (.t 56))])))))))
  (.seq (.reg [.a 57 (.load 5 true (.t 7)),
   .n (.store 5 (.t 6) (.t 57))])
  .ret))))))⟩
def r59 : RFunc := ⟨2, [.cell 4 5 true],
  (.seq (.reg [.a 2 (.box 1000 5 (.t 0)),
   .a 4 (.alloc 1016 5 (.agg [.pl (.int .i64 0), .pl (.int .i64 0), .pl (.int .i64 0), .own 1017 0, .own 1018 0]) [(1017, 2), (1018, 5)])])
  (.seq (.reg [.a 5 (.load 5 true (.t 2)),
   .a 6 (.call 1032 79 [(.t 5)]),
   .n (.store 5 (.t 4) (.t 6))])
  .ret))⟩
def r60 : RFunc := ⟨1, [.tmp 2],
  (.seq (.reg [.a 1 (.box 1000 5 (.t 0)),
   .a 2 (.mov (.i 0))])
  (.seq (.seq (.reg [.a 3 (.load 5 true (.t 1)),
   .a 4 (.call 1016 80 [(.t 3)]),
   .a 5 (.un .not (.t 4))])
  (.cond (.t 5) (.seq (.reg [.a 2 (.mov (.i 2))])
   .ret)
  .skip))
  (.seq (.seq (.reg [.a 6 (.load 5 true (.t 1)),
   .a 7 (.call 1032 63 [(.t 6)]),
   .a 8 (.bin .gtr (.t 7) (.i 4096))])
  (.cond (.t 8) (.seq (.reg [.a 2 (.mov (.i 4))])
   .ret)
  .skip))
  (.seq (.reg [.a 2 (.mov (.i 0))])
  .ret))))⟩
def r62 : RFunc := ⟨2, [.tmp 4],
  (.seq (.reg [.a 2 (.box 1000 5 (.t 0)),
   .a 4 (.mov (.c (.pl (.bool false))))])
  (.seq (.seq (.reg [.a 9 (.fadd (.t 2) 3),
   .a 10 (.load 1 false (.t 9)),
   .a 11 (.len (.t 10)),
   .a 12 (.mov (.i 0))])
  (.block 0 (.loop [1, 2, 4, 10, 11, 12] [0, 1, 2, 3, 4, 5, 1000]
   (.seq (.reg [.a 13 (.bin .lss (.t 12) (.t 11))])
    (.seq (.cond (.t 13) .skip
    (.exit 0))
    (.seq (.block 1 (.seq (.reg [.a 14 (.iadd 5 (.t 10) (.t 12)),
   .a 15 (.load 5 true (.t 14)),
   .a 6 (.alloc 1016 5 (.agg [.pl (.int .i64 0), .pl (.int .i64 0), .pl (.int .i64 0), .own 1017 0, .own 1018 0]) [(1017, 2), (1018, 5)]),
   .n (.store 5 (.t 6) (.t 15))])
     (.seq (.reg [.a 16 (.load 5 true (.t 6)),
   .a 17 (.mov (.t 1)),
   .a 18 (.call 1032 81 [(.t 16), (.t 17)]),
   .a 19 (.un .not (.t 18))])
     (.cond (.t 19) (.seq (.reg [.a 4 (.mov (.c (.pl (.bool false))))])
      .ret)
     .skip))))
    (.reg [.a 20 (.bin .add (.t 12) (.i 1)),
   .a 12 (.mov (.t 20))])))))))
  (.seq (.seq (.reg [.a 21 (.fadd (.t 2) 4),
   .a 22 (.load 1 false (.t 21)),
   .a 23 (.len (.t 22)),
   .a 24 (.mov (.i 0))])
  (.block 2 (.loop [1, 4, 22, 23, 24] [0, 1, 2, 3, 4, 5, 1017, 1018]
   (.seq (.reg [.a 25 (.bin .lss (.t 24) (.t 23))])
    (.seq (.cond (.t 25) .skip
    (.exit 2))
    (.seq (.block 3 (.seq (.reg [.a 26 (.iadd 5 (.t 22) (.t 24)),
   .a 27 (.load 5 true (.t 26)),
   .a 8 (.alloc 1048 5 (.agg [.pl (.int .i64 0), .pl (.int .i64 0), .own 1049 0, .own 1050 0, .own 1051 0]) [(1049, 2), (1050, 5), (1051, 5)]),
   .n (.store 5 (.t 8) (.t 27))])
     (.seq (.reg [.a 28 (.load 5 true (.t 8)),
   .a 29 (.mov (.t 1)),
   .a 30 (.call 1064 62 [(.t 28), (.t 29)]),
   .a 31 (.un .not (.t 30))])
     (.cond (.t 31) (.seq (.reg [.a 4 (.mov (.c (.pl (.bool false))))])
      .ret)
     .skip))))
    (.reg [.a 32 (.bin .add (.t 24) (.i 1)),
   .a 24 (.mov (.t 32))])))))))
  (.seq (.reg [.a 4 (.mov (.c (.pl (.bool true))))])
  .ret))))⟩
def r63 : RFunc := ⟨1, [.tmp 2],
  (.seq (.reg [.a 1 (.box 1000 5 (.t 0)),
   .a 2 (.mov (.i 0))])
  (.seq (.reg [.a 3 (.mov (.i 1))])
  (.seq (.seq (.reg [.a 8 (.fadd (.t 1) 3),
   .a 9 (.load 1 false (.t 8)),
   .a 10 (.len (.t 9)),
   .a 11 (.mov (.i 0))])
  (.block 0 (.loop [1, 3, 9, 10, 11] [0, 1, 2, 3, 4, 5, 1000]
   (.seq (.reg [.a 12 (.bin .lss (.t 11) (.t 10))])
    (.seq (.cond (.t 12) .skip
    (.exit 0))
    (.seq (.block 1 (.seq (.reg [.a 13 (.iadd 5 (.t 9) (.t 11)),
   .a 14 (.load 5 true (.t 13)),
   .a 5 (.alloc 1016 5 (.agg [.pl (.int .i64 0), .pl (.int .i64 0), .pl (.int .i64 0), .own 1017 0, .own 1018 0]) [(1017, 2), (1018, 5)]),
   .n (.store 5 (.t 5) (.t 14))])
     (.reg [.a 15 (.mov (.t 3)),
   .a 16 (.load 5 true (.t 5)),
   .a 17 (.call 1032 82 [(.t 16)]),
   .a 18 (.bin .add (.t 15) (.t 17)),
   .a 3 (.mov (.t 18))])))
    (.reg [.a 19 (.bin .add (.t 11) (.i 1)),
   .a 11 (.mov (.t 19))])))))))
  (.seq (.seq (.reg [.a 20 (.fadd (.t 1) 4),
   .a 21 (.load 1 false (.t 20)),
   .a 22 (.len (.t 21)),
   .a 23 (.mov (.i 0))])
  (.block 2 (.loop [3, 21, 22, 23] [0, 1, 2, 3, 4, 5, 1017, 1018]
   (.seq (.reg [.a 24 (.bin .lss (.t 23) (.t 22))])
    (.seq (.cond (.t 24) .skip
    (.exit 2))
    (.seq (.block 3 (.seq (.reg [.a 25 (.iadd 5 (.t 21) (.t 23)),
   .a 26 (.load 5 true (.t 25)),
   .a 7 (.alloc 1048 5 (.agg [.pl (.int .i64 0), .pl (.int .i64 0), .own 1049 0, .own 1050 0, .own 1051 0]) [(1049, 2), (1050, 5), (1051, 5)]),
   .n (.store 5 (.t 7) (.t 26))])
     (.reg [.a 27 (.mov (.t 3)),
   .a 28 (.load 5 true (.t 7)),
   .a 29 (.call 1064 63 [(.t 28)]),
   .a 30 (.bin .add (.t 27) (.t 29)),
   .a 3 (.mov (.t 30))])))
    (.reg [.a 31 (.bin .add (.t 23) (.i 1)),
   .a 23 (.mov (.t 31))])))))))
  (.seq (.reg [.a 32 (.mov (.t 3)),
   .a 2 (.mov (.t 32))])
  .ret)))))⟩
def r68 : RFunc := ⟨2, [.tmp 4],
  (.seq (.reg [.a 2 (.box 1000 5 (.t 0)),
   .a 3 (.box 1016 5 (.t 1)),
   .a 4 (.mov (.c (.pl (.bool false))))])
  (.seq (.seq (.reg [.a 6 (.fadd (.t 2) 0),
   .a 7 (.load 1 false (.t 6)),
   .a 8 (.fadd (.t 3) 0),
   .a 9 (.load 1 false (.t 8)),
   .a 10 (.bin .neq (.t 7) (.t 9)),
   .a 11 (.mov (.t 10)),
   .q 12 (.fadd (.t 2) 1) 11 false,
   .q 13 (.load 1 false (.t 12)) 11 false,
   .q 14 (.fadd (.t 3) 1) 11 false,
   .q 15 (.load 1 false (.t 14)) 11 false,
   .q 16 (.bin .neq (.t 13) (.t 15)) 11 false,
   .a 17 (.pick (.t 11) (.c (.pl (.bool true))) (.t 16)),
   .a 18 (.mov (.t 17)),
   .q 19 (.fadd (.t 2) 2) 18 false,
   .q 20 (.load 2 true (.t 19)) 18 false,
   .q 21 (.fadd (.t 3) 2) 18 false,
   .q 22 (.load 2 true (.t 21)) 18 false,
   .q 23 (.call 1032 29 [(.t 20), (.t 22)]) 18 false,
   .q 24 (.un .not (.t 23)) 18 false,
   .a 25 (.pick (.t 18) (.c (.pl (.bool true))) (.t 24)),
   .a 26 (.mov (.t 25)),
   .q 27 (.fadd (.t 2) 4) 26 false,
   .q 28 (.load 1 false (.t 27)) 26 false,
   .q 29 (.len (.t 28)) 26 false,
   .q 30 (.fadd (.t 3) 4) 26 false,
   .q 31 (.load 1 false (.t 30)) 26 false,
   .q 32 (.len (.t 31)) 26 false,
   .q 33 (.bin .neq (.t 29) (.t 32)) 26 false,
   .a 34 (.pick (.t 26) (.c (.pl (.bool true))) (.t 33))])
  (.cond (.t 34) (.seq (.reg [.a 4 (.mov (.c (.pl (.bool false))))])
   .ret)
  .skip))
  (.seq (.seq (.reg [.a 35 (.fadd (.t 2) 4),
   .a 36 (.load 1 false (.t 35)),
   .a 37 (.len (.t 36)),
   .a 38 (.mov (.i 0))])
  (.block 0 (.loop [2, 3, 4, 37, 38] [0, 1, 2, 3, 4, 5, 1000, 1016]
   (.seq (.reg [.a 39 (.bin .lss (.t 38) (.t 37))])
    (.seq (.cond (.t 39) .skip
    (.exit 0))
    (.seq (.block 1 (.seq (.reg [.a 40 (.mov (.t 38)),
   .a 5 (.mov (.t 40))])
     (.seq (.drw [.a 41 (.fadd (.t 2) 4),
   .a 42 (.load 1 false (.t 41)),
   .a 43 (.mov (.t 5)),
   .a 44 (.iadd 5 (.t 42) (.t 43)),
   .a 45 (.load 5 true (.t 44)),
   .a 46 (.fadd (.t 3) 4),
   .a 47 (.load 1 false (.t 46)),
   .a 48 (.mov (.t 5)),
   .a 49 (.iadd 5 (.t 47) (.t 48)),
   .a 50 (.load 5 true (.t 49)),
   .a 51 (.call 1048 68 [(.t 45), (.t 50)]),
   .a 52 (.un .not (.t 51))] [0, 1, 0, 7, 15, 0, 32, 0, 224, 480, 1023, 2047])
     (.cond (.t 52) (.seq (.reg [.a 4 (.mov (.c (.pl (.bool false))))])
      .ret)
     .skip))))
    (.reg [.a 53 (.bin .add (.t 38) (.i 1)),
   .a 38 (.mov (.t 53))])))))))
  (.seq (.reg [.a 4 (.mov (.c (.pl (.bool true))))])
  .ret))))⟩
def r69 : RFunc := ⟨1, [.cell 2 5 true],
  (.seq (.reg [.a 2 (.alloc 1000 5 (.agg [.pl (.int .i64 0), .pl (.int .i64 0), .pl (.int .i64 0), .own 1001 0, .own 1002 0]) [(1001, 2), (1002, 5)])])
  (.seq (.reg [.a 4 (.call 1016 44 [(.i 4), (.c (.pl (.sl 0 [])))]),
   .a 3 (.alloc 1032 5 (.agg [.pl (.int .i64 0), .pl (.int .i64 0), .pl (.int .i64 0), .own 1033 0, .own 1034 0]) [(1033, 2), (1034, 5)]),
   .n (.store 5 (.t 3) (.t 4))])
  (.seq (.block 0 (.loop [0, 2, 3] [0, 1, 2, 3, 4, 5, 1000, 1001, 1002, 1032, 1033, 1034]
   (.seq (.seq (.reg [.a 5 (.mov (.t 0)),
   .a 6 (.bin .gtr (.t 5) (.i 0))])
    (.cond (.t 6) .skip
    (.exit 0)))
    (.seq (.block 1 (.reg [.a 9 (.load 5 true (.t 3)),
   .a 10 (.bsl 5 [(.t 9)]),
   .a 11 (.build [.pl (.int .i64 0), .pl (.int .i64 0), .pl (.int .i64 0), .pl (.sl 2 []), .pl (.sl 5 [])] [] [(0, 1, (.i 5)), (4, 1, (.t 10))]),
   .n (.store 5 (.t 3) (.t 11))]))
    (.reg [.a 7 (.mov (.t 0)),
   .a 8 (.bin .sub (.t 7) (.i 1)),
   .a 0 (.mov (.t 8))])))))
  (.seq (.reg [.a 12 (.load 5 true (.t 3)),
   .n (.store 5 (.t 2) (.t 12))])
  .ret))))⟩
def r70 : RFunc := ⟨1, [.cell 2 5 true],
  (.seq (.reg [.a 1 (.box 1000 5 (.t 0)),
   .a 2 (.alloc 1016 5 (.agg [.pl (.int .i64 0), .pl (.int .i64 0), .pl (.int .i64 0), .own 1017 0, .own 1018 0]) [(1017, 2), (1018, 5)])])
  (.seq (.drw [.a 3 (.call 1032 20 []),
   .a 4 (.load 5 true (.t 1)),
   .a 5 (.bsl 5 [(.t 4)]),
   .a 6 (.call 1048 43 [(.i 2), (.t 3), (.t 5)]),
   .n (.store 5 (.t 2) (.t 6))] [0, 0, 2, 7, 15])
  .ret))⟩
def r71 : RFunc := ⟨3, [.cell 6 5 true],
  (.seq (.reg [.a 3 (.box 1000 5 (.t 0)),
   .a 4 (.box 1016 5 (.t 1)),
   .a 5 (.box 1032 5 (.t 2)),
   .a 6 (.alloc 1048 5 (.agg [.pl (.int .i64 0), .pl (.int .i64 0), .pl (.int .i64 0), .own 1049 0, .own 1050 0]) [(1049, 2), (1050, 5)])])
  (.seq (.drw [.a 7 (.call 1064 20 []),
   .a 8 (.load 5 true (.t 3)),
   .a 9 (.load 5 true (.t 4)),
   .a 10 (.load 5 true (.t 5)),
   .a 11 (.bsl 5 [(.t 8), (.t 9), (.t 10)]),
   .a 12 (.call 1080 43 [(.i 6), (.t 7), (.t 11)]),
   .n (.store 5 (.t 6) (.t 12))] [0, 0, 0, 0, 14, 31, 63])
  .ret))⟩
def r72 : RFunc := ⟨0, [.cell 0 5 true],
  (.seq (.reg [.a 0 (.alloc 1000 5 (.agg [.pl (.int .i64 0), .pl (.int .i64 0), .pl (.int .i64 0), .own 1001 0, .own 1002 0]) [(1001, 2), (1002, 5)])])
  (.seq (.reg [.a 1 (.call 1016 44 [(.i 4), (.c (.pl (.sl 0 [])))]),
   .a 2 (.call 1032 42 [(.i 1)]),
   .a 3 (.call 1048 70 [(.t 2)]),
   .a 4 (.call 1064 70 [(.t 3)]),
   .a 5 (.call 1080 42 [(.i 0)]),
   .a 6 (.call 1096 71 [(.t 1), (.t 4), (.t 5)]),
   .a 7 (.call 1112 70 [(.t 6)]),
   .n (.store 5 (.t 0) (.t 7))])
  .ret))⟩
def r73 : RFunc := ⟨1, [.tmp 2],
  (.seq (.reg [.a 2 (.mov (.c (.pl (.bool false))))])
  (.seq (.reg [.a 3 (.mov (.t 0)),
   .a 4 (.bin .geq (.t 3) (.i 0)),
   .a 5 (.mov (.t 4)),
   .q 6 (.mov (.t 0)) 5 true,
   .q 7 (.bin .leq (.t 6) (.i 4096)) 5 true,
   .a 8 (.pick (.t 5) (.t 7) (.c (.pl (.bool false)))),
   .a 2 (.mov (.t 8))])
  .ret))⟩
def r74 : RFunc := ⟨1, [.tmp 2],
  (.seq (.reg [.a 1 (.box 1000 5 (.t 0)),
   .a 2 (.mov (.c (.pl (.bool false))))])
  (.seq (.reg [.a 3 (.alloc 1016 1 (.pl (.bool false)) []),
   .n (.store 1 (.t 3) (.c (.pl (.bool true))))])
  (.seq (.reg [.a 4 (.load 5 true (.t 1)),
   .a 5 (.mkf 84 [(.t 3)]),
   .a 6 (.call 1032 85 [(.t 4), (.i 0), (.t 5)])])
  (.seq (.reg [.a 7 (.load 1 false (.t 3)),
   .a 2 (.mov (.t 7))])
  .ret))))⟩
def r75 : RFunc := ⟨3, [.cell 6 5 true],
  (.seq (.reg [.a 3 (.box 1000 5 (.t 0)),
   .a 4 (.box 1016 1 (.t 1)),
   .a 5 (.box 1032 1 (.t 2)),
   .a 6 (.alloc 1048 5 (.agg [.pl (.int .i64 0), .pl (.int .i64 0), .own 1049 0, .own 1050 0, .own 1051 0]) [(1049, 2), (1050, 5), (1051, 5)])])
  (.seq (.reg [.a 7 (.load 5 true (.t 3)),
   .a 8 (.mkf 86 [(.t 4), (.t 5)]),
   .a 9 (.call 1064 58 [(.t 7), (.i 0), (.t 8)]),
   .n (.store 5 (.t 6) (.t 9))])
  .ret))⟩
def r76 : RFunc := ⟨1, [.tmp 2, .tmp 3],
  (.seq (.reg [.a 1 (.box 1000 5 (.t 0)),
   .a 2 (.mov (.i 0)),
   .a 3 (.mov (.c (.pl (.bool false))))])
  (.seq (.seq (.reg [.a 13 (.load 5 true (.t 1)),
   .a 14 (.call 1016 87 [(.t 13)]),
   .a 15 (.un .not (.t 14))])
  (.cond (.t 15) (.seq (.reg [.a 2 (.mov (.i 0)),
   .a 3 (.mov (.c (.pl (.bool false))))])
   .ret)
  .skip))
  (.seq (.reg [.a 4 (.mov (.i 1))])
  (.seq (.seq (.reg [.a 16 (.fadd (.t 1) 3),
   .a 17 (.load 1 false (.t 16)),
   .a 18 (.len (.t 17)),
   .a 19 (.mov (.i 0))])
  (.block 0 (.loop [1, 2, 3, 4, 17, 18, 19] [0, 1, 2, 3, 4, 5, 1000]
   (.seq (.reg [.a 20 (.bin .lss (.t 19) (.t 18))])
    (.seq (.cond (.t 20) .skip
    (.exit 0))
    (.seq (.block 1 (.seq (.reg [.a 21 (.iadd 5 (.t 17) (.t 19)),
   .a 22 (.load 5 true (.t 21)),
   .a 6 (.alloc 1032 5 (.agg [.pl (.int .i64 0), .pl (.int .i64 0), .pl (.int .i64 0), .own 1033 0, .own 1034 0]) [(1033, 2), (1034, 5)]),
   .n (.store 5 (.t 6) (.t 22))])
     (.seq (.reg [.a 24 (.load 5 true (.t 6)),
   .a 25 (.call 1048 88 [(.t 24)]),
   .a 23 (.mov (.t 25)),
   .a 26 (.ext (.t 23) 0),
   .a 27 (.ext (.t 23) 1),
   .a 7 (.mov (.t 26)),
   .a 8 (.mov (.t 27))])
     (.seq (.seq (.reg [.a 28 (.mov (.t 8)),
   .a 29 (.un .not (.t 28))])
     (.cond (.t 29) (.seq (.reg [.a 2 (.mov (.i 0)),
   .a 3 (.mov (.c (.pl (.bool false))))])
      .ret)
     .skip))
     (.reg [.a 30 (.mov (.t 4)),
   .a 31 (.mov (.t 7)),
   .a 32 (.bin .add (.t 30) (.t 31)),
   .a 4 (.mov (.t 32))])))))
    (.reg [.a 33 (.bin .add (.t 19) (.i 1)),
   .a 19 (.mov (.t 33))])))))))
  (.seq (.seq (.reg [.a 34 (.fadd (.t 1) 4),
   .a 35 (.load 1 false (.t 34)),
   .a 36 (.len (.t 35)),
   .a 37 (.mov (.i 0))])
  (.block 2 (.loop [2, 3, 4, 35, 36, 37] [0, 1, 2, 3, 4, 5, 1033, 1034]
   (.seq (.reg [.a 38 (.bin .lss (.t 37) (.t 36))])
    (.seq (.cond (.t 38) .skip
    (.exit 2))
    (.seq (.block 3 (.seq (.reg [.a 39 (.iadd 5 (.t 35) (.t 37)),
   .a 40 (.load 5 true (.t 39)),
   .a 10 (.alloc 1064 5 (.agg [.pl (.int .i64 0), .pl (.int .i64 0), .own 1065 0, .own 1066 0, .own 1067 0]) [(1065, 2), (1066, 5), (1067, 5)]),
   .n (.store 5 (.t 10) (.t 40))])
     (.seq (.reg [.a 42 (.load 5 true (.t 10)),
   .a 43 (.call 1080 76 [(.t 42)]),
   .a 41 (.mov (.t 43)),
   .a 44 (.ext (.t 41) 0),
   .a 45 (.ext (.t 41) 1),
   .a 11 (.mov (.t 44)),
   .a 12 (.mov (.t 45))])
     (.seq (.seq (.reg [.a 46 (.mov (.t 12)),
   .a 47 (.un .not (.t 46))])
     (.cond (.t 47) (.seq (.reg [.a 2 (.mov (.i 0)),
   .a 3 (.mov (.c (.pl (.bool false))))])
      .ret)
     .skip))
     (.reg [.a 48 (.mov (.t 4)),
   .a 49 (.mov (.t 11)),
   .a 50 (.bin .add (.t 48) (.t 49)),
   .a 4 (.mov (.t 50))])))))
    (.reg [.a 51 (.bin .add (.t 37) (.i 1)),
   .a 37 (.mov (.t 51))])))))))
  (.seq (.reg [.a 52 (.mov (.t 4)),
   .a 2 (.mov (.t 52)),
   .a 3 (.mov (.c (.pl (.bool true))))])
  .ret))))))⟩
def r77 : RFunc := ⟨1, [.cell 2 2 true],
  (.seq (.reg [.a 1 (.box 1000 2 (.t 0)),
   .a 2 (.alloc 1016 2 (.agg [.pl (.int .i64 0), .own 1017 0]) [(1017, 2)])])
  (.seq (.reg [.a 6 (.fadd (.t 1) 0),
   .a 7 (.load 1 false (.t 6)),
   .a 8 (.build [.pl (.int .i64 0), .own 1033 0] [(1033, 2)] [(0, 1, (.t 7))]),
   .a 3 (.alloc 1048 2 (.agg [.pl (.int .i64 0), .own 1049 0]) [(1049, 2)]),
   .n (.store 2 (.t 3) (.t 8))])
  (.seq (.seq (.reg [.a 9 (.fadd (.t 1) 1),
   .a 10 (.load 1 false (.t 9)),
   .a 11 (.len (.t 10)),
   .a 12 (.mov (.i 0))])
  (.block 0 (.loop [2, 3, 10, 11, 12] [0, 1, 2, 3, 4, 5, 1016, 1017, 1032, 1033, 1048, 1049]
   (.seq (.reg [.a 13 (.bin .lss (.t 12) (.t 11))])
    (.seq (.cond (.t 13) .skip
    (.exit 0))
    (.seq (.block 1 (.seq (.reg [.a 14 (.iadd 2 (.t 10) (.t 12)),
   .a 15 (.load 2 true (.t 14)),
   .a 5 (.alloc 1064 2 (.agg [.pl (.int .i64 0), .own 1065 0]) [(1065, 2)]),
   .n (.store 2 (.t 5) (.t 15))])
     (.drw [.a 16 (.fadd (.t 3) 1),
   .a 17 (.load 1 false (.t 16)),
   .a 18 (.load 2 true (.t 5)),
   .a 19 (.call 1080 77 [(.t 18)]),
   .a 20 (.bsl 2 [(.t 19)]),
   .a 21 (.app 2 (.t 17) (.t 20)),
   .a 22 (.fadd (.t 3) 1),
   .n (.store 1 (.t 22) (.t 21))] [0, 1, 0, 4, 12, 31, 63, 127])))
    (.reg [.a 23 (.bin .add (.t 12) (.i 1)),
   .a 12 (.mov (.t 23))])))))))
  (.seq (.reg [.a 24 (.load 2 true (.t 3)),
   .n (.store 2 (.t 2) (.t 24))])
  .ret))))⟩
def r78 : RFunc := ⟨1, [.tmp 2],
  (.seq (.reg [.a 2 (.mov (.c (.pl (.bool false))))])
  (.seq (.reg [.a 3 (.mov (.t 0)),
   .a 4 (.bin .geq (.t 3) (.i 4)),
   .a 5 (.mov (.t 4)),
   .q 6 (.mov (.t 0)) 5 true,
   .q 7 (.bin .leq (.t 6) (.i 7)) 5 true,
   .a 8 (.pick (.t 5) (.t 7) (.c (.pl (.bool false)))),
   .a 2 (.mov (.t 8))])
  .ret))⟩
def r79 : RFunc := ⟨1, [.cell 2 5 true],
  (.seq (.reg [.a 1 (.box 1000 5 (.t 0)),
   .a 2 (.alloc 1016 5 (.agg [.pl (.int .i64 0), .pl (.int .i64 0), .pl (.int .i64 0), .own 1017 0, .own 1018 0]) [(1017, 2), (1018, 5)])])
  (.seq (.drw [.a 6 (.fadd (.t 1) 0),
   .a 7 (.load 1 false (.t 6)),
   .a 8 (.fadd (.t 1) 1),
   .a 9 (.load 1 false (.t 8)),
   .a 10 (.fadd (.t 1) 2),
   .a 11 (.load 2 true (.t 10)),
   .a 12 (.call 1032 77 [(.t 11)]),
   .a 13 (.build [.pl (.int .i64 0), .pl (.int .i64 0), .pl (.int .i64 0), .pl (.sl 2 []), .own 1049 0] [(1049, 5)] [(0, 1, (.t 7)), (1, 1, (.t 9)), (2, 2, (.t 12))]),
   .a 3 (.alloc 1064 5 (.agg [.pl (.int .i64 0), .pl (.int .i64 0), .pl (.int .i64 0), .own 1065 0, .own 1066 0]) [(1065, 2), (1066, 5)]),
   .n (.store 5 (.t 3) (.t 13))] [0, 1, 0, 4, 0, 16, 48, 127, 0, 511])
  (.seq (.seq (.reg [.a 14 (.fadd (.t 1) 4),
   .a 15 (.load 1 false (.t 14)),
   .a 16 (.len (.t 15)),
   .a 17 (.mov (.i 0))])
  (.block 0 (.loop [2, 3, 15, 16, 17] [0, 1, 2, 3, 4, 5, 1016, 1017, 1018, 1048, 1049, 1064, 1065, 1066]
   (.seq (.reg [.a 18 (.bin .lss (.t 17) (.t 16))])
    (.seq (.cond (.t 18) .skip
    (.exit 0))
    (.seq (.block 1 (.seq (.reg [.a 19 (.iadd 5 (.t 15) (.t 17)),
   .a 20 (.load 5 true (.t 19)),
   .a 5 (.alloc 1080 5 (.agg [.pl (.int .i64 0), .pl (.int .i64 0), .pl (.int .i64 0), .own 1081 0, .own 1082 0]) [(1081, 2), (1082, 5)]),
   .n (.store 5 (.t 5) (.t 20))])
     (.drw [.a 21 (.fadd (.t 3) 4),
   .a 22 (.load 1 false (.t 21)),
   .a 23 (.load 5 true (.t 5)),
   .a 24 (.call 1096 79 [(.t 23)]),
   .a 25 (.bsl 5 [(.t 24)]),
   .a 26 (.app 5 (.t 22) (.t 25)),
   .a 27 (.fadd (.t 3) 4),
   .n (.store 1 (.t 27) (.t 26))] [0, 1, 0, 4, 12, 31, 63, 127])))
    (.reg [.a 28 (.bin .add (.t 17) (.i 1)),
   .a 17 (.mov (.t 28))])))))))
  (.seq (.reg [.a 29 (.load 5 true (.t 3)),
   .n (.store 5 (.t 2) (.t 29))])
  .ret))))⟩
def r80 : RFunc := ⟨1, [.tmp 2],
  (.seq (.reg [.a 1 (.box 1000 5 (.t 0)),
   .a 2 (.mov (.c (.pl (.bool false))))])
  (.seq (.block 0 (.seq (.reg [.a 4 (.fadd (.t 1) 0),
   .a 5 (.load 1 false (.t 4)),
   .a 6 (.bin .eql (.t 5) (.i 1)),
   .a 3 (.mov (.t 6))])
   (.cond (.t 3) (.seq (.reg [.a 7 (.fadd (.t 1) 4),
   .a 8 (.load 1 false (.t 7)),
   .a 9 (.len (.t 8)),
   .a 10 (.bin .eql (.t 9) (.i 0)),
   .a 11 (.mov (.t 10)),
   .q 12 (.fadd (.t 1) 1) 11 true,
   .q 13 (.load 2 true (.t 12)) 11 true,
   .q 14 (.call 1016 89 [(.t 13)]) 11 true,
   .a 15 (.pick (.t 11) (.t 14) (.c (.pl (.bool false)))),
   .a 16 (.mov (.t 15)),
   .q 17 (.fadd (.t 1) 3) 16 true,
   .q 18 (.load 1 false (.t 17)) 16 true,
   .q 19 (.len (.t 18)) 16 true,
   .q 20 (.bin .eql (.t 19) (.i 2)) 16 true,
   .a 21 (.pick (.t 16) (.t 20) (.c (.pl (.bool false)))),
   .a 22 (.mov (.t 21)),
   .q 23 (.fadd (.t 1) 3) 22 true,
   .q 24 (.load 1 false (.t 23)) 22 true,
   .q 25 (.iadd 5 (.t 24) (.i 0)) 22 true,
   .q 26 (.load 5 true (.t 25)) 22 true,
   .q 27 (.call 1032 90 [(.t 26)]) 22 true,
   .a 28 (.pick (.t 22) (.t 27) (.c (.pl (.bool false)))),
   .a 29 (.mov (.t 28)),
   .q 30 (.fadd (.t 1) 3) 29 true,
   .q 31 (.load 1 false (.t 30)) 29 true,
   .q 32 (.iadd 5 (.t 31) (.i 1)) 29 true,
   .q 33 (.load 5 true (.t 32)) 29 true,
   .q 34 (.call 1048 90 [(.t 33)]) 29 true,
   .a 35 (.pick (.t 29) (.t 34) (.c (.pl (.bool false)))),
   .a 2 (.mov (.t 35))])
    .ret)
   (.seq (.reg [.a 37 (.fadd (.t 1) 0),
   .a 38 (.load 1 false (.t 37)),
   .a 39 (.bin .eql (.t 38) (.i 2)),
   .a 40 (.mov (.t 39)),
   .q 41 (.fadd (.t 1) 0) 40 false,
   .q 42 (.load 1 false (.t 41)) 40 false,
   .q 43 (.bin .eql (.t 42) (.i 3)) 40 false,
   .a 44 (.pick (.t 40) (.c (.pl (.bool true))) (.t 43)),
   .a 36 (.mov (.t 44))])
    (.cond (.t 36) (.seq (.reg [.a 45 (.fadd (.t 1) 3),
   .a 46 (.load 1 false (.t 45)),
   .a 47 (.len (.t 46)),
   .a 48 (.bin .eql (.t 47) (.i 0)),
   .a 49 (.mov (.t 48)),
   .q 50 (.fadd (.t 1) 1) 49 true,
   .q 51 (.load 2 true (.t 50)) 49 true,
   .q 52 (.call 1064 89 [(.t 51)]) 49 true,
   .a 53 (.pick (.t 49) (.t 52) (.c (.pl (.bool false)))),
   .a 54 (.mov (.t 53)),
   .q 55 (.fadd (.t 1) 4) 54 true,
   .q 56 (.load 1 false (.t 55)) 54 true,
   .q 57 (.len (.t 56)) 54 true,
   .q 58 (.bin .eql (.t 57) (.i 2)) 54 true,
   .a 59 (.pick (.t 54) (.t 58) (.c (.pl (.bool false)))),
   .a 60 (.mov (.t 59)),
   .q 61 (.fadd (.t 1) 4) 60 true,
   .q 62 (.load 1 false (.t 61)) 60 true,
   .q 63 (.iadd 5 (.t 62) (.i 0)) 60 true,
   .q 64 (.load 5 true (.t 63)) 60 true,
   .q 65 (.call 1080 80 [(.t 64)]) 60 true,
   .a 66 (.pick (.t 60) (.t 65) (.c (.pl (.bool false)))),
   .a 67 (.mov (.t 66)),
   .q 68 (.fadd (.t 1) 4) 67 true,
   .q 69 (.load 1 false (.t 68)) 67 true,
   .q 70 (.iadd 5 (.t 69) (.i 1)) 67 true,
   .q 71 (.load 5 true (.t 70)) 67 true,
   .q 72 (.call 1096 80 [(.t 71)]) 67 true,
   .a 73 (.pick (.t 67) (.t 72) (.c (.pl (.bool false)))),
   .a 2 (.mov (.t 73))])
     .ret)
    (.seq (.reg [.a 75 (.fadd (.t 1) 0),
   .a 76 (.load 1 false (.t 75)),
   .a 77 (.call 1112 91 [(.t 76)]),
   .a 74 (.mov (.t 77))])
     (.cond (.t 74) (.seq (.reg [.a 78 (.fadd (.t 1) 3),
   .a 79 (.load 1 false (.t 78)),
   .a 80 (.len (.t 79)),
   .a 81 (.bin .eql (.t 80) (.i 0)),
   .a 82 (.mov (.t 81)),
   .q 83 (.fadd (.t 1) 1) 82 true,
   .q 84 (.load 2 true (.t 83)) 82 true,
   .q 85 (.call 1128 92 [(.t 84)]) 82 true,
   .q 86 (.bin .eql (.t 85) (.i 0)) 82 true,
   .a 87 (.pick (.t 82) (.t 86) (.c (.pl (.bool false)))),
   .a 88 (.mov (.t 87)),
   .q 89 (.fadd (.t 1) 4) 88 true,
   .q 90 (.load 1 false (.t 89)) 88 true,
   .q 91 (.len (.t 90)) 88 true,
   .q 92 (.bin .eql (.t 91) (.i 1)) 88 true,
   .a 93 (.pick (.t 88) (.t 92) (.c (.pl (.bool false)))),
   .a 94 (.mov (.t 93)),
   .q 95 (.fadd (.t 1) 4) 94 true,
   .q 96 (.load 1 false (.t 95)) 94 true,
   .q 97 (.iadd 5 (.t 96) (.i 0)) 94 true,
   .q 98 (.load 5 true (.t 97)) 94 true,
   .q 99 (.call 1144 80 [(.t 98)]) 94 true,
   .a 100 (.pick (.t 94) (.t 99) (.c (.pl (.bool false)))),
   .a 2 (.mov (.t 100))])
      .ret)
     .skip)))))))
  (.seq (.reg [.a 2 (.mov (.c (.pl (.bool false))))])
  .ret)))⟩
def r81 : RFunc := ⟨2, [.tmp 4],
  (.seq (.reg [.a 2 (.box 1000 5 (.t 0)),
   .a 4 (.mov (.c (.pl (.bool false))))])
  (.seq (.seq (.reg [.a 7 (.fadd (.t 2) 1),
   .a 8 (.load 1 false (.t 7)),
   .a 9 (.mov (.t 1)),
   .a 10 (.bin .gtr (.t 8) (.t 9))])
  (.cond (.t 10) (.seq (.reg [.a 4 (.mov (.c (.pl (.bool false))))])
   .ret)
  .skip))
  (.seq (.seq (.reg [.a 11 (.fadd (.t 2) 4),
   .a 12 (.load 1 false (.t 11)),
   .a 13 (.len (.t 12)),
   .a 14 (.mov (.i 0))])
  (.block 0 (.loop [1, 4, 12, 13, 14] [0, 1, 2, 3, 4, 5]
   (.seq (.reg [.a 15 (.bin .lss (.t 14) (.t 13))])
    (.seq (.cond (.t 15) .skip
    (.exit 0))
    (.seq (.block 1 (.seq (.reg [.a 16 (.iadd 5 (.t 12) (.t 14)),
   .a 17 (.load 5 true (.t 16)),
   .a 6 (.alloc 1016 5 (.agg [.pl (.int .i64 0), .pl (.int .i64 0), .pl (.int .i64 0), .own 1017 0, .own 1018 0]) [(1017, 2), (1018, 5)]),
   .n (.store 5 (.t 6) (.t 17))])
     (.seq (.reg [.a 18 (.load 5 true (.t 6)),
   .a 19 (.mov (.t 1)),
   .a 20 (.call 1032 81 [(.t 18), (.t 19)]),
   .a 21 (.un .not (.t 20))])
     (.cond (.t 21) (.seq (.reg [.a 4 (.mov (.c (.pl (.bool false))))])
      .ret)
     .skip))))
    (.reg [.a 22 (.bin .add (.t 14) (.i 1)),
   .a 14 (.mov (.t 22))])))))))
  (.seq (.reg [.a 4 (.mov (.c (.pl (.bool true))))])
  .ret))))⟩
def r82 : RFunc := ⟨1, [.tmp 2],
  (.seq (.reg [.a 1 (.box 1000 5 (.t 0)),
   .a 2 (.mov (.i 0))])
  (.seq (.reg [.a 3 (.mov (.i 1))])
  (.seq (.seq (.reg [.a 6 (.fadd (.t 1) 4),
   .a 7 (.load 1 false (.t 6)),
   .a 8 (.len (.t 7)),
   .a 9 (.mov (.i 0))])
  (.block 0 (.loop [3, 7, 8, 9] [0, 1, 2, 3, 4, 5]
   (.seq (.reg [.a 10 (.bin .lss (.t 9) (.t 8))])
    (.seq (.cond (.t 10) .skip
    (.exit 0))
    (.seq (.block 1 (.seq (.reg [.a 11 (.iadd 5 (.t 7) (.t 9)),
   .a 12 (.load 5 true (.t 11)),
   .a 5 (.alloc 1016 5 (.agg [.pl (.int .i64 0), .pl (.int .i64 0), .pl (.int .i64 0), .own 1017 0, .own 1018 0]) [(1017, 2), (1018, 5)]),
   .n (.store 5 (.t 5) (.t 12))])
     (.reg [.a 13 (.mov (.t 3)),
   .a 14 (.load 5 true (.t 5)),
   .a 15 (.call 1032 82 [(.t 14)]),
   .a 16 (.bin .add (.t 13) (.t 15)),
   .a 3 (.mov (.t 16))])))
    (.reg [.a 17 (.bin .add (.t 9) (.i 1)),
   .a 9 (.mov (.t 17))])))))))
  (.seq (.reg [.a 18 (.mov (.t 3)),
   .a 2 (.mov (.t 18))])
  .ret))))⟩
def r84 : RFunc := ⟨3, [],
  (.seq (.reg [.a 3 (.box 1000 5 (.t 0))])
  (.reg [.a 5 (.load 1 false (.t 2)),
   .a 6 (.mov (.t 5)),
   .q 7 (.load 5 true (.t 3)) 6 true,
   .q 8 (.call 1016 95 [(.t 7)]) 6 true,
   .a 9 (.pick (.t 6) (.t 8) (.c (.pl (.bool false)))),
   .n (.store 1 (.t 2) (.t 9))]))⟩
def r85 : RFunc := ⟨3, [],
  (.seq (.reg [.a 3 (.box 1000 5 (.t 0))])
  (.seq (.seq (.reg [.a 10 (.fadd (.t 3) 3),
   .a 11 (.load 1 false (.t 10)),
   .a 12 (.len (.t 11)),
   .a 13 (.mov (.i 0))])
  (.block 0 (.loop [1, 2, 3, 11, 12, 13] [0, 1, 2, 3, 4, 5, 1000]
   (.seq (.reg [.a 14 (.bin .lss (.t 13) (.t 12))])
    (.seq (.cond (.t 14) .skip
    (.exit 0))
    (.seq (.block 1 (.seq (.reg [.a 15 (.iadd 5 (.t 11) (.t 13)),
   .a 16 (.load 5 true (.t 15)),
   .a 7 (.alloc 1016 5 (.agg [.pl (.int .i64 0), .pl (.int .i64 0), .pl (.int .i64 0), .own 1017 0, .own 1018 0]) [(1017, 2), (1018, 5)]),
   .n (.store 5 (.t 7) (.t 16))])
     (.reg [.a 17 (.mov (.t 2)),
   .a 18 (.load 5 true (.t 7)),
   .a 19 (.mov (.t 1)),
   .a 20 (.callv 1032 (.t 17) [(.t 18), (.t 19)])])))
    (.reg [.a 21 (.bin .add (.t 13) (.i 1)),
   .a 13 (.mov (.t 21))])))))))
  (.seq (.seq (.reg [.a 22 (.fadd (.t 3) 0),
   .a 23 (.load 1 false (.t 22)),
   .a 24 (.call 1048 78 [(.t 23)])])
  (.cond (.t 24) (.reg [.a 25 (.mov (.t 1)),
   .a 26 (.bin .add (.t 25) (.i 1)),
   .a 1 (.mov (.t 26))])
  .skip))
  (.seq (.reg [.a 27 (.fadd (.t 3) 4),
   .a 28 (.load 1 false (.t 27)),
   .a 29 (.len (.t 28)),
   .a 30 (.mov (.i 0))])
  (.block 2 (.loop [1, 2, 28, 29, 30] [0, 1, 2, 3, 4, 5, 1017, 1018]
   (.seq (.reg [.a 31 (.bin .lss (.t 30) (.t 29))])
    (.seq (.cond (.t 31) .skip
    (.exit 2))
    (.seq (.block 3 (.seq (.reg [.a 32 (.iadd 5 (.t 28) (.t 30)),
   .a 33 (.load 5 true (.t 32)),
   .a 9 (.alloc 1064 5 (.agg [.pl (.int .i64 0), .pl (.int .i64 0), .own 1065 0, .own 1066 0, .own 1067 0]) [(1065, 2), (1066, 5), (1067, 5)]),
   .n (.store 5 (.t 9) (.t 33))])
     (.reg [.a 34 (.load 5 true (.t 9)),
   .a 35 (.mov (.t 1)),
   .a 36 (.mov (.t 2)),
   .a 37 (.call 1080 85 [(.t 34), (.t 35), (.t 36)])])))
    (.reg [.a 38 (.bin .add (.t 30) (.i 1)),
   .a 30 (.mov (.t 38))]))))))))))⟩
def r86 : RFunc := ⟨4, [.cell 6 5 true],
  (.seq (.reg [.a 4 (.box 1000 5 (.t 0)),
   .a 6 (.alloc 1016 5 (.agg [.pl (.int .i64 0), .pl (.int .i64 0), .pl (.int .i64 0), .own 1017 0, .own 1018 0]) [(1017, 2), (1018, 5)])])
  (.seq (.reg [.a 7 (.load 5 true (.t 4)),
   .a 8 (.load 1 false (.t 2)),
   .a 9 (.mov (.t 1)),
   .a 10 (.bin .add (.t 8) (.t 9)),
   .a 11 (.load 1 false (.t 3)),
   .a 12 (.call 1032 96 [(.t 7), (.t 10), (.t 11)]),
   .n (.store 5 (.t 6) (.t 12))])
  .ret))⟩
def r87 : RFunc := ⟨1, [.tmp 2],
  (.seq (.reg [.a 1 (.box 1000 5 (.t 0)),
   .a 2 (.mov (.c (.pl (.bool false))))])
  (.seq (.reg [.a 3 (.mov (.i 0)),
   .a 4 (.mov (.i 0)),
   .a 5 (.mov (.c (.pl (.bool false))))])
  (.seq (.seq (.reg [.a 8 (.fadd (.t 1) 0),
   .a 9 (.load 1 false (.t 8))])
  (.block 0 (.seq (.reg [.a 11 (.bin .eql (.t 9) (.i 1)),
   .a 10 (.mov (.t 11))])
   (.cond (.t 10) (.reg [.a 3 (.mov (.i 2))])
   (.seq (.seq (.reg [.a 13 (.bin .eql (.t 9) (.i 2)),
   .a 12 (.mov (.t 13))])
    (.cond (.t 12) .skip
    (.reg [.a 14 (.bin .eql (.t 9) (.i 3)),
   .a 12 (.mov (.t 14))])))
    (.cond (.t 12) (.reg [.a 4 (.mov (.i 2))])
    (.seq (.seq (.reg [.a 16 (.bin .eql (.t 9) (.i 4)),
   .a 15 (.mov (.t 16))])
     (.cond (.t 15) .skip
     (.seq (.reg [.a 17 (.bin .eql (.t 9) (.i 5)),
   .a 15 (.mov (.t 17))])
      (.cond (.t 15) .skip
      (.seq (.reg [.a 18 (.bin .eql (.t 9) (.i 6)),
   .a 15 (.mov (.t 18))])
       (.cond (.t 15) .skip
       (.reg [.a 19 (.bin .eql (.t 9) (.i 7)),
   .a 15 (.mov (.t 19))])))))))
     (.cond (.t 15) (.reg [.a 4 (.mov (.i 1)),
   .a 5 (.mov (.c (.pl (.bool true))))])
     (.seq (.reg [.a 2 (.mov (.c (.pl (.bool false))))])
      .ret)))))))))
  (.seq (.seq (.reg [.a 20 (.mov (.t 5))])
  (.cond (.t 20) (.seq (.reg [.a 22 (.fadd (.t 1) 1),
   .a 23 (.load 2 true (.t 22)),
   .a 24 (.call 1016 97 [(.t 23)]),
   .a 21 (.mov (.t 24)),
   .a 25 (.ext (.t 21) 0),
   .a 26 (.ext (.t 21) 1),
   .a 6 (.mov (.t 25)),
   .a 7 (.mov (.t 26))])
   (.seq (.reg [.a 27 (.mov (.t 7)),
   .a 28 (.bin .neq (.t 27) (.i 0))])
   (.cond (.t 28) (.seq (.reg [.a 2 (.mov (.c (.pl (.bool false))))])
    .ret)
   .skip)))
  (.seq (.reg [.a 29 (.fadd (.t 1) 1),
   .a 30 (.load 2 true (.t 29)),
   .a 31 (.call 1032 98 [(.t 30)]),
   .a 32 (.un .not (.t 31))])
   (.cond (.t 32) (.seq (.reg [.a 2 (.mov (.c (.pl (.bool false))))])
    .ret)
   .skip))))
  (.seq (.reg [.a 33 (.fadd (.t 1) 3),
   .a 34 (.load 1 false (.t 33)),
   .a 35 (.len (.t 34)),
   .a 36 (.mov (.t 3)),
   .a 37 (.bin .eql (.t 35) (.t 36)),
   .a 38 (.mov (.t 37)),
   .q 39 (.fadd (.t 1) 4) 38 true,
   .q 40 (.load 1 false (.t 39)) 38 true,
   .q 41 (.len (.t 40)) 38 true,
   .q 42 (.mov (.t 4)) 38 true,
   .q 43 (.bin .eql (.t 41) (.t 42)) 38 true,
   .a 44 (.pick (.t 38) (.t 43) (.c (.pl (.bool false)))),
   .a 2 (.mov (.t 44))])
  .ret)))))⟩
def r88 : RFunc := ⟨1, [.tmp 2, .tmp 3],
  (.seq (.reg [.a 1 (.box 1000 5 (.t 0)),
   .a 2 (.mov (.i 0)),
   .a 3 (.mov (.c (.pl (.bool false))))])
  (.seq (.reg [.a 14 (.fadd (.t 1) 0),
   .a 15 (.load 1 false (.t 14)),
   .a 16 (.call 1016 99 [(.t 15)]),
   .a 13 (.mov (.t 16)),
   .a 17 (.ext (.t 13) 0),
   .a 18 (.ext (.t 13) 1),
   .a 4 (.mov (.t 17)),
   .a 5 (.mov (.t 18))])
  (.seq (.seq (.reg [.a 19 (.mov (.t 5)),
   .a 20 (.un .not (.t 19)),
   .a 21 (.mov (.t 20)),
   .q 22 (.fadd (.t 1) 4) 21 false,
   .q 23 (.load 1 false (.t 22)) 21 false,
   .q 24 (.len (.t 23)) 21 false,
   .q 25 (.mov (.t 4)) 21 false,
   .q 26 (.bin .neq (.t 24) (.t 25)) 21 false,
   .a 27 (.pick (.t 21) (.c (.pl (.bool true))) (.t 26)),
   .a 28 (.mov (.t 27)),
   .q 29 (.fadd (.t 1) 1) 28 false,
   .q 30 (.load 1 false (.t 29)) 28 false,
   .q 31 (.bin .lss (.t 30) (.i 0)) 28 false,
   .a 32 (.pick (.t 28) (.c (.pl (.bool true))) (.t 31)),
   .a 33 (.mov (.t 32)),
   .q 34 (.fadd (.t 1) 1) 33 false,
   .q 35 (.load 1 false (.t 34)) 33 false,
   .q 36 (.bin .neq (.t 35) (.i 0)) 33 false,
   .q 37 (.mov (.t 36)) 33 false,
   .q 38 (.fadd (.t 1) 0) 37 true,
   .q 39 (.load 1 false (.t 38)) 37 true,
   .q 40 (.bin .neq (.t 39) (.i 1)) 37 true,
   .q 41 (.pick (.t 37) (.t 40) (.c (.pl (.bool false)))) 33 false,
   .a 42 (.pick (.t 33) (.c (.pl (.bool true))) (.t 41))])
  (.cond (.t 42) (.seq (.reg [.a 2 (.mov (.i 0)),
   .a 3 (.mov (.c (.pl (.bool false))))])
   .ret)
  .skip))
  (.seq (.seq (.reg [.a 43 (.fadd (.t 1) 0),
   .a 44 (.load 1 false (.t 43)),
   .a 45 (.call 1032 100 [(.t 44)])])
  (.cond (.t 45) (.seq (.reg [.a 47 (.fadd (.t 1) 2),
   .a 48 (.load 2 true (.t 47)),
   .a 49 (.call 1048 97 [(.t 48)]),
   .a 46 (.mov (.t 49)),
   .a 50 (.ext (.t 46) 0),
   .a 51 (.ext (.t 46) 1),
   .a 6 (.mov (.t 50)),
   .a 7 (.mov (.t 51))])
   (.seq (.reg [.a 52 (.mov (.t 7)),
   .a 53 (.bin .neq (.t 52) (.i 0))])
   (.cond (.t 53) (.seq (.reg [.a 2 (.mov (.i 0)),
   .a 3 (.mov (.c (.pl (.bool false))))])
    .ret)
   .skip)))
  (.seq (.reg [.a 54 (.fadd (.t 1) 2),
   .a 55 (.load 2 true (.t 54)),
   .a 56 (.call 1064 98 [(.t 55)]),
   .a 57 (.un .not (.t 56))])
   (.cond (.t 57) (.seq (.reg [.a 2 (.mov (.i 0)),
   .a 3 (.mov (.c (.pl (.bool false))))])
    .ret)
   .skip))))
  (.seq (.reg [.a 8 (.mov (.i 1))])
  (.seq (.seq (.reg [.a 58 (.fadd (.t 1) 4),
   .a 59 (.load 1 false (.t 58)),
   .a 60 (.len (.t 59)),
   .a 61 (.mov (.i 0))])
  (.block 0 (.loop [2, 3, 8, 59, 60, 61] [0, 1, 2, 3, 4, 5]
   (.seq (.reg [.a 62 (.bin .lss (.t 61) (.t 60))])
    (.seq (.cond (.t 62) .skip
    (.exit 0))
    (.seq (.block 1 (.seq (.reg [.a 63 (.iadd 5 (.t 59) (.t 61)),
   .a 64 (.load 5 true (.t 63)),
   .a 10 (.alloc 1080 5 (.agg [.pl (.int .i64 0), .pl (.int .i64 0), .pl (.int .i64 0), .own 1081 0, .own 1082 0]) [(1081, 2), (1082, 5)]),
   .n (.store 5 (.t 10) (.t 64))])
     (.seq (.reg [.a 66 (.load 5 true (.t 10)),
   .a 67 (.call 1096 88 [(.t 66)]),
   .a 65 (.mov (.t 67)),
   .a 68 (.ext (.t 65) 0),
   .a 69 (.ext (.t 65) 1),
   .a 11 (.mov (.t 68)),
   .a 12 (.mov (.t 69))])
     (.seq (.seq (.reg [.a 70 (.mov (.t 12)),
   .a 71 (.un .not (.t 70))])
     (.cond (.t 71) (.seq (.reg [.a 2 (.mov (.i 0)),
   .a 3 (.mov (.c (.pl (.bool false))))])
      .ret)
     .skip))
     (.reg [.a 72 (.mov (.t 8)),
   .a 73 (.mov (.t 11)),
   .a 74 (.bin .add (.t 72) (.t 73)),
   .a 8 (.mov (.t 74))])))))
    (.reg [.a 75 (.bin .add (.t 61) (.i 1)),
   .a 61 (.mov (.t 75))])))))))
  (.seq (.reg [.a 76 (.mov (.t 8)),
   .a 2 (.mov (.t 76)),
   .a 3 (.mov (.c (.pl (.bool true))))])
  .ret)))))))⟩
def r89 : RFunc := ⟨1, [.tmp 2],
  (.seq (.reg [.a 1 (.box 1000 2 (.t 0)),
   .a 2 (.mov (.c (.pl (.bool false))))])
  (.seq (.reg [.a 3 (.fadd (.t 1) 0),
   .a 4 (.load 1 false (.t 3)),
   .a 5 (.bin .eql (.t 4) (.i 0)),
   .a 6 (.mov (.t 5)),
   .q 7 (.fadd (.t 1) 1) 6 true,
   .q 8 (.load 1 false (.t 7)) 6 true,
   .q 9 (.len (.t 8)) 6 true,
   .q 10 (.bin .eql (.t 9) (.i 0)) 6 true,
   .a 11 (.pick (.t 6) (.t 10) (.c (.pl (.bool false)))),
   .a 2 (.mov (.t 11))])
  .ret))⟩
def r90 : RFunc := ⟨1, [.tmp 2],
  (.seq (.reg [.a 1 (.box 1000 5 (.t 0)),
   .a 2 (.mov (.c (.pl (.bool false))))])
  (.seq (.seq (.drw [.a 5 (.fadd (.t 1) 4),
   .a 6 (.load 1 false (.t 5)),
   .a 7 (.len (.t 6)),
   .a 8 (.fadd (.t 1) 0),
   .a 9 (.load 1 false (.t 8)),
   .a 10 (.call 1016 101 [(.t 9)]),
   .a 11 (.bin .neq (.t 7) (.t 10)),
   .a 12 (.mov (.t 11)),
   .q 13 (.fadd (.t 1) 1) 12 false,
   .q 14 (.load 1 false (.t 13)) 12 false,
   .q 15 (.bin .lss (.t 14) (.i 0)) 12 false,
   .a 16 (.pick (.t 12) (.c (.pl (.bool true))) (.t 15)),
   .a 17 (.mov (.t 16)),
   .q 18 (.fadd (.t 1) 0) 17 false,
   .q 19 (.load 1 false (.t 18)) 17 false,
   .q 20 (.bin .neq (.t 19) (.i 1)) 17 false,
   .q 21 (.mov (.t 20)) 17 false,
   .q 22 (.fadd (.t 1) 1) 21 true,
   .q 23 (.load 1 false (.t 22)) 21 true,
   .q 24 (.bin .neq (.t 23) (.i 0)) 21 true,
   .q 25 (.pick (.t 21) (.t 24) (.c (.pl (.bool false)))) 17 false,
   .a 26 (.pick (.t 17) (.c (.pl (.bool true))) (.t 25))] [0, 1, 3, 0, 8, 24, 63, 127, 255, 511, 1023, 2047, 4095, 8191, 16383, 32767, 65535, 131071, 262143, 524287, 1048575, 2097151])
  (.cond (.t 26) (.seq (.reg [.a 2 (.mov (.c (.pl (.bool false))))])
   .ret)
  .skip))
  (.seq (.seq (.reg [.a 27 (.fadd (.t 1) 0),
   .a 28 (.load 1 false (.t 27))])
  (.block 0 (.seq (.seq (.reg [.a 34 (.bin .eql (.t 28) (.i 2)),
   .a 33 (.mov (.t 34))])
   (.cond (.t 33) .skip
   (.seq (.reg [.a 35 (.bin .eql (.t 28) (.i 6)),
   .a 33 (.mov (.t 35))])
    (.cond (.t 33) .skip
    (.reg [.a 36 (.bin .eql (.t 28) (.i 9)),
   .a 33 (.mov (.t 36))])))))
   (.cond (.t 33) (.seq (.reg [.a 37 (.fadd (.t 1) 2),
   .a 38 (.load 2 true (.t 37)),
   .a 39 (.call 1032 92 [(.t 38)]),
   .a 40 (.bin .neq (.t 39) (.i 0))])
    (.cond (.t 40) (.seq (.reg [.a 2 (.mov (.c (.pl (.bool false))))])
     .ret)
    .skip))
   (.seq (.reg [.a 29 (.fadd (.t 1) 2),
   .a 30 (.load 2 true (.t 29)),
   .a 31 (.call 1048 89 [(.t 30)]),
   .a 32 (.un .not (.t 31))])
    (.cond (.t 32) (.seq (.reg [.a 2 (.mov (.c (.pl (.bool false))))])
     .ret)
    .skip))))))
  (.seq (.seq (.reg [.a 41 (.fadd (.t 1) 4),
   .a 42 (.load 1 false (.t 41)),
   .a 43 (.len (.t 42)),
   .a 44 (.mov (.i 0))])
  (.block 1 (.loop [2, 42, 43, 44] [0, 1, 2, 3, 4, 5]
   (.seq (.reg [.a 45 (.bin .lss (.t 44) (.t 43))])
    (.seq (.cond (.t 45) .skip
    (.exit 1))
    (.seq (.block 2 (.seq (.reg [.a 46 (.iadd 5 (.t 42) (.t 44)),
   .a 47 (.load 5 true (.t 46)),
   .a 4 (.alloc 1064 5 (.agg [.pl (.int .i64 0), .pl (.int .i64 0), .pl (.int .i64 0), .own 1065 0, .own 1066 0]) [(1065, 2), (1066, 5)]),
   .n (.store 5 (.t 4) (.t 47))])
     (.seq (.reg [.a 48 (.load 5 true (.t 4)),
   .a 49 (.call 1080 90 [(.t 48)]),
   .a 50 (.un .not (.t 49))])
     (.cond (.t 50) (.seq (.reg [.a 2 (.mov (.c (.pl (.bool false))))])
      .ret)
     .skip))))
    (.reg [.a 51 (.bin .add (.t 44) (.i 1)),
   .a 44 (.mov (.t 51))])))))))
  (.seq (.reg [.a 2 (.mov (.c (.pl (.bool true))))])
  .ret)))))⟩
def r91 : RFunc := ⟨1, [.tmp 2],
  (.seq (.reg [.a 2 (.mov (.c (.pl (.bool false))))])
  (.seq (.reg [.a 3 (.mov (.t 0)),
   .a 4 (.bin .eql (.t 3) (.i 4)),
   .a 5 (.mov (.t 4)),
   .q 6 (.mov (.t 0)) 5 false,
   .q 7 (.bin .eql (.t 6) (.i 5)) 5 false,
   .a 8 (.pick (.t 5) (.c (.pl (.bool true))) (.t 7)),
   .a 9 (.mov (.t 8)),
   .q 10 (.mov (.t 0)) 9 false,
   .q 11 (.bin .eql (.t 10) (.i 6)) 9 false,
   .a 12 (.pick (.t 9) (.c (.pl (.bool true))) (.t 11)),
   .a 13 (.mov (.t 12)),
   .q 14 (.mov (.t 0)) 13 false,
   .q 15 (.bin .eql (.t 14) (.i 7)) 13 false,
   .a 16 (.pick (.t 13) (.c (.pl (.bool true))) (.t 15)),
   .a 2 (.mov (.t 16))])
  .ret))⟩
def r92 : RFunc := ⟨1, [.tmp 2],
  (.seq (.reg [.a 1 (.box 1000 2 (.t 0)),
   .a 2 (.mov (.i 0))])
  (.seq (.seq (.reg [.a 3 (.load 2 true (.t 1)),
   .a 4 (.call 1016 102 [(.t 3)]),
   .a 5 (.un .not (.t 4))])
  (.cond (.t 5) (.seq (.reg [.a 2 (.mov (.i 2))])
   .ret)
  .skip))
  (.seq (.seq (.reg [.a 6 (.load 2 true (.t 1)),
   .a 7 (.call 1032 103 [(.t 6)]),
   .a 8 (.bin .gtr (.t 7) (.i 64))])
  (.cond (.t 8) (.seq (.reg [.a 2 (.mov (.i 4))])
   .ret)
  .skip))
  (.seq (.reg [.a 2 (.mov (.i 0))])
  .ret))))⟩
def r93 : RFunc := ⟨3, [.cell 6 5 true],
  (.seq (.reg [.a 3 (.box 1000 5 (.t 0)),
   .a 6 (.alloc 1016 5 (.agg [.pl (.int .i64 0), .pl (.int .i64 0), .pl (.int .i64 0), .own 1017 0, .own 1018 0]) [(1017, 2), (1018, 5)])])
  (.seq (.reg [.a 10 (.fadd (.t 3) 0),
   .a 11 (.load 1 false (.t 10)),
   .a 12 (.fadd (.t 3) 1),
   .a 13 (.load 1 false (.t 12)),
   .a 14 (.fadd (.t 3) 2),
   .a 15 (.load 2 true (.t 14)),
   .a 16 (.build [.pl (.int .i64 0), .pl (.int .i64 0), .pl (.int .i64 0), .pl (.sl 2 []), .own 1033 0] [(1033, 5)] [(0, 1, (.t 11)), (1, 1, (.t 13)), (2, 2, (.t 15))]),
   .a 7 (.alloc 1048 5 (.agg [.pl (.int .i64 0), .pl (.int .i64 0), .pl (.int .i64 0), .own 1049 0, .own 1050 0]) [(1049, 2), (1050, 5)]),
   .n (.store 5 (.t 7) (.t 16))])
  (.seq (.seq (.reg [.a 17 (.fadd (.t 3) 0),
   .a 18 (.load 1 false (.t 17)),
   .a 19 (.bin .eql (.t 18) (.i 1)),
   .a 20 (.mov (.t 19)),
   .q 21 (.fadd (.t 3) 1) 20 true,
   .q 22 (.load 1 false (.t 21)) 20 true,
   .q 23 (.mov (.t 1)) 20 true,
   .q 24 (.bin .geq (.t 22) (.t 23)) 20 true,
   .a 25 (.pick (.t 20) (.t 24) (.c (.pl (.bool false))))])
  (.cond (.t 25) (.reg [.a 26 (.fadd (.t 7) 1),
   .a 27 (.load 1 false (.t 26)),
   .a 28 (.mov (.t 2)),
   .a 29 (.bin .add (.t 27) (.t 28)),
   .a 30 (.fadd (.t 7) 1),
   .n (.store 1 (.t 30) (.t 29))])
  .skip))
  (.seq (.seq (.reg [.a 31 (.fadd (.t 3) 4),
   .a 32 (.load 1 false (.t 31)),
   .a 33 (.len (.t 32)),
   .a 34 (.mov (.i 0))])
  (.block 0 (.loop [1, 2, 3, 6, 7, 32, 33, 34] [0, 1, 2, 3, 4, 5, 1000, 1016, 1017, 1018, 1032, 1033, 1048, 1049, 1050]
   (.seq (.reg [.a 35 (.bin .lss (.t 34) (.t 33))])
    (.seq (.cond (.t 35) .skip
    (.exit 0))
    (.seq (.block 1 (.seq (.reg [.a 36 (.iadd 5 (.t 32) (.t 34)),
   .a 37 (.load 5 true (.t 36)),
   .a 9 (.alloc 1064 5 (.agg [.pl (.int .i64 0), .pl (.int .i64 0), .pl (.int .i64 0), .own 1065 0, .own 1066 0]) [(1065, 2), (1066, 5)]),
   .n (.store 5 (.t 9) (.t 37))])
     (.drw [.a 38 (.fadd (.t 7) 4),
   .a 39 (.load 1 false (.t 38)),
   .a 40 (.load 5 true (.t 9)),
   .a 41 (.mov (.t 1)),
   .a 42 (.load 5 true (.t 3)),
   .a 43 (.call 1080 104 [(.t 42)]),
   .a 44 (.bin .add (.t 41) (.t 43)),
   .a 45 (.mov (.t 2)),
   .a 46 (.call 1096 93 [(.t 40), (.t 44), (.t 45)]),
   .a 47 (.bsl 5 [(.t 46)]),
   .a 48 (.app 5 (.t 39) (.t 47)),
   .a 49 (.fadd (.t 7) 4),
   .n (.store 1 (.t 49) (.t 48))] [0, 1, 0, 0, 0, 16, 56, 0, 252, 508, 1023, 2047, 4095])))
    (.reg [.a 50 (.bin .add (.t 34) (.i 1)),
   .a 34 (.mov (.t 50))])))))))
  (.seq (.reg [.a 51 (.load 5 true (.t 7)),
   .n (.store 5 (.t 6) (.t 51))])
  .ret)))))⟩
def r94 : RFunc := ⟨1, [.tmp 2],
  (.seq (.reg [.a 1 (.box 1000 5 (.t 0)),
   .a 2 (.mov (.i 0))])
  (.seq (.seq (.reg [.a 3 (.fadd (.t 1) 0),
   .a 4 (.load 1 false (.t 3)),
   .a 5 (.call 1016 91 [(.t 4)])])
  (.cond (.t 5) (.seq (.reg [.a 2 (.mov (.i 1))])
   .ret)
  .skip))
  (.seq (.reg [.a 2 (.mov (.i 0))])
  .ret)))⟩
def r95 : RFunc := ⟨1, [.tmp 2],
  (.seq (.reg [.a 1 (.box 1000 5 (.t 0)),
   .a 2 (.mov (.c (.pl (.bool false))))])
  (.seq (.reg [.a 3 (.alloc 1016 1 (.pl (.bool false)) []),
   .n (.store 1 (.t 3) (.c (.pl (.bool true))))])
  (.seq (.reg [.a 4 (.load 5 true (.t 1)),
   .a 5 (.mkf 105 [(.t 3)]),
   .a 6 (.call 1032 106 [(.t 4), (.t 5)])])
  (.seq (.reg [.a 7 (.load 1 false (.t 3)),
   .a 2 (.mov (.t 7))])
  .ret))))⟩
def r96 : RFunc := ⟨3, [.cell 6 5 true],
  (.seq (.reg [.a 3 (.box 1000 5 (.t 0)),
   .a 4 (.box 1016 1 (.t 1)),
   .a 5 (.box 1032 1 (.t 2)),
   .a 6 (.alloc 1048 5 (.agg [.pl (.int .i64 0), .pl (.int .i64 0), .pl (.int .i64 0), .own 1049 0, .own 1050 0]) [(1049, 2), (1050, 5)])])
  (.seq (.reg [.a 7 (.load 5 true (.t 3)),
   .a 8 (.mkf 107 [(.t 4), (.t 5)]),
   .a 9 (.call 1064 108 [(.t 7), (.t 8)]),
   .n (.store 5 (.t 6) (.t 9))])
  .ret))⟩
def r97 : RFunc := ⟨1, [.tmp 2, .tmp 3],
  (.seq (.reg [.a 1 (.box 1000 2 (.t 0)),
   .a 2 (.mov (.i 0)),
   .a 3 (.mov (.i 0))])
  (.seq (.reg [.a 7 (.load 2 true (.t 1)),
   .a 8 (.call 1016 109 [(.t 7)]),
   .a 6 (.mov (.t 8)),
   .a 9 (.ext (.t 6) 0),
   .a 10 (.ext (.t 6) 1),
   .a 4 (.mov (.t 9)),
   .a 5 (.mov (.t 10))])
  (.seq (.block 0 (.seq (.reg [.a 12 (.mov (.t 5)),
   .a 13 (.un .not (.t 12)),
   .a 11 (.mov (.t 13))])
   (.cond (.t 11) (.seq (.reg [.a 2 (.mov (.i 0)),
   .a 3 (.mov (.i 2))])
    .ret)
   (.seq (.reg [.a 15 (.mov (.t 4)),
   .a 16 (.bin .gtr (.t 15) (.i 64)),
   .a 14 (.mov (.t 16))])
    (.cond (.t 14) (.seq (.reg [.a 2 (.mov (.i 0)),
   .a 3 (.mov (.i 4))])
     .ret)
    .skip)))))
  (.seq (.reg [.a 17 (.mov (.t 4)),
   .a 2 (.mov (.t 17)),
   .a 3 (.mov (.i 0))])
  .ret))))⟩
def r98 : RFunc := ⟨1, [.tmp 2],
  (.seq (.reg [.a 1 (.box 1000 2 (.t 0)),
   .a 2 (.mov (.c (.pl (.bool false))))])
  (.seq (.reg [.a 3 (.fadd (.t 1) 0),
   .a 4 (.load 1 false (.t 3)),
   .a 5 (.bin .eql (.t 4) (.i 0)),
   .a 6 (.mov (.t 5)),
   .q 7 (.fadd (.t 1) 1) 6 true,
   .q 8 (.load 1 false (.t 7)) 6 true,
   .q 9 (.len (.t 8)) 6 true,
   .q 10 (.bin .eql (.t 9) (.i 0)) 6 true,
   .a 11 (.pick (.t 6) (.t 10) (.c (.pl (.bool false)))),
   .a 2 (.mov (.t 11))])
  .ret))⟩
def r99 : RFunc := ⟨1, [.tmp 2, .tmp 3],
  (.seq (.reg [.a 2 (.mov (.i 0)),
   .a 3 (.mov (.c (.pl (.bool false))))])
  (.seq (.seq (.reg [.a 4 (.mov (.t 0)),
   .a 5 (.bin .lss (.t 4) (.i 1)),
   .a 6 (.mov (.t 5)),
   .q 7 (.mov (.t 0)) 6 false,
   .q 8 (.bin .geq (.t 7) (.i 14)) 6 false,
   .a 9 (.pick (.t 6) (.c (.pl (.bool true))) (.t 8))])
  (.cond (.t 9) (.seq (.reg [.a 2 (.mov (.i 0)),
   .a 3 (.mov (.c (.pl (.bool false))))])
   .ret)
  .skip))
  (.seq (.reg [.a 10 (.mov (.t 0)),
   .a 11 (.iarr 14 1 (.g 369) (.t 10)),
   .a 12 (.load 1 false (.t 11)),
   .a 2 (.mov (.t 12)),
   .a 3 (.mov (.c (.pl (.bool true))))])
  .ret)))⟩
def r100 : RFunc := ⟨1, [.tmp 2],
  (.seq (.reg [.a 2 (.mov (.c (.pl (.bool false))))])
  (.seq (.reg [.a 3 (.mov (.t 0)),
   .a 4 (.bin .eql (.t 3) (.i 2)),
   .a 5 (.mov (.t 4)),
   .q 6 (.mov (.t 0)) 5 false,
   .q 7 (.bin .eql (.t 6) (.i 6)) 5 false,
   .a 8 (.pick (.t 5) (.c (.pl (.bool true))) (.t 7)),
   .a 9 (.mov (.t 8)),
   .q 10 (.mov (.t 0)) 9 false,
   .q 11 (.bin .eql (.t 10) (.i 9)) 9 false,
   .a 12 (.pick (.t 9) (.c (.pl (.bool true))) (.t 11)),
   .a 2 (.mov (.t 12))])
  .ret))⟩
def r101 : RFunc := ⟨1, [.tmp 2],
  (.seq (.reg [.a 2 (.mov (.i 0))])
  (.seq (.seq (.reg [.a 3 (.mov (.t 0))])
  (.block 0 (.seq (.seq (.reg [.a 5 (.bin .eql (.t 3) (.i 1)),
   .a 4 (.mov (.t 5))])
   (.cond (.t 4) .skip
   (.seq (.reg [.a 6 (.bin .eql (.t 3) (.i 4)),
   .a 4 (.mov (.t 6))])
    (.cond (.t 4) .skip
    (.seq (.reg [.a 7 (.bin .eql (.t 3) (.i 7)),
   .a 4 (.mov (.t 7))])
     (.cond (.t 4) .skip
     (.reg [.a 8 (.bin .eql (.t 3) (.i 13)),
   .a 4 (.mov (.t 8))])))))))
   (.cond (.t 4) (.seq (.reg [.a 2 (.mov (.i 0))])
    .ret)
   (.seq (.seq (.reg [.a 10 (.bin .eql (.t 3) (.i 2)),
   .a 9 (.mov (.t 10))])
    (.cond (.t 9) .skip
    (.seq (.reg [.a 11 (.bin .eql (.t 3) (.i 5)),
   .a 9 (.mov (.t 11))])
     (.cond (.t 9) .skip
     (.seq (.reg [.a 12 (.bin .eql (.t 3) (.i 11)),
   .a 9 (.mov (.t 12))])
      (.cond (.t 9) .skip
      (.reg [.a 13 (.bin .eql (.t 3) (.i 12)),
   .a 9 (.mov (.t 13))])))))))
    (.cond (.t 9) (.seq (.reg [.a 2 (.mov (.i 1))])
     .ret)
    (.seq (.seq (.reg [.a 15 (.bin .eql (.t 3) (.i 3)),
   .a 14 (.mov (.t 15))])
     (.cond (.t 14) .skip
     (.seq (.reg [.a 16 (.bin .eql (.t 3) (.i 8)),
   .a 14 (.mov (.t 16))])
      (.cond (.t 14) .skip
      (.reg [.a 17 (.bin .eql (.t 3) (.i 10)),
   .a 14 (.mov (.t 17))])))))
     (.cond (.t 14) (.seq (.reg [.a 2 (.mov (.i 2))])
      .ret)
     (.seq (.seq (.reg [.a 19 (.bin .eql (.t 3) (.i 6)),
   .a 18 (.mov (.t 19))])
      (.cond (.t 18) .skip
      (.reg [.a 20 (.bin .eql (.t 3) (.i 9)),
   .a 18 (.mov (.t 20))])))
      (.cond (.t 18) (.seq (.reg [.a 2 (.mov (.i 3))])
       .ret)
      .skip))))))))))
  (.seq (.reg [.a 2 (.mov (.i (-1)))])
  .ret)))⟩
def r102 : RFunc := ⟨1, [.tmp 2],
  (.seq (.reg [.a 1 (.box 1000 2 (.t 0)),
   .a 2 (.mov (.c (.pl (.bool false))))])
  (.seq (.reg [.a 3 (.mov (.i 0))])
  (.seq (.seq (.reg [.a 6 (.fadd (.t 1) 0),
   .a 7 (.load 1 false (.t 6))])
  (.block 0 (.seq (.seq (.reg [.a 9 (.bin .eql (.t 7) (.i 1)),
   .a 8 (.mov (.t 9))])
   (.cond (.t 8) .skip
   (.seq (.reg [.a 10 (.bin .eql (.t 7) (.i 2)),
   .a 8 (.mov (.t 10))])
    (.cond (.t 8) .skip
    (.reg [.a 11 (.bin .eql (.t 7) (.i 5)),
   .a 8 (.mov (.t 11))])))))
   (.cond (.t 8) .skip
   (.seq (.seq (.reg [.a 13 (.bin .eql (.t 7) (.i 3)),
   .a 12 (.mov (.t 13))])
    (.cond (.t 12) .skip
    (.reg [.a 14 (.bin .eql (.t 7) (.i 4)),
   .a 12 (.mov (.t 14))])))
    (.cond (.t 12) (.reg [.a 3 (.mov (.i 2))])
    (.seq (.reg [.a 2 (.mov (.c (.pl (.bool false))))])
     .ret)))))))
  (.seq (.seq (.reg [.a 15 (.fadd (.t 1) 1),
   .a 16 (.load 1 false (.t 15)),
   .a 17 (.len (.t 16)),
   .a 18 (.mov (.t 3)),
   .a 19 (.bin .neq (.t 17) (.t 18))])
  (.cond (.t 19) (.seq (.reg [.a 2 (.mov (.c (.pl (.bool false))))])
   .ret)
  .skip))
  (.seq (.seq (.reg [.a 20 (.fadd (.t 1) 1),
   .a 21 (.load 1 false (.t 20)),
   .a 22 (.len (.t 21)),
   .a 23 (.mov (.i 0))])
  (.block 1 (.loop [2, 21, 22, 23] [0, 1, 2, 3, 4, 5]
   (.seq (.reg [.a 24 (.bin .lss (.t 23) (.t 22))])
    (.seq (.cond (.t 24) .skip
    (.exit 1))
    (.seq (.block 2 (.seq (.reg [.a 25 (.iadd 2 (.t 21) (.t 23)),
   .a 26 (.load 2 true (.t 25)),
   .a 5 (.alloc 1016 2 (.agg [.pl (.int .i64 0), .own 1017 0]) [(1017, 2)]),
   .n (.store 2 (.t 5) (.t 26))])
     (.seq (.reg [.a 27 (.load 2 true (.t 5)),
   .a 28 (.call 1032 102 [(.t 27)]),
   .a 29 (.un .not (.t 28))])
     (.cond (.t 29) (.seq (.reg [.a 2 (.mov (.c (.pl (.bool false))))])
      .ret)
     .skip))))
    (.reg [.a 30 (.bin .add (.t 23) (.i 1)),
   .a 23 (.mov (.t 30))])))))))
  (.seq (.reg [.a 2 (.mov (.c (.pl (.bool true))))])
  .ret))))))⟩
def r103 : RFunc := ⟨1, [.tmp 2],
  (.seq (.reg [.a 1 (.box 1000 2 (.t 0)),
   .a 2 (.mov (.i 0))])
  (.seq (.reg [.a 3 (.mov (.i 1))])
  (.seq (.seq (.reg [.a 6 (.fadd (.t 1) 1),
   .a 7 (.load 1 false (.t 6)),
   .a 8 (.len (.t 7)),
   .a 9 (.mov (.i 0))])
  (.block 0 (.loop [3, 7, 8, 9] [0, 1, 2, 3, 4, 5]
   (.seq (.reg [.a 10 (.bin .lss (.t 9) (.t 8))])
    (.seq (.cond (.t 10) .skip
    (.exit 0))
    (.seq (.block 1 (.seq (.reg [.a 11 (.iadd 2 (.t 7) (.t 9)),
   .a 12 (.load 2 true (.t 11)),
   .a 5 (.alloc 1016 2 (.agg [.pl (.int .i64 0), .own 1017 0]) [(1017, 2)]),
   .n (.store 2 (.t 5) (.t 12))])
     (.reg [.a 13 (.mov (.t 3)),
   .a 14 (.load 2 true (.t 5)),
   .a 15 (.call 1032 103 [(.t 14)]),
   .a 16 (.bin .add (.t 13) (.t 15)),
   .a 3 (.mov (.t 16))])))
    (.reg [.a 17 (.bin .add (.t 9) (.i 1)),
   .a 9 (.mov (.t 17))])))))))
  (.seq (.reg [.a 18 (.mov (.t 3)),
   .a 2 (.mov (.t 18))])
  .ret))))⟩
def r104 : RFunc := ⟨1, [.tmp 2],
  (.seq (.reg [.a 1 (.box 1000 5 (.t 0)),
   .a 2 (.mov (.i 0))])
  (.seq (.seq (.reg [.a 3 (.fadd (.t 1) 0),
   .a 4 (.load 1 false (.t 3)),
   .a 5 (.bin .eql (.t 4) (.i 2))])
  (.cond (.t 5) (.seq (.reg [.a 2 (.mov (.i 1))])
   .ret)
  .skip))
  (.seq (.reg [.a 2 (.mov (.i 0))])
  .ret)))⟩
def r105 : RFunc := ⟨3, [],
  (.reg [.a 5 (.load 1 false (.t 2)),
   .a 6 (.mov (.t 5)),
   .q 7 (.mov (.t 0)) 6 true,
   .q 8 (.bin .leq (.t 7) (.i 536870912)) 6 true,
   .a 9 (.pick (.t 6) (.t 8) (.c (.pl (.bool false)))),
   .n (.store 1 (.t 2) (.t 9))])⟩
def r106 : RFunc := ⟨2, [],
  (.seq (.reg [.a 2 (.box 1000 5 (.t 0)),
   .a 3 (.box 1016 1 (.t 1))])
  (.seq (.reg [.a 4 (.alloc 1032 1 (.nilf) [])])
  (.seq (.reg [.a 5 (.mkf 110 [(.t 3), (.t 4)]),
   .n (.store 1 (.t 4) (.t 5))])
  (.reg [.a 6 (.load 1 false (.t 4)),
   .a 7 (.load 5 true (.t 2)),
   .a 8 (.callv 1048 (.t 6) [(.t 7), (.i 0)])]))))⟩
def r107 : RFunc := ⟨4, [.cell 6 5 true],
  (.seq (.reg [.a 6 (.alloc 1000 5 (.agg [.pl (.int .i64 0), .pl (.int .i64 0), .pl (.int .i64 0), .own 1001 0, .own 1002 0]) [(1001, 2), (1002, 5)])])
  (.seq (.seq (.reg [.a 7 (.mov (.t 0)),
   .a 8 (.mov (.t 1)),
   .a 9 (.bin .sub (.t 7) (.t 8)),
   .a 10 (.load 1 false (.t 2)),
   .a 11 (.bin .geq (.t 9) (.t 10))])
  (.cond (.t 11) (.reg [.a 12 (.mov (.t 0)),
   .a 13 (.load 1 false (.t 3)),
   .a 14 (.bin .add (.t 12) (.t 13)),
   .a 0 (.mov (.t 14))])
  .skip))
  (.seq (.reg [.a 15 (.mov (.t 0)),
   .a 16 (.call 1016 111 [(.t 15)]),
   .n (.store 5 (.t 6) (.t 16))])
  .ret)))⟩
def r108 : RFunc := ⟨2, [.cell 4 5 true],
  (.seq (.reg [.a 2 (.box 1000 5 (.t 0)),
   .a 3 (.box 1016 1 (.t 1)),
   .a 4 (.alloc 1032 5 (.agg [.pl (.int .i64 0), .pl (.int .i64 0), .pl (.int .i64 0), .own 1033 0, .own 1034 0]) [(1033, 2), (1034, 5)])])
  (.seq (.reg [.a 5 (.alloc 1048 1 (.nilf) [])])
  (.seq (.reg [.a 6 (.mkf 112 [(.t 3), (.t 5)]),
   .n (.store 1 (.t 5) (.t 6))])
  (.seq (.reg [.a 7 (.load 1 false (.t 5)),
   .a 8 (.load 5 true (.t 2)),
   .a 9 (.callv 1064 (.t 7) [(.t 8), (.i 0)]),
   .n (.store 5 (.t 4) (.t 9))])
  .ret))))⟩
def r109 : RFunc := ⟨1, [.tmp 2, .tmp 3],
  (.seq (.reg [.a 1 (.box 1000 2 (.t 0)),
   .a 2 (.mov (.i 0)),
   .a 3 (.mov (.c (.pl (.bool false))))])
  (.seq (.reg [.a 4 (.mov (.i 0))])
  (.seq (.seq (.reg [.a 10 (.fadd (.t 1) 0),
   .a 11 (.load 1 false (.t 10))])
  (.block 0 (.seq (.seq (.reg [.a 13 (.bin .eql (.t 11) (.i 1)),
   .a 12 (.mov (.t 13))])
   (.cond (.t 12) .skip
   (.seq (.reg [.a 14 (.bin .eql (.t 11) (.i 2)),
   .a 12 (.mov (.t 14))])
    (.cond (.t 12) .skip
    (.reg [.a 15 (.bin .eql (.t 11) (.i 5)),
   .a 12 (.mov (.t 15))])))))
   (.cond (.t 12) .skip
   (.seq (.seq (.reg [.a 17 (.bin .eql (.t 11) (.i 3)),
   .a 16 (.mov (.t 17))])
    (.cond (.t 16) .skip
    (.reg [.a 18 (.bin .eql (.t 11) (.i 4)),
   .a 16 (.mov (.t 18))])))
    (.cond (.t 16) (.reg [.a 4 (.mov (.i 2))])
    (.seq (.reg [.a 2 (.mov (.i 0)),
   .a 3 (.mov (.c (.pl (.bool false))))])
     .ret)))))))
  (.seq (.seq (.reg [.a 19 (.fadd (.t 1) 1),
   .a 20 (.load 1 false (.t 19)),
   .a 21 (.len (.t 20)),
   .a 22 (.mov (.t 4)),
   .a 23 (.bin .neq (.t 21) (.t 22))])
  (.cond (.t 23) (.seq (.reg [.a 2 (.mov (.i 0)),
   .a 3 (.mov (.c (.pl (.bool false))))])
   .ret)
  .skip))
  (.seq (.reg [.a 5 (.mov (.i 1))])
  (.seq (.seq (.reg [.a 24 (.fadd (.t 1) 1),
   .a 25 (.load 1 false (.t 24)),
   .a 26 (.len (.t 25)),
   .a 27 (.mov (.i 0))])
  (.block 1 (.loop [2, 3, 5, 25, 26, 27] [0, 1, 2, 3, 4, 5]
   (.seq (.reg [.a 28 (.bin .lss (.t 27) (.t 26))])
    (.seq (.cond (.t 28) .skip
    (.exit 1))
    (.seq (.block 2 (.seq (.reg [.a 29 (.iadd 2 (.t 25) (.t 27)),
   .a 30 (.load 2 true (.t 29)),
   .a 7 (.alloc 1016 2 (.agg [.pl (.int .i64 0), .own 1017 0]) [(1017, 2)]),
   .n (.store 2 (.t 7) (.t 30))])
     (.seq (.reg [.a 32 (.load 2 true (.t 7)),
   .a 33 (.call 1032 109 [(.t 32)]),
   .a 31 (.mov (.t 33)),
   .a 34 (.ext (.t 31) 0),
   .a 35 (.ext (.t 31) 1),
   .a 8 (.mov (.t 34)),
   .a 9 (.mov (.t 35))])
     (.seq (.seq (.reg [.a 36 (.mov (.t 9)),
   .a 37 (.un .not (.t 36))])
     (.cond (.t 37) (.seq (.reg [.a 2 (.mov (.i 0)),
   .a 3 (.mov (.c (.pl (.bool false))))])
      .ret)
     .skip))
     (.reg [.a 38 (.mov (.t 5)),
   .a 39 (.mov (.t 8)),
   .a 40 (.bin .add (.t 38) (.t 39)),
   .a 5 (.mov (.t 40))])))))
    (.reg [.a 41 (.bin .add (.t 27) (.i 1)),
   .a 27 (.mov (.t 41))])))))))
  (.seq (.reg [.a 42 (.mov (.t 5)),
   .a 2 (.mov (.t 42)),
   .a 3 (.mov (.c (.pl (.bool true))))])
  .ret)))))))⟩
def r110 : RFunc := ⟨4, [],
  (.seq (.reg [.a 4 (.box 1000 5 (.t 0))])
  (.seq (.seq (.reg [.a 8 (.fadd (.t 4) 0),
   .a 9 (.load 1 false (.t 8)),
   .a 10 (.bin .eql (.t 9) (.i 1))])
  (.cond (.t 10) (.reg [.a 11 (.load 1 false (.t 2)),
   .a 12 (.fadd (.t 4) 1),
   .a 13 (.load 1 false (.t 12)),
   .a 14 (.mov (.t 1)),
   .a 15 (.callv 1016 (.t 11) [(.t 13), (.t 14)])])
  .skip))
  (.seq (.seq (.reg [.a 16 (.fadd (.t 4) 0),
   .a 17 (.load 1 false (.t 16)),
   .a 18 (.bin .eql (.t 17) (.i 2))])
  (.cond (.t 18) (.reg [.a 19 (.mov (.t 1)),
   .a 20 (.bin .add (.t 19) (.i 1)),
   .a 1 (.mov (.t 20))])
  .skip))
  (.seq (.reg [.a 21 (.fadd (.t 4) 4),
   .a 22 (.load 1 false (.t 21)),
   .a 23 (.len (.t 22)),
   .a 24 (.mov (.i 0))])
  (.block 0 (.loop [1, 3, 22, 23, 24] [0, 1, 2, 3, 4, 5]
   (.seq (.reg [.a 25 (.bin .lss (.t 24) (.t 23))])
    (.seq (.cond (.t 25) .skip
    (.exit 0))
    (.seq (.block 1 (.seq (.reg [.a 26 (.iadd 5 (.t 22) (.t 24)),
   .a 27 (.load 5 true (.t 26)),
   .a 7 (.alloc 1032 5 (.agg [.pl (.int .i64 0), .pl (.int .i64 0), .pl (.int .i64 0), .own 1033 0, .own 1034 0]) [(1033, 2), (1034, 5)]),
   .n (.store 5 (.t 7) (.t 27))])
     (.reg [.a 28 (.load 1 false (.t 3)),
   .a 29 (.load 5 true (.t 7)),
   .a 30 (.mov (.t 1)),
   .a 31 (.callv 1048 (.t 28) [(.t 29), (.t 30)])])))
    (.reg [.a 32 (.bin .add (.t 24) (.i 1)),
   .a 24 (.mov (.t 32))]))))))))))⟩
def r111 : RFunc := ⟨1, [.cell 2 5 true],
  (.seq (.reg [.a 2 (.alloc 1000 5 (.agg [.pl (.int .i64 0), .pl (.int .i64 0), .pl (.int .i64 0), .own 1001 0, .own 1002 0]) [(1001, 2), (1002, 5)])])
  (.seq (.reg [.a 3 (.mov (.t 0)),
   .a 4 (.build [.pl (.int .i64 0), .pl (.int .i64 0), .pl (.int .i64 0), .own 1017 0, .own 1018 0] [(1017, 2), (1018, 5)] [(0, 1, (.i 1)), (1, 1, (.t 3))]),
   .n (.store 5 (.t 2) (.t 4))])
  .ret))⟩
def r112 : RFunc := ⟨4, [.cell 6 5 true],
  (.seq (.reg [.a 4 (.box 1000 5 (.t 0)),
   .a 6 (.alloc 1016 5 (.agg [.pl (.int .i64 0), .pl (.int .i64 0), .pl (.int .i64 0), .own 1017 0, .own 1018 0]) [(1017, 2), (1018, 5)])])
  (.seq (.seq (.reg [.a 10 (.fadd (.t 4) 0),
   .a 11 (.load 1 false (.t 10)),
   .a 12 (.bin .eql (.t 11) (.i 1))])
  (.cond (.t 12) (.seq (.reg [.a 13 (.load 1 false (.t 2)),
   .a 14 (.fadd (.t 4) 1),
   .a 15 (.load 1 false (.t 14)),
   .a 16 (.mov (.t 1)),
   .a 17 (.callv 1032 (.t 13) [(.t 15), (.t 16)]),
   .n (.store 5 (.t 6) (.t 17))])
   .ret)
  .skip))
  (.seq (.drw [.a 18 (.fadd (.t 4) 0),
   .a 19 (.load 1 false (.t 18)),
   .a 20 (.fadd (.t 4) 1),
   .a 21 (.load 1 false (.t 20)),
   .a 22 (.fadd (.t 4) 2),
   .a 23 (.load 2 true (.t 22)),
   .a 24 (.call 1048 77 [(.t 23)]),
   .a 25 (.build [.pl (.int .i64 0), .pl (.int .i64 0), .pl (.int .i64 0), .pl (.sl 2 []), .own 1065 0] [(1065, 5)] [(0, 1, (.t 19)), (1, 1, (.t 21)), (2, 2, (.t 24))]),
   .a 7 (.alloc 1080 5 (.agg [.pl (.int .i64 0), .pl (.int .i64 0), .pl (.int .i64 0), .own 1081 0, .own 1082 0]) [(1081, 2), (1082, 5)]),
   .n (.store 5 (.t 7) (.t 25))] [0, 1, 0, 4, 0, 16, 48, 127, 0, 511])
  (.seq (.seq (.reg [.a 26 (.fadd (.t 4) 0),
   .a 27 (.load 1 false (.t 26)),
   .a 28 (.bin .eql (.t 27) (.i 2))])
  (.cond (.t 28) (.reg [.a 29 (.mov (.t 1)),
   .a 30 (.bin .add (.t 29) (.i 1)),
   .a 1 (.mov (.t 30))])
  .skip))
  (.seq (.seq (.reg [.a 31 (.fadd (.t 4) 4),
   .a 32 (.load 1 false (.t 31)),
   .a 33 (.len (.t 32)),
   .a 34 (.mov (.i 0))])
  (.block 0 (.loop [1, 3, 6, 7, 32, 33, 34] [0, 1, 2, 3, 4, 5, 1016, 1017, 1018, 1064, 1065, 1080, 1081, 1082]
   (.seq (.reg [.a 35 (.bin .lss (.t 34) (.t 33))])
    (.seq (.cond (.t 35) .skip
    (.exit 0))
    (.seq (.block 1 (.seq (.reg [.a 36 (.iadd 5 (.t 32) (.t 34)),
   .a 37 (.load 5 true (.t 36)),
   .a 9 (.alloc 1096 5 (.agg [.pl (.int .i64 0), .pl (.int .i64 0), .pl (.int .i64 0), .own 1097 0, .own 1098 0]) [(1097, 2), (1098, 5)]),
   .n (.store 5 (.t 9) (.t 37))])
     (.drw [.a 38 (.fadd (.t 7) 4),
   .a 39 (.load 1 false (.t 38)),
   .a 40 (.load 1 false (.t 3)),
   .a 41 (.load 5 true (.t 9)),
   .a 42 (.mov (.t 1)),
   .a 43 (.callv 1112 (.t 40) [(.t 41), (.t 42)]),
   .a 44 (.bsl 5 [(.t 43)]),
   .a 45 (.app 5 (.t 39) (.t 44)),
   .a 46 (.fadd (.t 7) 4),
   .n (.store 1 (.t 46) (.t 45))] [0, 1, 0, 0, 0, 28, 60, 127, 255, 511])))
    (.reg [.a 47 (.bin .add (.t 34) (.i 1)),
   .a 34 (.mov (.t 47))])))))))
  (.seq (.reg [.a 48 (.load 5 true (.t 7)),
   .n (.store 5 (.t 6) (.t 48))])
  .ret))))))⟩
def r113 : RFunc := ⟨1, [.tmp 2],
  (.seq (.reg [.a 2 (.mov (.c (.pl (.bool false))))])
  (.seq (.seq (.reg [.a 22 (.call 1000 2 []),
   .a 23 (.un .not (.t 22))])
  (.cond (.t 23) (.seq (.reg [.a 2 (.mov (.c (.pl (.bool false))))])
   .ret)
  .skip))
  (.seq (.seq (.reg [.a 24 (.mov (.t 0)),
   .a 25 (.call 1016 3 [(.t 24)]),
   .a 26 (.un .not (.t 25))])
  (.cond (.t 26) (.seq (.reg [.a 2 (.mov (.c (.pl (.bool true))))])
   .ret)
  .skip))
  (.seq (.reg [.a 27 (.mov (.t 0)),
   .a 28 (.call 1032 5 [(.t 27)]),
   .a 3 (.mov (.t 28))])
  (.seq (.reg [.a 29 (.mov (.t 3)),
   .a 30 (.call 1048 6 [(.t 29)]),
   .a 4 (.mov (.t 30))])
  (.seq (.reg [.a 31 (.mov (.t 3)),
   .a 32 (.call 1064 17 [(.t 31), (.i 1)]),
   .a 5 (.alloc 1080 2 (.agg [.pl (.int .i64 0), .own 1081 0]) [(1081, 2)]),
   .n (.store 2 (.t 5) (.t 32))])
  (.seq (.reg [.a 33 (.mov (.t 3)),
   .a 34 (.call 1096 7 [(.t 33), (.c (.pl (.sl 2 []))), (.i 1)]),
   .a 6 (.alloc 1112 5 (.agg [.pl (.int .i64 0), .pl (.int .i64 0), .own 1113 0, .own 1114 0, .own 1115 0]) [(1113, 2), (1114, 5), (1115, 5)]),
   .n (.store 5 (.t 6) (.t 34))])
  (.seq (.drw [.a 35 (.mov (.t 3)),
   .a 36 (.mov (.t 4)),
   .a 37 (.appn 1128 2 (.t 36)),
   .a 38 (.load 2 true (.t 5)),
   .a 39 (.bsl 2 [(.t 38)]),
   .a 40 (.app 2 (.t 37) (.t 39)),
   .a 41 (.call 1144 7 [(.t 35), (.t 40), (.i 2)]),
   .a 7 (.alloc 1160 5 (.agg [.pl (.int .i64 0), .pl (.int .i64 0), .own 1161 0, .own 1162 0, .own 1163 0]) [(1161, 2), (1162, 5), (1163, 5)]),
   .n (.store 5 (.t 7) (.t 41))] [0, 0, 2, 0, 8, 30, 63, 0, 255])
  (.seq (.reg [.a 42 (.mov (.t 3)),
   .a 43 (.mov (.t 4)),
   .a 44 (.load 2 true (.t 5)),
   .a 45 (.call 1176 21 [(.t 42), (.t 43), (.t 44), (.i 2)]),
   .a 8 (.alloc 1192 5 (.agg [.pl (.int .i64 0), .pl (.int .i64 0), .pl (.int .i64 0), .own 1193 0, .own 1194 0]) [(1193, 2), (1194, 5)]),
   .n (.store 5 (.t 8) (.t 45))])
  (.seq (.reg [.a 47 (.load 5 true (.t 7)),
   .a 48 (.load 5 true (.t 8)),
   .a 49 (.call 1208 114 [(.t 47), (.i 0), (.t 48)]),
   .a 46 (.mov (.t 49)),
   .a 50 (.ext (.t 46) 0),
   .a 51 (.ext (.t 46) 1),
   .a 9 (.alloc 1224 5 (.agg [.pl (.int .i64 0), .pl (.int .i64 0), .own 1225 0, .own 1226 0, .own 1227 0]) [(1225, 2), (1226, 5), (1227, 5)]),
   .n (.store 5 (.t 9) (.t 50)),
   .a 10 (.mov (.t 51))])
  (.seq (.reg [.a 53 (.load 5 true (.t 6)),
   .a 54 (.load 5 true (.t 7)),
   .a 55 (.call 1240 9 [(.t 53), (.t 54)]),
   .a 52 (.mov (.t 55)),
   .a 56 (.ext (.t 52) 0),
   .a 57 (.ext (.t 52) 1),
   .a 11 (.alloc 1256 5 (.agg [.pl (.int .i64 0), .pl (.int .i64 0), .own 1257 0, .own 1258 0, .own 1259 0]) [(1257, 2), (1258, 5), (1259, 5)]),
   .n (.store 5 (.t 11) (.t 56)),
   .a 12 (.mov (.t 57))])
  (.seq (.seq (.reg [.a 58 (.mov (.t 10)),
   .a 59 (.bin .neq (.t 58) (.i 0)),
   .a 60 (.mov (.t 59)),
   .q 61 (.mov (.t 12)) 60 false,
   .q 62 (.bin .neq (.t 61) (.i 0)) 60 false,
   .a 63 (.pick (.t 60) (.c (.pl (.bool true))) (.t 62))])
  (.cond (.t 63) (.seq (.reg [.a 64 (.mov (.t 10)),
   .a 65 (.bin .eql (.t 64) (.i 0)),
   .a 66 (.mov (.t 65)),
   .q 67 (.mov (.t 10)) 66 false,
   .q 68 (.bin .eql (.t 67) (.i 4)) 66 false,
   .a 69 (.pick (.t 66) (.c (.pl (.bool true))) (.t 68)),
   .a 70 (.mov (.t 69)),
   .q 71 (.mov (.t 12)) 70 true,
   .q 72 (.bin .eql (.t 71) (.i 0)) 70 true,
   .q 73 (.mov (.t 72)) 70 true,
   .q 74 (.mov (.t 12)) 73 false,
   .q 75 (.bin .eql (.t 74) (.i 4)) 73 false,
   .q 76 (.pick (.t 73) (.c (.pl (.bool true))) (.t 75)) 70 true,
   .a 77 (.pick (.t 70) (.t 76) (.c (.pl (.bool false)))),
   .a 2 (.mov (.t 77))])
   .ret)
  .skip))
  (.seq (.reg [.a 79 (.load 5 true (.t 6)),
   .a 80 (.load 5 true (.t 9)),
   .a 81 (.call 1272 9 [(.t 79), (.t 80)]),
   .a 78 (.mov (.t 81)),
   .a 82 (.ext (.t 78) 0),
   .a 83 (.ext (.t 78) 1),
   .a 13 (.alloc 1288 5 (.agg [.pl (.int .i64 0), .pl (.int .i64 0), .own 1289 0, .own 1290 0, .own 1291 0]) [(1289, 2), (1290, 5), (1291, 5)]),
   .n (.store 5 (.t 13) (.t 82)),
   .a 14 (.mov (.t 83))])
  (.seq (.reg [.a 85 (.load 5 true (.t 11)),
   .a 86 (.load 5 true (.t 8)),
   .a 87 (.call 1304 114 [(.t 85), (.i 0), (.t 86)]),
   .a 84 (.mov (.t 87)),
   .a 88 (.ext (.t 84) 0),
   .a 89 (.ext (.t 84) 1),
   .a 15 (.alloc 1320 5 (.agg [.pl (.int .i64 0), .pl (.int .i64 0), .own 1321 0, .own 1322 0, .own 1323 0]) [(1321, 2), (1322, 5), (1323, 5)]),
   .n (.store 5 (.t 15) (.t 88)),
   .a 16 (.mov (.t 89))])
  (.seq (.seq (.reg [.a 90 (.mov (.t 14)),
   .a 91 (.bin .neq (.t 90) (.i 0)),
   .a 92 (.mov (.t 91)),
   .q 93 (.mov (.t 16)) 92 false,
   .q 94 (.bin .neq (.t 93) (.i 0)) 92 false,
   .a 95 (.pick (.t 92) (.c (.pl (.bool true))) (.t 94))])
  (.cond (.t 95) (.seq (.reg [.a 96 (.mov (.t 14)),
   .a 97 (.bin .eql (.t 96) (.i 0)),
   .a 98 (.mov (.t 97)),
   .q 99 (.mov (.t 14)) 98 false,
   .q 100 (.bin .eql (.t 99) (.i 4)) 98 false,
   .a 101 (.pick (.t 98) (.c (.pl (.bool true))) (.t 100)),
   .a 102 (.mov (.t 101)),
   .q 103 (.mov (.t 16)) 102 true,
   .q 104 (.bin .eql (.t 103) (.i 0)) 102 true,
   .q 105 (.mov (.t 104)) 102 true,
   .q 106 (.mov (.t 16)) 105 false,
   .q 107 (.bin .eql (.t 106) (.i 4)) 105 false,
   .q 108 (.pick (.t 105) (.c (.pl (.bool true))) (.t 107)) 102 true,
   .a 109 (.pick (.t 102) (.t 108) (.c (.pl (.bool false)))),
   .a 2 (.mov (.t 109))])
   .ret)
  .skip))
  (.seq (.reg [.a 111 (.load 5 true (.t 7)),
   .a 112 (.call 1336 115 [(.t 111)]),
   .a 110 (.mov (.t 112)),
   .a 113 (.ext (.t 110) 0),
   .a 114 (.ext (.t 110) 1),
   .a 17 (.mov (.t 113)),
   .a 18 (.mov (.t 114))])
  (.seq (.reg [.a 116 (.load 5 true (.t 11)),
   .a 117 (.call 1352 115 [(.t 116)]),
   .a 115 (.mov (.t 117)),
   .a 118 (.ext (.t 115) 0),
   .a 119 (.ext (.t 115) 1),
   .a 19 (.mov (.t 118)),
   .a 20 (.mov (.t 119))])
  (.seq (.seq (.reg [.a 120 (.mov (.t 18)),
   .a 121 (.bin .neq (.t 120) (.i 0)),
   .a 122 (.mov (.t 121)),
   .q 123 (.mov (.t 20)) 122 false,
   .q 124 (.bin .neq (.t 123) (.i 0)) 122 false,
   .a 125 (.pick (.t 122) (.c (.pl (.bool true))) (.t 124)),
   .a 126 (.mov (.t 125)),
   .q 127 (.mov (.t 17)) 126 false,
   .q 128 (.len (.t 127)) 126 false,
   .q 129 (.mov (.t 19)) 126 false,
   .q 130 (.len (.t 129)) 126 false,
   .q 131 (.bin .neq (.t 128) (.t 130)) 126 false,
   .a 132 (.pick (.t 126) (.c (.pl (.bool true))) (.t 131)),
   .a 133 (.mov (.t 132)),
   .q 134 (.load 5 true (.t 13)) 133 false,
   .q 135 (.load 5 true (.t 15)) 133 false,
   .q 136 (.call 1368 11 [(.t 134), (.t 135)]) 133 false,
   .q 137 (.un .not (.t 136)) 133 false,
   .a 138 (.pick (.t 133) (.c (.pl (.bool true))) (.t 137))])
  (.cond (.t 138) (.seq (.reg [.a 2 (.mov (.c (.pl (.bool false))))])
   .ret)
  .skip))
  (.seq (.seq (.reg [.a 139 (.mov (.t 17)),
   .a 140 (.len (.t 139)),
   .a 141 (.mov (.i 0))])
  (.block 0 (.loop [2, 4, 5, 8, 11, 17, 19, 140, 141] [0, 1, 2, 3, 4, 5, 1032, 1080, 1081, 1113, 1114, 1115, 1128, 1161, 1162, 1163, 1192, 1193, 1194, 1225, 1226, 1227, 1256, 1257, 1258, 1259, 1289, 1290, 1291, 1321, 1322, 1323]
   (.seq (.reg [.a 142 (.bin .lss (.t 141) (.t 140))])
    (.seq (.cond (.t 142) .skip
    (.exit 0))
    (.seq (.block 1 (.seq (.reg [.a 143 (.mov (.t 141)),
   .a 21 (.mov (.t 143))])
     (.seq (.drw [.a 144 (.mov (.t 17)),
   .a 145 (.mov (.t 21)),
   .a 146 (.iadd 1 (.t 144) (.t 145)),
   .a 147 (.load 1 false (.t 146)),
   .a 148 (.mov (.t 19)),
   .a 149 (.mov (.t 21)),
   .a 150 (.iadd 1 (.t 148) (.t 149)),
   .a 151 (.load 1 false (.t 150)),
   .a 152 (.bin .neq (.t 147) (.t 151))] [0, 0, 3, 7, 0, 0, 48, 112, 255])
     (.cond (.t 152) (.seq (.reg [.a 2 (.mov (.c (.pl (.bool false))))])
      .ret)
     .skip))))
    (.reg [.a 153 (.bin .add (.t 141) (.i 1)),
   .a 141 (.mov (.t 153))])))))))
  (.seq (.drw [.a 154 (.mov (.t 4)),
   .a 155 (.appn 1384 2 (.t 154)),
   .a 156 (.load 2 true (.t 5)),
   .a 157 (.bsl 2 [(.t 156)]),
   .a 158 (.app 2 (.t 155) (.t 157)),
   .a 159 (.load 5 true (.t 11)),
   .a 160 (.call 1400 116 [(.t 158), (.t 159)]),
   .a 161 (.bin .eql (.t 160) (.i 0)),
   .a 162 (.mov (.t 161)),
   .q 163 (.load 5 true (.t 8)) 162 true,
   .q 164 (.call 1416 117 [(.t 163)]) 162 true,
   .q 165 (.bin .eql (.t 164) (.i 0)) 162 true,
   .a 166 (.pick (.t 162) (.t 165) (.c (.pl (.bool false)))),
   .a 2 (.mov (.t 166))] [0, 1, 0, 4, 15, 0, 63, 127, 255, 511, 1023, 2047, 4095, 8191])
  .ret))))))))))))))))))))⟩
def r114 : RFunc := ⟨3, [.cell 6 5 true, .tmp 7],
  (.seq (.reg [.a 3 (.box 1000 5 (.t 0)),
   .a 5 (.box 1016 5 (.t 2)),
   .a 6 (.alloc 1032 5 (.agg [.pl (.int .i64 0), .pl (.int .i64 0), .own 1033 0, .own 1034 0, .own 1035 0]) [(1033, 2), (1034, 5), (1035, 5)]),
   .a 7 (.mov (.i 0))])
  (.seq (.seq (.reg [.a 10 (.load 5 true (.t 3)),
   .a 11 (.call 1048 60 [(.t 10)]),
   .a 8 (.mov (.t 11))])
  (.seq (.reg [.a 12 (.mov (.t 8)),
   .a 13 (.bin .neq (.t 12) (.i 0))])
  (.cond (.t 13) (.seq (.reg [.a 14 (.build [.pl (.int .i64 0), .pl (.int .i64 0), .pl (.sl 2 []), .pl (.sl 5 []), .pl (.sl 5 [])] [] []),
   .a 15 (.mov (.t 8)),
   .n (.store 5 (.t 6) (.t 14)),
   .a 7 (.mov (.t 15))])
   .ret)
  .skip)))
  (.seq (.seq (.reg [.a 16 (.mov (.t 1)),
   .a 17 (.bin .lss (.t 16) (.i 0)),
   .a 18 (.mov (.t 17)),
   .q 19 (.mov (.t 1)) 18 false,
   .q 20 (.bin .gtr (.t 19) (.i 4096)) 18 false,
   .a 21 (.pick (.t 18) (.c (.pl (.bool true))) (.t 20))])
  (.cond (.t 21) (.seq (.reg [.a 22 (.build [.pl (.int .i64 0), .pl (.int .i64 0), .pl (.sl 2 []), .pl (.sl 5 []), .pl (.sl 5 [])] [] []),
   .n (.store 5 (.t 6) (.t 22)),
   .a 7 (.mov (.i 1))])
   .ret)
  .skip))
  (.seq (.seq (.reg [.a 23 (.load 5 true (.t 5)),
   .a 24 (.call 1096 117 [(.t 23)]),
   .a 9 (.mov (.t 24))])
  (.seq (.reg [.a 25 (.mov (.t 9)),
   .a 26 (.bin .neq (.t 25) (.i 0))])
  (.cond (.t 26) (.seq (.reg [.a 27 (.build [.pl (.int .i64 0), .pl (.int .i64 0), .pl (.sl 2 []), .pl (.sl 5 []), .pl (.sl 5 [])] [] []),
   .a 28 (.mov (.t 9)),
   .n (.store 5 (.t 6) (.t 27)),
   .a 7 (.mov (.t 28))])
   .ret)
  .skip)))
  (.seq (.seq (.reg [.a 29 (.load 5 true (.t 3)),
   .a 30 (.call 1128 62 [(.t 29), (.i 536870912)]),
   .a 31 (.un .not (.t 30)),
   .a 32 (.mov (.t 31)),
   .q 33 (.load 5 true (.t 5)) 32 false,
   .q 34 (.call 1144 81 [(.t 33), (.i 536870912)]) 32 false,
   .q 35 (.un .not (.t 34)) 32 false,
   .a 36 (.pick (.t 32) (.c (.pl (.bool true))) (.t 35))])
  (.cond (.t 36) (.seq (.reg [.a 37 (.build [.pl (.int .i64 0), .pl (.int .i64 0), .pl (.sl 2 []), .pl (.sl 5 []), .pl (.sl 5 [])] [] []),
   .n (.store 5 (.t 6) (.t 37)),
   .a 7 (.mov (.i 1))])
   .ret)
  .skip))
  (.seq (.seq (.drw [.a 38 (.load 5 true (.t 3)),
   .a 39 (.call 1176 63 [(.t 38)]),
   .a 40 (.load 5 true (.t 3)),
   .a 41 (.mov (.t 1)),
   .a 42 (.call 1192 118 [(.t 40), (.t 41)]),
   .a 43 (.load 5 true (.t 5)),
   .a 44 (.call 1208 82 [(.t 43)]),
   .a 45 (.bin .sub (.t 44) (.i 1)),
   .a 46 (.bin .mul (.t 42) (.t 45)),
   .a 47 (.bin .add (.t 39) (.t 46)),
   .a 48 (.bin .gtr (.t 47) (.i 4096))] [0, 1, 0, 0, 15, 0, 63, 127, 255, 511, 1023])
  (.cond (.t 48) (.seq (.reg [.a 49 (.build [.pl (.int .i64 0), .pl (.int .i64 0), .pl (.sl 2 []), .pl (.sl 5 []), .pl (.sl 5 [])] [] []),
   .n (.store 5 (.t 6) (.t 49)),
   .a 7 (.mov (.i 4))])
   .ret)
  .skip))
  (.seq (.reg [.a 50 (.load 5 true (.t 3)),
   .a 51 (.mov (.t 1)),
   .a 52 (.load 5 true (.t 5)),
   .a 53 (.call 1240 119 [(.t 50), (.t 51), (.i 0), (.t 52)]),
   .a 54 (.call 1256 28 [(.t 53)]),
   .n (.store 5 (.t 6) (.t 54)),
   .a 7 (.mov (.i 0))])
  .ret)))))))⟩
def r115 : RFunc := ⟨1, [.tmp 2, .tmp 3],
  (.seq (.reg [.a 1 (.box 1000 5 (.t 0)),
   .a 2 (.nilb 1016 1),
   .a 3 (.mov (.i 0))])
  (.seq (.seq (.reg [.a 6 (.load 5 true (.t 1)),
   .a 7 (.call 1032 60 [(.t 6)]),
   .a 4 (.mov (.t 7))])
  (.seq (.reg [.a 8 (.mov (.t 4)),
   .a 9 (.bin .neq (.t 8) (.i 0))])
  (.cond (.t 9) (.seq (.reg [.a 10 (.mov (.t 4)),
   .a 2 (.nilb 1048 1),
   .a 3 (.mov (.t 10))])
   .ret)
  .skip)))
  (.seq (.reg [.a 11 (.mset 1064),
   .a 5 (.mov (.t 11))])
  (.seq (.reg [.a 12 (.load 5 true (.t 1)),
   .a 13 (.mov (.t 5)),
   .a 14 (.call 1080 120 [(.t 12), (.i 0), (.t 13)])])
  (.seq (.reg [.a 15 (.mov (.t 5)),
   .a 16 (.call 1096 121 [(.t 15)]),
   .a 2 (.mov (.t 16)),
   .a 3 (.mov (.i 0))])
  .ret)))))⟩
def r116 : RFunc := ⟨2, [.tmp 4],
  (.seq (.reg [.a 3 (.box 1000 5 (.t 1)),
   .a 4 (.mov (.i 0))])
  (.seq (.seq (.reg [.a 6 (.mov (.t 0)),
   .a 7 (.call 1016 122 [(.t 6)]),
   .a 5 (.mov (.t 7))])
  (.seq (.reg [.a 8 (.mov (.t 5)),
   .a 9 (.bin .neq (.t 8) (.i 0))])
  (.cond (.t 9) (.seq (.reg [.a 10 (.mov (.t 5)),
   .a 4 (.mov (.t 10))])
   .ret)
  .skip)))
  (.seq (.reg [.a 11 (.mov (.t 0)),
   .a 12 (.load 5 true (.t 3)),
   .a 13 (.call 1032 123 [(.t 11), (.t 12)]),
   .a 4 (.mov (.t 13))])
  .ret)))⟩
def r117 : RFunc := ⟨1, [.tmp 2],
  (.seq (.reg [.a 1 (.box 1000 5 (.t 0)),
   .a 2 (.mov (.i 0))])
  (.seq (.seq (.reg [.a 3 (.load 5 true (.t 1)),
   .a 4 (.call 1016 90 [(.t 3)]),
   .a 5 (.un .not (.t 4))])
  (.cond (.t 5) (.seq (.reg [.a 2 (.mov (.i 2))])
   .ret)
  .skip))
  (.seq (.seq (.reg [.a 6 (.load 5 true (.t 1)),
   .a 7 (.call 1032 82 [(.t 6)]),
   .a 8 (.bin .gtr (.t 7) (.i 4096))])
  (.cond (.t 8) (.seq (.reg [.a 2 (.mov (.i 4))])
   .ret)
  .skip))
  (.seq (.reg [.a 2 (.mov (.i 0))])
  .ret))))⟩
def r118 : RFunc := ⟨2, [.tmp 4],
  (.seq (.reg [.a 2 (.box 1000 5 (.t 0)),
   .a 4 (.mov (.i 0))])
  (.seq (.reg [.a 5 (.mov (.i 0))])
  (.seq (.seq (.reg [.a 10 (.fadd (.t 2) 3),
   .a 11 (.load 1 false (.t 10)),
   .a 12 (.len (.t 11)),
   .a 13 (.mov (.i 0))])
  (.block 0 (.loop [1, 2, 5, 11, 12, 13] [0, 1, 2, 3, 4, 5, 1000]
   (.seq (.reg [.a 14 (.bin .lss (.t 13) (.t 12))])
    (.seq (.cond (.t 14) .skip
    (.exit 0))
    (.seq (.block 1 (.seq (.reg [.a 15 (.iadd 5 (.t 11) (.t 13)),
   .a 16 (.load 5 true (.t 15)),
   .a 7 (.alloc 1016 5 (.agg [.pl (.int .i64 0), .pl (.int .i64 0), .pl (.int .i64 0), .own 1017 0, .own 1018 0]) [(1017, 2), (1018, 5)]),
   .n (.store 5 (.t 7) (.t 16))])
     (.reg [.a 17 (.mov (.t 5)),
   .a 18 (.load 5 true (.t 7)),
   .a 19 (.mov (.t 1)),
   .a 20 (.call 1032 124 [(.t 18), (.t 19)]),
   .a 21 (.bin .add (.t 17) (.t 20)),
   .a 5 (.mov (.t 21))])))
    (.reg [.a 22 (.bin .add (.t 13) (.i 1)),
   .a 13 (.mov (.t 22))])))))))
  (.seq (.seq (.reg [.a 23 (.fadd (.t 2) 4),
   .a 24 (.load 1 false (.t 23)),
   .a 25 (.len (.t 24)),
   .a 26 (.mov (.i 0))])
  (.block 2 (.loop [1, 2, 5, 24, 25, 26] [0, 1, 2, 3, 4, 5, 1000, 1017, 1018]
   (.seq (.reg [.a 27 (.bin .lss (.t 26) (.t 25))])
    (.seq (.cond (.t 27) .skip
    (.exit 2))
    (.seq (.block 3 (.seq (.reg [.a 28 (.iadd 5 (.t 24) (.t 26)),
   .a 29 (.load 5 true (.t 28)),
   .a 9 (.alloc 1048 5 (.agg [.pl (.int .i64 0), .pl (.int .i64 0), .own 1049 0, .own 1050 0, .own 1051 0]) [(1049, 2), (1050, 5), (1051, 5)]),
   .n (.store 5 (.t 9) (.t 29))])
     (.drw [.a 30 (.mov (.t 5)),
   .a 31 (.load 5 true (.t 9)),
   .a 32 (.mov (.t 1)),
   .a 33 (.load 5 true (.t 2)),
   .a 34 (.call 1064 94 [(.t 33)]),
   .a 35 (.bin .add (.t 32) (.t 34)),
   .a 36 (.call 1080 118 [(.t 31), (.t 35)]),
   .a 37 (.bin .add (.t 30) (.t 36)),
   .a 5 (.mov (.t 37))] [0, 0, 0, 0, 8, 28, 62, 127, 255])))
    (.reg [.a 38 (.bin .add (.t 26) (.i 1)),
   .a 26 (.mov (.t 38))])))))))
  (.seq (.reg [.a 39 (.mov (.t 5)),
   .a 4 (.mov (.t 39))])
  .ret)))))⟩
def r119 : RFunc := ⟨4, [.cell 8 5 true],
  (.seq (.reg [.a 4 (.box 1000 5 (.t 0)),
   .a 7 (.box 1016 5 (.t 3)),
   .a 8 (.alloc 1032 5 (.agg [.pl (.int .i64 0), .pl (.int .i64 0), .own 1033 0, .own 1034 0, .own 1035 0]) [(1033, 2), (1034, 5), (1035, 5)])])
  (.seq (.reg [.a 14 (.fadd (.t 4) 0),
   .a 15 (.load 1 false (.t 14)),
   .a 16 (.fadd (.t 4) 1),
   .a 17 (.load 2 true (.t 16)),
   .a 18 (.build [.pl (.int .i64 0), .pl (.int .i64 0), .pl (.sl 2 []), .own 1049 0, .own 1050 0] [(1049, 5), (1050, 5)] [(0, 1, (.t 15)), (1, 2, (.t 17))]),
   .a 9 (.alloc 1064 5 (.agg [.pl (.int .i64 0), .pl (.int .i64 0), .own 1065 0, .own 1066 0, .own 1067 0]) [(1065, 2), (1066, 5), (1067, 5)]),
   .n (.store 5 (.t 9) (.t 18))])
  (.seq (.seq (.reg [.a 19 (.fadd (.t 4) 3),
   .a 20 (.load 1 false (.t 19)),
   .a 21 (.len (.t 20)),
   .a 22 (.mov (.i 0))])
  (.block 0 (.loop [1, 2, 4, 7, 8, 9, 20, 21, 22] [0, 1, 2, 3, 4, 5, 1000, 1016, 1032, 1033, 1034, 1035, 1048, 1049, 1050, 1064, 1065, 1066, 1067]
   (.seq (.reg [.a 23 (.bin .lss (.t 22) (.t 21))])
    (.seq (.cond (.t 23) .skip
    (.exit 0))
    (.seq (.block 1 (.seq (.reg [.a 24 (.iadd 5 (.t 20) (.t 22)),
   .a 25 (.load 5 true (.t 24)),
   .a 11 (.alloc 1080 5 (.agg [.pl (.int .i64 0), .pl (.int .i64 0), .pl (.int .i64 0), .own 1081 0, .own 1082 0]) [(1081, 2), (1082, 5)]),
   .n (.store 5 (.t 11) (.t 25))])
     (.drw [.a 26 (.fadd (.t 9) 3),
   .a 27 (.load 1 false (.t 26)),
   .a 28 (.load 5 true (.t 11)),
   .a 29 (.mov (.t 1)),
   .a 30 (.mov (.t 2)),
   .a 31 (.load 5 true (.t 7)),
   .a 32 (.call 1096 125 [(.t 28), (.t 29), (.t 30), (.t 31)]),
   .a 33 (.bsl 5 [(.t 32)]),
   .a 34 (.app 5 (.t 27) (.t 33)),
   .a 35 (.fadd (.t 9) 3),
   .n (.store 1 (.t 35) (.t 34))] [0, 1, 0, 0, 0, 0, 60, 124, 255, 511, 1023])))
    (.reg [.a 36 (.bin .add (.t 22) (.i 1)),
   .a 22 (.mov (.t 36))])))))))
  (.seq (.seq (.reg [.a 37 (.fadd (.t 4) 4),
   .a 38 (.load 1 false (.t 37)),
   .a 39 (.len (.t 38)),
   .a 40 (.mov (.i 0))])
  (.block 2 (.loop [1, 2, 4, 7, 8, 9, 38, 39, 40] [0, 1, 2, 3, 4, 5, 1000, 1016, 1032, 1033, 1034, 1035, 1048, 1049, 1050, 1064, 1065, 1066, 1067, 1081, 1082]
   (.seq (.reg [.a 41 (.bin .lss (.t 40) (.t 39))])
    (.seq (.cond (.t 41) .skip
    (.exit 2))
    (.seq (.block 3 (.seq (.reg [.a 42 (.iadd 5 (.t 38) (.t 40)),
   .a 43 (.load 5 true (.t 42)),
   .a 13 (.alloc 1112 5 (.agg [.pl (.int .i64 0), .pl (.int .i64 0), .own 1113 0, .own 1114 0, .own 1115 0]) [(1113, 2), (1114, 5), (1115, 5)]),
   .n (.store 5 (.t 13) (.t 43))])
     (.drw [.a 44 (.fadd (.t 9) 4),
   .a 45 (.load 1 false (.t 44)),
   .a 46 (.load 5 true (.t 13)),
   .a 47 (.mov (.t 1)),
   .a 48 (.mov (.t 2)),
   .a 49 (.load 5 true (.t 4)),
   .a 50 (.call 1128 94 [(.t 49)]),
   .a 51 (.bin .add (.t 48) (.t 50)),
   .a 52 (.load 5 true (.t 7)),
   .a 53 (.call 1144 119 [(.t 46), (.t 47), (.t 51), (.t 52)]),
   .a 54 (.bsl 5 [(.t 53)]),
   .a 55 (.app 5 (.t 45) (.t 54)),
   .a 56 (.fadd (.t 9) 4),
   .n (.store 1 (.t 56) (.t 55))] [0, 1, 0, 0, 0, 0, 32, 112, 0, 508, 1020, 2047, 4095, 8191])))
    (.reg [.a 57 (.bin .add (.t 40) (.i 1)),
   .a 40 (.mov (.t 57))])))))))
  (.seq (.reg [.a 58 (.load 5 true (.t 9)),
   .n (.store 5 (.t 8) (.t 58))])
  .ret)))))⟩
def r120 : RFunc := ⟨3, [],
  (.seq (.reg [.a 3 (.box 1000 5 (.t 0))])
  (.seq (.seq (.reg [.a 10 (.fadd (.t 3) 3),
   .a 11 (.load 1 false (.t 10)),
   .a 12 (.len (.t 11)),
   .a 13 (.mov (.i 0))])
  (.block 0 (.loop [1, 2, 3, 11, 12, 13] [0, 1, 2, 3, 4, 5, 1000]
   (.seq (.reg [.a 14 (.bin .lss (.t 13) (.t 12))])
    (.seq (.cond (.t 14) .skip
    (.exit 0))
    (.seq (.block 1 (.seq (.reg [.a 15 (.iadd 5 (.t 11) (.t 13)),
   .a 16 (.load 5 true (.t 15)),
   .a 7 (.alloc 1016 5 (.agg [.pl (.int .i64 0), .pl (.int .i64 0), .pl (.int .i64 0), .own 1017 0, .own 1018 0]) [(1017, 2), (1018, 5)]),
   .n (.store 5 (.t 7) (.t 16))])
     (.reg [.a 17 (.load 5 true (.t 7)),
   .a 18 (.mov (.t 1)),
   .a 19 (.mov (.t 2)),
   .a 20 (.call 1032 126 [(.t 17), (.t 18), (.t 19)])])))
    (.reg [.a 21 (.bin .add (.t 13) (.i 1)),
   .a 13 (.mov (.t 21))])))))))
  (.seq (.reg [.a 22 (.fadd (.t 3) 4),
   .a 23 (.load 1 false (.t 22)),
   .a 24 (.len (.t 23)),
   .a 25 (.mov (.i 0))])
  (.block 2 (.loop [1, 2, 3, 23, 24, 25] [0, 1, 2, 3, 4, 5, 1000, 1017, 1018]
   (.seq (.reg [.a 26 (.bin .lss (.t 25) (.t 24))])
    (.seq (.cond (.t 26) .skip
    (.exit 2))
    (.seq (.block 3 (.seq (.reg [.a 27 (.iadd 5 (.t 23) (.t 25)),
   .a 28 (.load 5 true (.t 27)),
   .a 9 (.alloc 1048 5 (.agg [.pl (.int .i64 0), .pl (.int .i64 0), .own 1049 0, .own 1050 0, .own 1051 0]) [(1049, 2), (1050, 5), (1051, 5)]),
   .n (.store 5 (.t 9) (.t 28))])
     (.drw [.a 29 (.load 5 true (.t 9)),
   .a 30 (.mov (.t 1)),
   .a 31 (.load 5 true (.t 3)),
   .a 32 (.call 1064 94 [(.t 31)]),
   .a 33 (.bin .add (.t 30) (.t 32)),
   .a 34 (.mov (.t 2)),
   .a 35 (.call 1080 120 [(.t 29), (.t 33), (.t 34)])] [0, 0, 0, 4, 14, 0, 63])))
    (.reg [.a 36 (.bin .add (.t 25) (.i 1)),
   .a 25 (.mov (.t 36))])))))))))⟩
def r121 : RFunc := ⟨1, [.tmp 2], (.reg [.a 2 (.srt (.t 0))])⟩
def r122 : RFunc := ⟨1, [.tmp 2],
  (.seq (.reg [.a 2 (.mov (.i 0))])
  (.seq (.seq (.reg [.a 6 (.mov (.t 0)),
   .a 7 (.len (.t 6)),
   .a 8 (.bin .gtr (.t 7) (.i 16))])
  (.cond (.t 8) (.seq (.reg [.a 2 (.mov (.i 3))])
   .ret)
  .skip))
  (.seq (.seq (.reg [.a 9 (.mov (.t 0)),
   .a 10 (.len (.t 9)),
   .a 11 (.mov (.i 0))])
  (.block 0 (.loop [2, 9, 10, 11] [0, 1, 2, 3, 4, 5]
   (.seq (.reg [.a 12 (.bin .lss (.t 11) (.t 10))])
    (.seq (.cond (.t 12) .skip
    (.exit 0))
    (.seq (.block 1 (.seq (.reg [.a 13 (.iadd 2 (.t 9) (.t 11)),
   .a 14 (.load 2 true (.t 13)),
   .a 4 (.alloc 1000 2 (.agg [.pl (.int .i64 0), .own 1001 0]) [(1001, 2)]),
   .n (.store 2 (.t 4) (.t 14))])
     (.seq (.reg [.a 15 (.load 2 true (.t 4)),
   .a 16 (.call 1016 92 [(.t 15)]),
   .a 5 (.mov (.t 16))])
     (.seq (.reg [.a 17 (.mov (.t 5)),
   .a 18 (.bin .neq (.t 17) (.i 0))])
     (.cond (.t 18) (.seq (.reg [.a 19 (.mov (.t 5)),
   .a 2 (.mov (.t 19))])
      .ret)
     .skip)))))
    (.reg [.a 20 (.bin .add (.t 11) (.i 1)),
   .a 11 (.mov (.t 20))])))))))
  (.seq (.reg [.a 2 (.mov (.i 0))])
  .ret))))⟩
def r123 : RFunc := ⟨2, [.tmp 4],
  (.seq (.reg [.a 3 (.box 1000 5 (.t 1)),
   .a 4 (.mov (.i 0))])
  (.seq (.seq (.reg [.a 6 (.load 5 true (.t 3)),
   .a 7 (.call 1016 60 [(.t 6)]),
   .a 5 (.mov (.t 7))])
  (.seq (.reg [.a 8 (.mov (.t 5)),
   .a 9 (.bin .neq (.t 8) (.i 0))])
  (.cond (.t 9) (.seq (.reg [.a 10 (.mov (.t 5)),
   .a 4 (.mov (.t 10))])
   .ret)
  .skip)))
  (.seq (.reg [.a 11 (.mov (.t 0)),
   .a 12 (.load 5 true (.t 3)),
   .a 13 (.call 1032 127 [(.t 11), (.t 12)]),
   .a 4 (.mov (.t 13))])
  .ret)))⟩
def r124 : RFunc := ⟨2, [.tmp 4],
  (.seq (.reg [.a 2 (.box 1000 5 (.t 0)),
   .a 4 (.mov (.i 0))])
  (.seq (.reg [.a 5 (.mov (.i 0))])
  (.seq (.seq (.reg [.a 8 (.fadd (.t 2) 0),
   .a 9 (.load 1 false (.t 8)),
   .a 10 (.bin .eql (.t 9) (.i 1)),
   .a 11 (.mov (.t 10)),
   .q 12 (.fadd (.t 2) 1) 11 true,
   .q 13 (.load 1 false (.t 12)) 11 true,
   .q 14 (.mov (.t 1)) 11 true,
   .q 15 (.bin .eql (.t 13) (.t 14)) 11 true,
   .a 16 (.pick (.t 11) (.t 15) (.c (.pl (.bool false))))])
  (.cond (.t 16) (.reg [.a 17 (.mov (.t 5)),
   .a 18 (.bin .add (.t 17) (.i 1)),
   .a 5 (.mov (.t 18))])
  .skip))
  (.seq (.seq (.reg [.a 19 (.fadd (.t 2) 4),
   .a 20 (.load 1 false (.t 19)),
   .a 21 (.len (.t 20)),
   .a 22 (.mov (.i 0))])
  (.block 0 (.loop [1, 2, 5, 20, 21, 22] [0, 1, 2, 3, 4, 5, 1000]
   (.seq (.reg [.a 23 (.bin .lss (.t 22) (.t 21))])
    (.seq (.cond (.t 23) .skip
    (.exit 0))
    (.seq (.block 1 (.seq (.reg [.a 24 (.iadd 5 (.t 20) (.t 22)),
   .a 25 (.load 5 true (.t 24)),
   .a 7 (.alloc 1016 5 (.agg [.pl (.int .i64 0), .pl (.int .i64 0), .pl (.int .i64 0), .own 1017 0, .own 1018 0]) [(1017, 2), (1018, 5)]),
   .n (.store 5 (.t 7) (.t 25))])
     (.drw [.a 26 (.mov (.t 5)),
   .a 27 (.load 5 true (.t 7)),
   .a 28 (.mov (.t 1)),
   .a 29 (.load 5 true (.t 2)),
   .a 30 (.call 1032 104 [(.t 29)]),
   .a 31 (.bin .add (.t 28) (.t 30)),
   .a 32 (.call 1048 124 [(.t 27), (.t 31)]),
   .a 33 (.bin .add (.t 26) (.t 32)),
   .a 5 (.mov (.t 33))] [0, 0, 0, 0, 8, 28, 62, 127, 255])))
    (.reg [.a 34 (.bin .add (.t 22) (.i 1)),
   .a 22 (.mov (.t 34))])))))))
  (.seq (.reg [.a 35 (.mov (.t 5)),
   .a 4 (.mov (.t 35))])
  .ret)))))⟩
def r125 : RFunc := ⟨4, [.cell 8 5 true],
  (.seq (.reg [.a 4 (.box 1000 5 (.t 0)),
   .a 7 (.box 1016 5 (.t 3)),
   .a 8 (.alloc 1032 5 (.agg [.pl (.int .i64 0), .pl (.int .i64 0), .pl (.int .i64 0), .own 1033 0, .own 1034 0]) [(1033, 2), (1034, 5)])])
  (.seq (.seq (.reg [.a 12 (.fadd (.t 4) 0),
   .a 13 (.load 1 false (.t 12)),
   .a 14 (.bin .eql (.t 13) (.i 1))])
  (.cond (.t 14) (.seq (.seq (.reg [.a 15 (.fadd (.t 4) 1),
   .a 16 (.load 1 false (.t 15)),
   .a 17 (.mov (.t 1)),
   .a 18 (.mov (.t 2)),
   .a 19 (.bin .add (.t 17) (.t 18)),
   .a 20 (.bin .eql (.t 16) (.t 19))])
   (.cond (.t 20) (.seq (.reg [.a 21 (.load 5 true (.t 7)),
   .a 22 (.mov (.t 1)),
   .a 23 (.mov (.t 2)),
   .a 24 (.bin .add (.t 22) (.t 23)),
   .a 25 (.call 1048 93 [(.t 21), (.i 0), (.t 24)]),
   .n (.store 5 (.t 8) (.t 25))])
    .ret)
   .skip))
   (.seq (.seq (.reg [.a 26 (.fadd (.t 4) 1),
   .a 27 (.load 1 false (.t 26)),
   .a 28 (.mov (.t 1)),
   .a 29 (.mov (.t 2)),
   .a 30 (.bin .add (.t 28) (.t 29)),
   .a 31 (.bin .gtr (.t 27) (.t 30))])
   (.cond (.t 31) (.seq (.reg [.a 32 (.fadd (.t 4) 1),
   .a 33 (.load 1 false (.t 32)),
   .a 34 (.bin .sub (.t 33) (.i 1)),
   .a 35 (.call 1064 42 [(.t 34)]),
   .n (.store 5 (.t 8) (.t 35))])
    .ret)
   .skip))
   (.seq (.reg [.a 36 (.load 5 true (.t 4)),
   .n (.store 5 (.t 8) (.t 36))])
   .ret)))
  .skip))
  (.seq (.reg [.a 37 (.fadd (.t 4) 0),
   .a 38 (.load 1 false (.t 37)),
   .a 39 (.fadd (.t 4) 1),
   .a 40 (.load 1 false (.t 39)),
   .a 41 (.fadd (.t 4) 2),
   .a 42 (.load 2 true (.t 41)),
   .a 43 (.build [.pl (.int .i64 0), .pl (.int .i64 0), .pl (.int .i64 0), .pl (.sl 2 []), .own 1081 0] [(1081, 5)] [(0, 1, (.t 38)), (1, 1, (.t 40)), (2, 2, (.t 42))]),
   .a 9 (.alloc 1096 5 (.agg [.pl (.int .i64 0), .pl (.int .i64 0), .pl (.int .i64 0), .own 1097 0, .own 1098 0]) [(1097, 2), (1098, 5)]),
   .n (.store 5 (.t 9) (.t 43))])
  (.seq (.seq (.reg [.a 44 (.fadd (.t 4) 4),
   .a 45 (.load 1 false (.t 44)),
   .a 46 (.len (.t 45)),
   .a 47 (.mov (.i 0))])
  (.block 0 (.loop [1, 2, 4, 7, 8, 9, 45, 46, 47] [0, 1, 2, 3, 4, 5, 1000, 1016, 1032, 1033, 1034, 1080, 1081, 1096, 1097, 1098]
   (.seq (.reg [.a 48 (.bin .lss (.t 47) (.t 46))])
    (.seq (.cond (.t 48) .skip
    (.exit 0))
    (.seq (.block 1 (.seq (.reg [.a 49 (.iadd 5 (.t 45) (.t 47)),
   .a 50 (.load 5 true (.t 49)),
   .a 11 (.alloc 1112 5 (.agg [.pl (.int .i64 0), .pl (.int .i64 0), .pl (.int .i64 0), .own 1113 0, .own 1114 0]) [(1113, 2), (1114, 5)]),
   .n (.store 5 (.t 11) (.t 50))])
     (.drw [.a 51 (.fadd (.t 9) 4),
   .a 52 (.load 1 false (.t 51)),
   .a 53 (.load 5 true (.t 11)),
   .a 54 (.mov (.t 1)),
   .a 55 (.mov (.t 2)),
   .a 56 (.load 5 true (.t 4)),
   .a 57 (.call 1128 104 [(.t 56)]),
   .a 58 (.bin .add (.t 55) (.t 57)),
   .a 59 (.load 5 true (.t 7)),
   .a 60 (.call 1144 125 [(.t 53), (.t 54), (.t 58), (.t 59)]),
   .a 61 (.bsl 5 [(.t 60)]),
   .a 62 (.app 5 (.t 52) (.t 61)),
   .a 63 (.fadd (.t 9) 4),
   .n (.store 1 (.t 63) (.t 62))] [0, 1, 0, 0, 0, 0, 32, 112, 0, 508, 1020, 2047, 4095, 8191])))
    (.reg [.a 64 (.bin .add (.t 47) (.i 1)),
   .a 47 (.mov (.t 64))])))))))
  (.seq (.reg [.a 65 (.load 5 true (.t 9)),
   .n (.store 5 (.t 8) (.t 65))])
  .ret)))))⟩
def r126 : RFunc := ⟨3, [],
  (.seq (.reg [.a 3 (.box 1000 5 (.t 0))])
  (.seq (.seq (.reg [.a 8 (.fadd (.t 3) 0),
   .a 9 (.load 1 false (.t 8)),
   .a 10 (.bin .eql (.t 9) (.i 1)),
   .a 11 (.mov (.t 10)),
   .q 12 (.fadd (.t 3) 1) 11 true,
   .q 13 (.load 1 false (.t 12)) 11 true,
   .q 14 (.mov (.t 1)) 11 true,
   .q 15 (.bin .geq (.t 13) (.t 14)) 11 true,
   .a 16 (.pick (.t 11) (.t 15) (.c (.pl (.bool false))))])
  (.cond (.t 16) (.reg [.a 17 (.mov (.t 2)),
   .a 18 (.fadd (.t 3) 1),
   .a 19 (.load 1 false (.t 18)),
   .a 20 (.mov (.t 1)),
   .a 21 (.bin .sub (.t 19) (.t 20)),
   .n (.mput (.t 17) (.t 21))])
  .skip))
  (.seq (.reg [.a 22 (.fadd (.t 3) 4),
   .a 23 (.load 1 false (.t 22)),
   .a 24 (.len (.t 23)),
   .a 25 (.mov (.i 0))])
  (.block 0 (.loop [1, 2, 3, 23, 24, 25] [0, 1, 2, 3, 4, 5, 1000]
   (.seq (.reg [.a 26 (.bin .lss (.t 25) (.t 24))])
    (.seq (.cond (.t 26) .skip
    (.exit 0))
    (.seq (.block 1 (.seq (.reg [.a 27 (.iadd 5 (.t 23) (.t 25)),
   .a 28 (.load 5 true (.t 27)),
   .a 7 (.alloc 1016 5 (.agg [.pl (.int .i64 0), .pl (.int .i64 0), .pl (.int .i64 0), .own 1017 0, .own 1018 0]) [(1017, 2), (1018, 5)]),
   .n (.store 5 (.t 7) (.t 28))])
     (.drw [.a 29 (.load 5 true (.t 7)),
   .a 30 (.mov (.t 1)),
   .a 31 (.load 5 true (.t 3)),
   .a 32 (.call 1032 104 [(.t 31)]),
   .a 33 (.bin .add (.t 30) (.t 32)),
   .a 34 (.mov (.t 2)),
   .a 35 (.call 1048 126 [(.t 29), (.t 33), (.t 34)])] [0, 0, 0, 4, 14, 0, 63])))
    (.reg [.a 36 (.bin .add (.t 25) (.i 1)),
   .a 25 (.mov (.t 36))])))))))))⟩
def r127 : RFunc := ⟨2, [.tmp 4],
  (.seq (.reg [.a 3 (.box 1000 5 (.t 1)),
   .a 4 (.mov (.i 0))])
  (.seq (.seq (.reg [.a 12 (.fadd (.t 3) 3),
   .a 13 (.load 1 false (.t 12)),
   .a 14 (.len (.t 13)),
   .a 15 (.mov (.i 0))])
  (.block 0 (.loop [0, 3, 4, 13, 14, 15] [0, 1, 2, 3, 4, 5, 1000]
   (.seq (.reg [.a 16 (.bin .lss (.t 15) (.t 14))])
    (.seq (.cond (.t 16) .skip
    (.exit 0))
    (.seq (.block 1 (.seq (.reg [.a 17 (.iadd 5 (.t 13) (.t 15)),
   .a 18 (.load 5 true (.t 17)),
   .a 6 (.alloc 1016 5 (.agg [.pl (.int .i64 0), .pl (.int .i64 0), .pl (.int .i64 0), .own 1017 0, .own 1018 0]) [(1017, 2), (1018, 5)]),
   .n (.store 5 (.t 6) (.t 18))])
     (.seq (.reg [.a 20 (.mov (.t 0)),
   .a 21 (.load 5 true (.t 6)),
   .a 22 (.call 1032 128 [(.t 20), (.t 21)]),
   .a 19 (.mov (.t 22)),
   .a 23 (.ext (.t 19) 0),
   .a 24 (.ext (.t 19) 1),
   .a 7 (.alloc 1048 2 (.agg [.pl (.int .i64 0), .own 1049 0]) [(1049, 2)]),
   .n (.store 2 (.t 7) (.t 23)),
   .a 8 (.mov (.t 24))])
     (.seq (.seq (.reg [.a 25 (.mov (.t 8)),
   .a 26 (.bin .neq (.t 25) (.i 0))])
     (.cond (.t 26) (.seq (.reg [.a 27 (.mov (.t 8)),
   .a 4 (.mov (.t 27))])
      .ret)
     .skip))
     (.seq (.reg [.a 28 (.fadd (.t 7) 0),
   .a 29 (.load 1 false (.t 28)),
   .a 30 (.bin .neq (.t 29) (.i 1))])
     (.cond (.t 30) (.seq (.reg [.a 4 (.mov (.i 7))])
      .ret)
     .skip))))))
    (.reg [.a 31 (.bin .add (.t 15) (.i 1)),
   .a 15 (.mov (.t 31))])))))))
  (.seq (.seq (.reg [.a 32 (.fadd (.t 3) 0),
   .a 33 (.load 1 false (.t 32)),
   .a 34 (.call 1064 91 [(.t 33)])])
  (.cond (.t 34) (.drw [.a 35 (.mov (.t 0)),
   .a 36 (.mov (.t 0)),
   .a 37 (.len (.t 36)),
   .a 38 (.mov (.t 0)),
   .a 39 (.len (.t 38)),
   .a 40 (.slc 2 (.t 35) none (some (.t 37)) (some (.t 39))),
   .a 41 (.fadd (.t 3) 1),
   .a 42 (.load 2 true (.t 41)),
   .a 43 (.bsl 2 [(.t 42)]),
   .a 44 (.app 2 (.t 40) (.t 43)),
   .a 0 (.mov (.t 44))] [0, 0, 2, 0, 8, 31, 0, 64, 192, 511, 1023])
  .skip))
  (.seq (.seq (.reg [.a 45 (.fadd (.t 3) 4),
   .a 46 (.load 1 false (.t 45)),
   .a 47 (.len (.t 46)),
   .a 48 (.mov (.i 0))])
  (.block 2 (.loop [0, 4, 46, 47, 48] [0, 1, 2, 3, 4, 5, 1017, 1018, 1049]
   (.seq (.reg [.a 49 (.bin .lss (.t 48) (.t 47))])
    (.seq (.cond (.t 49) .skip
    (.exit 2))
    (.seq (.block 3 (.seq (.reg [.a 50 (.iadd 5 (.t 46) (.t 48)),
   .a 51 (.load 5 true (.t 50)),
   .a 10 (.alloc 1080 5 (.agg [.pl (.int .i64 0), .pl (.int .i64 0), .own 1081 0, .own 1082 0, .own 1083 0]) [(1081, 2), (1082, 5), (1083, 5)]),
   .n (.store 5 (.t 10) (.t 51))])
     (.seq (.reg [.a 52 (.mov (.t 0)),
   .a 53 (.load 5 true (.t 10)),
   .a 54 (.call 1096 127 [(.t 52), (.t 53)]),
   .a 11 (.mov (.t 54))])
     (.seq (.reg [.a 55 (.mov (.t 11)),
   .a 56 (.bin .neq (.t 55) (.i 0))])
     (.cond (.t 56) (.seq (.reg [.a 57 (.mov (.t 11)),
   .a 4 (.mov (.t 57))])
      .ret)
     .skip)))))
    (.reg [.a 58 (.bin .add (.t 48) (.i 1)),
   .a 48 (.mov (.t 58))])))))))
  (.seq (.reg [.a 4 (.mov (.i 0))])
  .ret)))))⟩
def r128 : RFunc := ⟨2, [.cell 4 2 true, .tmp 5],
  (.seq (.reg [.a 3 (.box 1000 5 (.t 1)),
   .a 4 (.alloc 1016 2 (.agg [.pl (.int .i64 0), .own 1017 0]) [(1017, 2)]),
   .a 5 (.mov (.i 0))])
  (.seq (.seq (.reg [.a 7 (.load 5 true (.t 3)),
   .a 8 (.call 1032 117 [(.t 7)]),
   .a 6 (.mov (.t 8))])
  (.seq (.reg [.a 9 (.mov (.t 6)),
   .a 10 (.bin .neq (.t 9) (.i 0))])
  (.cond (.t 10) (.seq (.reg [.a 11 (.build [.pl (.int .i64 0), .pl (.sl 2 [])] [] []),
   .a 12 (.mov (.t 6)),
   .n (.store 2 (.t 4) (.t 11)),
   .a 5 (.mov (.t 12))])
   .ret)
  .skip)))
  (.seq (.reg [.a 13 (.mov (.t 0)),
   .a 14 (.load 5 true (.t 3)),
   .a 15 (.call 1064 129 [(.t 13), (.t 14)]),
   .a 16 (.ext (.t 15) 0),
   .a 17 (.ext (.t 15) 1),
   .n (.store 2 (.t 4) (.t 16)),
   .a 5 (.mov (.t 17))])
  .ret)))⟩
def r129 : RFunc := ⟨2, [.cell 4 2 true, .tmp 5],
  (.seq (.reg [.a 3 (.box 1000 5 (.t 1)),
   .a 4 (.alloc 1016 2 (.agg [.pl (.int .i64 0), .own 1017 0]) [(1017, 2)]),
   .a 5 (.mov (.i 0))])
  (.seq (.seq (.reg [.a 15 (.fadd (.t 3) 0),
   .a 16 (.load 1 false (.t 15)),
   .a 17 (.bin .eql (.t 16) (.i 1))])
  (.cond (.t 17) (.seq (.seq (.reg [.a 18 (.fadd (.t 3) 1),
   .a 19 (.load 1 false (.t 18)),
   .a 20 (.mov (.t 0)),
   .a 21 (.len (.t 20)),
   .a 22 (.bin .geq (.t 19) (.t 21))])
   (.cond (.t 22) (.seq (.reg [.a 23 (.build [.pl (.int .i64 0), .pl (.sl 2 [])] [] []),
   .n (.store 2 (.t 4) (.t 23)),
   .a 5 (.mov (.i 6))])
    .ret)
   .skip))
   (.seq (.reg [.a 24 (.mov (.t 0)),
   .a 25 (.mov (.t 0)),
   .a 26 (.len (.t 25)),
   .a 27 (.bin .sub (.t 26) (.i 1)),
   .a 28 (.fadd (.t 3) 1),
   .a 29 (.load 1 false (.t 28)),
   .a 30 (.bin .sub (.t 27) (.t 29)),
   .a 31 (.iadd 2 (.t 24) (.t 30)),
   .a 32 (.load 2 true (.t 31)),
   .a 33 (.call 1048 40 [(.t 32)]),
   .n (.store 2 (.t 4) (.t 33)),
   .a 5 (.mov (.i 0))])
   .ret))
  .skip))
  (.seq (.seq (.reg [.a 34 (.fadd (.t 3) 0),
   .a 35 (.load 1 false (.t 34)),
   .a 36 (.bin .eql (.t 35) (.i 2))])
  (.cond (.t 36) (.seq (.drw [.a 38 (.mov (.t 0)),
   .a 39 (.mov (.t 0)),
   .a 40 (.len (.t 39)),
   .a 41 (.mov (.t 0)),
   .a 42 (.len (.t 41)),
   .a 43 (.slc 2 (.t 38) none (some (.t 40)) (some (.t 42))),
   .a 44 (.fadd (.t 3) 2),
   .a 45 (.load 2 true (.t 44)),
   .a 46 (.bsl 2 [(.t 45)]),
   .a 47 (.app 2 (.t 43) (.t 46)),
   .a 48 (.fadd (.t 3) 4),
   .a 49 (.load 1 false (.t 48)),
   .a 50 (.iadd 5 (.t 49) (.i 0)),
   .a 51 (.load 5 true (.t 50)),
   .a 52 (.call 1064 129 [(.t 47), (.t 51)]),
   .a 37 (.mov (.t 52)),
   .a 53 (.ext (.t 37) 0),
   .a 54 (.ext (.t 37) 1),
   .a 6 (.alloc 1080 2 (.agg [.pl (.int .i64 0), .own 1081 0]) [(1081, 2)]),
   .n (.store 2 (.t 6) (.t 53)),
   .a 7 (.mov (.t 54))] [0, 0, 2, 0, 8, 31, 0, 64, 192, 511, 0, 1024, 3072, 7168, 16383, 32767, 65535, 65535, 0, 393215, 1048575])
   (.seq (.seq (.reg [.a 55 (.mov (.t 7)),
   .a 56 (.bin .neq (.t 55) (.i 0))])
   (.cond (.t 56) (.seq (.reg [.a 57 (.build [.pl (.int .i64 0), .pl (.sl 2 [])] [] []),
   .a 58 (.mov (.t 7)),
   .n (.store 2 (.t 4) (.t 57)),
   .a 5 (.mov (.t 58))])
    .ret)
   .skip))
   (.seq (.reg [.a 59 (.fadd (.t 3) 2),
   .a 60 (.load 2 true (.t 59)),
   .a 61 (.load 2 true (.t 6)),
   .a 62 (.call 1112 39 [(.t 60), (.t 61)]),
   .a 63 (.call 1128 130 [(.t 62)]),
   .a 64 (.ext (.t 63) 0),
   .a 65 (.ext (.t 63) 1),
   .n (.store 2 (.t 4) (.t 64)),
   .a 5 (.mov (.t 65))])
   .ret)))
  .skip))
  (.seq (.reg [.a 8 (.nilb 1144 2)])
  (.seq (.seq (.reg [.a 66 (.fadd (.t 3) 4),
   .a 67 (.load 1 false (.t 66)),
   .a 68 (.len (.t 67)),
   .a 69 (.mov (.i 0))])
  (.block 0 (.loop [0, 3, 4, 5, 8, 67, 68, 69] [0, 1, 2, 3, 4, 5, 1000, 1016, 1017, 1032, 1081, 1096, 1144]
   (.seq (.reg [.a 70 (.bin .lss (.t 69) (.t 68))])
    (.seq (.cond (.t 70) .skip
    (.exit 0))
    (.seq (.block 1 (.seq (.reg [.a 71 (.iadd 5 (.t 67) (.t 69)),
   .a 72 (.load 5 true (.t 71)),
   .a 10 (.alloc 1160 5 (.agg [.pl (.int .i64 0), .pl (.int .i64 0), .pl (.int .i64 0), .own 1161 0, .own 1162 0]) [(1161, 2), (1162, 5)]),
   .n (.store 5 (.t 10) (.t 72))])
     (.seq (.reg [.a 74 (.mov (.t 0)),
   .a 75 (.load 5 true (.t 10)),
   .a 76 (.call 1176 129 [(.t 74), (.t 75)]),
   .a 73 (.mov (.t 76)),
   .a 77 (.ext (.t 73) 0),
   .a 78 (.ext (.t 73) 1),
   .a 11 (.alloc 1192 2 (.agg [.pl (.int .i64 0), .own 1193 0]) [(1193, 2)]),
   .n (.store 2 (.t 11) (.t 77)),
   .a 12 (.mov (.t 78))])
     (.seq (.seq (.reg [.a 79 (.mov (.t 12)),
   .a 80 (.bin .neq (.t 79) (.i 0))])
     (.cond (.t 80) (.seq (.reg [.a 81 (.build [.pl (.int .i64 0), .pl (.sl 2 [])] [] []),
   .a 82 (.mov (.t 12)),
   .n (.store 2 (.t 4) (.t 81)),
   .a 5 (.mov (.t 82))])
      .ret)
     .skip))
     (.reg [.a 83 (.mov (.t 8)),
   .a 84 (.load 2 true (.t 11)),
   .a 85 (.bsl 2 [(.t 84)]),
   .a 86 (.app 2 (.t 83) (.t 85)),
   .a 8 (.mov (.t 86))])))))
    (.reg [.a 87 (.bin .add (.t 69) (.i 1)),
   .a 69 (.mov (.t 87))])))))))
  (.seq (.reg [.a 88 (.call 1224 20 []),
   .a 89 (.call 1240 36 []),
   .a 13 (.alloc 1256 2 (.agg [.pl (.int .i64 0), .own 1257 0]) [(1257, 2)]),
   .a 14 (.alloc 1272 2 (.agg [.pl (.int .i64 0), .own 1273 0]) [(1273, 2)]),
   .n (.store 2 (.t 13) (.t 88)),
   .n (.store 2 (.t 14) (.t 89))])
  (.seq (.seq (.reg [.a 90 (.fadd (.t 3) 0),
   .a 91 (.load 1 false (.t 90))])
  (.block 2 (.seq (.reg [.a 93 (.bin .eql (.t 91) (.i 3)),
   .a 92 (.mov (.t 93))])
   (.cond (.t 92) (.seq (.seq (.drw [.a 94 (.mov (.t 8)),
   .a 95 (.iadd 2 (.t 94) (.i 0)),
   .a 96 (.fadd (.t 95) 0),
   .a 97 (.load 1 false (.t 96)),
   .a 98 (.bin .neq (.t 97) (.i 4)),
   .a 99 (.mov (.t 98)),
   .q 100 (.mov (.t 8)) 99 false,
   .q 101 (.iadd 2 (.t 100) (.i 0)) 99 false,
   .q 102 (.fadd (.t 101) 1) 99 false,
   .q 103 (.load 1 false (.t 102)) 99 false,
   .q 104 (.iadd 2 (.t 103) (.i 0)) 99 false,
   .q 105 (.load 2 true (.t 104)) 99 false,
   .q 106 (.mov (.t 8)) 99 false,
   .q 107 (.iadd 2 (.t 106) (.i 1)) 99 false,
   .q 108 (.load 2 true (.t 107)) 99 false,
   .q 109 (.call 1288 29 [(.t 105), (.t 108)]) 99 false,
   .q 110 (.un .not (.t 109)) 99 false,
   .a 111 (.pick (.t 99) (.c (.pl (.bool true))) (.t 110))] [0, 1, 3, 7, 15, 31, 63, 127, 255, 511, 1023, 2047, 63, 4159, 12351, 32767, 65535, 131071])
    (.cond (.t 111) (.seq (.reg [.a 112 (.build [.pl (.int .i64 0), .pl (.sl 2 [])] [] []),
   .n (.store 2 (.t 4) (.t 112)),
   .a 5 (.mov (.i 7))])
     .ret)
    .skip))
    (.seq (.reg [.a 113 (.mov (.t 8)),
   .a 114 (.iadd 2 (.t 113) (.i 0)),
   .a 115 (.fadd (.t 114) 1),
   .a 116 (.load 1 false (.t 115)),
   .a 117 (.iadd 2 (.t 116) (.i 1)),
   .a 118 (.load 2 true (.t 117)),
   .n (.store 2 (.t 4) (.t 118)),
   .a 5 (.mov (.i 0))])
    .ret))
   (.seq (.reg [.a 120 (.bin .eql (.t 91) (.i 4)),
   .a 119 (.mov (.t 120))])
    (.cond (.t 119) (.seq (.reg [.a 121 (.load 2 true (.t 13)),
   .n (.store 2 (.t 4) (.t 121)),
   .a 5 (.mov (.i 0))])
     .ret)
    (.seq (.reg [.a 123 (.bin .eql (.t 91) (.i 5)),
   .a 122 (.mov (.t 123))])
     (.cond (.t 122) (.seq (.seq (.drw [.a 124 (.mov (.t 8)),
   .a 125 (.iadd 2 (.t 124) (.i 0)),
   .a 126 (.load 2 true (.t 125)),
   .a 127 (.load 2 true (.t 13)),
   .a 128 (.call 1320 29 [(.t 126), (.t 127)]),
   .a 129 (.un .not (.t 128))] [0, 1, 3, 0, 15, 31])
      (.cond (.t 129) (.seq (.reg [.a 130 (.build [.pl (.int .i64 0), .pl (.sl 2 [])] [] []),
   .n (.store 2 (.t 4) (.t 130)),
   .a 5 (.mov (.i 7))])
       .ret)
      .skip))
      (.seq (.reg [.a 131 (.load 2 true (.t 13)),
   .n (.store 2 (.t 4) (.t 131)),
   .a 5 (.mov (.i 0))])
      .ret))
     (.seq (.reg [.a 133 (.bin .eql (.t 91) (.i 6)),
   .a 132 (.mov (.t 133))])
      (.cond (.t 132) (.seq (.seq (.drw [.a 134 (.mov (.t 8)),
   .a 135 (.iadd 2 (.t 134) (.i 0)),
   .a 136 (.load 2 true (.t 135)),
   .a 137 (.fadd (.t 3) 2),
   .a 138 (.load 2 true (.t 137)),
   .a 139 (.call 1352 29 [(.t 136), (.t 138)]),
   .a 140 (.un .not (.t 139)),
   .a 141 (.mov (.t 140)),
   .q 142 (.mov (.t 8)) 141 false,
   .q 143 (.iadd 2 (.t 142) (.i 1)) 141 false,
   .q 144 (.load 2 true (.t 143)) 141 false,
   .q 145 (.load 2 true (.t 13)) 141 false,
   .q 146 (.fadd (.t 3) 2) 141 false,
   .q 147 (.load 2 true (.t 146)) 141 false,
   .q 148 (.fadd (.t 3) 2) 141 false,
   .q 149 (.load 2 true (.t 148)) 141 false,
   .q 150 (.call 1368 39 [(.t 147), (.t 149)]) 141 false,
   .q 151 (.call 1384 39 [(.t 145), (.t 150)]) 141 false,
   .q 152 (.call 1400 29 [(.t 144), (.t 151)]) 141 false,
   .q 153 (.un .not (.t 152)) 141 false,
   .a 154 (.pick (.t 141) (.c (.pl (.bool true))) (.t 153)),
   .a 155 (.mov (.t 154)),
   .q 156 (.mov (.t 8)) 155 false,
   .q 157 (.iadd 2 (.t 156) (.i 2)) 155 false,
   .q 158 (.load 2 true (.t 157)) 155 false,
   .q 159 (.load 2 true (.t 13)) 155 false,
   .q 160 (.call 1416 29 [(.t 158), (.t 159)]) 155 false,
   .q 161 (.un .not (.t 160)) 155 false,
   .a 162 (.pick (.t 155) (.c (.pl (.bool true))) (.t 161))] [0, 1, 3, 0, 8, 31, 63, 127, 255, 511, 1023, 255, 255, 4351, 255, 16639, 61695, 129279, 262143, 524287, 1048575, 2097151, 4194303, 8388607, 16777215, 4194303, 67108863, 134217727, 268435455])
       (.cond (.t 162) (.seq (.reg [.a 163 (.build [.pl (.int .i64 0), .pl (.sl 2 [])] [] []),
   .n (.store 2 (.t 4) (.t 163)),
   .a 5 (.mov (.i 7))])
        .ret)
       .skip))
       (.seq (.reg [.a 164 (.fadd (.t 3) 2),
   .a 165 (.load 2 true (.t 164)),
   .a 166 (.call 1448 40 [(.t 165)]),
   .n (.store 2 (.t 4) (.t 166)),
   .a 5 (.mov (.i 0))])
       .ret))
      (.seq (.reg [.a 168 (.bin .eql (.t 91) (.i 7)),
   .a 167 (.mov (.t 168))])
       (.cond (.t 167) (.seq (.reg [.a 169 (.load 2 true (.t 14)),
   .n (.store 2 (.t 4) (.t 169)),
   .a 5 (.mov (.i 0))])
        .ret)
       (.seq (.reg [.a 171 (.bin .eql (.t 91) (.i 8)),
   .a 170 (.mov (.t 171))])
        (.cond (.t 170) (.seq (.seq (.drw [.a 172 (.mov (.t 8)),
   .a 173 (.iadd 2 (.t 172) (.i 0)),
   .a 174 (.load 2 true (.t 173)),
   .a 175 (.load 2 true (.t 13)),
   .a 176 (.call 1464 29 [(.t 174), (.t 175)]),
   .a 177 (.un .not (.t 176)),
   .a 178 (.mov (.t 177)),
   .q 179 (.mov (.t 8)) 178 false,
   .q 180 (.iadd 2 (.t 179) (.i 1)) 178 false,
   .q 181 (.load 2 true (.t 180)) 178 false,
   .q 182 (.load 2 true (.t 14)) 178 false,
   .q 183 (.call 1480 29 [(.t 181), (.t 182)]) 178 false,
   .q 184 (.un .not (.t 183)) 178 false,
   .a 185 (.pick (.t 178) (.c (.pl (.bool true))) (.t 184))] [0, 1, 3, 0, 15, 31, 63, 127, 255, 511, 127, 2047, 4095, 8191])
         (.cond (.t 185) (.seq (.reg [.a 186 (.build [.pl (.int .i64 0), .pl (.sl 2 [])] [] []),
   .n (.store 2 (.t 4) (.t 186)),
   .a 5 (.mov (.i 7))])
          .ret)
         .skip))
         (.seq (.reg [.a 187 (.load 2 true (.t 14)),
   .n (.store 2 (.t 4) (.t 187)),
   .a 5 (.mov (.i 0))])
         .ret))
        (.seq (.reg [.a 189 (.bin .eql (.t 91) (.i 9)),
   .a 188 (.mov (.t 189))])
         (.cond (.t 188) (.seq (.seq (.drw [.a 190 (.mov (.t 8)),
   .a 191 (.iadd 2 (.t 190) (.i 0)),
   .a 192 (.load 2 true (.t 191)),
   .a 193 (.fadd (.t 3) 2),
   .a 194 (.load 2 true (.t 193)),
   .a 195 (.call 1512 29 [(.t 192), (.t 194)]),
   .a 196 (.un .not (.t 195)),
   .a 197 (.mov (.t 196)),
   .q 198 (.mov (.t 8)) 197 false,
   .q 199 (.iadd 2 (.t 198) (.i 1)) 197 false,
   .q 200 (.load 2 true (.t 199)) 197 false,
   .q 201 (.load 2 true (.t 13)) 197 false,
   .q 202 (.load 2 true (.t 14)) 197 false,
   .q 203 (.fadd (.t 3) 2) 197 false,
   .q 204 (.load 2 true (.t 203)) 197 false,
   .q 205 (.fadd (.t 3) 2) 197 false,
   .q 206 (.load 2 true (.t 205)) 197 false,
   .q 207 (.call 1528 39 [(.t 204), (.t 206)]) 197 false,
   .q 208 (.call 1544 39 [(.t 202), (.t 207)]) 197 false,
   .q 209 (.call 1560 39 [(.t 201), (.t 208)]) 197 false,
   .q 210 (.call 1576 29 [(.t 200), (.t 209)]) 197 false,
   .q 211 (.un .not (.t 210)) 197 false,
   .a 212 (.pick (.t 197) (.c (.pl (.bool true))) (.t 211)),
   .a 213 (.mov (.t 212)),
   .q 214 (.mov (.t 8)) 213 false,
   .q 215 (.iadd 2 (.t 214) (.i 2)) 213 false,
   .q 216 (.load 2 true (.t 215)) 213 false,
   .q 217 (.load 2 true (.t 14)) 213 false,
   .q 218 (.call 1592 29 [(.t 216), (.t 217)]) 213 false,
   .q 219 (.un .not (.t 218)) 213 false,
   .a 220 (.pick (.t 213) (.c (.pl (.bool true))) (.t 219))] [0, 1, 3, 0, 8, 31, 63, 127, 255, 511, 1023, 255, 255, 255, 8447, 255, 33023, 123135, 258303, 522495, 1048575, 2097151, 4194303, 8388607, 16777215, 33554431, 67108863, 16777215, 268435455, 536870911, 1073741823])
          (.cond (.t 220) (.seq (.reg [.a 221 (.build [.pl (.int .i64 0), .pl (.sl 2 [])] [] []),
   .n (.store 2 (.t 4) (.t 221)),
   .a 5 (.mov (.i 7))])
           .ret)
          .skip))
          (.seq (.reg [.a 222 (.fadd (.t 3) 2),
   .a 223 (.load 2 true (.t 222)),
   .a 224 (.call 1624 40 [(.t 223)]),
   .n (.store 2 (.t 4) (.t 224)),
   .a 5 (.mov (.i 0))])
          .ret))
         (.seq (.reg [.a 226 (.bin .eql (.t 91) (.i 10)),
   .a 225 (.mov (.t 226))])
          (.cond (.t 225) (.seq (.drw [.a 227 (.mov (.t 8)),
   .a 228 (.iadd 2 (.t 227) (.i 0)),
   .a 229 (.load 2 true (.t 228)),
   .a 230 (.mov (.t 8)),
   .a 231 (.iadd 2 (.t 230) (.i 1)),
   .a 232 (.load 2 true (.t 231)),
   .a 233 (.call 1640 38 [(.t 229), (.t 232)]),
   .a 234 (.call 1656 130 [(.t 233)]),
   .a 235 (.ext (.t 234) 0),
   .a 236 (.ext (.t 234) 1),
   .n (.store 2 (.t 4) (.t 235)),
   .a 5 (.mov (.t 236))] [0, 1, 3, 0, 8, 24, 63, 127, 255, 255, 1023, 2047])
           .ret)
          (.seq (.seq (.reg [.a 238 (.bin .eql (.t 91) (.i 11)),
   .a 237 (.mov (.t 238))])
           (.cond (.t 237) .skip
           (.reg [.a 239 (.bin .eql (.t 91) (.i 12)),
   .a 237 (.mov (.t 239))])))
           (.cond (.t 237) (.seq (.seq (.reg [.a 240 (.mov (.t 8)),
   .a 241 (.iadd 2 (.t 240) (.i 0)),
   .a 242 (.fadd (.t 241) 0),
   .a 243 (.load 1 false (.t 242)),
   .a 244 (.bin .neq (.t 243) (.i 3))])
            (.cond (.t 244) (.seq (.reg [.a 245 (.build [.pl (.int .i64 0), .pl (.sl 2 [])] [] []),
   .n (.store 2 (.t 4) (.t 245)),
   .a 5 (.mov (.i 7))])
             .ret)
            .skip))
            (.seq (.seq (.reg [.a 246 (.fadd (.t 3) 0),
   .a 247 (.load 1 false (.t 246)),
   .a 248 (.bin .eql (.t 247) (.i 11))])
            (.cond (.t 248) (.seq (.reg [.a 249 (.mov (.t 8)),
   .a 250 (.iadd 2 (.t 249) (.i 0)),
   .a 251 (.fadd (.t 250) 1),
   .a 252 (.load 1 false (.t 251)),
   .a 253 (.iadd 2 (.t 252) (.i 0)),
   .a 254 (.load 2 true (.t 253)),
   .n (.store 2 (.t 4) (.t 254)),
   .a 5 (.mov (.i 0))])
             .ret)
            .skip))
            (.seq (.reg [.a 255 (.mov (.t 8)),
   .a 256 (.iadd 2 (.t 255) (.i 0)),
   .a 257 (.fadd (.t 256) 1),
   .a 258 (.load 1 false (.t 257)),
   .a 259 (.iadd 2 (.t 258) (.i 1)),
   .a 260 (.load 2 true (.t 259)),
   .n (.store 2 (.t 4) (.t 260)),
   .a 5 (.mov (.i 0))])
            .ret)))
           .skip))))))))))))))))))))
  (.seq (.reg [.a 261 (.call 1688 37 []),
   .n (.store 2 (.t 4) (.t 261)),
   .a 5 (.mov (.i 0))])
  .ret))))))))⟩
def r130 : RFunc := ⟨1, [.cell 2 2 true, .tmp 3],
  (.seq (.reg [.a 1 (.box 1000 2 (.t 0)),
   .a 2 (.alloc 1016 2 (.agg [.pl (.int .i64 0), .own 1017 0]) [(1017, 2)]),
   .a 3 (.mov (.i 0))])
  (.seq (.seq (.reg [.a 4 (.load 2 true (.t 1)),
   .a 5 (.call 1032 92 [(.t 4)]),
   .a 6 (.bin .neq (.t 5) (.i 0))])
  (.cond (.t 6) (.seq (.reg [.a 7 (.build [.pl (.int .i64 0), .pl (.sl 2 [])] [] []),
   .n (.store 2 (.t 2) (.t 7)),
   .a 3 (.mov (.i 4))])
   .ret)
  .skip))
  (.seq (.reg [.a 8 (.load 2 true (.t 1)),
   .n (.store 2 (.t 2) (.t 8)),
   .a 3 (.mov (.i 0))])
  .ret)))⟩
end Eng

