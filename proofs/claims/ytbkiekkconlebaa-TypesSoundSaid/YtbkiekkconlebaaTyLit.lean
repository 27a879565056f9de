/-
  The functions in the small machine: written by a program (Gen.lean).
-/
import Derived.Test.YtbkiekkconlebaaM1
set_option linter.all false
set_option maxRecDepth 100000
namespace Go.VM
open Go
/-- protean/proteanlaw24.TypesTells -/
def v3 : VFunc := ⟨(.seq (.region [⟨some 6, .mov (.c (.bool false)), none, []⟩] false)
 (.seq (.seq (.region [⟨some 7, .mov (.t 0), none, []⟩,
  ⟨some 8, .call (.c (.fn 13 [])) [(.t 7)], none, [0]⟩,
  ⟨some 9, .un .not (.t 8), none, [1]⟩] false)
 (.cond (.t 9) (.seq (.region [⟨some 10, .call (.c (.fn 14 [])) [], none, []⟩,
  ⟨some 6, .mov (.t 10), none, [0, 0, 0]⟩] false)
 .ret) .skip))
 (.seq (.region [⟨some 11, .call (.c (.fn 14 [])) [], none, []⟩,
  ⟨some 12, .mov (.t 11), none, [0, 0]⟩,
  ⟨some 13, .mov (.t 0), some (12, true), [1]⟩,
  ⟨some 14, .call (.c (.fn 15 [])) [(.t 13)], some (12, true), [2, 1, 1]⟩,
  ⟨some 15, .mov (.t 0), some (12, true), [1]⟩,
  ⟨some 16, .call (.c (.fn 16 [])) [(.t 15)], some (12, true), [4, 3, 1]⟩,
  ⟨some 17, .bin .eql .bool (.t 14) (.t 16), some (12, true), [3, 5, 1]⟩,
  ⟨some 18, .pick (.t 12) (.t 17) (.c (.bool false)), none, [1, 6]⟩,
  ⟨some 19, .mov (.t 18), none, [7, 5]⟩,
  ⟨some 20, .mov (.t 0), some (19, true), [8]⟩,
  ⟨some 21, .mov (.t 1), some (19, true), [8]⟩,
  ⟨some 22, .mov (.t 2), some (19, true), [8]⟩,
  ⟨some 23, .call (.c (.fn 17 [])) [(.t 20), (.t 21), (.t 22)], some (19, true), [9, 10, 11, 8, 8]⟩,
  ⟨some 24, .mov (.t 0), some (19, true), [8]⟩,
  ⟨some 25, .mov (.t 1), some (19, true), [8]⟩,
  ⟨some 26, .mov (.t 2), some (19, true), [8]⟩,
  ⟨some 27, .call (.c (.fn 18 [])) [(.t 24), (.t 25), (.t 26)], some (19, true), [13, 14, 15, 12, 8]⟩,
  ⟨some 28, .bin .eql .bool (.t 23) (.t 27), some (19, true), [12, 16, 8]⟩,
  ⟨some 29, .pick (.t 19) (.t 28) (.c (.bool false)), none, [8, 17]⟩,
  ⟨some 30, .mov (.t 29), none, [18, 16]⟩,
  ⟨some 31, .mov (.t 0), some (30, true), [19]⟩,
  ⟨some 32, .mov (.t 1), some (30, true), [19]⟩,
  ⟨some 33, .mov (.t 2), some (30, true), [19]⟩,
  ⟨some 34, .call (.c (.fn 19 [])) [(.t 31), (.t 32), (.t 33)], some (30, true), [20, 21, 22, 19, 19]⟩,
  ⟨some 35, .mov (.t 0), some (30, true), [19]⟩,
  ⟨some 36, .mov (.t 1), some (30, true), [19]⟩,
  ⟨some 37, .mov (.t 2), some (30, true), [19]⟩,
  ⟨some 38, .call (.c (.fn 20 [])) [(.t 35), (.t 36), (.t 37)], some (30, true), [24, 25, 26, 23, 19]⟩,
  ⟨some 39, .bin .eql .bool (.t 34) (.t 38), some (30, true), [23, 27, 19]⟩,
  ⟨some 40, .pick (.t 30) (.t 39) (.c (.bool false)), none, [19, 28]⟩,
  ⟨some 6, .mov (.t 40), none, [29, 27, 0, 1, 2, 3, 4, 5, 6, 7, 8, 9, 10, 11, 12, 13, 14, 15, 16, 17, 18, 19, 20, 21, 22, 23, 24, 25, 26, 27, 28, 29]⟩] false)
 .ret))),
 [.tmp 6], 41⟩

/-- protean/proteanlaw24.TypesOrder -/
def v4 : VFunc := ⟨(.seq (.region [⟨some 3, .bx (.t 1), none, []⟩,
  ⟨some 4, .mov (.c (.bool false)), none, []⟩] false)
 (.seq (.region [⟨some 9, .mov (.t 0), none, []⟩,
  ⟨some 10, .len false (.t 9), none, [0]⟩,
  ⟨some 5, .mov (.t 10), none, [1, 0, 1]⟩] false)
 (.seq (.region [⟨some 11, .iaddrA 3 1 (.t 3) (.c (.int .i64 0)), none, []⟩,
  ⟨some 12, .load false 1 (.t 11), none, [0]⟩,
  ⟨some 13, .iaddrA 3 1 (.t 3) (.c (.int .i64 1)), none, []⟩,
  ⟨some 14, .load false 1 (.t 13), none, [2]⟩,
  ⟨some 15, .iaddrA 3 1 (.t 3) (.c (.int .i64 2)), none, []⟩,
  ⟨some 16, .load false 1 (.t 15), none, [4]⟩,
  ⟨some 6, .mov (.t 12), none, [1, 0, 1]⟩,
  ⟨some 7, .mov (.t 14), none, [3, 6, 0, 1, 2, 3, 6]⟩,
  ⟨some 8, .mov (.t 16), none, [5, 7, 0, 1, 2, 3, 4, 5, 6, 7]⟩] true)
 (.seq (.seq (.region [⟨some 17, .call (.c (.fn 14 [])) [], none, []⟩,
  ⟨some 18, .un .not (.t 17), none, [0]⟩,
  ⟨some 19, .mov (.t 18), none, [1, 0]⟩,
  ⟨some 20, .mov (.t 0), some (19, false), [2]⟩,
  ⟨some 21, .call (.c (.fn 13 [])) [(.t 20)], some (19, false), [3, 2, 2]⟩,
  ⟨some 22, .un .not (.t 21), some (19, false), [4, 2]⟩,
  ⟨some 23, .pick (.t 19) (.c (.bool true)) (.t 22), none, [2, 5]⟩,
  ⟨some 24, .mov (.t 23), none, [6, 4]⟩,
  ⟨some 25, .mov (.t 0), some (24, false), [7]⟩,
  ⟨some 26, .call (.c (.fn 16 [])) [(.t 25)], some (24, false), [8, 7, 7]⟩,
  ⟨some 27, .un .not (.t 26), some (24, false), [9, 7]⟩,
  ⟨some 28, .pick (.t 24) (.c (.bool true)) (.t 27), none, [7, 10]⟩,
  ⟨some 29, .mov (.t 28), none, [11, 9]⟩,
  ⟨some 30, .mov (.t 6), some (29, false), [12]⟩,
  ⟨some 31, .bin .lss .none (.t 30) (.c (.int .i64 0)), some (29, false), [13, 12]⟩,
  ⟨some 32, .pick (.t 29) (.c (.bool true)) (.t 31), none, [12, 14]⟩,
  ⟨some 33, .mov (.t 32), none, [15, 12]⟩,
  ⟨some 34, .mov (.t 7), some (33, false), [16]⟩,
  ⟨some 35, .bin .lss .none (.t 34) (.c (.int .i64 0)), some (33, false), [17, 16]⟩,
  ⟨some 36, .pick (.t 33) (.c (.bool true)) (.t 35), none, [16, 18]⟩,
  ⟨some 37, .mov (.t 36), none, [19, 16]⟩,
  ⟨some 38, .mov (.t 8), some (37, false), [20]⟩,
  ⟨some 39, .bin .lss .none (.t 38) (.c (.int .i64 0)), some (37, false), [21, 20]⟩,
  ⟨some 40, .pick (.t 37) (.c (.bool true)) (.t 39), none, [20, 22]⟩,
  ⟨some 41, .mov (.t 40), none, [23, 20]⟩,
  ⟨some 42, .mov (.t 6), some (41, false), [24]⟩,
  ⟨some 43, .mov (.t 5), some (41, false), [24]⟩,
  ⟨some 44, .bin .geq .none (.t 42) (.t 43), some (41, false), [25, 26, 24]⟩,
  ⟨some 45, .pick (.t 41) (.c (.bool true)) (.t 44), none, [24, 27]⟩,
  ⟨some 46, .mov (.t 45), none, [28, 24]⟩,
  ⟨some 47, .mov (.t 7), some (46, false), [29]⟩,
  ⟨some 48, .mov (.t 5), some (46, false), [29]⟩,
  ⟨some 49, .bin .geq .none (.t 47) (.t 48), some (46, false), [30, 31, 29]⟩,
  ⟨some 50, .pick (.t 46) (.c (.bool true)) (.t 49), none, [29, 32]⟩,
  ⟨some 51, .mov (.t 50), none, [33, 29]⟩,
  ⟨some 52, .mov (.t 8), some (51, false), [34]⟩,
  ⟨some 53, .mov (.t 5), some (51, false), [34]⟩,
  ⟨some 54, .bin .geq .none (.t 52) (.t 53), some (51, false), [35, 36, 34]⟩,
  ⟨some 55, .pick (.t 51) (.c (.bool true)) (.t 54), none, [34, 37]⟩] false)
 (.cond (.t 55) (.seq (.region [⟨some 56, .call (.c (.fn 14 [])) [], none, []⟩,
  ⟨some 4, .mov (.t 56), none, [0, 0, 0]⟩] false)
 .ret) .skip))
 (.seq (.region [⟨some 57, .mov (.t 0), none, []⟩,
  ⟨some 58, .mov (.t 6), none, []⟩,
  ⟨some 59, .mov (.t 6), none, []⟩,
  ⟨some 60, .call (.c (.fn 17 [])) [(.t 57), (.t 58), (.t 59)], none, [0, 1, 2]⟩,
  ⟨some 61, .mov (.t 60), none, [3, 3]⟩,
  ⟨some 62, .mov (.t 0), some (61, true), [4]⟩,
  ⟨some 63, .mov (.t 6), some (61, true), [4]⟩,
  ⟨some 64, .mov (.t 7), some (61, true), [4]⟩,
  ⟨some 65, .call (.c (.fn 17 [])) [(.t 62), (.t 63), (.t 64)], some (61, true), [5, 6, 7, 4, 4]⟩,
  ⟨some 66, .un .not (.t 65), some (61, true), [8, 4]⟩,
  ⟨some 67, .mov (.t 66), some (61, true), [9, 8, 4]⟩,
  ⟨some 68, .mov (.t 0), some (67, false), [10]⟩,
  ⟨some 69, .mov (.t 7), some (67, false), [10]⟩,
  ⟨some 70, .mov (.t 8), some (67, false), [10]⟩,
  ⟨some 71, .call (.c (.fn 17 [])) [(.t 68), (.t 69), (.t 70)], some (67, false), [11, 12, 13, 10, 10]⟩,
  ⟨some 72, .un .not (.t 71), some (67, false), [14, 10]⟩,
  ⟨some 73, .pick (.t 67) (.c (.bool true)) (.t 72), some (61, true), [10, 15, 4]⟩,
  ⟨some 74, .mov (.t 73), some (61, true), [16, 14, 4]⟩,
  ⟨some 75, .mov (.t 0), some (74, false), [17]⟩,
  ⟨some 76, .mov (.t 6), some (74, false), [17]⟩,
  ⟨some 77, .mov (.t 8), some (74, false), [17]⟩,
  ⟨some 78, .call (.c (.fn 17 [])) [(.t 75), (.t 76), (.t 77)], some (74, false), [18, 19, 20, 17, 17]⟩,
  ⟨some 79, .pick (.t 74) (.c (.bool true)) (.t 78), some (61, true), [17, 21, 4]⟩,
  ⟨some 80, .pick (.t 61) (.t 79) (.c (.bool false)), none, [4, 22]⟩,
  ⟨some 81, .mov (.t 80), none, [23, 21]⟩,
  ⟨some 82, .mov (.t 0), some (81, true), [24]⟩,
  ⟨some 83, .mov (.t 6), some (81, true), [24]⟩,
  ⟨some 84, .mov (.t 7), some (81, true), [24]⟩,
  ⟨some 85, .call (.c (.fn 19 [])) [(.t 82), (.t 83), (.t 84)], some (81, true), [25, 26, 27, 24, 24]⟩,
  ⟨some 86, .mov (.t 0), some (81, true), [24]⟩,
  ⟨some 87, .mov (.t 7), some (81, true), [24]⟩,
  ⟨some 88, .mov (.t 6), some (81, true), [24]⟩,
  ⟨some 89, .call (.c (.fn 19 [])) [(.t 86), (.t 87), (.t 88)], some (81, true), [29, 30, 31, 28, 24]⟩,
  ⟨some 90, .bin .eql .bool (.t 85) (.t 89), some (81, true), [28, 32, 24]⟩,
  ⟨some 91, .pick (.t 81) (.t 90) (.c (.bool false)), none, [24, 33]⟩,
  ⟨some 4, .mov (.t 91), none, [34, 32, 0, 1, 2, 3, 4, 5, 6, 7, 8, 9, 10, 11, 12, 13, 14, 15, 16, 17, 18, 19, 20, 21, 22, 23, 24, 25, 26, 27, 28, 29, 30, 31, 32, 33, 34]⟩] false)
 .ret))))),
 [.tmp 4], 92⟩

/-- protean/proteanlaw24.TypesSound -/
def v5 : VFunc := ⟨(.seq (.region [⟨some 5, .bx (.t 2), none, []⟩,
  ⟨some 6, .mov (.c (.bool false)), none, []⟩] false)
 (.seq (.seq (.region [⟨some 7, .call (.c (.fn 14 [])) [], none, []⟩,
  ⟨some 8, .un .not (.t 7), none, [0]⟩,
  ⟨some 9, .mov (.t 8), none, [1, 0]⟩,
  ⟨some 10, .mov (.t 0), some (9, false), [2]⟩,
  ⟨some 11, .call (.c (.fn 13 [])) [(.t 10)], some (9, false), [3, 2, 2]⟩,
  ⟨some 12, .un .not (.t 11), some (9, false), [4, 2]⟩,
  ⟨some 13, .pick (.t 9) (.c (.bool true)) (.t 12), none, [2, 5]⟩,
  ⟨some 14, .mov (.t 13), none, [6, 4]⟩,
  ⟨some 15, .mov (.t 1), some (14, false), [7]⟩,
  ⟨some 16, .call (.c (.fn 21 [])) [(.t 15)], some (14, false), [8, 7, 7]⟩,
  ⟨some 17, .un .not (.t 16), some (14, false), [9, 7]⟩,
  ⟨some 18, .pick (.t 14) (.c (.bool true)) (.t 17), none, [7, 10]⟩,
  ⟨some 19, .mov (.t 18), none, [11, 9]⟩,
  ⟨some 20, .mov (.t 1), some (19, false), [12]⟩,
  ⟨some 21, .call (.c (.fn 22 [])) [(.t 20)], some (19, false), [13, 12, 12]⟩,
  ⟨some 22, .un .not (.t 21), some (19, false), [14, 12]⟩,
  ⟨some 23, .pick (.t 19) (.c (.bool true)) (.t 22), none, [12, 15]⟩] false)
 (.cond (.t 23) (.seq (.region [⟨some 24, .call (.c (.fn 14 [])) [], none, []⟩,
  ⟨some 6, .mov (.t 24), none, [0, 0, 0]⟩] false)
 .ret) .skip))
 (.seq (.region [⟨some 25, .mov (.t 0), none, []⟩,
  ⟨some 26, .mov (.t 1), none, []⟩,
  ⟨some 27, .faddr 0 (.t 5), none, []⟩,
  ⟨some 28, .load true 2 (.t 27), none, [2]⟩,
  ⟨some 29, .faddr 2 (.t 5), none, []⟩,
  ⟨some 30, .load false 1 (.t 29), none, [4]⟩,
  ⟨some 31, .call (.c (.fn 23 [])) [(.t 25), (.t 26), (.t 28), (.t 30)], none, [0, 1, 3, 5]⟩,
  ⟨some 32, .un .not (.t 31), none, [6]⟩,
  ⟨some 33, .mov (.t 32), none, [7, 6]⟩,
  ⟨some 34, .mov (.t 0), some (33, false), [8]⟩,
  ⟨some 35, .faddr 2 (.t 5), some (33, false), [8]⟩,
  ⟨some 36, .load false 1 (.t 35), some (33, false), [10, 8]⟩,
  ⟨some 37, .faddr 3 (.t 5), some (33, false), [8]⟩,
  ⟨some 38, .load false 1 (.t 37), some (33, false), [12, 8]⟩,
  ⟨some 39, .call (.c (.fn 17 [])) [(.t 34), (.t 36), (.t 38)], some (33, false), [9, 11, 13, 8, 8]⟩,
  ⟨some 40, .un .not (.t 39), some (33, false), [14, 8]⟩,
  ⟨some 41, .pick (.t 33) (.c (.bool true)) (.t 40), none, [8, 15]⟩,
  ⟨some 42, .mov (.t 41), none, [16, 14]⟩,
  ⟨some 43, .mov (.t 0), some (42, false), [17]⟩,
  ⟨some 44, .mov (.t 1), some (42, false), [17]⟩,
  ⟨some 45, .faddr 0 (.t 5), some (42, false), [17]⟩,
  ⟨some 46, .load true 2 (.t 45), some (42, false), [20, 17]⟩,
  ⟨some 47, .faddr 3 (.t 5), some (42, false), [17]⟩,
  ⟨some 48, .load false 1 (.t 47), some (42, false), [22, 17]⟩,
  ⟨some 49, .call (.c (.fn 23 [])) [(.t 43), (.t 44), (.t 46), (.t 48)], some (42, false), [18, 19, 21, 23, 17, 17]⟩,
  ⟨some 50, .pick (.t 42) (.c (.bool true)) (.t 49), none, [17, 24]⟩,
  ⟨some 6, .mov (.t 50), none, [25, 24, 0, 1, 2, 3, 4, 5, 6, 7, 8, 9, 10, 11, 12, 13, 14, 15, 16, 17, 18, 19, 20, 21, 22, 23, 24, 25]⟩] false)
 .ret))),
 [.tmp 6], 51⟩

/-- protean/proteanlaw24.TypesGrow -/
def v6 : VFunc := ⟨(.seq (.region [⟨some 6, .mov (.c (.bool false)), none, []⟩] false)
 (.seq (.region [⟨some 9, .mov (.t 0), none, []⟩,
  ⟨some 10, .len false (.t 9), none, [0]⟩,
  ⟨some 7, .mov (.t 10), none, [1, 0, 1]⟩] false)
 (.seq (.seq (.region [⟨some 11, .call (.c (.fn 14 [])) [], none, []⟩,
  ⟨some 12, .un .not (.t 11), none, [0]⟩,
  ⟨some 13, .mov (.t 12), none, [1, 0]⟩,
  ⟨some 14, .mov (.t 0), some (13, false), [2]⟩,
  ⟨some 15, .call (.c (.fn 13 [])) [(.t 14)], some (13, false), [3, 2, 2]⟩,
  ⟨some 16, .un .not (.t 15), some (13, false), [4, 2]⟩,
  ⟨some 17, .pick (.t 13) (.c (.bool true)) (.t 16), none, [2, 5]⟩,
  ⟨some 18, .mov (.t 17), none, [6, 4]⟩,
  ⟨some 19, .mov (.t 7), some (18, false), [7]⟩,
  ⟨some 20, .bin .gtr .none (.t 19) (.c (.int .i64 14)), some (18, false), [8, 7]⟩,
  ⟨some 21, .pick (.t 18) (.c (.bool true)) (.t 20), none, [7, 9]⟩,
  ⟨some 22, .mov (.t 21), none, [10, 7]⟩,
  ⟨some 23, .mov (.t 0), some (22, false), [11]⟩,
  ⟨some 24, .call (.c (.fn 16 [])) [(.t 23)], some (22, false), [12, 11, 11]⟩,
  ⟨some 25, .un .not (.t 24), some (22, false), [13, 11]⟩,
  ⟨some 26, .pick (.t 22) (.c (.bool true)) (.t 25), none, [11, 14]⟩,
  ⟨some 27, .mov (.t 26), none, [15, 13]⟩,
  ⟨some 28, .mov (.t 1), some (27, false), [16]⟩,
  ⟨some 29, .bin .lss .none (.t 28) (.c (.int .i64 0)), some (27, false), [17, 16]⟩,
  ⟨some 30, .pick (.t 27) (.c (.bool true)) (.t 29), none, [16, 18]⟩,
  ⟨some 31, .mov (.t 30), none, [19, 16]⟩,
  ⟨some 32, .mov (.t 2), some (31, false), [20]⟩,
  ⟨some 33, .bin .lss .none (.t 32) (.c (.int .i64 0)), some (31, false), [21, 20]⟩,
  ⟨some 34, .pick (.t 31) (.c (.bool true)) (.t 33), none, [20, 22]⟩,
  ⟨some 35, .mov (.t 34), none, [23, 20]⟩,
  ⟨some 36, .mov (.t 1), some (35, false), [24]⟩,
  ⟨some 37, .mov (.t 7), some (35, false), [24]⟩,
  ⟨some 38, .bin .geq .none (.t 36) (.t 37), some (35, false), [25, 26, 24]⟩,
  ⟨some 39, .pick (.t 35) (.c (.bool true)) (.t 38), none, [24, 27]⟩,
  ⟨some 40, .mov (.t 39), none, [28, 24]⟩,
  ⟨some 41, .mov (.t 2), some (40, false), [29]⟩,
  ⟨some 42, .mov (.t 7), some (40, false), [29]⟩,
  ⟨some 43, .bin .geq .none (.t 41) (.t 42), some (40, false), [30, 31, 29]⟩,
  ⟨some 44, .pick (.t 40) (.c (.bool true)) (.t 43), none, [29, 32]⟩] false)
 (.cond (.t 44) (.seq (.region [⟨some 45, .call (.c (.fn 14 [])) [], none, []⟩,
  ⟨some 6, .mov (.t 45), none, [0, 0, 0]⟩] false)
 .ret) .skip))
 (.seq (.region [⟨some 46, .bslice [(.int .i64 0), .nilsl, .nilsl] 0 [], none, []⟩,
  ⟨some 47, .mov (.t 0), none, []⟩,
  ⟨some 48, .append 3 56 (.t 46) (.t 47), none, [0, 1]⟩,
  ⟨some 49, .build [(.int .i64 0), .nilsl, .nilsl] [], none, []⟩,
  ⟨some 50, .build [(.int .i64 0), .nilsl, .nilsl] [(0, 1, (.c (.int .i64 1)))], none, []⟩,
  ⟨some 51, .bslice [(.int .i64 0), .nilsl, .nilsl] 2 [(0, (.t 49)), (1, (.t 50))], none, [3, 4]⟩,
  ⟨some 52, .append 3 56 (.t 48) (.t 51), none, [2, 5, 2]⟩,
  ⟨some 8, .mov (.t 52), none, [6, 6, 0, 1, 2, 3, 4, 5, 6]⟩] false)
 (.seq (.seq (.region [⟨some 53, .mov (.t 8), none, []⟩,
  ⟨some 54, .mov (.t 1), none, []⟩,
  ⟨some 55, .mov (.t 2), none, []⟩,
  ⟨some 56, .call (.c (.fn 17 [])) [(.t 53), (.t 54), (.t 55)], none, [0, 1, 2]⟩,
  ⟨some 57, .mov (.t 0), none, []⟩,
  ⟨some 58, .mov (.t 1), none, []⟩,
  ⟨some 59, .mov (.t 2), none, []⟩,
  ⟨some 60, .call (.c (.fn 17 [])) [(.t 57), (.t 58), (.t 59)], none, [4, 5, 6, 3]⟩,
  ⟨some 61, .bin .neq .bool (.t 56) (.t 60), none, [3, 7]⟩,
  ⟨some 62, .mov (.t 61), none, [8, 7]⟩,
  ⟨some 63, .mov (.t 8), some (62, false), [9]⟩,
  ⟨some 64, .mov (.t 1), some (62, false), [9]⟩,
  ⟨some 65, .mov (.t 7), some (62, false), [9]⟩,
  ⟨some 66, .call (.c (.fn 17 [])) [(.t 63), (.t 64), (.t 65)], some (62, false), [10, 11, 12, 9, 9]⟩,
  ⟨some 67, .un .not (.t 66), some (62, false), [13, 9]⟩,
  ⟨some 68, .pick (.t 62) (.c (.bool true)) (.t 67), none, [9, 14]⟩,
  ⟨some 69, .mov (.t 68), none, [15, 13]⟩,
  ⟨some 70, .mov (.t 8), some (69, false), [16]⟩,
  ⟨some 71, .mov (.t 7), some (69, false), [16]⟩,
  ⟨some 72, .mov (.t 7), some (69, false), [16]⟩,
  ⟨some 73, .bin .add .none (.t 72) (.c (.int .i64 1)), some (69, false), [19, 16]⟩,
  ⟨some 74, .call (.c (.fn 17 [])) [(.t 70), (.t 71), (.t 73)], some (69, false), [17, 18, 20, 16, 16]⟩,
  ⟨some 75, .pick (.t 69) (.c (.bool true)) (.t 74), none, [16, 21]⟩] false)
 (.cond (.t 75) (.seq (.region [⟨some 6, .mov (.c (.bool false)), none, []⟩] false)
 .ret) .skip))
 (.seq (.region [⟨some 76, .mov (.t 0), none, []⟩,
  ⟨some 77, .mov (.t 1), none, []⟩,
  ⟨some 78, .iaddr 3 (.t 76) (.t 77), none, [0, 1]⟩,
  ⟨some 79, .faddr 0 (.t 78), none, [2]⟩,
  ⟨some 80, .load false 1 (.t 79), none, [3]⟩,
  ⟨some 81, .bin .eql .none (.t 80) (.c (.int .i64 5)), none, [4]⟩,
  ⟨some 82, .mov (.t 81), none, [5]⟩,
  ⟨some 83, .mov (.t 8), some (82, false), [6]⟩,
  ⟨some 84, .mov (.t 1), some (82, false), [6]⟩,
  ⟨some 85, .mov (.t 7), some (82, false), [6]⟩,
  ⟨some 86, .bin .add .none (.t 85) (.c (.int .i64 1)), some (82, false), [9, 6]⟩,
  ⟨some 87, .call (.c (.fn 17 [])) [(.t 83), (.t 84), (.t 86)], some (82, false), [7, 8, 10, 6, 6]⟩,
  ⟨some 88, .mov (.t 0), some (82, false), [6]⟩,
  ⟨some 89, .mov (.t 1), some (82, false), [6]⟩,
  ⟨some 90, .iaddr 3 (.t 88) (.t 89), some (82, false), [12, 13, 6]⟩,
  ⟨some 91, .faddr 0 (.t 90), some (82, false), [14, 6]⟩,
  ⟨some 92, .load false 1 (.t 91), some (82, false), [15, 6]⟩,
  ⟨some 93, .bin .eql .none (.t 92) (.c (.int .i64 1)), some (82, false), [16, 6]⟩,
  ⟨some 94, .bin .eql .bool (.t 87) (.t 93), some (82, false), [11, 17, 6]⟩,
  ⟨some 95, .pick (.t 82) (.c (.bool true)) (.t 94), none, [6, 18]⟩,
  ⟨some 6, .mov (.t 95), none, [19, 11, 0, 1, 2, 3, 4, 5, 6, 7, 8, 9, 10, 11, 12, 13, 14, 15, 16, 17, 18, 19]⟩] true)
 .ret)))))),
 [.tmp 6], 96⟩

/-- protean/proteanref24.Small -/
def v13 : VFunc := ⟨(.seq (.region [⟨some 2, .mov (.c (.bool false)), none, []⟩] false)
 (.seq (.seq (.region [⟨some 3, .mov (.c (.int .i64 0)), none, []⟩] false)
 (.block 0 (.loop (some ([0, 3], [])) (.seq (.seq (.region [⟨some 4, .mov (.t 3), none, []⟩,
  ⟨some 5, .mov (.t 0), none, []⟩,
  ⟨some 6, .len false (.t 5), none, [1]⟩,
  ⟨some 7, .bin .lss .none (.t 4) (.t 6), none, [0, 2]⟩] false)
 (.cond (.t 7) .skip (.exit 0)))
 (.seq (.block 1 (.seq (.region [⟨some 10, .mov (.t 0), none, []⟩,
  ⟨some 11, .mov (.t 3), none, []⟩,
  ⟨some 12, .iaddr 3 (.t 10) (.t 11), none, [0, 1]⟩,
  ⟨some 13, .faddr 1 (.t 12), none, [2]⟩,
  ⟨some 14, .load false 1 (.t 13), none, [3]⟩,
  ⟨some 15, .len false (.t 14), none, [4]⟩,
  ⟨some 16, .bin .gtr .none (.t 15) (.c (.int .i64 10)), none, [5]⟩,
  ⟨some 17, .mov (.t 16), none, [6]⟩,
  ⟨some 18, .mov (.t 0), some (17, false), [7]⟩,
  ⟨some 19, .mov (.t 3), some (17, false), [7]⟩,
  ⟨some 20, .iaddr 3 (.t 18) (.t 19), some (17, false), [8, 9, 7]⟩,
  ⟨some 21, .faddr 2 (.t 20), some (17, false), [10, 7]⟩,
  ⟨some 22, .load false 1 (.t 21), some (17, false), [11, 7]⟩,
  ⟨some 23, .len false (.t 22), some (17, false), [12, 7]⟩,
  ⟨some 24, .bin .gtr .none (.t 23) (.c (.int .i64 10)), some (17, false), [13, 7]⟩,
  ⟨some 25, .pick (.t 17) (.c (.bool true)) (.t 24), none, [7, 14]⟩] false)
 (.cond (.t 25) (.seq (.region [⟨some 2, .mov (.c (.bool false)), none, []⟩] false)
 .ret) .skip)))
 (.region [⟨some 8, .mov (.t 3), none, []⟩,
  ⟨some 9, .bin .add .none (.t 8) (.c (.int .i64 1)), none, [0]⟩,
  ⟨some 3, .mov (.t 9), none, [1, 0, 1]⟩] false))))))
 (.seq (.region [⟨some 26, .mov (.t 0), none, []⟩,
  ⟨some 27, .len false (.t 26), none, [0]⟩,
  ⟨some 28, .bin .leq .none (.t 27) (.c (.int .i64 16)), none, [1]⟩,
  ⟨some 2, .mov (.t 28), none, [2, 0, 1, 2]⟩] false)
 .ret))),
 [.tmp 2], 29⟩

/-- protean/proteanlaw24.fixed -/
def v14 : VFunc := ⟨(.seq (.region [⟨some 0, .mov (.c (.bool false)), none, []⟩] false)
 (.seq (.region [⟨some 3, .build [(.int .i64 0), (.int .i64 0)] [(0, 1, (.c (.int .i64 4)))], none, []⟩,
  ⟨some 1, .alloc [(.int .i64 0), (.int .i64 0)], none, []⟩,
  ⟨none, .store 2 (.t 1) (.t 3), none, [1, 0, 0, 1]⟩] false)
 (.seq (.region [⟨some 4, .load true 2 (.t 1), none, []⟩,
  ⟨some 5, .build [(.str ⟨⟨[]⟩⟩), (.int .i64 0), (.int .i64 0)] [(0, 1, (.c (.str ⟨⟨[110]⟩⟩))), (1, 2, (.t 4))], none, [0]⟩,
  ⟨some 6, .bslice [(.str ⟨⟨[]⟩⟩), (.int .i64 0), (.int .i64 0)] 1 [(0, (.t 5))], none, [1]⟩,
  ⟨some 7, .build [.nilsl, (.int .i64 0), (.int .i64 0)] [(0, 1, (.t 6))], none, [2]⟩,
  ⟨some 8, .bslice [.nilsl, (.int .i64 0), (.int .i64 0)] 1 [(0, (.t 7))], none, [3]⟩,
  ⟨some 2, .mov (.t 8), none, [4, 0, 1, 2, 3, 4]⟩] false)
 (.seq (.region [⟨some 9, .call (.c (.fn 54 [])) [], none, []⟩,
  ⟨some 10, .call (.c (.fn 17 [])) [(.t 9), (.c (.int .i64 1)), (.c (.int .i64 2))], none, [0, 0]⟩,
  ⟨some 11, .mov (.t 10), none, [1, 1]⟩,
  ⟨some 12, .call (.c (.fn 54 [])) [], some (11, true), [2, 2]⟩,
  ⟨some 13, .call (.c (.fn 17 [])) [(.t 12), (.c (.int .i64 2)), (.c (.int .i64 1))], some (11, true), [3, 3, 2]⟩,
  ⟨some 14, .un .not (.t 13), some (11, true), [4, 2]⟩,
  ⟨some 15, .pick (.t 11) (.t 14) (.c (.bool false)), none, [2, 5]⟩,
  ⟨some 16, .mov (.t 15), none, [6, 4]⟩,
  ⟨some 17, .call (.c (.fn 54 [])) [], some (16, true), [7, 7]⟩,
  ⟨some 18, .call (.c (.fn 15 [])) [(.t 17)], some (16, true), [8, 8, 7]⟩,
  ⟨some 19, .pick (.t 16) (.t 18) (.c (.bool false)), none, [7, 9]⟩,
  ⟨some 20, .mov (.t 19), none, [10, 9]⟩,
  ⟨some 21, .bslice [(.int .i64 0)] 1 [(0, (.c (.int .i64 0)))], some (20, true), [11]⟩,
  ⟨some 22, .build [(.int .i64 0), .nilsl, .nilsl] [(0, 1, (.c (.int .i64 5))), (2, 1, (.t 21))], some (20, true), [12, 11]⟩,
  ⟨some 23, .bslice [(.int .i64 0), .nilsl, .nilsl] 1 [(0, (.t 22))], some (20, true), [13, 11]⟩,
  ⟨some 24, .call (.c (.fn 15 [])) [(.t 23)], some (20, true), [14, 11, 11]⟩,
  ⟨some 25, .un .not (.t 24), some (20, true), [15, 11]⟩,
  ⟨some 26, .pick (.t 20) (.t 25) (.c (.bool false)), none, [11, 16]⟩,
  ⟨some 27, .mov (.t 26), none, [17, 15]⟩,
  ⟨some 28, .call (.c (.fn 54 [])) [], some (27, true), [18, 18]⟩,
  ⟨some 29, .mov (.t 2), some (27, true), [18]⟩,
  ⟨some 30, .load true 2 (.t 1), some (27, true), [18]⟩,
  ⟨some 31, .call (.c (.fn 23 [])) [(.t 28), (.t 29), (.t 30), (.c (.int .i64 2))], some (27, true), [19, 20, 21, 19, 18]⟩,
  ⟨some 32, .pick (.t 27) (.t 31) (.c (.bool false)), none, [18, 22]⟩,
  ⟨some 33, .mov (.t 32), none, [23, 22]⟩,
  ⟨some 34, .call (.c (.fn 54 [])) [], some (33, true), [24, 24]⟩,
  ⟨some 35, .mov (.t 2), some (33, true), [24]⟩,
  ⟨some 36, .load true 2 (.t 1), some (33, true), [24]⟩,
  ⟨some 37, .call (.c (.fn 23 [])) [(.t 34), (.t 35), (.t 36), (.c (.int .i64 1))], some (33, true), [25, 26, 27, 25, 24]⟩,
  ⟨some 38, .un .not (.t 37), some (33, true), [28, 24]⟩,
  ⟨some 39, .pick (.t 33) (.t 38) (.c (.bool false)), none, [24, 29]⟩,
  ⟨some 40, .mov (.t 39), none, [30, 28]⟩,
  ⟨some 41, .call (.c (.fn 54 [])) [], some (40, true), [31, 31]⟩,
  ⟨some 42, .call (.c (.fn 19 [])) [(.t 41), (.c (.int .i64 2)), (.c (.int .i64 2))], some (40, true), [32, 32, 31]⟩,
  ⟨some 43, .pick (.t 40) (.t 42) (.c (.bool false)), none, [31, 33]⟩,
  ⟨some 44, .mov (.t 43), none, [34, 33]⟩,
  ⟨some 45, .call (.c (.fn 54 [])) [], some (44, true), [35, 35]⟩,
  ⟨some 46, .call (.c (.fn 19 [])) [(.t 45), (.c (.int .i64 1)), (.c (.int .i64 2))], some (44, true), [36, 36, 35]⟩,
  ⟨some 47, .un .not (.t 46), some (44, true), [37, 35]⟩,
  ⟨some 48, .pick (.t 44) (.t 47) (.c (.bool false)), none, [35, 38]⟩,
  ⟨some 0, .mov (.t 48), none, [39, 37, 0, 1, 2, 3, 4, 5, 6, 7, 8, 9, 10, 11, 12, 13, 14, 15, 16, 17, 18, 19, 20, 21, 22, 23, 24, 25, 26, 27, 28, 29, 30, 31, 32, 33, 34, 35, 36, 37, 38, 39]⟩] true)
 .ret)))),
 [.tmp 0], 49⟩

/-- protean/types.May -/
def v15 : VFunc := ⟨(.seq (.region [⟨some 2, .mov (.c (.bool false)), none, []⟩] false)
 (.seq (.seq (.region [⟨some 7, .mov (.t 0), none, []⟩,
  ⟨some 8, .len false (.t 7), none, [0]⟩,
  ⟨some 9, .mov (.c (.int .i64 0)), none, []⟩] false)
 (.block 0 (.loop (some ([0, 7, 8, 9], [])) (.seq (.region [⟨some 10, .bin .lss .none (.t 9) (.t 8), none, []⟩] false)
 (.seq (.cond (.t 10) .skip (.exit 0))
 (.seq (.block 1 (.seq (.region [⟨some 11, .mov (.t 9), none, []⟩,
  ⟨some 12, .iaddr 3 (.t 7) (.t 9), none, []⟩,
  ⟨some 13, .load true 3 (.t 12), none, [1]⟩,
  ⟨some 3, .alloc [(.int .i64 0)], none, []⟩,
  ⟨some 4, .alloc [(.int .i64 0), .nilsl, .nilsl], none, []⟩,
  ⟨none, .store 1 (.t 3) (.t 11), none, [3, 0, 0, 1, 2, 3, 4]⟩,
  ⟨none, .store 3 (.t 4) (.t 13), none, [4, 2, 5, 0, 1, 2, 3, 4, 5]⟩] false)
 (.seq (.seq (.region [⟨some 14, .faddr 0 (.t 4), none, []⟩,
  ⟨some 15, .load false 1 (.t 14), none, [0]⟩,
  ⟨some 16, .bin .lss .none (.t 15) (.c (.int .i64 0)), none, [1]⟩,
  ⟨some 17, .mov (.t 16), none, [2]⟩,
  ⟨some 18, .faddr 0 (.t 4), some (17, false), [3]⟩,
  ⟨some 19, .load false 1 (.t 18), some (17, false), [4, 3]⟩,
  ⟨some 20, .bin .geq .none (.t 19) (.c (.int .i64 6)), some (17, false), [5, 3]⟩,
  ⟨some 21, .pick (.t 17) (.c (.bool true)) (.t 20), none, [3, 6]⟩,
  ⟨some 22, .mov (.t 21), none, [7, 3]⟩,
  ⟨some 23, .faddr 0 (.t 4), some (22, false), [8]⟩,
  ⟨some 24, .load false 1 (.t 23), some (22, false), [9, 8]⟩,
  ⟨some 25, .bin .neq .none (.t 24) (.c (.int .i64 4)), some (22, false), [10, 8]⟩,
  ⟨some 26, .mov (.t 25), some (22, false), [11, 8, 8]⟩,
  ⟨some 27, .faddr 1 (.t 4), some (26, true), [12]⟩,
  ⟨some 28, .load false 1 (.t 27), some (26, true), [13, 12]⟩,
  ⟨some 29, .len false (.t 28), some (26, true), [14, 12]⟩,
  ⟨some 30, .bin .gtr .none (.t 29) (.c (.int .i64 0)), some (26, true), [15, 12]⟩,
  ⟨some 31, .pick (.t 26) (.t 30) (.c (.bool false)), some (22, false), [12, 16, 8]⟩,
  ⟨some 32, .pick (.t 22) (.c (.bool true)) (.t 31), none, [8, 17]⟩,
  ⟨some 33, .mov (.t 32), none, [18, 12]⟩,
  ⟨some 34, .faddr 0 (.t 4), some (33, false), [19]⟩,
  ⟨some 35, .load false 1 (.t 34), some (33, false), [20, 19]⟩,
  ⟨some 36, .bin .neq .none (.t 35) (.c (.int .i64 5)), some (33, false), [21, 19]⟩,
  ⟨some 37, .mov (.t 36), some (33, false), [22, 19, 19]⟩,
  ⟨some 38, .faddr 2 (.t 4), some (37, true), [23]⟩,
  ⟨some 39, .load false 1 (.t 38), some (37, true), [24, 23]⟩,
  ⟨some 40, .len false (.t 39), some (37, true), [25, 23]⟩,
  ⟨some 41, .bin .gtr .none (.t 40) (.c (.int .i64 0)), some (37, true), [26, 23]⟩,
  ⟨some 42, .pick (.t 37) (.t 41) (.c (.bool false)), some (33, false), [23, 27, 19]⟩,
  ⟨some 43, .pick (.t 33) (.c (.bool true)) (.t 42), none, [19, 28]⟩] false)
 (.cond (.t 43) (.seq (.region [⟨some 2, .mov (.c (.bool false)), none, []⟩] false)
 .ret) .skip))
 (.seq (.seq (.region [⟨some 44, .faddr 1 (.t 4), none, []⟩,
  ⟨some 45, .load false 1 (.t 44), none, [0]⟩,
  ⟨some 46, .len false (.t 45), none, [1]⟩,
  ⟨some 47, .mov (.c (.int .i64 0)), none, []⟩] false)
 (.block 2 (.loop (some ([0, 3, 4, 7, 8, 9, 45, 46, 47], [3, 4])) (.seq (.region [⟨some 48, .bin .lss .none (.t 47) (.t 46), none, []⟩] false)
 (.seq (.cond (.t 48) .skip (.exit 2))
 (.seq (.block 3 (.seq (.region [⟨some 49, .mov (.t 47), none, []⟩,
  ⟨some 50, .iaddr 2 (.t 45) (.t 47), none, []⟩,
  ⟨some 51, .load true 2 (.t 50), none, [1]⟩,
  ⟨some 6, .alloc [(.str ⟨⟨[]⟩⟩), (.int .i64 0)], none, []⟩,
  ⟨some 5, .mov (.t 49), none, [0, 0, 1, 2, 3]⟩,
  ⟨none, .store 2 (.t 6) (.t 51), none, [3, 2, 4, 0, 1, 2, 3, 4]⟩] false)
 (.seq (.region [⟨some 52, .faddr 1 (.t 6), none, []⟩,
  ⟨some 53, .load false 1 (.t 52), none, [0]⟩,
  ⟨some 54, .bin .lss .none (.t 53) (.c (.int .i64 0)), none, [1]⟩,
  ⟨some 55, .mov (.t 54), none, [2]⟩,
  ⟨some 56, .faddr 1 (.t 6), some (55, false), [3]⟩,
  ⟨some 57, .load false 1 (.t 56), some (55, false), [4, 3]⟩,
  ⟨some 58, .mov (.t 0), some (55, false), [3]⟩,
  ⟨some 59, .len false (.t 58), some (55, false), [6, 3]⟩,
  ⟨some 60, .bin .geq .none (.t 57) (.t 59), some (55, false), [5, 7, 3]⟩,
  ⟨some 61, .pick (.t 55) (.c (.bool true)) (.t 60), none, [3, 8]⟩,
  ⟨some 62, .mov (.t 61), none, [9, 3]⟩,
  ⟨some 63, .mov (.t 5), some (62, false), [10]⟩,
  ⟨some 64, .bin .gtr .none (.t 63) (.c (.int .i64 0)), some (62, false), [11, 10]⟩,
  ⟨some 65, .mov (.t 64), some (62, false), [12, 10, 10]⟩,
  ⟨some 66, .faddr 1 (.t 4), some (65, true), [13]⟩,
  ⟨some 67, .load false 1 (.t 66), some (65, true), [14, 13]⟩,
  ⟨some 68, .mov (.t 5), some (65, true), [13]⟩,
  ⟨some 69, .bin .sub .none (.t 68) (.c (.int .i64 1)), some (65, true), [16, 13]⟩,
  ⟨some 70, .iaddr 2 (.t 67) (.t 69), some (65, true), [15, 17, 13]⟩,
  ⟨some 71, .faddr 0 (.t 70), some (65, true), [18, 13]⟩,
  ⟨some 72, .load false 1 (.t 71), some (65, true), [19, 13]⟩,
  ⟨some 73, .faddr 0 (.t 6), some (65, true), [13]⟩,
  ⟨some 74, .load false 1 (.t 73), some (65, true), [21, 13]⟩,
  ⟨some 75, .bin .geq .none (.t 72) (.t 74), some (65, true), [20, 22, 13]⟩,
  ⟨some 76, .pick (.t 65) (.t 75) (.c (.bool false)), some (62, false), [13, 23, 10]⟩,
  ⟨some 77, .pick (.t 62) (.c (.bool true)) (.t 76), none, [10, 24]⟩] true)
 (.cond (.t 77) (.seq (.region [⟨some 2, .mov (.c (.bool false)), none, []⟩] false)
 .ret) .skip))))
 (.region [⟨some 78, .bin .add .none (.t 47) (.c (.int .i64 1)), none, []⟩,
  ⟨some 47, .mov (.t 78), none, [0]⟩] false)))))))
 (.seq (.region [⟨some 79, .faddr 2 (.t 4), none, []⟩,
  ⟨some 80, .load false 1 (.t 79), none, [0]⟩,
  ⟨some 81, .mkfn 56 [(.t 3)], none, []⟩,
  ⟨some 82, .call (.c (.fn 55 [])) [(.t 80), (.t 81)], none, [1, 2]⟩] false)
 (.cond (.t 82) (.seq (.region [⟨some 2, .mov (.c (.bool false)), none, []⟩] false)
 .ret) .skip))))))
 (.region [⟨some 83, .bin .add .none (.t 9) (.c (.int .i64 1)), none, []⟩,
  ⟨some 9, .mov (.t 83), none, [0]⟩] false)))))))
 (.seq (.region [⟨some 84, .mov (.t 0), none, []⟩,
  ⟨some 85, .len false (.t 84), none, [0]⟩,
  ⟨some 86, .bin .leq .none (.t 85) (.c (.int .i64 200)), none, [1]⟩,
  ⟨some 2, .mov (.t 86), none, [2, 0, 1, 2]⟩] false)
 .ret))),
 [.tmp 2], 87⟩

/-- protean/proteanref24.May -/
def v16 : VFunc := ⟨(.seq (.region [⟨some 2, .mov (.c (.bool false)), none, []⟩] false)
 (.seq (.seq (.region [⟨some 3, .mov (.c (.int .i64 0)), none, []⟩] false)
 (.block 0 (.loop (some ([0, 3], [])) (.seq (.seq (.region [⟨some 7, .mov (.t 3), none, []⟩,
  ⟨some 8, .mov (.t 0), none, []⟩,
  ⟨some 9, .len false (.t 8), none, [1]⟩,
  ⟨some 10, .bin .lss .none (.t 7) (.t 9), none, [0, 2]⟩] false)
 (.cond (.t 10) .skip (.exit 0)))
 (.seq (.block 1 (.seq (.region [⟨some 13, .mov (.t 0), none, []⟩,
  ⟨some 14, .mov (.t 3), none, []⟩,
  ⟨some 15, .iaddr 3 (.t 13) (.t 14), none, [0, 1]⟩,
  ⟨some 16, .load true 3 (.t 15), none, [2]⟩,
  ⟨some 4, .alloc [(.int .i64 0), .nilsl, .nilsl], none, []⟩,
  ⟨none, .store 3 (.t 4) (.t 16), none, [4, 3, 0, 1, 2, 3, 4]⟩] false)
 (.seq (.seq (.region [⟨some 17, .faddr 0 (.t 4), none, []⟩,
  ⟨some 18, .load false 1 (.t 17), none, [0]⟩,
  ⟨some 19, .bin .lss .none (.t 18) (.c (.int .i64 0)), none, [1]⟩,
  ⟨some 20, .mov (.t 19), none, [2]⟩,
  ⟨some 21, .faddr 0 (.t 4), some (20, false), [3]⟩,
  ⟨some 22, .load false 1 (.t 21), some (20, false), [4, 3]⟩,
  ⟨some 23, .bin .gtr .none (.t 22) (.c (.int .i64 5)), some (20, false), [5, 3]⟩,
  ⟨some 24, .pick (.t 20) (.c (.bool true)) (.t 23), none, [3, 6]⟩,
  ⟨some 25, .mov (.t 24), none, [7, 3]⟩,
  ⟨some 26, .faddr 0 (.t 4), some (25, false), [8]⟩,
  ⟨some 27, .load false 1 (.t 26), some (25, false), [9, 8]⟩,
  ⟨some 28, .bin .neq .none (.t 27) (.c (.int .i64 4)), some (25, false), [10, 8]⟩,
  ⟨some 29, .mov (.t 28), some (25, false), [11, 8, 8]⟩,
  ⟨some 30, .faddr 1 (.t 4), some (29, true), [12]⟩,
  ⟨some 31, .load false 1 (.t 30), some (29, true), [13, 12]⟩,
  ⟨some 32, .len false (.t 31), some (29, true), [14, 12]⟩,
  ⟨some 33, .bin .gtr .none (.t 32) (.c (.int .i64 0)), some (29, true), [15, 12]⟩,
  ⟨some 34, .pick (.t 29) (.t 33) (.c (.bool false)), some (25, false), [12, 16, 8]⟩,
  ⟨some 35, .pick (.t 25) (.c (.bool true)) (.t 34), none, [8, 17]⟩,
  ⟨some 36, .mov (.t 35), none, [18, 12]⟩,
  ⟨some 37, .faddr 0 (.t 4), some (36, false), [19]⟩,
  ⟨some 38, .load false 1 (.t 37), some (36, false), [20, 19]⟩,
  ⟨some 39, .bin .neq .none (.t 38) (.c (.int .i64 5)), some (36, false), [21, 19]⟩,
  ⟨some 40, .mov (.t 39), some (36, false), [22, 19, 19]⟩,
  ⟨some 41, .faddr 2 (.t 4), some (40, true), [23]⟩,
  ⟨some 42, .load false 1 (.t 41), some (40, true), [24, 23]⟩,
  ⟨some 43, .len false (.t 42), some (40, true), [25, 23]⟩,
  ⟨some 44, .bin .gtr .none (.t 43) (.c (.int .i64 0)), some (40, true), [26, 23]⟩,
  ⟨some 45, .pick (.t 40) (.t 44) (.c (.bool false)), some (36, false), [23, 27, 19]⟩,
  ⟨some 46, .pick (.t 36) (.c (.bool true)) (.t 45), none, [19, 28]⟩] false)
 (.cond (.t 46) (.seq (.region [⟨some 2, .mov (.c (.bool false)), none, []⟩] false)
 .ret) .skip))
 (.seq (.seq (.region [⟨some 5, .mov (.c (.int .i64 0)), none, []⟩] false)
 (.block 2 (.loop (some ([0, 3, 4, 5], [4])) (.seq (.seq (.region [⟨some 47, .mov (.t 5), none, []⟩,
  ⟨some 48, .faddr 1 (.t 4), none, []⟩,
  ⟨some 49, .load false 1 (.t 48), none, [1]⟩,
  ⟨some 50, .len false (.t 49), none, [2]⟩,
  ⟨some 51, .bin .lss .none (.t 47) (.t 50), none, [0, 3]⟩] false)
 (.cond (.t 51) .skip (.exit 2)))
 (.seq (.block 3 (.seq (.region [⟨some 54, .faddr 1 (.t 4), none, []⟩,
  ⟨some 55, .load false 1 (.t 54), none, [0]⟩,
  ⟨some 56, .mov (.t 5), none, []⟩,
  ⟨some 57, .iaddr 2 (.t 55) (.t 56), none, [1, 2]⟩,
  ⟨some 58, .faddr 1 (.t 57), none, [3]⟩,
  ⟨some 59, .load false 1 (.t 58), none, [4]⟩,
  ⟨some 60, .bin .lss .none (.t 59) (.c (.int .i64 0)), none, [5]⟩,
  ⟨some 61, .mov (.t 60), none, [6]⟩,
  ⟨some 62, .faddr 1 (.t 4), some (61, false), [7]⟩,
  ⟨some 63, .load false 1 (.t 62), some (61, false), [8, 7]⟩,
  ⟨some 64, .mov (.t 5), some (61, false), [7]⟩,
  ⟨some 65, .iaddr 2 (.t 63) (.t 64), some (61, false), [9, 10, 7]⟩,
  ⟨some 66, .faddr 1 (.t 65), some (61, false), [11, 7]⟩,
  ⟨some 67, .load false 1 (.t 66), some (61, false), [12, 7]⟩,
  ⟨some 68, .mov (.t 0), some (61, false), [7]⟩,
  ⟨some 69, .len false (.t 68), some (61, false), [14, 7]⟩,
  ⟨some 70, .bin .geq .none (.t 67) (.t 69), some (61, false), [13, 15, 7]⟩,
  ⟨some 71, .pick (.t 61) (.c (.bool true)) (.t 70), none, [7, 16]⟩,
  ⟨some 72, .mov (.t 71), none, [17, 7]⟩,
  ⟨some 73, .mov (.t 5), some (72, false), [18]⟩,
  ⟨some 74, .bin .gtr .none (.t 73) (.c (.int .i64 0)), some (72, false), [19, 18]⟩,
  ⟨some 75, .mov (.t 74), some (72, false), [20, 18, 18]⟩,
  ⟨some 76, .faddr 1 (.t 4), some (75, true), [21]⟩,
  ⟨some 77, .load false 1 (.t 76), some (75, true), [22, 21]⟩,
  ⟨some 78, .mov (.t 5), some (75, true), [21]⟩,
  ⟨some 79, .bin .sub .none (.t 78) (.c (.int .i64 1)), some (75, true), [24, 21]⟩,
  ⟨some 80, .iaddr 2 (.t 77) (.t 79), some (75, true), [23, 25, 21]⟩,
  ⟨some 81, .faddr 0 (.t 80), some (75, true), [26, 21]⟩,
  ⟨some 82, .load false 1 (.t 81), some (75, true), [27, 21]⟩,
  ⟨some 83, .faddr 1 (.t 4), some (75, true), [21]⟩,
  ⟨some 84, .load false 1 (.t 83), some (75, true), [29, 21]⟩,
  ⟨some 85, .mov (.t 5), some (75, true), [21]⟩,
  ⟨some 86, .iaddr 2 (.t 84) (.t 85), some (75, true), [30, 31, 21]⟩,
  ⟨some 87, .faddr 0 (.t 86), some (75, true), [32, 21]⟩,
  ⟨some 88, .load false 1 (.t 87), some (75, true), [33, 21]⟩,
  ⟨some 89, .bin .geq .none (.t 82) (.t 88), some (75, true), [28, 34, 21]⟩,
  ⟨some 90, .pick (.t 75) (.t 89) (.c (.bool false)), some (72, false), [21, 35, 18]⟩,
  ⟨some 91, .pick (.t 72) (.c (.bool true)) (.t 90), none, [18, 36]⟩] true)
 (.cond (.t 91) (.seq (.region [⟨some 2, .mov (.c (.bool false)), none, []⟩] false)
 .ret) .skip)))
 (.region [⟨some 52, .mov (.t 5), none, []⟩,
  ⟨some 53, .bin .add .none (.t 52) (.c (.int .i64 1)), none, [0]⟩,
  ⟨some 5, .mov (.t 53), none, [1, 0, 1]⟩] false))))))
 (.seq (.region [⟨some 6, .mov (.c (.int .i64 0)), none, []⟩] false)
 (.block 4 (.loop (some ([0, 3, 4, 6], [4])) (.seq (.seq (.region [⟨some 92, .mov (.t 6), none, []⟩,
  ⟨some 93, .faddr 2 (.t 4), none, []⟩,
  ⟨some 94, .load false 1 (.t 93), none, [1]⟩,
  ⟨some 95, .len false (.t 94), none, [2]⟩,
  ⟨some 96, .bin .lss .none (.t 92) (.t 95), none, [0, 3]⟩] false)
 (.cond (.t 96) .skip (.exit 4)))
 (.seq (.block 5 (.seq (.region [⟨some 99, .faddr 2 (.t 4), none, []⟩,
  ⟨some 100, .load false 1 (.t 99), none, [0]⟩,
  ⟨some 101, .mov (.t 6), none, []⟩,
  ⟨some 102, .iaddr 1 (.t 100) (.t 101), none, [1, 2]⟩,
  ⟨some 103, .load false 1 (.t 102), none, [3]⟩,
  ⟨some 104, .bin .lss .none (.t 103) (.c (.int .i64 0)), none, [4]⟩,
  ⟨some 105, .mov (.t 104), none, [5]⟩,
  ⟨some 106, .faddr 2 (.t 4), some (105, false), [6]⟩,
  ⟨some 107, .load false 1 (.t 106), some (105, false), [7, 6]⟩,
  ⟨some 108, .mov (.t 6), some (105, false), [6]⟩,
  ⟨some 109, .iaddr 1 (.t 107) (.t 108), some (105, false), [8, 9, 6]⟩,
  ⟨some 110, .load false 1 (.t 109), some (105, false), [10, 6]⟩,
  ⟨some 111, .mov (.t 3), some (105, false), [6]⟩,
  ⟨some 112, .bin .geq .none (.t 110) (.t 111), some (105, false), [11, 12, 6]⟩,
  ⟨some 113, .pick (.t 105) (.c (.bool true)) (.t 112), none, [6, 13]⟩] false)
 (.cond (.t 113) (.seq (.region [⟨some 2, .mov (.c (.bool false)), none, []⟩] false)
 .ret) .skip)))
 (.region [⟨some 97, .mov (.t 6), none, []⟩,
  ⟨some 98, .bin .add .none (.t 97) (.c (.int .i64 1)), none, [0]⟩,
  ⟨some 6, .mov (.t 98), none, [1, 0, 1]⟩] false))))))))))
 (.region [⟨some 11, .mov (.t 3), none, []⟩,
  ⟨some 12, .bin .add .none (.t 11) (.c (.int .i64 1)), none, [0]⟩,
  ⟨some 3, .mov (.t 12), none, [1, 0, 1]⟩] false))))))
 (.seq (.region [⟨some 114, .mov (.t 0), none, []⟩,
  ⟨some 115, .len false (.t 114), none, [0]⟩,
  ⟨some 116, .bin .leq .none (.t 115) (.c (.int .i64 200)), none, [1]⟩,
  ⟨some 2, .mov (.t 116), none, [2, 0, 1, 2]⟩] false)
 .ret))),
 [.tmp 2], 117⟩

/-- protean/types.Sub -/
def v17 : VFunc := ⟨(.seq (.region [⟨some 3, .bx (.t 0), none, []⟩,
  ⟨some 6, .mov (.c (.bool false)), none, []⟩] false)
 (.seq (.seq (.region [⟨some 7, .load false 1 (.t 3), none, []⟩,
  ⟨some 8, .call (.c (.fn 15 [])) [(.t 7)], none, [0]⟩,
  ⟨some 9, .un .not (.t 8), none, [1]⟩,
  ⟨some 10, .mov (.t 9), none, [2, 1]⟩,
  ⟨some 11, .load false 1 (.t 3), some (10, false), [3]⟩,
  ⟨some 12, .mov (.t 1), some (10, false), [3]⟩,
  ⟨some 13, .call (.c (.fn 57 [])) [(.t 11), (.t 12)], some (10, false), [4, 5, 3, 3]⟩,
  ⟨some 14, .un .not (.t 13), some (10, false), [6, 3]⟩,
  ⟨some 15, .pick (.t 10) (.c (.bool true)) (.t 14), none, [3, 7]⟩,
  ⟨some 16, .mov (.t 15), none, [8, 6]⟩,
  ⟨some 17, .load false 1 (.t 3), some (16, false), [9]⟩,
  ⟨some 18, .mov (.t 2), some (16, false), [9]⟩,
  ⟨some 19, .call (.c (.fn 57 [])) [(.t 17), (.t 18)], some (16, false), [10, 11, 9, 9]⟩,
  ⟨some 20, .un .not (.t 19), some (16, false), [12, 9]⟩,
  ⟨some 21, .pick (.t 16) (.c (.bool true)) (.t 20), none, [9, 13]⟩] false)
 (.cond (.t 21) (.seq (.region [⟨some 6, .mov (.c (.bool false)), none, []⟩] false)
 .ret) .skip))
 (.seq (.region [⟨some 22, .mov (.t 1), none, []⟩,
  ⟨some 23, .mov (.t 2), none, []⟩,
  ⟨some 24, .build [(.int .i64 0), (.int .i64 0)] [(0, 1, (.t 22)), (1, 1, (.t 23))], none, [0, 1]⟩,
  ⟨some 25, .mkfn 59 [(.t 3)], none, []⟩,
  ⟨some 26, .call (.c (.fn 58 [])) [(.t 24), (.t 25)], none, [2, 3]⟩,
  ⟨some 6, .mov (.t 26), none, [4, 4, 0, 1, 2, 3, 4]⟩] false)
 .ret))),
 [.tmp 6], 27⟩

/-- protean/proteanref24.Sub -/
def v18 : VFunc := ⟨(.seq (.region [⟨some 6, .mov (.c (.bool false)), none, []⟩] false)
 (.seq (.region [⟨some 13, .mov (.t 0), none, []⟩,
  ⟨some 14, .len false (.t 13), none, [0]⟩,
  ⟨some 7, .mov (.t 14), none, [1, 0, 1]⟩] false)
 (.seq (.seq (.region [⟨some 15, .mov (.t 0), none, []⟩,
  ⟨some 16, .call (.c (.fn 16 [])) [(.t 15)], none, [0]⟩,
  ⟨some 17, .un .not (.t 16), none, [1]⟩,
  ⟨some 18, .mov (.t 17), none, [2, 1]⟩,
  ⟨some 19, .mov (.t 1), some (18, false), [3]⟩,
  ⟨some 20, .bin .lss .none (.t 19) (.c (.int .i64 0)), some (18, false), [4, 3]⟩,
  ⟨some 21, .pick (.t 18) (.c (.bool true)) (.t 20), none, [3, 5]⟩,
  ⟨some 22, .mov (.t 21), none, [6, 3]⟩,
  ⟨some 23, .mov (.t 2), some (22, false), [7]⟩,
  ⟨some 24, .bin .lss .none (.t 23) (.c (.int .i64 0)), some (22, false), [8, 7]⟩,
  ⟨some 25, .pick (.t 22) (.c (.bool true)) (.t 24), none, [7, 9]⟩,
  ⟨some 26, .mov (.t 25), none, [10, 7]⟩,
  ⟨some 27, .mov (.t 1), some (26, false), [11]⟩,
  ⟨some 28, .mov (.t 7), some (26, false), [11]⟩,
  ⟨some 29, .bin .geq .none (.t 27) (.t 28), some (26, false), [12, 13, 11]⟩,
  ⟨some 30, .pick (.t 26) (.c (.bool true)) (.t 29), none, [11, 14]⟩,
  ⟨some 31, .mov (.t 30), none, [15, 11]⟩,
  ⟨some 32, .mov (.t 2), some (31, false), [16]⟩,
  ⟨some 33, .mov (.t 7), some (31, false), [16]⟩,
  ⟨some 34, .bin .geq .none (.t 32) (.t 33), some (31, false), [17, 18, 16]⟩,
  ⟨some 35, .pick (.t 31) (.c (.bool true)) (.t 34), none, [16, 19]⟩] false)
 (.cond (.t 35) (.seq (.region [⟨some 6, .mov (.c (.bool false)), none, []⟩] false)
 .ret) .skip))
 (.seq (.region [⟨some 36, .bslice [(.bool false)] 0 [], none, []⟩,
  ⟨some 8, .mov (.t 36), none, [0, 0]⟩] false)
 (.seq (.seq (.region [⟨some 9, .mov (.c (.int .i64 0)), none, []⟩] false)
 (.block 0 (.loop (some ([0, 1, 2, 7, 8, 9], [46])) (.seq (.seq (.region [⟨some 37, .mov (.t 9), none, []⟩,
  ⟨some 38, .mov (.t 7), none, []⟩,
  ⟨some 39, .mov (.t 7), none, []⟩,
  ⟨some 40, .bin .mul .none (.t 38) (.t 39), none, [1, 2]⟩,
  ⟨some 41, .bin .lss .none (.t 37) (.t 40), none, [0, 3]⟩] false)
 (.cond (.t 41) .skip (.exit 0)))
 (.seq (.block 1 (.region [⟨some 44, .mov (.t 8), none, []⟩,
  ⟨some 45, .bslice [(.bool false)] 1 [(0, (.c (.bool true)))], none, []⟩,
  ⟨some 46, .append 1 1 (.t 44) (.t 45), none, [0, 1]⟩,
  ⟨some 8, .mov (.t 46), none, [2, 2, 0, 1, 2]⟩] false))
 (.region [⟨some 42, .mov (.t 9), none, []⟩,
  ⟨some 43, .bin .add .none (.t 42) (.c (.int .i64 1)), none, [0]⟩,
  ⟨some 9, .mov (.t 43), none, [1, 0, 1]⟩] false))))))
 (.block 2 (.loop (some ([0, 1, 2, 7, 8], [46])) (.block 3 (.seq (.region [⟨some 10, .mov (.c (.bool false)), none, []⟩] false)
 (.seq (.seq (.region [⟨some 11, .mov (.c (.int .i64 0)), none, []⟩] false)
 (.block 4 (.loop (some ([0, 1, 2, 7, 8, 10, 11], [46])) (.seq (.seq (.region [⟨some 47, .mov (.t 11), none, []⟩,
  ⟨some 48, .mov (.t 7), none, []⟩,
  ⟨some 49, .bin .lss .none (.t 47) (.t 48), none, [0, 1]⟩] false)
 (.cond (.t 49) .skip (.exit 4)))
 (.seq (.block 5 (.seq (.region [⟨some 12, .mov (.c (.int .i64 0)), none, []⟩] false)
 (.block 6 (.loop (some ([0, 1, 2, 7, 8, 10, 11, 12], [46])) (.seq (.seq (.region [⟨some 52, .mov (.t 12), none, []⟩,
  ⟨some 53, .mov (.t 7), none, []⟩,
  ⟨some 54, .bin .lss .none (.t 52) (.t 53), none, [0, 1]⟩] false)
 (.cond (.t 54) .skip (.exit 6)))
 (.seq (.block 7 (.seq (.region [⟨some 57, .mov (.t 8), none, []⟩,
  ⟨some 58, .mov (.t 11), none, []⟩,
  ⟨some 59, .mov (.t 7), none, []⟩,
  ⟨some 60, .bin .mul .none (.t 58) (.t 59), none, [1, 2]⟩,
  ⟨some 61, .mov (.t 12), none, []⟩,
  ⟨some 62, .bin .add .none (.t 60) (.t 61), none, [3, 4]⟩,
  ⟨some 63, .iaddr 1 (.t 57) (.t 62), none, [0, 5]⟩,
  ⟨some 64, .load false 1 (.t 63), none, [6]⟩,
  ⟨some 65, .mov (.t 64), none, [7]⟩,
  ⟨some 66, .mov (.t 0), some (65, true), [8]⟩,
  ⟨some 67, .mov (.t 8), some (65, true), [8]⟩,
  ⟨some 68, .mov (.t 11), some (65, true), [8]⟩,
  ⟨some 69, .mov (.t 12), some (65, true), [8]⟩,
  ⟨some 70, .call (.c (.fn 66 [])) [(.t 66), (.t 67), (.t 68), (.t 69)], some (65, true), [9, 10, 11, 12, 8, 8]⟩,
  ⟨some 71, .un .not (.t 70), some (65, true), [13, 8]⟩,
  ⟨some 72, .pick (.t 65) (.t 71) (.c (.bool false)), none, [8, 14]⟩] false)
 (.cond (.t 72) (.seq (.region [⟨some 73, .mov (.t 8), none, []⟩,
  ⟨some 74, .mov (.t 11), none, []⟩,
  ⟨some 75, .mov (.t 7), none, []⟩,
  ⟨some 76, .bin .mul .none (.t 74) (.t 75), none, [1, 2]⟩,
  ⟨some 77, .mov (.t 12), none, []⟩,
  ⟨some 78, .bin .add .none (.t 76) (.t 77), none, [3, 4]⟩,
  ⟨some 79, .iaddr 1 (.t 73) (.t 78), none, [0, 5, 0, 1, 2, 3, 4, 5]⟩,
  ⟨none, .store 1 (.t 79) (.c (.bool false)), none, [6, 0, 1, 2, 3, 4, 5]⟩] false)
 (.region [⟨some 10, .mov (.c (.bool true)), none, []⟩] false)) .skip)))
 (.region [⟨some 55, .mov (.t 12), none, []⟩,
  ⟨some 56, .bin .add .none (.t 55) (.c (.int .i64 1)), none, [0]⟩,
  ⟨some 12, .mov (.t 56), none, [1, 0, 1]⟩] false)))))))
 (.region [⟨some 50, .mov (.t 11), none, []⟩,
  ⟨some 51, .bin .add .none (.t 50) (.c (.int .i64 1)), none, [0]⟩,
  ⟨some 11, .mov (.t 51), none, [1, 0, 1]⟩] false))))))
 (.seq (.region [⟨some 80, .mov (.t 10), none, []⟩,
  ⟨some 81, .un .not (.t 80), none, [0]⟩] false)
 (.cond (.t 81) (.seq (.region [⟨some 82, .mov (.t 8), none, []⟩,
  ⟨some 83, .mov (.t 1), none, []⟩,
  ⟨some 84, .mov (.t 7), none, []⟩,
  ⟨some 85, .bin .mul .none (.t 83) (.t 84), none, [1, 2]⟩,
  ⟨some 86, .mov (.t 2), none, []⟩,
  ⟨some 87, .bin .add .none (.t 85) (.t 86), none, [3, 4]⟩,
  ⟨some 88, .iaddr 1 (.t 82) (.t 87), none, [0, 5]⟩,
  ⟨some 89, .load false 1 (.t 88), none, [6]⟩,
  ⟨some 6, .mov (.t 89), none, [7, 0, 1, 2, 3, 4, 5, 6, 7]⟩] false)
 .ret) .skip)))))))))))),
 [.tmp 6], 90⟩

/-- protean/types.Equal -/
def v19 : VFunc := ⟨(.seq (.region [⟨some 6, .mov (.c (.bool false)), none, []⟩] false)
 (.seq (.region [⟨some 7, .mov (.t 0), none, []⟩,
  ⟨some 8, .mov (.t 1), none, []⟩,
  ⟨some 9, .mov (.t 2), none, []⟩,
  ⟨some 10, .call (.c (.fn 17 [])) [(.t 7), (.t 8), (.t 9)], none, [0, 1, 2]⟩,
  ⟨some 11, .mov (.t 10), none, [3, 3]⟩,
  ⟨some 12, .mov (.t 0), some (11, true), [4]⟩,
  ⟨some 13, .mov (.t 2), some (11, true), [4]⟩,
  ⟨some 14, .mov (.t 1), some (11, true), [4]⟩,
  ⟨some 15, .call (.c (.fn 17 [])) [(.t 12), (.t 13), (.t 14)], some (11, true), [5, 6, 7, 4, 4]⟩,
  ⟨some 16, .pick (.t 11) (.t 15) (.c (.bool false)), none, [4, 8]⟩,
  ⟨some 6, .mov (.t 16), none, [9, 8, 0, 1, 2, 3, 4, 5, 6, 7, 8, 9]⟩] false)
 .ret)),
 [.tmp 6], 17⟩

/-- protean/proteanref24.Equal -/
def v20 : VFunc := ⟨(.seq (.region [⟨some 6, .mov (.c (.bool false)), none, []⟩] false)
 (.seq (.region [⟨some 7, .mov (.t 0), none, []⟩,
  ⟨some 8, .mov (.t 1), none, []⟩,
  ⟨some 9, .mov (.t 2), none, []⟩,
  ⟨some 10, .call (.c (.fn 18 [])) [(.t 7), (.t 8), (.t 9)], none, [0, 1, 2]⟩,
  ⟨some 11, .mov (.t 10), none, [3, 3]⟩,
  ⟨some 12, .mov (.t 0), some (11, true), [4]⟩,
  ⟨some 13, .mov (.t 2), some (11, true), [4]⟩,
  ⟨some 14, .mov (.t 1), some (11, true), [4]⟩,
  ⟨some 15, .call (.c (.fn 18 [])) [(.t 12), (.t 13), (.t 14)], some (11, true), [5, 6, 7, 4, 4]⟩,
  ⟨some 16, .pick (.t 11) (.t 15) (.c (.bool false)), none, [4, 8]⟩,
  ⟨some 6, .mov (.t 16), none, [9, 8, 0, 1, 2, 3, 4, 5, 6, 7, 8, 9]⟩] false)
 .ret)),
 [.tmp 6], 17⟩

/-- protean/proteanlaw24.small -/
def v21 : VFunc := ⟨(.seq (.region [⟨some 2, .mov (.c (.bool false)), none, []⟩] false)
 (.seq (.seq (.region [⟨some 3, .mov (.c (.int .i64 0)), none, []⟩] false)
 (.block 0 (.loop (some ([0, 3], [])) (.seq (.seq (.region [⟨some 4, .mov (.t 3), none, []⟩,
  ⟨some 5, .mov (.t 0), none, []⟩,
  ⟨some 6, .len false (.t 5), none, [1]⟩,
  ⟨some 7, .bin .lss .none (.t 4) (.t 6), none, [0, 2]⟩] false)
 (.cond (.t 7) .skip (.exit 0)))
 (.seq (.block 1 (.seq (.region [⟨some 10, .mov (.t 0), none, []⟩,
  ⟨some 11, .mov (.t 3), none, []⟩,
  ⟨some 12, .iaddr 3 (.t 10) (.t 11), none, [0, 1]⟩,
  ⟨some 13, .faddr 0 (.t 12), none, [2]⟩,
  ⟨some 14, .load false 1 (.t 13), none, [3]⟩,
  ⟨some 15, .len false (.t 14), none, [4]⟩,
  ⟨some 16, .bin .gtr .none (.t 15) (.c (.int .i64 10)), none, [5]⟩] false)
 (.cond (.t 16) (.seq (.region [⟨some 2, .mov (.c (.bool false)), none, []⟩] false)
 .ret) .skip)))
 (.region [⟨some 8, .mov (.t 3), none, []⟩,
  ⟨some 9, .bin .add .none (.t 8) (.c (.int .i64 1)), none, [0]⟩,
  ⟨some 3, .mov (.t 9), none, [1, 0, 1]⟩] false))))))
 (.seq (.region [⟨some 17, .mov (.t 0), none, []⟩,
  ⟨some 18, .len false (.t 17), none, [0]⟩,
  ⟨some 19, .bin .leq .none (.t 18) (.c (.int .i64 16)), none, [1]⟩,
  ⟨some 2, .mov (.t 19), none, [2, 0, 1, 2]⟩] false)
 .ret))),
 [.tmp 2], 20⟩

/-- protean/proteanref19.May -/
def v22 : VFunc := ⟨(.seq (.region [⟨some 2, .mov (.c (.bool false)), none, []⟩] false)
 (.seq (.seq (.region [⟨some 3, .mov (.c (.int .i64 0)), none, []⟩] false)
 (.block 0 (.loop (some ([0, 3], [])) (.seq (.seq (.region [⟨some 7, .mov (.t 3), none, []⟩,
  ⟨some 8, .mov (.t 0), none, []⟩,
  ⟨some 9, .len false (.t 8), none, [1]⟩,
  ⟨some 10, .bin .lss .none (.t 7) (.t 9), none, [0, 2]⟩] false)
 (.cond (.t 10) .skip (.exit 0)))
 (.seq (.block 1 (.seq (.region [⟨some 13, .mov (.t 0), none, []⟩,
  ⟨some 14, .mov (.t 3), none, []⟩,
  ⟨some 15, .iaddr 3 (.t 13) (.t 14), none, [0, 1]⟩,
  ⟨some 16, .load true 3 (.t 15), none, [2]⟩,
  ⟨some 4, .alloc [.nilsl, (.int .i64 0), (.int .i64 0)], none, []⟩,
  ⟨none, .store 3 (.t 4) (.t 16), none, [4, 3, 0, 1, 2, 3, 4]⟩] false)
 (.seq (.seq (.region [⟨some 5, .mov (.c (.int .i64 0)), none, []⟩] false)
 (.block 2 (.loop (some ([0, 3, 4, 5], [4])) (.seq (.seq (.region [⟨some 17, .mov (.t 5), none, []⟩,
  ⟨some 18, .faddr 0 (.t 4), none, []⟩,
  ⟨some 19, .load false 1 (.t 18), none, [1]⟩,
  ⟨some 20, .len false (.t 19), none, [2]⟩,
  ⟨some 21, .bin .lss .none (.t 17) (.t 20), none, [0, 3]⟩] false)
 (.cond (.t 21) .skip (.exit 2)))
 (.seq (.block 3 (.seq (.region [⟨some 24, .mov (.t 0), none, []⟩,
  ⟨some 25, .faddr 0 (.t 4), none, []⟩,
  ⟨some 26, .load false 1 (.t 25), none, [1]⟩,
  ⟨some 27, .mov (.t 5), none, []⟩,
  ⟨some 28, .iaddr 3 (.t 26) (.t 27), none, [2, 3]⟩,
  ⟨some 29, .faddr 1 (.t 28), none, [4]⟩,
  ⟨some 30, .load true 2 (.t 29), none, [5]⟩,
  ⟨some 31, .call (.c (.fn 40 [])) [(.t 24), (.t 30)], none, [0, 6]⟩,
  ⟨some 32, .un .not (.t 31), none, [7]⟩,
  ⟨some 33, .mov (.t 32), none, [8, 7]⟩,
  ⟨some 34, .mov (.t 5), some (33, false), [9]⟩,
  ⟨some 35, .bin .gtr .none (.t 34) (.c (.int .i64 0)), some (33, false), [10, 9]⟩,
  ⟨some 36, .mov (.t 35), some (33, false), [11, 9, 9]⟩,
  ⟨some 37, .faddr 0 (.t 4), some (36, true), [12]⟩,
  ⟨some 38, .load false 1 (.t 37), some (36, true), [13, 12]⟩,
  ⟨some 39, .mov (.t 5), some (36, true), [12]⟩,
  ⟨some 40, .bin .sub .none (.t 39) (.c (.int .i64 1)), some (36, true), [15, 12]⟩,
  ⟨some 41, .iaddr 3 (.t 38) (.t 40), some (36, true), [14, 16, 12]⟩,
  ⟨some 42, .faddr 0 (.t 41), some (36, true), [17, 12]⟩,
  ⟨some 43, .load false 1 (.t 42), some (36, true), [18, 12]⟩,
  ⟨some 44, .faddr 0 (.t 4), some (36, true), [12]⟩,
  ⟨some 45, .load false 1 (.t 44), some (36, true), [20, 12]⟩,
  ⟨some 46, .mov (.t 5), some (36, true), [12]⟩,
  ⟨some 47, .iaddr 3 (.t 45) (.t 46), some (36, true), [21, 22, 12]⟩,
  ⟨some 48, .faddr 0 (.t 47), some (36, true), [23, 12]⟩,
  ⟨some 49, .load false 1 (.t 48), some (36, true), [24, 12]⟩,
  ⟨some 50, .bin .geq .none (.t 43) (.t 49), some (36, true), [19, 25, 12]⟩,
  ⟨some 51, .pick (.t 36) (.t 50) (.c (.bool false)), some (33, false), [12, 26, 9]⟩,
  ⟨some 52, .pick (.t 33) (.c (.bool true)) (.t 51), none, [9, 27]⟩] true)
 (.cond (.t 52) (.seq (.region [⟨some 2, .mov (.c (.bool false)), none, []⟩] false)
 .ret) .skip)))
 (.region [⟨some 22, .mov (.t 5), none, []⟩,
  ⟨some 23, .bin .add .none (.t 22) (.c (.int .i64 1)), none, [0]⟩,
  ⟨some 5, .mov (.t 23), none, [1, 0, 1]⟩] false))))))
 (.seq (.region [⟨some 53, .faddr 1 (.t 4), none, []⟩,
  ⟨some 54, .load true 2 (.t 53), none, [0]⟩,
  ⟨some 55, .build [(.int .i64 0), (.int .i64 0)] [], none, []⟩,
  ⟨some 56, .bin .eql (.flat [.i, .i]) (.t 54) (.t 55), none, [1, 2]⟩,
  ⟨some 6, .mov (.t 56), none, [3, 0, 1, 2, 3]⟩] false)
 (.seq (.region [⟨some 57, .mov (.t 6), none, []⟩,
  ⟨some 58, .un .not (.t 57), none, [0]⟩,
  ⟨some 59, .mov (.t 58), none, [1]⟩,
  ⟨some 60, .faddr 1 (.t 4), some (59, true), [2]⟩,
  ⟨some 61, .faddr 0 (.t 60), some (59, true), [3, 2]⟩,
  ⟨some 62, .load false 1 (.t 61), some (59, true), [4, 2]⟩,
  ⟨some 63, .bin .neq .none (.t 62) (.c (.int .i64 4)), some (59, true), [5, 2]⟩,
  ⟨some 64, .mov (.t 63), some (59, true), [6, 2, 2]⟩,
  ⟨some 65, .faddr 1 (.t 4), some (64, false), [7]⟩,
  ⟨some 66, .faddr 1 (.t 65), some (64, false), [8, 7]⟩,
  ⟨some 67, .load false 1 (.t 66), some (64, false), [9, 7]⟩,
  ⟨some 68, .bin .lss .none (.t 67) (.c (.int .i64 0)), some (64, false), [10, 7]⟩,
  ⟨some 69, .pick (.t 64) (.c (.bool true)) (.t 68), some (59, true), [7, 11, 2]⟩,
  ⟨some 70, .mov (.t 69), some (59, true), [12, 7, 2]⟩,
  ⟨some 71, .faddr 1 (.t 4), some (70, false), [13]⟩,
  ⟨some 72, .faddr 1 (.t 71), some (70, false), [14, 13]⟩,
  ⟨some 73, .load false 1 (.t 72), some (70, false), [15, 13]⟩,
  ⟨some 74, .mov (.t 3), some (70, false), [13]⟩,
  ⟨some 75, .bin .geq .none (.t 73) (.t 74), some (70, false), [16, 17, 13]⟩,
  ⟨some 76, .pick (.t 70) (.c (.bool true)) (.t 75), some (59, true), [13, 18, 2]⟩,
  ⟨some 77, .pick (.t 59) (.t 76) (.c (.bool false)), none, [2, 19]⟩] false)
 (.cond (.t 77) (.seq (.region [⟨some 2, .mov (.c (.bool false)), none, []⟩] false)
 .ret) .skip))))))
 (.region [⟨some 11, .mov (.t 3), none, []⟩,
  ⟨some 12, .bin .add .none (.t 11) (.c (.int .i64 1)), none, [0]⟩,
  ⟨some 3, .mov (.t 12), none, [1, 0, 1]⟩] false))))))
 (.seq (.region [⟨some 2, .mov (.c (.bool true)), none, []⟩] false)
 .ret))),
 [.tmp 2], 78⟩

/-- protean/types.In -/
def v23 : VFunc := ⟨(.seq (.region [⟨some 4, .bx (.t 0), none, []⟩,
  ⟨some 5, .bx (.t 1), none, []⟩,
  ⟨some 6, .bx (.t 2), none, []⟩,
  ⟨some 8, .mov (.c (.bool false)), none, []⟩] false)
 (.seq (.seq (.region [⟨some 10, .load false 1 (.t 4), none, []⟩,
  ⟨some 11, .call (.c (.fn 15 [])) [(.t 10)], none, [0]⟩,
  ⟨some 12, .un .not (.t 11), none, [1]⟩,
  ⟨some 13, .mov (.t 12), none, [2, 1]⟩,
  ⟨some 14, .load false 1 (.t 5), some (13, false), [3]⟩,
  ⟨some 15, .call (.c (.fn 67 [])) [(.t 14)], some (13, false), [4, 3, 3]⟩,
  ⟨some 16, .un .not (.t 15), some (13, false), [5, 3]⟩,
  ⟨some 17, .pick (.t 13) (.c (.bool true)) (.t 16), none, [3, 6]⟩,
  ⟨some 18, .mov (.t 17), none, [7, 5]⟩,
  ⟨some 19, .load false 1 (.t 5), some (18, false), [8]⟩,
  ⟨some 20, .load true 2 (.t 6), some (18, false), [8]⟩,
  ⟨some 21, .call (.c (.fn 68 [])) [(.t 19), (.t 20)], some (18, false), [9, 10, 8, 8]⟩,
  ⟨some 22, .un .not (.t 21), some (18, false), [11, 8]⟩,
  ⟨some 23, .pick (.t 18) (.c (.bool true)) (.t 22), none, [8, 12]⟩,
  ⟨some 24, .mov (.t 23), none, [13, 11]⟩,
  ⟨some 25, .load false 1 (.t 4), some (24, false), [14]⟩,
  ⟨some 26, .mov (.t 3), some (24, false), [14]⟩,
  ⟨some 27, .call (.c (.fn 57 [])) [(.t 25), (.t 26)], some (24, false), [15, 16, 14, 14]⟩,
  ⟨some 28, .un .not (.t 27), some (24, false), [17, 14]⟩,
  ⟨some 29, .pick (.t 24) (.c (.bool true)) (.t 28), none, [14, 18]⟩] false)
 (.cond (.t 29) (.seq (.region [⟨some 8, .mov (.c (.bool false)), none, []⟩] false)
 .ret) .skip))
 (.seq (.region [⟨some 30, .mkmap, none, []⟩,
  ⟨none, .mapset (.one .i) (.t 30) (.c (.int .i64 1)) (.c (.int .i64 0)), none, [0]⟩,
  ⟨none, .mapset (.one .i) (.t 30) (.c (.int .i64 2)) (.c (.int .i64 1)), none, [0]⟩,
  ⟨none, .mapset (.one .i) (.t 30) (.c (.int .i64 3)) (.c (.int .i64 2)), none, [0]⟩,
  ⟨none, .mapset (.one .i) (.t 30) (.c (.int .i64 4)) (.c (.int .i64 4)), none, [0]⟩,
  ⟨some 31, .mov (.t 30), none, [0, 1, 2, 3, 4]⟩,
  ⟨some 9, .alloc [.nilmp], none, []⟩,
  ⟨none, .store 1 (.t 9) (.t 31), none, [6, 5, 0, 1, 2, 3, 4, 5, 6]⟩] false)
 (.seq (.region [⟨some 32, .load true 2 (.t 6), none, []⟩,
  ⟨some 33, .mov (.t 3), none, []⟩,
  ⟨some 34, .build [(.int .i64 0), (.int .i64 0), (.int .i64 0)] [(0, 2, (.t 32)), (2, 1, (.t 33))], none, [0, 1]⟩,
  ⟨some 35, .mkfn 70 [(.t 4), (.t 9), (.t 5)], none, []⟩,
  ⟨some 36, .call (.c (.fn 69 [])) [(.t 34), (.t 35)], none, [2, 3]⟩,
  ⟨some 8, .mov (.t 36), none, [4, 4, 0, 1, 2, 3, 4]⟩] false)
 .ret)))),
 [.tmp 8], 37⟩

/-- protean/proteanref19.Right -/
def v40 : VFunc := ⟨(.seq (.region [⟨some 3, .bx (.t 1), none, []⟩,
  ⟨some 4, .mov (.c (.bool false)), none, []⟩] false)
 (.seq (.seq (.region [⟨some 5, .faddr 0 (.t 3), none, []⟩,
  ⟨some 6, .load false 1 (.t 5), none, [0]⟩] false)
 (.block 0 (.seq (.region [⟨some 8, .bin .eql .none (.t 6) (.c (.int .i64 0)), none, []⟩,
  ⟨some 7, .mov (.t 8), none, [0]⟩] false)
 (.cond (.t 7) (.seq (.region [⟨some 9, .faddr 1 (.t 3), none, []⟩,
  ⟨some 10, .load false 1 (.t 9), none, [0]⟩,
  ⟨some 11, .bin .eql .none (.t 10) (.c (.int .i64 0)), none, [1]⟩,
  ⟨some 4, .mov (.t 11), none, [2, 0, 1, 2]⟩] false)
 .ret) (.seq (.region [⟨some 13, .bin .eql .none (.t 6) (.c (.int .i64 1)), none, []⟩,
  ⟨some 12, .mov (.t 13), none, [0]⟩] false)
 (.cond (.t 12) (.seq (.region [⟨some 14, .faddr 1 (.t 3), none, []⟩,
  ⟨some 15, .load false 1 (.t 14), none, [0]⟩,
  ⟨some 16, .bin .eql .none (.t 15) (.c (.int .i64 0)), none, [1]⟩,
  ⟨some 17, .mov (.t 16), none, [2]⟩,
  ⟨some 18, .faddr 1 (.t 3), some (17, false), [3]⟩,
  ⟨some 19, .load false 1 (.t 18), some (17, false), [4, 3]⟩,
  ⟨some 20, .bin .eql .none (.t 19) (.c (.int .i64 1)), some (17, false), [5, 3]⟩,
  ⟨some 21, .pick (.t 17) (.c (.bool true)) (.t 20), none, [3, 6]⟩,
  ⟨some 4, .mov (.t 21), none, [7, 3, 0, 1, 2, 3, 4, 5, 6, 7]⟩] false)
 .ret) (.seq (.region [⟨some 23, .bin .eql .none (.t 6) (.c (.int .i64 2)), none, []⟩,
  ⟨some 22, .mov (.t 23), none, [0]⟩] false)
 (.cond (.t 22) (.seq (.region [⟨some 4, .mov (.c (.bool true)), none, []⟩] false)
 .ret) (.seq (.region [⟨some 25, .bin .eql .none (.t 6) (.c (.int .i64 3)), none, []⟩,
  ⟨some 24, .mov (.t 25), none, [0]⟩] false)
 (.cond (.t 24) (.seq (.region [⟨some 26, .faddr 1 (.t 3), none, []⟩,
  ⟨some 27, .load false 1 (.t 26), none, [0]⟩,
  ⟨some 28, .bin .geq .none (.t 27) (.c (.int .i64 0)), none, [1]⟩,
  ⟨some 4, .mov (.t 28), none, [2, 0, 1, 2]⟩] false)
 .ret) .skip))))))))))
 (.seq (.region [⟨some 29, .faddr 0 (.t 3), none, []⟩,
  ⟨some 30, .load false 1 (.t 29), none, [0]⟩,
  ⟨some 31, .bin .eql .none (.t 30) (.c (.int .i64 4)), none, [1]⟩,
  ⟨some 32, .mov (.t 31), none, [2]⟩,
  ⟨some 33, .faddr 1 (.t 3), some (32, true), [3]⟩,
  ⟨some 34, .load false 1 (.t 33), some (32, true), [4, 3]⟩,
  ⟨some 35, .bin .geq .none (.t 34) (.c (.int .i64 0)), some (32, true), [5, 3]⟩,
  ⟨some 36, .pick (.t 32) (.t 35) (.c (.bool false)), none, [3, 6]⟩,
  ⟨some 37, .mov (.t 36), none, [7, 3]⟩,
  ⟨some 38, .faddr 1 (.t 3), some (37, true), [8]⟩,
  ⟨some 39, .load false 1 (.t 38), some (37, true), [9, 8]⟩,
  ⟨some 40, .mov (.t 0), some (37, true), [8]⟩,
  ⟨some 41, .len false (.t 40), some (37, true), [11, 8]⟩,
  ⟨some 42, .bin .lss .none (.t 39) (.t 41), some (37, true), [10, 12, 8]⟩,
  ⟨some 43, .pick (.t 37) (.t 42) (.c (.bool false)), none, [8, 13]⟩,
  ⟨some 4, .mov (.t 43), none, [14, 8, 0, 1, 2, 3, 4, 5, 6, 7, 8, 9, 10, 11, 12, 13, 14]⟩] false)
 .ret))),
 [.tmp 4], 44⟩

/-- protean/proteanlaw24.three -/
def v54 : VFunc := ⟨(.seq (.region [⟨some 0, .mov (.c .nilsl), none, []⟩] false)
 (.seq (.region [⟨some 1, .build [(.int .i64 0), .nilsl, .nilsl] [(0, 1, (.c (.int .i64 3)))], none, []⟩,
  ⟨some 2, .build [(.str ⟨⟨[]⟩⟩), (.int .i64 0)] [(0, 1, (.c (.str ⟨⟨[110]⟩⟩))), (1, 1, (.c (.int .i64 1)))], none, []⟩,
  ⟨some 3, .build [(.str ⟨⟨[]⟩⟩), (.int .i64 0)] [(0, 1, (.c (.str ⟨⟨[112]⟩⟩)))], none, []⟩,
  ⟨some 4, .bslice [(.str ⟨⟨[]⟩⟩), (.int .i64 0)] 2 [(0, (.t 2)), (1, (.t 3))], none, [1, 2]⟩,
  ⟨some 5, .build [(.int .i64 0), .nilsl, .nilsl] [(0, 1, (.c (.int .i64 4))), (1, 1, (.t 4))], none, [3]⟩,
  ⟨some 6, .build [(.str ⟨⟨[]⟩⟩), (.int .i64 0)] [(0, 1, (.c (.str ⟨⟨[110]⟩⟩))), (1, 1, (.c (.int .i64 2)))], none, []⟩,
  ⟨some 7, .bslice [(.str ⟨⟨[]⟩⟩), (.int .i64 0)] 1 [(0, (.t 6))], none, [5]⟩,
  ⟨some 8, .build [(.int .i64 0), .nilsl, .nilsl] [(0, 1, (.c (.int .i64 4))), (1, 1, (.t 7))], none, [6]⟩,
  ⟨some 9, .bslice [(.int .i64 0), .nilsl, .nilsl] 3 [(0, (.t 1)), (1, (.t 5)), (2, (.t 8))], none, [0, 4, 7]⟩,
  ⟨some 0, .mov (.t 9), none, [8, 0, 1, 2, 3, 4, 5, 6, 7, 8]⟩] false)
 .ret)),
 [.tmp 0], 10⟩

/-- slices.ContainsFunc[[]int,int] -/
def v55 : VFunc := ⟨(.seq (.region [⟨some 4, .mov (.c (.bool false)), none, []⟩] false)
 (.seq (.region [⟨some 5, .mov (.t 0), none, []⟩,
  ⟨some 6, .mov (.t 1), none, []⟩,
  ⟨some 7, .call (.c (.fn 120 [])) [(.t 5), (.t 6)], none, [0, 1]⟩,
  ⟨some 8, .bin .geq .none (.t 7) (.c (.int .i64 0)), none, [2]⟩,
  ⟨some 4, .mov (.t 8), none, [3, 2, 0, 1, 2, 3]⟩] false)
 .ret)),
 [.tmp 4], 9⟩

/-- protean/types.May$1 -/
def v56 : VFunc := ⟨(.seq (.region [⟨some 3, .mov (.c (.bool false)), none, []⟩] false)
 (.seq (.region [⟨some 4, .mov (.t 0), none, []⟩,
  ⟨some 5, .bin .lss .none (.t 4) (.c (.int .i64 0)), none, [0]⟩,
  ⟨some 6, .mov (.t 5), none, [1]⟩,
  ⟨some 7, .mov (.t 0), some (6, false), [2]⟩,
  ⟨some 8, .load false 1 (.t 1), some (6, false), [2]⟩,
  ⟨some 9, .bin .geq .none (.t 7) (.t 8), some (6, false), [3, 4, 2]⟩,
  ⟨some 10, .pick (.t 6) (.c (.bool true)) (.t 9), none, [2, 5]⟩,
  ⟨some 3, .mov (.t 10), none, [6, 2, 0, 1, 2, 3, 4, 5, 6]⟩] false)
 .ret)),
 [.tmp 3], 11⟩

/-- protean/types.place -/
def v57 : VFunc := ⟨(.seq (.region [⟨some 4, .mov (.c (.bool false)), none, []⟩] false)
 (.seq (.region [⟨some 5, .mov (.t 1), none, []⟩,
  ⟨some 6, .bin .geq .none (.t 5) (.c (.int .i64 0)), none, [0]⟩,
  ⟨some 7, .mov (.t 6), none, [1]⟩,
  ⟨some 8, .mov (.t 1), some (7, true), [2]⟩,
  ⟨some 9, .mov (.t 0), some (7, true), [2]⟩,
  ⟨some 10, .len false (.t 9), some (7, true), [4, 2]⟩,
  ⟨some 11, .bin .lss .none (.t 8) (.t 10), some (7, true), [3, 5, 2]⟩,
  ⟨some 12, .pick (.t 7) (.t 11) (.c (.bool false)), none, [2, 6]⟩,
  ⟨some 4, .mov (.t 12), none, [7, 2, 0, 1, 2, 3, 4, 5, 6, 7]⟩] false)
 .ret)),
 [.tmp 4], 13⟩

/-- protean/types.Solve[protean/types.pair] -/
def v58 : VFunc := ⟨(.seq (.region [⟨some 2, .bx (.t 0), none, []⟩,
  ⟨some 4, .mov (.c (.bool false)), none, []⟩] false)
 (.seq (.region [⟨some 9, .mov (.t 1), none, []⟩,
  ⟨some 10, .mkmap, none, []⟩,
  ⟨some 11, .mkmap, none, []⟩,
  ⟨some 12, .build [.nilfn, .nilmp, .nilmp] [(0, 1, (.t 9)), (1, 1, (.t 10)), (2, 1, (.t 11))], none, [0, 1, 2]⟩,
  ⟨some 13, .bx (.t 12), none, [3]⟩,
  ⟨some 5, .alloc [.nilptr], none, []⟩,
  ⟨none, .store 1 (.t 5) (.t 13), none, [5, 4, 0, 1, 2, 3, 4, 5]⟩] false)
 (.seq (.region [⟨some 14, .load true 2 (.t 2), none, []⟩,
  ⟨some 15, .bsliceA [(.int .i64 0), (.int .i64 0)] 1 [(0, (.t 14))], none, [0]⟩,
  ⟨some 6, .alloc [.nilsl], none, []⟩,
  ⟨none, .store 1 (.t 6) (.t 15), none, [2, 1, 0, 1, 2]⟩] false)
 (.seq (.region [⟨some 16, .load false 1 (.t 5), none, []⟩,
  ⟨some 17, .nilchk (.t 16), none, [0]⟩,
  ⟨some 18, .faddr 1 (.t 17), none, [1]⟩,
  ⟨some 19, .load false 1 (.t 18), none, [2]⟩,
  ⟨some 20, .load true 2 (.t 2), none, []⟩,
  ⟨none, .mapset (.flat [.i, .i]) (.t 19) (.t 20) (.c (.bool true)), none, [3, 4, 0, 1, 2, 3, 4]⟩] true)
 (.seq (.block 0 (.loop none (.seq (.seq (.region [⟨some 21, .load false 1 (.t 6), none, []⟩,
  ⟨some 22, .len false (.t 21), none, [0]⟩,
  ⟨some 23, .bin .gtr .none (.t 22) (.c (.int .i64 0)), none, [1]⟩] false)
 (.cond (.t 23) .skip (.exit 0)))
 (.block 1 (.seq (.region [⟨some 24, .load false 1 (.t 6), none, []⟩,
  ⟨some 25, .load false 1 (.t 6), none, []⟩,
  ⟨some 26, .len false (.t 25), none, [1]⟩,
  ⟨some 27, .bin .sub .none (.t 26) (.c (.int .i64 1)), none, [2]⟩,
  ⟨some 28, .iaddr 2 (.t 24) (.t 27), none, [0, 3]⟩,
  ⟨some 29, .load true 2 (.t 28), none, [4]⟩,
  ⟨some 7, .alloc [(.int .i64 0), (.int .i64 0)], none, []⟩,
  ⟨none, .store 2 (.t 7) (.t 29), none, [6, 5, 0, 1, 2, 3, 4, 5, 6]⟩] false)
 (.seq (.region [⟨some 30, .load false 1 (.t 6), none, []⟩,
  ⟨some 31, .load false 1 (.t 6), none, []⟩,
  ⟨some 32, .len false (.t 31), none, [1]⟩,
  ⟨some 33, .bin .sub .none (.t 32) (.c (.int .i64 1)), none, [2]⟩,
  ⟨some 34, .slc 2 (.t 30) none (some (.t 33)) none, none, [0, 3]⟩,
  ⟨none, .store 1 (.t 6) (.t 34), none, [4, 0, 1, 2, 3, 4]⟩] false)
 (.seq (.seq (.region [⟨some 35, .load false 1 (.t 5), none, []⟩,
  ⟨some 36, .nilchk (.t 35), none, [0]⟩,
  ⟨some 37, .faddr 1 (.t 36), none, [1]⟩,
  ⟨some 38, .load false 1 (.t 37), none, [2]⟩,
  ⟨some 39, .load true 2 (.t 7), none, []⟩,
  ⟨some 40, .lookup (.flat [.i, .i]) (.bool false) false (.t 38) (.t 39), none, [3, 4]⟩,
  ⟨some 41, .un .not (.t 40), none, [5]⟩] true)
 (.cond (.t 41) (.exit 1) .skip))
 (.seq (.region [⟨some 42, .load false 1 (.t 5), none, []⟩,
  ⟨some 43, .nilchk (.t 42), none, [0]⟩,
  ⟨some 44, .faddr 0 (.t 43), none, [1]⟩,
  ⟨some 45, .load false 1 (.t 44), none, [2]⟩,
  ⟨some 46, .load true 2 (.t 7), none, []⟩,
  ⟨some 47, .mkfn 121 [(.t 5), (.t 6), (.t 7)], none, []⟩,
  ⟨some 48, .call (.t 45) [(.t 46), (.t 47)], none, [3, 4, 5]⟩,
  ⟨some 8, .mov (.t 48), none, [6, 6, 0, 1, 2, 3, 4, 5, 6]⟩] true)
 (.seq (.seq (.region [⟨some 49, .mov (.t 8), none, []⟩] false)
 (.cond (.t 49) (.exit 1) .skip))
 (.seq (.region [⟨some 50, .load false 1 (.t 5), none, []⟩,
  ⟨some 51, .nilchk (.t 50), none, [0]⟩,
  ⟨some 52, .faddr 1 (.t 51), none, [1]⟩,
  ⟨some 53, .load false 1 (.t 52), none, [2]⟩,
  ⟨some 54, .load true 2 (.t 7), none, []⟩,
  ⟨none, .mapset (.flat [.i, .i]) (.t 53) (.t 54) (.c (.bool false)), none, [3, 4, 0, 1, 2, 3, 4]⟩] true)
 (.seq (.region [⟨some 55, .load false 1 (.t 6), none, []⟩,
  ⟨some 56, .load false 1 (.t 5), none, []⟩,
  ⟨some 57, .nilchk (.t 56), none, [1]⟩,
  ⟨some 58, .faddr 2 (.t 57), none, [2]⟩,
  ⟨some 59, .load false 1 (.t 58), none, [3]⟩,
  ⟨some 60, .load true 2 (.t 7), none, []⟩,
  ⟨some 61, .lookup (.flat [.i, .i]) .nilsl false (.t 59) (.t 60), none, [4, 5]⟩,
  ⟨some 62, .append 2 16 (.t 55) (.t 61), none, [0, 6]⟩,
  ⟨none, .store 1 (.t 6) (.t 62), none, [7, 7, 0, 1, 2, 3, 4, 5, 6, 7]⟩] true)
 (.region [⟨some 63, .load false 1 (.t 5), none, []⟩,
  ⟨some 64, .nilchk (.t 63), none, [0]⟩,
  ⟨some 65, .faddr 2 (.t 64), none, [1]⟩,
  ⟨some 66, .load false 1 (.t 65), none, [2]⟩,
  ⟨some 67, .load true 2 (.t 7), none, []⟩,
  ⟨none, .mapdel (.flat [.i, .i]) (.t 66) (.t 67), none, [3, 4]⟩] true))))))))))))
 (.seq (.region [⟨some 68, .load false 1 (.t 5), none, []⟩,
  ⟨some 69, .nilchk (.t 68), none, [0]⟩,
  ⟨some 70, .faddr 1 (.t 69), none, [1]⟩,
  ⟨some 71, .load false 1 (.t 70), none, [2]⟩,
  ⟨some 72, .load true 2 (.t 2), none, []⟩,
  ⟨some 73, .lookup (.flat [.i, .i]) (.bool false) false (.t 71) (.t 72), none, [3, 4]⟩,
  ⟨some 4, .mov (.t 73), none, [5, 0, 1, 2, 3, 4, 5]⟩] true)
 .ret)))))),
 [.tmp 4], 74⟩

/-- protean/types.Sub$1 -/
def v59 : VFunc := ⟨(.seq (.region [⟨some 3, .bx (.t 0), none, []⟩,
  ⟨some 4, .bx (.t 1), none, []⟩,
  ⟨some 5, .mov (.c (.bool false)), none, []⟩] false)
 (.seq (.region [⟨some 8, .load false 1 (.t 2), none, []⟩,
  ⟨some 9, .faddr 0 (.t 3), none, []⟩,
  ⟨some 10, .load false 1 (.t 9), none, [1]⟩,
  ⟨some 11, .iaddr 3 (.t 8) (.t 10), none, [0, 2]⟩,
  ⟨some 12, .load true 3 (.t 11), none, [3]⟩,
  ⟨some 13, .load false 1 (.t 2), none, []⟩,
  ⟨some 14, .faddr 1 (.t 3), none, []⟩,
  ⟨some 15, .load false 1 (.t 14), none, [6]⟩,
  ⟨some 16, .iaddr 3 (.t 13) (.t 15), none, [5, 7]⟩,
  ⟨some 17, .load true 3 (.t 16), none, [8]⟩,
  ⟨some 6, .alloc [(.int .i64 0), .nilsl, .nilsl], none, []⟩,
  ⟨some 7, .alloc [(.int .i64 0), .nilsl, .nilsl], none, []⟩,
  ⟨none, .store 3 (.t 6) (.t 12), none, [10, 4, 0, 1, 2, 3, 4, 10, 11]⟩,
  ⟨none, .store 3 (.t 7) (.t 17), none, [11, 9, 12, 0, 1, 2, 3, 4, 5, 6, 7, 8, 9, 10, 11, 12]⟩] true)
 (.seq (.block 0 (.seq (.region [⟨some 19, .faddr 0 (.t 6), none, []⟩,
  ⟨some 20, .load false 1 (.t 19), none, [0]⟩,
  ⟨some 21, .bin .eql .none (.t 20) (.c (.int .i64 5)), none, [1]⟩,
  ⟨some 18, .mov (.t 21), none, [2]⟩] false)
 (.cond (.t 18) (.seq (.region [⟨some 22, .faddr 2 (.t 6), none, []⟩,
  ⟨some 23, .load false 1 (.t 22), none, [0]⟩,
  ⟨some 24, .mkfn 61 [(.t 4), (.t 3)], none, []⟩,
  ⟨some 25, .call (.c (.fn 60 [])) [(.t 23), (.t 24)], none, [1, 2]⟩,
  ⟨some 5, .mov (.t 25), none, [3, 3, 0, 1, 2, 3]⟩] false)
 .ret) (.seq (.region [⟨some 27, .faddr 0 (.t 7), none, []⟩,
  ⟨some 28, .load false 1 (.t 27), none, [0]⟩,
  ⟨some 29, .bin .eql .none (.t 28) (.c (.int .i64 5)), none, [1]⟩,
  ⟨some 26, .mov (.t 29), none, [2]⟩] false)
 (.cond (.t 26) (.seq (.region [⟨some 30, .faddr 2 (.t 7), none, []⟩,
  ⟨some 31, .load false 1 (.t 30), none, [0]⟩,
  ⟨some 32, .mkfn 62 [(.t 4), (.t 3)], none, []⟩,
  ⟨some 33, .call (.c (.fn 60 [])) [(.t 31), (.t 32)], none, [1, 2]⟩,
  ⟨some 34, .un .not (.t 33), none, [3]⟩,
  ⟨some 5, .mov (.t 34), none, [4, 3, 0, 1, 2, 3, 4]⟩] false)
 .ret) (.seq (.region [⟨some 36, .faddr 0 (.t 7), none, []⟩,
  ⟨some 37, .load false 1 (.t 36), none, [0]⟩,
  ⟨some 38, .bin .eql .none (.t 37) (.c (.int .i64 0)), none, [1]⟩,
  ⟨some 35, .mov (.t 38), none, [2]⟩] false)
 (.cond (.t 35) (.seq (.region [⟨some 5, .mov (.c (.bool true)), none, []⟩] false)
 .ret) (.seq (.region [⟨some 40, .faddr 0 (.t 6), none, []⟩,
  ⟨some 41, .load false 1 (.t 40), none, [0]⟩,
  ⟨some 42, .faddr 0 (.t 7), none, []⟩,
  ⟨some 43, .load false 1 (.t 42), none, [2]⟩,
  ⟨some 44, .bin .neq .none (.t 41) (.t 43), none, [1, 3]⟩,
  ⟨some 39, .mov (.t 44), none, [4]⟩] false)
 (.cond (.t 39) (.seq (.region [⟨some 5, .mov (.c (.bool false)), none, []⟩] false)
 .ret) .skip)))))))))
 (.seq (.region [⟨some 45, .faddr 1 (.t 7), none, []⟩,
  ⟨some 46, .load false 1 (.t 45), none, [0]⟩,
  ⟨some 47, .mkfn 64 [(.t 6), (.t 4)], none, []⟩,
  ⟨some 48, .call (.c (.fn 63 [])) [(.t 46), (.t 47)], none, [1, 2]⟩,
  ⟨some 5, .mov (.t 48), none, [3, 3, 0, 1, 2, 3]⟩] false)
 .ret)))),
 [.tmp 5], 49⟩

/-- protean/types.all[int] -/
def v60 : VFunc := ⟨(.seq (.region [⟨some 4, .mov (.c (.bool false)), none, []⟩] false)
 (.seq (.region [⟨some 5, .mov (.c (.bool true)), none, []⟩] false)
 (.seq (.seq (.region [⟨some 8, .mov (.t 0), none, []⟩,
  ⟨some 9, .len false (.t 8), none, [0]⟩,
  ⟨some 10, .mov (.c (.int .i64 0)), none, []⟩] false)
 (.block 0 (.loop none (.seq (.region [⟨some 11, .bin .lss .none (.t 10) (.t 9), none, []⟩] false)
 (.seq (.cond (.t 11) .skip (.exit 0))
 (.seq (.block 1 (.seq (.region [⟨some 12, .iaddr 1 (.t 8) (.t 10), none, []⟩,
  ⟨some 13, .load false 1 (.t 12), none, [0]⟩,
  ⟨some 7, .mov (.t 13), none, [1, 0, 1]⟩] false)
 (.region [⟨some 14, .mov (.t 1), none, []⟩,
  ⟨some 15, .mov (.t 7), none, []⟩,
  ⟨some 16, .call (.t 14) [(.t 15)], none, [0, 1]⟩,
  ⟨some 17, .mov (.t 16), none, [2, 2]⟩,
  ⟨some 18, .mov (.t 5), some (17, true), [3]⟩,
  ⟨some 19, .pick (.t 17) (.t 18) (.c (.bool false)), none, [3, 4]⟩,
  ⟨some 5, .mov (.t 19), none, [5, 3, 0, 1, 2, 3, 4, 5]⟩] false)))
 (.region [⟨some 20, .bin .add .none (.t 10) (.c (.int .i64 1)), none, []⟩,
  ⟨some 10, .mov (.t 20), none, [0]⟩] false)))))))
 (.seq (.region [⟨some 21, .mov (.t 5), none, []⟩,
  ⟨some 4, .mov (.t 21), none, [0, 0]⟩] false)
 .ret)))),
 [.tmp 4], 22⟩

/-- protean/types.Sub$1$1 -/
def v61 : VFunc := ⟨(.seq (.region [⟨some 4, .mov (.c (.bool false)), none, []⟩] false)
 (.seq (.region [⟨some 5, .load false 1 (.t 1), none, []⟩,
  ⟨some 6, .mov (.t 0), none, []⟩,
  ⟨some 7, .faddr 1 (.t 2), none, []⟩,
  ⟨some 8, .load false 1 (.t 7), none, [2]⟩,
  ⟨some 9, .build [(.int .i64 0), (.int .i64 0)] [(0, 1, (.t 6)), (1, 1, (.t 8))], none, [1, 3]⟩,
  ⟨some 10, .call (.t 5) [(.t 9)], none, [0, 4]⟩,
  ⟨some 4, .mov (.t 10), none, [5, 5, 0, 1, 2, 3, 4, 5]⟩] false)
 .ret)),
 [.tmp 4], 11⟩

/-- protean/types.Sub$1$2 -/
def v62 : VFunc := ⟨(.seq (.region [⟨some 4, .mov (.c (.bool false)), none, []⟩] false)
 (.seq (.region [⟨some 5, .load false 1 (.t 1), none, []⟩,
  ⟨some 6, .faddr 0 (.t 2), none, []⟩,
  ⟨some 7, .load false 1 (.t 6), none, [1]⟩,
  ⟨some 8, .mov (.t 0), none, []⟩,
  ⟨some 9, .build [(.int .i64 0), (.int .i64 0)] [(0, 1, (.t 7)), (1, 1, (.t 8))], none, [2, 3]⟩,
  ⟨some 10, .call (.t 5) [(.t 9)], none, [0, 4]⟩,
  ⟨some 11, .un .not (.t 10), none, [5]⟩,
  ⟨some 4, .mov (.t 11), none, [6, 5, 0, 1, 2, 3, 4, 5, 6]⟩] false)
 .ret)),
 [.tmp 4], 12⟩

/-- protean/types.all[protean/api.TField] -/
def v63 : VFunc := ⟨(.seq (.region [⟨some 4, .mov (.c (.bool false)), none, []⟩] false)
 (.seq (.region [⟨some 5, .mov (.c (.bool true)), none, []⟩] false)
 (.seq (.seq (.region [⟨some 8, .mov (.t 0), none, []⟩,
  ⟨some 9, .len false (.t 8), none, [0]⟩,
  ⟨some 10, .mov (.c (.int .i64 0)), none, []⟩] false)
 (.block 0 (.loop none (.seq (.region [⟨some 11, .bin .lss .none (.t 10) (.t 9), none, []⟩] false)
 (.seq (.cond (.t 11) .skip (.exit 0))
 (.seq (.block 1 (.seq (.region [⟨some 12, .iaddr 2 (.t 8) (.t 10), none, []⟩,
  ⟨some 13, .load true 2 (.t 12), none, [0]⟩,
  ⟨some 7, .alloc [(.str ⟨⟨[]⟩⟩), (.int .i64 0)], none, []⟩,
  ⟨none, .store 2 (.t 7) (.t 13), none, [2, 1, 0, 1, 2]⟩] false)
 (.region [⟨some 14, .mov (.t 1), none, []⟩,
  ⟨some 15, .load true 2 (.t 7), none, []⟩,
  ⟨some 16, .call (.t 14) [(.t 15)], none, [0, 1]⟩,
  ⟨some 17, .mov (.t 16), none, [2, 2]⟩,
  ⟨some 18, .mov (.t 5), some (17, true), [3]⟩,
  ⟨some 19, .pick (.t 17) (.t 18) (.c (.bool false)), none, [3, 4]⟩,
  ⟨some 5, .mov (.t 19), none, [5, 3, 0, 1, 2, 3, 4, 5]⟩] false)))
 (.region [⟨some 20, .bin .add .none (.t 10) (.c (.int .i64 1)), none, []⟩,
  ⟨some 10, .mov (.t 20), none, [0]⟩] false)))))))
 (.seq (.region [⟨some 21, .mov (.t 5), none, []⟩,
  ⟨some 4, .mov (.t 21), none, [0, 0]⟩] false)
 .ret)))),
 [.tmp 4], 22⟩

/-- protean/types.Sub$1$3 -/
def v64 : VFunc := ⟨(.seq (.region [⟨some 3, .bx (.t 0), none, []⟩,
  ⟨some 4, .mov (.c (.bool false)), none, []⟩] false)
 (.seq (.region [⟨some 8, .load true 3 (.t 1), none, []⟩,
  ⟨some 9, .faddr 0 (.t 3), none, []⟩,
  ⟨some 10, .load false 1 (.t 9), none, [1]⟩,
  ⟨some 11, .call (.c (.fn 65 [])) [(.t 8), (.t 10)], none, [0, 2]⟩,
  ⟨some 7, .mov (.t 11), none, [3]⟩,
  ⟨some 12, .ext (.t 7) 0, none, [4]⟩,
  ⟨some 13, .ext (.t 7) 1, none, [4]⟩,
  ⟨some 5, .mov (.t 12), none, [5, 3, 0, 1, 2, 3, 4, 5]⟩,
  ⟨some 6, .mov (.t 13), none, [6, 7, 0, 1, 2, 3, 4, 5, 6, 7]⟩] false)
 (.seq (.region [⟨some 14, .mov (.t 6), none, []⟩,
  ⟨some 15, .mov (.t 14), none, [0]⟩,
  ⟨some 16, .load false 1 (.t 2), some (15, true), [1]⟩,
  ⟨some 17, .mov (.t 5), some (15, true), [1]⟩,
  ⟨some 18, .faddr 1 (.t 3), some (15, true), [1]⟩,
  ⟨some 19, .load false 1 (.t 18), some (15, true), [4, 1]⟩,
  ⟨some 20, .build [(.int .i64 0), (.int .i64 0)] [(0, 1, (.t 17)), (1, 1, (.t 19))], some (15, true), [3, 5, 1]⟩,
  ⟨some 21, .call (.t 16) [(.t 20)], some (15, true), [2, 6, 1, 1]⟩,
  ⟨some 22, .pick (.t 15) (.t 21) (.c (.bool false)), none, [1, 7]⟩,
  ⟨some 4, .mov (.t 22), none, [8, 7, 0, 1, 2, 3, 4, 5, 6, 7, 8]⟩] false)
 .ret))),
 [.tmp 4], 23⟩

/-- protean/types.field -/
def v65 : VFunc := ⟨(.seq (.region [⟨some 2, .bx (.t 0), none, []⟩,
  ⟨some 4, .mov (.c (.int .i64 0)), none, []⟩,
  ⟨some 5, .mov (.c (.bool false)), none, [1]⟩] false)
 (.seq (.region [⟨some 9, .faddr 1 (.t 2), none, []⟩,
  ⟨some 10, .load false 1 (.t 9), none, [0]⟩,
  ⟨some 11, .mov (.t 1), none, []⟩,
  ⟨some 12, .call (.c (.fn 122 [])) [(.t 10), (.t 11), (.c (.fn 123 []))], none, [1, 2]⟩,
  ⟨some 8, .mov (.t 12), none, [3]⟩,
  ⟨some 13, .ext (.t 8) 0, none, [4]⟩,
  ⟨some 14, .ext (.t 8) 1, none, [4]⟩,
  ⟨some 6, .mov (.t 13), none, [5, 3, 0, 1, 2, 3, 4, 5]⟩,
  ⟨some 7, .mov (.t 14), none, [6, 7, 0, 1, 2, 3, 4, 5, 6, 7]⟩] false)
 (.seq (.seq (.region [⟨some 15, .mov (.t 7), none, []⟩,
  ⟨some 16, .un .not (.t 15), none, [0]⟩] false)
 (.cond (.t 16) (.seq (.region [⟨some 4, .mov (.c (.int .i64 0)), none, []⟩,
  ⟨some 5, .mov (.c (.bool false)), none, [0, 0]⟩] false)
 .ret) .skip))
 (.seq (.region [⟨some 17, .faddr 1 (.t 2), none, []⟩,
  ⟨some 18, .load false 1 (.t 17), none, [0]⟩,
  ⟨some 19, .mov (.t 6), none, []⟩,
  ⟨some 20, .iaddr 2 (.t 18) (.t 19), none, [1, 2]⟩,
  ⟨some 21, .faddr 1 (.t 20), none, [3]⟩,
  ⟨some 22, .load false 1 (.t 21), none, [4]⟩,
  ⟨some 4, .mov (.t 22), none, [5, 0, 1, 2, 3, 4, 5]⟩,
  ⟨some 5, .mov (.c (.bool true)), none, [6, 0, 1, 2, 3, 4, 5, 6]⟩] false)
 .ret)))),
 [.tmp 4, .tmp 5], 23⟩

/-- protean/proteanref24.rule -/
def v66 : VFunc := ⟨(.seq (.region [⟨some 8, .mov (.c (.bool false)), none, []⟩] false)
 (.seq (.region [⟨some 17, .mov (.t 0), none, []⟩,
  ⟨some 18, .len false (.t 17), none, [0]⟩,
  ⟨some 9, .mov (.t 18), none, [1, 0, 1]⟩] false)
 (.seq (.region [⟨some 19, .mov (.t 0), none, []⟩,
  ⟨some 20, .mov (.t 2), none, []⟩,
  ⟨some 21, .iaddr 3 (.t 19) (.t 20), none, [0, 1]⟩,
  ⟨some 22, .load true 3 (.t 21), none, [2]⟩,
  ⟨some 23, .mov (.t 0), none, []⟩,
  ⟨some 24, .mov (.t 3), none, []⟩,
  ⟨some 25, .iaddr 3 (.t 23) (.t 24), none, [4, 5]⟩,
  ⟨some 26, .load true 3 (.t 25), none, [6]⟩,
  ⟨some 10, .alloc [(.int .i64 0), .nilsl, .nilsl], none, []⟩,
  ⟨some 11, .alloc [(.int .i64 0), .nilsl, .nilsl], none, []⟩,
  ⟨none, .store 3 (.t 10) (.t 22), none, [8, 3, 0, 1, 2, 3, 8, 9]⟩,
  ⟨none, .store 3 (.t 11) (.t 26), none, [9, 7, 10, 0, 1, 2, 3, 4, 5, 6, 7, 8, 9, 10]⟩] true)
 (.seq (.seq (.region [⟨some 27, .faddr 0 (.t 10), none, []⟩,
  ⟨some 28, .load false 1 (.t 27), none, [0]⟩,
  ⟨some 29, .bin .eql .none (.t 28) (.c (.int .i64 5)), none, [1]⟩] false)
 (.cond (.t 29) (.seq (.seq (.region [⟨some 12, .mov (.c (.int .i64 0)), none, []⟩] false)
 (.block 0 (.loop (some ([1, 3, 9, 10, 12], [10])) (.seq (.seq (.region [⟨some 30, .mov (.t 12), none, []⟩,
  ⟨some 31, .faddr 2 (.t 10), none, []⟩,
  ⟨some 32, .load false 1 (.t 31), none, [1]⟩,
  ⟨some 33, .len false (.t 32), none, [2]⟩,
  ⟨some 34, .bin .lss .none (.t 30) (.t 33), none, [0, 3]⟩] false)
 (.cond (.t 34) .skip (.exit 0)))
 (.seq (.block 1 (.seq (.region [⟨some 37, .mov (.t 1), none, []⟩,
  ⟨some 38, .faddr 2 (.t 10), none, []⟩,
  ⟨some 39, .load false 1 (.t 38), none, [1]⟩,
  ⟨some 40, .mov (.t 12), none, []⟩,
  ⟨some 41, .iaddr 1 (.t 39) (.t 40), none, [2, 3]⟩,
  ⟨some 42, .load false 1 (.t 41), none, [4]⟩,
  ⟨some 43, .mov (.t 9), none, []⟩,
  ⟨some 44, .bin .mul .none (.t 42) (.t 43), none, [5, 6]⟩,
  ⟨some 45, .mov (.t 3), none, []⟩,
  ⟨some 46, .bin .add .none (.t 44) (.t 45), none, [7, 8]⟩,
  ⟨some 47, .iaddr 1 (.t 37) (.t 46), none, [0, 9]⟩,
  ⟨some 48, .load false 1 (.t 47), none, [10]⟩,
  ⟨some 49, .un .not (.t 48), none, [11]⟩] false)
 (.cond (.t 49) (.seq (.region [⟨some 8, .mov (.c (.bool false)), none, []⟩] false)
 .ret) .skip)))
 (.region [⟨some 35, .mov (.t 12), none, []⟩,
  ⟨some 36, .bin .add .none (.t 35) (.c (.int .i64 1)), none, [0]⟩,
  ⟨some 12, .mov (.t 36), none, [1, 0, 1]⟩] false))))))
 (.seq (.region [⟨some 8, .mov (.c (.bool true)), none, []⟩] false)
 .ret)) .skip))
 (.seq (.seq (.region [⟨some 50, .faddr 0 (.t 11), none, []⟩,
  ⟨some 51, .load false 1 (.t 50), none, [0]⟩,
  ⟨some 52, .bin .eql .none (.t 51) (.c (.int .i64 5)), none, [1]⟩] false)
 (.cond (.t 52) (.seq (.seq (.region [⟨some 13, .mov (.c (.int .i64 0)), none, []⟩] false)
 (.block 2 (.loop (some ([1, 2, 9, 11, 13], [11])) (.seq (.seq (.region [⟨some 53, .mov (.t 13), none, []⟩,
  ⟨some 54, .faddr 2 (.t 11), none, []⟩,
  ⟨some 55, .load false 1 (.t 54), none, [1]⟩,
  ⟨some 56, .len false (.t 55), none, [2]⟩,
  ⟨some 57, .bin .lss .none (.t 53) (.t 56), none, [0, 3]⟩] false)
 (.cond (.t 57) .skip (.exit 2)))
 (.seq (.block 3 (.seq (.region [⟨some 60, .mov (.t 1), none, []⟩,
  ⟨some 61, .mov (.t 2), none, []⟩,
  ⟨some 62, .mov (.t 9), none, []⟩,
  ⟨some 63, .bin .mul .none (.t 61) (.t 62), none, [1, 2]⟩,
  ⟨some 64, .faddr 2 (.t 11), none, []⟩,
  ⟨some 65, .load false 1 (.t 64), none, [4]⟩,
  ⟨some 66, .mov (.t 13), none, []⟩,
  ⟨some 67, .iaddr 1 (.t 65) (.t 66), none, [5, 6]⟩,
  ⟨some 68, .load false 1 (.t 67), none, [7]⟩,
  ⟨some 69, .bin .add .none (.t 63) (.t 68), none, [3, 8]⟩,
  ⟨some 70, .iaddr 1 (.t 60) (.t 69), none, [0, 9]⟩,
  ⟨some 71, .load false 1 (.t 70), none, [10]⟩] false)
 (.cond (.t 71) (.seq (.region [⟨some 8, .mov (.c (.bool true)), none, []⟩] false)
 .ret) .skip)))
 (.region [⟨some 58, .mov (.t 13), none, []⟩,
  ⟨some 59, .bin .add .none (.t 58) (.c (.int .i64 1)), none, [0]⟩,
  ⟨some 13, .mov (.t 59), none, [1, 0, 1]⟩] false))))))
 (.seq (.region [⟨some 8, .mov (.c (.bool false)), none, []⟩] false)
 .ret)) .skip))
 (.seq (.seq (.region [⟨some 72, .faddr 0 (.t 11), none, []⟩,
  ⟨some 73, .load false 1 (.t 72), none, [0]⟩,
  ⟨some 74, .bin .eql .none (.t 73) (.c (.int .i64 0)), none, [1]⟩] false)
 (.cond (.t 74) (.seq (.region [⟨some 8, .mov (.c (.bool true)), none, []⟩] false)
 .ret) .skip))
 (.seq (.seq (.region [⟨some 75, .faddr 0 (.t 10), none, []⟩,
  ⟨some 76, .load false 1 (.t 75), none, [0]⟩,
  ⟨some 77, .faddr 0 (.t 11), none, []⟩,
  ⟨some 78, .load false 1 (.t 77), none, [2]⟩,
  ⟨some 79, .bin .neq .none (.t 76) (.t 78), none, [1, 3]⟩] false)
 (.cond (.t 79) (.seq (.region [⟨some 8, .mov (.c (.bool false)), none, []⟩] false)
 .ret) .skip))
 (.seq (.seq (.region [⟨some 14, .mov (.c (.int .i64 0)), none, []⟩] false)
 (.block 4 (.loop (some ([1, 9, 10, 11, 14], [10, 11])) (.seq (.seq (.region [⟨some 80, .mov (.t 14), none, []⟩,
  ⟨some 81, .faddr 1 (.t 11), none, []⟩,
  ⟨some 82, .load false 1 (.t 81), none, [1]⟩,
  ⟨some 83, .len false (.t 82), none, [2]⟩,
  ⟨some 84, .bin .lss .none (.t 80) (.t 83), none, [0, 3]⟩] false)
 (.cond (.t 84) .skip (.exit 4)))
 (.seq (.block 5 (.seq (.region [⟨some 88, .load true 3 (.t 10), none, []⟩,
  ⟨some 89, .faddr 1 (.t 11), none, []⟩,
  ⟨some 90, .load false 1 (.t 89), none, [1]⟩,
  ⟨some 91, .mov (.t 14), none, []⟩,
  ⟨some 92, .iaddr 2 (.t 90) (.t 91), none, [2, 3]⟩,
  ⟨some 93, .faddr 0 (.t 92), none, [4]⟩,
  ⟨some 94, .load false 1 (.t 93), none, [5]⟩,
  ⟨some 95, .call (.c (.fn 125 [])) [(.t 88), (.t 94)], none, [0, 6]⟩,
  ⟨some 87, .mov (.t 95), none, [7]⟩,
  ⟨some 96, .ext (.t 87) 0, none, [8]⟩,
  ⟨some 97, .ext (.t 87) 1, none, [8]⟩,
  ⟨some 15, .mov (.t 96), none, [9, 7, 0, 1, 2, 3, 4, 5, 6, 7, 8, 9]⟩,
  ⟨some 16, .mov (.t 97), none, [10, 11, 0, 1, 2, 3, 4, 5, 6, 7, 8, 9, 10, 11]⟩] true)
 (.seq (.seq (.region [⟨some 98, .mov (.t 16), none, []⟩,
  ⟨some 99, .un .not (.t 98), none, [0]⟩] false)
 (.cond (.t 99) (.seq (.region [⟨some 8, .mov (.c (.bool false)), none, []⟩] false)
 .ret) .skip))
 (.seq (.region [⟨some 100, .mov (.t 1), none, []⟩,
  ⟨some 101, .mov (.t 15), none, []⟩,
  ⟨some 102, .mov (.t 9), none, []⟩,
  ⟨some 103, .bin .mul .none (.t 101) (.t 102), none, [1, 2]⟩,
  ⟨some 104, .faddr 1 (.t 11), none, []⟩,
  ⟨some 105, .load false 1 (.t 104), none, [4]⟩,
  ⟨some 106, .mov (.t 14), none, []⟩,
  ⟨some 107, .iaddr 2 (.t 105) (.t 106), none, [5, 6]⟩,
  ⟨some 108, .faddr 1 (.t 107), none, [7]⟩,
  ⟨some 109, .load false 1 (.t 108), none, [8]⟩,
  ⟨some 110, .bin .add .none (.t 103) (.t 109), none, [3, 9]⟩,
  ⟨some 111, .iaddr 1 (.t 100) (.t 110), none, [0, 10]⟩,
  ⟨some 112, .load false 1 (.t 111), none, [11]⟩,
  ⟨some 113, .un .not (.t 112), none, [12]⟩] false)
 (.cond (.t 113) (.seq (.region [⟨some 8, .mov (.c (.bool false)), none, []⟩] false)
 .ret) .skip)))))
 (.region [⟨some 85, .mov (.t 14), none, []⟩,
  ⟨some 86, .bin .add .none (.t 85) (.c (.int .i64 1)), none, [0]⟩,
  ⟨some 14, .mov (.t 86), none, [1, 0, 1]⟩] false))))))
 (.seq (.region [⟨some 8, .mov (.c (.bool true)), none, []⟩] false)
 .ret))))))))),
 [.tmp 8], 114⟩

/-- protean/store.May -/
def v67 : VFunc := ⟨(.seq (.region [⟨some 2, .mov (.c (.bool false)), none, []⟩] false)
 (.seq (.seq (.region [⟨some 7, .mov (.t 0), none, []⟩,
  ⟨some 8, .len false (.t 7), none, [0]⟩,
  ⟨some 9, .mov (.c (.int .i64 0)), none, []⟩] false)
 (.block 0 (.loop (some ([0, 7, 8, 9], [])) (.seq (.region [⟨some 10, .bin .lss .none (.t 9) (.t 8), none, []⟩] false)
 (.seq (.cond (.t 10) .skip (.exit 0))
 (.seq (.block 1 (.seq (.region [⟨some 11, .mov (.t 9), none, []⟩,
  ⟨some 12, .iaddr 3 (.t 7) (.t 9), none, []⟩,
  ⟨some 13, .load true 3 (.t 12), none, [1]⟩,
  ⟨some 4, .alloc [.nilsl, (.int .i64 0), (.int .i64 0)], none, []⟩,
  ⟨some 3, .mov (.t 11), none, [0, 0, 1, 2, 3]⟩,
  ⟨none, .store 3 (.t 4) (.t 13), none, [3, 2, 4, 0, 1, 2, 3, 4]⟩] false)
 (.seq (.seq (.region [⟨some 14, .faddr 0 (.t 4), none, []⟩,
  ⟨some 15, .load false 1 (.t 14), none, [0]⟩,
  ⟨some 16, .len false (.t 15), none, [1]⟩,
  ⟨some 17, .mov (.c (.int .i64 0)), none, []⟩] false)
 (.block 2 (.loop (some ([0, 3, 4, 7, 8, 9, 15, 16, 17], [4])) (.seq (.region [⟨some 18, .bin .lss .none (.t 17) (.t 16), none, []⟩] false)
 (.seq (.cond (.t 18) .skip (.exit 2))
 (.seq (.block 3 (.seq (.region [⟨some 19, .mov (.t 17), none, []⟩,
  ⟨some 20, .iaddr 3 (.t 15) (.t 17), none, []⟩,
  ⟨some 21, .load true 3 (.t 20), none, [1]⟩,
  ⟨some 6, .alloc [(.str ⟨⟨[]⟩⟩), (.int .i64 0), (.int .i64 0)], none, []⟩,
  ⟨some 5, .mov (.t 19), none, [0, 0, 1, 2, 3]⟩,
  ⟨none, .store 3 (.t 6) (.t 21), none, [3, 2, 4, 0, 1, 2, 3, 4]⟩] false)
 (.seq (.region [⟨some 22, .mov (.t 0), none, []⟩,
  ⟨some 23, .faddr 1 (.t 6), none, []⟩,
  ⟨some 24, .load true 2 (.t 23), none, [1]⟩,
  ⟨some 25, .call (.c (.fn 68 [])) [(.t 22), (.t 24)], none, [0, 2]⟩,
  ⟨some 26, .un .not (.t 25), none, [3]⟩,
  ⟨some 27, .mov (.t 26), none, [4, 3]⟩,
  ⟨some 28, .mov (.t 5), some (27, false), [5]⟩,
  ⟨some 29, .bin .gtr .none (.t 28) (.c (.int .i64 0)), some (27, false), [6, 5]⟩,
  ⟨some 30, .mov (.t 29), some (27, false), [7, 5, 5]⟩,
  ⟨some 31, .faddr 0 (.t 4), some (30, true), [8]⟩,
  ⟨some 32, .load false 1 (.t 31), some (30, true), [9, 8]⟩,
  ⟨some 33, .mov (.t 5), some (30, true), [8]⟩,
  ⟨some 34, .bin .sub .none (.t 33) (.c (.int .i64 1)), some (30, true), [11, 8]⟩,
  ⟨some 35, .iaddr 3 (.t 32) (.t 34), some (30, true), [10, 12, 8]⟩,
  ⟨some 36, .faddr 0 (.t 35), some (30, true), [13, 8]⟩,
  ⟨some 37, .load false 1 (.t 36), some (30, true), [14, 8]⟩,
  ⟨some 38, .faddr 0 (.t 6), some (30, true), [8]⟩,
  ⟨some 39, .load false 1 (.t 38), some (30, true), [16, 8]⟩,
  ⟨some 40, .bin .geq .none (.t 37) (.t 39), some (30, true), [15, 17, 8]⟩,
  ⟨some 41, .pick (.t 30) (.t 40) (.c (.bool false)), some (27, false), [8, 18, 5]⟩,
  ⟨some 42, .pick (.t 27) (.c (.bool true)) (.t 41), none, [5, 19]⟩] true)
 (.cond (.t 42) (.seq (.region [⟨some 2, .mov (.c (.bool false)), none, []⟩] false)
 .ret) .skip))))
 (.region [⟨some 43, .bin .add .none (.t 17) (.c (.int .i64 1)), none, []⟩,
  ⟨some 17, .mov (.t 43), none, [0]⟩] false)))))))
 (.seq (.region [⟨some 44, .faddr 1 (.t 4), none, []⟩,
  ⟨some 45, .load true 2 (.t 44), none, [0]⟩,
  ⟨some 46, .build [(.int .i64 0), (.int .i64 0)] [], none, []⟩,
  ⟨some 47, .bin .neq (.flat [.i, .i]) (.t 45) (.t 46), none, [1, 2]⟩,
  ⟨some 48, .mov (.t 47), none, [3]⟩,
  ⟨some 49, .faddr 1 (.t 4), some (48, true), [4]⟩,
  ⟨some 50, .faddr 0 (.t 49), some (48, true), [5, 4]⟩,
  ⟨some 51, .load false 1 (.t 50), some (48, true), [6, 4]⟩,
  ⟨some 52, .bin .neq .none (.t 51) (.c (.int .i64 4)), some (48, true), [7, 4]⟩,
  ⟨some 53, .mov (.t 52), some (48, true), [8, 4, 4]⟩,
  ⟨some 54, .faddr 1 (.t 4), some (53, false), [9]⟩,
  ⟨some 55, .faddr 1 (.t 54), some (53, false), [10, 9]⟩,
  ⟨some 56, .load false 1 (.t 55), some (53, false), [11, 9]⟩,
  ⟨some 57, .bin .lss .none (.t 56) (.c (.int .i64 0)), some (53, false), [12, 9]⟩,
  ⟨some 58, .pick (.t 53) (.c (.bool true)) (.t 57), some (48, true), [9, 13, 4]⟩,
  ⟨some 59, .mov (.t 58), some (48, true), [14, 9, 4]⟩,
  ⟨some 60, .faddr 1 (.t 4), some (59, false), [15]⟩,
  ⟨some 61, .faddr 1 (.t 60), some (59, false), [16, 15]⟩,
  ⟨some 62, .load false 1 (.t 61), some (59, false), [17, 15]⟩,
  ⟨some 63, .mov (.t 3), some (59, false), [15]⟩,
  ⟨some 64, .bin .geq .none (.t 62) (.t 63), some (59, false), [18, 19, 15]⟩,
  ⟨some 65, .pick (.t 59) (.c (.bool true)) (.t 64), some (48, true), [15, 20, 4]⟩,
  ⟨some 66, .pick (.t 48) (.t 65) (.c (.bool false)), none, [4, 21]⟩] false)
 (.cond (.t 66) (.seq (.region [⟨some 2, .mov (.c (.bool false)), none, []⟩] false)
 .ret) .skip)))))
 (.region [⟨some 67, .bin .add .none (.t 9) (.c (.int .i64 1)), none, []⟩,
  ⟨some 9, .mov (.t 67), none, [0]⟩] false)))))))
 (.seq (.region [⟨some 2, .mov (.c (.bool true)), none, []⟩] false)
 .ret))),
 [.tmp 2], 68⟩

/-- protean/store.Right -/
def v68 : VFunc := ⟨(.seq (.region [⟨some 3, .bx (.t 1), none, []⟩,
  ⟨some 4, .mov (.c (.bool false)), none, []⟩] false)
 (.seq (.seq (.region [⟨some 5, .faddr 0 (.t 3), none, []⟩,
  ⟨some 6, .load false 1 (.t 5), none, [0]⟩] false)
 (.block 0 (.seq (.region [⟨some 8, .bin .eql .none (.t 6) (.c (.int .i64 0)), none, []⟩,
  ⟨some 7, .mov (.t 8), none, [0]⟩] false)
 (.cond (.t 7) (.seq (.region [⟨some 9, .faddr 1 (.t 3), none, []⟩,
  ⟨some 10, .load false 1 (.t 9), none, [0]⟩,
  ⟨some 11, .bin .eql .none (.t 10) (.c (.int .i64 0)), none, [1]⟩,
  ⟨some 4, .mov (.t 11), none, [2, 0, 1, 2]⟩] false)
 .ret) (.seq (.region [⟨some 13, .bin .eql .none (.t 6) (.c (.int .i64 1)), none, []⟩,
  ⟨some 12, .mov (.t 13), none, [0]⟩] false)
 (.cond (.t 12) (.seq (.region [⟨some 14, .faddr 1 (.t 3), none, []⟩,
  ⟨some 15, .load false 1 (.t 14), none, [0]⟩,
  ⟨some 16, .bin .eql .none (.t 15) (.c (.int .i64 0)), none, [1]⟩,
  ⟨some 17, .mov (.t 16), none, [2]⟩,
  ⟨some 18, .faddr 1 (.t 3), some (17, false), [3]⟩,
  ⟨some 19, .load false 1 (.t 18), some (17, false), [4, 3]⟩,
  ⟨some 20, .bin .eql .none (.t 19) (.c (.int .i64 1)), some (17, false), [5, 3]⟩,
  ⟨some 21, .pick (.t 17) (.c (.bool true)) (.t 20), none, [3, 6]⟩,
  ⟨some 4, .mov (.t 21), none, [7, 3, 0, 1, 2, 3, 4, 5, 6, 7]⟩] false)
 .ret) (.seq (.region [⟨some 23, .bin .eql .none (.t 6) (.c (.int .i64 2)), none, []⟩,
  ⟨some 22, .mov (.t 23), none, [0]⟩] false)
 (.cond (.t 22) (.seq (.region [⟨some 4, .mov (.c (.bool true)), none, []⟩] false)
 .ret) (.seq (.region [⟨some 25, .bin .eql .none (.t 6) (.c (.int .i64 3)), none, []⟩,
  ⟨some 24, .mov (.t 25), none, [0]⟩] false)
 (.cond (.t 24) (.seq (.region [⟨some 26, .faddr 1 (.t 3), none, []⟩,
  ⟨some 27, .load false 1 (.t 26), none, [0]⟩,
  ⟨some 28, .bin .geq .none (.t 27) (.c (.int .i64 0)), none, [1]⟩,
  ⟨some 4, .mov (.t 28), none, [2, 0, 1, 2]⟩] false)
 .ret) (.seq (.region [⟨some 30, .bin .eql .none (.t 6) (.c (.int .i64 4)), none, []⟩,
  ⟨some 29, .mov (.t 30), none, [0]⟩] false)
 (.cond (.t 29) (.seq (.region [⟨some 31, .faddr 1 (.t 3), none, []⟩,
  ⟨some 32, .load false 1 (.t 31), none, [0]⟩,
  ⟨some 33, .bin .geq .none (.t 32) (.c (.int .i64 0)), none, [1]⟩,
  ⟨some 34, .mov (.t 33), none, [2]⟩,
  ⟨some 35, .faddr 1 (.t 3), some (34, true), [3]⟩,
  ⟨some 36, .load false 1 (.t 35), some (34, true), [4, 3]⟩,
  ⟨some 37, .mov (.t 0), some (34, true), [3]⟩,
  ⟨some 38, .len false (.t 37), some (34, true), [6, 3]⟩,
  ⟨some 39, .bin .lss .none (.t 36) (.t 38), some (34, true), [5, 7, 3]⟩,
  ⟨some 40, .pick (.t 34) (.t 39) (.c (.bool false)), none, [3, 8]⟩,
  ⟨some 4, .mov (.t 40), none, [9, 3, 0, 1, 2, 3, 4, 5, 6, 7, 8, 9]⟩] false)
 .ret) .skip))))))))))))
 (.seq (.region [⟨some 4, .mov (.c (.bool false)), none, []⟩] false)
 .ret))),
 [.tmp 4], 41⟩

/-- protean/types.Solve[protean/types.pair·2] -/
def v69 : VFunc := ⟨(.seq (.region [⟨some 2, .bx (.t 0), none, []⟩,
  ⟨some 4, .mov (.c (.bool false)), none, []⟩] false)
 (.seq (.region [⟨some 9, .mov (.t 1), none, []⟩,
  ⟨some 10, .mkmap, none, []⟩,
  ⟨some 11, .mkmap, none, []⟩,
  ⟨some 12, .build [.nilfn, .nilmp, .nilmp] [(0, 1, (.t 9)), (1, 1, (.t 10)), (2, 1, (.t 11))], none, [0, 1, 2]⟩,
  ⟨some 13, .bx (.t 12), none, [3]⟩,
  ⟨some 5, .alloc [.nilptr], none, []⟩,
  ⟨none, .store 1 (.t 5) (.t 13), none, [5, 4, 0, 1, 2, 3, 4, 5]⟩] false)
 (.seq (.region [⟨some 14, .load true 3 (.t 2), none, []⟩,
  ⟨some 15, .bsliceA [(.int .i64 0), (.int .i64 0), (.int .i64 0)] 1 [(0, (.t 14))], none, [0]⟩,
  ⟨some 6, .alloc [.nilsl], none, []⟩,
  ⟨none, .store 1 (.t 6) (.t 15), none, [2, 1, 0, 1, 2]⟩] false)
 (.seq (.region [⟨some 16, .load false 1 (.t 5), none, []⟩,
  ⟨some 17, .nilchk (.t 16), none, [0]⟩,
  ⟨some 18, .faddr 1 (.t 17), none, [1]⟩,
  ⟨some 19, .load false 1 (.t 18), none, [2]⟩,
  ⟨some 20, .load true 3 (.t 2), none, []⟩,
  ⟨none, .mapset (.flat [.i, .i, .i]) (.t 19) (.t 20) (.c (.bool true)), none, [3, 4, 0, 1, 2, 3, 4]⟩] true)
 (.seq (.block 0 (.loop none (.seq (.seq (.region [⟨some 21, .load false 1 (.t 6), none, []⟩,
  ⟨some 22, .len false (.t 21), none, [0]⟩,
  ⟨some 23, .bin .gtr .none (.t 22) (.c (.int .i64 0)), none, [1]⟩] false)
 (.cond (.t 23) .skip (.exit 0)))
 (.block 1 (.seq (.region [⟨some 24, .load false 1 (.t 6), none, []⟩,
  ⟨some 25, .load false 1 (.t 6), none, []⟩,
  ⟨some 26, .len false (.t 25), none, [1]⟩,
  ⟨some 27, .bin .sub .none (.t 26) (.c (.int .i64 1)), none, [2]⟩,
  ⟨some 28, .iaddr 3 (.t 24) (.t 27), none, [0, 3]⟩,
  ⟨some 29, .load true 3 (.t 28), none, [4]⟩,
  ⟨some 7, .alloc [(.int .i64 0), (.int .i64 0), (.int .i64 0)], none, []⟩,
  ⟨none, .store 3 (.t 7) (.t 29), none, [6, 5, 0, 1, 2, 3, 4, 5, 6]⟩] false)
 (.seq (.region [⟨some 30, .load false 1 (.t 6), none, []⟩,
  ⟨some 31, .load false 1 (.t 6), none, []⟩,
  ⟨some 32, .len false (.t 31), none, [1]⟩,
  ⟨some 33, .bin .sub .none (.t 32) (.c (.int .i64 1)), none, [2]⟩,
  ⟨some 34, .slc 3 (.t 30) none (some (.t 33)) none, none, [0, 3]⟩,
  ⟨none, .store 1 (.t 6) (.t 34), none, [4, 0, 1, 2, 3, 4]⟩] false)
 (.seq (.seq (.region [⟨some 35, .load false 1 (.t 5), none, []⟩,
  ⟨some 36, .nilchk (.t 35), none, [0]⟩,
  ⟨some 37, .faddr 1 (.t 36), none, [1]⟩,
  ⟨some 38, .load false 1 (.t 37), none, [2]⟩,
  ⟨some 39, .load true 3 (.t 7), none, []⟩,
  ⟨some 40, .lookup (.flat [.i, .i, .i]) (.bool false) false (.t 38) (.t 39), none, [3, 4]⟩,
  ⟨some 41, .un .not (.t 40), none, [5]⟩] true)
 (.cond (.t 41) (.exit 1) .skip))
 (.seq (.region [⟨some 42, .load false 1 (.t 5), none, []⟩,
  ⟨some 43, .nilchk (.t 42), none, [0]⟩,
  ⟨some 44, .faddr 0 (.t 43), none, [1]⟩,
  ⟨some 45, .load false 1 (.t 44), none, [2]⟩,
  ⟨some 46, .load true 3 (.t 7), none, []⟩,
  ⟨some 47, .mkfn 126 [(.t 5), (.t 6), (.t 7)], none, []⟩,
  ⟨some 48, .call (.t 45) [(.t 46), (.t 47)], none, [3, 4, 5]⟩,
  ⟨some 8, .mov (.t 48), none, [6, 6, 0, 1, 2, 3, 4, 5, 6]⟩] true)
 (.seq (.seq (.region [⟨some 49, .mov (.t 8), none, []⟩] false)
 (.cond (.t 49) (.exit 1) .skip))
 (.seq (.region [⟨some 50, .load false 1 (.t 5), none, []⟩,
  ⟨some 51, .nilchk (.t 50), none, [0]⟩,
  ⟨some 52, .faddr 1 (.t 51), none, [1]⟩,
  ⟨some 53, .load false 1 (.t 52), none, [2]⟩,
  ⟨some 54, .load true 3 (.t 7), none, []⟩,
  ⟨none, .mapset (.flat [.i, .i, .i]) (.t 53) (.t 54) (.c (.bool false)), none, [3, 4, 0, 1, 2, 3, 4]⟩] true)
 (.seq (.region [⟨some 55, .load false 1 (.t 6), none, []⟩,
  ⟨some 56, .load false 1 (.t 5), none, []⟩,
  ⟨some 57, .nilchk (.t 56), none, [1]⟩,
  ⟨some 58, .faddr 2 (.t 57), none, [2]⟩,
  ⟨some 59, .load false 1 (.t 58), none, [3]⟩,
  ⟨some 60, .load true 3 (.t 7), none, []⟩,
  ⟨some 61, .lookup (.flat [.i, .i, .i]) .nilsl false (.t 59) (.t 60), none, [4, 5]⟩,
  ⟨some 62, .append 3 24 (.t 55) (.t 61), none, [0, 6]⟩,
  ⟨none, .store 1 (.t 6) (.t 62), none, [7, 7, 0, 1, 2, 3, 4, 5, 6, 7]⟩] true)
 (.region [⟨some 63, .load false 1 (.t 5), none, []⟩,
  ⟨some 64, .nilchk (.t 63), none, [0]⟩,
  ⟨some 65, .faddr 2 (.t 64), none, [1]⟩,
  ⟨some 66, .load false 1 (.t 65), none, [2]⟩,
  ⟨some 67, .load true 3 (.t 7), none, []⟩,
  ⟨none, .mapdel (.flat [.i, .i, .i]) (.t 66) (.t 67), none, [3, 4]⟩] true))))))))))))
 (.seq (.region [⟨some 68, .load false 1 (.t 5), none, []⟩,
  ⟨some 69, .nilchk (.t 68), none, [0]⟩,
  ⟨some 70, .faddr 1 (.t 69), none, [1]⟩,
  ⟨some 71, .load false 1 (.t 70), none, [2]⟩,
  ⟨some 72, .load true 3 (.t 2), none, []⟩,
  ⟨some 73, .lookup (.flat [.i, .i, .i]) (.bool false) false (.t 71) (.t 72), none, [3, 4]⟩,
  ⟨some 4, .mov (.t 73), none, [5, 0, 1, 2, 3, 4, 5]⟩] true)
 .ret)))))),
 [.tmp 4], 74⟩

/-- protean/types.In$1 -/
def v70 : VFunc := ⟨(.seq (.region [⟨some 5, .bx (.t 0), none, []⟩,
  ⟨some 6, .bx (.t 1), none, []⟩,
  ⟨some 7, .mov (.c (.bool false)), none, []⟩] false)
 (.seq (.region [⟨some 9, .load false 1 (.t 2), none, []⟩,
  ⟨some 10, .faddr 2 (.t 5), none, []⟩,
  ⟨some 11, .load false 1 (.t 10), none, [1]⟩,
  ⟨some 12, .iaddr 3 (.t 9) (.t 11), none, [0, 2]⟩,
  ⟨some 13, .load true 3 (.t 12), none, [3]⟩,
  ⟨some 8, .alloc [(.int .i64 0), .nilsl, .nilsl], none, []⟩,
  ⟨none, .store 3 (.t 8) (.t 13), none, [5, 4, 0, 1, 2, 3, 4, 5]⟩] false)
 (.seq (.block 0 (.seq (.region [⟨some 15, .faddr 0 (.t 8), none, []⟩,
  ⟨some 16, .load false 1 (.t 15), none, [0]⟩,
  ⟨some 17, .bin .eql .none (.t 16) (.c (.int .i64 0)), none, [1]⟩,
  ⟨some 14, .mov (.t 17), none, [2]⟩] false)
 (.cond (.t 14) (.seq (.region [⟨some 7, .mov (.c (.bool true)), none, []⟩] false)
 .ret) (.seq (.region [⟨some 19, .faddr 0 (.t 8), none, []⟩,
  ⟨some 20, .load false 1 (.t 19), none, [0]⟩,
  ⟨some 21, .bin .eql .none (.t 20) (.c (.int .i64 5)), none, [1]⟩,
  ⟨some 18, .mov (.t 21), none, [2]⟩] false)
 (.cond (.t 18) (.seq (.region [⟨some 22, .faddr 2 (.t 8), none, []⟩,
  ⟨some 23, .load false 1 (.t 22), none, [0]⟩,
  ⟨some 24, .mkfn 71 [(.t 6), (.t 5)], none, []⟩,
  ⟨some 25, .call (.c (.fn 60 [])) [(.t 23), (.t 24)], none, [1, 2]⟩,
  ⟨some 26, .un .not (.t 25), none, [3]⟩,
  ⟨some 7, .mov (.t 26), none, [4, 3, 0, 1, 2, 3, 4]⟩] false)
 .ret) (.seq (.region [⟨some 28, .load false 1 (.t 3), none, []⟩,
  ⟨some 29, .faddr 0 (.t 8), none, []⟩,
  ⟨some 30, .load false 1 (.t 29), none, [1]⟩,
  ⟨some 31, .lookup (.one .i) (.int .i64 0) false (.t 28) (.t 30), none, [0, 2]⟩,
  ⟨some 32, .faddr 0 (.t 5), none, []⟩,
  ⟨some 33, .faddr 0 (.t 32), none, [4]⟩,
  ⟨some 34, .load false 1 (.t 33), none, [5]⟩,
  ⟨some 35, .bin .neq .none (.t 31) (.t 34), none, [3, 6]⟩,
  ⟨some 27, .mov (.t 35), none, [7]⟩] false)
 (.cond (.t 27) (.seq (.region [⟨some 7, .mov (.c (.bool false)), none, []⟩] false)
 .ret) .skip)))))))
 (.seq (.region [⟨some 36, .faddr 1 (.t 8), none, []⟩,
  ⟨some 37, .load false 1 (.t 36), none, [0]⟩,
  ⟨some 38, .mkfn 72 [(.t 4), (.t 5), (.t 6)], none, []⟩,
  ⟨some 39, .call (.c (.fn 63 [])) [(.t 37), (.t 38)], none, [1, 2]⟩,
  ⟨some 7, .mov (.t 39), none, [3, 3, 0, 1, 2, 3]⟩] false)
 .ret)))),
 [.tmp 7], 40⟩

/-- protean/types.In$1$1 -/
def v71 : VFunc := ⟨(.seq (.region [⟨some 4, .mov (.c (.bool false)), none, []⟩] false)
 (.seq (.region [⟨some 5, .load false 1 (.t 1), none, []⟩,
  ⟨some 6, .faddr 0 (.t 2), none, []⟩,
  ⟨some 7, .load true 2 (.t 6), none, [1]⟩,
  ⟨some 8, .mov (.t 0), none, []⟩,
  ⟨some 9, .build [(.int .i64 0), (.int .i64 0), (.int .i64 0)] [(0, 2, (.t 7)), (2, 1, (.t 8))], none, [2, 3]⟩,
  ⟨some 10, .call (.t 5) [(.t 9)], none, [0, 4]⟩,
  ⟨some 11, .un .not (.t 10), none, [5]⟩,
  ⟨some 4, .mov (.t 11), none, [6, 5, 0, 1, 2, 3, 4, 5, 6]⟩] false)
 .ret)),
 [.tmp 4], 12⟩

/-- protean/types.In$1$2 -/
def v72 : VFunc := ⟨(.seq (.region [⟨some 4, .bx (.t 0), none, []⟩,
  ⟨some 5, .mov (.c (.bool false)), none, []⟩] false)
 (.seq (.region [⟨some 9, .load false 1 (.t 1), none, []⟩,
  ⟨some 10, .faddr 0 (.t 2), none, []⟩,
  ⟨some 11, .load true 2 (.t 10), none, [1]⟩,
  ⟨some 12, .faddr 0 (.t 4), none, []⟩,
  ⟨some 13, .load false 1 (.t 12), none, [3]⟩,
  ⟨some 14, .call (.c (.fn 73 [])) [(.t 9), (.t 11), (.t 13)], none, [0, 2, 4]⟩,
  ⟨some 8, .mov (.t 14), none, [5]⟩,
  ⟨some 15, .ext (.t 8) 0, none, [6]⟩,
  ⟨some 16, .ext (.t 8) 1, none, [6]⟩,
  ⟨some 6, .alloc [(.int .i64 0), (.int .i64 0)], none, []⟩,
  ⟨none, .store 2 (.t 6) (.t 15), none, [9, 7, 5, 0, 1, 2, 3, 4, 5, 6, 7, 9]⟩,
  ⟨some 7, .mov (.t 16), none, [8, 10, 0, 1, 2, 3, 4, 5, 6, 7, 8, 9, 10]⟩] false)
 (.seq (.region [⟨some 17, .mov (.t 7), none, []⟩,
  ⟨some 18, .mov (.t 17), none, [0]⟩,
  ⟨some 19, .load false 1 (.t 3), some (18, true), [1]⟩,
  ⟨some 20, .load true 2 (.t 6), some (18, true), [1]⟩,
  ⟨some 21, .faddr 1 (.t 4), some (18, true), [1]⟩,
  ⟨some 22, .load false 1 (.t 21), some (18, true), [4, 1]⟩,
  ⟨some 23, .build [(.int .i64 0), (.int .i64 0), (.int .i64 0)] [(0, 2, (.t 20)), (2, 1, (.t 22))], some (18, true), [3, 5, 1]⟩,
  ⟨some 24, .call (.t 19) [(.t 23)], some (18, true), [2, 6, 1, 1]⟩,
  ⟨some 25, .pick (.t 18) (.t 24) (.c (.bool false)), none, [1, 7]⟩,
  ⟨some 5, .mov (.t 25), none, [8, 7, 0, 1, 2, 3, 4, 5, 6, 7, 8]⟩] false)
 .ret))),
 [.tmp 5], 26⟩

/-- protean/store.Look -/
def v73 : VFunc := ⟨(.seq (.region [⟨some 4, .bx (.t 1), none, []⟩,
  ⟨some 6, .alloc [(.int .i64 0), (.int .i64 0)], none, []⟩,
  ⟨some 7, .mov (.c (.bool false)), none, []⟩] false)
 (.seq (.block 0 (.loop (some ([0, 2, 4, 6], [4, 6])) (.seq (.seq (.region [⟨some 11, .faddr 0 (.t 4), none, []⟩,
  ⟨some 12, .load false 1 (.t 11), none, [0]⟩,
  ⟨some 13, .bin .eql .none (.t 12) (.c (.int .i64 4)), none, [1]⟩,
  ⟨some 14, .mov (.t 13), none, [2]⟩,
  ⟨some 15, .mov (.t 0), some (14, true), [3]⟩,
  ⟨some 16, .load true 2 (.t 4), some (14, true), [3]⟩,
  ⟨some 17, .call (.c (.fn 68 [])) [(.t 15), (.t 16)], some (14, true), [4, 5, 3, 3]⟩,
  ⟨some 18, .pick (.t 14) (.t 17) (.c (.bool false)), none, [3, 6]⟩] false)
 (.cond (.t 18) .skip (.exit 0)))
 (.block 1 (.seq (.region [⟨some 19, .mov (.t 0), none, []⟩,
  ⟨some 20, .faddr 1 (.t 4), none, []⟩,
  ⟨some 21, .load false 1 (.t 20), none, [1]⟩,
  ⟨some 22, .iaddr 3 (.t 19) (.t 21), none, [0, 2]⟩,
  ⟨some 23, .load true 3 (.t 22), none, [3]⟩,
  ⟨some 8, .alloc [.nilsl, (.int .i64 0), (.int .i64 0)], none, []⟩,
  ⟨none, .store 3 (.t 8) (.t 23), none, [5, 4, 0, 1, 2, 3, 4, 5]⟩] false)
 (.seq (.seq (.region [⟨some 25, .load true 3 (.t 8), none, []⟩,
  ⟨some 26, .mov (.t 2), none, []⟩,
  ⟨some 27, .call (.c (.fn 127 [])) [(.t 25), (.t 26)], none, [0, 1]⟩,
  ⟨some 24, .mov (.t 27), none, [2]⟩,
  ⟨some 28, .ext (.t 24) 0, none, [3]⟩,
  ⟨some 29, .ext (.t 24) 1, none, [3]⟩,
  ⟨some 9, .mov (.t 28), none, [4, 2, 0, 1, 2, 3, 4]⟩,
  ⟨some 10, .mov (.t 29), none, [5, 6, 0, 1, 2, 3, 4, 5, 6]⟩] false)
 (.seq (.region [⟨some 30, .mov (.t 10), none, []⟩] false)
 (.cond (.t 30) (.seq (.region [⟨some 31, .faddr 0 (.t 8), none, []⟩,
  ⟨some 32, .load false 1 (.t 31), none, [0]⟩,
  ⟨some 33, .mov (.t 9), none, []⟩,
  ⟨some 34, .iaddr 3 (.t 32) (.t 33), none, [1, 2]⟩,
  ⟨some 35, .faddr 1 (.t 34), none, [3]⟩,
  ⟨some 36, .load true 2 (.t 35), none, [4]⟩,
  ⟨none, .store 2 (.t 6) (.t 36), none, [5, 0, 1, 2, 3, 4, 5]⟩,
  ⟨some 7, .mov (.c (.bool true)), none, [6, 0, 1, 2, 3, 4, 5, 6]⟩] false)
 .ret) .skip)))
 (.region [⟨some 37, .faddr 1 (.t 8), none, []⟩,
  ⟨some 38, .load true 2 (.t 37), none, [0]⟩,
  ⟨none, .store 2 (.t 4) (.t 38), none, [1, 0, 1]⟩] false)))))))
 (.seq (.region [⟨some 39, .build [(.int .i64 0), (.int .i64 0)] [], none, []⟩,
  ⟨none, .store 2 (.t 6) (.t 39), none, [0, 0]⟩,
  ⟨some 7, .mov (.c (.bool false)), none, [1, 0, 1]⟩] false)
 .ret))),
 [.cell 6 true 2, .tmp 7], 40⟩

/-- slices.IndexFunc[[]int,int] -/
def v120 : VFunc := ⟨(.seq (.region [⟨some 4, .mov (.c (.int .i64 0)), none, []⟩] false)
 (.seq (.seq (.region [⟨some 6, .mov (.t 0), none, []⟩,
  ⟨some 7, .len false (.t 6), none, [0]⟩,
  ⟨some 8, .mov (.c (.int .i64 0)), none, []⟩] false)
 (.block 0 (.loop (some ([0, 1, 7, 8], [])) (.seq (.region [⟨some 9, .bin .lss .none (.t 8) (.t 7), none, []⟩] false)
 (.seq (.cond (.t 9) .skip (.exit 0))
 (.seq (.block 1 (.seq (.region [⟨some 10, .mov (.t 8), none, []⟩,
  ⟨some 5, .mov (.t 10), none, [0, 0]⟩] false)
 (.seq (.region [⟨some 11, .mov (.t 1), none, []⟩,
  ⟨some 12, .mov (.t 0), none, []⟩,
  ⟨some 13, .mov (.t 5), none, []⟩,
  ⟨some 14, .iaddr 1 (.t 12) (.t 13), none, [1, 2]⟩,
  ⟨some 15, .load false 1 (.t 14), none, [3]⟩,
  ⟨some 16, .call (.t 11) [(.t 15)], none, [0, 4]⟩] false)
 (.cond (.t 16) (.seq (.region [⟨some 17, .mov (.t 5), none, []⟩,
  ⟨some 4, .mov (.t 17), none, [0, 0]⟩] false)
 .ret) .skip))))
 (.region [⟨some 18, .bin .add .none (.t 8) (.c (.int .i64 1)), none, []⟩,
  ⟨some 8, .mov (.t 18), none, [0]⟩] false)))))))
 (.seq (.region [⟨some 4, .mov (.c (.int .i64 (-1))), none, []⟩] false)
 .ret))),
 [.tmp 4], 19⟩

/-- protean/types.Solve[protean/types.pair]$1 -/
def v121 : VFunc := ⟨(.seq (.region [⟨some 4, .bx (.t 0), none, []⟩,
  ⟨some 5, .mov (.c (.bool false)), none, []⟩] false)
 (.seq (.region [⟨some 9, .load false 1 (.t 1), none, []⟩,
  ⟨some 10, .nilchk (.t 9), none, [0]⟩,
  ⟨some 11, .faddr 1 (.t 10), none, [1]⟩,
  ⟨some 12, .load false 1 (.t 11), none, [2]⟩,
  ⟨some 13, .load true 2 (.t 4), none, []⟩,
  ⟨some 14, .lookup (.flat [.i, .i]) (.bool false) true (.t 12) (.t 13), none, [3, 4]⟩,
  ⟨some 8, .mov (.t 14), none, [5]⟩,
  ⟨some 15, .ext (.t 8) 0, none, [6]⟩,
  ⟨some 16, .ext (.t 8) 1, none, [6]⟩,
  ⟨some 6, .mov (.t 15), none, [7, 0, 1, 2, 3, 4, 5, 6, 7]⟩,
  ⟨some 7, .mov (.t 16), none, [8, 9, 0, 1, 2, 3, 4, 5, 6, 7, 8, 9]⟩] true)
 (.seq (.seq (.region [⟨some 17, .mov (.t 7), none, []⟩,
  ⟨some 18, .un .not (.t 17), none, [0]⟩] false)
 (.cond (.t 18) (.seq (.region [⟨some 19, .load false 1 (.t 1), none, []⟩,
  ⟨some 20, .nilchk (.t 19), none, [0]⟩,
  ⟨some 21, .faddr 1 (.t 20), none, [1]⟩,
  ⟨some 22, .load false 1 (.t 21), none, [2]⟩,
  ⟨some 23, .load true 2 (.t 4), none, []⟩,
  ⟨none, .mapset (.flat [.i, .i]) (.t 22) (.t 23) (.c (.bool true)), none, [3, 4, 0, 1, 2, 3, 4]⟩] true)
 (.seq (.region [⟨some 6, .mov (.c (.bool true)), none, []⟩] false)
 (.region [⟨some 24, .load false 1 (.t 2), none, []⟩,
  ⟨some 25, .load true 2 (.t 4), none, []⟩,
  ⟨some 26, .bsliceA [(.int .i64 0), (.int .i64 0)] 1 [(0, (.t 25))], none, [1]⟩,
  ⟨some 27, .append 2 16 (.t 24) (.t 26), none, [0, 2]⟩,
  ⟨none, .store 1 (.t 2) (.t 27), none, [3, 3, 0, 1, 2, 3]⟩] false))) .skip))
 (.seq (.region [⟨some 28, .load false 1 (.t 1), none, []⟩,
  ⟨some 29, .nilchk (.t 28), none, [0]⟩,
  ⟨some 30, .faddr 2 (.t 29), none, [1]⟩,
  ⟨some 31, .load false 1 (.t 30), none, [2]⟩,
  ⟨some 32, .load true 2 (.t 4), none, []⟩,
  ⟨some 33, .load false 1 (.t 1), none, []⟩,
  ⟨some 34, .nilchk (.t 33), none, [5]⟩,
  ⟨some 35, .faddr 2 (.t 34), none, [6]⟩,
  ⟨some 36, .load false 1 (.t 35), none, [7]⟩,
  ⟨some 37, .load true 2 (.t 4), none, []⟩,
  ⟨some 38, .lookup (.flat [.i, .i]) .nilsl false (.t 36) (.t 37), none, [8, 9]⟩,
  ⟨some 39, .load true 2 (.t 3), none, []⟩,
  ⟨some 40, .bsliceA [(.int .i64 0), (.int .i64 0)] 1 [(0, (.t 39))], none, [11]⟩,
  ⟨some 41, .append 2 16 (.t 38) (.t 40), none, [10, 12]⟩,
  ⟨none, .mapset (.flat [.i, .i]) (.t 31) (.t 32) (.t 41), none, [3, 4, 13, 13, 0, 1, 2, 3, 4, 5, 6, 7, 8, 9, 10, 11, 12, 13]⟩] true)
 (.seq (.region [⟨some 42, .mov (.t 6), none, []⟩,
  ⟨some 5, .mov (.t 42), none, [0, 0]⟩] false)
 .ret))))),
 [.tmp 5], 43⟩

/-- slices.BinarySearchFunc[[]protean/api.TField,protean/api.TField,string] -/
def v122 : VFunc := ⟨(.seq (.region [⟨some 6, .mov (.c (.int .i64 0)), none, []⟩,
  ⟨some 7, .mov (.c (.bool false)), none, [0]⟩] false)
 (.seq (.region [⟨some 12, .mov (.t 0), none, []⟩,
  ⟨some 13, .len false (.t 12), none, [0]⟩,
  ⟨some 8, .mov (.t 13), none, [1, 0, 1]⟩] false)
 (.seq (.region [⟨some 14, .mov (.t 8), none, []⟩,
  ⟨some 9, .mov (.c (.int .i64 0)), none, []⟩,
  ⟨some 10, .mov (.t 14), none, [0, 1, 0, 1]⟩] false)
 (.seq (.block 0 (.loop (some ([0, 1, 2, 8, 9, 10], [])) (.seq (.seq (.region [⟨some 15, .mov (.t 9), none, []⟩,
  ⟨some 16, .mov (.t 10), none, []⟩,
  ⟨some 17, .bin .lss .none (.t 15) (.t 16), none, [0, 1]⟩] false)
 (.cond (.t 17) .skip (.exit 0)))
 (.block 1 (.seq (.region [⟨some 18, .mov (.t 9), none, []⟩,
  ⟨some 19, .mov (.t 10), none, []⟩,
  ⟨some 20, .bin .add .none (.t 18) (.t 19), none, [0, 1]⟩,
  ⟨some 21, .conv .u64 (.t 20), none, [2]⟩,
  ⟨some 22, .bin .shr .none (.t 21) (.c (.int .u64 1)), none, [3]⟩,
  ⟨some 23, .conv .i64 (.t 22), none, [4]⟩,
  ⟨some 11, .mov (.t 23), none, [5, 0, 1, 2, 3, 4, 5]⟩] false)
 (.seq (.region [⟨some 24, .mov (.t 2), none, []⟩,
  ⟨some 25, .mov (.t 0), none, []⟩,
  ⟨some 26, .mov (.t 11), none, []⟩,
  ⟨some 27, .iaddr 2 (.t 25) (.t 26), none, [1, 2]⟩,
  ⟨some 28, .load true 2 (.t 27), none, [3]⟩,
  ⟨some 29, .mov (.t 1), none, []⟩,
  ⟨some 30, .call (.t 24) [(.t 28), (.t 29)], none, [0, 4, 5]⟩,
  ⟨some 31, .bin .lss .none (.t 30) (.c (.int .i64 0)), none, [6]⟩] false)
 (.cond (.t 31) (.region [⟨some 32, .mov (.t 11), none, []⟩,
  ⟨some 33, .bin .add .none (.t 32) (.c (.int .i64 1)), none, [0]⟩,
  ⟨some 9, .mov (.t 33), none, [1, 0, 1]⟩] false) (.region [⟨some 34, .mov (.t 11), none, []⟩,
  ⟨some 10, .mov (.t 34), none, [0, 0]⟩] false))))))))
 (.seq (.region [⟨some 35, .mov (.t 9), none, []⟩,
  ⟨some 36, .mov (.t 9), none, []⟩,
  ⟨some 37, .mov (.t 8), none, []⟩,
  ⟨some 38, .bin .lss .none (.t 36) (.t 37), none, [1, 2]⟩,
  ⟨some 39, .mov (.t 38), none, [3]⟩,
  ⟨some 40, .mov (.t 2), some (39, true), [4]⟩,
  ⟨some 41, .mov (.t 0), some (39, true), [4]⟩,
  ⟨some 42, .mov (.t 9), some (39, true), [4]⟩,
  ⟨some 43, .iaddr 2 (.t 41) (.t 42), some (39, true), [6, 7, 4]⟩,
  ⟨some 44, .load true 2 (.t 43), some (39, true), [8, 4]⟩,
  ⟨some 45, .mov (.t 1), some (39, true), [4]⟩,
  ⟨some 46, .call (.t 40) [(.t 44), (.t 45)], some (39, true), [5, 9, 10, 4, 4]⟩,
  ⟨some 47, .bin .eql .none (.t 46) (.c (.int .i64 0)), some (39, true), [11, 4]⟩,
  ⟨some 48, .pick (.t 39) (.t 47) (.c (.bool false)), none, [4, 12]⟩,
  ⟨some 6, .mov (.t 35), none, [0, 11, 0]⟩,
  ⟨some 7, .mov (.t 48), none, [13, 14, 0, 1, 2, 3, 4, 5, 6, 7, 8, 9, 10, 11, 12, 13, 14]⟩] false)
 .ret))))),
 [.tmp 6, .tmp 7], 49⟩

/-- protean/types.field$1 -/
def v123 : VFunc := ⟨(.seq (.region [⟨some 2, .bx (.t 0), none, []⟩,
  ⟨some 4, .mov (.c (.int .i64 0)), none, []⟩] false)
 (.seq (.region [⟨some 5, .faddr 0 (.t 2), none, []⟩,
  ⟨some 6, .load false 1 (.t 5), none, [0]⟩,
  ⟨some 7, .mov (.t 1), none, []⟩,
  ⟨some 8, .call (.c (.fn 124 [])) [(.t 6), (.t 7)], none, [1, 2]⟩,
  ⟨some 4, .mov (.t 8), none, [3, 3, 0, 1, 2, 3]⟩] false)
 .ret)),
 [.tmp 4], 9⟩

/-- strings.Compare -/
def v124 : VFunc := ⟨(.seq (.region [⟨some 4, .mov (.c (.int .i64 0)), none, []⟩] false)
 (.seq (.region [⟨some 5, .mov (.t 0), none, []⟩,
  ⟨some 6, .mov (.t 1), none, []⟩,
  ⟨some 7, .call (.c (.fn 144 [])) [(.t 5), (.t 6)], none, [0, 1]⟩,
  ⟨some 4, .mov (.t 7), none, [2, 2, 0, 1, 2]⟩] false)
 .ret)),
 [.tmp 4], 8⟩

/-- protean/proteanref24.Field -/
def v125 : VFunc := ⟨(.seq (.region [⟨some 2, .bx (.t 0), none, []⟩,
  ⟨some 4, .mov (.c (.int .i64 0)), none, []⟩,
  ⟨some 5, .mov (.c (.bool false)), none, [1]⟩] false)
 (.seq (.seq (.region [⟨some 6, .mov (.c (.int .i64 0)), none, []⟩] false)
 (.block 0 (.loop (some ([1, 2, 6], [2])) (.seq (.seq (.region [⟨some 7, .mov (.t 6), none, []⟩,
  ⟨some 8, .faddr 1 (.t 2), none, []⟩,
  ⟨some 9, .load false 1 (.t 8), none, [1]⟩,
  ⟨some 10, .len false (.t 9), none, [2]⟩,
  ⟨some 11, .bin .lss .none (.t 7) (.t 10), none, [0, 3]⟩] false)
 (.cond (.t 11) .skip (.exit 0)))
 (.seq (.block 1 (.seq (.region [⟨some 14, .faddr 1 (.t 2), none, []⟩,
  ⟨some 15, .load false 1 (.t 14), none, [0]⟩,
  ⟨some 16, .mov (.t 6), none, []⟩,
  ⟨some 17, .iaddr 2 (.t 15) (.t 16), none, [1, 2]⟩,
  ⟨some 18, .faddr 0 (.t 17), none, [3]⟩,
  ⟨some 19, .load false 1 (.t 18), none, [4]⟩,
  ⟨some 20, .mov (.t 1), none, []⟩,
  ⟨some 21, .bin .eql .none (.t 19) (.t 20), none, [5, 6]⟩] false)
 (.cond (.t 21) (.seq (.region [⟨some 22, .faddr 1 (.t 2), none, []⟩,
  ⟨some 23, .load false 1 (.t 22), none, [0]⟩,
  ⟨some 24, .mov (.t 6), none, []⟩,
  ⟨some 25, .iaddr 2 (.t 23) (.t 24), none, [1, 2]⟩,
  ⟨some 26, .faddr 1 (.t 25), none, [3]⟩,
  ⟨some 27, .load false 1 (.t 26), none, [4]⟩,
  ⟨some 4, .mov (.t 27), none, [5, 0, 1, 2, 3, 4, 5]⟩,
  ⟨some 5, .mov (.c (.bool true)), none, [6, 0, 1, 2, 3, 4, 5, 6]⟩] false)
 .ret) .skip)))
 (.region [⟨some 12, .mov (.t 6), none, []⟩,
  ⟨some 13, .bin .add .none (.t 12) (.c (.int .i64 1)), none, [0]⟩,
  ⟨some 6, .mov (.t 13), none, [1, 0, 1]⟩] false))))))
 (.seq (.region [⟨some 4, .mov (.c (.int .i64 0)), none, []⟩,
  ⟨some 5, .mov (.c (.bool false)), none, [0, 0]⟩] false)
 .ret))),
 [.tmp 4, .tmp 5], 28⟩

/-- protean/types.Solve[protean/types.pair·2]$1 -/
def v126 : VFunc := ⟨(.seq (.region [⟨some 4, .bx (.t 0), none, []⟩,
  ⟨some 5, .mov (.c (.bool false)), none, []⟩] false)
 (.seq (.region [⟨some 9, .load false 1 (.t 1), none, []⟩,
  ⟨some 10, .nilchk (.t 9), none, [0]⟩,
  ⟨some 11, .faddr 1 (.t 10), none, [1]⟩,
  ⟨some 12, .load false 1 (.t 11), none, [2]⟩,
  ⟨some 13, .load true 3 (.t 4), none, []⟩,
  ⟨some 14, .lookup (.flat [.i, .i, .i]) (.bool false) true (.t 12) (.t 13), none, [3, 4]⟩,
  ⟨some 8, .mov (.t 14), none, [5]⟩,
  ⟨some 15, .ext (.t 8) 0, none, [6]⟩,
  ⟨some 16, .ext (.t 8) 1, none, [6]⟩,
  ⟨some 6, .mov (.t 15), none, [7, 0, 1, 2, 3, 4, 5, 6, 7]⟩,
  ⟨some 7, .mov (.t 16), none, [8, 9, 0, 1, 2, 3, 4, 5, 6, 7, 8, 9]⟩] true)
 (.seq (.seq (.region [⟨some 17, .mov (.t 7), none, []⟩,
  ⟨some 18, .un .not (.t 17), none, [0]⟩] false)
 (.cond (.t 18) (.seq (.region [⟨some 19, .load false 1 (.t 1), none, []⟩,
  ⟨some 20, .nilchk (.t 19), none, [0]⟩,
  ⟨some 21, .faddr 1 (.t 20), none, [1]⟩,
  ⟨some 22, .load false 1 (.t 21), none, [2]⟩,
  ⟨some 23, .load true 3 (.t 4), none, []⟩,
  ⟨none, .mapset (.flat [.i, .i, .i]) (.t 22) (.t 23) (.c (.bool true)), none, [3, 4, 0, 1, 2, 3, 4]⟩] true)
 (.seq (.region [⟨some 6, .mov (.c (.bool true)), none, []⟩] false)
 (.region [⟨some 24, .load false 1 (.t 2), none, []⟩,
  ⟨some 25, .load true 3 (.t 4), none, []⟩,
  ⟨some 26, .bsliceA [(.int .i64 0), (.int .i64 0), (.int .i64 0)] 1 [(0, (.t 25))], none, [1]⟩,
  ⟨some 27, .append 3 24 (.t 24) (.t 26), none, [0, 2]⟩,
  ⟨none, .store 1 (.t 2) (.t 27), none, [3, 3, 0, 1, 2, 3]⟩] false))) .skip))
 (.seq (.region [⟨some 28, .load false 1 (.t 1), none, []⟩,
  ⟨some 29, .nilchk (.t 28), none, [0]⟩,
  ⟨some 30, .faddr 2 (.t 29), none, [1]⟩,
  ⟨some 31, .load false 1 (.t 30), none, [2]⟩,
  ⟨some 32, .load true 3 (.t 4), none, []⟩,
  ⟨some 33, .load false 1 (.t 1), none, []⟩,
  ⟨some 34, .nilchk (.t 33), none, [5]⟩,
  ⟨some 35, .faddr 2 (.t 34), none, [6]⟩,
  ⟨some 36, .load false 1 (.t 35), none, [7]⟩,
  ⟨some 37, .load true 3 (.t 4), none, []⟩,
  ⟨some 38, .lookup (.flat [.i, .i, .i]) .nilsl false (.t 36) (.t 37), none, [8, 9]⟩,
  ⟨some 39, .load true 3 (.t 3), none, []⟩,
  ⟨some 40, .bsliceA [(.int .i64 0), (.int .i64 0), (.int .i64 0)] 1 [(0, (.t 39))], none, [11]⟩,
  ⟨some 41, .append 3 24 (.t 38) (.t 40), none, [10, 12]⟩,
  ⟨none, .mapset (.flat [.i, .i, .i]) (.t 31) (.t 32) (.t 41), none, [3, 4, 13, 13, 0, 1, 2, 3, 4, 5, 6, 7, 8, 9, 10, 11, 12, 13]⟩] true)
 (.seq (.region [⟨some 42, .mov (.t 6), none, []⟩,
  ⟨some 5, .mov (.t 42), none, [0, 0]⟩] false)
 .ret))))),
 [.tmp 5], 43⟩

/-- protean/store.find -/
def v127 : VFunc := ⟨(.seq (.region [⟨some 2, .bx (.t 0), none, []⟩,
  ⟨some 4, .mov (.c (.int .i64 0)), none, []⟩,
  ⟨some 5, .mov (.c (.bool false)), none, [1]⟩] false)
 (.seq (.region [⟨some 6, .faddr 0 (.t 2), none, []⟩,
  ⟨some 7, .load false 1 (.t 6), none, [0]⟩,
  ⟨some 8, .mov (.t 1), none, []⟩,
  ⟨some 9, .call (.c (.fn 145 [])) [(.t 7), (.t 8), (.c (.fn 146 []))], none, [1, 2]⟩,
  ⟨some 10, .ext (.t 9) 0, none, [3]⟩,
  ⟨some 11, .ext (.t 9) 1, none, [3]⟩,
  ⟨some 4, .mov (.t 10), none, [4, 3, 0, 1, 2, 3, 4, 5]⟩,
  ⟨some 5, .mov (.t 11), none, [5, 6, 0, 1, 2, 3, 4, 5, 6]⟩] false)
 .ret)),
 [.tmp 4, .tmp 5], 12⟩

/-- internal/bytealg.CompareString -/
def v144 : VFunc := ⟨(.seq (.region [⟨some 4, .mov (.c (.int .i64 0)), none, []⟩] false)
 (.seq (.region [⟨some 5, .mov (.t 0), none, []⟩,
  ⟨some 6, .mov (.t 1), none, []⟩,
  ⟨some 7, .call (.c (.fn 152 [])) [(.t 5), (.t 6)], none, [0, 1]⟩,
  ⟨some 4, .mov (.t 7), none, [2, 2, 0, 1, 2]⟩] false)
 .ret)),
 [.tmp 4], 8⟩

/-- slices.BinarySearchFunc[[]protean/api.Prop,protean/api.Prop,string] -/
def v145 : VFunc := ⟨(.seq (.region [⟨some 6, .mov (.c (.int .i64 0)), none, []⟩,
  ⟨some 7, .mov (.c (.bool false)), none, [0]⟩] false)
 (.seq (.region [⟨some 12, .mov (.t 0), none, []⟩,
  ⟨some 13, .len false (.t 12), none, [0]⟩,
  ⟨some 8, .mov (.t 13), none, [1, 0, 1]⟩] false)
 (.seq (.region [⟨some 14, .mov (.t 8), none, []⟩,
  ⟨some 9, .mov (.c (.int .i64 0)), none, []⟩,
  ⟨some 10, .mov (.t 14), none, [0, 1, 0, 1]⟩] false)
 (.seq (.block 0 (.loop (some ([0, 1, 2, 8, 9, 10], [])) (.seq (.seq (.region [⟨some 15, .mov (.t 9), none, []⟩,
  ⟨some 16, .mov (.t 10), none, []⟩,
  ⟨some 17, .bin .lss .none (.t 15) (.t 16), none, [0, 1]⟩] false)
 (.cond (.t 17) .skip (.exit 0)))
 (.block 1 (.seq (.region [⟨some 18, .mov (.t 9), none, []⟩,
  ⟨some 19, .mov (.t 10), none, []⟩,
  ⟨some 20, .bin .add .none (.t 18) (.t 19), none, [0, 1]⟩,
  ⟨some 21, .conv .u64 (.t 20), none, [2]⟩,
  ⟨some 22, .bin .shr .none (.t 21) (.c (.int .u64 1)), none, [3]⟩,
  ⟨some 23, .conv .i64 (.t 22), none, [4]⟩,
  ⟨some 11, .mov (.t 23), none, [5, 0, 1, 2, 3, 4, 5]⟩] false)
 (.seq (.region [⟨some 24, .mov (.t 2), none, []⟩,
  ⟨some 25, .mov (.t 0), none, []⟩,
  ⟨some 26, .mov (.t 11), none, []⟩,
  ⟨some 27, .iaddr 3 (.t 25) (.t 26), none, [1, 2]⟩,
  ⟨some 28, .load true 3 (.t 27), none, [3]⟩,
  ⟨some 29, .mov (.t 1), none, []⟩,
  ⟨some 30, .call (.t 24) [(.t 28), (.t 29)], none, [0, 4, 5]⟩,
  ⟨some 31, .bin .lss .none (.t 30) (.c (.int .i64 0)), none, [6]⟩] false)
 (.cond (.t 31) (.region [⟨some 32, .mov (.t 11), none, []⟩,
  ⟨some 33, .bin .add .none (.t 32) (.c (.int .i64 1)), none, [0]⟩,
  ⟨some 9, .mov (.t 33), none, [1, 0, 1]⟩] false) (.region [⟨some 34, .mov (.t 11), none, []⟩,
  ⟨some 10, .mov (.t 34), none, [0, 0]⟩] false))))))))
 (.seq (.region [⟨some 35, .mov (.t 9), none, []⟩,
  ⟨some 36, .mov (.t 9), none, []⟩,
  ⟨some 37, .mov (.t 8), none, []⟩,
  ⟨some 38, .bin .lss .none (.t 36) (.t 37), none, [1, 2]⟩,
  ⟨some 39, .mov (.t 38), none, [3]⟩,
  ⟨some 40, .mov (.t 2), some (39, true), [4]⟩,
  ⟨some 41, .mov (.t 0), some (39, true), [4]⟩,
  ⟨some 42, .mov (.t 9), some (39, true), [4]⟩,
  ⟨some 43, .iaddr 3 (.t 41) (.t 42), some (39, true), [6, 7, 4]⟩,
  ⟨some 44, .load true 3 (.t 43), some (39, true), [8, 4]⟩,
  ⟨some 45, .mov (.t 1), some (39, true), [4]⟩,
  ⟨some 46, .call (.t 40) [(.t 44), (.t 45)], some (39, true), [5, 9, 10, 4, 4]⟩,
  ⟨some 47, .bin .eql .none (.t 46) (.c (.int .i64 0)), some (39, true), [11, 4]⟩,
  ⟨some 48, .pick (.t 39) (.t 47) (.c (.bool false)), none, [4, 12]⟩,
  ⟨some 6, .mov (.t 35), none, [0, 11, 0]⟩,
  ⟨some 7, .mov (.t 48), none, [13, 14, 0, 1, 2, 3, 4, 5, 6, 7, 8, 9, 10, 11, 12, 13, 14]⟩] false)
 .ret))))),
 [.tmp 6, .tmp 7], 49⟩

/-- protean/store.find$1 -/
def v146 : VFunc := ⟨(.seq (.region [⟨some 2, .bx (.t 0), none, []⟩,
  ⟨some 4, .mov (.c (.int .i64 0)), none, []⟩] false)
 (.seq (.region [⟨some 5, .faddr 0 (.t 2), none, []⟩,
  ⟨some 6, .load false 1 (.t 5), none, [0]⟩,
  ⟨some 7, .mov (.t 1), none, []⟩,
  ⟨some 8, .call (.c (.fn 124 [])) [(.t 6), (.t 7)], none, [1, 2]⟩,
  ⟨some 4, .mov (.t 8), none, [3, 3, 0, 1, 2, 3]⟩] false)
 .ret)),
 [.tmp 4], 9⟩

def codeTy : FuncId → Option VFunc
  | 3 => some v3
  | 4 => some v4
  | 5 => some v5
  | 6 => some v6
  | 13 => some v13
  | 14 => some v14
  | 15 => some v15
  | 16 => some v16
  | 17 => some v17
  | 18 => some v18
  | 19 => some v19
  | 20 => some v20
  | 21 => some v21
  | 22 => some v22
  | 23 => some v23
  | 40 => some v40
  | 54 => some v54
  | 55 => some v55
  | 56 => some v56
  | 57 => some v57
  | 58 => some v58
  | 59 => some v59
  | 60 => some v60
  | 61 => some v61
  | 62 => some v62
  | 63 => some v63
  | 64 => some v64
  | 65 => some v65
  | 66 => some v66
  | 67 => some v67
  | 68 => some v68
  | 69 => some v69
  | 70 => some v70
  | 71 => some v71
  | 72 => some v72
  | 73 => some v73
  | 120 => some v120
  | 121 => some v121
  | 122 => some v122
  | 123 => some v123
  | 124 => some v124
  | 125 => some v125
  | 126 => some v126
  | 127 => some v127
  | 144 => some v144
  | 145 => some v145
  | 146 => some v146
  | _ => none
def shTy : FuncId → Bool
  | 58 => true
  | 59 => true
  | 60 => true
  | 61 => true
  | 62 => true
  | 63 => true
  | 64 => true
  | 69 => true
  | 70 => true
  | 71 => true
  | 72 => true
  | 121 => true
  | 126 => true
  | _ => false
end Go.VM
