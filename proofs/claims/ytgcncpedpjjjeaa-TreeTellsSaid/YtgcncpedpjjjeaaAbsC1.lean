/- The program's functions as codes of the abstract interpreter, and that each is the program's own. Printed by wip/abs/absgen.py and codetext.py. -/
import Derived.Test.YtgcncpedpjjjeaaAbsB
import Derived.Test.YtgcncpedpjjjeaaProg
import Derived.KernelRfl
set_option maxRecDepth 100000
set_option linter.all false
set_option linter.unusedVariables false
set_option linter.unusedSimpArgs false
set_option linter.constructorNameAsVariable false
set_option linter.defProp false
namespace Go.Proofs.Abs
open ACode AIns AX
def c3 : ACode :=
(.seq (.reg [⟨(some 5), none, .box (.t 2), []⟩,
  ⟨(some 6), none, .mov (.k (.bool false)), []⟩] [])
(.seq (.seq (.reg [⟨(some 25), none, .mov (.t 0), []⟩,
  ⟨(some 26), none, .call 16 [(true, (.t 25))], []⟩,
  ⟨(some 27), none, .mov (.t 26), []⟩,
  ⟨(some 28), (some (27, false)), .mov (.t 1), []⟩,
  ⟨(some 29), (some (27, false)), .call 16 [(true, (.t 28))], []⟩,
  ⟨(some 30), none, .pick (.t 27) (.k (.bool true)) (.t 29), []⟩,
  ⟨(some 31), none, .mov (.t 30), []⟩,
  ⟨(some 32), (some (31, false)), .faddr 0 (.t 5), []⟩,
  ⟨(some 33), (some (31, false)), .load false 1 (.t 32), []⟩,
  ⟨(some 34), (some (31, false)), .len 1 (.t 33), []⟩,
  ⟨(some 35), (some (31, false)), .bin .gtr 0 (.t 34) (.k (.int .i64 100)), []⟩,
  ⟨(some 36), none, .pick (.t 31) (.k (.bool true)) (.t 35), []⟩,
  ⟨(some 37), none, .mov (.t 36), []⟩,
  ⟨(some 38), (some (37, false)), .faddr 1 (.t 5), []⟩,
  ⟨(some 39), (some (37, false)), .load false 1 (.t 38), []⟩,
  ⟨(some 40), (some (37, false)), .len 1 (.t 39), []⟩,
  ⟨(some 41), (some (37, false)), .bin .gtr 0 (.t 40) (.k (.int .i64 12)), []⟩,
  ⟨(some 42), none, .pick (.t 37) (.k (.bool true)) (.t 41), []⟩,
  ⟨(some 43), none, .mov (.t 42), []⟩,
  ⟨(some 44), (some (43, false)), .mov (.t 0), []⟩,
  ⟨(some 45), (some (43, false)), .len 1 (.t 44), []⟩,
  ⟨(some 46), (some (43, false)), .faddr 1 (.t 5), []⟩,
  ⟨(some 47), (some (43, false)), .load false 1 (.t 46), []⟩,
  ⟨(some 48), (some (43, false)), .len 1 (.t 47), []⟩,
  ⟨(some 49), (some (43, false)), .bin .mul 0 (.t 45) (.t 48), []⟩,
  ⟨(some 50), (some (43, false)), .faddr 1 (.t 5), []⟩,
  ⟨(some 51), (some (43, false)), .load false 1 (.t 50), []⟩,
  ⟨(some 52), (some (43, false)), .len 1 (.t 51), []⟩,
  ⟨(some 53), (some (43, false)), .bin .mul 0 (.t 49) (.t 52), []⟩,
  ⟨(some 54), (some (43, false)), .bin .gtr 0 (.t 53) (.k (.int .i64 20000)), []⟩,
  ⟨(some 55), none, .pick (.t 43) (.k (.bool true)) (.t 54), []⟩] [25, 26, 27, 28, 29, 30, 31, 32, 33, 34, 35, 36, 37, 38, 39, 40, 41, 42, 43, 44, 45, 46, 47, 48, 49, 50, 51, 52, 53, 54])
(.cond (.t 55) [55] (.seq (.reg [⟨(some 56), none, .call 17 [], []⟩,
  ⟨(some 6), none, .mov (.t 56), []⟩] [56])
.ret) .skip))
(.seq (.reg [⟨(some 57), none, .mov (.t 0), []⟩,
  ⟨(some 58), none, .call 18 [(true, (.t 57))], []⟩,
  ⟨(some 59), none, .mov (.t 1), []⟩,
  ⟨(some 60), none, .call 18 [(true, (.t 59))], []⟩,
  ⟨(some 7), none, .mov (.t 58), []⟩,
  ⟨(some 8), none, .mov (.t 60), []⟩] [57, 58, 59, 60])
(.seq (.reg [⟨(some 62), none, .mov (.t 7), []⟩,
  ⟨(some 63), none, .mov (.t 8), []⟩,
  ⟨(some 64), none, .call 19 [(true, (.t 62)), (true, (.t 63))], []⟩,
  ⟨(some 61), none, .mov (.t 64), []⟩,
  ⟨(some 65), none, .ext (.t 61) 0, []⟩,
  ⟨(some 66), none, .ext (.t 61) 1, []⟩,
  ⟨(some 9), none, .mov (.t 65), []⟩,
  ⟨(some 10), none, .mov (.t 66), []⟩] [61, 62, 63, 64, 65, 66])
(.seq (.reg [⟨(some 68), none, .mov (.t 7), []⟩,
  ⟨(some 69), none, .mov (.t 8), []⟩,
  ⟨(some 70), none, .call 20 [(true, (.t 68)), (true, (.t 69))], []⟩,
  ⟨(some 67), none, .mov (.t 70), []⟩,
  ⟨(some 71), none, .ext (.t 67) 0, []⟩,
  ⟨(some 72), none, .ext (.t 67) 1, []⟩,
  ⟨(some 11), none, .mov (.t 71), []⟩,
  ⟨(some 12), none, .mov (.t 72), []⟩] [67, 68, 69, 70, 71, 72])
(.seq (.reg [⟨(some 74), none, .mov (.t 7), []⟩,
  ⟨(some 75), none, .call 21 [(true, (.t 74))], []⟩,
  ⟨(some 73), none, .mov (.t 75), []⟩,
  ⟨(some 76), none, .ext (.t 73) 0, []⟩,
  ⟨(some 77), none, .ext (.t 73) 1, []⟩,
  ⟨(some 13), none, .mov (.t 76), []⟩,
  ⟨(some 14), none, .mov (.t 77), []⟩] [73, 74, 75, 76, 77])
(.seq (.reg [⟨(some 79), none, .mkl 70 2 [(.int .i64 0), (.int .i64 0)] 0 [] false, []⟩,
  ⟨(some 80), none, .faddr 0 (.t 5), []⟩,
  ⟨(some 81), none, .load false 1 (.t 80), []⟩,
  ⟨(some 82), none, .app 70 2 16 (.t 79) (.t 81), []⟩,
  ⟨(some 83), none, .call 22 [(true, (.t 82)), (true, (.k (.str ⟨#[110]⟩)))], []⟩,
  ⟨(some 78), none, .mov (.t 83), []⟩,
  ⟨(some 84), none, .ext (.t 78) 0, []⟩,
  ⟨(some 85), none, .ext (.t 78) 1, []⟩,
  ⟨(some 15), none, .mov (.t 84), []⟩,
  ⟨(some 16), none, .mov (.t 85), []⟩] [78, 79, 80, 81, 82, 83, 84, 85])
(.seq (.reg [⟨(some 87), none, .mov (.t 7), []⟩,
  ⟨(some 88), none, .call 23 [(true, (.t 87))], []⟩,
  ⟨(some 86), none, .mov (.t 88), []⟩,
  ⟨(some 89), none, .ext (.t 86) 0, []⟩,
  ⟨(some 90), none, .ext (.t 86) 1, []⟩,
  ⟨(some 91), none, .ext (.t 86) 2, []⟩,
  ⟨(some 17), none, .mov (.t 89), []⟩,
  ⟨(some 18), none, .mov (.t 90), []⟩,
  ⟨(some 19), none, .mov (.t 91), []⟩] [86, 87, 88, 89, 90, 91])
(.seq (.reg [⟨(some 92), none, .mov (.t 0), []⟩,
  ⟨(some 93), none, .call 24 [(true, (.t 92))], []⟩,
  ⟨(some 20), none, .new [(.list 5 []), (.list 5 []), (.bool false)], []⟩,
  ⟨none, none, .store false 3 (.t 20) (.t 93), []⟩] [92, 93])
(.seq (.dreg [⟨(some 94), none, .mov (.t 0), []⟩,
  ⟨(some 95), none, .mov (.t 1), []⟩,
  ⟨(some 96), none, .call 25 [(true, (.k (.int .i64 3))), (true, (.t 94)), (true, (.t 95))], [0, 1]⟩,
  ⟨(some 97), none, .mov (.t 0), []⟩,
  ⟨(some 98), none, .mov (.t 1), []⟩,
  ⟨(some 99), none, .call 25 [(true, (.k (.int .i64 4))), (true, (.t 97)), (true, (.t 98))], [0, 1, 2, 3, 4]⟩,
  ⟨(some 100), none, .mov (.t 0), []⟩,
  ⟨(some 101), none, .call 26 [(true, (.t 100))], [0, 1, 2, 3, 4, 5, 6]⟩,
  ⟨(some 102), none, .faddr 0 (.t 5), []⟩,
  ⟨(some 103), none, .load false 1 (.t 102), [8]⟩,
  ⟨(some 104), none, .call 27 [(true, (.t 103)), (true, (.k (.str ⟨#[110]⟩)))], [0, 1, 2, 3, 4, 5, 6, 7, 8, 9]⟩,
  ⟨(some 21), none, .mov (.t 96), [0, 1, 2, 3, 4, 5, 6, 7, 8, 9, 10]⟩,
  ⟨(some 22), none, .mov (.t 99), [0, 1, 2, 3, 4, 5, 6, 7, 8, 9, 10, 11]⟩,
  ⟨(some 23), none, .mov (.t 101), [0, 1, 2, 3, 4, 5, 6, 7, 8, 9, 10, 11, 12]⟩,
  ⟨(some 24), none, .mov (.t 104), [0, 1, 2, 3, 4, 5, 6, 7, 8, 9, 10, 11, 12, 13]⟩] [94, 95, 96, 97, 98, 99, 100, 101, 102, 103, 104])
(.seq (.seq (.reg [⟨(some 105), none, .mov (.t 9), []⟩,
  ⟨(some 106), none, .mov (.t 21), []⟩,
  ⟨(some 107), none, .call 28 [(true, (.t 105)), (true, (.t 106))], []⟩,
  ⟨(some 108), none, .un .not (.t 107), []⟩,
  ⟨(some 109), none, .mov (.t 108), []⟩,
  ⟨(some 110), (some (109, false)), .mov (.t 10), []⟩,
  ⟨(some 111), (some (109, false)), .mov (.t 21), []⟩,
  ⟨(some 112), (some (109, false)), .len 1 (.t 111), []⟩,
  ⟨(some 113), (some (109, false)), .bin .gtr 0 (.t 112) (.k (.int .i64 0)), []⟩,
  ⟨(some 114), (some (109, false)), .bin .neq 1 (.t 110) (.t 113), []⟩,
  ⟨(some 115), none, .pick (.t 109) (.k (.bool true)) (.t 114), []⟩,
  ⟨(some 116), none, .mov (.t 115), []⟩,
  ⟨(some 117), (some (116, false)), .mov (.t 11), []⟩,
  ⟨(some 118), (some (116, false)), .mov (.t 22), []⟩,
  ⟨(some 119), (some (116, false)), .call 28 [(true, (.t 117)), (true, (.t 118))], []⟩,
  ⟨(some 120), (some (116, false)), .un .not (.t 119), []⟩,
  ⟨(some 121), none, .pick (.t 116) (.k (.bool true)) (.t 120), []⟩,
  ⟨(some 122), none, .mov (.t 121), []⟩,
  ⟨(some 123), (some (122, false)), .mov (.t 12), []⟩,
  ⟨(some 124), (some (122, false)), .mov (.t 22), []⟩,
  ⟨(some 125), (some (122, false)), .len 1 (.t 124), []⟩,
  ⟨(some 126), (some (122, false)), .bin .gtr 0 (.t 125) (.k (.int .i64 0)), []⟩,
  ⟨(some 127), (some (122, false)), .bin .neq 1 (.t 123) (.t 126), []⟩,
  ⟨(some 128), none, .pick (.t 122) (.k (.bool true)) (.t 127), []⟩,
  ⟨(some 129), none, .mov (.t 128), []⟩,
  ⟨(some 130), (some (129, false)), .mov (.t 13), []⟩,
  ⟨(some 131), (some (129, false)), .mov (.t 23), []⟩,
  ⟨(some 132), (some (129, false)), .call 28 [(true, (.t 130)), (true, (.t 131))], []⟩,
  ⟨(some 133), (some (129, false)), .un .not (.t 132), []⟩,
  ⟨(some 134), none, .pick (.t 129) (.k (.bool true)) (.t 133), []⟩,
  ⟨(some 135), none, .mov (.t 134), []⟩,
  ⟨(some 136), (some (135, false)), .mov (.t 14), []⟩,
  ⟨(some 137), (some (135, false)), .mov (.t 23), []⟩,
  ⟨(some 138), (some (135, false)), .len 1 (.t 137), []⟩,
  ⟨(some 139), (some (135, false)), .bin .gtr 0 (.t 138) (.k (.int .i64 0)), []⟩,
  ⟨(some 140), (some (135, false)), .bin .neq 1 (.t 136) (.t 139), []⟩,
  ⟨(some 141), none, .pick (.t 135) (.k (.bool true)) (.t 140), []⟩,
  ⟨(some 142), none, .mov (.t 141), []⟩,
  ⟨(some 143), (some (142, false)), .mov (.t 15), []⟩,
  ⟨(some 144), (some (142, false)), .mov (.t 24), []⟩,
  ⟨(some 145), (some (142, false)), .call 28 [(true, (.t 143)), (true, (.t 144))], []⟩,
  ⟨(some 146), (some (142, false)), .un .not (.t 145), []⟩,
  ⟨(some 147), none, .pick (.t 142) (.k (.bool true)) (.t 146), []⟩,
  ⟨(some 148), none, .mov (.t 147), []⟩,
  ⟨(some 149), (some (148, false)), .mov (.t 16), []⟩,
  ⟨(some 150), (some (148, false)), .mov (.t 24), []⟩,
  ⟨(some 151), (some (148, false)), .len 1 (.t 150), []⟩,
  ⟨(some 152), (some (148, false)), .bin .gtr 0 (.t 151) (.k (.int .i64 0)), []⟩,
  ⟨(some 153), (some (148, false)), .bin .neq 1 (.t 149) (.t 152), []⟩,
  ⟨(some 154), none, .pick (.t 148) (.k (.bool true)) (.t 153), []⟩] [105, 106, 107, 108, 109, 110, 111, 112, 113, 114, 115, 116, 117, 118, 119, 120, 121, 122, 123, 124, 125, 126, 127, 128, 129, 130, 131, 132, 133, 134, 135, 136, 137, 138, 139, 140, 141, 142, 143, 144, 145, 146, 147, 148, 149, 150, 151, 152, 153])
(.cond (.t 154) [154] (.seq (.reg [⟨(some 6), none, .mov (.k (.bool false)), []⟩] [])
.ret) .skip))
(.seq (.dreg [⟨(some 155), none, .mov (.t 7), []⟩,
  ⟨(some 156), none, .call 29 [(true, (.t 155))], [0]⟩,
  ⟨(some 157), none, .mov (.t 0), []⟩,
  ⟨(some 158), none, .call 30 [(true, (.t 157))], [0, 1, 2]⟩,
  ⟨(some 159), none, .bin .eql 1 (.t 156) (.t 158), [0, 1, 2, 3]⟩,
  ⟨(some 160), none, .mov (.t 159), [0, 1, 2, 3, 4]⟩,
  ⟨(some 161), (some (160, true)), .mov (.t 17), [0, 1, 2, 3, 4, 5]⟩,
  ⟨(some 162), (some (160, true)), .faddr 0 (.t 20), [0, 1, 2, 3, 4, 5]⟩,
  ⟨(some 163), (some (160, true)), .load false 1 (.t 162), [0, 1, 2, 3, 4, 5, 7]⟩,
  ⟨(some 164), (some (160, true)), .call 28 [(true, (.t 161)), (true, (.t 163))], [0, 1, 2, 3, 4, 5, 6, 7, 8]⟩,
  ⟨(some 165), none, .pick (.t 160) (.t 164) (.k (.bool false)), [0, 1, 2, 3, 4, 5, 6, 7, 8, 9]⟩,
  ⟨(some 166), none, .mov (.t 165), [0, 1, 2, 3, 4, 5, 6, 7, 8, 9, 10]⟩,
  ⟨(some 167), (some (166, true)), .mov (.t 18), [0, 1, 2, 3, 4, 5, 6, 7, 8, 9, 10, 11]⟩,
  ⟨(some 168), (some (166, true)), .faddr 1 (.t 20), [0, 1, 2, 3, 4, 5, 6, 7, 8, 9, 10, 11]⟩,
  ⟨(some 169), (some (166, true)), .load false 1 (.t 168), [0, 1, 2, 3, 4, 5, 6, 7, 8, 9, 10, 11, 13]⟩,
  ⟨(some 170), (some (166, true)), .call 28 [(true, (.t 167)), (true, (.t 169))], [0, 1, 2, 3, 4, 5, 6, 7, 8, 9, 10, 11, 12, 13, 14]⟩,
  ⟨(some 171), none, .pick (.t 166) (.t 170) (.k (.bool false)), [0, 1, 2, 3, 4, 5, 6, 7, 8, 9, 10, 11, 12, 13, 14, 15]⟩,
  ⟨(some 172), none, .mov (.t 171), [0, 1, 2, 3, 4, 5, 6, 7, 8, 9, 10, 11, 12, 13, 14, 15, 16]⟩,
  ⟨(some 173), (some (172, true)), .mov (.t 19), [0, 1, 2, 3, 4, 5, 6, 7, 8, 9, 10, 11, 12, 13, 14, 15, 16, 17]⟩,
  ⟨(some 174), (some (172, true)), .faddr 2 (.t 20), [0, 1, 2, 3, 4, 5, 6, 7, 8, 9, 10, 11, 12, 13, 14, 15, 16, 17]⟩,
  ⟨(some 175), (some (172, true)), .load false 1 (.t 174), [0, 1, 2, 3, 4, 5, 6, 7, 8, 9, 10, 11, 12, 13, 14, 15, 16, 17, 19]⟩,
  ⟨(some 176), (some (172, true)), .bin .eql 1 (.t 173) (.t 175), [0, 1, 2, 3, 4, 5, 6, 7, 8, 9, 10, 11, 12, 13, 14, 15, 16, 17, 18, 19, 20]⟩,
  ⟨(some 177), none, .pick (.t 172) (.t 176) (.k (.bool false)), [0, 1, 2, 3, 4, 5, 6, 7, 8, 9, 10, 11, 12, 13, 14, 15, 16, 17, 18, 19, 20, 21]⟩,
  ⟨(some 178), none, .mov (.t 177), [0, 1, 2, 3, 4, 5, 6, 7, 8, 9, 10, 11, 12, 13, 14, 15, 16, 17, 18, 19, 20, 21, 22]⟩,
  ⟨(some 179), (some (178, true)), .mov (.t 7), [0, 1, 2, 3, 4, 5, 6, 7, 8, 9, 10, 11, 12, 13, 14, 15, 16, 17, 18, 19, 20, 21, 22, 23]⟩,
  ⟨(some 180), (some (178, true)), .faddr 1 (.t 5), [0, 1, 2, 3, 4, 5, 6, 7, 8, 9, 10, 11, 12, 13, 14, 15, 16, 17, 18, 19, 20, 21, 22, 23]⟩,
  ⟨(some 181), (some (178, true)), .load false 1 (.t 180), [0, 1, 2, 3, 4, 5, 6, 7, 8, 9, 10, 11, 12, 13, 14, 15, 16, 17, 18, 19, 20, 21, 22, 23, 25]⟩,
  ⟨(some 182), (some (178, true)), .call 31 [(true, (.t 179)), (true, (.t 181))], [0, 1, 2, 3, 4, 5, 6, 7, 8, 9, 10, 11, 12, 13, 14, 15, 16, 17, 18, 19, 20, 21, 22, 23, 24, 25, 26]⟩,
  ⟨(some 183), (some (178, true)), .mov (.t 0), [0, 1, 2, 3, 4, 5, 6, 7, 8, 9, 10, 11, 12, 13, 14, 15, 16, 17, 18, 19, 20, 21, 22, 23]⟩,
  ⟨(some 184), (some (178, true)), .faddr 1 (.t 5), [0, 1, 2, 3, 4, 5, 6, 7, 8, 9, 10, 11, 12, 13, 14, 15, 16, 17, 18, 19, 20, 21, 22, 23]⟩,
  ⟨(some 185), (some (178, true)), .load false 1 (.t 184), [0, 1, 2, 3, 4, 5, 6, 7, 8, 9, 10, 11, 12, 13, 14, 15, 16, 17, 18, 19, 20, 21, 22, 23, 29]⟩,
  ⟨(some 186), (some (178, true)), .call 32 [(true, (.t 183)), (true, (.t 185))], [0, 1, 2, 3, 4, 5, 6, 7, 8, 9, 10, 11, 12, 13, 14, 15, 16, 17, 18, 19, 20, 21, 22, 23, 24, 25, 26, 27, 28, 29, 30]⟩,
  ⟨(some 187), (some (178, true)), .bin .eql 1 (.t 182) (.t 186), [0, 1, 2, 3, 4, 5, 6, 7, 8, 9, 10, 11, 12, 13, 14, 15, 16, 17, 18, 19, 20, 21, 22, 23, 24, 25, 26, 27, 28, 29, 30, 31]⟩,
  ⟨(some 188), none, .pick (.t 178) (.t 187) (.k (.bool false)), [0, 1, 2, 3, 4, 5, 6, 7, 8, 9, 10, 11, 12, 13, 14, 15, 16, 17, 18, 19, 20, 21, 22, 23, 24, 25, 26, 27, 28, 29, 30, 31, 32]⟩,
  ⟨(some 189), none, .mov (.t 188), [0, 1, 2, 3, 4, 5, 6, 7, 8, 9, 10, 11, 12, 13, 14, 15, 16, 17, 18, 19, 20, 21, 22, 23, 24, 25, 26, 27, 28, 29, 30, 31, 32, 33]⟩,
  ⟨(some 190), (some (189, true)), .mov (.t 7), [0, 1, 2, 3, 4, 5, 6, 7, 8, 9, 10, 11, 12, 13, 14, 15, 16, 17, 18, 19, 20, 21, 22, 23, 24, 25, 26, 27, 28, 29, 30, 31, 32, 33, 34]⟩,
  ⟨(some 191), (some (189, true)), .mov (.t 8), [0, 1, 2, 3, 4, 5, 6, 7, 8, 9, 10, 11, 12, 13, 14, 15, 16, 17, 18, 19, 20, 21, 22, 23, 24, 25, 26, 27, 28, 29, 30, 31, 32, 33, 34]⟩,
  ⟨(some 192), (some (189, true)), .call 33 [(true, (.t 190)), (true, (.t 191))], [0, 1, 2, 3, 4, 5, 6, 7, 8, 9, 10, 11, 12, 13, 14, 15, 16, 17, 18, 19, 20, 21, 22, 23, 24, 25, 26, 27, 28, 29, 30, 31, 32, 33, 34, 35, 36]⟩,
  ⟨(some 193), (some (189, true)), .mov (.t 0), [0, 1, 2, 3, 4, 5, 6, 7, 8, 9, 10, 11, 12, 13, 14, 15, 16, 17, 18, 19, 20, 21, 22, 23, 24, 25, 26, 27, 28, 29, 30, 31, 32, 33, 34]⟩,
  ⟨(some 194), (some (189, true)), .mov (.t 1), [0, 1, 2, 3, 4, 5, 6, 7, 8, 9, 10, 11, 12, 13, 14, 15, 16, 17, 18, 19, 20, 21, 22, 23, 24, 25, 26, 27, 28, 29, 30, 31, 32, 33, 34]⟩,
  ⟨(some 195), (some (189, true)), .call 28 [(true, (.t 193)), (true, (.t 194))], [0, 1, 2, 3, 4, 5, 6, 7, 8, 9, 10, 11, 12, 13, 14, 15, 16, 17, 18, 19, 20, 21, 22, 23, 24, 25, 26, 27, 28, 29, 30, 31, 32, 33, 34, 35, 36, 37, 38, 39]⟩,
  ⟨(some 196), (some (189, true)), .bin .eql 1 (.t 192) (.t 195), [0, 1, 2, 3, 4, 5, 6, 7, 8, 9, 10, 11, 12, 13, 14, 15, 16, 17, 18, 19, 20, 21, 22, 23, 24, 25, 26, 27, 28, 29, 30, 31, 32, 33, 34, 35, 36, 37, 38, 39, 40]⟩,
  ⟨(some 197), none, .pick (.t 189) (.t 196) (.k (.bool false)), [0, 1, 2, 3, 4, 5, 6, 7, 8, 9, 10, 11, 12, 13, 14, 15, 16, 17, 18, 19, 20, 21, 22, 23, 24, 25, 26, 27, 28, 29, 30, 31, 32, 33, 34, 35, 36, 37, 38, 39, 40, 41]⟩,
  ⟨(some 198), none, .mov (.t 197), [0, 1, 2, 3, 4, 5, 6, 7, 8, 9, 10, 11, 12, 13, 14, 15, 16, 17, 18, 19, 20, 21, 22, 23, 24, 25, 26, 27, 28, 29, 30, 31, 32, 33, 34, 35, 36, 37, 38, 39, 40, 41, 42]⟩,
  ⟨(some 199), (some (198, true)), .faddr 2 (.t 5), [0, 1, 2, 3, 4, 5, 6, 7, 8, 9, 10, 11, 12, 13, 14, 15, 16, 17, 18, 19, 20, 21, 22, 23, 24, 25, 26, 27, 28, 29, 30, 31, 32, 33, 34, 35, 36, 37, 38, 39, 40, 41, 42, 43]⟩,
  ⟨(some 200), (some (198, true)), .load false 1 (.t 199), [0, 1, 2, 3, 4, 5, 6, 7, 8, 9, 10, 11, 12, 13, 14, 15, 16, 17, 18, 19, 20, 21, 22, 23, 24, 25, 26, 27, 28, 29, 30, 31, 32, 33, 34, 35, 36, 37, 38, 39, 40, 41, 42, 43, 44]⟩,
  ⟨(some 201), (some (198, true)), .call 34 [(true, (.t 200))], [0, 1, 2, 3, 4, 5, 6, 7, 8, 9, 10, 11, 12, 13, 14, 15, 16, 17, 18, 19, 20, 21, 22, 23, 24, 25, 26, 27, 28, 29, 30, 31, 32, 33, 34, 35, 36, 37, 38, 39, 40, 41, 42, 43, 44, 45]⟩,
  ⟨(some 202), (some (198, true)), .faddr 2 (.t 5), [0, 1, 2, 3, 4, 5, 6, 7, 8, 9, 10, 11, 12, 13, 14, 15, 16, 17, 18, 19, 20, 21, 22, 23, 24, 25, 26, 27, 28, 29, 30, 31, 32, 33, 34, 35, 36, 37, 38, 39, 40, 41, 42, 43]⟩,
  ⟨(some 203), (some (198, true)), .load false 1 (.t 202), [0, 1, 2, 3, 4, 5, 6, 7, 8, 9, 10, 11, 12, 13, 14, 15, 16, 17, 18, 19, 20, 21, 22, 23, 24, 25, 26, 27, 28, 29, 30, 31, 32, 33, 34, 35, 36, 37, 38, 39, 40, 41, 42, 43, 47]⟩,
  ⟨(some 204), (some (198, true)), .call 35 [(true, (.t 203))], [0, 1, 2, 3, 4, 5, 6, 7, 8, 9, 10, 11, 12, 13, 14, 15, 16, 17, 18, 19, 20, 21, 22, 23, 24, 25, 26, 27, 28, 29, 30, 31, 32, 33, 34, 35, 36, 37, 38, 39, 40, 41, 42, 43, 44, 45, 46, 47, 48]⟩,
  ⟨(some 205), (some (198, true)), .call 28 [(true, (.t 201)), (true, (.t 204))], [0, 1, 2, 3, 4, 5, 6, 7, 8, 9, 10, 11, 12, 13, 14, 15, 16, 17, 18, 19, 20, 21, 22, 23, 24, 25, 26, 27, 28, 29, 30, 31, 32, 33, 34, 35, 36, 37, 38, 39, 40, 41, 42, 43, 44, 45, 46, 47, 48, 49]⟩,
  ⟨(some 206), none, .pick (.t 198) (.t 205) (.k (.bool false)), [0, 1, 2, 3, 4, 5, 6, 7, 8, 9, 10, 11, 12, 13, 14, 15, 16, 17, 18, 19, 20, 21, 22, 23, 24, 25, 26, 27, 28, 29, 30, 31, 32, 33, 34, 35, 36, 37, 38, 39, 40, 41, 42, 43, 44, 45, 46, 47, 48, 49, 50]⟩,
  ⟨(some 207), none, .mov (.t 206), [0, 1, 2, 3, 4, 5, 6, 7, 8, 9, 10, 11, 12, 13, 14, 15, 16, 17, 18, 19, 20, 21, 22, 23, 24, 25, 26, 27, 28, 29, 30, 31, 32, 33, 34, 35, 36, 37, 38, 39, 40, 41, 42, 43, 44, 45, 46, 47, 48, 49, 50, 51]⟩,
  ⟨(some 208), (some (207, true)), .mov (.t 7), [0, 1, 2, 3, 4, 5, 6, 7, 8, 9, 10, 11, 12, 13, 14, 15, 16, 17, 18, 19, 20, 21, 22, 23, 24, 25, 26, 27, 28, 29, 30, 31, 32, 33, 34, 35, 36, 37, 38, 39, 40, 41, 42, 43, 44, 45, 46, 47, 48, 49, 50, 51, 52]⟩,
  ⟨(some 209), (some (207, true)), .mov (.t 0), [0, 1, 2, 3, 4, 5, 6, 7, 8, 9, 10, 11, 12, 13, 14, 15, 16, 17, 18, 19, 20, 21, 22, 23, 24, 25, 26, 27, 28, 29, 30, 31, 32, 33, 34, 35, 36, 37, 38, 39, 40, 41, 42, 43, 44, 45, 46, 47, 48, 49, 50, 51, 52]⟩,
  ⟨(some 210), (some (207, true)), .call 28 [(true, (.t 208)), (true, (.t 209))], [0, 1, 2, 3, 4, 5, 6, 7, 8, 9, 10, 11, 12, 13, 14, 15, 16, 17, 18, 19, 20, 21, 22, 23, 24, 25, 26, 27, 28, 29, 30, 31, 32, 33, 34, 35, 36, 37, 38, 39, 40, 41, 42, 43, 44, 45, 46, 47, 48, 49, 50, 51, 52, 53, 54]⟩,
  ⟨(some 211), none, .pick (.t 207) (.t 210) (.k (.bool false)), [0, 1, 2, 3, 4, 5, 6, 7, 8, 9, 10, 11, 12, 13, 14, 15, 16, 17, 18, 19, 20, 21, 22, 23, 24, 25, 26, 27, 28, 29, 30, 31, 32, 33, 34, 35, 36, 37, 38, 39, 40, 41, 42, 43, 44, 45, 46, 47, 48, 49, 50, 51, 52, 53, 54, 55]⟩,
  ⟨(some 212), none, .mov (.t 211), [0, 1, 2, 3, 4, 5, 6, 7, 8, 9, 10, 11, 12, 13, 14, 15, 16, 17, 18, 19, 20, 21, 22, 23, 24, 25, 26, 27, 28, 29, 30, 31, 32, 33, 34, 35, 36, 37, 38, 39, 40, 41, 42, 43, 44, 45, 46, 47, 48, 49, 50, 51, 52, 53, 54, 55, 56]⟩,
  ⟨(some 213), (some (212, true)), .mov (.t 8), [0, 1, 2, 3, 4, 5, 6, 7, 8, 9, 10, 11, 12, 13, 14, 15, 16, 17, 18, 19, 20, 21, 22, 23, 24, 25, 26, 27, 28, 29, 30, 31, 32, 33, 34, 35, 36, 37, 38, 39, 40, 41, 42, 43, 44, 45, 46, 47, 48, 49, 50, 51, 52, 53, 54, 55, 56, 57]⟩,
  ⟨(some 214), (some (212, true)), .mov (.t 1), [0, 1, 2, 3, 4, 5, 6, 7, 8, 9, 10, 11, 12, 13, 14, 15, 16, 17, 18, 19, 20, 21, 22, 23, 24, 25, 26, 27, 28, 29, 30, 31, 32, 33, 34, 35, 36, 37, 38, 39, 40, 41, 42, 43, 44, 45, 46, 47, 48, 49, 50, 51, 52, 53, 54, 55, 56, 57]⟩,
  ⟨(some 215), (some (212, true)), .call 28 [(true, (.t 213)), (true, (.t 214))], [0, 1, 2, 3, 4, 5, 6, 7, 8, 9, 10, 11, 12, 13, 14, 15, 16, 17, 18, 19, 20, 21, 22, 23, 24, 25, 26, 27, 28, 29, 30, 31, 32, 33, 34, 35, 36, 37, 38, 39, 40, 41, 42, 43, 44, 45, 46, 47, 48, 49, 50, 51, 52, 53, 54, 55, 56, 57, 58, 59]⟩,
  ⟨(some 216), none, .pick (.t 212) (.t 215) (.k (.bool false)), [0, 1, 2, 3, 4, 5, 6, 7, 8, 9, 10, 11, 12, 13, 14, 15, 16, 17, 18, 19, 20, 21, 22, 23, 24, 25, 26, 27, 28, 29, 30, 31, 32, 33, 34, 35, 36, 37, 38, 39, 40, 41, 42, 43, 44, 45, 46, 47, 48, 49, 50, 51, 52, 53, 54, 55, 56, 57, 58, 59, 60]⟩,
  ⟨(some 217), none, .mov (.t 216), [0, 1, 2, 3, 4, 5, 6, 7, 8, 9, 10, 11, 12, 13, 14, 15, 16, 17, 18, 19, 20, 21, 22, 23, 24, 25, 26, 27, 28, 29, 30, 31, 32, 33, 34, 35, 36, 37, 38, 39, 40, 41, 42, 43, 44, 45, 46, 47, 48, 49, 50, 51, 52, 53, 54, 55, 56, 57, 58, 59, 60, 61]⟩,
  ⟨(some 218), (some (217, true)), .call 17 [], [0, 1, 2, 3, 4, 5, 6, 7, 8, 9, 10, 11, 12, 13, 14, 15, 16, 17, 18, 19, 20, 21, 22, 23, 24, 25, 26, 27, 28, 29, 30, 31, 32, 33, 34, 35, 36, 37, 38, 39, 40, 41, 42, 43, 44, 45, 46, 47, 48, 49, 50, 51, 52, 53, 54, 55, 56, 57, 58, 59, 60, 61, 62]⟩,
  ⟨(some 219), none, .pick (.t 217) (.t 218) (.k (.bool false)), [0, 1, 2, 3, 4, 5, 6, 7, 8, 9, 10, 11, 12, 13, 14, 15, 16, 17, 18, 19, 20, 21, 22, 23, 24, 25, 26, 27, 28, 29, 30, 31, 32, 33, 34, 35, 36, 37, 38, 39, 40, 41, 42, 43, 44, 45, 46, 47, 48, 49, 50, 51, 52, 53, 54, 55, 56, 57, 58, 59, 60, 61, 62, 63]⟩,
  ⟨(some 6), none, .mov (.t 219), [0, 1, 2, 3, 4, 5, 6, 7, 8, 9, 10, 11, 12, 13, 14, 15, 16, 17, 18, 19, 20, 21, 22, 23, 24, 25, 26, 27, 28, 29, 30, 31, 32, 33, 34, 35, 36, 37, 38, 39, 40, 41, 42, 43, 44, 45, 46, 47, 48, 49, 50, 51, 52, 53, 54, 55, 56, 57, 58, 59, 60, 61, 62, 63, 64]⟩] [155, 156, 157, 158, 159, 160, 161, 162, 163, 164, 165, 166, 167, 168, 169, 170, 171, 172, 173, 174, 175, 176, 177, 178, 179, 180, 181, 182, 183, 184, 185, 186, 187, 188, 189, 190, 191, 192, 193, 194, 195, 196, 197, 198, 199, 200, 201, 202, 203, 204, 205, 206, 207, 208, 209, 210, 211, 212, 213, 214, 215, 216, 217, 218, 219])
.ret))))))))))))
/-- caesura/caesuralaw11.TreeTells -/
def fn3 : AFn := ⟨3, 220, c3, [(.t 6)], 0⟩
theorem fn3_np : fn3.np = 3 := rfl
theorem fn3_body : fn3.body = c3 := rfl
theorem fn3_res : fn3.res = [(.t 6)] := rfl
theorem fn3_keep : fn3.keep = 0 := rfl
def c4 : ACode :=
(.seq (.reg [⟨(some 4), none, .mov (.k (.bool false)), []⟩] [])
(.seq (.seq (.reg [⟨(some 25), none, .mov (.t 0), []⟩,
  ⟨(some 26), none, .call 16 [(true, (.t 25))], []⟩,
  ⟨(some 27), none, .mov (.t 26), []⟩,
  ⟨(some 28), (some (27, false)), .mov (.t 1), []⟩,
  ⟨(some 29), (some (27, false)), .call 16 [(true, (.t 28))], []⟩,
  ⟨(some 30), none, .pick (.t 27) (.k (.bool true)) (.t 29), []⟩,
  ⟨(some 31), none, .mov (.t 30), []⟩,
  ⟨(some 32), (some (31, false)), .mov (.t 0), []⟩,
  ⟨(some 33), (some (31, false)), .call 30 [(true, (.t 32))], []⟩,
  ⟨(some 34), (some (31, false)), .un .not (.t 33), []⟩,
  ⟨(some 35), none, .pick (.t 31) (.k (.bool true)) (.t 34), []⟩,
  ⟨(some 36), none, .mov (.t 35), []⟩,
  ⟨(some 37), (some (36, false)), .mov (.t 1), []⟩,
  ⟨(some 38), (some (36, false)), .call 30 [(true, (.t 37))], []⟩,
  ⟨(some 39), (some (36, false)), .un .not (.t 38), []⟩,
  ⟨(some 40), none, .pick (.t 36) (.k (.bool true)) (.t 39), []⟩] [25, 26, 27, 28, 29, 30, 31, 32, 33, 34, 35, 36, 37, 38, 39])
(.cond (.t 40) [40] (.seq (.reg [⟨(some 41), none, .call 17 [], []⟩,
  ⟨(some 4), none, .mov (.t 41), []⟩] [41])
.ret) .skip))
(.seq (.reg [⟨(some 43), none, .mov (.t 0), []⟩,
  ⟨(some 44), none, .mov (.t 1), []⟩,
  ⟨(some 45), none, .call 19 [(true, (.t 43)), (true, (.t 44))], []⟩,
  ⟨(some 42), none, .mov (.t 45), []⟩,
  ⟨(some 46), none, .ext (.t 42) 0, []⟩,
  ⟨(some 47), none, .ext (.t 42) 1, []⟩,
  ⟨(some 5), none, .mov (.t 46), []⟩,
  ⟨(some 6), none, .mov (.t 47), []⟩] [42, 43, 44, 45, 46, 47])
(.seq (.reg [⟨(some 49), none, .mov (.t 0), []⟩,
  ⟨(some 50), none, .mov (.t 1), []⟩,
  ⟨(some 51), none, .call 20 [(true, (.t 49)), (true, (.t 50))], []⟩,
  ⟨(some 48), none, .mov (.t 51), []⟩,
  ⟨(some 52), none, .ext (.t 48) 0, []⟩,
  ⟨(some 53), none, .ext (.t 48) 1, []⟩,
  ⟨(some 7), none, .mov (.t 52), []⟩,
  ⟨(some 8), none, .mov (.t 53), []⟩] [48, 49, 50, 51, 52, 53])
(.seq (.reg [⟨(some 55), none, .mov (.t 0), []⟩,
  ⟨(some 56), none, .call 21 [(true, (.t 55))], []⟩,
  ⟨(some 54), none, .mov (.t 56), []⟩,
  ⟨(some 57), none, .ext (.t 54) 0, []⟩,
  ⟨(some 58), none, .ext (.t 54) 1, []⟩,
  ⟨(some 9), none, .mov (.t 57), []⟩,
  ⟨(some 10), none, .mov (.t 58), []⟩] [54, 55, 56, 57, 58])
(.seq (.reg [⟨(some 60), none, .mov (.t 5), []⟩,
  ⟨(some 61), none, .call 23 [(true, (.t 60))], []⟩,
  ⟨(some 59), none, .mov (.t 61), []⟩,
  ⟨(some 62), none, .ext (.t 59) 0, []⟩,
  ⟨(some 63), none, .ext (.t 59) 1, []⟩,
  ⟨(some 64), none, .ext (.t 59) 2, []⟩,
  ⟨(some 11), none, .mov (.t 62), []⟩,
  ⟨(some 12), none, .mov (.t 63), []⟩,
  ⟨(some 13), none, .mov (.t 64), []⟩] [59, 60, 61, 62, 63, 64])
(.seq (.reg [⟨(some 66), none, .mov (.t 7), []⟩,
  ⟨(some 67), none, .call 23 [(true, (.t 66))], []⟩,
  ⟨(some 65), none, .mov (.t 67), []⟩,
  ⟨(some 68), none, .ext (.t 65) 0, []⟩,
  ⟨(some 69), none, .ext (.t 65) 1, []⟩,
  ⟨(some 70), none, .ext (.t 65) 2, []⟩,
  ⟨(some 14), none, .mov (.t 68), []⟩,
  ⟨(some 15), none, .mov (.t 69), []⟩,
  ⟨(some 16), none, .mov (.t 70), []⟩] [65, 66, 67, 68, 69, 70])
(.seq (.reg [⟨(some 72), none, .mov (.t 9), []⟩,
  ⟨(some 73), none, .call 23 [(true, (.t 72))], []⟩,
  ⟨(some 71), none, .mov (.t 73), []⟩,
  ⟨(some 74), none, .ext (.t 71) 0, []⟩,
  ⟨(some 75), none, .ext (.t 71) 1, []⟩,
  ⟨(some 76), none, .ext (.t 71) 2, []⟩,
  ⟨(some 17), none, .mov (.t 74), []⟩,
  ⟨(some 18), none, .mov (.t 75), []⟩,
  ⟨(some 19), none, .mov (.t 76), []⟩] [71, 72, 73, 74, 75, 76])
(.seq (.seq (.reg [⟨(some 77), none, .mov (.t 6), []⟩,
  ⟨(some 78), none, .un .not (.t 77), []⟩,
  ⟨(some 79), none, .mov (.t 78), []⟩,
  ⟨(some 80), (some (79, false)), .mov (.t 8), []⟩,
  ⟨(some 81), (some (79, false)), .un .not (.t 80), []⟩,
  ⟨(some 82), none, .pick (.t 79) (.k (.bool true)) (.t 81), []⟩,
  ⟨(some 83), none, .mov (.t 82), []⟩,
  ⟨(some 84), (some (83, false)), .mov (.t 10), []⟩,
  ⟨(some 85), (some (83, false)), .un .not (.t 84), []⟩,
  ⟨(some 86), none, .pick (.t 83) (.k (.bool true)) (.t 85), []⟩,
  ⟨(some 87), none, .mov (.t 86), []⟩,
  ⟨(some 88), (some (87, false)), .mov (.t 13), []⟩,
  ⟨(some 89), (some (87, false)), .un .not (.t 88), []⟩,
  ⟨(some 90), none, .pick (.t 87) (.k (.bool true)) (.t 89), []⟩,
  ⟨(some 91), none, .mov (.t 90), []⟩,
  ⟨(some 92), (some (91, false)), .mov (.t 16), []⟩,
  ⟨(some 93), (some (91, false)), .un .not (.t 92), []⟩,
  ⟨(some 94), none, .pick (.t 91) (.k (.bool true)) (.t 93), []⟩,
  ⟨(some 95), none, .mov (.t 94), []⟩,
  ⟨(some 96), (some (95, false)), .mov (.t 19), []⟩,
  ⟨(some 97), (some (95, false)), .un .not (.t 96), []⟩,
  ⟨(some 98), none, .pick (.t 95) (.k (.bool true)) (.t 97), []⟩,
  ⟨(some 99), none, .mov (.t 98), []⟩,
  ⟨(some 100), (some (99, false)), .mov (.t 11), []⟩,
  ⟨(some 101), (some (99, false)), .mov (.t 0), []⟩,
  ⟨(some 102), (some (99, false)), .call 33 [(true, (.t 100)), (true, (.t 101))], []⟩,
  ⟨(some 103), (some (99, false)), .un .not (.t 102), []⟩,
  ⟨(some 104), none, .pick (.t 99) (.k (.bool true)) (.t 103), []⟩,
  ⟨(some 105), none, .mov (.t 104), []⟩,
  ⟨(some 106), (some (105, false)), .mov (.t 12), []⟩,
  ⟨(some 107), (some (105, false)), .mov (.t 1), []⟩,
  ⟨(some 108), (some (105, false)), .call 33 [(true, (.t 106)), (true, (.t 107))], []⟩,
  ⟨(some 109), (some (105, false)), .un .not (.t 108), []⟩,
  ⟨(some 110), none, .pick (.t 105) (.k (.bool true)) (.t 109), []⟩,
  ⟨(some 111), none, .mov (.t 110), []⟩,
  ⟨(some 112), (some (111, false)), .mov (.t 14), []⟩,
  ⟨(some 113), (some (111, false)), .mov (.t 0), []⟩,
  ⟨(some 114), (some (111, false)), .call 33 [(true, (.t 112)), (true, (.t 113))], []⟩,
  ⟨(some 115), (some (111, false)), .un .not (.t 114), []⟩,
  ⟨(some 116), none, .pick (.t 111) (.k (.bool true)) (.t 115), []⟩,
  ⟨(some 117), none, .mov (.t 116), []⟩,
  ⟨(some 118), (some (117, false)), .mov (.t 15), []⟩,
  ⟨(some 119), (some (117, false)), .mov (.t 1), []⟩,
  ⟨(some 120), (some (117, false)), .call 33 [(true, (.t 118)), (true, (.t 119))], []⟩,
  ⟨(some 121), (some (117, false)), .un .not (.t 120), []⟩,
  ⟨(some 122), none, .pick (.t 117) (.k (.bool true)) (.t 121), []⟩,
  ⟨(some 123), none, .mov (.t 122), []⟩,
  ⟨(some 124), (some (123, false)), .mov (.t 17), []⟩,
  ⟨(some 125), (some (123, false)), .mov (.t 0), []⟩,
  ⟨(some 126), (some (123, false)), .call 33 [(true, (.t 124)), (true, (.t 125))], []⟩,
  ⟨(some 127), (some (123, false)), .un .not (.t 126), []⟩,
  ⟨(some 128), none, .pick (.t 123) (.k (.bool true)) (.t 127), []⟩,
  ⟨(some 129), none, .mov (.t 128), []⟩,
  ⟨(some 130), (some (129, false)), .mov (.t 18), []⟩,
  ⟨(some 131), (some (129, false)), .len 1 (.t 130), []⟩,
  ⟨(some 132), (some (129, false)), .bin .neq 0 (.t 131) (.k (.int .i64 0)), []⟩,
  ⟨(some 133), none, .pick (.t 129) (.k (.bool true)) (.t 132), []⟩,
  ⟨(some 134), none, .mov (.t 133), []⟩,
  ⟨(some 135), (some (134, false)), .mov (.t 5), []⟩,
  ⟨(some 136), (some (134, false)), .len 1 (.t 135), []⟩,
  ⟨(some 137), (some (134, false)), .mov (.t 0), []⟩,
  ⟨(some 138), (some (134, false)), .len 1 (.t 137), []⟩,
  ⟨(some 139), (some (134, false)), .mov (.t 1), []⟩,
  ⟨(some 140), (some (134, false)), .len 1 (.t 139), []⟩,
  ⟨(some 141), (some (134, false)), .bin .add 0 (.t 138) (.t 140), []⟩,
  ⟨(some 142), (some (134, false)), .bin .add 0 (.t 141) (.k (.int .i64 1)), []⟩,
  ⟨(some 143), (some (134, false)), .bin .neq 0 (.t 136) (.t 142), []⟩,
  ⟨(some 144), none, .pick (.t 134) (.k (.bool true)) (.t 143), []⟩,
  ⟨(some 145), none, .mov (.t 144), []⟩,
  ⟨(some 146), (some (145, false)), .mov (.t 9), []⟩,
  ⟨(some 147), (some (145, false)), .len 1 (.t 146), []⟩,
  ⟨(some 148), (some (145, false)), .mov (.t 0), []⟩,
  ⟨(some 149), (some (145, false)), .len 1 (.t 148), []⟩,
  ⟨(some 150), (some (145, false)), .bin .add 0 (.t 149) (.k (.int .i64 1)), []⟩,
  ⟨(some 151), (some (145, false)), .bin .neq 0 (.t 147) (.t 150), []⟩,
  ⟨(some 152), none, .pick (.t 145) (.k (.bool true)) (.t 151), []⟩] [77, 78, 79, 80, 81, 82, 83, 84, 85, 86, 87, 88, 89, 90, 91, 92, 93, 94, 95, 96, 97, 98, 99, 100, 101, 102, 103, 104, 105, 106, 107, 108, 109, 110, 111, 112, 113, 114, 115, 116, 117, 118, 119, 120, 121, 122, 123, 124, 125, 126, 127, 128, 129, 130, 131, 132, 133, 134, 135, 136, 137, 138, 139, 140, 141, 142, 143, 144, 145, 146, 147, 148, 149, 150, 151])
(.cond (.t 152) [152] (.seq (.reg [⟨(some 4), none, .mov (.k (.bool false)), []⟩] [])
.ret) .skip))
(.seq (.reg [⟨(some 154), none, .mov (.t 0), []⟩,
  ⟨(some 155), none, .call 23 [(true, (.t 154))], []⟩,
  ⟨(some 153), none, .mov (.t 155), []⟩,
  ⟨(some 156), none, .ext (.t 153) 0, []⟩,
  ⟨(some 157), none, .ext (.t 153) 1, []⟩,
  ⟨(some 158), none, .ext (.t 153) 2, []⟩,
  ⟨(some 20), none, .mov (.t 156), []⟩,
  ⟨(some 21), none, .mov (.t 157), []⟩,
  ⟨(some 22), none, .mov (.t 158), []⟩] [153, 154, 155, 156, 157, 158])
(.seq (.seq (.reg [⟨(some 159), none, .mov (.t 22), []⟩,
  ⟨(some 160), none, .un .not (.t 159), []⟩] [159])
(.cond (.t 160) [160] (.seq (.reg [⟨(some 161), none, .mov (.t 0), []⟩,
  ⟨(some 162), none, .len 1 (.t 161), []⟩,
  ⟨(some 163), none, .bin .eql 0 (.t 162) (.k (.int .i64 1)), []⟩,
  ⟨(some 164), none, .mov (.t 163), []⟩,
  ⟨(some 165), (some (164, true)), .call 17 [], []⟩,
  ⟨(some 166), none, .pick (.t 164) (.t 165) (.k (.bool false)), []⟩,
  ⟨(some 4), none, .mov (.t 166), []⟩] [161, 162, 163, 164, 165, 166])
.ret) .skip))
(.seq (.reg [⟨(some 23), none, .anil 48 5, []⟩] [])
(.seq (.reg [⟨(some 24), none, .mov (.k (.bool false)), []⟩] [])
(.seq (.seq (.reg [⟨(some 167), none, .mov (.t 0), []⟩,
  ⟨(some 168), none, .mov (.t 0), []⟩,
  ⟨(some 169), none, .len 1 (.t 168), []⟩,
  ⟨(some 170), none, .bin .sub 0 (.t 169) (.k (.int .i64 1)), []⟩,
  ⟨(some 171), none, .iaddr 5 (.t 167) (.t 170), []⟩,
  ⟨(some 172), none, .faddr 0 (.t 171), []⟩,
  ⟨(some 173), none, .load false 1 (.t 172), []⟩] [167, 168, 169, 170, 171, 172])
(.block 0 (.seq (.reg [⟨(some 180), none, .bin .eql 0 (.t 173) (.k (.int .i64 3)), []⟩,
  ⟨(some 179), none, .mov (.t 180), []⟩] [180])
(.cond (.t 179) [179] (.reg [⟨(some 182), none, .mov (.t 20), []⟩,
  ⟨(some 183), none, .mov (.t 21), []⟩,
  ⟨(some 184), none, .call 19 [(true, (.t 182)), (true, (.t 183))], []⟩,
  ⟨(some 181), none, .mov (.t 184), []⟩,
  ⟨(some 185), none, .ext (.t 181) 0, []⟩,
  ⟨(some 186), none, .ext (.t 181) 1, []⟩,
  ⟨(some 23), none, .mov (.t 185), []⟩,
  ⟨(some 24), none, .mov (.t 186), []⟩] [181, 182, 183, 184, 185, 186]) (.seq (.reg [⟨(some 188), none, .bin .eql 0 (.t 173) (.k (.int .i64 4)), []⟩,
  ⟨(some 187), none, .mov (.t 188), []⟩] [188])
(.cond (.t 187) [187] (.reg [⟨(some 190), none, .mov (.t 20), []⟩,
  ⟨(some 191), none, .mov (.t 21), []⟩,
  ⟨(some 192), none, .call 20 [(true, (.t 190)), (true, (.t 191))], []⟩,
  ⟨(some 189), none, .mov (.t 192), []⟩,
  ⟨(some 193), none, .ext (.t 189) 0, []⟩,
  ⟨(some 194), none, .ext (.t 189) 1, []⟩,
  ⟨(some 23), none, .mov (.t 193), []⟩,
  ⟨(some 24), none, .mov (.t 194), []⟩] [189, 190, 191, 192, 193, 194]) (.reg [⟨(some 175), none, .mov (.t 20), []⟩,
  ⟨(some 176), none, .call 21 [(true, (.t 175))], []⟩,
  ⟨(some 174), none, .mov (.t 176), []⟩,
  ⟨(some 177), none, .ext (.t 174) 0, []⟩,
  ⟨(some 178), none, .ext (.t 174) 1, []⟩,
  ⟨(some 23), none, .mov (.t 177), []⟩,
  ⟨(some 24), none, .mov (.t 178), []⟩] [174, 175, 176, 177, 178])))))))
(.seq (.reg [⟨(some 195), none, .mov (.t 24), []⟩,
  ⟨(some 196), none, .mov (.t 195), []⟩,
  ⟨(some 197), (some (196, true)), .mov (.t 23), []⟩,
  ⟨(some 198), (some (196, true)), .mov (.t 0), []⟩,
  ⟨(some 199), (some (196, true)), .call 33 [(true, (.t 197)), (true, (.t 198))], []⟩,
  ⟨(some 200), none, .pick (.t 196) (.t 199) (.k (.bool false)), []⟩,
  ⟨(some 201), none, .mov (.t 200), []⟩,
  ⟨(some 202), (some (201, true)), .mov (.t 20), []⟩,
  ⟨(some 203), (some (201, true)), .call 29 [(true, (.t 202))], []⟩,
  ⟨(some 204), none, .pick (.t 201) (.t 203) (.k (.bool false)), []⟩,
  ⟨(some 205), none, .mov (.t 204), []⟩,
  ⟨(some 206), (some (205, true)), .call 17 [], []⟩,
  ⟨(some 207), none, .pick (.t 205) (.t 206) (.k (.bool false)), []⟩,
  ⟨(some 4), none, .mov (.t 207), []⟩] [195, 196, 197, 198, 199, 200, 201, 202, 203, 204, 205, 206, 207])
.ret)))))))))))))))
/-- caesura/caesuralaw11.TreeParts -/
def fn4 : AFn := ⟨2, 208, c4, [(.t 4)], 0⟩
theorem fn4_np : fn4.np = 2 := rfl
theorem fn4_body : fn4.body = c4 := rfl
theorem fn4_res : fn4.res = [(.t 4)] := rfl
theorem fn4_keep : fn4.keep = 0 := rfl
def c5 : ACode :=
(.seq (.reg [⟨(some 6), none, .mov (.k (.bool false)), []⟩] [])
(.seq (.seq (.reg [⟨(some 16), none, .mov (.t 0), []⟩,
  ⟨(some 17), none, .call 16 [(true, (.t 16))], []⟩,
  ⟨(some 18), none, .mov (.t 17), []⟩,
  ⟨(some 19), (some (18, false)), .mov (.t 1), []⟩,
  ⟨(some 20), (some (18, false)), .call 16 [(true, (.t 19))], []⟩,
  ⟨(some 21), none, .pick (.t 18) (.k (.bool true)) (.t 20), []⟩,
  ⟨(some 22), none, .mov (.t 21), []⟩,
  ⟨(some 23), (some (22, false)), .mov (.t 0), []⟩,
  ⟨(some 24), (some (22, false)), .call 30 [(true, (.t 23))], []⟩,
  ⟨(some 25), (some (22, false)), .un .not (.t 24), []⟩,
  ⟨(some 26), none, .pick (.t 22) (.k (.bool true)) (.t 25), []⟩,
  ⟨(some 27), none, .mov (.t 26), []⟩,
  ⟨(some 28), (some (27, false)), .mov (.t 1), []⟩,
  ⟨(some 29), (some (27, false)), .call 30 [(true, (.t 28))], []⟩,
  ⟨(some 30), (some (27, false)), .un .not (.t 29), []⟩,
  ⟨(some 31), none, .pick (.t 27) (.k (.bool true)) (.t 30), []⟩,
  ⟨(some 32), none, .mov (.t 31), []⟩,
  ⟨(some 33), (some (32, false)), .mov (.t 2), []⟩,
  ⟨(some 34), (some (32, false)), .len 1 (.t 33), []⟩,
  ⟨(some 35), (some (32, false)), .bin .gtr 0 (.t 34) (.k (.int .i64 6)), []⟩,
  ⟨(some 36), none, .pick (.t 32) (.k (.bool true)) (.t 35), []⟩] [16, 17, 18, 19, 20, 21, 22, 23, 24, 25, 26, 27, 28, 29, 30, 31, 32, 33, 34, 35])
(.cond (.t 36) [36] (.seq (.reg [⟨(some 37), none, .call 17 [], []⟩,
  ⟨(some 6), none, .mov (.t 37), []⟩] [37])
.ret) .skip))
(.seq (.reg [⟨(some 39), none, .mov (.t 0), []⟩,
  ⟨(some 40), none, .mov (.t 1), []⟩,
  ⟨(some 41), none, .call 19 [(true, (.t 39)), (true, (.t 40))], []⟩,
  ⟨(some 38), none, .mov (.t 41), []⟩,
  ⟨(some 42), none, .ext (.t 38) 0, []⟩,
  ⟨(some 43), none, .ext (.t 38) 1, []⟩,
  ⟨(some 7), none, .mov (.t 42), []⟩,
  ⟨(some 8), none, .mov (.t 43), []⟩] [38, 39, 40, 41, 42, 43])
(.seq (.reg [⟨(some 45), none, .mov (.t 0), []⟩,
  ⟨(some 46), none, .mov (.t 1), []⟩,
  ⟨(some 47), none, .call 20 [(true, (.t 45)), (true, (.t 46))], []⟩,
  ⟨(some 44), none, .mov (.t 47), []⟩,
  ⟨(some 48), none, .ext (.t 44) 0, []⟩,
  ⟨(some 49), none, .ext (.t 44) 1, []⟩,
  ⟨(some 9), none, .mov (.t 48), []⟩,
  ⟨(some 10), none, .mov (.t 49), []⟩] [44, 45, 46, 47, 48, 49])
(.seq (.reg [⟨(some 51), none, .mov (.t 0), []⟩,
  ⟨(some 52), none, .call 21 [(true, (.t 51))], []⟩,
  ⟨(some 50), none, .mov (.t 52), []⟩,
  ⟨(some 53), none, .ext (.t 50) 0, []⟩,
  ⟨(some 54), none, .ext (.t 50) 1, []⟩,
  ⟨(some 11), none, .mov (.t 53), []⟩,
  ⟨(some 12), none, .mov (.t 54), []⟩] [50, 51, 52, 53, 54])
(.seq (.seq (.reg [⟨(some 55), none, .mov (.t 8), []⟩,
  ⟨(some 56), none, .un .not (.t 55), []⟩,
  ⟨(some 57), none, .mov (.t 56), []⟩,
  ⟨(some 58), (some (57, false)), .mov (.t 10), []⟩,
  ⟨(some 59), (some (57, false)), .un .not (.t 58), []⟩,
  ⟨(some 60), none, .pick (.t 57) (.k (.bool true)) (.t 59), []⟩,
  ⟨(some 61), none, .mov (.t 60), []⟩,
  ⟨(some 62), (some (61, false)), .mov (.t 12), []⟩,
  ⟨(some 63), (some (61, false)), .un .not (.t 62), []⟩,
  ⟨(some 64), none, .pick (.t 61) (.k (.bool true)) (.t 63), []⟩] [55, 56, 57, 58, 59, 60, 61, 62, 63])
(.cond (.t 64) [64] (.seq (.reg [⟨(some 6), none, .mov (.k (.bool false)), []⟩] [])
.ret) .skip))
(.seq (.reg [⟨(some 65), none, .mov (.t 2), []⟩,
  ⟨(some 66), none, .len 1 (.t 65), []⟩,
  ⟨(some 67), none, .bin .eql 0 (.t 66) (.k (.int .i64 0)), []⟩,
  ⟨(some 13), none, .mov (.k (.bool false)), []⟩,
  ⟨(some 14), none, .mov (.t 67), []⟩] [65, 66, 67])
(.seq (.seq (.reg [⟨(some 15), none, .mov (.k (.int .i64 0)), []⟩] [])
(.block 0 (.loop false (.seq (.seq (.reg [⟨(some 68), none, .mov (.t 15), []⟩,
  ⟨(some 69), none, .mov (.t 2), []⟩,
  ⟨(some 70), none, .len 1 (.t 69), []⟩,
  ⟨(some 71), none, .bin .leq 0 (.t 68) (.t 70), []⟩] [68, 69, 70])
(.cond (.t 71) [71] .skip (.exit 0)))
(.seq (.block 1 (.seq (.reg [⟨(some 74), none, .mov (.t 13), []⟩,
  ⟨(some 75), none, .mov (.t 74), []⟩,
  ⟨(some 76), (some (75, false)), .mov (.t 0), []⟩,
  ⟨(some 77), (some (75, false)), .mov (.t 2), []⟩,
  ⟨(some 78), (some (75, false)), .mov (.t 15), []⟩,
  ⟨(some 79), (some (75, false)), .slc 1 (.t 77) none (some (.t 78)) none, []⟩,
  ⟨(some 80), (some (75, false)), .call 31 [(true, (.t 76)), (true, (.t 79))], []⟩,
  ⟨(some 81), (some (75, false)), .mov (.t 80), []⟩,
  ⟨(some 82), (some (81, true)), .mov (.t 1), []⟩,
  ⟨(some 83), (some (81, true)), .mov (.t 2), []⟩,
  ⟨(some 84), (some (81, true)), .mov (.t 15), []⟩,
  ⟨(some 85), (some (81, true)), .slc 1 (.t 83) (some (.t 84)) none none, []⟩,
  ⟨(some 86), (some (81, true)), .call 31 [(true, (.t 82)), (true, (.t 85))], []⟩,
  ⟨(some 87), (some (75, false)), .pick (.t 81) (.t 86) (.k (.bool false)), []⟩,
  ⟨(some 88), none, .pick (.t 75) (.k (.bool true)) (.t 87), []⟩,
  ⟨(some 13), none, .mov (.t 88), []⟩] [74, 75, 76, 77, 78, 79, 80, 81, 82, 83, 84, 85, 86, 87, 88])
(.reg [⟨(some 89), none, .mov (.t 14), []⟩,
  ⟨(some 90), none, .mov (.t 89), []⟩,
  ⟨(some 91), (some (90, false)), .mov (.t 15), []⟩,
  ⟨(some 92), (some (90, false)), .bin .gtr 0 (.t 91) (.k (.int .i64 0)), []⟩,
  ⟨(some 93), (some (90, false)), .mov (.t 92), []⟩,
  ⟨(some 94), (some (93, true)), .mov (.t 0), []⟩,
  ⟨(some 95), (some (93, true)), .mov (.t 2), []⟩,
  ⟨(some 96), (some (93, true)), .mov (.t 15), []⟩,
  ⟨(some 97), (some (93, true)), .slc 1 (.t 95) none (some (.t 96)) none, []⟩,
  ⟨(some 98), (some (93, true)), .call 31 [(true, (.t 94)), (true, (.t 97))], []⟩,
  ⟨(some 99), (some (90, false)), .pick (.t 93) (.t 98) (.k (.bool false)), []⟩,
  ⟨(some 100), (some (90, false)), .mov (.t 99), []⟩,
  ⟨(some 101), (some (100, true)), .mov (.t 11), []⟩,
  ⟨(some 102), (some (100, true)), .mov (.t 2), []⟩,
  ⟨(some 103), (some (100, true)), .mov (.t 15), []⟩,
  ⟨(some 104), (some (100, true)), .slc 1 (.t 102) (some (.t 103)) none none, []⟩,
  ⟨(some 105), (some (100, true)), .call 31 [(true, (.t 101)), (true, (.t 104))], []⟩,
  ⟨(some 106), (some (90, false)), .pick (.t 100) (.t 105) (.k (.bool false)), []⟩,
  ⟨(some 107), none, .pick (.t 90) (.k (.bool true)) (.t 106), []⟩,
  ⟨(some 14), none, .mov (.t 107), []⟩] [89, 90, 91, 92, 93, 94, 95, 96, 97, 98, 99, 100, 101, 102, 103, 104, 105, 106, 107])))
(.reg [⟨(some 72), none, .mov (.t 15), []⟩,
  ⟨(some 73), none, .bin .add 0 (.t 72) (.k (.int .i64 1)), []⟩,
  ⟨(some 15), none, .mov (.t 73), []⟩] [72, 73]))))))
(.seq (.reg [⟨(some 108), none, .mov (.t 7), []⟩,
  ⟨(some 109), none, .mov (.t 2), []⟩,
  ⟨(some 110), none, .call 31 [(true, (.t 108)), (true, (.t 109))], []⟩,
  ⟨(some 111), none, .mov (.t 13), []⟩,
  ⟨(some 112), none, .bin .eql 1 (.t 110) (.t 111), []⟩,
  ⟨(some 113), none, .mov (.t 112), []⟩,
  ⟨(some 114), (some (113, true)), .mov (.t 9), []⟩,
  ⟨(some 115), (some (113, true)), .mov (.t 2), []⟩,
  ⟨(some 116), (some (113, true)), .call 31 [(true, (.t 114)), (true, (.t 115))], []⟩,
  ⟨(some 117), (some (113, true)), .mov (.t 0), []⟩,
  ⟨(some 118), (some (113, true)), .mov (.t 2), []⟩,
  ⟨(some 119), (some (113, true)), .call 31 [(true, (.t 117)), (true, (.t 118))], []⟩,
  ⟨(some 120), (some (113, true)), .mov (.t 119), []⟩,
  ⟨(some 121), (some (120, false)), .mov (.t 1), []⟩,
  ⟨(some 122), (some (120, false)), .mov (.t 2), []⟩,
  ⟨(some 123), (some (120, false)), .call 31 [(true, (.t 121)), (true, (.t 122))], []⟩,
  ⟨(some 124), (some (113, true)), .pick (.t 120) (.k (.bool true)) (.t 123), []⟩,
  ⟨(some 125), (some (113, true)), .bin .eql 1 (.t 116) (.t 124), []⟩,
  ⟨(some 126), none, .pick (.t 113) (.t 125) (.k (.bool false)), []⟩,
  ⟨(some 127), none, .mov (.t 126), []⟩,
  ⟨(some 128), (some (127, true)), .mov (.t 11), []⟩,
  ⟨(some 129), (some (127, true)), .mov (.t 2), []⟩,
  ⟨(some 130), (some (127, true)), .call 31 [(true, (.t 128)), (true, (.t 129))], []⟩,
  ⟨(some 131), (some (127, true)), .mov (.t 14), []⟩,
  ⟨(some 132), (some (127, true)), .bin .eql 1 (.t 130) (.t 131), []⟩,
  ⟨(some 133), none, .pick (.t 127) (.t 132) (.k (.bool false)), []⟩,
  ⟨(some 134), none, .mov (.t 133), []⟩,
  ⟨(some 135), (some (134, true)), .call 34 [(true, (.k (.int .i64 0)))], []⟩,
  ⟨(some 136), (some (134, true)), .mov (.t 2), []⟩,
  ⟨(some 137), (some (134, true)), .call 31 [(true, (.t 135)), (true, (.t 136))], []⟩,
  ⟨(some 138), (some (134, true)), .un .not (.t 137), []⟩,
  ⟨(some 139), none, .pick (.t 134) (.t 138) (.k (.bool false)), []⟩,
  ⟨(some 140), none, .mov (.t 139), []⟩,
  ⟨(some 141), (some (140, true)), .call 34 [(true, (.k (.int .i64 1)))], []⟩,
  ⟨(some 142), (some (140, true)), .mov (.t 2), []⟩,
  ⟨(some 143), (some (140, true)), .call 31 [(true, (.t 141)), (true, (.t 142))], []⟩,
  ⟨(some 144), (some (140, true)), .mov (.t 2), []⟩,
  ⟨(some 145), (some (140, true)), .len 1 (.t 144), []⟩,
  ⟨(some 146), (some (140, true)), .bin .eql 0 (.t 145) (.k (.int .i64 0)), []⟩,
  ⟨(some 147), (some (140, true)), .bin .eql 1 (.t 143) (.t 146), []⟩,
  ⟨(some 148), none, .pick (.t 140) (.t 147) (.k (.bool false)), []⟩,
  ⟨(some 149), none, .mov (.t 148), []⟩,
  ⟨(some 150), (some (149, true)), .call 17 [], []⟩,
  ⟨(some 151), none, .pick (.t 149) (.t 150) (.k (.bool false)), []⟩,
  ⟨(some 6), none, .mov (.t 151), []⟩] [108, 109, 110, 111, 112, 113, 114, 115, 116, 117, 118, 119, 120, 121, 122, 123, 124, 125, 126, 127, 128, 129, 130, 131, 132, 133, 134, 135, 136, 137, 138, 139, 140, 141, 142, 143, 144, 145, 146, 147, 148, 149, 150, 151])
.ret)))))))))
/-- caesura/caesuralaw11.TreeTakes -/
def fn5 : AFn := ⟨3, 152, c5, [(.t 6)], 0⟩
theorem fn5_np : fn5.np = 3 := rfl
theorem fn5_body : fn5.body = c5 := rfl
theorem fn5_res : fn5.res = [(.t 6)] := rfl
theorem fn5_keep : fn5.keep = 0 := rfl
def c6 : ACode :=
(.seq (.reg [⟨(some 4), none, .mov (.k (.bool false)), []⟩] [])
(.seq (.seq (.reg [⟨(some 12), none, .mov (.t 0), []⟩,
  ⟨(some 13), none, .call 16 [(true, (.t 12))], []⟩,
  ⟨(some 14), none, .mov (.t 13), []⟩,
  ⟨(some 15), (some (14, false)), .mov (.t 0), []⟩,
  ⟨(some 16), (some (14, false)), .call 30 [(true, (.t 15))], []⟩,
  ⟨(some 17), (some (14, false)), .un .not (.t 16), []⟩,
  ⟨(some 18), none, .pick (.t 14) (.k (.bool true)) (.t 17), []⟩] [12, 13, 14, 15, 16, 17])
(.cond (.t 18) [18] (.seq (.reg [⟨(some 19), none, .call 17 [], []⟩,
  ⟨(some 4), none, .mov (.t 19), []⟩] [19])
.ret) .skip))
(.seq (.reg [⟨(some 5), none, .mov (.k (.int .i64 0)), []⟩,
  ⟨(some 6), none, .mov (.k (.int .i64 0)), []⟩] [])
(.seq (.reg [⟨(some 20), none, .mov (.t 0), []⟩,
  ⟨(some 21), none, .len 1 (.t 20), []⟩,
  ⟨(some 22), none, .mks 3 1 8 [(.int .i64 0)] (.t 21), []⟩,
  ⟨(some 7), none, .mov (.t 22), []⟩] [20, 21, 22])
(.seq (.seq (.reg [⟨(some 8), none, .mov (.k (.int .i64 0)), []⟩] [])
(.block 0 (.loop false (.seq (.seq (.reg [⟨(some 23), none, .mov (.t 8), []⟩,
  ⟨(some 24), none, .mov (.t 0), []⟩,
  ⟨(some 25), none, .len 1 (.t 24), []⟩,
  ⟨(some 26), none, .bin .lss 0 (.t 23) (.t 25), []⟩] [23, 24, 25])
(.cond (.t 26) [26] .skip (.exit 0)))
(.seq (.block 1 (.seq (.reg [⟨(some 29), none, .mov (.t 0), []⟩,
  ⟨(some 30), none, .mov (.t 8), []⟩,
  ⟨(some 31), none, .iaddr 5 (.t 29) (.t 30), []⟩,
  ⟨(some 32), none, .faddr 0 (.t 31), []⟩,
  ⟨(some 33), none, .load false 1 (.t 32), []⟩] [29, 30, 31, 32])
(.block 2 (.seq (.seq (.reg [⟨(some 37), none, .bin .eql 0 (.t 33) (.k (.int .i64 3)), []⟩,
  ⟨(some 36), none, .mov (.t 37), []⟩] [37])
(.cond (.t 36) [] .skip (.reg [⟨(some 38), none, .bin .eql 0 (.t 33) (.k (.int .i64 4)), []⟩,
  ⟨(some 36), none, .mov (.t 38), []⟩] [38])))
(.cond (.t 36) [] (.seq (.reg [⟨(some 39), none, .mov (.t 6), []⟩,
  ⟨(some 40), none, .bin .add 0 (.t 39) (.k (.int .i64 1)), []⟩,
  ⟨(some 6), none, .mov (.t 40), []⟩] [39, 40])
(.seq (.reg [⟨(some 41), none, .mov (.t 7), []⟩,
  ⟨(some 42), none, .mov (.t 0), []⟩,
  ⟨(some 43), none, .mov (.t 8), []⟩,
  ⟨(some 44), none, .iaddr 5 (.t 42) (.t 43), []⟩,
  ⟨(some 45), none, .faddr 1 (.t 44), []⟩,
  ⟨(some 46), none, .load false 1 (.t 45), []⟩,
  ⟨(some 47), none, .iaddr 1 (.t 41) (.t 46), []⟩,
  ⟨(some 48), none, .load false 1 (.t 47), []⟩,
  ⟨(some 49), none, .bin .add 0 (.t 48) (.k (.int .i64 1)), []⟩,
  ⟨(some 50), none, .iaddr 1 (.t 41) (.t 46), []⟩,
  ⟨none, none, .store false 1 (.t 50) (.t 49), []⟩] [41, 42, 43, 44, 45, 46, 47, 48, 49, 50])
(.reg [⟨(some 51), none, .mov (.t 7), []⟩,
  ⟨(some 52), none, .mov (.t 0), []⟩,
  ⟨(some 53), none, .mov (.t 8), []⟩,
  ⟨(some 54), none, .iaddr 5 (.t 52) (.t 53), []⟩,
  ⟨(some 55), none, .faddr 2 (.t 54), []⟩,
  ⟨(some 56), none, .load false 1 (.t 55), []⟩,
  ⟨(some 57), none, .iaddr 1 (.t 51) (.t 56), []⟩,
  ⟨(some 58), none, .load false 1 (.t 57), []⟩,
  ⟨(some 59), none, .bin .add 0 (.t 58) (.k (.int .i64 1)), []⟩,
  ⟨(some 60), none, .iaddr 1 (.t 51) (.t 56), []⟩,
  ⟨none, none, .store false 1 (.t 60) (.t 59), []⟩] [51, 52, 53, 54, 55, 56, 57, 58, 59, 60]))) (.seq (.reg [⟨(some 62), none, .bin .eql 0 (.t 33) (.k (.int .i64 5)), []⟩,
  ⟨(some 61), none, .mov (.t 62), []⟩] [62])
(.cond (.t 61) [61] (.reg [⟨(some 63), none, .mov (.t 7), []⟩,
  ⟨(some 64), none, .mov (.t 0), []⟩,
  ⟨(some 65), none, .mov (.t 8), []⟩,
  ⟨(some 66), none, .iaddr 5 (.t 64) (.t 65), []⟩,
  ⟨(some 67), none, .faddr 1 (.t 66), []⟩,
  ⟨(some 68), none, .load false 1 (.t 67), []⟩,
  ⟨(some 69), none, .iaddr 1 (.t 63) (.t 68), []⟩,
  ⟨(some 70), none, .load false 1 (.t 69), []⟩,
  ⟨(some 71), none, .bin .add 0 (.t 70) (.k (.int .i64 1)), []⟩,
  ⟨(some 72), none, .iaddr 1 (.t 63) (.t 68), []⟩,
  ⟨none, none, .store false 1 (.t 72) (.t 71), []⟩] [63, 64, 65, 66, 67, 68, 69, 70, 71, 72]) (.reg [⟨(some 34), none, .mov (.t 5), []⟩,
  ⟨(some 35), none, .bin .add 0 (.t 34) (.k (.int .i64 1)), []⟩,
  ⟨(some 5), none, .mov (.t 35), []⟩] [34, 35]))))))))
(.reg [⟨(some 27), none, .mov (.t 8), []⟩,
  ⟨(some 28), none, .bin .add 0 (.t 27) (.k (.int .i64 1)), []⟩,
  ⟨(some 8), none, .mov (.t 28), []⟩] [27, 28]))))))
(.seq (.seq (.reg [⟨(some 9), none, .mov (.k (.int .i64 0)), []⟩] [])
(.block 3 (.loop false (.seq (.seq (.reg [⟨(some 73), none, .mov (.t 9), []⟩,
  ⟨(some 74), none, .mov (.t 0), []⟩,
  ⟨(some 75), none, .len 1 (.t 74), []⟩,
  ⟨(some 76), none, .bin .lss 0 (.t 73) (.t 75), []⟩] [73, 74, 75])
(.cond (.t 76) [76] .skip (.exit 3)))
(.seq (.block 4 (.seq (.reg [⟨(some 79), none, .mov (.t 7), []⟩,
  ⟨(some 80), none, .mov (.t 9), []⟩,
  ⟨(some 81), none, .iaddr 1 (.t 79) (.t 80), []⟩,
  ⟨(some 82), none, .load false 1 (.t 81), []⟩,
  ⟨(some 83), none, .bin .eql 0 (.t 82) (.k (.int .i64 1)), []⟩,
  ⟨(some 84), none, .mov (.t 9), []⟩,
  ⟨(some 85), none, .bin .add 0 (.t 84) (.k (.int .i64 1)), []⟩,
  ⟨(some 86), none, .mov (.t 0), []⟩,
  ⟨(some 87), none, .len 1 (.t 86), []⟩,
  ⟨(some 88), none, .bin .lss 0 (.t 85) (.t 87), []⟩,
  ⟨(some 89), none, .bin .neq 1 (.t 83) (.t 88), []⟩,
  ⟨(some 90), none, .mov (.t 89), []⟩,
  ⟨(some 91), (some (90, false)), .mov (.t 7), []⟩,
  ⟨(some 92), (some (90, false)), .mov (.t 9), []⟩,
  ⟨(some 93), (some (90, false)), .iaddr 1 (.t 91) (.t 92), []⟩,
  ⟨(some 94), (some (90, false)), .load false 1 (.t 93), []⟩,
  ⟨(some 95), (some (90, false)), .bin .gtr 0 (.t 94) (.k (.int .i64 1)), []⟩,
  ⟨(some 96), none, .pick (.t 90) (.k (.bool true)) (.t 95), []⟩] [79, 80, 81, 82, 83, 84, 85, 86, 87, 88, 89, 90, 91, 92, 93, 94, 95])
(.cond (.t 96) [96] (.seq (.reg [⟨(some 4), none, .mov (.k (.bool false)), []⟩] [])
.ret) .skip)))
(.reg [⟨(some 77), none, .mov (.t 9), []⟩,
  ⟨(some 78), none, .bin .add 0 (.t 77) (.k (.int .i64 1)), []⟩,
  ⟨(some 9), none, .mov (.t 78), []⟩] [77, 78]))))))
(.seq (.reg [⟨(some 97), none, .mov (.t 1), []⟩,
  ⟨(some 98), none, .conv .i64 (.t 97), []⟩,
  ⟨(some 99), none, .mov (.t 0), []⟩,
  ⟨(some 100), none, .len 1 (.t 99), []⟩,
  ⟨(some 101), none, .bin .add 0 (.t 100) (.k (.int .i64 1)), []⟩,
  ⟨(some 102), none, .bin .rem 0 (.t 98) (.t 101), []⟩,
  ⟨(some 10), none, .mov (.t 102), []⟩] [97, 98, 99, 100, 101, 102])
(.seq (.reg [⟨(some 103), none, .mov (.t 0), []⟩,
  ⟨(some 104), none, .call 36 [(true, (.t 103))], []⟩,
  ⟨(some 11), none, .mov (.t 104), []⟩] [103, 104])
(.seq (.reg [⟨(some 105), none, .mov (.t 5), []⟩,
  ⟨(some 106), none, .mov (.t 6), []⟩,
  ⟨(some 107), none, .bin .add 0 (.t 106) (.k (.int .i64 1)), []⟩,
  ⟨(some 108), none, .bin .eql 0 (.t 105) (.t 107), []⟩,
  ⟨(some 109), none, .mov (.t 108), []⟩,
  ⟨(some 110), (some (109, true)), .mov (.t 0), []⟩,
  ⟨(some 111), (some (109, true)), .call 29 [(true, (.t 110))], []⟩,
  ⟨(some 112), none, .pick (.t 109) (.t 111) (.k (.bool false)), []⟩,
  ⟨(some 113), none, .mov (.t 112), []⟩,
  ⟨(some 114), (some (113, true)), .mov (.t 0), []⟩,
  ⟨(some 115), (some (113, true)), .mov (.t 10), []⟩,
  ⟨(some 116), (some (113, true)), .slc 5 (.t 114) none (some (.t 115)) none, []⟩,
  ⟨(some 117), (some (113, true)), .call 29 [(true, (.t 116))], []⟩,
  ⟨(some 118), (some (113, true)), .mov (.t 10), []⟩,
  ⟨(some 119), (some (113, true)), .bin .gtr 0 (.t 118) (.k (.int .i64 0)), []⟩,
  ⟨(some 120), (some (113, true)), .mov (.t 119), []⟩,
  ⟨(some 121), (some (120, true)), .mov (.t 11), []⟩,
  ⟨(some 122), (some (120, true)), .mov (.t 10), []⟩,
  ⟨(some 123), (some (120, true)), .bin .sub 0 (.t 122) (.k (.int .i64 1)), []⟩,
  ⟨(some 124), (some (120, true)), .iaddr 1 (.t 121) (.t 123), []⟩,
  ⟨(some 125), (some (120, true)), .load false 1 (.t 124), []⟩,
  ⟨(some 126), (some (120, true)), .bin .eql 0 (.t 125) (.k (.int .i64 0)), []⟩,
  ⟨(some 127), (some (113, true)), .pick (.t 120) (.t 126) (.k (.bool false)), []⟩,
  ⟨(some 128), (some (113, true)), .bin .eql 1 (.t 117) (.t 127), []⟩,
  ⟨(some 129), none, .pick (.t 113) (.t 128) (.k (.bool false)), []⟩,
  ⟨(some 130), none, .mov (.t 129), []⟩,
  ⟨(some 131), (some (130, true)), .call 17 [], []⟩,
  ⟨(some 132), none, .pick (.t 130) (.t 131) (.k (.bool false)), []⟩,
  ⟨(some 4), none, .mov (.t 132), []⟩] [105, 106, 107, 108, 109, 110, 111, 112, 113, 114, 115, 116, 117, 118, 119, 120, 121, 122, 123, 124, 125, 126, 127, 128, 129, 130, 131, 132])
.ret)))))))))
/-- caesura/caesuralaw11.TreeSizes -/
def fn6 : AFn := ⟨2, 133, c6, [(.t 4)], 0⟩
theorem fn6_np : fn6.np = 2 := rfl
theorem fn6_body : fn6.body = c6 := rfl
theorem fn6_res : fn6.res = [(.t 4)] := rfl
theorem fn6_keep : fn6.keep = 0 := rfl
def c16 : ACode :=
(.seq (.reg [⟨(some 2), none, .mov (.k (.bool false)), []⟩] [])
(.seq (.reg [⟨(some 3), none, .mov (.k (.int .i64 0)), []⟩] [])
(.seq (.seq (.reg [⟨(some 4), none, .mov (.k (.int .i64 0)), []⟩] [])
(.block 0 (.loop false (.seq (.seq (.reg [⟨(some 5), none, .mov (.t 4), []⟩,
  ⟨(some 6), none, .mov (.t 0), []⟩,
  ⟨(some 7), none, .len 1 (.t 6), []⟩,
  ⟨(some 8), none, .bin .lss 0 (.t 5) (.t 7), []⟩,
  ⟨(some 9), none, .mov (.t 8), []⟩,
  ⟨(some 10), (some (9, true)), .mov (.t 3), []⟩,
  ⟨(some 11), (some (9, true)), .bin .leq 0 (.t 10) (.k (.int .i64 600)), []⟩,
  ⟨(some 12), none, .pick (.t 9) (.t 11) (.k (.bool false)), []⟩] [5, 6, 7, 8, 9, 10, 11])
(.cond (.t 12) [12] .skip (.exit 0)))
(.seq (.block 1 (.dreg [⟨(some 15), none, .mov (.t 3), []⟩,
  ⟨(some 16), none, .mov (.t 0), []⟩,
  ⟨(some 17), none, .mov (.t 4), []⟩,
  ⟨(some 18), none, .iaddr 5 (.t 16) (.t 17), [1, 2]⟩,
  ⟨(some 19), none, .faddr 3 (.t 18), [1, 2, 3]⟩,
  ⟨(some 20), none, .load false 1 (.t 19), [1, 2, 3, 4]⟩,
  ⟨(some 21), none, .len 1 (.t 20), [1, 2, 3, 4, 5]⟩,
  ⟨(some 22), none, .mm false [(.t 21), (.k (.int .i64 600))], [1, 2, 3, 4, 5, 6]⟩,
  ⟨(some 23), none, .bin .add 0 (.k (.int .i64 1)) (.t 22), [1, 2, 3, 4, 5, 6, 7]⟩,
  ⟨(some 24), none, .mov (.t 0), []⟩,
  ⟨(some 25), none, .mov (.t 4), []⟩,
  ⟨(some 26), none, .iaddr 5 (.t 24) (.t 25), [9, 10]⟩,
  ⟨(some 27), none, .faddr 4 (.t 26), [9, 10, 11]⟩,
  ⟨(some 28), none, .load false 1 (.t 27), [9, 10, 11, 12]⟩,
  ⟨(some 29), none, .len 0 (.t 28), [9, 10, 11, 12, 13]⟩,
  ⟨(some 30), none, .bin .quo 0 (.t 29) (.k (.int .i64 8)), [9, 10, 11, 12, 13, 14]⟩,
  ⟨(some 31), none, .mm false [(.t 30), (.k (.int .i64 600))], [9, 10, 11, 12, 13, 14, 15]⟩,
  ⟨(some 32), none, .bin .add 0 (.t 23) (.t 31), [1, 2, 3, 4, 5, 6, 7, 8, 9, 10, 11, 12, 13, 14, 15, 16]⟩,
  ⟨(some 33), none, .bin .add 0 (.t 15) (.t 32), [0, 1, 2, 3, 4, 5, 6, 7, 8, 9, 10, 11, 12, 13, 14, 15, 16, 17]⟩,
  ⟨(some 3), none, .mov (.t 33), [0, 1, 2, 3, 4, 5, 6, 7, 8, 9, 10, 11, 12, 13, 14, 15, 16, 17, 18]⟩] [15, 16, 17, 18, 19, 20, 21, 22, 23, 24, 25, 26, 27, 28, 29, 30, 31, 32, 33]))
(.reg [⟨(some 13), none, .mov (.t 4), []⟩,
  ⟨(some 14), none, .bin .add 0 (.t 13) (.k (.int .i64 1)), []⟩,
  ⟨(some 4), none, .mov (.t 14), []⟩] [13, 14]))))))
(.seq (.reg [⟨(some 34), none, .mov (.t 3), []⟩,
  ⟨(some 35), none, .bin .gtr 0 (.t 34) (.k (.int .i64 600)), []⟩,
  ⟨(some 2), none, .mov (.t 35), []⟩] [34, 35])
.ret))))
/-- caesura/caesurakeep.LargeTree -/
def fn16 : AFn := ⟨1, 36, c16, [(.t 2)], 0⟩
theorem fn16_np : fn16.np = 1 := rfl
theorem fn16_body : fn16.body = c16 := rfl
theorem fn16_res : fn16.res = [(.t 2)] := rfl
theorem fn16_keep : fn16.keep = 0 := rfl
def c17 : ACode :=
(.seq (.reg [⟨(some 0), none, .mov (.k (.bool false)), []⟩] [])
(.seq (.reg [⟨(some 15), none, .agg [(.int .i64 0), (.int .i64 0)] [(0, 1, (.k (.int .i64 97))), (1, 1, (.k (.int .i64 98)))], []⟩,
  ⟨(some 16), none, .mkl 70 2 [(.int .i64 0), (.int .i64 0)] 1 [(0, (.t 15))] false, []⟩,
  ⟨(some 17), none, .call 22 [(true, (.t 16)), (true, (.k (.str ⟨#[110]⟩)))], []⟩,
  ⟨(some 14), none, .mov (.t 17), []⟩,
  ⟨(some 18), none, .ext (.t 14) 0, []⟩,
  ⟨(some 19), none, .ext (.t 14) 1, []⟩,
  ⟨(some 1), none, .mov (.t 18), []⟩,
  ⟨(some 2), none, .mov (.t 19), []⟩] [14, 15, 16, 17, 18, 19])
(.seq (.reg [⟨(some 21), none, .mov (.t 1), []⟩,
  ⟨(some 22), none, .call 21 [(true, (.t 21))], []⟩,
  ⟨(some 20), none, .mov (.t 22), []⟩,
  ⟨(some 23), none, .ext (.t 20) 0, []⟩,
  ⟨(some 24), none, .ext (.t 20) 1, []⟩,
  ⟨(some 3), none, .mov (.t 23), []⟩,
  ⟨(some 4), none, .mov (.t 24), []⟩] [20, 21, 22, 23, 24])
(.seq (.reg [⟨(some 26), none, .mov (.t 3), []⟩,
  ⟨(some 27), none, .call 34 [(true, (.k (.int .i64 1)))], []⟩,
  ⟨(some 28), none, .call 19 [(true, (.t 26)), (true, (.t 27))], []⟩,
  ⟨(some 25), none, .mov (.t 28), []⟩,
  ⟨(some 29), none, .ext (.t 25) 0, []⟩,
  ⟨(some 30), none, .ext (.t 25) 1, []⟩,
  ⟨(some 5), none, .mov (.t 29), []⟩,
  ⟨(some 6), none, .mov (.t 30), []⟩] [25, 26, 27, 28, 29, 30])
(.seq (.reg [⟨(some 32), none, .mov (.t 5), []⟩,
  ⟨(some 33), none, .mov (.t 1), []⟩,
  ⟨(some 34), none, .call 20 [(true, (.t 32)), (true, (.t 33))], []⟩,
  ⟨(some 31), none, .mov (.t 34), []⟩,
  ⟨(some 35), none, .ext (.t 31) 0, []⟩,
  ⟨(some 36), none, .ext (.t 31) 1, []⟩,
  ⟨(some 7), none, .mov (.t 35), []⟩,
  ⟨(some 8), none, .mov (.t 36), []⟩] [31, 32, 33, 34, 35, 36])
(.seq (.reg [⟨(some 38), none, .mov (.t 7), []⟩,
  ⟨(some 39), none, .call 23 [(true, (.t 38))], []⟩,
  ⟨(some 37), none, .mov (.t 39), []⟩,
  ⟨(some 40), none, .ext (.t 37) 0, []⟩,
  ⟨(some 41), none, .ext (.t 37) 1, []⟩,
  ⟨(some 42), none, .ext (.t 37) 2, []⟩,
  ⟨(some 9), none, .mov (.t 40), []⟩,
  ⟨(some 10), none, .mov (.t 41), []⟩,
  ⟨(some 11), none, .mov (.t 42), []⟩] [37, 38, 39, 40, 41, 42])
(.seq (.reg [⟨(some 44), none, .call 22 [(true, (.k (.list 2 []))), (true, (.k (.str ⟨#[]⟩)))], []⟩,
  ⟨(some 43), none, .mov (.t 44), []⟩,
  ⟨(some 45), none, .ext (.t 43) 0, []⟩,
  ⟨(some 46), none, .ext (.t 43) 1, []⟩,
  ⟨(some 12), none, .mov (.t 45), []⟩,
  ⟨(some 13), none, .mov (.t 46), []⟩] [12, 43, 44, 45, 46])
(.seq (.reg [⟨(some 47), none, .mov (.t 2), []⟩,
  ⟨(some 48), none, .mov (.t 47), []⟩,
  ⟨(some 49), (some (48, true)), .mov (.t 4), []⟩,
  ⟨(some 50), none, .pick (.t 48) (.t 49) (.k (.bool false)), []⟩,
  ⟨(some 51), none, .mov (.t 50), []⟩,
  ⟨(some 52), (some (51, true)), .mov (.t 6), []⟩,
  ⟨(some 53), none, .pick (.t 51) (.t 52) (.k (.bool false)), []⟩,
  ⟨(some 54), none, .mov (.t 53), []⟩,
  ⟨(some 55), (some (54, true)), .mov (.t 8), []⟩,
  ⟨(some 56), none, .pick (.t 54) (.t 55) (.k (.bool false)), []⟩,
  ⟨(some 57), none, .mov (.t 56), []⟩,
  ⟨(some 58), (some (57, true)), .mov (.t 7), []⟩,
  ⟨(some 59), (some (57, true)), .len 1 (.t 58), []⟩,
  ⟨(some 60), (some (57, true)), .bin .eql 0 (.t 59) (.k (.int .i64 6)), []⟩,
  ⟨(some 61), none, .pick (.t 57) (.t 60) (.k (.bool false)), []⟩,
  ⟨(some 62), none, .mov (.t 61), []⟩,
  ⟨(some 63), (some (62, true)), .mov (.t 7), []⟩,
  ⟨(some 64), (some (62, true)), .iaddr 5 (.t 63) (.k (.int .i64 5)), []⟩,
  ⟨(some 65), (some (62, true)), .faddr 0 (.t 64), []⟩,
  ⟨(some 66), (some (62, true)), .load false 1 (.t 65), []⟩,
  ⟨(some 67), (some (62, true)), .bin .eql 0 (.t 66) (.k (.int .i64 4)), []⟩,
  ⟨(some 68), none, .pick (.t 62) (.t 67) (.k (.bool false)), []⟩,
  ⟨(some 69), none, .mov (.t 68), []⟩,
  ⟨(some 70), (some (69, true)), .mov (.t 7), []⟩,
  ⟨(some 71), (some (69, true)), .iaddr 5 (.t 70) (.k (.int .i64 5)), []⟩,
  ⟨(some 72), (some (69, true)), .faddr 1 (.t 71), []⟩,
  ⟨(some 73), (some (69, true)), .load false 1 (.t 72), []⟩,
  ⟨(some 74), (some (69, true)), .bin .eql 0 (.t 73) (.k (.int .i64 3)), []⟩,
  ⟨(some 75), none, .pick (.t 69) (.t 74) (.k (.bool false)), []⟩,
  ⟨(some 76), none, .mov (.t 75), []⟩,
  ⟨(some 77), (some (76, true)), .mov (.t 7), []⟩,
  ⟨(some 78), (some (76, true)), .iaddr 5 (.t 77) (.k (.int .i64 5)), []⟩,
  ⟨(some 79), (some (76, true)), .faddr 2 (.t 78), []⟩,
  ⟨(some 80), (some (76, true)), .load false 1 (.t 79), []⟩,
  ⟨(some 81), (some (76, true)), .bin .eql 0 (.t 80) (.k (.int .i64 4)), []⟩,
  ⟨(some 82), none, .pick (.t 76) (.t 81) (.k (.bool false)), []⟩,
  ⟨(some 83), none, .mov (.t 82), []⟩,
  ⟨(some 84), (some (83, true)), .mov (.t 11), []⟩,
  ⟨(some 85), none, .pick (.t 83) (.t 84) (.k (.bool false)), []⟩,
  ⟨(some 86), none, .mov (.t 85), []⟩,
  ⟨(some 87), (some (86, true)), .mov (.t 9), []⟩,
  ⟨(some 88), (some (86, true)), .mov (.t 5), []⟩,
  ⟨(some 89), (some (86, true)), .call 33 [(true, (.t 87)), (true, (.t 88))], []⟩,
  ⟨(some 90), none, .pick (.t 86) (.t 89) (.k (.bool false)), []⟩,
  ⟨(some 91), none, .mov (.t 90), []⟩,
  ⟨(some 92), (some (91, true)), .mov (.t 10), []⟩,
  ⟨(some 93), (some (91, true)), .mov (.t 1), []⟩,
  ⟨(some 94), (some (91, true)), .call 33 [(true, (.t 92)), (true, (.t 93))], []⟩,
  ⟨(some 95), none, .pick (.t 91) (.t 94) (.k (.bool false)), []⟩,
  ⟨(some 96), none, .mov (.t 95), []⟩,
  ⟨(some 97), (some (96, true)), .mov (.t 13), []⟩,
  ⟨(some 98), (some (96, true)), .un .not (.t 97), []⟩,
  ⟨(some 99), none, .pick (.t 96) (.t 98) (.k (.bool false)), []⟩,
  ⟨(some 100), none, .mov (.t 99), []⟩,
  ⟨(some 101), (some (100, true)), .mov (.t 7), []⟩,
  ⟨(some 102), (some (100, true)), .mkl 3 1 [(.int .i64 0)] 3 [(0, (.k (.int .i64 97))), (1, (.k (.int .i64 98))), (2, (.k (.int .i64 97)))] false, []⟩,
  ⟨(some 103), (some (100, true)), .call 31 [(true, (.t 101)), (true, (.t 102))], []⟩,
  ⟨(some 104), none, .pick (.t 100) (.t 103) (.k (.bool false)), []⟩,
  ⟨(some 105), none, .mov (.t 104), []⟩,
  ⟨(some 106), (some (105, true)), .mov (.t 7), []⟩,
  ⟨(some 107), (some (105, true)), .call 31 [(true, (.t 106)), (true, (.k (.list 1 [])))], []⟩,
  ⟨(some 108), none, .pick (.t 105) (.t 107) (.k (.bool false)), []⟩,
  ⟨(some 109), none, .mov (.t 108), []⟩,
  ⟨(some 110), (some (109, true)), .mov (.t 7), []⟩,
  ⟨(some 111), (some (109, true)), .mkl 3 1 [(.int .i64 0)] 1 [(0, (.k (.int .i64 99)))] false, []⟩,
  ⟨(some 112), (some (109, true)), .call 31 [(true, (.t 110)), (true, (.t 111))], []⟩,
  ⟨(some 113), (some (109, true)), .un .not (.t 112), []⟩,
  ⟨(some 114), none, .pick (.t 109) (.t 113) (.k (.bool false)), []⟩,
  ⟨(some 115), none, .mov (.t 114), []⟩,
  ⟨(some 116), (some (115, true)), .mov (.t 7), []⟩,
  ⟨(some 117), (some (115, true)), .call 29 [(true, (.t 116))], []⟩,
  ⟨(some 118), none, .pick (.t 115) (.t 117) (.k (.bool false)), []⟩,
  ⟨(some 119), none, .mov (.t 118), []⟩,
  ⟨(some 120), (some (119, true)), .mov (.t 7), []⟩,
  ⟨(some 121), (some (119, true)), .slc 5 (.t 120) none (some (.k (.int .i64 5))) none, []⟩,
  ⟨(some 122), (some (119, true)), .call 29 [(true, (.t 121))], []⟩,
  ⟨(some 123), (some (119, true)), .un .not (.t 122), []⟩,
  ⟨(some 124), none, .pick (.t 119) (.t 123) (.k (.bool false)), []⟩,
  ⟨(some 125), none, .mov (.t 124), []⟩,
  ⟨(some 126), (some (125, true)), .call 34 [(true, (.k (.int .i64 7)))], []⟩,
  ⟨(some 127), (some (125, true)), .len 1 (.t 126), []⟩,
  ⟨(some 128), (some (125, true)), .bin .eql 0 (.t 127) (.k (.int .i64 1)), []⟩,
  ⟨(some 129), none, .pick (.t 125) (.t 128) (.k (.bool false)), []⟩,
  ⟨(some 0), none, .mov (.t 129), []⟩] [47, 48, 49, 50, 51, 52, 53, 54, 55, 56, 57, 58, 59, 60, 61, 62, 63, 64, 65, 66, 67, 68, 69, 70, 71, 72, 73, 74, 75, 76, 77, 78, 79, 80, 81, 82, 83, 84, 85, 86, 87, 88, 89, 90, 91, 92, 93, 94, 95, 96, 97, 98, 99, 100, 101, 102, 103, 104, 105, 106, 107, 108, 109, 110, 111, 112, 113, 114, 115, 116, 117, 118, 119, 120, 121, 122, 123, 124, 125, 126, 127, 128, 129])
.ret))))))))
/-- caesura/caesuralaw11.wakes -/
def fn17 : AFn := ⟨0, 130, c17, [(.t 0)], 0⟩
theorem fn17_np : fn17.np = 0 := rfl
theorem fn17_body : fn17.body = c17 := rfl
theorem fn17_res : fn17.res = [(.t 0)] := rfl
theorem fn17_keep : fn17.keep = 0 := rfl
def c18 : ACode :=
(.seq (.reg [⟨(some 2), none, .anil 48 5, []⟩] [])
(.seq (.reg [⟨(some 3), none, .anil 48 5, []⟩] [])
(.seq (.seq (.reg [⟨(some 4), none, .mov (.k (.int .i64 0)), []⟩] [])
(.block 0 (.loop false (.seq (.seq (.reg [⟨(some 6), none, .mov (.t 4), []⟩,
  ⟨(some 7), none, .mov (.t 0), []⟩,
  ⟨(some 8), none, .len 1 (.t 7), []⟩,
  ⟨(some 9), none, .bin .lss 0 (.t 6) (.t 8), []⟩] [6, 7, 8])
(.cond (.t 9) [9] .skip (.exit 0)))
(.seq (.block 1 (.seq (.reg [⟨(some 12), none, .mov (.t 0), []⟩,
  ⟨(some 13), none, .mov (.t 4), []⟩,
  ⟨(some 14), none, .iaddr 5 (.t 12) (.t 13), []⟩,
  ⟨(some 15), none, .load true 5 (.t 14), []⟩,
  ⟨(some 5), none, .new [(.int .i64 0), (.int .i64 0), (.int .i64 0), (.list 2 []), (.str ⟨#[]⟩)], []⟩,
  ⟨none, none, .store false 5 (.t 5) (.t 15), []⟩] [12, 13, 14, 15])
(.seq (.reg [⟨(some 16), none, .mkl 70 2 [(.int .i64 0), (.int .i64 0)] 0 [] false, []⟩,
  ⟨(some 17), none, .faddr 3 (.t 5), []⟩,
  ⟨(some 18), none, .load false 1 (.t 17), []⟩,
  ⟨(some 19), none, .app 70 2 16 (.t 16) (.t 18), []⟩,
  ⟨(some 20), none, .faddr 3 (.t 5), []⟩,
  ⟨none, none, .store false 1 (.t 20) (.t 19), []⟩] [16, 17, 18, 19, 20])
(.reg [⟨(some 21), none, .mov (.t 3), []⟩,
  ⟨(some 22), none, .load true 5 (.t 5), []⟩,
  ⟨(some 23), none, .mkl 48 5 [(.int .i64 0), (.int .i64 0), (.int .i64 0), (.list 2 []), (.str ⟨#[]⟩)] 1 [(0, (.t 22))] false, []⟩,
  ⟨(some 24), none, .app 48 5 64 (.t 21) (.t 23), []⟩,
  ⟨(some 3), none, .mov (.t 24), []⟩] [21, 22, 23, 24]))))
(.reg [⟨(some 10), none, .mov (.t 4), []⟩,
  ⟨(some 11), none, .bin .add 0 (.t 10) (.k (.int .i64 1)), []⟩,
  ⟨(some 4), none, .mov (.t 11), []⟩] [10, 11]))))))
(.seq (.reg [⟨(some 25), none, .mov (.t 3), []⟩,
  ⟨(some 2), none, .mov (.t 25), []⟩] [25])
.ret))))
/-- caesura/caesurakeep.OwnTree -/
def fn18 : AFn := ⟨1, 26, c18, [(.t 2)], 0⟩
theorem fn18_np : fn18.np = 1 := rfl
theorem fn18_body : fn18.body = c18 := rfl
theorem fn18_res : fn18.res = [(.t 2)] := rfl
theorem fn18_keep : fn18.keep = 0 := rfl
def c19 : ACode :=
(.seq (.reg [⟨(some 4), none, .anil 48 5, []⟩,
  ⟨(some 5), none, .mov (.k (.bool false)), []⟩] [])
(.seq (.reg [⟨(some 6), none, .mov (.t 0), []⟩,
  ⟨(some 7), none, .mov (.t 1), []⟩,
  ⟨(some 8), none, .call 67 [(true, (.k (.int .i64 3))), (true, (.t 6)), (true, (.t 7))], []⟩,
  ⟨(some 9), none, .ext (.t 8) 0, []⟩,
  ⟨(some 10), none, .ext (.t 8) 1, []⟩,
  ⟨(some 4), none, .mov (.t 9), []⟩,
  ⟨(some 5), none, .mov (.t 10), []⟩] [6, 7, 8, 9, 10])
.ret))
/-- caesura/tree.Cat -/
def fn19 : AFn := ⟨2, 11, c19, [(.t 4), (.t 5)], 0⟩
theorem fn19_np : fn19.np = 2 := rfl
theorem fn19_body : fn19.body = c19 := rfl
theorem fn19_res : fn19.res = [(.t 4), (.t 5)] := rfl
theorem fn19_keep : fn19.keep = 0 := rfl
def c20 : ACode :=
(.seq (.reg [⟨(some 4), none, .anil 48 5, []⟩,
  ⟨(some 5), none, .mov (.k (.bool false)), []⟩] [])
(.seq (.reg [⟨(some 6), none, .mov (.t 0), []⟩,
  ⟨(some 7), none, .mov (.t 1), []⟩,
  ⟨(some 8), none, .call 67 [(true, (.k (.int .i64 4))), (true, (.t 6)), (true, (.t 7))], []⟩,
  ⟨(some 9), none, .ext (.t 8) 0, []⟩,
  ⟨(some 10), none, .ext (.t 8) 1, []⟩,
  ⟨(some 4), none, .mov (.t 9), []⟩,
  ⟨(some 5), none, .mov (.t 10), []⟩] [6, 7, 8, 9, 10])
.ret))
/-- caesura/tree.Alt -/
def fn20 : AFn := ⟨2, 11, c20, [(.t 4), (.t 5)], 0⟩
theorem fn20_np : fn20.np = 2 := rfl
theorem fn20_body : fn20.body = c20 := rfl
theorem fn20_res : fn20.res = [(.t 4), (.t 5)] := rfl
theorem fn20_keep : fn20.keep = 0 := rfl
def c21 : ACode :=
(.seq (.reg [⟨(some 2), none, .anil 48 5, []⟩,
  ⟨(some 3), none, .mov (.k (.bool false)), []⟩] [])
(.seq (.seq (.reg [⟨(some 4), none, .mov (.t 0), []⟩,
  ⟨(some 5), none, .call 29 [(true, (.t 4))], []⟩,
  ⟨(some 6), none, .un .not (.t 5), []⟩,
  ⟨(some 7), none, .mov (.t 6), []⟩,
  ⟨(some 8), (some (7, false)), .mov (.t 0), []⟩,
  ⟨(some 9), (some (7, false)), .len 1 (.t 8), []⟩,
  ⟨(some 10), (some (7, false)), .bin .add 0 (.t 9) (.k (.int .i64 1)), []⟩,
  ⟨(some 11), (some (7, false)), .bin .gtr 0 (.t 10) (.k (.int .i64 40000)), []⟩,
  ⟨(some 12), none, .pick (.t 7) (.k (.bool true)) (.t 11), []⟩] [4, 5, 6, 7, 8, 9, 10, 11])
(.cond (.t 12) [12] (.seq (.reg [⟨(some 2), none, .anil 48 5, []⟩,
  ⟨(some 3), none, .mov (.k (.bool false)), []⟩] [])
.ret) .skip))
(.seq (.reg [⟨(some 13), none, .mov (.t 0), []⟩,
  ⟨(some 14), none, .call 68 [(true, (.t 13)), (true, (.k (.int .i64 0)))], []⟩,
  ⟨(some 15), none, .mov (.t 0), []⟩,
  ⟨(some 16), none, .len 1 (.t 15), []⟩,
  ⟨(some 17), none, .bin .sub 0 (.t 16) (.k (.int .i64 1)), []⟩,
  ⟨(some 18), none, .agg [(.int .i64 0), (.int .i64 0), (.int .i64 0), (.list 2 []), (.str ⟨#[]⟩)] [(0, 1, (.k (.int .i64 5))), (1, 1, (.t 17))], []⟩,
  ⟨(some 19), none, .mkl 48 5 [(.int .i64 0), (.int .i64 0), (.int .i64 0), (.list 2 []), (.str ⟨#[]⟩)] 1 [(0, (.t 18))] false, []⟩,
  ⟨(some 20), none, .app 48 5 64 (.t 14) (.t 19), []⟩,
  ⟨(some 2), none, .mov (.t 20), []⟩,
  ⟨(some 3), none, .mov (.k (.bool true)), []⟩] [13, 14, 15, 16, 17, 18, 19, 20])
.ret)))
/-- caesura/tree.Star -/
def fn21 : AFn := ⟨1, 21, c21, [(.t 2), (.t 3)], 0⟩
theorem fn21_np : fn21.np = 1 := rfl
theorem fn21_body : fn21.body = c21 := rfl
theorem fn21_res : fn21.res = [(.t 2), (.t 3)] := rfl
theorem fn21_keep : fn21.keep = 0 := rfl
def c22 : ACode :=
(.seq (.reg [⟨(some 4), none, .anil 48 5, []⟩,
  ⟨(some 5), none, .mov (.k (.bool false)), []⟩] [])
(.seq (.seq (.reg [⟨(some 6), none, .mov (.t 0), []⟩,
  ⟨(some 7), none, .len 1 (.t 6), []⟩,
  ⟨(some 8), none, .bin .eql 0 (.t 7) (.k (.int .i64 0)), []⟩,
  ⟨(some 9), none, .mov (.t 8), []⟩,
  ⟨(some 10), (some (9, false)), .mov (.t 0), []⟩,
  ⟨(some 11), (some (9, false)), .call 56 [(true, (.t 10))], []⟩,
  ⟨(some 12), (some (9, false)), .un .not (.t 11), []⟩,
  ⟨(some 13), none, .pick (.t 9) (.k (.bool true)) (.t 12), []⟩] [6, 7, 8, 9, 10, 11, 12])
(.cond (.t 13) [13] (.seq (.reg [⟨(some 4), none, .anil 48 5, []⟩,
  ⟨(some 5), none, .mov (.k (.bool false)), []⟩] [])
.ret) .skip))
(.seq (.reg [⟨(some 14), none, .mov (.t 0), []⟩,
  ⟨(some 15), none, .call 69 [(true, (.t 14))], []⟩,
  ⟨(some 16), none, .mov (.t 1), []⟩,
  ⟨(some 17), none, .agg [(.int .i64 0), (.int .i64 0), (.int .i64 0), (.list 2 []), (.str ⟨#[]⟩)] [(0, 1, (.k (.int .i64 2))), (3, 1, (.t 15)), (4, 1, (.t 16))], []⟩,
  ⟨(some 18), none, .mkl 48 5 [(.int .i64 0), (.int .i64 0), (.int .i64 0), (.list 2 []), (.str ⟨#[]⟩)] 1 [(0, (.t 17))] false, []⟩,
  ⟨(some 4), none, .mov (.t 18), []⟩,
  ⟨(some 5), none, .mov (.k (.bool true)), []⟩] [14, 15, 16, 17, 18])
.ret)))
/-- caesura/tree.One -/
def fn22 : AFn := ⟨2, 19, c22, [(.t 4), (.t 5)], 0⟩
theorem fn22_np : fn22.np = 2 := rfl
theorem fn22_body : fn22.body = c22 := rfl
theorem fn22_res : fn22.res = [(.t 4), (.t 5)] := rfl
theorem fn22_keep : fn22.keep = 0 := rfl
def c23 : ACode :=
(.seq (.reg [⟨(some 2), none, .anil 48 5, []⟩,
  ⟨(some 3), none, .anil 48 5, []⟩,
  ⟨(some 4), none, .mov (.k (.bool false)), []⟩] [])
(.seq (.seq (.reg [⟨(some 6), none, .mov (.t 0), []⟩,
  ⟨(some 7), none, .call 29 [(true, (.t 6))], []⟩,
  ⟨(some 8), none, .un .not (.t 7), []⟩] [6, 7])
(.cond (.t 8) [8] (.seq (.reg [⟨(some 2), none, .anil 48 5, []⟩,
  ⟨(some 3), none, .anil 48 5, []⟩,
  ⟨(some 4), none, .mov (.k (.bool false)), []⟩] [])
.ret) .skip))
(.seq (.seq (.reg [⟨(some 9), none, .mov (.t 0), []⟩,
  ⟨(some 10), none, .mov (.t 0), []⟩,
  ⟨(some 11), none, .len 1 (.t 10), []⟩,
  ⟨(some 12), none, .bin .sub 0 (.t 11) (.k (.int .i64 1)), []⟩,
  ⟨(some 13), none, .iaddr 5 (.t 9) (.t 12), []⟩,
  ⟨(some 14), none, .load true 5 (.t 13), []⟩,
  ⟨(some 5), none, .new [(.int .i64 0), (.int .i64 0), (.int .i64 0), (.list 2 []), (.str ⟨#[]⟩)], []⟩,
  ⟨none, none, .store false 5 (.t 5) (.t 14), []⟩] [9, 10, 11, 12, 13, 14])
(.seq (.reg [⟨(some 15), none, .faddr 0 (.t 5), []⟩,
  ⟨(some 16), none, .load false 1 (.t 15), []⟩] [15])
(.block 0 (.seq (.seq (.reg [⟨(some 18), none, .bin .eql 0 (.t 16) (.k (.int .i64 3)), []⟩,
  ⟨(some 17), none, .mov (.t 18), []⟩] [18])
(.cond (.t 17) [] .skip (.reg [⟨(some 19), none, .bin .eql 0 (.t 16) (.k (.int .i64 4)), []⟩,
  ⟨(some 17), none, .mov (.t 19), []⟩] [19])))
(.cond (.t 17) [] (.seq (.dreg [⟨(some 20), none, .mov (.t 0), []⟩,
  ⟨(some 21), none, .faddr 1 (.t 5), []⟩,
  ⟨(some 22), none, .load false 1 (.t 21), [1]⟩,
  ⟨(some 23), none, .bin .add 0 (.t 22) (.k (.int .i64 1)), [1, 2]⟩,
  ⟨(some 24), none, .slc 5 (.t 20) none (some (.t 23)) none, [0, 1, 2, 3]⟩,
  ⟨(some 25), none, .call 100068 [(true, (.t 24)), (true, (.k (.int .i64 0)))], [0, 1, 2, 3, 4]⟩,
  ⟨(some 26), none, .mov (.t 0), []⟩,
  ⟨(some 27), none, .faddr 1 (.t 5), []⟩,
  ⟨(some 28), none, .load false 1 (.t 27), [7]⟩,
  ⟨(some 29), none, .bin .add 0 (.t 28) (.k (.int .i64 1)), [7, 8]⟩,
  ⟨(some 30), none, .faddr 2 (.t 5), []⟩,
  ⟨(some 31), none, .load false 1 (.t 30), [10]⟩,
  ⟨(some 32), none, .bin .add 0 (.t 31) (.k (.int .i64 1)), [10, 11]⟩,
  ⟨(some 33), none, .slc 5 (.t 26) (some (.t 29)) (some (.t 32)) none, [6, 7, 8, 9, 10, 11, 12]⟩,
  ⟨(some 34), none, .faddr 1 (.t 5), []⟩,
  ⟨(some 35), none, .load false 1 (.t 34), [14]⟩,
  ⟨(some 36), none, .un .neg (.t 35), [14, 15]⟩,
  ⟨(some 37), none, .bin .sub 0 (.t 36) (.k (.int .i64 1)), [14, 15, 16]⟩,
  ⟨(some 38), none, .call 100068 [(true, (.t 33)), (true, (.t 37))], [0, 1, 2, 3, 4, 5, 6, 7, 8, 9, 10, 11, 12, 13, 14, 15, 16, 17]⟩,
  ⟨(some 2), none, .mov (.t 25), [0, 1, 2, 3, 4, 5, 6, 7, 8, 9, 10, 11, 12, 13, 14, 15, 16, 17, 18]⟩,
  ⟨(some 3), none, .mov (.t 38), [0, 1, 2, 3, 4, 5, 6, 7, 8, 9, 10, 11, 12, 13, 14, 15, 16, 17, 18, 19]⟩,
  ⟨(some 4), none, .mov (.k (.bool true)), [0, 1, 2, 3, 4, 5, 6, 7, 8, 9, 10, 11, 12, 13, 14, 15, 16, 17, 18, 19, 20]⟩] [20, 21, 22, 23, 24, 25, 26, 27, 28, 29, 30, 31, 32, 33, 34, 35, 36, 37, 38])
.ret) (.seq (.reg [⟨(some 40), none, .bin .eql 0 (.t 16) (.k (.int .i64 5)), []⟩,
  ⟨(some 39), none, .mov (.t 40), []⟩] [40])
(.cond (.t 39) [39] (.seq (.reg [⟨(some 41), none, .mov (.t 0), []⟩,
  ⟨(some 42), none, .faddr 1 (.t 5), []⟩,
  ⟨(some 43), none, .load false 1 (.t 42), []⟩,
  ⟨(some 44), none, .bin .add 0 (.t 43) (.k (.int .i64 1)), []⟩,
  ⟨(some 45), none, .slc 5 (.t 41) none (some (.t 44)) none, []⟩,
  ⟨(some 46), none, .call 100068 [(true, (.t 45)), (true, (.k (.int .i64 0)))], []⟩,
  ⟨(some 2), none, .mov (.t 46), []⟩,
  ⟨(some 3), none, .anil 48 5, []⟩,
  ⟨(some 4), none, .mov (.k (.bool true)), []⟩] [41, 42, 43, 44, 45, 46])
.ret) .skip)))))))
(.seq (.reg [⟨(some 2), none, .anil 48 5, []⟩,
  ⟨(some 3), none, .anil 48 5, []⟩,
  ⟨(some 4), none, .mov (.k (.bool false)), []⟩] [])
.ret))))
/-- caesura/tree.Parts -/
def fn23 : AFn := ⟨1, 47, c23, [(.t 2), (.t 3), (.t 4)], 0⟩
theorem fn23_np : fn23.np = 1 := rfl
theorem fn23_body : fn23.body = c23 := rfl
theorem fn23_res : fn23.res = [(.t 2), (.t 3), (.t 4)] := rfl
theorem fn23_keep : fn23.keep = 0 := rfl
def c24 : ACode :=
(.seq (.reg [⟨(some 2), none, .new [(.list 5 []), (.list 5 []), (.bool false)], []⟩] [])
(.seq (.seq (.reg [⟨(some 5), none, .mov (.t 0), []⟩,
  ⟨(some 6), none, .call 30 [(true, (.t 5))], []⟩,
  ⟨(some 7), none, .un .not (.t 6), []⟩] [5, 6])
(.cond (.t 7) [7] (.seq (.reg [⟨(some 8), none, .agg [(.list 5 []), (.list 5 []), (.bool false)] [], []⟩,
  ⟨none, none, .store false 3 (.t 2) (.t 8), []⟩] [8])
.ret) .skip))
(.seq (.reg [⟨(some 9), none, .mov (.t 0), []⟩,
  ⟨(some 10), none, .len 1 (.t 9), []⟩,
  ⟨(some 11), none, .bin .sub 0 (.t 10) (.k (.int .i64 1)), []⟩,
  ⟨(some 3), none, .mov (.t 11), []⟩] [9, 10, 11])
(.seq (.reg [⟨(some 12), none, .mov (.t 0), []⟩,
  ⟨(some 13), none, .mov (.t 3), []⟩,
  ⟨(some 14), none, .iaddr 5 (.t 12) (.t 13), []⟩,
  ⟨(some 15), none, .load true 5 (.t 14), []⟩,
  ⟨(some 4), none, .new [(.int .i64 0), (.int .i64 0), (.int .i64 0), (.list 2 []), (.str ⟨#[]⟩)], []⟩,
  ⟨none, none, .store false 5 (.t 4) (.t 15), []⟩] [12, 13, 14, 15])
(.seq (.seq (.reg [⟨(some 16), none, .faddr 0 (.t 4), []⟩,
  ⟨(some 17), none, .load false 1 (.t 16), []⟩] [16])
(.block 0 (.seq (.reg [⟨(some 19), none, .bin .eql 0 (.t 17) (.k (.int .i64 5)), []⟩,
  ⟨(some 18), none, .mov (.t 19), []⟩] [19])
(.cond (.t 18) [18] (.seq (.reg [⟨(some 20), none, .mov (.t 0), []⟩,
  ⟨(some 21), none, .faddr 1 (.t 4), []⟩,
  ⟨(some 22), none, .load false 1 (.t 21), []⟩,
  ⟨(some 23), none, .call 70 [(true, (.t 20)), (true, (.k (.int .i64 0))), (true, (.t 22))], []⟩,
  ⟨(some 24), none, .agg [(.list 5 []), (.list 5 []), (.bool false)] [(0, 1, (.t 23)), (2, 1, (.k (.bool true)))], []⟩,
  ⟨none, none, .store false 3 (.t 2) (.t 24), []⟩] [20, 21, 22, 23, 24])
.ret) (.seq (.seq (.reg [⟨(some 26), none, .bin .eql 0 (.t 17) (.k (.int .i64 3)), []⟩,
  ⟨(some 25), none, .mov (.t 26), []⟩] [26])
(.cond (.t 25) [] .skip (.reg [⟨(some 27), none, .bin .eql 0 (.t 17) (.k (.int .i64 4)), []⟩,
  ⟨(some 25), none, .mov (.t 27), []⟩] [27])))
(.cond (.t 25) [] (.seq (.dreg [⟨(some 28), none, .mov (.t 0), []⟩,
  ⟨(some 29), none, .faddr 1 (.t 4), []⟩,
  ⟨(some 30), none, .load false 1 (.t 29), [1]⟩,
  ⟨(some 31), none, .call 70 [(true, (.t 28)), (true, (.k (.int .i64 0))), (true, (.t 30))], [0, 1, 2]⟩,
  ⟨(some 32), none, .mov (.t 0), []⟩,
  ⟨(some 33), none, .faddr 1 (.t 4), []⟩,
  ⟨(some 34), none, .load false 1 (.t 33), [5]⟩,
  ⟨(some 35), none, .bin .add 0 (.t 34) (.k (.int .i64 1)), [5, 6]⟩,
  ⟨(some 36), none, .faddr 2 (.t 4), []⟩,
  ⟨(some 37), none, .load false 1 (.t 36), [8]⟩,
  ⟨(some 38), none, .call 70 [(true, (.t 32)), (true, (.t 35)), (true, (.t 37))], [0, 1, 2, 3, 4, 5, 6, 7, 8, 9]⟩,
  ⟨(some 39), none, .agg [(.list 5 []), (.list 5 []), (.bool false)] [(0, 1, (.t 31)), (1, 1, (.t 38)), (2, 1, (.k (.bool true)))], [0, 1, 2, 3, 4, 5, 6, 7, 8, 9, 10]⟩,
  ⟨none, none, .store false 3 (.t 2) (.t 39), [0, 1, 2, 3, 4, 5, 6, 7, 8, 9, 10, 11]⟩] [28, 29, 30, 31, 32, 33, 34, 35, 36, 37, 38, 39])
.ret) .skip))))))
(.seq (.reg [⟨(some 40), none, .agg [(.list 5 []), (.list 5 []), (.bool false)] [], []⟩,
  ⟨none, none, .store false 3 (.t 2) (.t 40), []⟩] [40])
.ret))))))
/-- caesura/caesuraref11.Parts -/
def fn24 : AFn := ⟨1, 41, c24, [(.c 2 true 3)], 0⟩
theorem fn24_np : fn24.np = 1 := rfl
theorem fn24_body : fn24.body = c24 := rfl
theorem fn24_res : fn24.res = [(.c 2 true 3)] := rfl
theorem fn24_keep : fn24.keep = 0 := rfl
def c25 : ACode :=
(.seq (.reg [⟨(some 6), none, .anil 48 5, []⟩] [])
(.seq (.seq (.reg [⟨(some 10), none, .mov (.t 1), []⟩,
  ⟨(some 11), none, .call 30 [(true, (.t 10))], []⟩,
  ⟨(some 12), none, .un .not (.t 11), []⟩,
  ⟨(some 13), none, .mov (.t 12), []⟩,
  ⟨(some 14), (some (13, false)), .mov (.t 2), []⟩,
  ⟨(some 15), (some (13, false)), .call 30 [(true, (.t 14))], []⟩,
  ⟨(some 16), (some (13, false)), .un .not (.t 15), []⟩,
  ⟨(some 17), none, .pick (.t 13) (.k (.bool true)) (.t 16), []⟩,
  ⟨(some 18), none, .mov (.t 17), []⟩,
  ⟨(some 19), (some (18, false)), .mov (.t 1), []⟩,
  ⟨(some 20), (some (18, false)), .len 1 (.t 19), []⟩,
  ⟨(some 21), (some (18, false)), .mov (.t 2), []⟩,
  ⟨(some 22), (some (18, false)), .len 1 (.t 21), []⟩,
  ⟨(some 23), (some (18, false)), .bin .add 0 (.t 20) (.t 22), []⟩,
  ⟨(some 24), (some (18, false)), .bin .add 0 (.t 23) (.k (.int .i64 1)), []⟩,
  ⟨(some 25), (some (18, false)), .bin .gtr 0 (.t 24) (.k (.int .i64 40000)), []⟩,
  ⟨(some 26), none, .pick (.t 18) (.k (.bool true)) (.t 25), []⟩] [10, 11, 12, 13, 14, 15, 16, 17, 18, 19, 20, 21, 22, 23, 24, 25])
(.cond (.t 26) [26] (.seq (.reg [⟨(some 6), none, .anil 48 5, []⟩] [])
.ret) .skip))
(.seq (.reg [⟨(some 27), none, .mov (.t 1), []⟩,
  ⟨(some 28), none, .mov (.t 1), []⟩,
  ⟨(some 29), none, .len 1 (.t 28), []⟩,
  ⟨(some 30), none, .bin .sub 0 (.t 29) (.k (.int .i64 1)), []⟩,
  ⟨(some 31), none, .call 70 [(true, (.t 27)), (true, (.k (.int .i64 0))), (true, (.t 30))], []⟩,
  ⟨(some 7), none, .mov (.t 31), []⟩] [27, 28, 29, 30, 31])
(.seq (.seq (.reg [⟨(some 8), none, .mov (.k (.int .i64 0)), []⟩] [])
(.block 0 (.loop false (.seq (.seq (.reg [⟨(some 32), none, .mov (.t 8), []⟩,
  ⟨(some 33), none, .mov (.t 2), []⟩,
  ⟨(some 34), none, .len 1 (.t 33), []⟩,
  ⟨(some 35), none, .bin .lss 0 (.t 32) (.t 34), []⟩] [32, 33, 34])
(.cond (.t 35) [35] .skip (.exit 0)))
(.seq (.block 1 (.seq (.reg [⟨(some 38), none, .mov (.t 2), []⟩,
  ⟨(some 39), none, .mov (.t 8), []⟩,
  ⟨(some 40), none, .iaddr 5 (.t 38) (.t 39), []⟩,
  ⟨(some 41), none, .load true 5 (.t 40), []⟩,
  ⟨(some 9), none, .new [(.int .i64 0), (.int .i64 0), (.int .i64 0), (.list 2 []), (.str ⟨#[]⟩)], []⟩,
  ⟨none, none, .store false 5 (.t 9) (.t 41), []⟩] [38, 39, 40, 41])
(.seq (.seq (.reg [⟨(some 42), none, .faddr 0 (.t 9), []⟩,
  ⟨(some 43), none, .load false 1 (.t 42), []⟩] [42])
(.block 2 (.seq (.reg [⟨(some 45), none, .bin .eql 0 (.t 43) (.k (.int .i64 5)), []⟩,
  ⟨(some 44), none, .mov (.t 45), []⟩] [45])
(.cond (.t 44) [44] (.reg [⟨(some 46), none, .faddr 1 (.t 9), []⟩,
  ⟨(some 47), none, .load false 1 (.t 46), []⟩,
  ⟨(some 48), none, .mov (.t 1), []⟩,
  ⟨(some 49), none, .len 1 (.t 48), []⟩,
  ⟨(some 50), none, .bin .add 0 (.t 47) (.t 49), []⟩,
  ⟨(some 51), none, .faddr 1 (.t 9), []⟩,
  ⟨none, none, .store false 1 (.t 51) (.t 50), []⟩] [46, 47, 48, 49, 50, 51]) (.seq (.seq (.reg [⟨(some 53), none, .bin .eql 0 (.t 43) (.k (.int .i64 3)), []⟩,
  ⟨(some 52), none, .mov (.t 53), []⟩] [53])
(.cond (.t 52) [] .skip (.reg [⟨(some 54), none, .bin .eql 0 (.t 43) (.k (.int .i64 4)), []⟩,
  ⟨(some 52), none, .mov (.t 54), []⟩] [54])))
(.cond (.t 52) [] (.seq (.reg [⟨(some 55), none, .faddr 1 (.t 9), []⟩,
  ⟨(some 56), none, .load false 1 (.t 55), []⟩,
  ⟨(some 57), none, .mov (.t 1), []⟩,
  ⟨(some 58), none, .len 1 (.t 57), []⟩,
  ⟨(some 59), none, .bin .add 0 (.t 56) (.t 58), []⟩,
  ⟨(some 60), none, .faddr 1 (.t 9), []⟩,
  ⟨none, none, .store false 1 (.t 60) (.t 59), []⟩] [55, 56, 57, 58, 59, 60])
(.reg [⟨(some 61), none, .faddr 2 (.t 9), []⟩,
  ⟨(some 62), none, .load false 1 (.t 61), []⟩,
  ⟨(some 63), none, .mov (.t 1), []⟩,
  ⟨(some 64), none, .len 1 (.t 63), []⟩,
  ⟨(some 65), none, .bin .add 0 (.t 62) (.t 64), []⟩,
  ⟨(some 66), none, .faddr 2 (.t 9), []⟩,
  ⟨none, none, .store false 1 (.t 66) (.t 65), []⟩] [61, 62, 63, 64, 65, 66])) .skip))))))
(.seq (.reg [⟨(some 67), none, .mkl 70 2 [(.int .i64 0), (.int .i64 0)] 0 [] false, []⟩,
  ⟨(some 68), none, .faddr 3 (.t 9), []⟩,
  ⟨(some 69), none, .load false 1 (.t 68), []⟩,
  ⟨(some 70), none, .app 70 2 16 (.t 67) (.t 69), []⟩,
  ⟨(some 71), none, .faddr 3 (.t 9), []⟩,
  ⟨none, none, .store false 1 (.t 71) (.t 70), []⟩] [67, 68, 69, 70, 71])
(.reg [⟨(some 72), none, .mov (.t 7), []⟩,
  ⟨(some 73), none, .load true 5 (.t 9), []⟩,
  ⟨(some 74), none, .mkl 48 5 [(.int .i64 0), (.int .i64 0), (.int .i64 0), (.list 2 []), (.str ⟨#[]⟩)] 1 [(0, (.t 73))] false, []⟩,
  ⟨(some 75), none, .app 48 5 64 (.t 72) (.t 74), []⟩,
  ⟨(some 7), none, .mov (.t 75), []⟩] [72, 73, 74, 75])))))
(.reg [⟨(some 36), none, .mov (.t 8), []⟩,
  ⟨(some 37), none, .bin .add 0 (.t 36) (.k (.int .i64 1)), []⟩,
  ⟨(some 8), none, .mov (.t 37), []⟩] [36, 37]))))))
(.seq (.reg [⟨(some 76), none, .mov (.t 7), []⟩,
  ⟨(some 77), none, .mov (.t 0), []⟩,
  ⟨(some 78), none, .mov (.t 1), []⟩,
  ⟨(some 79), none, .len 1 (.t 78), []⟩,
  ⟨(some 80), none, .bin .sub 0 (.t 79) (.k (.int .i64 1)), []⟩,
  ⟨(some 81), none, .mov (.t 1), []⟩,
  ⟨(some 82), none, .len 1 (.t 81), []⟩,
  ⟨(some 83), none, .mov (.t 2), []⟩,
  ⟨(some 84), none, .len 1 (.t 83), []⟩,
  ⟨(some 85), none, .bin .add 0 (.t 82) (.t 84), []⟩,
  ⟨(some 86), none, .bin .sub 0 (.t 85) (.k (.int .i64 1)), []⟩,
  ⟨(some 87), none, .agg [(.int .i64 0), (.int .i64 0), (.int .i64 0), (.list 2 []), (.str ⟨#[]⟩)] [(0, 1, (.t 77)), (1, 1, (.t 80)), (2, 1, (.t 86))], []⟩,
  ⟨(some 88), none, .mkl 48 5 [(.int .i64 0), (.int .i64 0), (.int .i64 0), (.list 2 []), (.str ⟨#[]⟩)] 1 [(0, (.t 87))] false, []⟩,
  ⟨(some 89), none, .app 48 5 64 (.t 76) (.t 88), []⟩,
  ⟨(some 6), none, .mov (.t 89), []⟩] [76, 77, 78, 79, 80, 81, 82, 83, 84, 85, 86, 87, 88, 89])
.ret)))))
/-- caesura/caesuraref11.Join -/
def fn25 : AFn := ⟨3, 90, c25, [(.t 6)], 0⟩
theorem fn25_np : fn25.np = 3 := rfl
theorem fn25_body : fn25.body = c25 := rfl
theorem fn25_res : fn25.res = [(.t 6)] := rfl
theorem fn25_keep : fn25.keep = 0 := rfl
def c26 : ACode :=
(.seq (.reg [⟨(some 2), none, .anil 48 5, []⟩] [])
(.seq (.seq (.reg [⟨(some 3), none, .mov (.t 0), []⟩,
  ⟨(some 4), none, .call 30 [(true, (.t 3))], []⟩,
  ⟨(some 5), none, .un .not (.t 4), []⟩,
  ⟨(some 6), none, .mov (.t 5), []⟩,
  ⟨(some 7), (some (6, false)), .mov (.t 0), []⟩,
  ⟨(some 8), (some (6, false)), .len 1 (.t 7), []⟩,
  ⟨(some 9), (some (6, false)), .bin .geq 0 (.t 8) (.k (.int .i64 40000)), []⟩,
  ⟨(some 10), none, .pick (.t 6) (.k (.bool true)) (.t 9), []⟩] [3, 4, 5, 6, 7, 8, 9])
(.cond (.t 10) [10] (.seq (.reg [⟨(some 2), none, .anil 48 5, []⟩] [])
.ret) .skip))
(.seq (.reg [⟨(some 11), none, .mov (.t 0), []⟩,
  ⟨(some 12), none, .mov (.t 0), []⟩,
  ⟨(some 13), none, .len 1 (.t 12), []⟩,
  ⟨(some 14), none, .bin .sub 0 (.t 13) (.k (.int .i64 1)), []⟩,
  ⟨(some 15), none, .call 70 [(true, (.t 11)), (true, (.k (.int .i64 0))), (true, (.t 14))], []⟩,
  ⟨(some 16), none, .mov (.t 0), []⟩,
  ⟨(some 17), none, .len 1 (.t 16), []⟩,
  ⟨(some 18), none, .bin .sub 0 (.t 17) (.k (.int .i64 1)), []⟩,
  ⟨(some 19), none, .agg [(.int .i64 0), (.int .i64 0), (.int .i64 0), (.list 2 []), (.str ⟨#[]⟩)] [(0, 1, (.k (.int .i64 5))), (1, 1, (.t 18))], []⟩,
  ⟨(some 20), none, .mkl 48 5 [(.int .i64 0), (.int .i64 0), (.int .i64 0), (.list 2 []), (.str ⟨#[]⟩)] 1 [(0, (.t 19))] false, []⟩,
  ⟨(some 21), none, .app 48 5 64 (.t 15) (.t 20), []⟩,
  ⟨(some 2), none, .mov (.t 21), []⟩] [11, 12, 13, 14, 15, 16, 17, 18, 19, 20, 21])
.ret)))
/-- caesura/caesuraref11.Star -/
def fn26 : AFn := ⟨1, 22, c26, [(.t 2)], 0⟩
theorem fn26_np : fn26.np = 1 := rfl
theorem fn26_body : fn26.body = c26 := rfl
theorem fn26_res : fn26.res = [(.t 2)] := rfl
theorem fn26_keep : fn26.keep = 0 := rfl
def c27 : ACode :=
(.seq (.reg [⟨(some 4), none, .anil 48 5, []⟩] [])
(.seq (.seq (.reg [⟨(some 5), none, .mov (.t 0), []⟩,
  ⟨(some 6), none, .len 1 (.t 5), []⟩,
  ⟨(some 7), none, .bin .eql 0 (.t 6) (.k (.int .i64 0)), []⟩,
  ⟨(some 8), none, .mov (.t 7), []⟩,
  ⟨(some 9), (some (8, false)), .mov (.t 0), []⟩,
  ⟨(some 10), (some (8, false)), .call 57 [(true, (.t 9))], []⟩,
  ⟨(some 11), (some (8, false)), .un .not (.t 10), []⟩,
  ⟨(some 12), none, .pick (.t 8) (.k (.bool true)) (.t 11), []⟩] [5, 6, 7, 8, 9, 10, 11])
(.cond (.t 12) [12] (.seq (.reg [⟨(some 4), none, .anil 48 5, []⟩] [])
.ret) .skip))
(.seq (.reg [⟨(some 13), none, .mkl 70 2 [(.int .i64 0), (.int .i64 0)] 0 [] false, []⟩,
  ⟨(some 14), none, .mov (.t 0), []⟩,
  ⟨(some 15), none, .app 70 2 16 (.t 13) (.t 14), []⟩,
  ⟨(some 16), none, .mov (.t 1), []⟩,
  ⟨(some 17), none, .agg [(.int .i64 0), (.int .i64 0), (.int .i64 0), (.list 2 []), (.str ⟨#[]⟩)] [(0, 1, (.k (.int .i64 2))), (3, 1, (.t 15)), (4, 1, (.t 16))], []⟩,
  ⟨(some 18), none, .mkl 48 5 [(.int .i64 0), (.int .i64 0), (.int .i64 0), (.list 2 []), (.str ⟨#[]⟩)] 1 [(0, (.t 17))] false, []⟩,
  ⟨(some 4), none, .mov (.t 18), []⟩] [13, 14, 15, 16, 17, 18])
.ret)))
/-- caesura/caesuraref11.One -/
def fn27 : AFn := ⟨2, 19, c27, [(.t 4)], 0⟩
theorem fn27_np : fn27.np = 2 := rfl
theorem fn27_body : fn27.body = c27 := rfl
theorem fn27_res : fn27.res = [(.t 4)] := rfl
theorem fn27_keep : fn27.keep = 0 := rfl
def c28 : ACode :=
(.seq (.reg [⟨(some 4), none, .mov (.k (.bool false)), []⟩] [])
(.seq (.seq (.reg [⟨(some 8), none, .mov (.t 0), []⟩,
  ⟨(some 9), none, .len 1 (.t 8), []⟩,
  ⟨(some 10), none, .mov (.t 1), []⟩,
  ⟨(some 11), none, .len 1 (.t 10), []⟩,
  ⟨(some 12), none, .bin .neq 0 (.t 9) (.t 11), []⟩] [8, 9, 10, 11])
(.cond (.t 12) [12] (.seq (.reg [⟨(some 4), none, .mov (.k (.bool false)), []⟩] [])
.ret) .skip))
(.seq (.seq (.reg [⟨(some 5), none, .mov (.k (.int .i64 0)), []⟩] [])
(.block 0 (.loop false (.seq (.seq (.reg [⟨(some 13), none, .mov (.t 5), []⟩,
  ⟨(some 14), none, .mov (.t 0), []⟩,
  ⟨(some 15), none, .len 1 (.t 14), []⟩,
  ⟨(some 16), none, .bin .lss 0 (.t 13) (.t 15), []⟩] [13, 14, 15])
(.cond (.t 16) [16] .skip (.exit 0)))
(.seq (.block 1 (.seq (.dreg [⟨(some 19), none, .mov (.t 0), []⟩,
  ⟨(some 20), none, .mov (.t 5), []⟩,
  ⟨(some 21), none, .iaddr 5 (.t 19) (.t 20), [0, 1]⟩,
  ⟨(some 22), none, .load true 5 (.t 21), [0, 1, 2]⟩,
  ⟨(some 23), none, .mov (.t 1), []⟩,
  ⟨(some 24), none, .mov (.t 5), []⟩,
  ⟨(some 25), none, .iaddr 5 (.t 23) (.t 24), [4, 5]⟩,
  ⟨(some 26), none, .load true 5 (.t 25), [4, 5, 6]⟩,
  ⟨(some 6), none, .new [(.int .i64 0), (.int .i64 0), (.int .i64 0), (.list 2 []), (.str ⟨#[]⟩)], []⟩,
  ⟨(some 7), none, .new [(.int .i64 0), (.int .i64 0), (.int .i64 0), (.list 2 []), (.str ⟨#[]⟩)], []⟩,
  ⟨none, none, .store false 5 (.t 6) (.t 22), [0, 1, 2, 3, 8, 9]⟩,
  ⟨none, none, .store false 5 (.t 7) (.t 26), [0, 1, 2, 3, 4, 5, 6, 7, 8, 9, 10]⟩] [19, 20, 21, 22, 23, 24, 25, 26])
(.seq (.reg [⟨(some 27), none, .faddr 0 (.t 6), []⟩,
  ⟨(some 28), none, .load false 1 (.t 27), []⟩,
  ⟨(some 29), none, .faddr 0 (.t 7), []⟩,
  ⟨(some 30), none, .load false 1 (.t 29), []⟩,
  ⟨(some 31), none, .bin .neq 0 (.t 28) (.t 30), []⟩,
  ⟨(some 32), none, .mov (.t 31), []⟩,
  ⟨(some 33), (some (32, false)), .faddr 1 (.t 6), []⟩,
  ⟨(some 34), (some (32, false)), .load false 1 (.t 33), []⟩,
  ⟨(some 35), (some (32, false)), .faddr 1 (.t 7), []⟩,
  ⟨(some 36), (some (32, false)), .load false 1 (.t 35), []⟩,
  ⟨(some 37), (some (32, false)), .bin .neq 0 (.t 34) (.t 36), []⟩,
  ⟨(some 38), none, .pick (.t 32) (.k (.bool true)) (.t 37), []⟩,
  ⟨(some 39), none, .mov (.t 38), []⟩,
  ⟨(some 40), (some (39, false)), .faddr 2 (.t 6), []⟩,
  ⟨(some 41), (some (39, false)), .load false 1 (.t 40), []⟩,
  ⟨(some 42), (some (39, false)), .faddr 2 (.t 7), []⟩,
  ⟨(some 43), (some (39, false)), .load false 1 (.t 42), []⟩,
  ⟨(some 44), (some (39, false)), .bin .neq 0 (.t 41) (.t 43), []⟩,
  ⟨(some 45), none, .pick (.t 39) (.k (.bool true)) (.t 44), []⟩,
  ⟨(some 46), none, .mov (.t 45), []⟩,
  ⟨(some 47), (some (46, false)), .faddr 4 (.t 6), []⟩,
  ⟨(some 48), (some (46, false)), .load false 1 (.t 47), []⟩,
  ⟨(some 49), (some (46, false)), .faddr 4 (.t 7), []⟩,
  ⟨(some 50), (some (46, false)), .load false 1 (.t 49), []⟩,
  ⟨(some 51), (some (46, false)), .bin .neq 0 (.t 48) (.t 50), []⟩,
  ⟨(some 52), none, .pick (.t 46) (.k (.bool true)) (.t 51), []⟩,
  ⟨(some 53), none, .mov (.t 52), []⟩,
  ⟨(some 54), (some (53, false)), .faddr 3 (.t 6), []⟩,
  ⟨(some 55), (some (53, false)), .load false 1 (.t 54), []⟩,
  ⟨(some 56), (some (53, false)), .faddr 3 (.t 7), []⟩,
  ⟨(some 57), (some (53, false)), .load false 1 (.t 56), []⟩,
  ⟨(some 58), (some (53, false)), .call 63 [(true, (.t 55)), (true, (.t 57))], []⟩,
  ⟨(some 59), (some (53, false)), .un .not (.t 58), []⟩,
  ⟨(some 60), none, .pick (.t 53) (.k (.bool true)) (.t 59), []⟩] [27, 28, 29, 30, 31, 32, 33, 34, 35, 36, 37, 38, 39, 40, 41, 42, 43, 44, 45, 46, 47, 48, 49, 50, 51, 52, 53, 54, 55, 56, 57, 58, 59])
(.cond (.t 60) [60] (.seq (.reg [⟨(some 4), none, .mov (.k (.bool false)), []⟩] [])
.ret) .skip))))
(.reg [⟨(some 17), none, .mov (.t 5), []⟩,
  ⟨(some 18), none, .bin .add 0 (.t 17) (.k (.int .i64 1)), []⟩,
  ⟨(some 5), none, .mov (.t 18), []⟩] [17, 18]))))))
(.seq (.reg [⟨(some 4), none, .mov (.k (.bool true)), []⟩] [])
.ret))))
/-- caesura/caesurakeep.Tree -/
def fn28 : AFn := ⟨2, 61, c28, [(.t 4)], 0⟩
theorem fn28_np : fn28.np = 2 := rfl
theorem fn28_body : fn28.body = c28 := rfl
theorem fn28_res : fn28.res = [(.t 4)] := rfl
theorem fn28_keep : fn28.keep = 0 := rfl
def c29 : ACode :=
(.seq (.reg [⟨(some 2), none, .mov (.k (.bool false)), []⟩] [])
(.seq (.seq (.reg [⟨(some 5), none, .mov (.t 0), []⟩,
  ⟨(some 6), none, .len 1 (.t 5), []⟩,
  ⟨(some 7), none, .bin .lss 0 (.t 6) (.k (.int .i64 1)), []⟩,
  ⟨(some 8), none, .mov (.t 7), []⟩,
  ⟨(some 9), (some (8, false)), .mov (.t 0), []⟩,
  ⟨(some 10), (some (8, false)), .len 1 (.t 9), []⟩,
  ⟨(some 11), (some (8, false)), .bin .gtr 0 (.t 10) (.k (.int .i64 40000)), []⟩,
  ⟨(some 12), none, .pick (.t 8) (.k (.bool true)) (.t 11), []⟩] [5, 6, 7, 8, 9, 10, 11])
(.cond (.t 12) [12] (.seq (.reg [⟨(some 2), none, .mov (.k (.bool false)), []⟩] [])
.ret) .skip))
(.seq (.reg [⟨(some 14), none, .mov (.t 0), []⟩,
  ⟨(some 15), none, .call 71 [(true, (.t 14))], []⟩,
  ⟨(some 13), none, .mov (.t 15), []⟩,
  ⟨(some 16), none, .ext (.t 13) 0, []⟩,
  ⟨(some 17), none, .ext (.t 13) 1, []⟩,
  ⟨(some 3), none, .mov (.t 16), []⟩,
  ⟨(some 4), none, .mov (.t 17), []⟩] [13, 14, 15, 16, 17])
(.seq (.reg [⟨(some 18), none, .mov (.t 4), []⟩,
  ⟨(some 19), none, .mov (.t 18), []⟩,
  ⟨(some 20), (some (19, true)), .mov (.t 3), []⟩,
  ⟨(some 21), (some (19, true)), .mov (.t 0), []⟩,
  ⟨(some 22), (some (19, true)), .len 1 (.t 21), []⟩,
  ⟨(some 23), (some (19, true)), .bin .sub 0 (.t 22) (.k (.int .i64 1)), []⟩,
  ⟨(some 24), (some (19, true)), .iaddr 1 (.t 20) (.t 23), []⟩,
  ⟨(some 25), (some (19, true)), .load false 1 (.t 24), []⟩,
  ⟨(some 26), (some (19, true)), .bin .eql 0 (.t 25) (.k (.int .i64 0)), []⟩,
  ⟨(some 27), none, .pick (.t 19) (.t 26) (.k (.bool false)), []⟩,
  ⟨(some 2), none, .mov (.t 27), []⟩] [18, 19, 20, 21, 22, 23, 24, 25, 26, 27])
.ret))))
/-- caesura/tree.Good -/
def fn29 : AFn := ⟨1, 28, c29, [(.t 2)], 0⟩
theorem fn29_np : fn29.np = 1 := rfl
theorem fn29_body : fn29.body = c29 := rfl
theorem fn29_res : fn29.res = [(.t 2)] := rfl
theorem fn29_keep : fn29.keep = 0 := rfl
def c30 : ACode :=
(.seq (.reg [⟨(some 2), none, .mov (.k (.bool false)), []⟩] [])
(.seq (.seq (.reg [⟨(some 4), none, .mov (.t 0), []⟩,
  ⟨(some 5), none, .len 1 (.t 4), []⟩,
  ⟨(some 6), none, .bin .lss 0 (.t 5) (.k (.int .i64 1)), []⟩,
  ⟨(some 7), none, .mov (.t 6), []⟩,
  ⟨(some 8), (some (7, false)), .mov (.t 0), []⟩,
  ⟨(some 9), (some (7, false)), .len 1 (.t 8), []⟩,
  ⟨(some 10), (some (7, false)), .bin .gtr 0 (.t 9) (.k (.int .i64 40000)), []⟩,
  ⟨(some 11), none, .pick (.t 7) (.k (.bool true)) (.t 10), []⟩] [4, 5, 6, 7, 8, 9, 10])
(.cond (.t 11) [11] (.seq (.reg [⟨(some 2), none, .mov (.k (.bool false)), []⟩] [])
.ret) .skip))
(.seq (.reg [⟨(some 12), none, .mov (.t 0), []⟩,
  ⟨(some 13), none, .call 36 [(true, (.t 12))], []⟩,
  ⟨(some 3), none, .mov (.t 13), []⟩] [12, 13])
(.seq (.reg [⟨(some 14), none, .mov (.t 3), []⟩,
  ⟨(some 15), none, .len 1 (.t 14), []⟩,
  ⟨(some 16), none, .mov (.t 0), []⟩,
  ⟨(some 17), none, .len 1 (.t 16), []⟩,
  ⟨(some 18), none, .bin .eql 0 (.t 15) (.t 17), []⟩,
  ⟨(some 19), none, .mov (.t 18), []⟩,
  ⟨(some 20), (some (19, true)), .mov (.t 3), []⟩,
  ⟨(some 21), (some (19, true)), .mov (.t 0), []⟩,
  ⟨(some 22), (some (19, true)), .len 1 (.t 21), []⟩,
  ⟨(some 23), (some (19, true)), .bin .sub 0 (.t 22) (.k (.int .i64 1)), []⟩,
  ⟨(some 24), (some (19, true)), .iaddr 1 (.t 20) (.t 23), []⟩,
  ⟨(some 25), (some (19, true)), .load false 1 (.t 24), []⟩,
  ⟨(some 26), (some (19, true)), .bin .eql 0 (.t 25) (.k (.int .i64 0)), []⟩,
  ⟨(some 27), none, .pick (.t 19) (.t 26) (.k (.bool false)), []⟩,
  ⟨(some 2), none, .mov (.t 27), []⟩] [14, 15, 16, 17, 18, 19, 20, 21, 22, 23, 24, 25, 26, 27])
.ret))))
/-- caesura/caesuraref11.Good -/
def fn30 : AFn := ⟨1, 28, c30, [(.t 2)], 0⟩
theorem fn30_np : fn30.np = 1 := rfl
theorem fn30_body : fn30.body = c30 := rfl
theorem fn30_res : fn30.res = [(.t 2)] := rfl
theorem fn30_keep : fn30.keep = 0 := rfl
def c31 : ACode :=
(.seq (.reg [⟨(some 4), none, .mov (.k (.bool false)), []⟩] [])
(.seq (.seq (.reg [⟨(some 6), none, .mov (.t 0), []⟩,
  ⟨(some 7), none, .call 29 [(true, (.t 6))], []⟩,
  ⟨(some 8), none, .un .not (.t 7), []⟩] [6, 7])
(.cond (.t 8) [8] (.seq (.reg [⟨(some 4), none, .mov (.k (.bool false)), []⟩] [])
.ret) .skip))
(.seq (.reg [⟨(some 9), none, .mov (.t 0), []⟩,
  ⟨(some 10), none, .mov (.t 1), []⟩,
  ⟨(some 11), none, .mkm, []⟩,
  ⟨(some 12), none, .agg [(.list 5 []), (.list 1 []), .nilm] [(0, 1, (.t 9)), (1, 1, (.t 10)), (2, 1, (.t 11))], []⟩,
  ⟨(some 13), none, .box (.t 12), []⟩,
  ⟨(some 5), none, .mov (.t 13), []⟩] [9, 10, 11, 12, 13])
(.seq (.reg [⟨(some 14), none, .mov (.t 5), []⟩,
  ⟨(some 15), none, .mov (.t 0), []⟩,
  ⟨(some 16), none, .len 1 (.t 15), []⟩,
  ⟨(some 17), none, .bin .sub 0 (.t 16) (.k (.int .i64 1)), []⟩,
  ⟨(some 18), none, .mov (.t 1), []⟩,
  ⟨(some 19), none, .len 1 (.t 18), []⟩,
  ⟨(some 20), none, .call 72 [(false, (.t 14)), (true, (.t 17)), (true, (.k (.int .i64 0))), (true, (.t 19))], []⟩,
  ⟨(some 4), none, .mov (.t 20), []⟩] [14, 15, 16, 17, 18, 19, 20])
.ret))))
/-- caesura/tree.Takes -/
def fn31 : AFn := ⟨2, 21, c31, [(.t 4)], 0⟩
theorem fn31_np : fn31.np = 2 := rfl
theorem fn31_body : fn31.body = c31 := rfl
theorem fn31_res : fn31.res = [(.t 4)] := rfl
theorem fn31_keep : fn31.keep = 0 := rfl
def c32 : ACode :=
(.seq (.reg [⟨(some 4), none, .mov (.k (.bool false)), []⟩] [])
(.seq (.reg [⟨(some 5), none, .mov (.t 0), []⟩,
  ⟨(some 6), none, .call 30 [(true, (.t 5))], []⟩,
  ⟨(some 7), none, .mov (.t 6), []⟩,
  ⟨(some 8), (some (7, true)), .mov (.t 0), []⟩,
  ⟨(some 9), (some (7, true)), .mov (.t 1), []⟩,
  ⟨(some 10), (some (7, true)), .call 73 [(true, (.t 8)), (true, (.t 9))], []⟩,
  ⟨(some 11), (some (7, true)), .mov (.t 0), []⟩,
  ⟨(some 12), (some (7, true)), .len 1 (.t 11), []⟩,
  ⟨(some 13), (some (7, true)), .bin .sub 0 (.t 12) (.k (.int .i64 1)), []⟩,
  ⟨(some 14), (some (7, true)), .iaddr 1 (.t 10) (.t 13), []⟩,
  ⟨(some 15), (some (7, true)), .load false 1 (.t 14), []⟩,
  ⟨(some 16), (some (7, true)), .iaddr 1 (.t 15) (.k (.int .i64 0)), []⟩,
  ⟨(some 17), (some (7, true)), .load false 1 (.t 16), []⟩,
  ⟨(some 18), (some (7, true)), .mov (.t 1), []⟩,
  ⟨(some 19), (some (7, true)), .len 1 (.t 18), []⟩,
  ⟨(some 20), (some (7, true)), .iaddr 1 (.t 17) (.t 19), []⟩,
  ⟨(some 21), (some (7, true)), .load false 1 (.t 20), []⟩,
  ⟨(some 22), none, .pick (.t 7) (.t 21) (.k (.bool false)), []⟩,
  ⟨(some 4), none, .mov (.t 22), []⟩] [5, 6, 7, 8, 9, 10, 11, 12, 13, 14, 15, 16, 17, 18, 19, 20, 21, 22])
.ret))
/-- caesura/caesuraref11.Takes -/
def fn32 : AFn := ⟨2, 23, c32, [(.t 4)], 0⟩
theorem fn32_np : fn32.np = 2 := rfl
theorem fn32_body : fn32.body = c32 := rfl
theorem fn32_res : fn32.res = [(.t 4)] := rfl
theorem fn32_keep : fn32.keep = 0 := rfl
def c33 : ACode :=
(.seq (.reg [⟨(some 4), none, .mov (.k (.bool false)), []⟩] [])
(.seq (.reg [⟨(some 5), none, .mov (.t 0), []⟩,
  ⟨(some 6), none, .mov (.t 1), []⟩,
  ⟨(some 7), none, .call 74 [(true, (.t 5)), (true, (.t 6)), (false, (.k (.func 75 [])))], []⟩,
  ⟨(some 4), none, .mov (.t 7), []⟩] [5, 6, 7])
.ret))
/-- caesura/tree.Same -/
def fn33 : AFn := ⟨2, 8, c33, [(.t 4)], 0⟩
theorem fn33_np : fn33.np = 2 := rfl
theorem fn33_body : fn33.body = c33 := rfl
theorem fn33_res : fn33.res = [(.t 4)] := rfl
theorem fn33_keep : fn33.keep = 0 := rfl
def c34 : ACode :=
(.seq (.reg [⟨(some 2), none, .anil 48 5, []⟩] [])
(.seq (.seq (.reg [⟨(some 3), none, .mov (.t 0), []⟩,
  ⟨(some 4), none, .bin .neq 0 (.t 3) (.k (.int .i64 1)), []⟩] [3])
(.cond (.t 4) [4] (.reg [⟨(some 0), none, .mov (.k (.int .i64 0)), []⟩] []) .skip))
(.seq (.reg [⟨(some 5), none, .mov (.t 0), []⟩,
  ⟨(some 6), none, .agg [(.int .i64 0), (.int .i64 0), (.int .i64 0), (.list 2 []), (.str ⟨#[]⟩)] [(0, 1, (.t 5))], []⟩,
  ⟨(some 7), none, .mkl 48 5 [(.int .i64 0), (.int .i64 0), (.int .i64 0), (.list 2 []), (.str ⟨#[]⟩)] 1 [(0, (.t 6))] false, []⟩,
  ⟨(some 2), none, .mov (.t 7), []⟩] [5, 6, 7])
.ret)))
/-- caesura/tree.Leaf -/
def fn34 : AFn := ⟨1, 8, c34, [(.t 2)], 0⟩
theorem fn34_np : fn34.np = 1 := rfl
theorem fn34_body : fn34.body = c34 := rfl
theorem fn34_res : fn34.res = [(.t 2)] := rfl
theorem fn34_keep : fn34.keep = 0 := rfl
def c35 : ACode :=
(.seq (.reg [⟨(some 2), none, .anil 48 5, []⟩] [])
(.seq (.seq (.reg [⟨(some 3), none, .mov (.t 0), []⟩,
  ⟨(some 4), none, .bin .eql 0 (.t 3) (.k (.int .i64 1)), []⟩] [3])
(.cond (.t 4) [4] (.seq (.reg [⟨(some 5), none, .agg [(.int .i64 0), (.int .i64 0), (.int .i64 0), (.list 2 []), (.str ⟨#[]⟩)] [(0, 1, (.k (.int .i64 1)))], []⟩,
  ⟨(some 6), none, .mkl 48 5 [(.int .i64 0), (.int .i64 0), (.int .i64 0), (.list 2 []), (.str ⟨#[]⟩)] 1 [(0, (.t 5))] false, []⟩,
  ⟨(some 2), none, .mov (.t 6), []⟩] [5, 6])
.ret) .skip))
(.seq (.reg [⟨(some 7), none, .agg [(.int .i64 0), (.int .i64 0), (.int .i64 0), (.list 2 []), (.str ⟨#[]⟩)] [(0, 1, (.k (.int .i64 0)))], []⟩,
  ⟨(some 8), none, .mkl 48 5 [(.int .i64 0), (.int .i64 0), (.int .i64 0), (.list 2 []), (.str ⟨#[]⟩)] 1 [(0, (.t 7))] false, []⟩,
  ⟨(some 2), none, .mov (.t 8), []⟩] [7, 8])
.ret)))
/-- caesura/caesuraref11.Leaf -/
def fn35 : AFn := ⟨1, 9, c35, [(.t 2)], 0⟩
theorem fn35_np : fn35.np = 1 := rfl
theorem fn35_body : fn35.body = c35 := rfl
theorem fn35_res : fn35.res = [(.t 2)] := rfl
theorem fn35_keep : fn35.keep = 0 := rfl
def c36 : ACode :=
(.seq (.reg [⟨(some 2), none, .anil 3 1, []⟩] [])
(.seq (.reg [⟨(some 3), none, .anil 3 1, []⟩] [])
(.seq (.seq (.reg [⟨(some 4), none, .mov (.k (.int .i64 0)), []⟩] [])
(.block 0 (.loop false (.seq (.seq (.reg [⟨(some 6), none, .mov (.t 4), []⟩,
  ⟨(some 7), none, .mov (.t 0), []⟩,
  ⟨(some 8), none, .len 1 (.t 7), []⟩,
  ⟨(some 9), none, .bin .lss 0 (.t 6) (.t 8), []⟩] [6, 7, 8])
(.cond (.t 9) [9] .skip (.exit 0)))
(.seq (.block 1 (.seq (.reg [⟨(some 12), none, .mov (.t 0), []⟩,
  ⟨(some 13), none, .mov (.t 4), []⟩,
  ⟨(some 14), none, .iaddr 5 (.t 12) (.t 13), []⟩,
  ⟨(some 15), none, .load true 5 (.t 14), []⟩,
  ⟨(some 5), none, .new [(.int .i64 0), (.int .i64 0), (.int .i64 0), (.list 2 []), (.str ⟨#[]⟩)], []⟩,
  ⟨none, none, .store false 5 (.t 5) (.t 15), []⟩] [12, 13, 14, 15])
(.seq (.seq (.reg [⟨(some 16), none, .faddr 0 (.t 5), []⟩,
  ⟨(some 17), none, .load false 1 (.t 16), []⟩,
  ⟨(some 18), none, .bin .neq 0 (.t 17) (.k (.int .i64 2)), []⟩,
  ⟨(some 19), none, .mov (.t 18), []⟩,
  ⟨(some 20), (some (19, true)), .faddr 3 (.t 5), []⟩,
  ⟨(some 21), (some (19, true)), .load false 1 (.t 20), []⟩,
  ⟨(some 22), (some (19, true)), .len 1 (.t 21), []⟩,
  ⟨(some 23), (some (19, true)), .bin .gtr 0 (.t 22) (.k (.int .i64 0)), []⟩,
  ⟨(some 24), (some (19, true)), .mov (.t 23), []⟩,
  ⟨(some 25), (some (24, false)), .faddr 4 (.t 5), []⟩,
  ⟨(some 26), (some (24, false)), .load false 1 (.t 25), []⟩,
  ⟨(some 27), (some (24, false)), .bin .neq 0 (.t 26) (.k (.str ⟨#[]⟩)), []⟩,
  ⟨(some 28), (some (19, true)), .pick (.t 24) (.k (.bool true)) (.t 27), []⟩,
  ⟨(some 29), none, .pick (.t 19) (.t 28) (.k (.bool false)), []⟩] [16, 17, 18, 19, 20, 21, 22, 23, 24, 25, 26, 27, 28])
(.cond (.t 29) [29] (.seq (.reg [⟨(some 2), none, .anil 3 1, []⟩] [])
.ret) .skip))
(.seq (.reg [⟨(some 30), none, .faddr 0 (.t 5), []⟩,
  ⟨(some 31), none, .load false 1 (.t 30), []⟩] [30])
(.block 2 (.seq (.seq (.reg [⟨(some 33), none, .bin .eql 0 (.t 31) (.k (.int .i64 0)), []⟩,
  ⟨(some 32), none, .mov (.t 33), []⟩] [33])
(.cond (.t 32) [] .skip (.seq (.reg [⟨(some 34), none, .bin .eql 0 (.t 31) (.k (.int .i64 1)), []⟩,
  ⟨(some 32), none, .mov (.t 34), []⟩] [34])
(.cond (.t 32) [] .skip (.reg [⟨(some 35), none, .bin .eql 0 (.t 31) (.k (.int .i64 2)), []⟩,
  ⟨(some 32), none, .mov (.t 35), []⟩] [35])))))
(.cond (.t 32) [] (.seq (.seq (.reg [⟨(some 36), none, .faddr 1 (.t 5), []⟩,
  ⟨(some 37), none, .load false 1 (.t 36), []⟩,
  ⟨(some 38), none, .bin .neq 0 (.t 37) (.k (.int .i64 0)), []⟩,
  ⟨(some 39), none, .mov (.t 38), []⟩,
  ⟨(some 40), (some (39, false)), .faddr 2 (.t 5), []⟩,
  ⟨(some 41), (some (39, false)), .load false 1 (.t 40), []⟩,
  ⟨(some 42), (some (39, false)), .bin .neq 0 (.t 41) (.k (.int .i64 0)), []⟩,
  ⟨(some 43), none, .pick (.t 39) (.k (.bool true)) (.t 42), []⟩,
  ⟨(some 44), none, .mov (.t 43), []⟩,
  ⟨(some 45), (some (44, false)), .faddr 0 (.t 5), []⟩,
  ⟨(some 46), (some (44, false)), .load false 1 (.t 45), []⟩,
  ⟨(some 47), (some (44, false)), .bin .eql 0 (.t 46) (.k (.int .i64 2)), []⟩,
  ⟨(some 48), (some (44, false)), .mov (.t 47), []⟩,
  ⟨(some 49), (some (48, true)), .faddr 3 (.t 5), []⟩,
  ⟨(some 50), (some (48, true)), .load false 1 (.t 49), []⟩,
  ⟨(some 51), (some (48, true)), .len 1 (.t 50), []⟩,
  ⟨(some 52), (some (48, true)), .bin .eql 0 (.t 51) (.k (.int .i64 0)), []⟩,
  ⟨(some 53), (some (48, true)), .mov (.t 52), []⟩,
  ⟨(some 54), (some (53, false)), .faddr 3 (.t 5), []⟩,
  ⟨(some 55), (some (53, false)), .load false 1 (.t 54), []⟩,
  ⟨(some 56), (some (53, false)), .call 57 [(true, (.t 55))], []⟩,
  ⟨(some 57), (some (53, false)), .un .not (.t 56), []⟩,
  ⟨(some 58), (some (48, true)), .pick (.t 53) (.k (.bool true)) (.t 57), []⟩,
  ⟨(some 59), (some (44, false)), .pick (.t 48) (.t 58) (.k (.bool false)), []⟩,
  ⟨(some 60), none, .pick (.t 44) (.k (.bool true)) (.t 59), []⟩] [36, 37, 38, 39, 40, 41, 42, 43, 44, 45, 46, 47, 48, 49, 50, 51, 52, 53, 54, 55, 56, 57, 58, 59])
(.cond (.t 60) [60] (.seq (.reg [⟨(some 2), none, .anil 3 1, []⟩] [])
.ret) .skip))
(.reg [⟨(some 61), none, .mov (.t 3), []⟩,
  ⟨(some 62), none, .mov (.t 4), []⟩,
  ⟨(some 63), none, .mkl 3 1 [(.int .i64 0)] 1 [(0, (.t 62))] false, []⟩,
  ⟨(some 64), none, .app 3 1 8 (.t 61) (.t 63), []⟩,
  ⟨(some 3), none, .mov (.t 64), []⟩] [61, 62, 63, 64])) (.seq (.reg [⟨(some 66), none, .bin .eql 0 (.t 31) (.k (.int .i64 5)), []⟩,
  ⟨(some 65), none, .mov (.t 66), []⟩] [66])
(.cond (.t 65) [65] (.seq (.seq (.reg [⟨(some 67), none, .mov (.t 4), []⟩,
  ⟨(some 68), none, .bin .eql 0 (.t 67) (.k (.int .i64 0)), []⟩,
  ⟨(some 69), none, .mov (.t 68), []⟩,
  ⟨(some 70), (some (69, false)), .faddr 1 (.t 5), []⟩,
  ⟨(some 71), (some (69, false)), .load false 1 (.t 70), []⟩,
  ⟨(some 72), (some (69, false)), .mov (.t 4), []⟩,
  ⟨(some 73), (some (69, false)), .bin .sub 0 (.t 72) (.k (.int .i64 1)), []⟩,
  ⟨(some 74), (some (69, false)), .bin .neq 0 (.t 71) (.t 73), []⟩,
  ⟨(some 75), none, .pick (.t 69) (.k (.bool true)) (.t 74), []⟩,
  ⟨(some 76), none, .mov (.t 75), []⟩,
  ⟨(some 77), (some (76, false)), .faddr 2 (.t 5), []⟩,
  ⟨(some 78), (some (76, false)), .load false 1 (.t 77), []⟩,
  ⟨(some 79), (some (76, false)), .bin .neq 0 (.t 78) (.k (.int .i64 0)), []⟩,
  ⟨(some 80), none, .pick (.t 76) (.k (.bool true)) (.t 79), []⟩] [67, 68, 69, 70, 71, 72, 73, 74, 75, 76, 77, 78, 79])
(.cond (.t 80) [80] (.seq (.reg [⟨(some 2), none, .anil 3 1, []⟩] [])
.ret) .skip))
(.reg [⟨(some 81), none, .mov (.t 3), []⟩,
  ⟨(some 82), none, .mov (.t 3), []⟩,
  ⟨(some 83), none, .mov (.t 4), []⟩,
  ⟨(some 84), none, .bin .sub 0 (.t 83) (.k (.int .i64 1)), []⟩,
  ⟨(some 85), none, .iaddr 1 (.t 82) (.t 84), []⟩,
  ⟨(some 86), none, .load false 1 (.t 85), []⟩,
  ⟨(some 87), none, .mkl 3 1 [(.int .i64 0)] 1 [(0, (.t 86))] false, []⟩,
  ⟨(some 88), none, .app 3 1 8 (.t 81) (.t 87), []⟩,
  ⟨(some 3), none, .mov (.t 88), []⟩] [81, 82, 83, 84, 85, 86, 87, 88])) (.seq (.seq (.reg [⟨(some 90), none, .bin .eql 0 (.t 31) (.k (.int .i64 3)), []⟩,
  ⟨(some 89), none, .mov (.t 90), []⟩] [90])
(.cond (.t 89) [] .skip (.reg [⟨(some 91), none, .bin .eql 0 (.t 31) (.k (.int .i64 4)), []⟩,
  ⟨(some 89), none, .mov (.t 91), []⟩] [91])))
(.cond (.t 89) [] (.seq (.seq (.dreg [⟨(some 92), none, .mov (.t 4), []⟩,
  ⟨(some 93), none, .bin .lss 0 (.t 92) (.k (.int .i64 2)), [0]⟩,
  ⟨(some 94), none, .mov (.t 93), [0, 1]⟩,
  ⟨(some 95), (some (94, false)), .faddr 2 (.t 5), [0, 1, 2]⟩,
  ⟨(some 96), (some (94, false)), .load false 1 (.t 95), [0, 1, 2, 3]⟩,
  ⟨(some 97), (some (94, false)), .mov (.t 4), [0, 1, 2]⟩,
  ⟨(some 98), (some (94, false)), .bin .sub 0 (.t 97) (.k (.int .i64 1)), [0, 1, 2, 5]⟩,
  ⟨(some 99), (some (94, false)), .bin .neq 0 (.t 96) (.t 98), [0, 1, 2, 3, 4, 5, 6]⟩,
  ⟨(some 100), none, .pick (.t 94) (.k (.bool true)) (.t 99), [0, 1, 2, 3, 4, 5, 6, 7]⟩,
  ⟨(some 101), none, .mov (.t 100), [0, 1, 2, 3, 4, 5, 6, 7, 8]⟩,
  ⟨(some 102), (some (101, false)), .mov (.t 3), [0, 1, 2, 3, 4, 5, 6, 7, 8, 9]⟩,
  ⟨(some 103), (some (101, false)), .mov (.t 4), [0, 1, 2, 3, 4, 5, 6, 7, 8, 9]⟩,
  ⟨(some 104), (some (101, false)), .bin .sub 0 (.t 103) (.k (.int .i64 1)), [0, 1, 2, 3, 4, 5, 6, 7, 8, 9, 11]⟩,
  ⟨(some 105), (some (101, false)), .iaddr 1 (.t 102) (.t 104), [0, 1, 2, 3, 4, 5, 6, 7, 8, 9, 10, 11, 12]⟩,
  ⟨(some 106), (some (101, false)), .load false 1 (.t 105), [0, 1, 2, 3, 4, 5, 6, 7, 8, 9, 10, 11, 12, 13]⟩,
  ⟨(some 107), (some (101, false)), .bin .lss 0 (.t 106) (.k (.int .i64 1)), [0, 1, 2, 3, 4, 5, 6, 7, 8, 9, 10, 11, 12, 13, 14]⟩,
  ⟨(some 108), none, .pick (.t 101) (.k (.bool true)) (.t 107), [0, 1, 2, 3, 4, 5, 6, 7, 8, 9, 10, 11, 12, 13, 14, 15]⟩,
  ⟨(some 109), none, .mov (.t 108), [0, 1, 2, 3, 4, 5, 6, 7, 8, 9, 10, 11, 12, 13, 14, 15, 16]⟩,
  ⟨(some 110), (some (109, false)), .faddr 1 (.t 5), [0, 1, 2, 3, 4, 5, 6, 7, 8, 9, 10, 11, 12, 13, 14, 15, 16, 17]⟩,
  ⟨(some 111), (some (109, false)), .load false 1 (.t 110), [0, 1, 2, 3, 4, 5, 6, 7, 8, 9, 10, 11, 12, 13, 14, 15, 16, 17, 18]⟩,
  ⟨(some 112), (some (109, false)), .mov (.t 3), [0, 1, 2, 3, 4, 5, 6, 7, 8, 9, 10, 11, 12, 13, 14, 15, 16, 17]⟩,
  ⟨(some 113), (some (109, false)), .mov (.t 4), [0, 1, 2, 3, 4, 5, 6, 7, 8, 9, 10, 11, 12, 13, 14, 15, 16, 17]⟩,
  ⟨(some 114), (some (109, false)), .bin .sub 0 (.t 113) (.k (.int .i64 1)), [0, 1, 2, 3, 4, 5, 6, 7, 8, 9, 10, 11, 12, 13, 14, 15, 16, 17, 21]⟩,
  ⟨(some 115), (some (109, false)), .iaddr 1 (.t 112) (.t 114), [0, 1, 2, 3, 4, 5, 6, 7, 8, 9, 10, 11, 12, 13, 14, 15, 16, 17, 20, 21, 22]⟩,
  ⟨(some 116), (some (109, false)), .load false 1 (.t 115), [0, 1, 2, 3, 4, 5, 6, 7, 8, 9, 10, 11, 12, 13, 14, 15, 16, 17, 20, 21, 22, 23]⟩,
  ⟨(some 117), (some (109, false)), .bin .sub 0 (.t 116) (.k (.int .i64 1)), [0, 1, 2, 3, 4, 5, 6, 7, 8, 9, 10, 11, 12, 13, 14, 15, 16, 17, 20, 21, 22, 23, 24]⟩,
  ⟨(some 118), (some (109, false)), .bin .neq 0 (.t 111) (.t 117), [0, 1, 2, 3, 4, 5, 6, 7, 8, 9, 10, 11, 12, 13, 14, 15, 16, 17, 18, 19, 20, 21, 22, 23, 24, 25]⟩,
  ⟨(some 119), none, .pick (.t 109) (.k (.bool true)) (.t 118), [0, 1, 2, 3, 4, 5, 6, 7, 8, 9, 10, 11, 12, 13, 14, 15, 16, 17, 18, 19, 20, 21, 22, 23, 24, 25, 26]⟩] [92, 93, 94, 95, 96, 97, 98, 99, 100, 101, 102, 103, 104, 105, 106, 107, 108, 109, 110, 111, 112, 113, 114, 115, 116, 117, 118])
(.cond (.t 119) [119] (.seq (.reg [⟨(some 2), none, .anil 3 1, []⟩] [])
.ret) .skip))
(.reg [⟨(some 120), none, .mov (.t 3), []⟩,
  ⟨(some 121), none, .mov (.t 3), []⟩,
  ⟨(some 122), none, .faddr 1 (.t 5), []⟩,
  ⟨(some 123), none, .load false 1 (.t 122), []⟩,
  ⟨(some 124), none, .iaddr 1 (.t 121) (.t 123), []⟩,
  ⟨(some 125), none, .load false 1 (.t 124), []⟩,
  ⟨(some 126), none, .mkl 3 1 [(.int .i64 0)] 1 [(0, (.t 125))] false, []⟩,
  ⟨(some 127), none, .app 3 1 8 (.t 120) (.t 126), []⟩,
  ⟨(some 3), none, .mov (.t 127), []⟩] [120, 121, 122, 123, 124, 125, 126, 127])) (.seq (.reg [⟨(some 2), none, .anil 3 1, []⟩] [])
.ret))))))))))))
(.reg [⟨(some 10), none, .mov (.t 4), []⟩,
  ⟨(some 11), none, .bin .add 0 (.t 10) (.k (.int .i64 1)), []⟩,
  ⟨(some 4), none, .mov (.t 11), []⟩] [10, 11]))))))
(.seq (.reg [⟨(some 128), none, .mov (.t 3), []⟩,
  ⟨(some 2), none, .mov (.t 128), []⟩] [128])
.ret))))
/-- caesura/caesuraref11.Begin -/
def fn36 : AFn := ⟨1, 129, c36, [(.t 2)], 0⟩
theorem fn36_np : fn36.np = 1 := rfl
theorem fn36_body : fn36.body = c36 := rfl
theorem fn36_res : fn36.res = [(.t 2)] := rfl
theorem fn36_keep : fn36.keep = 0 := rfl
def c56 : ACode :=
(.seq (.reg [⟨(some 2), none, .mov (.k (.bool false)), []⟩] [])
(.seq (.seq (.reg [⟨(some 5), none, .mov (.t 0), []⟩,
  ⟨(some 6), none, .len 1 (.t 5), []⟩,
  ⟨(some 7), none, .mov (.k (.int .i64 0)), []⟩] [])
(.block 0 (.loop false (.seq (.reg [⟨(some 8), none, .bin .lss 0 (.t 7) (.t 6), []⟩] [])
(.seq (.cond (.t 8) [8] .skip (.exit 0))
(.seq (.block 1 (.seq (.reg [⟨(some 9), none, .mov (.t 7), []⟩,
  ⟨(some 10), none, .iaddr 2 (.t 5) (.t 7), []⟩,
  ⟨(some 11), none, .load true 2 (.t 10), []⟩,
  ⟨(some 4), none, .new [(.int .i64 0), (.int .i64 0)], []⟩,
  ⟨(some 3), none, .mov (.t 9), []⟩,
  ⟨none, none, .store false 2 (.t 4) (.t 11), []⟩] [9, 10, 11])
(.seq (.dreg [⟨(some 12), none, .load true 2 (.t 4), []⟩,
  ⟨(some 13), none, .call 88 [(true, (.t 12))], [0]⟩,
  ⟨(some 14), none, .un .not (.t 13), [0, 1]⟩,
  ⟨(some 15), none, .mov (.t 14), [0, 1, 2]⟩,
  ⟨(some 16), (some (15, false)), .mov (.t 3), [0, 1, 2, 3]⟩,
  ⟨(some 17), (some (15, false)), .bin .gtr 0 (.t 16) (.k (.int .i64 0)), [0, 1, 2, 3, 4]⟩,
  ⟨(some 18), (some (15, false)), .mov (.t 17), [0, 1, 2, 3, 4, 5]⟩,
  ⟨(some 19), (some (18, true)), .mov (.t 0), [0, 1, 2, 3, 4, 5, 6]⟩,
  ⟨(some 20), (some (18, true)), .mov (.t 3), [0, 1, 2, 3, 4, 5, 6]⟩,
  ⟨(some 21), (some (18, true)), .bin .sub 0 (.t 20) (.k (.int .i64 1)), [0, 1, 2, 3, 4, 5, 6, 8]⟩,
  ⟨(some 22), (some (18, true)), .iaddr 2 (.t 19) (.t 21), [0, 1, 2, 3, 4, 5, 6, 7, 8, 9]⟩,
  ⟨(some 23), (some (18, true)), .load true 2 (.t 22), [0, 1, 2, 3, 4, 5, 6, 7, 8, 9, 10]⟩,
  ⟨(some 24), (some (18, true)), .load true 2 (.t 4), [0, 1, 2, 3, 4, 5, 6]⟩,
  ⟨(some 25), (some (18, true)), .call 89 [(true, (.t 23)), (true, (.t 24))], [0, 1, 2, 3, 4, 5, 6, 7, 8, 9, 10, 11, 12]⟩,
  ⟨(some 26), (some (18, true)), .un .not (.t 25), [0, 1, 2, 3, 4, 5, 6, 7, 8, 9, 10, 11, 12, 13]⟩,
  ⟨(some 27), (some (15, false)), .pick (.t 18) (.t 26) (.k (.bool false)), [0, 1, 2, 3, 4, 5, 6, 7, 8, 9, 10, 11, 12, 13, 14]⟩,
  ⟨(some 28), none, .pick (.t 15) (.k (.bool true)) (.t 27), [0, 1, 2, 3, 4, 5, 6, 7, 8, 9, 10, 11, 12, 13, 14, 15]⟩] [12, 13, 14, 15, 16, 17, 18, 19, 20, 21, 22, 23, 24, 25, 26, 27])
(.cond (.t 28) [28] (.seq (.reg [⟨(some 2), none, .mov (.k (.bool false)), []⟩] [])
.ret) .skip))))
(.reg [⟨(some 29), none, .bin .add 0 (.t 7) (.k (.int .i64 1)), []⟩,
  ⟨(some 7), none, .mov (.t 29), []⟩] [29])))))))
(.seq (.reg [⟨(some 2), none, .mov (.k (.bool true)), []⟩] [])
.ret)))
/-- caesura/sets.Good -/
def fn56 : AFn := ⟨1, 30, c56, [(.t 2)], 0⟩
theorem fn56_np : fn56.np = 1 := rfl
theorem fn56_body : fn56.body = c56 := rfl
theorem fn56_res : fn56.res = [(.t 2)] := rfl
theorem fn56_keep : fn56.keep = 0 := rfl
def c57 : ACode :=
(.seq (.reg [⟨(some 2), none, .mov (.k (.bool false)), []⟩] [])
(.seq (.seq (.reg [⟨(some 3), none, .mov (.k (.int .i64 0)), []⟩] [])
(.block 0 (.loop false (.seq (.seq (.reg [⟨(some 5), none, .mov (.t 3), []⟩,
  ⟨(some 6), none, .mov (.t 0), []⟩,
  ⟨(some 7), none, .len 1 (.t 6), []⟩,
  ⟨(some 8), none, .bin .lss 0 (.t 5) (.t 7), []⟩] [5, 6, 7])
(.cond (.t 8) [8] .skip (.exit 0)))
(.seq (.block 1 (.seq (.seq (.dreg [⟨(some 11), none, .mov (.t 0), []⟩,
  ⟨(some 12), none, .mov (.t 3), []⟩,
  ⟨(some 13), none, .iaddr 2 (.t 11) (.t 12), [0, 1]⟩,
  ⟨(some 14), none, .faddr 0 (.t 13), [0, 1, 2]⟩,
  ⟨(some 15), none, .load false 1 (.t 14), [0, 1, 2, 3]⟩,
  ⟨(some 16), none, .call 66 [(true, (.t 15))], [0, 1, 2, 3, 4]⟩,
  ⟨(some 17), none, .un .not (.t 16), [0, 1, 2, 3, 4, 5]⟩,
  ⟨(some 18), none, .mov (.t 17), [0, 1, 2, 3, 4, 5, 6]⟩,
  ⟨(some 19), (some (18, false)), .mov (.t 0), [0, 1, 2, 3, 4, 5, 6, 7]⟩,
  ⟨(some 20), (some (18, false)), .mov (.t 3), [0, 1, 2, 3, 4, 5, 6, 7]⟩,
  ⟨(some 21), (some (18, false)), .iaddr 2 (.t 19) (.t 20), [0, 1, 2, 3, 4, 5, 6, 7, 8, 9]⟩,
  ⟨(some 22), (some (18, false)), .faddr 1 (.t 21), [0, 1, 2, 3, 4, 5, 6, 7, 8, 9, 10]⟩,
  ⟨(some 23), (some (18, false)), .load false 1 (.t 22), [0, 1, 2, 3, 4, 5, 6, 7, 8, 9, 10, 11]⟩,
  ⟨(some 24), (some (18, false)), .call 66 [(true, (.t 23))], [0, 1, 2, 3, 4, 5, 6, 7, 8, 9, 10, 11, 12]⟩,
  ⟨(some 25), (some (18, false)), .un .not (.t 24), [0, 1, 2, 3, 4, 5, 6, 7, 8, 9, 10, 11, 12, 13]⟩,
  ⟨(some 26), none, .pick (.t 18) (.k (.bool true)) (.t 25), [0, 1, 2, 3, 4, 5, 6, 7, 8, 9, 10, 11, 12, 13, 14]⟩,
  ⟨(some 27), none, .mov (.t 26), [0, 1, 2, 3, 4, 5, 6, 7, 8, 9, 10, 11, 12, 13, 14, 15]⟩,
  ⟨(some 28), (some (27, false)), .mov (.t 0), [0, 1, 2, 3, 4, 5, 6, 7, 8, 9, 10, 11, 12, 13, 14, 15, 16]⟩,
  ⟨(some 29), (some (27, false)), .mov (.t 3), [0, 1, 2, 3, 4, 5, 6, 7, 8, 9, 10, 11, 12, 13, 14, 15, 16]⟩,
  ⟨(some 30), (some (27, false)), .iaddr 2 (.t 28) (.t 29), [0, 1, 2, 3, 4, 5, 6, 7, 8, 9, 10, 11, 12, 13, 14, 15, 16, 17, 18]⟩,
  ⟨(some 31), (some (27, false)), .faddr 1 (.t 30), [0, 1, 2, 3, 4, 5, 6, 7, 8, 9, 10, 11, 12, 13, 14, 15, 16, 17, 18, 19]⟩,
  ⟨(some 32), (some (27, false)), .load false 1 (.t 31), [0, 1, 2, 3, 4, 5, 6, 7, 8, 9, 10, 11, 12, 13, 14, 15, 16, 17, 18, 19, 20]⟩,
  ⟨(some 33), (some (27, false)), .mov (.t 0), [0, 1, 2, 3, 4, 5, 6, 7, 8, 9, 10, 11, 12, 13, 14, 15, 16]⟩,
  ⟨(some 34), (some (27, false)), .mov (.t 3), [0, 1, 2, 3, 4, 5, 6, 7, 8, 9, 10, 11, 12, 13, 14, 15, 16]⟩,
  ⟨(some 35), (some (27, false)), .iaddr 2 (.t 33) (.t 34), [0, 1, 2, 3, 4, 5, 6, 7, 8, 9, 10, 11, 12, 13, 14, 15, 16, 22, 23]⟩,
  ⟨(some 36), (some (27, false)), .faddr 0 (.t 35), [0, 1, 2, 3, 4, 5, 6, 7, 8, 9, 10, 11, 12, 13, 14, 15, 16, 22, 23, 24]⟩,
  ⟨(some 37), (some (27, false)), .load false 1 (.t 36), [0, 1, 2, 3, 4, 5, 6, 7, 8, 9, 10, 11, 12, 13, 14, 15, 16, 22, 23, 24, 25]⟩,
  ⟨(some 38), (some (27, false)), .bin .lss 0 (.t 32) (.t 37), [0, 1, 2, 3, 4, 5, 6, 7, 8, 9, 10, 11, 12, 13, 14, 15, 16, 17, 18, 19, 20, 21, 22, 23, 24, 25, 26]⟩,
  ⟨(some 39), none, .pick (.t 27) (.k (.bool true)) (.t 38), [0, 1, 2, 3, 4, 5, 6, 7, 8, 9, 10, 11, 12, 13, 14, 15, 16, 17, 18, 19, 20, 21, 22, 23, 24, 25, 26, 27]⟩] [11, 12, 13, 14, 15, 16, 17, 18, 19, 20, 21, 22, 23, 24, 25, 26, 27, 28, 29, 30, 31, 32, 33, 34, 35, 36, 37, 38])
(.cond (.t 39) [39] (.seq (.reg [⟨(some 2), none, .mov (.k (.bool false)), []⟩] [])
.ret) .skip))
(.seq (.reg [⟨(some 40), none, .mov (.t 3), []⟩,
  ⟨(some 41), none, .bin .gtr 0 (.t 40) (.k (.int .i64 0)), []⟩] [40])
(.cond (.t 41) [41] (.seq (.reg [⟨(some 42), none, .mov (.t 0), []⟩,
  ⟨(some 43), none, .mov (.t 3), []⟩,
  ⟨(some 44), none, .bin .sub 0 (.t 43) (.k (.int .i64 1)), []⟩,
  ⟨(some 45), none, .iaddr 2 (.t 42) (.t 44), []⟩,
  ⟨(some 46), none, .faddr 1 (.t 45), []⟩,
  ⟨(some 47), none, .load false 1 (.t 46), []⟩,
  ⟨(some 48), none, .call 96 [(true, (.t 47))], []⟩,
  ⟨(some 4), none, .new [(.int .i64 0), (.bool false)], []⟩,
  ⟨none, none, .store false 2 (.t 4) (.t 48), []⟩] [42, 43, 44, 45, 46, 47, 48])
(.seq (.dreg [⟨(some 49), none, .faddr 1 (.t 4), []⟩,
  ⟨(some 50), none, .load false 1 (.t 49), [0]⟩,
  ⟨(some 51), none, .un .not (.t 50), [0, 1]⟩,
  ⟨(some 52), none, .mov (.t 51), [0, 1, 2]⟩,
  ⟨(some 53), (some (52, false)), .mov (.t 0), [0, 1, 2, 3]⟩,
  ⟨(some 54), (some (52, false)), .mov (.t 3), [0, 1, 2, 3]⟩,
  ⟨(some 55), (some (52, false)), .iaddr 2 (.t 53) (.t 54), [0, 1, 2, 3, 4, 5]⟩,
  ⟨(some 56), (some (52, false)), .faddr 0 (.t 55), [0, 1, 2, 3, 4, 5, 6]⟩,
  ⟨(some 57), (some (52, false)), .load false 1 (.t 56), [0, 1, 2, 3, 4, 5, 6, 7]⟩,
  ⟨(some 58), (some (52, false)), .faddr 0 (.t 4), [0, 1, 2, 3]⟩,
  ⟨(some 59), (some (52, false)), .load false 1 (.t 58), [0, 1, 2, 3, 9]⟩,
  ⟨(some 60), (some (52, false)), .bin .leq 0 (.t 57) (.t 59), [0, 1, 2, 3, 4, 5, 6, 7, 8, 9, 10]⟩,
  ⟨(some 61), none, .pick (.t 52) (.k (.bool true)) (.t 60), [0, 1, 2, 3, 4, 5, 6, 7, 8, 9, 10, 11]⟩] [49, 50, 51, 52, 53, 54, 55, 56, 57, 58, 59, 60])
(.cond (.t 61) [61] (.seq (.reg [⟨(some 2), none, .mov (.k (.bool false)), []⟩] [])
.ret) .skip))) .skip))))
(.reg [⟨(some 9), none, .mov (.t 3), []⟩,
  ⟨(some 10), none, .bin .add 0 (.t 9) (.k (.int .i64 1)), []⟩,
  ⟨(some 3), none, .mov (.t 10), []⟩] [9, 10]))))))
(.seq (.reg [⟨(some 2), none, .mov (.k (.bool true)), []⟩] [])
.ret)))
/-- caesura/caesuraref03.Good -/
def fn57 : AFn := ⟨1, 62, c57, [(.t 2)], 0⟩
theorem fn57_np : fn57.np = 1 := rfl
theorem fn57_body : fn57.body = c57 := rfl
theorem fn57_res : fn57.res = [(.t 2)] := rfl
theorem fn57_keep : fn57.keep = 0 := rfl
def c58 : ACode :=
(.seq (.reg [⟨(some 3), none, .box (.t 1), []⟩,
  ⟨(some 4), none, .mov (.k (.bool false)), []⟩] [])
(.seq (.reg [⟨(some 5), none, .mov (.t 0), []⟩,
  ⟨(some 6), none, .call 56 [(true, (.t 5))], []⟩,
  ⟨(some 7), none, .mov (.t 6), []⟩,
  ⟨(some 8), (some (7, true)), .load false 1 (.t 3), []⟩,
  ⟨(some 9), (some (7, true)), .call 97 [(true, (.t 8))], []⟩,
  ⟨(some 10), none, .pick (.t 7) (.t 9) (.k (.bool false)), []⟩,
  ⟨(some 11), none, .mov (.t 10), []⟩,
  ⟨(some 12), (some (11, true)), .mov (.t 0), []⟩,
  ⟨(some 13), (some (11, true)), .mkf 99 [(.t 3)], []⟩,
  ⟨(some 14), (some (11, true)), .call 98 [(true, (.t 12)), (false, (.t 13))], []⟩,
  ⟨(some 15), none, .pick (.t 11) (.t 14) (.k (.bool false)), []⟩,
  ⟨(some 4), none, .mov (.t 15), []⟩] [5, 6, 7, 8, 9, 10, 11, 12, 13, 14, 15])
.ret))
/-- caesura/sets.Has -/
def fn58 : AFn := ⟨2, 16, c58, [(.t 4)], 0⟩
theorem fn58_np : fn58.np = 2 := rfl
theorem fn58_body : fn58.body = c58 := rfl
theorem fn58_res : fn58.res = [(.t 4)] := rfl
theorem fn58_keep : fn58.keep = 0 := rfl
def c59 : ACode :=
(.seq (.reg [⟨(some 4), none, .mov (.k (.bool false)), []⟩] [])
(.seq (.seq (.reg [⟨(some 5), none, .mov (.k (.int .i64 0)), []⟩] [])
(.block 0 (.loop false (.seq (.seq (.reg [⟨(some 6), none, .mov (.t 5), []⟩,
  ⟨(some 7), none, .mov (.t 0), []⟩,
  ⟨(some 8), none, .len 1 (.t 7), []⟩,
  ⟨(some 9), none, .bin .lss 0 (.t 6) (.t 8), []⟩] [6, 7, 8])
(.cond (.t 9) [9] .skip (.exit 0)))
(.seq (.block 1 (.seq (.reg [⟨(some 12), none, .mov (.t 0), []⟩,
  ⟨(some 13), none, .mov (.t 5), []⟩,
  ⟨(some 14), none, .iaddr 2 (.t 12) (.t 13), []⟩,
  ⟨(some 15), none, .faddr 0 (.t 14), []⟩,
  ⟨(some 16), none, .load false 1 (.t 15), []⟩,
  ⟨(some 17), none, .mov (.t 1), []⟩,
  ⟨(some 18), none, .bin .leq 0 (.t 16) (.t 17), []⟩,
  ⟨(some 19), none, .mov (.t 18), []⟩,
  ⟨(some 20), (some (19, true)), .mov (.t 1), []⟩,
  ⟨(some 21), (some (19, true)), .mov (.t 0), []⟩,
  ⟨(some 22), (some (19, true)), .mov (.t 5), []⟩,
  ⟨(some 23), (some (19, true)), .iaddr 2 (.t 21) (.t 22), []⟩,
  ⟨(some 24), (some (19, true)), .faddr 1 (.t 23), []⟩,
  ⟨(some 25), (some (19, true)), .load false 1 (.t 24), []⟩,
  ⟨(some 26), (some (19, true)), .bin .leq 0 (.t 20) (.t 25), []⟩,
  ⟨(some 27), none, .pick (.t 19) (.t 26) (.k (.bool false)), []⟩] [12, 13, 14, 15, 16, 17, 18, 19, 20, 21, 22, 23, 24, 25, 26])
(.cond (.t 27) [27] (.seq (.reg [⟨(some 28), none, .mov (.t 1), []⟩,
  ⟨(some 29), none, .call 66 [(true, (.t 28))], []⟩,
  ⟨(some 30), none, .mov (.t 29), []⟩,
  ⟨(some 31), (some (30, true)), .mov (.t 0), []⟩,
  ⟨(some 32), (some (30, true)), .call 57 [(true, (.t 31))], []⟩,
  ⟨(some 33), none, .pick (.t 30) (.t 32) (.k (.bool false)), []⟩,
  ⟨(some 4), none, .mov (.t 33), []⟩] [28, 29, 30, 31, 32, 33])
.ret) .skip)))
(.reg [⟨(some 10), none, .mov (.t 5), []⟩,
  ⟨(some 11), none, .bin .add 0 (.t 10) (.k (.int .i64 1)), []⟩,
  ⟨(some 5), none, .mov (.t 11), []⟩] [10, 11]))))))
(.seq (.reg [⟨(some 4), none, .mov (.k (.bool false)), []⟩] [])
.ret)))
/-- caesura/caesuraref03.Has -/
def fn59 : AFn := ⟨2, 34, c59, [(.t 4)], 0⟩
theorem fn59_np : fn59.np = 2 := rfl
theorem fn59_body : fn59.body = c59 := rfl
theorem fn59_res : fn59.res = [(.t 4)] := rfl
theorem fn59_keep : fn59.keep = 0 := rfl
def c62 : ACode :=
(.seq (.reg [⟨(some 4), none, .mov (.k (.bool false)), []⟩] [])
(.seq (.seq (.reg [⟨(some 7), none, .mov (.t 0), []⟩,
  ⟨(some 8), none, .len 1 (.t 7), []⟩,
  ⟨(some 9), none, .mov (.t 1), []⟩,
  ⟨(some 10), none, .len 1 (.t 9), []⟩,
  ⟨(some 11), none, .bin .neq 0 (.t 8) (.t 10), []⟩] [7, 8, 9, 10])
(.cond (.t 11) [11] (.seq (.reg [⟨(some 4), none, .mov (.k (.bool false)), []⟩] [])
.ret) .skip))
(.seq (.seq (.reg [⟨(some 12), none, .mov (.t 0), []⟩,
  ⟨(some 13), none, .len 1 (.t 12), []⟩,
  ⟨(some 14), none, .mov (.k (.int .i64 0)), []⟩] [])
(.block 0 (.loop false (.seq (.reg [⟨(some 15), none, .bin .lss 0 (.t 14) (.t 13), []⟩] [])
(.seq (.cond (.t 15) [15] .skip (.exit 0))
(.seq (.block 1 (.seq (.reg [⟨(some 16), none, .mov (.t 14), []⟩,
  ⟨(some 17), none, .iaddr 2 (.t 12) (.t 14), []⟩,
  ⟨(some 18), none, .load true 2 (.t 17), []⟩,
  ⟨(some 6), none, .new [(.int .i64 0), (.int .i64 0)], []⟩,
  ⟨(some 5), none, .mov (.t 16), []⟩,
  ⟨none, none, .store false 2 (.t 6) (.t 18), []⟩] [16, 17, 18])
(.seq (.dreg [⟨(some 19), none, .load true 2 (.t 6), []⟩,
  ⟨(some 20), none, .mov (.t 1), []⟩,
  ⟨(some 21), none, .mov (.t 5), []⟩,
  ⟨(some 22), none, .iaddr 2 (.t 20) (.t 21), [1, 2]⟩,
  ⟨(some 23), none, .load true 2 (.t 22), [1, 2, 3]⟩,
  ⟨(some 24), none, .bins .neq [0, 0] (.t 19) (.t 23), [0, 1, 2, 3, 4]⟩] [19, 20, 21, 22, 23])
(.cond (.t 24) [24] (.seq (.reg [⟨(some 4), none, .mov (.k (.bool false)), []⟩] [])
.ret) .skip))))
(.reg [⟨(some 25), none, .bin .add 0 (.t 14) (.k (.int .i64 1)), []⟩,
  ⟨(some 14), none, .mov (.t 25), []⟩] [25])))))))
(.seq (.reg [⟨(some 4), none, .mov (.k (.bool true)), []⟩] [])
.ret))))
/-- caesura/sets.Same -/
def fn62 : AFn := ⟨2, 26, c62, [(.t 4)], 0⟩
theorem fn62_np : fn62.np = 2 := rfl
theorem fn62_body : fn62.body = c62 := rfl
theorem fn62_res : fn62.res = [(.t 4)] := rfl
theorem fn62_keep : fn62.keep = 0 := rfl
def c63 : ACode :=
(.seq (.reg [⟨(some 4), none, .mov (.k (.bool false)), []⟩] [])
(.seq (.seq (.reg [⟨(some 6), none, .mov (.t 0), []⟩,
  ⟨(some 7), none, .len 1 (.t 6), []⟩,
  ⟨(some 8), none, .mov (.t 1), []⟩,
  ⟨(some 9), none, .len 1 (.t 8), []⟩,
  ⟨(some 10), none, .bin .neq 0 (.t 7) (.t 9), []⟩] [6, 7, 8, 9])
(.cond (.t 10) [10] (.seq (.reg [⟨(some 4), none, .mov (.k (.bool false)), []⟩] [])
.ret) .skip))
(.seq (.seq (.reg [⟨(some 5), none, .mov (.k (.int .i64 0)), []⟩] [])
(.block 0 (.loop false (.seq (.seq (.reg [⟨(some 11), none, .mov (.t 5), []⟩,
  ⟨(some 12), none, .mov (.t 0), []⟩,
  ⟨(some 13), none, .len 1 (.t 12), []⟩,
  ⟨(some 14), none, .bin .lss 0 (.t 11) (.t 13), []⟩] [11, 12, 13])
(.cond (.t 14) [14] .skip (.exit 0)))
(.seq (.block 1 (.seq (.dreg [⟨(some 17), none, .mov (.t 0), []⟩,
  ⟨(some 18), none, .mov (.t 5), []⟩,
  ⟨(some 19), none, .iaddr 2 (.t 17) (.t 18), [0, 1]⟩,
  ⟨(some 20), none, .load true 2 (.t 19), [0, 1, 2]⟩,
  ⟨(some 21), none, .mov (.t 1), []⟩,
  ⟨(some 22), none, .mov (.t 5), []⟩,
  ⟨(some 23), none, .iaddr 2 (.t 21) (.t 22), [4, 5]⟩,
  ⟨(some 24), none, .load true 2 (.t 23), [4, 5, 6]⟩,
  ⟨(some 25), none, .bins .neq [0, 0] (.t 20) (.t 24), [0, 1, 2, 3, 4, 5, 6, 7]⟩] [17, 18, 19, 20, 21, 22, 23, 24])
(.cond (.t 25) [25] (.seq (.reg [⟨(some 4), none, .mov (.k (.bool false)), []⟩] [])
.ret) .skip)))
(.reg [⟨(some 15), none, .mov (.t 5), []⟩,
  ⟨(some 16), none, .bin .add 0 (.t 15) (.k (.int .i64 1)), []⟩,
  ⟨(some 5), none, .mov (.t 16), []⟩] [15, 16]))))))
(.seq (.reg [⟨(some 4), none, .mov (.k (.bool true)), []⟩] [])
.ret))))
/-- caesura/caesurakeep.Set -/
def fn63 : AFn := ⟨2, 26, c63, [(.t 4)], 0⟩
theorem fn63_np : fn63.np = 2 := rfl
theorem fn63_body : fn63.body = c63 := rfl
theorem fn63_res : fn63.res = [(.t 4)] := rfl
theorem fn63_keep : fn63.keep = 0 := rfl
def c66 : ACode :=
(.seq (.reg [⟨(some 2), none, .mov (.k (.bool false)), []⟩] [])
(.seq (.reg [⟨(some 3), none, .mov (.t 0), []⟩,
  ⟨(some 4), none, .bin .geq 0 (.t 3) (.k (.int .i64 0)), []⟩,
  ⟨(some 5), none, .mov (.t 4), []⟩,
  ⟨(some 6), (some (5, true)), .mov (.t 0), []⟩,
  ⟨(some 7), (some (5, true)), .bin .lss 0 (.t 6) (.k (.int .i64 55296)), []⟩,
  ⟨(some 8), none, .pick (.t 5) (.t 7) (.k (.bool false)), []⟩,
  ⟨(some 9), none, .mov (.t 8), []⟩,
  ⟨(some 10), (some (9, false)), .mov (.t 0), []⟩,
  ⟨(some 11), (some (9, false)), .bin .geq 0 (.t 10) (.k (.int .i64 57344)), []⟩,
  ⟨(some 12), (some (9, false)), .mov (.t 11), []⟩,
  ⟨(some 13), (some (12, true)), .mov (.t 0), []⟩,
  ⟨(some 14), (some (12, true)), .bin .leq 0 (.t 13) (.k (.int .i64 1114111)), []⟩,
  ⟨(some 15), (some (9, false)), .pick (.t 12) (.t 14) (.k (.bool false)), []⟩,
  ⟨(some 16), none, .pick (.t 9) (.k (.bool true)) (.t 15), []⟩,
  ⟨(some 2), none, .mov (.t 16), []⟩] [3, 4, 5, 6, 7, 8, 9, 10, 11, 12, 13, 14, 15, 16])
.ret))
/-- caesura/caesuraref01.Is -/
def fn66 : AFn := ⟨1, 17, c66, [(.t 2)], 0⟩
theorem fn66_np : fn66.np = 1 := rfl
theorem fn66_body : fn66.body = c66 := rfl
theorem fn66_res : fn66.res = [(.t 2)] := rfl
theorem fn66_keep : fn66.keep = 0 := rfl
def c67 : ACode :=
(.seq (.reg [⟨(some 6), none, .anil 48 5, []⟩,
  ⟨(some 7), none, .mov (.k (.bool false)), []⟩] [])
(.seq (.seq (.reg [⟨(some 9), none, .mov (.t 1), []⟩,
  ⟨(some 10), none, .call 29 [(true, (.t 9))], []⟩,
  ⟨(some 11), none, .un .not (.t 10), []⟩,
  ⟨(some 12), none, .mov (.t 11), []⟩,
  ⟨(some 13), (some (12, false)), .mov (.t 2), []⟩,
  ⟨(some 14), (some (12, false)), .call 29 [(true, (.t 13))], []⟩,
  ⟨(some 15), (some (12, false)), .un .not (.t 14), []⟩,
  ⟨(some 16), none, .pick (.t 12) (.k (.bool true)) (.t 15), []⟩,
  ⟨(some 17), none, .mov (.t 16), []⟩,
  ⟨(some 18), (some (17, false)), .mov (.t 1), []⟩,
  ⟨(some 19), (some (17, false)), .len 1 (.t 18), []⟩,
  ⟨(some 20), (some (17, false)), .mov (.t 2), []⟩,
  ⟨(some 21), (some (17, false)), .len 1 (.t 20), []⟩,
  ⟨(some 22), (some (17, false)), .bin .add 0 (.t 19) (.t 21), []⟩,
  ⟨(some 23), (some (17, false)), .bin .add 0 (.t 22) (.k (.int .i64 1)), []⟩,
  ⟨(some 24), (some (17, false)), .bin .gtr 0 (.t 23) (.k (.int .i64 40000)), []⟩,
  ⟨(some 25), none, .pick (.t 17) (.k (.bool true)) (.t 24), []⟩] [9, 10, 11, 12, 13, 14, 15, 16, 17, 18, 19, 20, 21, 22, 23, 24])
(.cond (.t 25) [25] (.seq (.reg [⟨(some 6), none, .anil 48 5, []⟩,
  ⟨(some 7), none, .mov (.k (.bool false)), []⟩] [])
.ret) .skip))
(.seq (.reg [⟨(some 26), none, .mov (.t 1), []⟩,
  ⟨(some 27), none, .call 68 [(true, (.t 26)), (true, (.k (.int .i64 0)))], []⟩,
  ⟨(some 28), none, .mov (.t 2), []⟩,
  ⟨(some 29), none, .mov (.t 1), []⟩,
  ⟨(some 30), none, .len 1 (.t 29), []⟩,
  ⟨(some 31), none, .call 68 [(true, (.t 28)), (true, (.t 30))], []⟩,
  ⟨(some 32), none, .app 48 5 64 (.t 27) (.t 31), []⟩,
  ⟨(some 8), none, .mov (.t 32), []⟩] [26, 27, 28, 29, 30, 31, 32])
(.seq (.reg [⟨(some 33), none, .mov (.t 8), []⟩,
  ⟨(some 34), none, .mov (.t 0), []⟩,
  ⟨(some 35), none, .mov (.t 1), []⟩,
  ⟨(some 36), none, .len 1 (.t 35), []⟩,
  ⟨(some 37), none, .bin .sub 0 (.t 36) (.k (.int .i64 1)), []⟩,
  ⟨(some 38), none, .mov (.t 8), []⟩,
  ⟨(some 39), none, .len 1 (.t 38), []⟩,
  ⟨(some 40), none, .bin .sub 0 (.t 39) (.k (.int .i64 1)), []⟩,
  ⟨(some 41), none, .agg [(.int .i64 0), (.int .i64 0), (.int .i64 0), (.list 2 []), (.str ⟨#[]⟩)] [(0, 1, (.t 34)), (1, 1, (.t 37)), (2, 1, (.t 40))], []⟩,
  ⟨(some 42), none, .mkl 48 5 [(.int .i64 0), (.int .i64 0), (.int .i64 0), (.list 2 []), (.str ⟨#[]⟩)] 1 [(0, (.t 41))] false, []⟩,
  ⟨(some 43), none, .app 48 5 64 (.t 33) (.t 42), []⟩,
  ⟨(some 6), none, .mov (.t 43), []⟩,
  ⟨(some 7), none, .mov (.k (.bool true)), []⟩] [33, 34, 35, 36, 37, 38, 39, 40, 41, 42, 43])
.ret))))
/-- caesura/tree.pair -/
def fn67 : AFn := ⟨3, 44, c67, [(.t 6), (.t 7)], 0⟩
theorem fn67_np : fn67.np = 3 := rfl
theorem fn67_body : fn67.body = c67 := rfl
theorem fn67_res : fn67.res = [(.t 6), (.t 7)] := rfl
theorem fn67_keep : fn67.keep = 0 := rfl
def c68 : ACode :=
(.seq (.reg [⟨(some 4), none, .anil 48 5, []⟩] [])
(.seq (.reg [⟨(some 8), none, .mov (.t 0), []⟩,
  ⟨(some 9), none, .call 77 [(true, (.t 8))], []⟩,
  ⟨(some 5), none, .mov (.t 9), []⟩] [8, 9])
(.seq (.seq (.reg [⟨(some 10), none, .mov (.t 5), []⟩,
  ⟨(some 11), none, .len 1 (.t 10), []⟩,
  ⟨(some 12), none, .mov (.k (.int .i64 0)), []⟩] [10])
(.block 0 (.loop false (.seq (.reg [⟨(some 13), none, .bin .lss 0 (.t 12) (.t 11), []⟩] [])
(.seq (.cond (.t 13) [13] .skip (.exit 0))
(.seq (.block 1 (.seq (.reg [⟨(some 14), none, .mov (.t 12), []⟩,
  ⟨(some 6), none, .mov (.t 14), []⟩] [14])
(.seq (.reg [⟨(some 15), none, .mov (.t 5), []⟩,
  ⟨(some 16), none, .mov (.t 6), []⟩,
  ⟨(some 17), none, .iaddr 5 (.t 15) (.t 16), []⟩,
  ⟨(some 7), none, .mov (.t 17), []⟩] [15, 16, 17])
(.seq (.reg [⟨(some 18), none, .mov (.t 7), []⟩,
  ⟨(some 19), none, .mov (.t 7), []⟩,
  ⟨(some 20), none, .nilck (.t 19), []⟩,
  ⟨(some 21), none, .faddr 3 (.t 20), []⟩,
  ⟨(some 22), none, .load false 1 (.t 21), []⟩,
  ⟨(some 23), none, .call 69 [(true, (.t 22))], []⟩,
  ⟨(some 24), none, .nilck (.t 18), []⟩,
  ⟨(some 25), none, .faddr 3 (.t 24), []⟩,
  ⟨none, none, .store false 1 (.t 25) (.t 23), []⟩] [18, 19, 20, 21, 22, 23, 24, 25])
(.seq (.reg [⟨(some 26), none, .mov (.t 7), []⟩,
  ⟨(some 27), none, .nilck (.t 26), []⟩,
  ⟨(some 28), none, .faddr 0 (.t 27), []⟩,
  ⟨(some 29), none, .load false 1 (.t 28), []⟩] [26, 27, 28])
(.block 2 (.seq (.seq (.reg [⟨(some 31), none, .bin .eql 0 (.t 29) (.k (.int .i64 3)), []⟩,
  ⟨(some 30), none, .mov (.t 31), []⟩] [31])
(.cond (.t 30) [] .skip (.reg [⟨(some 32), none, .bin .eql 0 (.t 29) (.k (.int .i64 4)), []⟩,
  ⟨(some 30), none, .mov (.t 32), []⟩] [32])))
(.cond (.t 30) [] (.seq (.reg [⟨(some 33), none, .mov (.t 7), []⟩,
  ⟨(some 34), none, .nilck (.t 33), []⟩,
  ⟨(some 35), none, .faddr 1 (.t 34), []⟩,
  ⟨(some 36), none, .load false 1 (.t 35), []⟩,
  ⟨(some 37), none, .mov (.t 1), []⟩,
  ⟨(some 38), none, .bin .add 0 (.t 36) (.t 37), []⟩,
  ⟨(some 39), none, .nilck (.t 33), []⟩,
  ⟨(some 40), none, .faddr 1 (.t 39), []⟩,
  ⟨none, none, .store false 1 (.t 40) (.t 38), []⟩] [33, 34, 35, 36, 37, 38, 39, 40])
(.reg [⟨(some 41), none, .mov (.t 7), []⟩,
  ⟨(some 42), none, .nilck (.t 41), []⟩,
  ⟨(some 43), none, .faddr 2 (.t 42), []⟩,
  ⟨(some 44), none, .load false 1 (.t 43), []⟩,
  ⟨(some 45), none, .mov (.t 1), []⟩,
  ⟨(some 46), none, .bin .add 0 (.t 44) (.t 45), []⟩,
  ⟨(some 47), none, .nilck (.t 41), []⟩,
  ⟨(some 48), none, .faddr 2 (.t 47), []⟩,
  ⟨none, none, .store false 1 (.t 48) (.t 46), []⟩] [41, 42, 43, 44, 45, 46, 47, 48])) (.seq (.reg [⟨(some 50), none, .bin .eql 0 (.t 29) (.k (.int .i64 5)), []⟩,
  ⟨(some 49), none, .mov (.t 50), []⟩] [50])
(.cond (.t 49) [49] (.reg [⟨(some 51), none, .mov (.t 7), []⟩,
  ⟨(some 52), none, .nilck (.t 51), []⟩,
  ⟨(some 53), none, .faddr 1 (.t 52), []⟩,
  ⟨(some 54), none, .load false 1 (.t 53), []⟩,
  ⟨(some 55), none, .mov (.t 1), []⟩,
  ⟨(some 56), none, .bin .add 0 (.t 54) (.t 55), []⟩,
  ⟨(some 57), none, .nilck (.t 51), []⟩,
  ⟨(some 58), none, .faddr 1 (.t 57), []⟩,
  ⟨none, none, .store false 1 (.t 58) (.t 56), []⟩] [51, 52, 53, 54, 55, 56, 57, 58]) .skip))))))))))
(.reg [⟨(some 59), none, .bin .add 0 (.t 12) (.k (.int .i64 1)), []⟩,
  ⟨(some 12), none, .mov (.t 59), []⟩] [59])))))))
(.seq (.reg [⟨(some 60), none, .mov (.t 5), []⟩,
  ⟨(some 4), none, .mov (.t 60), []⟩] [60])
.ret))))
/-- caesura/tree.moved -/
def fn68 : AFn := ⟨2, 61, c68, [(.t 4)], 1⟩
theorem fn68_np : fn68.np = 2 := rfl
theorem fn68_body : fn68.body = c68 := rfl
theorem fn68_res : fn68.res = [(.t 4)] := rfl
theorem fn68_keep : fn68.keep = 1 := rfl
def c69 : ACode :=
(.seq (.reg [⟨(some 2), none, .anil 70 2, []⟩] [])
(.seq (.seq (.reg [⟨(some 3), none, .mov (.t 0), []⟩,
  ⟨(some 4), none, .isnil false (.t 3), []⟩] [3])
(.cond (.t 4) [4] (.seq (.reg [⟨(some 2), none, .anil 70 2, []⟩] [])
.ret) .skip))
(.seq (.reg [⟨(some 5), none, .mkl 70 2 [(.int .i64 0), (.int .i64 0)] 0 [] false, []⟩,
  ⟨(some 6), none, .mov (.t 0), []⟩,
  ⟨(some 7), none, .app 70 2 16 (.t 5) (.t 6), []⟩,
  ⟨(some 2), none, .mov (.t 7), []⟩] [5, 6, 7])
.ret)))
/-- slices.Clone[caesura/api.Set,caesura/api.Range] -/
def fn69 : AFn := ⟨1, 8, c69, [(.t 2)], 1⟩
theorem fn69_np : fn69.np = 1 := rfl
theorem fn69_body : fn69.body = c69 := rfl
theorem fn69_res : fn69.res = [(.t 2)] := rfl
theorem fn69_keep : fn69.keep = 1 := rfl
def c70 : ACode :=
(.seq (.reg [⟨(some 6), none, .anil 48 5, []⟩] [])
(.seq (.reg [⟨(some 7), none, .anil 48 5, []⟩] [])
(.seq (.seq (.reg [⟨(some 10), none, .mov (.t 1), []⟩,
  ⟨(some 8), none, .mov (.t 10), []⟩] [10])
(.block 0 (.loop false (.seq (.seq (.reg [⟨(some 11), none, .mov (.t 8), []⟩,
  ⟨(some 12), none, .mov (.t 2), []⟩,
  ⟨(some 13), none, .bin .leq 0 (.t 11) (.t 12), []⟩] [11, 12])
(.cond (.t 13) [13] .skip (.exit 0)))
(.seq (.block 1 (.seq (.reg [⟨(some 16), none, .mov (.t 0), []⟩,
  ⟨(some 17), none, .mov (.t 8), []⟩,
  ⟨(some 18), none, .iaddr 5 (.t 16) (.t 17), []⟩,
  ⟨(some 19), none, .load true 5 (.t 18), []⟩,
  ⟨(some 9), none, .new [(.int .i64 0), (.int .i64 0), (.int .i64 0), (.list 2 []), (.str ⟨#[]⟩)], []⟩,
  ⟨none, none, .store false 5 (.t 9) (.t 19), []⟩] [16, 17, 18, 19])
(.seq (.seq (.reg [⟨(some 20), none, .faddr 0 (.t 9), []⟩,
  ⟨(some 21), none, .load false 1 (.t 20), []⟩] [20])
(.block 2 (.seq (.reg [⟨(some 23), none, .bin .eql 0 (.t 21) (.k (.int .i64 5)), []⟩,
  ⟨(some 22), none, .mov (.t 23), []⟩] [23])
(.cond (.t 22) [22] (.reg [⟨(some 24), none, .faddr 1 (.t 9), []⟩,
  ⟨(some 25), none, .load false 1 (.t 24), []⟩,
  ⟨(some 26), none, .mov (.t 1), []⟩,
  ⟨(some 27), none, .bin .sub 0 (.t 25) (.t 26), []⟩,
  ⟨(some 28), none, .faddr 1 (.t 9), []⟩,
  ⟨none, none, .store false 1 (.t 28) (.t 27), []⟩] [24, 25, 26, 27, 28]) (.seq (.seq (.reg [⟨(some 30), none, .bin .eql 0 (.t 21) (.k (.int .i64 3)), []⟩,
  ⟨(some 29), none, .mov (.t 30), []⟩] [30])
(.cond (.t 29) [] .skip (.reg [⟨(some 31), none, .bin .eql 0 (.t 21) (.k (.int .i64 4)), []⟩,
  ⟨(some 29), none, .mov (.t 31), []⟩] [31])))
(.cond (.t 29) [] (.seq (.reg [⟨(some 32), none, .faddr 1 (.t 9), []⟩,
  ⟨(some 33), none, .load false 1 (.t 32), []⟩,
  ⟨(some 34), none, .mov (.t 1), []⟩,
  ⟨(some 35), none, .bin .sub 0 (.t 33) (.t 34), []⟩,
  ⟨(some 36), none, .faddr 1 (.t 9), []⟩,
  ⟨none, none, .store false 1 (.t 36) (.t 35), []⟩] [32, 33, 34, 35, 36])
(.reg [⟨(some 37), none, .faddr 2 (.t 9), []⟩,
  ⟨(some 38), none, .load false 1 (.t 37), []⟩,
  ⟨(some 39), none, .mov (.t 1), []⟩,
  ⟨(some 40), none, .bin .sub 0 (.t 38) (.t 39), []⟩,
  ⟨(some 41), none, .faddr 2 (.t 9), []⟩,
  ⟨none, none, .store false 1 (.t 41) (.t 40), []⟩] [37, 38, 39, 40, 41])) .skip))))))
(.seq (.reg [⟨(some 42), none, .mkl 70 2 [(.int .i64 0), (.int .i64 0)] 0 [] false, []⟩,
  ⟨(some 43), none, .faddr 3 (.t 9), []⟩,
  ⟨(some 44), none, .load false 1 (.t 43), []⟩,
  ⟨(some 45), none, .app 70 2 16 (.t 42) (.t 44), []⟩,
  ⟨(some 46), none, .faddr 3 (.t 9), []⟩,
  ⟨none, none, .store false 1 (.t 46) (.t 45), []⟩] [42, 43, 44, 45, 46])
(.reg [⟨(some 47), none, .mov (.t 7), []⟩,
  ⟨(some 48), none, .load true 5 (.t 9), []⟩,
  ⟨(some 49), none, .mkl 48 5 [(.int .i64 0), (.int .i64 0), (.int .i64 0), (.list 2 []), (.str ⟨#[]⟩)] 1 [(0, (.t 48))] false, []⟩,
  ⟨(some 50), none, .app 48 5 64 (.t 47) (.t 49), []⟩,
  ⟨(some 7), none, .mov (.t 50), []⟩] [47, 48, 49, 50])))))
(.reg [⟨(some 14), none, .mov (.t 8), []⟩,
  ⟨(some 15), none, .bin .add 0 (.t 14) (.k (.int .i64 1)), []⟩,
  ⟨(some 8), none, .mov (.t 15), []⟩] [14, 15]))))))
(.seq (.reg [⟨(some 51), none, .mov (.t 7), []⟩,
  ⟨(some 6), none, .mov (.t 51), []⟩] [51])
.ret))))
/-- caesura/caesuraref11.Beneath -/
def fn70 : AFn := ⟨3, 52, c70, [(.t 6)], 1⟩
theorem fn70_np : fn70.np = 3 := rfl
theorem fn70_body : fn70.body = c70 := rfl
theorem fn70_res : fn70.res = [(.t 6)] := rfl
theorem fn70_keep : fn70.keep = 1 := rfl
def c71 : ACode :=
(.seq (.reg [⟨(some 2), none, .anil 3 1, []⟩,
  ⟨(some 3), none, .mov (.k (.bool false)), []⟩] [])
(.seq (.reg [⟨(some 7), none, .mov (.t 0), []⟩,
  ⟨(some 8), none, .len 1 (.t 7), []⟩,
  ⟨(some 9), none, .mks 3 1 8 [(.int .i64 0)] (.t 8), []⟩,
  ⟨(some 4), none, .mov (.t 9), []⟩] [7, 8, 9])
(.seq (.seq (.reg [⟨(some 10), none, .mov (.t 0), []⟩,
  ⟨(some 11), none, .len 1 (.t 10), []⟩,
  ⟨(some 12), none, .mov (.k (.int .i64 0)), []⟩] [])
(.block 0 (.loop false (.seq (.reg [⟨(some 13), none, .bin .lss 0 (.t 12) (.t 11), []⟩] [])
(.seq (.cond (.t 13) [13] .skip (.exit 0))
(.seq (.block 1 (.seq (.reg [⟨(some 14), none, .mov (.t 12), []⟩,
  ⟨(some 15), none, .iaddr 5 (.t 10) (.t 12), []⟩,
  ⟨(some 16), none, .load true 5 (.t 15), []⟩,
  ⟨(some 6), none, .new [(.int .i64 0), (.int .i64 0), (.int .i64 0), (.list 2 []), (.str ⟨#[]⟩)], []⟩,
  ⟨(some 5), none, .mov (.t 14), []⟩,
  ⟨none, none, .store false 5 (.t 6) (.t 16), []⟩] [14, 15, 16])
(.seq (.reg [⟨(some 17), none, .faddr 0 (.t 6), []⟩,
  ⟨(some 18), none, .load false 1 (.t 17), []⟩] [17])
(.block 2 (.seq (.seq (.reg [⟨(some 27), none, .bin .eql 0 (.t 18) (.k (.int .i64 3)), []⟩,
  ⟨(some 26), none, .mov (.t 27), []⟩] [27])
(.cond (.t 26) [] .skip (.reg [⟨(some 28), none, .bin .eql 0 (.t 18) (.k (.int .i64 4)), []⟩,
  ⟨(some 26), none, .mov (.t 28), []⟩] [28])))
(.cond (.t 26) [] (.seq (.seq (.dreg [⟨(some 29), none, .mov (.t 5), []⟩,
  ⟨(some 30), none, .bin .lss 0 (.t 29) (.k (.int .i64 2)), [0]⟩,
  ⟨(some 31), none, .mov (.t 30), [0, 1]⟩,
  ⟨(some 32), (some (31, false)), .faddr 2 (.t 6), [0, 1, 2]⟩,
  ⟨(some 33), (some (31, false)), .load false 1 (.t 32), [0, 1, 2, 3]⟩,
  ⟨(some 34), (some (31, false)), .mov (.t 5), [0, 1, 2]⟩,
  ⟨(some 35), (some (31, false)), .bin .sub 0 (.t 34) (.k (.int .i64 1)), [0, 1, 2, 5]⟩,
  ⟨(some 36), (some (31, false)), .bin .neq 0 (.t 33) (.t 35), [0, 1, 2, 3, 4, 5, 6]⟩,
  ⟨(some 37), none, .pick (.t 31) (.k (.bool true)) (.t 36), [0, 1, 2, 3, 4, 5, 6, 7]⟩,
  ⟨(some 38), none, .mov (.t 37), [0, 1, 2, 3, 4, 5, 6, 7, 8]⟩,
  ⟨(some 39), (some (38, false)), .faddr 1 (.t 6), [0, 1, 2, 3, 4, 5, 6, 7, 8, 9]⟩,
  ⟨(some 40), (some (38, false)), .load false 1 (.t 39), [0, 1, 2, 3, 4, 5, 6, 7, 8, 9, 10]⟩,
  ⟨(some 41), (some (38, false)), .mov (.t 4), [0, 1, 2, 3, 4, 5, 6, 7, 8, 9]⟩,
  ⟨(some 42), (some (38, false)), .faddr 2 (.t 6), [0, 1, 2, 3, 4, 5, 6, 7, 8, 9]⟩,
  ⟨(some 43), (some (38, false)), .load false 1 (.t 42), [0, 1, 2, 3, 4, 5, 6, 7, 8, 9, 13]⟩,
  ⟨(some 44), (some (38, false)), .iaddr 1 (.t 41) (.t 43), [0, 1, 2, 3, 4, 5, 6, 7, 8, 9, 12, 13, 14]⟩,
  ⟨(some 45), (some (38, false)), .load false 1 (.t 44), [0, 1, 2, 3, 4, 5, 6, 7, 8, 9, 12, 13, 14, 15]⟩,
  ⟨(some 46), (some (38, false)), .bin .sub 0 (.t 45) (.k (.int .i64 1)), [0, 1, 2, 3, 4, 5, 6, 7, 8, 9, 12, 13, 14, 15, 16]⟩,
  ⟨(some 47), (some (38, false)), .bin .neq 0 (.t 40) (.t 46), [0, 1, 2, 3, 4, 5, 6, 7, 8, 9, 10, 11, 12, 13, 14, 15, 16, 17]⟩,
  ⟨(some 48), none, .pick (.t 38) (.k (.bool true)) (.t 47), [0, 1, 2, 3, 4, 5, 6, 7, 8, 9, 10, 11, 12, 13, 14, 15, 16, 17, 18]⟩,
  ⟨(some 49), none, .mov (.t 48), [0, 1, 2, 3, 4, 5, 6, 7, 8, 9, 10, 11, 12, 13, 14, 15, 16, 17, 18, 19]⟩,
  ⟨(some 50), (some (49, false)), .faddr 1 (.t 6), [0, 1, 2, 3, 4, 5, 6, 7, 8, 9, 10, 11, 12, 13, 14, 15, 16, 17, 18, 19, 20]⟩,
  ⟨(some 51), (some (49, false)), .load false 1 (.t 50), [0, 1, 2, 3, 4, 5, 6, 7, 8, 9, 10, 11, 12, 13, 14, 15, 16, 17, 18, 19, 20, 21]⟩,
  ⟨(some 52), (some (49, false)), .bin .lss 0 (.t 51) (.k (.int .i64 0)), [0, 1, 2, 3, 4, 5, 6, 7, 8, 9, 10, 11, 12, 13, 14, 15, 16, 17, 18, 19, 20, 21, 22]⟩,
  ⟨(some 53), none, .pick (.t 49) (.k (.bool true)) (.t 52), [0, 1, 2, 3, 4, 5, 6, 7, 8, 9, 10, 11, 12, 13, 14, 15, 16, 17, 18, 19, 20, 21, 22, 23]⟩,
  ⟨(some 54), none, .mov (.t 53), [0, 1, 2, 3, 4, 5, 6, 7, 8, 9, 10, 11, 12, 13, 14, 15, 16, 17, 18, 19, 20, 21, 22, 23, 24]⟩,
  ⟨(some 55), (some (54, false)), .load true 5 (.t 6), [0, 1, 2, 3, 4, 5, 6, 7, 8, 9, 10, 11, 12, 13, 14, 15, 16, 17, 18, 19, 20, 21, 22, 23, 24, 25]⟩,
  ⟨(some 56), (some (54, false)), .call 103 [(true, (.t 55))], [0, 1, 2, 3, 4, 5, 6, 7, 8, 9, 10, 11, 12, 13, 14, 15, 16, 17, 18, 19, 20, 21, 22, 23, 24, 25, 26]⟩,
  ⟨(some 57), (some (54, false)), .un .not (.t 56), [0, 1, 2, 3, 4, 5, 6, 7, 8, 9, 10, 11, 12, 13, 14, 15, 16, 17, 18, 19, 20, 21, 22, 23, 24, 25, 26, 27]⟩,
  ⟨(some 58), none, .pick (.t 54) (.k (.bool true)) (.t 57), [0, 1, 2, 3, 4, 5, 6, 7, 8, 9, 10, 11, 12, 13, 14, 15, 16, 17, 18, 19, 20, 21, 22, 23, 24, 25, 26, 27, 28]⟩] [29, 30, 31, 32, 33, 34, 35, 36, 37, 38, 39, 40, 41, 42, 43, 44, 45, 46, 47, 48, 49, 50, 51, 52, 53, 54, 55, 56, 57])
(.cond (.t 58) [58] (.seq (.reg [⟨(some 2), none, .anil 3 1, []⟩,
  ⟨(some 3), none, .mov (.k (.bool false)), []⟩] [])
.ret) .skip))
(.reg [⟨(some 59), none, .mov (.t 4), []⟩,
  ⟨(some 60), none, .mov (.t 5), []⟩,
  ⟨(some 61), none, .mov (.t 4), []⟩,
  ⟨(some 62), none, .faddr 1 (.t 6), []⟩,
  ⟨(some 63), none, .load false 1 (.t 62), []⟩,
  ⟨(some 64), none, .iaddr 1 (.t 61) (.t 63), []⟩,
  ⟨(some 65), none, .load false 1 (.t 64), []⟩,
  ⟨(some 66), none, .iaddr 1 (.t 59) (.t 60), []⟩,
  ⟨none, none, .store false 1 (.t 66) (.t 65), []⟩] [59, 60, 61, 62, 63, 64, 65, 66])) (.seq (.reg [⟨(some 68), none, .bin .eql 0 (.t 18) (.k (.int .i64 5)), []⟩,
  ⟨(some 67), none, .mov (.t 68), []⟩] [68])
(.cond (.t 67) [67] (.seq (.seq (.reg [⟨(some 69), none, .mov (.t 5), []⟩,
  ⟨(some 70), none, .bin .lss 0 (.t 69) (.k (.int .i64 1)), []⟩,
  ⟨(some 71), none, .mov (.t 70), []⟩,
  ⟨(some 72), (some (71, false)), .faddr 1 (.t 6), []⟩,
  ⟨(some 73), (some (71, false)), .load false 1 (.t 72), []⟩,
  ⟨(some 74), (some (71, false)), .mov (.t 5), []⟩,
  ⟨(some 75), (some (71, false)), .bin .sub 0 (.t 74) (.k (.int .i64 1)), []⟩,
  ⟨(some 76), (some (71, false)), .bin .neq 0 (.t 73) (.t 75), []⟩,
  ⟨(some 77), none, .pick (.t 71) (.k (.bool true)) (.t 76), []⟩,
  ⟨(some 78), none, .mov (.t 77), []⟩,
  ⟨(some 79), (some (78, false)), .faddr 2 (.t 6), []⟩,
  ⟨(some 80), (some (78, false)), .load false 1 (.t 79), []⟩,
  ⟨(some 81), (some (78, false)), .bin .neq 0 (.t 80) (.k (.int .i64 0)), []⟩,
  ⟨(some 82), none, .pick (.t 78) (.k (.bool true)) (.t 81), []⟩,
  ⟨(some 83), none, .mov (.t 82), []⟩,
  ⟨(some 84), (some (83, false)), .load true 5 (.t 6), []⟩,
  ⟨(some 85), (some (83, false)), .call 103 [(true, (.t 84))], []⟩,
  ⟨(some 86), (some (83, false)), .un .not (.t 85), []⟩,
  ⟨(some 87), none, .pick (.t 83) (.k (.bool true)) (.t 86), []⟩] [69, 70, 71, 72, 73, 74, 75, 76, 77, 78, 79, 80, 81, 82, 83, 84, 85, 86])
(.cond (.t 87) [87] (.seq (.reg [⟨(some 2), none, .anil 3 1, []⟩,
  ⟨(some 3), none, .mov (.k (.bool false)), []⟩] [])
.ret) .skip))
(.reg [⟨(some 88), none, .mov (.t 4), []⟩,
  ⟨(some 89), none, .mov (.t 5), []⟩,
  ⟨(some 90), none, .mov (.t 4), []⟩,
  ⟨(some 91), none, .faddr 1 (.t 6), []⟩,
  ⟨(some 92), none, .load false 1 (.t 91), []⟩,
  ⟨(some 93), none, .iaddr 1 (.t 90) (.t 92), []⟩,
  ⟨(some 94), none, .load false 1 (.t 93), []⟩,
  ⟨(some 95), none, .iaddr 1 (.t 88) (.t 89), []⟩,
  ⟨none, none, .store false 1 (.t 95) (.t 94), []⟩] [88, 89, 90, 91, 92, 93, 94, 95])) (.seq (.seq (.reg [⟨(some 19), none, .load true 5 (.t 6), []⟩,
  ⟨(some 20), none, .call 104 [(true, (.t 19))], []⟩,
  ⟨(some 21), none, .un .not (.t 20), []⟩] [19, 20])
(.cond (.t 21) [21] (.seq (.reg [⟨(some 2), none, .anil 3 1, []⟩,
  ⟨(some 3), none, .mov (.k (.bool false)), []⟩] [])
.ret) .skip))
(.reg [⟨(some 22), none, .mov (.t 4), []⟩,
  ⟨(some 23), none, .mov (.t 5), []⟩,
  ⟨(some 24), none, .mov (.t 5), []⟩,
  ⟨(some 25), none, .iaddr 1 (.t 22) (.t 23), []⟩,
  ⟨none, none, .store false 1 (.t 25) (.t 24), []⟩] [22, 23, 24, 25]))))))))))
(.reg [⟨(some 96), none, .bin .add 0 (.t 12) (.k (.int .i64 1)), []⟩,
  ⟨(some 12), none, .mov (.t 96), []⟩] [96])))))))
(.seq (.reg [⟨(some 97), none, .mov (.t 4), []⟩,
  ⟨(some 2), none, .mov (.t 97), []⟩,
  ⟨(some 3), none, .mov (.k (.bool true)), []⟩] [97])
.ret))))
/-- caesura/tree.begins -/
def fn71 : AFn := ⟨1, 98, c71, [(.t 2), (.t 3)], 0⟩
theorem fn71_np : fn71.np = 1 := rfl
theorem fn71_body : fn71.body = c71 := rfl
theorem fn71_res : fn71.res = [(.t 2), (.t 3)] := rfl
theorem fn71_keep : fn71.keep = 0 := rfl
def c72 : ACode :=
(.seq (.reg [⟨(some 8), none, .mov (.k (.bool false)), []⟩] [])
(.seq (.reg [⟨(some 13), none, .mov (.t 1), []⟩,
  ⟨(some 14), none, .mov (.t 2), []⟩,
  ⟨(some 15), none, .mov (.t 3), []⟩,
  ⟨(some 16), none, .agg [(.int .i64 0), (.int .i64 0), (.int .i64 0)] [(0, 1, (.t 13)), (1, 1, (.t 14)), (2, 1, (.t 15))], []⟩,
  ⟨(some 9), none, .new [(.int .i64 0), (.int .i64 0), (.int .i64 0)], []⟩,
  ⟨none, none, .store false 3 (.t 9) (.t 16), []⟩] [13, 14, 15, 16])
(.seq (.seq (.dreg [⟨(some 18), none, .mov (.t 0), []⟩,
  ⟨(some 19), none, .nilck (.t 18), [0]⟩,
  ⟨(some 20), none, .faddr 2 (.t 19), [0, 1]⟩,
  ⟨(some 21), none, .load false 1 (.t 20), [0, 1, 2]⟩,
  ⟨(some 22), none, .load true 3 (.t 9), []⟩,
  ⟨(some 23), none, .look 3 [0, 0, 0] (.int .i64 0) true (.t 21) (.t 22), [0, 1, 2, 3, 4]⟩,
  ⟨(some 17), none, .mov (.t 23), [0, 1, 2, 3, 4, 5]⟩,
  ⟨(some 24), none, .ext (.t 17) 0, [0, 1, 2, 3, 4, 5, 6]⟩,
  ⟨(some 25), none, .ext (.t 17) 1, [0, 1, 2, 3, 4, 5, 6]⟩,
  ⟨(some 10), none, .mov (.t 24), [0, 1, 2, 3, 4, 5, 6, 7]⟩,
  ⟨(some 11), none, .mov (.t 25), [0, 1, 2, 3, 4, 5, 6, 7, 8, 9]⟩] [17, 18, 19, 20, 21, 22, 23, 24, 25])
(.seq (.reg [⟨(some 26), none, .mov (.t 11), []⟩] [])
(.cond (.t 26) [26] (.seq (.reg [⟨(some 27), none, .mov (.t 10), []⟩,
  ⟨(some 28), none, .bin .eql 0 (.t 27) (.k (.int .i64 1)), []⟩,
  ⟨(some 8), none, .mov (.t 28), []⟩] [27, 28])
.ret) .skip)))
(.seq (.reg [⟨(some 29), none, .mov (.t 0), []⟩,
  ⟨(some 30), none, .mov (.t 0), []⟩,
  ⟨(some 31), none, .nilck (.t 30), []⟩,
  ⟨(some 32), none, .faddr 0 (.t 31), []⟩,
  ⟨(some 33), none, .load false 1 (.t 32), []⟩,
  ⟨(some 34), none, .mov (.t 1), []⟩,
  ⟨(some 35), none, .iaddr 5 (.t 33) (.t 34), []⟩,
  ⟨(some 36), none, .load true 5 (.t 35), []⟩,
  ⟨(some 37), none, .mov (.t 1), []⟩,
  ⟨(some 38), none, .mov (.t 2), []⟩,
  ⟨(some 39), none, .mov (.t 3), []⟩,
  ⟨(some 40), none, .call 105 [(false, (.t 29)), (true, (.t 36)), (true, (.t 37)), (true, (.t 38)), (true, (.t 39))], []⟩,
  ⟨(some 12), none, .mov (.t 40), []⟩] [29, 30, 31, 32, 33, 34, 35, 36, 37, 38, 39, 40])
(.seq (.dreg [⟨(some 41), none, .mov (.t 0), []⟩,
  ⟨(some 42), none, .nilck (.t 41), [0]⟩,
  ⟨(some 43), none, .faddr 2 (.t 42), [0, 1]⟩,
  ⟨(some 44), none, .load false 1 (.t 43), [0, 1, 2]⟩,
  ⟨(some 45), none, .load true 3 (.t 9), []⟩,
  ⟨none, none, .mset 3 [0, 0, 0] (.t 44) (.t 45) (.k (.int .i64 0)), [0, 1, 2, 3, 4]⟩] [41, 42, 43, 44, 45])
(.seq (.seq (.reg [⟨(some 46), none, .mov (.t 12), []⟩] [])
(.cond (.t 46) [46] (.dreg [⟨(some 47), none, .mov (.t 0), []⟩,
  ⟨(some 48), none, .nilck (.t 47), [0]⟩,
  ⟨(some 49), none, .faddr 2 (.t 48), [0, 1]⟩,
  ⟨(some 50), none, .load false 1 (.t 49), [0, 1, 2]⟩,
  ⟨(some 51), none, .load true 3 (.t 9), []⟩,
  ⟨none, none, .mset 3 [0, 0, 0] (.t 50) (.t 51) (.k (.int .i64 1)), [0, 1, 2, 3, 4]⟩] [47, 48, 49, 50, 51]) .skip))
(.seq (.reg [⟨(some 52), none, .mov (.t 12), []⟩,
  ⟨(some 8), none, .mov (.t 52), []⟩] [52])
.ret)))))))
/-- (*caesura/tree.taker).takes -/
def fn72 : AFn := ⟨4, 53, c72, [(.t 8)], 0⟩
theorem fn72_np : fn72.np = 4 := rfl
theorem fn72_body : fn72.body = c72 := rfl
theorem fn72_res : fn72.res = [(.t 8)] := rfl
theorem fn72_keep : fn72.keep = 0 := rfl
def c73 : ACode :=
(.seq (.reg [⟨(some 4), none, .anil 87 1, []⟩] [])
(.seq (.reg [⟨(some 15), none, .mov (.t 1), []⟩,
  ⟨(some 16), none, .len 1 (.t 15), []⟩,
  ⟨(some 17), none, .bin .add 0 (.t 16) (.k (.int .i64 1)), []⟩,
  ⟨(some 5), none, .mov (.t 17), []⟩] [15, 16, 17])
(.seq (.reg [⟨(some 6), none, .anil 87 1, []⟩] [])
(.seq (.seq (.reg [⟨(some 7), none, .mov (.k (.int .i64 0)), []⟩] [])
(.block 0 (.loop true (.seq (.seq (.reg [⟨(some 18), none, .mov (.t 7), []⟩,
  ⟨(some 19), none, .mov (.t 0), []⟩,
  ⟨(some 20), none, .len 1 (.t 19), []⟩,
  ⟨(some 21), none, .bin .lss 0 (.t 18) (.t 20), []⟩] [18, 19, 20])
(.cond (.t 21) [21] .skip (.exit 0)))
(.seq (.block 1 (.seq (.reg [⟨(some 24), none, .mov (.t 5), []⟩,
  ⟨(some 25), none, .mks 86 1 24 [(.list 1 [])] (.t 24), []⟩,
  ⟨(some 8), none, .mov (.t 25), []⟩] [24, 25])
(.seq (.seq (.reg [⟨(some 9), none, .mov (.k (.int .i64 0)), []⟩] [])
(.block 2 (.loop true (.seq (.seq (.reg [⟨(some 26), none, .mov (.t 9), []⟩,
  ⟨(some 27), none, .mov (.t 5), []⟩,
  ⟨(some 28), none, .bin .lss 0 (.t 26) (.t 27), []⟩] [26, 27])
(.cond (.t 28) [28] .skip (.exit 2)))
(.seq (.block 3 (.seq (.reg [⟨(some 31), none, .mov (.t 8), []⟩,
  ⟨(some 32), none, .mov (.t 9), []⟩,
  ⟨(some 33), none, .mov (.t 5), []⟩,
  ⟨(some 34), none, .mks 4 1 1 [(.bool false)] (.t 33), []⟩,
  ⟨(some 35), none, .iaddr 1 (.t 31) (.t 32), []⟩,
  ⟨none, none, .store true 1 (.t 35) (.t 34), []⟩] [31, 32, 33, 34, 35])
(.seq (.reg [⟨(some 36), none, .mov (.t 0), []⟩,
  ⟨(some 37), none, .mov (.t 7), []⟩,
  ⟨(some 38), none, .iaddr 5 (.t 36) (.t 37), []⟩,
  ⟨(some 39), none, .faddr 0 (.t 38), []⟩,
  ⟨(some 40), none, .load false 1 (.t 39), []⟩] [36, 37, 38, 39])
(.block 4 (.seq (.reg [⟨(some 42), none, .bin .eql 0 (.t 40) (.k (.int .i64 1)), []⟩,
  ⟨(some 41), none, .mov (.t 42), []⟩] [42])
(.cond (.t 41) [41] (.reg [⟨(some 43), none, .mov (.t 8), []⟩,
  ⟨(some 44), none, .mov (.t 9), []⟩,
  ⟨(some 45), none, .iaddr 1 (.t 43) (.t 44), []⟩,
  ⟨(some 46), none, .load false 1 (.t 45), []⟩,
  ⟨(some 47), none, .mov (.t 9), []⟩,
  ⟨(some 48), none, .iaddr 1 (.t 46) (.t 47), []⟩,
  ⟨none, none, .store true 1 (.t 48) (.k (.bool true)), []⟩] [43, 44, 45, 46, 47, 48]) (.seq (.reg [⟨(some 50), none, .bin .eql 0 (.t 40) (.k (.int .i64 2)), []⟩,
  ⟨(some 49), none, .mov (.t 50), []⟩] [50])
(.cond (.t 49) [49] (.seq (.reg [⟨(some 51), none, .mov (.t 9), []⟩,
  ⟨(some 52), none, .mov (.t 1), []⟩,
  ⟨(some 53), none, .len 1 (.t 52), []⟩,
  ⟨(some 54), none, .bin .lss 0 (.t 51) (.t 53), []⟩] [51, 52, 53])
(.cond (.t 54) [54] (.dreg [⟨(some 55), none, .mov (.t 8), []⟩,
  ⟨(some 56), none, .mov (.t 9), []⟩,
  ⟨(some 57), none, .iaddr 1 (.t 55) (.t 56), [0, 1]⟩,
  ⟨(some 58), none, .load false 1 (.t 57), [0, 1, 2]⟩,
  ⟨(some 59), none, .mov (.t 9), []⟩,
  ⟨(some 60), none, .bin .add 0 (.t 59) (.k (.int .i64 1)), [4]⟩,
  ⟨(some 61), none, .mov (.t 0), []⟩,
  ⟨(some 62), none, .mov (.t 7), []⟩,
  ⟨(some 63), none, .iaddr 5 (.t 61) (.t 62), [6, 7]⟩,
  ⟨(some 64), none, .faddr 3 (.t 63), [6, 7, 8]⟩,
  ⟨(some 65), none, .load false 1 (.t 64), [6, 7, 8, 9]⟩,
  ⟨(some 66), none, .mov (.t 1), []⟩,
  ⟨(some 67), none, .mov (.t 9), []⟩,
  ⟨(some 68), none, .iaddr 1 (.t 66) (.t 67), [11, 12]⟩,
  ⟨(some 69), none, .load false 1 (.t 68), [11, 12, 13]⟩,
  ⟨(some 70), none, .call 59 [(true, (.t 65)), (true, (.t 69))], [6, 7, 8, 9, 10, 11, 12, 13, 14]⟩,
  ⟨(some 71), none, .iaddr 1 (.t 58) (.t 60), [0, 1, 2, 3, 4, 5, 6, 7, 8, 9, 10, 11, 12, 13, 14, 15]⟩,
  ⟨none, none, .store true 1 (.t 71) (.t 70), [0, 1, 2, 3, 4, 5, 6, 7, 8, 9, 10, 11, 12, 13, 14, 15, 16]⟩] [55, 56, 57, 58, 59, 60, 61, 62, 63, 64, 65, 66, 67, 68, 69, 70, 71]) .skip)) (.seq (.reg [⟨(some 73), none, .bin .eql 0 (.t 40) (.k (.int .i64 3)), []⟩,
  ⟨(some 72), none, .mov (.t 73), []⟩] [73])
(.cond (.t 72) [72] (.seq (.reg [⟨(some 74), none, .mov (.t 9), []⟩,
  ⟨(some 10), none, .mov (.t 74), []⟩] [74])
(.block 5 (.loop true (.seq (.seq (.reg [⟨(some 75), none, .mov (.t 10), []⟩,
  ⟨(some 76), none, .mov (.t 5), []⟩,
  ⟨(some 77), none, .bin .lss 0 (.t 75) (.t 76), []⟩] [75, 76])
(.cond (.t 77) [77] .skip (.exit 5)))
(.seq (.block 6 (.seq (.reg [⟨(some 80), none, .mov (.t 10), []⟩,
  ⟨(some 11), none, .mov (.t 80), []⟩] [80])
(.block 7 (.loop true (.seq (.seq (.reg [⟨(some 81), none, .mov (.t 11), []⟩,
  ⟨(some 82), none, .mov (.t 5), []⟩,
  ⟨(some 83), none, .bin .lss 0 (.t 81) (.t 82), []⟩,
  ⟨(some 84), none, .mov (.t 83), []⟩,
  ⟨(some 85), (some (84, true)), .mov (.t 6), []⟩,
  ⟨(some 86), (some (84, true)), .mov (.t 0), []⟩,
  ⟨(some 87), (some (84, true)), .mov (.t 7), []⟩,
  ⟨(some 88), (some (84, true)), .iaddr 5 (.t 86) (.t 87), []⟩,
  ⟨(some 89), (some (84, true)), .faddr 1 (.t 88), []⟩,
  ⟨(some 90), (some (84, true)), .load false 1 (.t 89), []⟩,
  ⟨(some 91), (some (84, true)), .iaddr 1 (.t 85) (.t 90), []⟩,
  ⟨(some 92), (some (84, true)), .load false 1 (.t 91), []⟩,
  ⟨(some 93), (some (84, true)), .mov (.t 9), []⟩,
  ⟨(some 94), (some (84, true)), .iaddr 1 (.t 92) (.t 93), []⟩,
  ⟨(some 95), (some (84, true)), .load false 1 (.t 94), []⟩,
  ⟨(some 96), (some (84, true)), .mov (.t 10), []⟩,
  ⟨(some 97), (some (84, true)), .iaddr 1 (.t 95) (.t 96), []⟩,
  ⟨(some 98), (some (84, true)), .load false 1 (.t 97), []⟩,
  ⟨(some 99), none, .pick (.t 84) (.t 98) (.k (.bool false)), []⟩] [81, 82, 83, 84, 85, 86, 87, 88, 89, 90, 91, 92, 93, 94, 95, 96, 97, 98])
(.cond (.t 99) [99] .skip (.exit 7)))
(.seq (.block 8 (.dreg [⟨(some 102), none, .mov (.t 8), []⟩,
  ⟨(some 103), none, .mov (.t 9), []⟩,
  ⟨(some 104), none, .iaddr 1 (.t 102) (.t 103), [0, 1]⟩,
  ⟨(some 105), none, .load false 1 (.t 104), [0, 1, 2]⟩,
  ⟨(some 106), none, .mov (.t 11), []⟩,
  ⟨(some 107), none, .mov (.t 8), []⟩,
  ⟨(some 108), none, .mov (.t 9), []⟩,
  ⟨(some 109), none, .iaddr 1 (.t 107) (.t 108), [5, 6]⟩,
  ⟨(some 110), none, .load false 1 (.t 109), [5, 6, 7]⟩,
  ⟨(some 111), none, .mov (.t 11), []⟩,
  ⟨(some 112), none, .iaddr 1 (.t 110) (.t 111), [5, 6, 7, 8, 9]⟩,
  ⟨(some 113), none, .load false 1 (.t 112), [5, 6, 7, 8, 9, 10]⟩,
  ⟨(some 114), none, .mov (.t 113), [5, 6, 7, 8, 9, 10, 11]⟩,
  ⟨(some 115), (some (114, false)), .mov (.t 6), [5, 6, 7, 8, 9, 10, 11, 12]⟩,
  ⟨(some 116), (some (114, false)), .mov (.t 0), [5, 6, 7, 8, 9, 10, 11, 12]⟩,
  ⟨(some 117), (some (114, false)), .mov (.t 7), [5, 6, 7, 8, 9, 10, 11, 12]⟩,
  ⟨(some 118), (some (114, false)), .iaddr 5 (.t 116) (.t 117), [5, 6, 7, 8, 9, 10, 11, 12, 14, 15]⟩,
  ⟨(some 119), (some (114, false)), .faddr 2 (.t 118), [5, 6, 7, 8, 9, 10, 11, 12, 14, 15, 16]⟩,
  ⟨(some 120), (some (114, false)), .load false 1 (.t 119), [5, 6, 7, 8, 9, 10, 11, 12, 14, 15, 16, 17]⟩,
  ⟨(some 121), (some (114, false)), .iaddr 1 (.t 115) (.t 120), [5, 6, 7, 8, 9, 10, 11, 12, 13, 14, 15, 16, 17, 18]⟩,
  ⟨(some 122), (some (114, false)), .load false 1 (.t 121), [5, 6, 7, 8, 9, 10, 11, 12, 13, 14, 15, 16, 17, 18, 19]⟩,
  ⟨(some 123), (some (114, false)), .mov (.t 10), [5, 6, 7, 8, 9, 10, 11, 12]⟩,
  ⟨(some 124), (some (114, false)), .iaddr 1 (.t 122) (.t 123), [5, 6, 7, 8, 9, 10, 11, 12, 13, 14, 15, 16, 17, 18, 19, 20, 21]⟩,
  ⟨(some 125), (some (114, false)), .load false 1 (.t 124), [5, 6, 7, 8, 9, 10, 11, 12, 13, 14, 15, 16, 17, 18, 19, 20, 21, 22]⟩,
  ⟨(some 126), (some (114, false)), .mov (.t 11), [5, 6, 7, 8, 9, 10, 11, 12]⟩,
  ⟨(some 127), (some (114, false)), .iaddr 1 (.t 125) (.t 126), [5, 6, 7, 8, 9, 10, 11, 12, 13, 14, 15, 16, 17, 18, 19, 20, 21, 22, 23, 24]⟩,
  ⟨(some 128), (some (114, false)), .load false 1 (.t 127), [5, 6, 7, 8, 9, 10, 11, 12, 13, 14, 15, 16, 17, 18, 19, 20, 21, 22, 23, 24, 25]⟩,
  ⟨(some 129), none, .pick (.t 114) (.k (.bool true)) (.t 128), [5, 6, 7, 8, 9, 10, 11, 12, 13, 14, 15, 16, 17, 18, 19, 20, 21, 22, 23, 24, 25, 26]⟩,
  ⟨(some 130), none, .iaddr 1 (.t 105) (.t 106), [0, 1, 2, 3, 4, 5, 6, 7, 8, 9, 10, 11, 12, 13, 14, 15, 16, 17, 18, 19, 20, 21, 22, 23, 24, 25, 26, 27]⟩,
  ⟨none, none, .store true 1 (.t 130) (.t 129), [0, 1, 2, 3, 4, 5, 6, 7, 8, 9, 10, 11, 12, 13, 14, 15, 16, 17, 18, 19, 20, 21, 22, 23, 24, 25, 26, 27, 28]⟩] [102, 103, 104, 105, 106, 107, 108, 109, 110, 111, 112, 113, 114, 115, 116, 117, 118, 119, 120, 121, 122, 123, 124, 125, 126, 127, 128, 129, 130]))
(.reg [⟨(some 100), none, .mov (.t 11), []⟩,
  ⟨(some 101), none, .bin .add 0 (.t 100) (.k (.int .i64 1)), []⟩,
  ⟨(some 11), none, .mov (.t 101), []⟩] [100, 101])))))))
(.reg [⟨(some 78), none, .mov (.t 10), []⟩,
  ⟨(some 79), none, .bin .add 0 (.t 78) (.k (.int .i64 1)), []⟩,
  ⟨(some 10), none, .mov (.t 79), []⟩] [78, 79])))))) (.seq (.reg [⟨(some 132), none, .bin .eql 0 (.t 40) (.k (.int .i64 4)), []⟩,
  ⟨(some 131), none, .mov (.t 132), []⟩] [132])
(.cond (.t 131) [131] (.seq (.reg [⟨(some 133), none, .mov (.t 9), []⟩,
  ⟨(some 12), none, .mov (.t 133), []⟩] [133])
(.block 9 (.loop true (.seq (.seq (.reg [⟨(some 134), none, .mov (.t 12), []⟩,
  ⟨(some 135), none, .mov (.t 5), []⟩,
  ⟨(some 136), none, .bin .lss 0 (.t 134) (.t 135), []⟩] [134, 135])
(.cond (.t 136) [136] .skip (.exit 9)))
(.seq (.block 10 (.dreg [⟨(some 139), none, .mov (.t 8), []⟩,
  ⟨(some 140), none, .mov (.t 9), []⟩,
  ⟨(some 141), none, .iaddr 1 (.t 139) (.t 140), [0, 1]⟩,
  ⟨(some 142), none, .load false 1 (.t 141), [0, 1, 2]⟩,
  ⟨(some 143), none, .mov (.t 12), []⟩,
  ⟨(some 144), none, .mov (.t 6), []⟩,
  ⟨(some 145), none, .mov (.t 0), []⟩,
  ⟨(some 146), none, .mov (.t 7), []⟩,
  ⟨(some 147), none, .iaddr 5 (.t 145) (.t 146), [6, 7]⟩,
  ⟨(some 148), none, .faddr 1 (.t 147), [6, 7, 8]⟩,
  ⟨(some 149), none, .load false 1 (.t 148), [6, 7, 8, 9]⟩,
  ⟨(some 150), none, .iaddr 1 (.t 144) (.t 149), [5, 6, 7, 8, 9, 10]⟩,
  ⟨(some 151), none, .load false 1 (.t 150), [5, 6, 7, 8, 9, 10, 11]⟩,
  ⟨(some 152), none, .mov (.t 9), []⟩,
  ⟨(some 153), none, .iaddr 1 (.t 151) (.t 152), [5, 6, 7, 8, 9, 10, 11, 12, 13]⟩,
  ⟨(some 154), none, .load false 1 (.t 153), [5, 6, 7, 8, 9, 10, 11, 12, 13, 14]⟩,
  ⟨(some 155), none, .mov (.t 12), []⟩,
  ⟨(some 156), none, .iaddr 1 (.t 154) (.t 155), [5, 6, 7, 8, 9, 10, 11, 12, 13, 14, 15, 16]⟩,
  ⟨(some 157), none, .load false 1 (.t 156), [5, 6, 7, 8, 9, 10, 11, 12, 13, 14, 15, 16, 17]⟩,
  ⟨(some 158), none, .mov (.t 157), [5, 6, 7, 8, 9, 10, 11, 12, 13, 14, 15, 16, 17, 18]⟩,
  ⟨(some 159), (some (158, false)), .mov (.t 6), [5, 6, 7, 8, 9, 10, 11, 12, 13, 14, 15, 16, 17, 18, 19]⟩,
  ⟨(some 160), (some (158, false)), .mov (.t 0), [5, 6, 7, 8, 9, 10, 11, 12, 13, 14, 15, 16, 17, 18, 19]⟩,
  ⟨(some 161), (some (158, false)), .mov (.t 7), [5, 6, 7, 8, 9, 10, 11, 12, 13, 14, 15, 16, 17, 18, 19]⟩,
  ⟨(some 162), (some (158, false)), .iaddr 5 (.t 160) (.t 161), [5, 6, 7, 8, 9, 10, 11, 12, 13, 14, 15, 16, 17, 18, 19, 21, 22]⟩,
  ⟨(some 163), (some (158, false)), .faddr 2 (.t 162), [5, 6, 7, 8, 9, 10, 11, 12, 13, 14, 15, 16, 17, 18, 19, 21, 22, 23]⟩,
  ⟨(some 164), (some (158, false)), .load false 1 (.t 163), [5, 6, 7, 8, 9, 10, 11, 12, 13, 14, 15, 16, 17, 18, 19, 21, 22, 23, 24]⟩,
  ⟨(some 165), (some (158, false)), .iaddr 1 (.t 159) (.t 164), [5, 6, 7, 8, 9, 10, 11, 12, 13, 14, 15, 16, 17, 18, 19, 20, 21, 22, 23, 24, 25]⟩,
  ⟨(some 166), (some (158, false)), .load false 1 (.t 165), [5, 6, 7, 8, 9, 10, 11, 12, 13, 14, 15, 16, 17, 18, 19, 20, 21, 22, 23, 24, 25, 26]⟩,
  ⟨(some 167), (some (158, false)), .mov (.t 9), [5, 6, 7, 8, 9, 10, 11, 12, 13, 14, 15, 16, 17, 18, 19]⟩,
  ⟨(some 168), (some (158, false)), .iaddr 1 (.t 166) (.t 167), [5, 6, 7, 8, 9, 10, 11, 12, 13, 14, 15, 16, 17, 18, 19, 20, 21, 22, 23, 24, 25, 26, 27, 28]⟩,
  ⟨(some 169), (some (158, false)), .load false 1 (.t 168), [5, 6, 7, 8, 9, 10, 11, 12, 13, 14, 15, 16, 17, 18, 19, 20, 21, 22, 23, 24, 25, 26, 27, 28, 29]⟩,
  ⟨(some 170), (some (158, false)), .mov (.t 12), [5, 6, 7, 8, 9, 10, 11, 12, 13, 14, 15, 16, 17, 18, 19]⟩,
  ⟨(some 171), (some (158, false)), .iaddr 1 (.t 169) (.t 170), [5, 6, 7, 8, 9, 10, 11, 12, 13, 14, 15, 16, 17, 18, 19, 20, 21, 22, 23, 24, 25, 26, 27, 28, 29, 30, 31]⟩,
  ⟨(some 172), (some (158, false)), .load false 1 (.t 171), [5, 6, 7, 8, 9, 10, 11, 12, 13, 14, 15, 16, 17, 18, 19, 20, 21, 22, 23, 24, 25, 26, 27, 28, 29, 30, 31, 32]⟩,
  ⟨(some 173), none, .pick (.t 158) (.k (.bool true)) (.t 172), [5, 6, 7, 8, 9, 10, 11, 12, 13, 14, 15, 16, 17, 18, 19, 20, 21, 22, 23, 24, 25, 26, 27, 28, 29, 30, 31, 32, 33]⟩,
  ⟨(some 174), none, .iaddr 1 (.t 142) (.t 143), [0, 1, 2, 3, 4, 5, 6, 7, 8, 9, 10, 11, 12, 13, 14, 15, 16, 17, 18, 19, 20, 21, 22, 23, 24, 25, 26, 27, 28, 29, 30, 31, 32, 33, 34]⟩,
  ⟨none, none, .store true 1 (.t 174) (.t 173), [0, 1, 2, 3, 4, 5, 6, 7, 8, 9, 10, 11, 12, 13, 14, 15, 16, 17, 18, 19, 20, 21, 22, 23, 24, 25, 26, 27, 28, 29, 30, 31, 32, 33, 34, 35]⟩] [139, 140, 141, 142, 143, 144, 145, 146, 147, 148, 149, 150, 151, 152, 153, 154, 155, 156, 157, 158, 159, 160, 161, 162, 163, 164, 165, 166, 167, 168, 169, 170, 171, 172, 173, 174]))
(.reg [⟨(some 137), none, .mov (.t 12), []⟩,
  ⟨(some 138), none, .bin .add 0 (.t 137) (.k (.int .i64 1)), []⟩,
  ⟨(some 12), none, .mov (.t 138), []⟩] [137, 138])))))) (.seq (.reg [⟨(some 176), none, .bin .eql 0 (.t 40) (.k (.int .i64 5)), []⟩,
  ⟨(some 175), none, .mov (.t 176), []⟩] [176])
(.cond (.t 175) [175] (.seq (.reg [⟨(some 177), none, .mov (.t 8), []⟩,
  ⟨(some 178), none, .mov (.t 9), []⟩,
  ⟨(some 179), none, .iaddr 1 (.t 177) (.t 178), []⟩,
  ⟨(some 180), none, .load false 1 (.t 179), []⟩,
  ⟨(some 181), none, .mov (.t 9), []⟩,
  ⟨(some 182), none, .iaddr 1 (.t 180) (.t 181), []⟩,
  ⟨none, none, .store true 1 (.t 182) (.k (.bool true)), []⟩] [177, 178, 179, 180, 181, 182])
(.seq (.reg [⟨(some 183), none, .mov (.t 9), []⟩,
  ⟨(some 13), none, .mov (.t 183), []⟩] [183])
(.block 11 (.loop true (.seq (.seq (.reg [⟨(some 184), none, .mov (.t 13), []⟩,
  ⟨(some 185), none, .mov (.t 5), []⟩,
  ⟨(some 186), none, .bin .lss 0 (.t 184) (.t 185), []⟩] [184, 185])
(.cond (.t 186) [186] .skip (.exit 11)))
(.seq (.block 12 (.seq (.reg [⟨(some 189), none, .mov (.t 13), []⟩,
  ⟨(some 14), none, .mov (.t 189), []⟩] [189])
(.block 13 (.loop true (.seq (.seq (.reg [⟨(some 190), none, .mov (.t 14), []⟩,
  ⟨(some 191), none, .mov (.t 5), []⟩,
  ⟨(some 192), none, .bin .lss 0 (.t 190) (.t 191), []⟩,
  ⟨(some 193), none, .mov (.t 192), []⟩,
  ⟨(some 194), (some (193, true)), .mov (.t 8), []⟩,
  ⟨(some 195), (some (193, true)), .mov (.t 9), []⟩,
  ⟨(some 196), (some (193, true)), .iaddr 1 (.t 194) (.t 195), []⟩,
  ⟨(some 197), (some (193, true)), .load false 1 (.t 196), []⟩,
  ⟨(some 198), (some (193, true)), .mov (.t 13), []⟩,
  ⟨(some 199), (some (193, true)), .iaddr 1 (.t 197) (.t 198), []⟩,
  ⟨(some 200), (some (193, true)), .load false 1 (.t 199), []⟩,
  ⟨(some 201), none, .pick (.t 193) (.t 200) (.k (.bool false)), []⟩] [190, 191, 192, 193, 194, 195, 196, 197, 198, 199, 200])
(.cond (.t 201) [201] .skip (.exit 13)))
(.seq (.block 14 (.dreg [⟨(some 204), none, .mov (.t 8), []⟩,
  ⟨(some 205), none, .mov (.t 9), []⟩,
  ⟨(some 206), none, .iaddr 1 (.t 204) (.t 205), [0, 1]⟩,
  ⟨(some 207), none, .load false 1 (.t 206), [0, 1, 2]⟩,
  ⟨(some 208), none, .mov (.t 14), []⟩,
  ⟨(some 209), none, .mov (.t 8), []⟩,
  ⟨(some 210), none, .mov (.t 9), []⟩,
  ⟨(some 211), none, .iaddr 1 (.t 209) (.t 210), [5, 6]⟩,
  ⟨(some 212), none, .load false 1 (.t 211), [5, 6, 7]⟩,
  ⟨(some 213), none, .mov (.t 14), []⟩,
  ⟨(some 214), none, .iaddr 1 (.t 212) (.t 213), [5, 6, 7, 8, 9]⟩,
  ⟨(some 215), none, .load false 1 (.t 214), [5, 6, 7, 8, 9, 10]⟩,
  ⟨(some 216), none, .mov (.t 215), [5, 6, 7, 8, 9, 10, 11]⟩,
  ⟨(some 217), (some (216, false)), .mov (.t 6), [5, 6, 7, 8, 9, 10, 11, 12]⟩,
  ⟨(some 218), (some (216, false)), .mov (.t 0), [5, 6, 7, 8, 9, 10, 11, 12]⟩,
  ⟨(some 219), (some (216, false)), .mov (.t 7), [5, 6, 7, 8, 9, 10, 11, 12]⟩,
  ⟨(some 220), (some (216, false)), .iaddr 5 (.t 218) (.t 219), [5, 6, 7, 8, 9, 10, 11, 12, 14, 15]⟩,
  ⟨(some 221), (some (216, false)), .faddr 1 (.t 220), [5, 6, 7, 8, 9, 10, 11, 12, 14, 15, 16]⟩,
  ⟨(some 222), (some (216, false)), .load false 1 (.t 221), [5, 6, 7, 8, 9, 10, 11, 12, 14, 15, 16, 17]⟩,
  ⟨(some 223), (some (216, false)), .iaddr 1 (.t 217) (.t 222), [5, 6, 7, 8, 9, 10, 11, 12, 13, 14, 15, 16, 17, 18]⟩,
  ⟨(some 224), (some (216, false)), .load false 1 (.t 223), [5, 6, 7, 8, 9, 10, 11, 12, 13, 14, 15, 16, 17, 18, 19]⟩,
  ⟨(some 225), (some (216, false)), .mov (.t 13), [5, 6, 7, 8, 9, 10, 11, 12]⟩,
  ⟨(some 226), (some (216, false)), .iaddr 1 (.t 224) (.t 225), [5, 6, 7, 8, 9, 10, 11, 12, 13, 14, 15, 16, 17, 18, 19, 20, 21]⟩,
  ⟨(some 227), (some (216, false)), .load false 1 (.t 226), [5, 6, 7, 8, 9, 10, 11, 12, 13, 14, 15, 16, 17, 18, 19, 20, 21, 22]⟩,
  ⟨(some 228), (some (216, false)), .mov (.t 14), [5, 6, 7, 8, 9, 10, 11, 12]⟩,
  ⟨(some 229), (some (216, false)), .iaddr 1 (.t 227) (.t 228), [5, 6, 7, 8, 9, 10, 11, 12, 13, 14, 15, 16, 17, 18, 19, 20, 21, 22, 23, 24]⟩,
  ⟨(some 230), (some (216, false)), .load false 1 (.t 229), [5, 6, 7, 8, 9, 10, 11, 12, 13, 14, 15, 16, 17, 18, 19, 20, 21, 22, 23, 24, 25]⟩,
  ⟨(some 231), none, .pick (.t 216) (.k (.bool true)) (.t 230), [5, 6, 7, 8, 9, 10, 11, 12, 13, 14, 15, 16, 17, 18, 19, 20, 21, 22, 23, 24, 25, 26]⟩,
  ⟨(some 232), none, .iaddr 1 (.t 207) (.t 208), [0, 1, 2, 3, 4, 5, 6, 7, 8, 9, 10, 11, 12, 13, 14, 15, 16, 17, 18, 19, 20, 21, 22, 23, 24, 25, 26, 27]⟩,
  ⟨none, none, .store true 1 (.t 232) (.t 231), [0, 1, 2, 3, 4, 5, 6, 7, 8, 9, 10, 11, 12, 13, 14, 15, 16, 17, 18, 19, 20, 21, 22, 23, 24, 25, 26, 27, 28]⟩] [204, 205, 206, 207, 208, 209, 210, 211, 212, 213, 214, 215, 216, 217, 218, 219, 220, 221, 222, 223, 224, 225, 226, 227, 228, 229, 230, 231, 232]))
(.reg [⟨(some 202), none, .mov (.t 14), []⟩,
  ⟨(some 203), none, .bin .add 0 (.t 202) (.k (.int .i64 1)), []⟩,
  ⟨(some 14), none, .mov (.t 203), []⟩] [202, 203])))))))
(.reg [⟨(some 187), none, .mov (.t 13), []⟩,
  ⟨(some 188), none, .bin .add 0 (.t 187) (.k (.int .i64 1)), []⟩,
  ⟨(some 13), none, .mov (.t 188), []⟩] [187, 188]))))))) .skip))))))))))))))
(.reg [⟨(some 29), none, .mov (.t 9), []⟩,
  ⟨(some 30), none, .bin .add 0 (.t 29) (.k (.int .i64 1)), []⟩,
  ⟨(some 9), none, .mov (.t 30), []⟩] [29, 30]))))))
(.reg [⟨(some 233), none, .mov (.t 6), []⟩,
  ⟨(some 234), none, .mov (.t 8), []⟩,
  ⟨(some 235), none, .mkl 87 1 [(.list 1 [])] 1 [(0, (.t 234))] false, []⟩,
  ⟨(some 236), none, .app 87 1 24 (.t 233) (.t 235), []⟩,
  ⟨(some 6), none, .mov (.t 236), []⟩] [233, 234, 235, 236]))))
(.reg [⟨(some 22), none, .mov (.t 7), []⟩,
  ⟨(some 23), none, .bin .add 0 (.t 22) (.k (.int .i64 1)), []⟩,
  ⟨(some 7), none, .mov (.t 23), []⟩] [22, 23]))))))
(.seq (.reg [⟨(some 237), none, .mov (.t 6), []⟩,
  ⟨(some 4), none, .mov (.t 237), []⟩] [237])
.ret)))))
/-- caesura/caesuraref11.Ends -/
def fn73 : AFn := ⟨2, 238, c73, [(.t 4)], 0⟩
theorem fn73_np : fn73.np = 2 := rfl
theorem fn73_body : fn73.body = c73 := rfl
theorem fn73_res : fn73.res = [(.t 4)] := rfl
theorem fn73_keep : fn73.keep = 0 := rfl
def c74 : ACode :=
(.seq (.reg [⟨(some 6), none, .mov (.k (.bool false)), []⟩] [])
(.seq (.seq (.reg [⟨(some 10), none, .mov (.t 0), []⟩,
  ⟨(some 11), none, .len 1 (.t 10), []⟩,
  ⟨(some 12), none, .mov (.t 1), []⟩,
  ⟨(some 13), none, .len 1 (.t 12), []⟩,
  ⟨(some 14), none, .bin .neq 0 (.t 11) (.t 13), []⟩] [10, 11, 12, 13])
(.cond (.t 14) [14] (.seq (.reg [⟨(some 6), none, .mov (.k (.bool false)), []⟩] [])
.ret) .skip))
(.seq (.seq (.reg [⟨(some 15), none, .mov (.t 0), []⟩,
  ⟨(some 16), none, .len 1 (.t 15), []⟩,
  ⟨(some 17), none, .mov (.k (.int .i64 0)), []⟩] [])
(.block 0 (.loop false (.seq (.reg [⟨(some 18), none, .bin .lss 0 (.t 17) (.t 16), []⟩] [])
(.seq (.cond (.t 18) [18] .skip (.exit 0))
(.seq (.block 1 (.seq (.reg [⟨(some 19), none, .mov (.t 17), []⟩,
  ⟨(some 20), none, .iaddr 5 (.t 15) (.t 17), []⟩,
  ⟨(some 21), none, .load true 5 (.t 20), []⟩,
  ⟨(some 8), none, .new [(.int .i64 0), (.int .i64 0), (.int .i64 0), (.list 2 []), (.str ⟨#[]⟩)], []⟩,
  ⟨(some 7), none, .mov (.t 19), []⟩,
  ⟨none, none, .store false 5 (.t 8) (.t 21), []⟩] [19, 20, 21])
(.seq (.reg [⟨(some 22), none, .mov (.t 1), []⟩,
  ⟨(some 23), none, .mov (.t 7), []⟩,
  ⟨(some 24), none, .iaddr 5 (.t 22) (.t 23), []⟩,
  ⟨(some 25), none, .load true 5 (.t 24), []⟩,
  ⟨(some 9), none, .new [(.int .i64 0), (.int .i64 0), (.int .i64 0), (.list 2 []), (.str ⟨#[]⟩)], []⟩,
  ⟨none, none, .store false 5 (.t 9) (.t 25), []⟩] [22, 23, 24, 25])
(.seq (.reg [⟨(some 26), none, .mov (.t 2), []⟩,
  ⟨(some 27), none, .load true 5 (.t 8), []⟩,
  ⟨(some 28), none, .load true 5 (.t 9), []⟩,
  ⟨(some 29), none, .callv (.t 26) [(true, (.t 27)), (true, (.t 28))], []⟩,
  ⟨(some 30), none, .un .not (.t 29), []⟩] [26, 27, 28, 29])
(.cond (.t 30) [30] (.seq (.reg [⟨(some 6), none, .mov (.k (.bool false)), []⟩] [])
.ret) .skip)))))
(.reg [⟨(some 31), none, .bin .add 0 (.t 17) (.k (.int .i64 1)), []⟩,
  ⟨(some 17), none, .mov (.t 31), []⟩] [31])))))))
(.seq (.reg [⟨(some 6), none, .mov (.k (.bool true)), []⟩] [])
.ret))))
/-- slices.EqualFunc[caesura/api.Tree,caesura/api.Tree,caesura/api.Node,caesura/api.Node] -/
def fn74 : AFn := ⟨3, 32, c74, [(.t 6)], 0⟩
theorem fn74_np : fn74.np = 3 := rfl
theorem fn74_body : fn74.body = c74 := rfl
theorem fn74_res : fn74.res = [(.t 6)] := rfl
theorem fn74_keep : fn74.keep = 0 := rfl
def c75 : ACode :=
(.seq (.reg [⟨(some 2), none, .box (.t 0), []⟩,
  ⟨(some 3), none, .box (.t 1), []⟩,
  ⟨(some 4), none, .mov (.k (.bool false)), []⟩] [])
(.seq (.reg [⟨(some 5), none, .faddr 0 (.t 2), []⟩,
  ⟨(some 6), none, .load false 1 (.t 5), []⟩,
  ⟨(some 7), none, .faddr 0 (.t 3), []⟩,
  ⟨(some 8), none, .load false 1 (.t 7), []⟩,
  ⟨(some 9), none, .bin .eql 0 (.t 6) (.t 8), []⟩,
  ⟨(some 10), none, .mov (.t 9), []⟩,
  ⟨(some 11), (some (10, true)), .faddr 1 (.t 2), []⟩,
  ⟨(some 12), (some (10, true)), .load false 1 (.t 11), []⟩,
  ⟨(some 13), (some (10, true)), .faddr 1 (.t 3), []⟩,
  ⟨(some 14), (some (10, true)), .load false 1 (.t 13), []⟩,
  ⟨(some 15), (some (10, true)), .bin .eql 0 (.t 12) (.t 14), []⟩,
  ⟨(some 16), none, .pick (.t 10) (.t 15) (.k (.bool false)), []⟩,
  ⟨(some 17), none, .mov (.t 16), []⟩,
  ⟨(some 18), (some (17, true)), .faddr 2 (.t 2), []⟩,
  ⟨(some 19), (some (17, true)), .load false 1 (.t 18), []⟩,
  ⟨(some 20), (some (17, true)), .faddr 2 (.t 3), []⟩,
  ⟨(some 21), (some (17, true)), .load false 1 (.t 20), []⟩,
  ⟨(some 22), (some (17, true)), .bin .eql 0 (.t 19) (.t 21), []⟩,
  ⟨(some 23), none, .pick (.t 17) (.t 22) (.k (.bool false)), []⟩,
  ⟨(some 24), none, .mov (.t 23), []⟩,
  ⟨(some 25), (some (24, true)), .faddr 4 (.t 2), []⟩,
  ⟨(some 26), (some (24, true)), .load false 1 (.t 25), []⟩,
  ⟨(some 27), (some (24, true)), .faddr 4 (.t 3), []⟩,
  ⟨(some 28), (some (24, true)), .load false 1 (.t 27), []⟩,
  ⟨(some 29), (some (24, true)), .bin .eql 0 (.t 26) (.t 28), []⟩,
  ⟨(some 30), none, .pick (.t 24) (.t 29) (.k (.bool false)), []⟩,
  ⟨(some 31), none, .mov (.t 30), []⟩,
  ⟨(some 32), (some (31, true)), .faddr 3 (.t 2), []⟩,
  ⟨(some 33), (some (31, true)), .load false 1 (.t 32), []⟩,
  ⟨(some 34), (some (31, true)), .faddr 3 (.t 3), []⟩,
  ⟨(some 35), (some (31, true)), .load false 1 (.t 34), []⟩,
  ⟨(some 36), (some (31, true)), .call 62 [(true, (.t 33)), (true, (.t 35))], []⟩,
  ⟨(some 37), none, .pick (.t 31) (.t 36) (.k (.bool false)), []⟩,
  ⟨(some 4), none, .mov (.t 37), []⟩] [5, 6, 7, 8, 9, 10, 11, 12, 13, 14, 15, 16, 17, 18, 19, 20, 21, 22, 23, 24, 25, 26, 27, 28, 29, 30, 31, 32, 33, 34, 35, 36, 37])
.ret))
/-- caesura/tree.Same$1 -/
def fn75 : AFn := ⟨2, 38, c75, [(.t 4)], 0⟩
theorem fn75_np : fn75.np = 2 := rfl
theorem fn75_body : fn75.body = c75 := rfl
theorem fn75_res : fn75.res = [(.t 4)] := rfl
theorem fn75_keep : fn75.keep = 0 := rfl
def c77 : ACode :=
(.seq (.reg [⟨(some 2), none, .anil 48 5, []⟩] [])
(.seq (.seq (.reg [⟨(some 3), none, .mov (.t 0), []⟩,
  ⟨(some 4), none, .isnil false (.t 3), []⟩] [3])
(.cond (.t 4) [4] (.seq (.reg [⟨(some 2), none, .anil 48 5, []⟩] [])
.ret) .skip))
(.seq (.reg [⟨(some 5), none, .mkl 48 5 [(.int .i64 0), (.int .i64 0), (.int .i64 0), (.list 2 []), (.str ⟨#[]⟩)] 0 [] false, []⟩,
  ⟨(some 6), none, .mov (.t 0), []⟩,
  ⟨(some 7), none, .app 48 5 64 (.t 5) (.t 6), []⟩,
  ⟨(some 2), none, .mov (.t 7), []⟩] [5, 6, 7])
.ret)))
/-- slices.Clone[caesura/api.Tree,caesura/api.Node] -/
def fn77 : AFn := ⟨1, 8, c77, [(.t 2)], 1⟩
theorem fn77_np : fn77.np = 1 := rfl
theorem fn77_body : fn77.body = c77 := rfl
theorem fn77_res : fn77.res = [(.t 2)] := rfl
theorem fn77_keep : fn77.keep = 1 := rfl
def c88 : ACode :=
(.seq (.reg [⟨(some 1), none, .box (.t 0), []⟩,
  ⟨(some 2), none, .mov (.k (.bool false)), []⟩] [])
(.seq (.reg [⟨(some 3), none, .faddr 0 (.t 1), []⟩,
  ⟨(some 4), none, .load false 1 (.t 3), []⟩,
  ⟨(some 5), none, .call 97 [(true, (.t 4))], []⟩,
  ⟨(some 6), none, .mov (.t 5), []⟩,
  ⟨(some 7), (some (6, true)), .faddr 1 (.t 1), []⟩,
  ⟨(some 8), (some (6, true)), .load false 1 (.t 7), []⟩,
  ⟨(some 9), (some (6, true)), .call 97 [(true, (.t 8))], []⟩,
  ⟨(some 10), none, .pick (.t 6) (.t 9) (.k (.bool false)), []⟩,
  ⟨(some 11), none, .mov (.t 10), []⟩,
  ⟨(some 12), (some (11, true)), .faddr 0 (.t 1), []⟩,
  ⟨(some 13), (some (11, true)), .load false 1 (.t 12), []⟩,
  ⟨(some 14), (some (11, true)), .faddr 1 (.t 1), []⟩,
  ⟨(some 15), (some (11, true)), .load false 1 (.t 14), []⟩,
  ⟨(some 16), (some (11, true)), .bin .leq 0 (.t 13) (.t 15), []⟩,
  ⟨(some 17), none, .pick (.t 11) (.t 16) (.k (.bool false)), []⟩,
  ⟨(some 2), none, .mov (.t 17), []⟩] [3, 4, 5, 6, 7, 8, 9, 10, 11, 12, 13, 14, 15, 16, 17])
.ret))
/-- caesura/sets.whole -/
def fn88 : AFn := ⟨1, 18, c88, [(.t 2)], 0⟩
theorem fn88_np : fn88.np = 1 := rfl
theorem fn88_body : fn88.body = c88 := rfl
theorem fn88_res : fn88.res = [(.t 2)] := rfl
theorem fn88_keep : fn88.keep = 0 := rfl
def c89 : ACode :=
(.seq (.reg [⟨(some 2), none, .box (.t 0), []⟩,
  ⟨(some 3), none, .box (.t 1), []⟩,
  ⟨(some 4), none, .mov (.k (.bool false)), []⟩] [])
(.seq (.reg [⟨(some 8), none, .faddr 1 (.t 2), []⟩,
  ⟨(some 9), none, .load false 1 (.t 8), []⟩,
  ⟨(some 10), none, .call 92 [(true, (.t 9))], []⟩,
  ⟨(some 7), none, .mov (.t 10), []⟩,
  ⟨(some 11), none, .ext (.t 7) 0, []⟩,
  ⟨(some 12), none, .ext (.t 7) 1, []⟩,
  ⟨(some 5), none, .mov (.t 11), []⟩,
  ⟨(some 6), none, .mov (.t 12), []⟩] [7, 8, 9, 10, 11, 12])
(.seq (.reg [⟨(some 13), none, .mov (.t 6), []⟩,
  ⟨(some 14), none, .mov (.t 13), []⟩,
  ⟨(some 15), (some (14, true)), .faddr 0 (.t 3), []⟩,
  ⟨(some 16), (some (14, true)), .load false 1 (.t 15), []⟩,
  ⟨(some 17), (some (14, true)), .mov (.t 5), []⟩,
  ⟨(some 18), (some (14, true)), .bin .gtr 0 (.t 16) (.t 17), []⟩,
  ⟨(some 19), none, .pick (.t 14) (.t 18) (.k (.bool false)), []⟩,
  ⟨(some 4), none, .mov (.t 19), []⟩] [13, 14, 15, 16, 17, 18, 19])
.ret)))
/-- caesura/sets.apart -/
def fn89 : AFn := ⟨2, 20, c89, [(.t 4)], 0⟩
theorem fn89_np : fn89.np = 2 := rfl
theorem fn89_body : fn89.body = c89 := rfl
theorem fn89_res : fn89.res = [(.t 4)] := rfl
theorem fn89_keep : fn89.keep = 0 := rfl
def c92 : ACode :=
(.seq (.reg [⟨(some 2), none, .mov (.k (.int .i64 0)), []⟩,
  ⟨(some 3), none, .mov (.k (.bool false)), []⟩] [])
(.seq (.block 0 (.seq (.reg [⟨(some 5), none, .mov (.t 0), []⟩,
  ⟨(some 6), none, .bin .lss 0 (.t 5) (.k (.int .i64 0)), []⟩,
  ⟨(some 4), none, .mov (.t 6), []⟩] [5, 6])
(.cond (.t 4) [4] (.seq (.reg [⟨(some 2), none, .mov (.k (.int .i64 0)), []⟩,
  ⟨(some 3), none, .mov (.k (.bool true)), []⟩] [])
.ret) (.seq (.reg [⟨(some 8), none, .mov (.t 0), []⟩,
  ⟨(some 9), none, .bin .geq 0 (.t 8) (.k (.int .i64 1114111)), []⟩,
  ⟨(some 7), none, .mov (.t 9), []⟩] [8, 9])
(.cond (.t 7) [7] (.seq (.reg [⟨(some 2), none, .mov (.k (.int .i64 0)), []⟩,
  ⟨(some 3), none, .mov (.k (.bool false)), []⟩] [])
.ret) (.seq (.reg [⟨(some 11), none, .mov (.t 0), []⟩,
  ⟨(some 12), none, .bin .geq 0 (.t 11) (.k (.int .i64 55295)), []⟩,
  ⟨(some 13), none, .mov (.t 12), []⟩,
  ⟨(some 14), (some (13, true)), .mov (.t 0), []⟩,
  ⟨(some 15), (some (13, true)), .bin .lss 0 (.t 14) (.k (.int .i64 57344)), []⟩,
  ⟨(some 16), none, .pick (.t 13) (.t 15) (.k (.bool false)), []⟩,
  ⟨(some 10), none, .mov (.t 16), []⟩] [11, 12, 13, 14, 15, 16])
(.cond (.t 10) [10] (.seq (.reg [⟨(some 2), none, .mov (.k (.int .i64 57344)), []⟩,
  ⟨(some 3), none, .mov (.k (.bool true)), []⟩] [])
.ret) .skip)))))))
(.seq (.reg [⟨(some 17), none, .mov (.t 0), []⟩,
  ⟨(some 18), none, .bin .add 0 (.t 17) (.k (.int .i64 1)), []⟩,
  ⟨(some 2), none, .mov (.t 18), []⟩,
  ⟨(some 3), none, .mov (.k (.bool true)), []⟩] [17, 18])
.ret)))
/-- caesura/scalar.Next -/
def fn92 : AFn := ⟨1, 19, c92, [(.t 2), (.t 3)], 0⟩
theorem fn92_np : fn92.np = 1 := rfl
theorem fn92_body : fn92.body = c92 := rfl
theorem fn92_res : fn92.res = [(.t 2), (.t 3)] := rfl
theorem fn92_keep : fn92.keep = 0 := rfl
def c96 : ACode :=
(.seq (.reg [⟨(some 2), none, .new [(.int .i64 0), (.bool false)], []⟩] [])
(.seq (.block 0 (.seq (.reg [⟨(some 4), none, .mov (.t 0), []⟩,
  ⟨(some 5), none, .bin .geq 0 (.t 4) (.k (.int .i64 1114111)), []⟩,
  ⟨(some 3), none, .mov (.t 5), []⟩] [4, 5])
(.cond (.t 3) [3] (.seq (.reg [⟨(some 6), none, .agg [(.int .i64 0), (.bool false)] [], []⟩,
  ⟨none, none, .store false 2 (.t 2) (.t 6), []⟩] [6])
.ret) (.seq (.reg [⟨(some 8), none, .mov (.t 0), []⟩,
  ⟨(some 9), none, .bin .lss 0 (.t 8) (.k (.int .i64 0)), []⟩,
  ⟨(some 7), none, .mov (.t 9), []⟩] [8, 9])
(.cond (.t 7) [7] (.seq (.reg [⟨(some 10), none, .agg [(.int .i64 0), (.bool false)] [(0, 1, (.k (.int .i64 0))), (1, 1, (.k (.bool true)))], []⟩,
  ⟨none, none, .store false 2 (.t 2) (.t 10), []⟩] [10])
.ret) (.seq (.reg [⟨(some 12), none, .mov (.t 0), []⟩,
  ⟨(some 13), none, .bin .geq 0 (.t 12) (.k (.int .i64 55295)), []⟩,
  ⟨(some 14), none, .mov (.t 13), []⟩,
  ⟨(some 15), (some (14, true)), .mov (.t 0), []⟩,
  ⟨(some 16), (some (14, true)), .bin .lss 0 (.t 15) (.k (.int .i64 57344)), []⟩,
  ⟨(some 17), none, .pick (.t 14) (.t 16) (.k (.bool false)), []⟩,
  ⟨(some 11), none, .mov (.t 17), []⟩] [12, 13, 14, 15, 16, 17])
(.cond (.t 11) [11] (.seq (.reg [⟨(some 18), none, .agg [(.int .i64 0), (.bool false)] [(0, 1, (.k (.int .i64 57344))), (1, 1, (.k (.bool true)))], []⟩,
  ⟨none, none, .store false 2 (.t 2) (.t 18), []⟩] [18])
.ret) .skip)))))))
(.seq (.reg [⟨(some 19), none, .mov (.t 0), []⟩,
  ⟨(some 20), none, .bin .add 0 (.t 19) (.k (.int .i64 1)), []⟩,
  ⟨(some 21), none, .agg [(.int .i64 0), (.bool false)] [(0, 1, (.t 20)), (1, 1, (.k (.bool true)))], []⟩,
  ⟨none, none, .store false 2 (.t 2) (.t 21), []⟩] [19, 20, 21])
.ret)))
/-- caesura/caesuraref01.Next -/
def fn96 : AFn := ⟨1, 22, c96, [(.c 2 true 2)], 0⟩
theorem fn96_np : fn96.np = 1 := rfl
theorem fn96_body : fn96.body = c96 := rfl
theorem fn96_res : fn96.res = [(.c 2 true 2)] := rfl
theorem fn96_keep : fn96.keep = 0 := rfl
def c97 : ACode :=
(.seq (.reg [⟨(some 2), none, .mov (.k (.bool false)), []⟩] [])
(.seq (.reg [⟨(some 6), none, .mov (.t 0), []⟩,
  ⟨(some 7), none, .call 122 [(true, (.t 6))], []⟩,
  ⟨(some 5), none, .mov (.t 7), []⟩,
  ⟨(some 8), none, .ext (.t 5) 0, []⟩,
  ⟨(some 9), none, .ext (.t 5) 1, []⟩,
  ⟨(some 3), none, .mov (.t 8), []⟩,
  ⟨(some 4), none, .mov (.t 9), []⟩] [3, 5, 6, 7, 8, 9])
(.seq (.reg [⟨(some 10), none, .mov (.t 4), []⟩,
  ⟨(some 2), none, .mov (.t 10), []⟩] [10])
.ret)))
/-- caesura/scalar.Is -/
def fn97 : AFn := ⟨1, 11, c97, [(.t 2)], 0⟩
theorem fn97_np : fn97.np = 1 := rfl
theorem fn97_body : fn97.body = c97 := rfl
theorem fn97_res : fn97.res = [(.t 2)] := rfl
theorem fn97_keep : fn97.keep = 0 := rfl
def c98 : ACode :=
(.seq (.reg [⟨(some 4), none, .mov (.k (.bool false)), []⟩] [])
(.seq (.reg [⟨(some 5), none, .mov (.t 0), []⟩,
  ⟨(some 6), none, .mov (.t 1), []⟩,
  ⟨(some 7), none, .call 123 [(true, (.t 5)), (false, (.t 6))], []⟩,
  ⟨(some 8), none, .bin .geq 0 (.t 7) (.k (.int .i64 0)), []⟩,
  ⟨(some 4), none, .mov (.t 8), []⟩] [5, 6, 7, 8])
.ret))
/-- slices.ContainsFunc[caesura/api.Set,caesura/api.Range] -/
def fn98 : AFn := ⟨2, 9, c98, [(.t 4)], 0⟩
theorem fn98_np : fn98.np = 2 := rfl
theorem fn98_body : fn98.body = c98 := rfl
theorem fn98_res : fn98.res = [(.t 4)] := rfl
theorem fn98_keep : fn98.keep = 0 := rfl
def c99 : ACode :=
(.seq (.reg [⟨(some 2), none, .box (.t 0), []⟩,
  ⟨(some 3), none, .mov (.k (.bool false)), []⟩] [])
(.seq (.reg [⟨(some 4), none, .faddr 0 (.t 2), []⟩,
  ⟨(some 5), none, .load false 1 (.t 4), []⟩,
  ⟨(some 6), none, .load false 1 (.t 1), []⟩,
  ⟨(some 7), none, .bin .leq 0 (.t 5) (.t 6), []⟩,
  ⟨(some 8), none, .mov (.t 7), []⟩,
  ⟨(some 9), (some (8, true)), .load false 1 (.t 1), []⟩,
  ⟨(some 10), (some (8, true)), .faddr 1 (.t 2), []⟩,
  ⟨(some 11), (some (8, true)), .load false 1 (.t 10), []⟩,
  ⟨(some 12), (some (8, true)), .bin .leq 0 (.t 9) (.t 11), []⟩,
  ⟨(some 13), none, .pick (.t 8) (.t 12) (.k (.bool false)), []⟩,
  ⟨(some 3), none, .mov (.t 13), []⟩] [4, 5, 6, 7, 8, 9, 10, 11, 12, 13])
.ret))
/-- caesura/sets.Has$1 -/
def fn99 : AFn := ⟨2, 14, c99, [(.t 3)], 0⟩
theorem fn99_np : fn99.np = 2 := rfl
theorem fn99_body : fn99.body = c99 := rfl
theorem fn99_res : fn99.res = [(.t 3)] := rfl
theorem fn99_keep : fn99.keep = 0 := rfl
def c103 : ACode :=
(.seq (.reg [⟨(some 1), none, .box (.t 0), []⟩,
  ⟨(some 2), none, .mov (.k (.bool false)), []⟩] [])
(.seq (.reg [⟨(some 3), none, .faddr 3 (.t 1), []⟩,
  ⟨(some 4), none, .load false 1 (.t 3), []⟩,
  ⟨(some 5), none, .len 1 (.t 4), []⟩,
  ⟨(some 6), none, .bin .eql 0 (.t 5) (.k (.int .i64 0)), []⟩,
  ⟨(some 7), none, .mov (.t 6), []⟩,
  ⟨(some 8), (some (7, true)), .faddr 4 (.t 1), []⟩,
  ⟨(some 9), (some (7, true)), .load false 1 (.t 8), []⟩,
  ⟨(some 10), (some (7, true)), .bin .eql 0 (.t 9) (.k (.str ⟨#[]⟩)), []⟩,
  ⟨(some 11), none, .pick (.t 7) (.t 10) (.k (.bool false)), []⟩,
  ⟨(some 2), none, .mov (.t 11), []⟩] [3, 4, 5, 6, 7, 8, 9, 10, 11])
.ret))
/-- caesura/tree.bare -/
def fn103 : AFn := ⟨1, 12, c103, [(.t 2)], 0⟩
theorem fn103_np : fn103.np = 1 := rfl
theorem fn103_body : fn103.body = c103 := rfl
theorem fn103_res : fn103.res = [(.t 2)] := rfl
theorem fn103_keep : fn103.keep = 0 := rfl
def c104 : ACode :=
(.seq (.reg [⟨(some 1), none, .box (.t 0), []⟩,
  ⟨(some 2), none, .mov (.k (.bool false)), []⟩] [])
(.seq (.seq (.reg [⟨(some 3), none, .faddr 1 (.t 1), []⟩,
  ⟨(some 4), none, .load false 1 (.t 3), []⟩,
  ⟨(some 5), none, .bin .neq 0 (.t 4) (.k (.int .i64 0)), []⟩,
  ⟨(some 6), none, .mov (.t 5), []⟩,
  ⟨(some 7), (some (6, false)), .faddr 2 (.t 1), []⟩,
  ⟨(some 8), (some (6, false)), .load false 1 (.t 7), []⟩,
  ⟨(some 9), (some (6, false)), .bin .neq 0 (.t 8) (.k (.int .i64 0)), []⟩,
  ⟨(some 10), none, .pick (.t 6) (.k (.bool true)) (.t 9), []⟩] [3, 4, 5, 6, 7, 8, 9])
(.cond (.t 10) [10] (.seq (.reg [⟨(some 2), none, .mov (.k (.bool false)), []⟩] [])
.ret) .skip))
(.seq (.seq (.reg [⟨(some 11), none, .faddr 0 (.t 1), []⟩,
  ⟨(some 12), none, .load false 1 (.t 11), []⟩,
  ⟨(some 13), none, .bin .eql 0 (.t 12) (.k (.int .i64 2)), []⟩] [11, 12])
(.cond (.t 13) [13] (.seq (.reg [⟨(some 14), none, .faddr 3 (.t 1), []⟩,
  ⟨(some 15), none, .load false 1 (.t 14), []⟩,
  ⟨(some 16), none, .len 1 (.t 15), []⟩,
  ⟨(some 17), none, .bin .gtr 0 (.t 16) (.k (.int .i64 0)), []⟩,
  ⟨(some 18), none, .mov (.t 17), []⟩,
  ⟨(some 19), (some (18, true)), .faddr 3 (.t 1), []⟩,
  ⟨(some 20), (some (18, true)), .load false 1 (.t 19), []⟩,
  ⟨(some 21), (some (18, true)), .call 56 [(true, (.t 20))], []⟩,
  ⟨(some 22), none, .pick (.t 18) (.t 21) (.k (.bool false)), []⟩,
  ⟨(some 2), none, .mov (.t 22), []⟩] [14, 15, 16, 17, 18, 19, 20, 21, 22])
.ret) .skip))
(.seq (.reg [⟨(some 23), none, .faddr 0 (.t 1), []⟩,
  ⟨(some 24), none, .load false 1 (.t 23), []⟩,
  ⟨(some 25), none, .bin .eql 0 (.t 24) (.k (.int .i64 0)), []⟩,
  ⟨(some 26), none, .mov (.t 25), []⟩,
  ⟨(some 27), (some (26, false)), .faddr 0 (.t 1), []⟩,
  ⟨(some 28), (some (26, false)), .load false 1 (.t 27), []⟩,
  ⟨(some 29), (some (26, false)), .bin .eql 0 (.t 28) (.k (.int .i64 1)), []⟩,
  ⟨(some 30), none, .pick (.t 26) (.k (.bool true)) (.t 29), []⟩,
  ⟨(some 31), none, .mov (.t 30), []⟩,
  ⟨(some 32), (some (31, true)), .load true 5 (.t 1), []⟩,
  ⟨(some 33), (some (31, true)), .call 103 [(true, (.t 32))], []⟩,
  ⟨(some 34), none, .pick (.t 31) (.t 33) (.k (.bool false)), []⟩,
  ⟨(some 2), none, .mov (.t 34), []⟩] [23, 24, 25, 26, 27, 28, 29, 30, 31, 32, 33, 34])
.ret))))
/-- caesura/tree.leaf -/
def fn104 : AFn := ⟨1, 35, c104, [(.t 2)], 0⟩
theorem fn104_np : fn104.np = 1 := rfl
theorem fn104_body : fn104.body = c104 := rfl
theorem fn104_res : fn104.res = [(.t 2)] := rfl
theorem fn104_keep : fn104.keep = 0 := rfl
def c105 : ACode :=
(.seq (.reg [⟨(some 6), none, .box (.t 1), []⟩,
  ⟨(some 10), none, .mov (.k (.bool false)), []⟩] [])
(.seq (.seq (.reg [⟨(some 11), none, .faddr 0 (.t 6), []⟩,
  ⟨(some 12), none, .load false 1 (.t 11), []⟩] [11])
(.block 0 (.seq (.reg [⟨(some 14), none, .bin .eql 0 (.t 12) (.k (.int .i64 1)), []⟩,
  ⟨(some 13), none, .mov (.t 14), []⟩] [14])
(.cond (.t 13) [13] (.seq (.reg [⟨(some 15), none, .mov (.t 3), []⟩,
  ⟨(some 16), none, .mov (.t 4), []⟩,
  ⟨(some 17), none, .bin .eql 0 (.t 15) (.t 16), []⟩,
  ⟨(some 10), none, .mov (.t 17), []⟩] [15, 16, 17])
.ret) (.seq (.reg [⟨(some 19), none, .bin .eql 0 (.t 12) (.k (.int .i64 2)), []⟩,
  ⟨(some 18), none, .mov (.t 19), []⟩] [19])
(.cond (.t 18) [18] (.seq (.dreg [⟨(some 20), none, .mov (.t 4), []⟩,
  ⟨(some 21), none, .mov (.t 3), []⟩,
  ⟨(some 22), none, .bin .add 0 (.t 21) (.k (.int .i64 1)), [1]⟩,
  ⟨(some 23), none, .bin .eql 0 (.t 20) (.t 22), [0, 1, 2]⟩,
  ⟨(some 24), none, .mov (.t 23), [0, 1, 2, 3]⟩,
  ⟨(some 25), (some (24, true)), .faddr 3 (.t 6), [0, 1, 2, 3, 4]⟩,
  ⟨(some 26), (some (24, true)), .load false 1 (.t 25), [0, 1, 2, 3, 4, 5]⟩,
  ⟨(some 27), (some (24, true)), .mov (.t 0), [0, 1, 2, 3, 4]⟩,
  ⟨(some 28), (some (24, true)), .nilck (.t 27), [0, 1, 2, 3, 4, 7]⟩,
  ⟨(some 29), (some (24, true)), .faddr 1 (.t 28), [0, 1, 2, 3, 4, 7, 8]⟩,
  ⟨(some 30), (some (24, true)), .load false 1 (.t 29), [0, 1, 2, 3, 4, 7, 8, 9]⟩,
  ⟨(some 31), (some (24, true)), .mov (.t 3), [0, 1, 2, 3, 4]⟩,
  ⟨(some 32), (some (24, true)), .iaddr 1 (.t 30) (.t 31), [0, 1, 2, 3, 4, 7, 8, 9, 10, 11]⟩,
  ⟨(some 33), (some (24, true)), .load false 1 (.t 32), [0, 1, 2, 3, 4, 7, 8, 9, 10, 11, 12]⟩,
  ⟨(some 34), (some (24, true)), .call 58 [(true, (.t 26)), (true, (.t 33))], [0, 1, 2, 3, 4, 5, 6, 7, 8, 9, 10, 11, 12, 13]⟩,
  ⟨(some 35), none, .pick (.t 24) (.t 34) (.k (.bool false)), [0, 1, 2, 3, 4, 5, 6, 7, 8, 9, 10, 11, 12, 13, 14]⟩,
  ⟨(some 10), none, .mov (.t 35), [0, 1, 2, 3, 4, 5, 6, 7, 8, 9, 10, 11, 12, 13, 14, 15]⟩] [20, 21, 22, 23, 24, 25, 26, 27, 28, 29, 30, 31, 32, 33, 34, 35])
.ret) (.seq (.reg [⟨(some 37), none, .bin .eql 0 (.t 12) (.k (.int .i64 4)), []⟩,
  ⟨(some 36), none, .mov (.t 37), []⟩] [37])
(.cond (.t 36) [36] (.seq (.reg [⟨(some 38), none, .mov (.t 0), []⟩,
  ⟨(some 39), none, .faddr 1 (.t 6), []⟩,
  ⟨(some 40), none, .load false 1 (.t 39), []⟩,
  ⟨(some 41), none, .mov (.t 3), []⟩,
  ⟨(some 42), none, .mov (.t 4), []⟩,
  ⟨(some 43), none, .call 72 [(false, (.t 38)), (true, (.t 40)), (true, (.t 41)), (true, (.t 42))], []⟩,
  ⟨(some 44), none, .mov (.t 43), []⟩,
  ⟨(some 45), (some (44, false)), .mov (.t 0), []⟩,
  ⟨(some 46), (some (44, false)), .faddr 2 (.t 6), []⟩,
  ⟨(some 47), (some (44, false)), .load false 1 (.t 46), []⟩,
  ⟨(some 48), (some (44, false)), .mov (.t 3), []⟩,
  ⟨(some 49), (some (44, false)), .mov (.t 4), []⟩,
  ⟨(some 50), (some (44, false)), .call 72 [(false, (.t 45)), (true, (.t 47)), (true, (.t 48)), (true, (.t 49))], []⟩,
  ⟨(some 51), none, .pick (.t 44) (.k (.bool true)) (.t 50), []⟩,
  ⟨(some 10), none, .mov (.t 51), []⟩] [38, 39, 40, 41, 42, 43, 44, 45, 46, 47, 48, 49, 50, 51])
.ret) (.seq (.reg [⟨(some 53), none, .bin .eql 0 (.t 12) (.k (.int .i64 3)), []⟩,
  ⟨(some 52), none, .mov (.t 53), []⟩] [53])
(.cond (.t 52) [52] (.seq (.reg [⟨(some 54), none, .mov (.t 0), []⟩,
  ⟨(some 55), none, .faddr 1 (.t 6), []⟩,
  ⟨(some 56), none, .load false 1 (.t 55), []⟩,
  ⟨(some 57), none, .faddr 2 (.t 6), []⟩,
  ⟨(some 58), none, .load false 1 (.t 57), []⟩,
  ⟨(some 59), none, .mov (.t 3), []⟩,
  ⟨(some 60), none, .mov (.t 3), []⟩,
  ⟨(some 61), none, .mov (.t 4), []⟩,
  ⟨(some 62), none, .call 126 [(false, (.t 54)), (true, (.t 56)), (true, (.t 58)), (true, (.t 59)), (true, (.t 60)), (true, (.t 61))], []⟩,
  ⟨(some 10), none, .mov (.t 62), []⟩] [54, 55, 56, 57, 58, 59, 60, 61, 62])
.ret) (.seq (.reg [⟨(some 64), none, .bin .eql 0 (.t 12) (.k (.int .i64 5)), []⟩,
  ⟨(some 63), none, .mov (.t 64), []⟩] [64])
(.cond (.t 63) [63] (.seq (.reg [⟨(some 65), none, .mov (.t 3), []⟩,
  ⟨(some 66), none, .mov (.t 4), []⟩,
  ⟨(some 67), none, .bin .eql 0 (.t 65) (.t 66), []⟩,
  ⟨(some 68), none, .mov (.t 67), []⟩,
  ⟨(some 69), (some (68, false)), .mov (.t 0), []⟩,
  ⟨(some 70), (some (68, false)), .faddr 1 (.t 6), []⟩,
  ⟨(some 71), (some (68, false)), .load false 1 (.t 70), []⟩,
  ⟨(some 72), (some (68, false)), .mov (.t 2), []⟩,
  ⟨(some 73), (some (68, false)), .mov (.t 3), []⟩,
  ⟨(some 74), (some (68, false)), .bin .add 0 (.t 73) (.k (.int .i64 1)), []⟩,
  ⟨(some 75), (some (68, false)), .mov (.t 3), []⟩,
  ⟨(some 76), (some (68, false)), .mov (.t 4), []⟩,
  ⟨(some 77), (some (68, false)), .call 126 [(false, (.t 69)), (true, (.t 71)), (true, (.t 72)), (true, (.t 74)), (true, (.t 75)), (true, (.t 76))], []⟩,
  ⟨(some 78), none, .pick (.t 68) (.k (.bool true)) (.t 77), []⟩,
  ⟨(some 10), none, .mov (.t 78), []⟩] [65, 66, 67, 68, 69, 70, 71, 72, 73, 74, 75, 76, 77, 78])
.ret) .skip))))))))))))
(.seq (.reg [⟨(some 10), none, .mov (.k (.bool false)), []⟩] [])
.ret)))
/-- (*caesura/tree.taker).asks -/
def fn105 : AFn := ⟨5, 79, c105, [(.t 10)], 0⟩
theorem fn105_np : fn105.np = 5 := rfl
theorem fn105_body : fn105.body = c105 := rfl
theorem fn105_res : fn105.res = [(.t 10)] := rfl
theorem fn105_keep : fn105.keep = 0 := rfl
def c122 : ACode :=
(.seq (.reg [⟨(some 2), none, .mov (.k (.int .i32 0)), []⟩,
  ⟨(some 3), none, .mov (.k (.bool false)), []⟩] [])
(.seq (.seq (.reg [⟨(some 5), none, .mov (.t 0), []⟩,
  ⟨(some 6), none, .bin .lss 0 (.t 5) (.k (.int .i64 0)), []⟩,
  ⟨(some 7), none, .mov (.t 6), []⟩,
  ⟨(some 8), (some (7, false)), .mov (.t 0), []⟩,
  ⟨(some 9), (some (7, false)), .bin .gtr 0 (.t 8) (.k (.int .i64 1114111)), []⟩,
  ⟨(some 10), none, .pick (.t 7) (.k (.bool true)) (.t 9), []⟩] [5, 6, 7, 8, 9])
(.cond (.t 10) [10] (.seq (.reg [⟨(some 2), none, .mov (.k (.int .i32 0)), []⟩,
  ⟨(some 3), none, .mov (.k (.bool false)), []⟩] [])
.ret) .skip))
(.seq (.reg [⟨(some 11), none, .mov (.t 0), []⟩,
  ⟨(some 12), none, .conv .i32 (.t 11), []⟩,
  ⟨(some 4), none, .mov (.t 12), []⟩] [11, 12])
(.seq (.reg [⟨(some 13), none, .mov (.t 4), []⟩,
  ⟨(some 14), none, .mov (.t 4), []⟩,
  ⟨(some 15), none, .bin .leq 0 (.t 14) (.k (.int .i32 55295)), []⟩,
  ⟨(some 16), none, .mov (.t 15), []⟩,
  ⟨(some 17), (some (16, false)), .mov (.t 4), []⟩,
  ⟨(some 18), (some (16, false)), .bin .geq 0 (.t 17) (.k (.int .i32 57344)), []⟩,
  ⟨(some 19), none, .pick (.t 16) (.k (.bool true)) (.t 18), []⟩,
  ⟨(some 2), none, .mov (.t 13), []⟩,
  ⟨(some 3), none, .mov (.t 19), []⟩] [13, 14, 15, 16, 17, 18, 19])
.ret))))
/-- caesura/scalar.sign -/
def fn122 : AFn := ⟨1, 20, c122, [(.t 2), (.t 3)], 0⟩
theorem fn122_np : fn122.np = 1 := rfl
theorem fn122_body : fn122.body = c122 := rfl
theorem fn122_res : fn122.res = [(.t 2), (.t 3)] := rfl
theorem fn122_keep : fn122.keep = 0 := rfl
def c123 : ACode :=
(.seq (.reg [⟨(some 4), none, .mov (.k (.int .i64 0)), []⟩] [])
(.seq (.seq (.reg [⟨(some 6), none, .mov (.t 0), []⟩,
  ⟨(some 7), none, .len 1 (.t 6), []⟩,
  ⟨(some 8), none, .mov (.k (.int .i64 0)), []⟩] [6])
(.block 0 (.loop false (.seq (.reg [⟨(some 9), none, .bin .lss 0 (.t 8) (.t 7), []⟩] [])
(.seq (.cond (.t 9) [9] .skip (.exit 0))
(.seq (.block 1 (.seq (.reg [⟨(some 10), none, .mov (.t 8), []⟩,
  ⟨(some 5), none, .mov (.t 10), []⟩] [10])
(.seq (.reg [⟨(some 11), none, .mov (.t 1), []⟩,
  ⟨(some 12), none, .mov (.t 0), []⟩,
  ⟨(some 13), none, .mov (.t 5), []⟩,
  ⟨(some 14), none, .iaddr 2 (.t 12) (.t 13), []⟩,
  ⟨(some 15), none, .load true 2 (.t 14), []⟩,
  ⟨(some 16), none, .callv (.t 11) [(true, (.t 15))], []⟩] [11, 12, 13, 14, 15])
(.cond (.t 16) [16] (.seq (.reg [⟨(some 17), none, .mov (.t 5), []⟩,
  ⟨(some 4), none, .mov (.t 17), []⟩] [17])
.ret) .skip))))
(.reg [⟨(some 18), none, .bin .add 0 (.t 8) (.k (.int .i64 1)), []⟩,
  ⟨(some 8), none, .mov (.t 18), []⟩] [18])))))))
(.seq (.reg [⟨(some 4), none, .mov (.k (.int .i64 (-1))), []⟩] [])
.ret)))
/-- slices.IndexFunc[caesura/api.Set,caesura/api.Range] -/
def fn123 : AFn := ⟨2, 19, c123, [(.t 4)], 0⟩
theorem fn123_np : fn123.np = 2 := rfl
theorem fn123_body : fn123.body = c123 := rfl
theorem fn123_res : fn123.res = [(.t 4)] := rfl
theorem fn123_keep : fn123.keep = 0 := rfl
def c126 : ACode :=
(.seq (.reg [⟨(some 12), none, .mov (.k (.bool false)), []⟩] [])
(.seq (.seq (.reg [⟨(some 14), none, .mov (.t 3), []⟩,
  ⟨(some 13), none, .mov (.t 14), []⟩] [14])
(.block 0 (.loop false (.seq (.seq (.reg [⟨(some 15), none, .mov (.t 13), []⟩,
  ⟨(some 16), none, .mov (.t 5), []⟩,
  ⟨(some 17), none, .bin .leq 0 (.t 15) (.t 16), []⟩] [15, 16])
(.cond (.t 17) [17] .skip (.exit 0)))
(.seq (.block 1 (.seq (.reg [⟨(some 20), none, .mov (.t 0), []⟩,
  ⟨(some 21), none, .mov (.t 1), []⟩,
  ⟨(some 22), none, .mov (.t 4), []⟩,
  ⟨(some 23), none, .mov (.t 13), []⟩,
  ⟨(some 24), none, .call 72 [(false, (.t 20)), (true, (.t 21)), (true, (.t 22)), (true, (.t 23))], []⟩,
  ⟨(some 25), none, .mov (.t 24), []⟩,
  ⟨(some 26), (some (25, true)), .mov (.t 0), []⟩,
  ⟨(some 27), (some (25, true)), .mov (.t 2), []⟩,
  ⟨(some 28), (some (25, true)), .mov (.t 13), []⟩,
  ⟨(some 29), (some (25, true)), .mov (.t 5), []⟩,
  ⟨(some 30), (some (25, true)), .call 72 [(false, (.t 26)), (true, (.t 27)), (true, (.t 28)), (true, (.t 29))], []⟩,
  ⟨(some 31), none, .pick (.t 25) (.t 30) (.k (.bool false)), []⟩] [20, 21, 22, 23, 24, 25, 26, 27, 28, 29, 30])
(.cond (.t 31) [31] (.seq (.reg [⟨(some 12), none, .mov (.k (.bool true)), []⟩] [])
.ret) .skip)))
(.reg [⟨(some 18), none, .mov (.t 13), []⟩,
  ⟨(some 19), none, .bin .add 0 (.t 18) (.k (.int .i64 1)), []⟩,
  ⟨(some 13), none, .mov (.t 19), []⟩] [18, 19]))))))
(.seq (.reg [⟨(some 12), none, .mov (.k (.bool false)), []⟩] [])
.ret)))
/-- (*caesura/tree.taker).splits -/
def fn126 : AFn := ⟨6, 32, c126, [(.t 12)], 0⟩
theorem fn126_np : fn126.np = 6 := rfl
theorem fn126_body : fn126.body = c126 := rfl
theorem fn126_res : fn126.res = [(.t 12)] := rfl
theorem fn126_keep : fn126.keep = 0 := rfl
end Go.Proofs.Abs
