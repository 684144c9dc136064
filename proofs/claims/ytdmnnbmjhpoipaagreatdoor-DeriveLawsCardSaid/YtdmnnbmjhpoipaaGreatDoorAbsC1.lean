/- The program's functions as codes of the abstract interpreter, and that each is the program's own. Printed by wip/abs/absgen.py and codetext.py. -/
import Derived.Test.YtdmnnbmjhpoipaaGreatDoorAbsGd
import Derived.Test.YtdmnnbmjhpoipaaGreatDoorProg
import Derived.KernelRfl
set_option maxRecDepth 100000
set_option linter.all false
set_option linter.unusedVariables false
set_option linter.unusedSimpArgs false
set_option linter.constructorNameAsVariable false
set_option linter.defProp false
namespace Go.Proofs.Abs
open ACode AIns AX
def c1135 : ACode :=
(.seq (.reg [xo 6 (.mov kf)] [])
(.seq (.seq (.reg [xm 14 0,xo 15 (.call 7 [(true, (.t 14))]),xo 16 (.un .not (.t 15)),xm 17 16,xf 18 17 (.mov (.t 2)),xf 19 17 (.len 1 (.t 18)),xf 20 17 (.bin .gtr 0 (.t 19) (ki 3)),xo 21 (.pick (.t 17) kt (.t 20))] (rng 14 7))
(.cond (.t 21) [21] (.seq (.reg [xo 22 (.call 8 []),xm 6 22] [22])
.ret) .skip))
(.seq (.reg [xm 23 0,xo 24 (.call 9 [(true, (.t 23))]),xm 7 24] [23,24])
(.seq (.reg [xm 26 7,xm 27 1,xo 28 (.call 10 [(true, (.t 26)),(true, (.t 27))]),xm 25 28,xo 29 (.ext (.t 25) 0),xo 30 (.ext (.t 25) 1),xm 8 29,xm 9 30] (rng 25 6))
(.seq (.reg [xm 31 0,xm 32 1,xo 33 (.call 11 [(true, (.t 31)),(true, (.t 32))]),xm 10 33] [31,32,33])
(.seq (.reg [xm 35 7,xo 36 (.mkl 3 1 [(.int .i64 0)] 0 [] false),xm 37 2,xo 38 (.app 3 1 8 (.t 36) (.t 37)),xo 39 (.call 12 [(true, (.t 35)),(true, (.t 38))]),xm 34 39,xo 40 (.ext (.t 34) 0),xo 41 (.ext (.t 34) 1),xm 11 40,xm 12 41] (rng 34 8))
(.seq (.reg [xm 42 0,xm 43 2,xo 44 (.call 13 [(true, (.t 42)),(true, (.t 43))]),xm 13 44] [42,43,44])
(.seq (.reg [xm 45 8,xm 46 10,xo 47 (.call 14 [(true, (.t 45)),(true, (.t 46))]),xm 48 47,xt 49 48 (.mov (.t 9)),xt 50 48 (.mov (.t 10)),xt 51 48 (.len 1 (.t 50)),xt 52 48 (.bin .gtr 0 (.t 51) (ki 0)),xt 53 48 (.bin .eql 1 (.t 49) (.t 52)),xo 54 (.pick (.t 48) (.t 53) kf),xm 55 54,xt 56 55 (.mov (.t 11)),xt 57 55 (.mov (.t 13)),xt 58 55 (.call 14 [(true, (.t 56)),(true, (.t 57))]),xo 59 (.pick (.t 55) (.t 58) kf),xm 60 59,xt 61 60 (.mov (.t 12)),xt 62 60 (.mov (.t 13)),xt 63 60 (.len 1 (.t 62)),xt 64 60 (.bin .gtr 0 (.t 63) (ki 0)),xt 65 60 (.bin .eql 1 (.t 61) (.t 64)),xo 66 (.pick (.t 60) (.t 65) kf),xm 67 66,xt 68 67 (.mov (.t 7)),xt 69 67 (.call 15 [(true, (.t 68))]),xt 70 67 (.mov (.t 0)),xt 71 67 (.call 16 [(true, (.t 70))]),xt 72 67 (.bin .eql 1 (.t 69) (.t 71)),xo 73 (.pick (.t 67) (.t 72) kf),xm 74 73,xt 75 74 (.mov (.t 7)),xt 76 74 (.mov (.t 0)),xt 77 74 (.call 14 [(true, (.t 75)),(true, (.t 76))]),xo 78 (.pick (.t 74) (.t 77) kf),xm 79 78,xt 80 79 (.call 8 []),xo 81 (.pick (.t 79) (.t 80) kf),xm 6 81] (rng 45 37))
.ret))))))))
/-- caesura/caesuralaw18.DeriveTells -/
def fn1135 : AFn := ⟨3, 82, c1135, [(.t 6)], 0⟩
theorem fn1135_body : fn1135.body = c1135 := rfl
theorem fn1135_res : fn1135.res = [(.t 6)] := rfl
theorem fn1135_keep : fn1135.keep = 0 := rfl
def c1136 : ACode :=
(.seq (.reg [xo 6 (.mov kf)] [])
(.seq (.seq (.reg [xm 13 0,xo 14 (.call 7 [(true, (.t 13))]),xo 15 (.un .not (.t 14)),xm 16 15,xf 17 16 (.mov (.t 0)),xf 18 16 (.call 17 [(true, (.t 17))]),xf 19 16 (.un .not (.t 18)),xo 20 (.pick (.t 16) kt (.t 19)),xm 21 20,xf 22 21 (.mov (.t 1)),xf 23 21 (.call 18 [(true, (.t 22))]),xf 24 21 (.un .not (.t 23)),xo 25 (.pick (.t 21) kt (.t 24)),xm 26 25,xf 27 26 (.mov (.t 2)),xf 28 26 (.call 18 [(true, (.t 27))]),xf 29 26 (.un .not (.t 28)),xo 30 (.pick (.t 26) kt (.t 29))] (rng 13 17))
(.cond (.t 30) [30] (.seq (.reg [xo 31 (.call 8 []),xm 6 31] [31])
.ret) .skip))
(.seq (.seq (.reg [xo 7 (.mov (ki 0))] [])
(.block 0 (.loop false (.seq (.seq (.reg [xm 32 7,xm 33 0,xo 34 (.len 1 (.t 33)),xo 35 (.bin .lss 0 (.t 32) (.t 34))] [32,33,34])
(.cond (.t 35) [35] .skip (.exit 0)))
(.seq (.block 1 (.seq (.dreg [xm 38 0,xm 39 7,yo 40 (.iaddr 5 (.t 38) (.t 39)) [0, 1],yo 41 (.faddr 0 (.t 40)) [0, 1, 2],yo 42 (.load false 1 (.t 41)) [0, 1, 2, 3],yo 43 (.bin .eql 0 (.t 42) (ki 2)) [0, 1, 2, 3, 4],ym 44 43 [0, 1, 2, 3, 4, 5],yt 45 44 (.mov (.t 0)) [0, 1, 2, 3, 4, 5, 6],yt 46 44 (.mov (.t 7)) [0, 1, 2, 3, 4, 5, 6],yt 47 44 (.iaddr 5 (.t 45) (.t 46)) [0, 1, 2, 3, 4, 5, 6, 7, 8],yt 48 44 (.faddr 3 (.t 47)) [0, 1, 2, 3, 4, 5, 6, 7, 8, 9],yt 49 44 (.load false 1 (.t 48)) [0, 1, 2, 3, 4, 5, 6, 7, 8, 9, 10],yt 50 44 (.mov (.t 1)) [0, 1, 2, 3, 4, 5, 6],yt 51 44 (.call 19 [(true, (.t 49)),(true, (.t 50))]) [0, 1, 2, 3, 4, 5, 6, 7, 8, 9, 10, 11, 12],yt 52 44 (.mov (.t 0)) [0, 1, 2, 3, 4, 5, 6],yt 53 44 (.mov (.t 7)) [0, 1, 2, 3, 4, 5, 6],yt 54 44 (.iaddr 5 (.t 52) (.t 53)) [0, 1, 2, 3, 4, 5, 6, 14, 15],yt 55 44 (.faddr 3 (.t 54)) [0, 1, 2, 3, 4, 5, 6, 14, 15, 16],yt 56 44 (.load false 1 (.t 55)) [0, 1, 2, 3, 4, 5, 6, 14, 15, 16, 17],yt 57 44 (.mov (.t 2)) [0, 1, 2, 3, 4, 5, 6],yt 58 44 (.call 19 [(true, (.t 56)),(true, (.t 57))]) [0, 1, 2, 3, 4, 5, 6, 7, 8, 9, 10, 11, 12, 13, 14, 15, 16, 17, 18, 19],yt 59 44 (.bin .neq 1 (.t 51) (.t 58)) [0, 1, 2, 3, 4, 5, 6, 7, 8, 9, 10, 11, 12, 13, 14, 15, 16, 17, 18, 19, 20],yo 60 (.pick (.t 44) (.t 59) kf) (rng 0 22)] (rng 38 22))
(.cond (.t 60) [60] (.seq (.reg [xo 61 (.call 8 []),xm 6 61] [61])
.ret) .skip)))
(.reg [xm 36 7,xo 37 (.bin .add 0 (.t 36) (ki 1)),xm 7 37] [36,37]))))))
(.seq (.reg [xm 63 0,xm 64 1,xo 65 (.call 10 [(true, (.t 63)),(true, (.t 64))]),xm 62 65,xo 66 (.ext (.t 62) 0),xo 67 (.ext (.t 62) 1),xm 8 66,xm 9 67] (rng 62 6))
(.seq (.reg [xm 69 0,xm 70 2,xo 71 (.call 10 [(true, (.t 69)),(true, (.t 70))]),xm 68 71,xo 72 (.ext (.t 68) 0),xo 73 (.ext (.t 68) 1),xm 10 72,xm 11 73] (rng 68 6))
(.seq (.seq (.reg [xm 74 9,xm 75 11,xo 76 (.bin .neq 1 (.t 74) (.t 75)),xm 77 76,xf 78 77 (.mov (.t 8)),xf 79 77 (.mov (.t 10)),xf 80 77 (.call 14 [(true, (.t 78)),(true, (.t 79))]),xf 81 77 (.un .not (.t 80)),xo 82 (.pick (.t 77) kt (.t 81))] (rng 74 8))
(.cond (.t 82) [82] (.seq (.reg [xo 6 (.mov kf)] [])
.ret) .skip))
(.seq (.seq (.reg [xm 83 0,xo 84 (.len 1 (.t 83)),xo 85 (.bin .eql 0 (.t 84) (ki 1))] [83,84])
(.cond (.t 85) [85] (.seq (.reg [xo 12 (.mov (ki 0))] [])
(.seq (.seq (.reg [xm 86 0,xo 87 (.iaddr 5 (.t 86) (ki 0)),xo 88 (.faddr 0 (.t 87)),xo 89 (.load false 1 (.t 88)),xo 90 (.bin .eql 0 (.t 89) (ki 2)),xm 91 90,xt 92 91 (.mov (.t 0)),xt 93 91 (.iaddr 5 (.t 92) (ki 0)),xt 94 91 (.faddr 3 (.t 93)),xt 95 91 (.load false 1 (.t 94)),xt 96 91 (.mov (.t 1)),xt 97 91 (.call 19 [(true, (.t 95)),(true, (.t 96))]),xo 98 (.pick (.t 91) (.t 97) kf)] (rng 86 12))
(.cond (.t 98) [98] (.reg [xo 12 (.mov (ki 1))] []) .skip))
(.seq (.reg [xm 99 9,xm 100 99,xt 101 100 (.mov (.t 8)),xt 102 100 (.len 1 (.t 101)),xt 103 100 (.bin .eql 0 (.t 102) (ki 1)),xo 104 (.pick (.t 100) (.t 103) kf),xm 105 104,xt 106 105 (.mov (.t 8)),xt 107 105 (.iaddr 5 (.t 106) (ki 0)),xt 108 105 (.faddr 0 (.t 107)),xt 109 105 (.load false 1 (.t 108)),xt 110 105 (.mov (.t 12)),xt 111 105 (.bin .eql 0 (.t 109) (.t 110)),xo 112 (.pick (.t 105) (.t 111) kf),xm 113 112,xt 114 113 (.call 8 []),xo 115 (.pick (.t 113) (.t 114) kf),xm 6 115] (rng 99 17))
.ret))) .skip))
(.seq (.reg [xo 116 (.call 8 []),xm 6 116] [116])
.ret))))))))
/-- caesura/caesuralaw18.DeriveOnes -/
def fn1136 : AFn := ⟨3, 117, c1136, [(.t 6)], 0⟩
theorem fn1136_body : fn1136.body = c1136 := rfl
theorem fn1136_res : fn1136.res = [(.t 6)] := rfl
theorem fn1136_keep : fn1136.keep = 0 := rfl
def c1137 : ACode :=
(.seq (.reg [xo 4 (.mov kf)] [])
(.seq (.seq (.reg [xm 11 0,xo 12 (.call 7 [(true, (.t 11))]),xo 13 (.un .not (.t 12)),xm 14 13,xf 15 14 (.mov (.t 0)),xf 16 14 (.call 17 [(true, (.t 15))]),xf 17 14 (.un .not (.t 16)),xo 18 (.pick (.t 14) kt (.t 17)),xm 19 18,xf 20 19 (.mov (.t 1)),xf 21 19 (.len 1 (.t 20)),xf 22 19 (.bin .gtr 0 (.t 21) (ki 4)),xo 23 (.pick (.t 19) kt (.t 22))] (rng 11 12))
(.cond (.t 23) [23] (.seq (.reg [xo 24 (.call 8 []),xm 4 24] [24])
.ret) .skip))
(.seq (.seq (.reg [xm 25 0,xo 26 (.call 15 [(true, (.t 25))]),xm 27 0,xo 28 (.call 20 [(true, (.t 27)),(true, (.k (.list 1 [])))]),xo 29 (.bin .neq 1 (.t 26) (.t 28))] (rng 25 4))
(.cond (.t 29) [29] (.seq (.reg [xo 4 (.mov kf)] [])
.ret) .skip))
(.seq (.reg [xm 31 0,xm 32 1,xo 33 (.call 12 [(true, (.t 31)),(true, (.t 32))]),xm 30 33,xo 34 (.ext (.t 30) 0),xo 35 (.ext (.t 30) 1),xm 5 34,xm 6 35] (rng 30 6))
(.seq (.reg [xo 7 (.mov kt)] [])
(.seq (.seq (.reg [xo 8 (.mov (ki 0))] [])
(.block 0 (.loop false (.seq (.seq (.reg [xm 36 8,xm 37 1,xo 38 (.len 1 (.t 37)),xo 39 (.bin .lss 0 (.t 36) (.t 38))] [36,37,38])
(.cond (.t 39) [39] .skip (.exit 0)))
(.seq (.block 1 (.reg [xm 42 7,xm 43 42,xt 44 43 (.mov (.t 1)),xt 45 43 (.mov (.t 8)),xt 46 43 (.iaddr 1 (.t 44) (.t 45)),xt 47 43 (.load false 1 (.t 46)),xt 48 43 (.call 18 [(true, (.t 47))]),xo 49 (.pick (.t 43) (.t 48) kf),xm 7 49] (rng 42 8)))
(.reg [xm 40 8,xo 41 (.bin .add 0 (.t 40) (ki 1)),xm 8 41] [40,41]))))))
(.seq (.seq (.reg [xm 50 6,xo 51 (.un .not (.t 50))] [50])
(.cond (.t 51) [51] (.seq (.reg [xm 52 5,xo 53 (.len 1 (.t 52)),xo 54 (.bin .eql 0 (.t 53) (ki 0)),xm 55 54,xt 56 55 (.mov (.t 7)),xt 57 55 (.un .not (.t 56)),xt 58 55 (.mov (.t 57)),xf 59 58 (.mov (.t 0)),xf 60 58 (.mov (.t 1)),xf 61 58 (.call 13 [(true, (.t 59)),(true, (.t 60))]),xf 62 58 (.len 1 (.t 61)),xf 63 58 (.bin .eql 0 (.t 62) (ki 0)),xt 64 55 (.pick (.t 58) kt (.t 63)),xo 65 (.pick (.t 55) (.t 64) kf),xm 66 65,xt 67 66 (.call 8 []),xo 68 (.pick (.t 66) (.t 67) kf),xm 4 68] (rng 52 17))
.ret) .skip))
(.seq (.seq (.reg [xm 69 7,xo 70 (.un .not (.t 69)),xm 71 70,xf 72 71 (.mov (.t 5)),xf 73 71 (.call 15 [(true, (.t 72))]),xf 74 71 (.mov (.t 0)),xf 75 71 (.mov (.t 1)),xf 76 71 (.call 20 [(true, (.t 74)),(true, (.t 75))]),xf 77 71 (.bin .neq 1 (.t 73) (.t 76)),xo 78 (.pick (.t 71) kt (.t 77)),xm 79 78,xf 80 79 (.mov (.t 5)),xf 81 79 (.call 17 [(true, (.t 80))]),xf 82 79 (.un .not (.t 81)),xo 83 (.pick (.t 79) kt (.t 82))] (rng 69 14))
(.cond (.t 83) [83] (.seq (.reg [xo 4 (.mov kf)] [])
.ret) .skip))
(.seq (.seq (.reg [xm 84 1,xo 85 (.len 1 (.t 84)),xo 86 (.bin .eql 0 (.t 85) (ki 0))] [84,85])
(.cond (.t 86) [86] (.seq (.reg [xo 87 (.call 8 []),xm 4 87] [87])
.ret) .skip))
(.seq (.reg [xm 89 0,xm 90 1,xo 91 (.iaddr 1 (.t 90) (ki 0)),xo 92 (.load false 1 (.t 91)),xo 93 (.call 10 [(true, (.t 89)),(true, (.t 92))]),xm 88 93,xo 94 (.ext (.t 88) 0),xo 95 (.ext (.t 88) 1),xm 9 94,xm 10 95] (rng 88 8))
(.seq (.reg [xm 96 10,xm 97 96,xt 98 97 (.mov (.t 9)),xt 99 97 (.mov (.t 1)),xt 100 97 (.slc 1 (.t 99) (some (ki 1)) none none),xt 101 97 (.call 20 [(true, (.t 98)),(true, (.t 100))]),xt 102 97 (.mov (.t 0)),xt 103 97 (.mov (.t 1)),xt 104 97 (.call 20 [(true, (.t 102)),(true, (.t 103))]),xt 105 97 (.bin .eql 1 (.t 101) (.t 104)),xo 106 (.pick (.t 97) (.t 105) kf),xm 107 106,xt 108 107 (.call 8 []),xo 109 (.pick (.t 107) (.t 108) kf),xm 4 109] (rng 96 14))
.ret)))))))))))
/-- caesura/caesuralaw18.DeriveTakes -/
def fn1137 : AFn := ⟨2, 110, c1137, [(.t 4)], 0⟩
theorem fn1137_body : fn1137.body = c1137 := rfl
theorem fn1137_res : fn1137.res = [(.t 4)] := rfl
theorem fn1137_keep : fn1137.keep = 0 := rfl
def c1138 : ACode :=
(.seq (.reg [xo 6 (.mov kf)] [])
(.seq (.seq (.reg [xm 22 0,xo 23 (.call 7 [(true, (.t 22))]),xo 24 (.un .not (.t 23)),xm 25 24,xf 26 25 (.mov (.t 1)),xf 27 25 (.call 7 [(true, (.t 26))]),xf 28 25 (.un .not (.t 27)),xo 29 (.pick (.t 25) kt (.t 28)),xm 30 29,xf 31 30 (.mov (.t 0)),xf 32 30 (.len 1 (.t 31)),xf 33 30 (.mov (.t 1)),xf 34 30 (.len 1 (.t 33)),xf 35 30 (.bin .add 0 (.t 32) (.t 34)),xf 36 30 (.bin .gtr 0 (.t 35) (ki 40)),xo 37 (.pick (.t 30) kt (.t 36)),xm 38 37,xf 39 38 (.mov (.t 0)),xf 40 38 (.call 17 [(true, (.t 39))]),xf 41 38 (.un .not (.t 40)),xo 42 (.pick (.t 38) kt (.t 41)),xm 43 42,xf 44 43 (.mov (.t 1)),xf 45 43 (.call 17 [(true, (.t 44))]),xf 46 43 (.un .not (.t 45)),xo 47 (.pick (.t 43) kt (.t 46)),xm 48 47,xf 49 48 (.mov (.t 2)),xf 50 48 (.len 1 (.t 49)),xf 51 48 (.bin .lss 0 (.t 50) (ki 1)),xo 52 (.pick (.t 48) kt (.t 51)),xm 53 52,xf 54 53 (.mov (.t 2)),xf 55 53 (.len 1 (.t 54)),xf 56 53 (.bin .gtr 0 (.t 55) (ki 5)),xo 57 (.pick (.t 53) kt (.t 56)),xm 58 57,xf 59 58 (.mov (.t 2)),xf 60 58 (.iaddr 1 (.t 59) (ki 0)),xf 61 58 (.load false 1 (.t 60)),xf 62 58 (.call 18 [(true, (.t 61))]),xf 63 58 (.un .not (.t 62)),xo 64 (.pick (.t 58) kt (.t 63))] (rng 22 42))
(.cond (.t 64) [64] (.seq (.reg [xo 65 (.call 8 []),xm 6 65] [65])
.ret) .skip))
(.seq (.dreg [xm 66 2,yo 67 (.iaddr 1 (.t 66) (ki 0)) [0],yo 68 (.load false 1 (.t 67)) [0, 1],xm 69 2,yo 70 (.slc 1 (.t 69) (some (ki 1)) none none) [3],ym 7 68 [0, 1, 2],ym 8 70 (rng 0 6)] (rng 66 5))
(.seq (.reg [xm 72 0,xm 73 7,xo 74 (.call 10 [(true, (.t 72)),(true, (.t 73))]),xm 71 74,xo 75 (.ext (.t 71) 0),xo 76 (.ext (.t 71) 1),xm 9 75,xm 10 76] (rng 71 6))
(.seq (.reg [xm 78 1,xm 79 7,xo 80 (.call 10 [(true, (.t 78)),(true, (.t 79))]),xm 77 80,xo 81 (.ext (.t 77) 0),xo 82 (.ext (.t 77) 1),xm 11 81,xm 12 82] (rng 77 6))
(.seq (.reg [xm 84 0,xm 85 1,xo 86 (.call 21 [(true, (ki 3)),(true, (.t 84)),(true, (.t 85))]),xm 87 7,xo 88 (.call 10 [(true, (.t 86)),(true, (.t 87))]),xm 83 88,xo 89 (.ext (.t 83) 0),xo 90 (.ext (.t 83) 1),xm 13 89,xm 14 90] (rng 83 8))
(.seq (.reg [xm 92 0,xm 93 1,xo 94 (.call 21 [(true, (ki 4)),(true, (.t 92)),(true, (.t 93))]),xm 95 7,xo 96 (.call 10 [(true, (.t 94)),(true, (.t 95))]),xm 91 96,xo 97 (.ext (.t 91) 0),xo 98 (.ext (.t 91) 1),xm 15 97,xm 16 98] (rng 91 8))
(.seq (.reg [xm 100 0,xo 101 (.call 22 [(true, (.t 100))]),xm 102 7,xo 103 (.call 10 [(true, (.t 101)),(true, (.t 102))]),xm 99 103,xo 104 (.ext (.t 99) 0),xo 105 (.ext (.t 99) 1),xm 17 104,xm 18 105] (rng 99 7))
(.seq (.seq (.reg [xm 106 10,xo 107 (.un .not (.t 106)),xm 108 107,xf 109 108 (.mov (.t 12)),xf 110 108 (.un .not (.t 109)),xo 111 (.pick (.t 108) kt (.t 110)),xm 112 111,xf 113 112 (.mov (.t 14)),xf 114 112 (.un .not (.t 113)),xo 115 (.pick (.t 112) kt (.t 114)),xm 116 115,xf 117 116 (.mov (.t 16)),xf 118 116 (.un .not (.t 117)),xo 119 (.pick (.t 116) kt (.t 118)),xm 120 119,xf 121 120 (.mov (.t 18)),xf 122 120 (.un .not (.t 121)),xo 123 (.pick (.t 120) kt (.t 122))] (rng 106 17))
(.cond (.t 123) [123] (.seq (.reg [xo 6 (.mov kf)] [])
.ret) .skip))
(.seq (.reg [xm 124 0,xo 125 (.call 15 [(true, (.t 124))]),xm 126 125,xt 127 126 (.mov (.t 11)),xt 128 126 (.mov (.t 8)),xt 129 126 (.call 20 [(true, (.t 127)),(true, (.t 128))]),xo 130 (.pick (.t 126) (.t 129) kf),xm 19 130] (rng 124 7))
(.seq (.reg [xo 20 (.mov kf)] [])
(.seq (.seq (.reg [xo 21 (.mov (ki 0))] [])
(.block 0 (.loop false (.seq (.seq (.reg [xm 131 21,xm 132 8,xo 133 (.len 1 (.t 132)),xo 134 (.bin .leq 0 (.t 131) (.t 133))] [131,132,133])
(.cond (.t 134) [134] .skip (.exit 0)))
(.seq (.block 1 (.seq (.reg [xm 137 19,xm 138 137,xf 139 138 (.mov (.t 9)),xf 140 138 (.mov (.t 8)),xf 141 138 (.mov (.t 21)),xf 142 138 (.slc 1 (.t 140) none (some (.t 141)) none),xf 143 138 (.call 20 [(true, (.t 139)),(true, (.t 142))]),xf 144 138 (.mov (.t 143)),xt 145 144 (.mov (.t 1)),xt 146 144 (.mov (.t 8)),xt 147 144 (.mov (.t 21)),xt 148 144 (.slc 1 (.t 146) (some (.t 147)) none none),xt 149 144 (.call 20 [(true, (.t 145)),(true, (.t 148))]),xf 150 138 (.pick (.t 144) (.t 149) kf),xo 151 (.pick (.t 138) kt (.t 150)),xm 19 151] (rng 137 15))
(.dreg [xm 152 20,ym 153 152 [0],yf 154 153 (.mov (.t 9)) [0, 1],yf 155 153 (.mov (.t 8)) [0, 1],yf 156 153 (.mov (.t 21)) [0, 1],yf 157 153 (.slc 1 (.t 155) none (some (.t 156)) none) [0, 1, 3, 4],yf 158 153 (.call 20 [(true, (.t 154)),(true, (.t 157))]) [0, 1, 2, 3, 4, 5],yf 159 153 (.mov (.t 158)) [0, 1, 2, 3, 4, 5, 6],yt 160 159 (.mov (.t 0)) [0, 1, 2, 3, 4, 5, 6, 7],yt 161 159 (.call 22 [(true, (.t 160))]) [0, 1, 2, 3, 4, 5, 6, 7, 8],yt 162 159 (.mov (.t 8)) [0, 1, 2, 3, 4, 5, 6, 7],yt 163 159 (.mov (.t 21)) [0, 1, 2, 3, 4, 5, 6, 7],yt 164 159 (.slc 1 (.t 162) (some (.t 163)) none none) [0, 1, 2, 3, 4, 5, 6, 7, 10, 11],yt 165 159 (.call 20 [(true, (.t 161)),(true, (.t 164))]) [0, 1, 2, 3, 4, 5, 6, 7, 8, 9, 10, 11, 12],yf 166 153 (.pick (.t 159) (.t 165) kf) [0, 1, 2, 3, 4, 5, 6, 7, 8, 9, 10, 11, 12, 13],yo 167 (.pick (.t 153) kt (.t 166)) [0, 1, 2, 3, 4, 5, 6, 7, 8, 9, 10, 11, 12, 13, 14],ym 20 167 (rng 0 16)] (rng 152 16))))
(.reg [xm 135 21,xo 136 (.bin .add 0 (.t 135) (ki 1)),xm 21 136] [135,136]))))))
(.seq (.reg [xm 168 13,xm 169 8,xo 170 (.call 20 [(true, (.t 168)),(true, (.t 169))]),xm 171 19,xo 172 (.bin .eql 1 (.t 170) (.t 171)),xm 173 172,xt 174 173 (.mov (.t 15)),xt 175 173 (.mov (.t 8)),xt 176 173 (.call 20 [(true, (.t 174)),(true, (.t 175))]),xt 177 173 (.mov (.t 9)),xt 178 173 (.mov (.t 8)),xt 179 173 (.call 20 [(true, (.t 177)),(true, (.t 178))]),xt 180 173 (.mov (.t 179)),xf 181 180 (.mov (.t 11)),xf 182 180 (.mov (.t 8)),xf 183 180 (.call 20 [(true, (.t 181)),(true, (.t 182))]),xt 184 173 (.pick (.t 180) kt (.t 183)),xt 185 173 (.bin .eql 1 (.t 176) (.t 184)),xo 186 (.pick (.t 173) (.t 185) kf),xm 187 186,xt 188 187 (.mov (.t 17)),xt 189 187 (.mov (.t 8)),xt 190 187 (.call 20 [(true, (.t 188)),(true, (.t 189))]),xt 191 187 (.mov (.t 20)),xt 192 187 (.bin .eql 1 (.t 190) (.t 191)),xo 193 (.pick (.t 187) (.t 192) kf),xm 194 193,xt 195 194 (.call 8 []),xo 196 (.pick (.t 194) (.t 195) kf),xm 6 196] (rng 168 29))
.ret)))))))))))))
/-- caesura/caesuralaw18.DeriveLaws -/
def fn1138 : AFn := ⟨3, 197, c1138, [(.t 6)], 0⟩
theorem fn1138_body : fn1138.body = c1138 := rfl
theorem fn1138_res : fn1138.res = [(.t 6)] := rfl
theorem fn1138_keep : fn1138.keep = 0 := rfl
def c1139 : ACode :=
(.seq (.reg [xo 2 (.mov kf)] [])
(.seq (.reg [xm 3 0,xo 4 (.call 23 [(true, (.t 3))]),xo 5 (.un .not (.t 4)),xm 6 5,xt 7 6 (.mov (.t 0)),xt 8 6 (.len 1 (.t 7)),xt 9 6 (.bin .leq 0 (.t 8) (ki 60)),xo 10 (.pick (.t 6) (.t 9) kf),xm 2 10] (rng 3 8))
.ret))
/-- caesura/caesuralaw18.Light -/
def fn1139 : AFn := ⟨1, 11, c1139, [(.t 2)], 0⟩
theorem fn1139_body : fn1139.body = c1139 := rfl
theorem fn1139_res : fn1139.res = [(.t 2)] := rfl
theorem fn1139_keep : fn1139.keep = 0 := rfl
def c1140 : ACode :=
(.seq (.reg [xo 0 (.mov kf)] [])
(.seq (.reg [⟨(some 12), none, .call 24 [(true, (.k (.str ⟨#[40, 91, 117, 43, 54, 49, 93, 32, 91, 117, 43, 54, 50, 93, 41, 42]⟩)))], []⟩,xm 11 12,xo 13 (.ext (.t 11) 0),xo 14 (.ext (.t 11) 1),xo 2 (.new [(.int .i64 0),(.int .i64 0)]),xm 1 13,xn (.store false 2 (.t 2) (.t 14))] (rng 11 4))
(.seq (.reg [xm 16 1,xo 17 (.call 10 [(true, (.t 16)),(true, (ki 97))]),xm 15 17,xo 18 (.ext (.t 15) 0),xo 19 (.ext (.t 15) 1),xm 3 18,xm 4 19] (rng 15 5))
(.seq (.reg [xm 21 1,xo 22 (.mkl 3 1 [(.int .i64 0)] 2 [(0, (ki 97)),(1, (ki 98))] false),xo 23 (.call 12 [(true, (.t 21)),(true, (.t 22))]),xm 20 23,xo 24 (.ext (.t 20) 0),xo 25 (.ext (.t 20) 1),xm 5 24,xm 6 25] (rng 20 6))
(.seq (.reg [xm 27 1,xo 28 (.call 10 [(true, (.t 27)),(true, (ki 99))]),xm 26 28,xo 29 (.ext (.t 26) 0),xo 30 (.ext (.t 26) 1),xm 7 29,xm 8 30] (rng 26 5))
(.seq (.reg [xm 32 1,xo 33 (.call 10 [(true, (.t 32)),(true, (ki 55296))]),xm 31 33,xo 34 (.ext (.t 31) 0),xo 35 (.ext (.t 31) 1),xm 9 34,xm 10 35] [9,31,32,33,34,35])
(.seq (.reg [xo 36 (.faddr 0 (.t 2)),xo 37 (.load false 1 (.t 36)),xo 38 (.bin .eql 0 (.t 37) (ki 0)),xm 39 38,xt 40 39 (.mov (.t 4)),xo 41 (.pick (.t 39) (.t 40) kf),xm 42 41,xt 43 42 (.mov (.t 3)),xt 44 42 (.len 1 (.t 43)),xt 45 42 (.bin .eql 0 (.t 44) (ki 6)),xo 46 (.pick (.t 42) (.t 45) kf),xm 47 46,xt 48 47 (.mov (.t 6)),xo 49 (.pick (.t 47) (.t 48) kf),xm 50 49,xt 51 50 (.mov (.t 5)),xt 52 50 (.mov (.t 1)),xt 53 50 (.call 14 [(true, (.t 51)),(true, (.t 52))]),xo 54 (.pick (.t 50) (.t 53) kf),xm 55 54,xt 56 55 (.mov (.t 8)),xo 57 (.pick (.t 55) (.t 56) kf),xm 58 57,xt 59 58 (.mov (.t 7)),xt 60 58 (.len 1 (.t 59)),xt 61 58 (.bin .eql 0 (.t 60) (ki 1)),xo 62 (.pick (.t 58) (.t 61) kf),xm 63 62,xt 64 63 (.mov (.t 7)),xt 65 63 (.iaddr 5 (.t 64) (ki 0)),xt 66 63 (.faddr 0 (.t 65)),xt 67 63 (.load false 1 (.t 66)),xt 68 63 (.bin .eql 0 (.t 67) (ki 0)),xo 69 (.pick (.t 63) (.t 68) kf),xm 70 69,xt 71 70 (.mov (.t 1)),xt 72 70 (.call 15 [(true, (.t 71))]),xo 73 (.pick (.t 70) (.t 72) kf),xm 74 73,xt 75 74 (.mov (.t 3)),xt 76 74 (.call 15 [(true, (.t 75))]),xt 77 74 (.un .not (.t 76)),xo 78 (.pick (.t 74) (.t 77) kf),xm 79 78,xt 80 79 (.mov (.t 10)),xt 81 79 (.un .not (.t 80)),xo 82 (.pick (.t 79) (.t 81) kf),xm 0 82] (rng 36 47))
.ret)))))))
/-- caesura/caesuralaw18.wakes -/
def fn1140 : AFn := ⟨0, 83, c1140, [(.t 0)], 0⟩
theorem fn1140_body : fn1140.body = c1140 := rfl
theorem fn1140_res : fn1140.res = [(.t 0)] := rfl
theorem fn1140_keep : fn1140.keep = 0 := rfl
def c18 : ACode :=
(.seq (.reg [xo 2 (.anil 39 5)] [])
(.seq (.reg [xo 3 (.anil 39 5)] [])
(.seq (.seq (.reg [xo 4 (.mov (ki 0))] [])
(.block 0 (.loop false (.seq (.seq (.reg [xm 6 4,xm 7 0,xo 8 (.len 1 (.t 7)),xo 9 (.bin .lss 0 (.t 6) (.t 8))] [6,7,8])
(.cond (.t 9) [9] .skip (.exit 0)))
(.seq (.block 1 (.seq (.reg [xm 12 0,xm 13 4,xo 14 (.iaddr 5 (.t 12) (.t 13)),xo 15 (.load true 5 (.t 14)),⟨(some 5), none, .new [(.int .i64 0),(.int .i64 0),(.int .i64 0),(.list 2 []),(.str ⟨#[]⟩)], []⟩,xn (.store false 5 (.t 5) (.t 15))] (rng 12 4))
(.seq (.reg [xo 16 (.mkl 60 2 [(.int .i64 0),(.int .i64 0)] 0 [] false),xo 17 (.faddr 3 (.t 5)),xo 18 (.load false 1 (.t 17)),xo 19 (.app 60 2 16 (.t 16) (.t 18)),xo 20 (.faddr 3 (.t 5)),xn (.store false 1 (.t 20) (.t 19))] (rng 16 5))
(.reg [xm 21 3,xo 22 (.load true 5 (.t 5)),⟨(some 23), none, .mkl 39 5 [(.int .i64 0),(.int .i64 0),(.int .i64 0),(.list 2 []),(.str ⟨#[]⟩)] 1 [(0, (.t 22))] false, []⟩,xo 24 (.app 39 5 64 (.t 21) (.t 23)),xm 3 24] (rng 21 4)))))
(.reg [xm 10 4,xo 11 (.bin .add 0 (.t 10) (ki 1)),xm 4 11] [10,11]))))))
(.seq (.reg [xm 25 3,xm 2 25] [25])
.ret))))
/-- caesura/caesurakeep.OwnTree -/
def fn18 : AFn := ⟨1, 26, c18, [(.t 2)], 0⟩
theorem fn18_body : fn18.body = c18 := rfl
theorem fn18_res : fn18.res = [(.t 2)] := rfl
theorem fn18_keep : fn18.keep = 0 := rfl
def c1141 : ACode :=
(.seq (.reg [xo 4 (.anil 39 5),xo 5 (.mov kf)] [])
(.seq (.seq (.reg [xm 6 0,xo 7 (.call 25 [(true, (.t 6))]),xo 8 (.un .not (.t 7)),xm 9 8,xf 10 9 (.mov (.t 1)),xf 11 9 (.call 26 [(true, (.t 10))]),xf 12 9 (.un .not (.t 11)),xo 13 (.pick (.t 9) kt (.t 12))] (rng 6 7))
(.cond (.t 13) [13] (.seq (.reg [xo 4 (.anil 39 5),xo 5 (.mov kf)] [])
.ret) .skip))
(.seq (.reg [xm 14 0,xm 15 1,xo 16 (.conv .i32 (.t 15)),xo 17 (.call 27 [(true, (.t 14)),(true, (.t 16))]),xo 18 (.ext (.t 17) 0),xo 19 (.ext (.t 17) 1),xm 4 18,xm 5 19] (rng 14 6))
.ret)))
/-- caesura/derive.By -/
def fn1141 : AFn := ⟨2, 20, c1141, [(.t 4),(.t 5)], 0⟩
theorem fn1141_body : fn1141.body = c1141 := rfl
theorem fn1141_res : fn1141.res = [(.t 4), (.t 5)] := rfl
theorem fn1141_keep : fn1141.keep = 0 := rfl
def c1142 : ACode :=
(.seq (.reg [xo 4 (.anil 39 5)] [])
(.seq (.seq (.reg [xm 11 0,xo 12 (.call 17 [(true, (.t 11))]),xo 13 (.un .not (.t 12)),xm 14 13,xf 15 14 (.mov (.t 1)),xf 16 14 (.call 18 [(true, (.t 15))]),xf 17 14 (.un .not (.t 16)),xo 18 (.pick (.t 14) kt (.t 17))] (rng 11 7))
(.cond (.t 18) [18] (.seq (.reg [xo 4 (.anil 39 5)] [])
.ret) .skip))
(.seq (.reg [xm 19 0,xo 20 (.call 28 [(true, (.t 19))]),xm 21 0,xo 22 (.call 29 [(true, (.t 21))]),xm 5 20,xm 6 22] (rng 19 4))
(.seq (.reg [xo 7 (.anil 23 1)] [])
(.seq (.seq (.reg [xo 8 (.mov (ki 0))] [])
(.block 0 (.loop false (.seq (.seq (.reg [xm 23 8,xm 24 0,xo 25 (.len 1 (.t 24)),xo 26 (.bin .lss 0 (.t 23) (.t 25))] [23,24,25])
(.cond (.t 26) [26] .skip (.exit 0)))
(.seq (.block 1 (.seq (.reg [xm 29 0,xm 30 8,xo 31 (.iaddr 5 (.t 29) (.t 30)),xo 32 (.load true 5 (.t 31)),⟨(some 9), none, .new [(.int .i64 0),(.int .i64 0),(.int .i64 0),(.list 2 []),(.str ⟨#[]⟩)], []⟩,xn (.store false 5 (.t 9) (.t 32))] (rng 29 4))
(.seq (.reg [xo 33 (.call 30 [(true, (ki 0))]),xm 10 33] [33])
(.seq (.seq (.reg [xo 34 (.faddr 0 (.t 9)),xo 35 (.load false 1 (.t 34))] [34])
(.block 2 (.seq (.reg [xo 37 (.bin .eql 0 (.t 35) (ki 2)),xm 36 37] [37])
(.cond (.t 36) [36] (.seq (.reg [xo 38 (.faddr 3 (.t 9)),xo 39 (.load false 1 (.t 38)),xm 40 1,xo 41 (.call 19 [(true, (.t 39)),(true, (.t 40))])] [38,39,40])
(.cond (.t 41) [41] (.reg [xo 42 (.call 30 [(true, (ki 1))]),xm 10 42] [42]) .skip)) (.seq (.reg [xo 44 (.bin .eql 0 (.t 35) (ki 3)),xm 43 44] [44])
(.cond (.t 43) [43] (.seq (.dreg [xm 45 7,xo 46 (.faddr 1 (.t 9)),yo 47 (.load false 1 (.t 46)) [1],yo 48 (.iaddr 1 (.t 45) (.t 47)) [0, 1, 2],yo 49 (.load false 1 (.t 48)) [0, 1, 2, 3],xm 50 0,xm 51 6,xo 52 (.faddr 2 (.t 9)),yo 53 (.load false 1 (.t 52)) [7],yo 54 (.iaddr 1 (.t 51) (.t 53)) [6, 7, 8],yo 55 (.load false 1 (.t 54)) [6, 7, 8, 9],xo 56 (.faddr 2 (.t 9)),yo 57 (.load false 1 (.t 56)) [11],yo 58 (.call 100032 [(true, (.t 50)),(true, (.t 55)),(true, (.t 57))]) [5, 6, 7, 8, 9, 10, 11, 12],yo 59 (.call 31 [(true, (.t 49)),(true, (.t 58))]) [0, 1, 2, 3, 4, 5, 6, 7, 8, 9, 10, 11, 12, 13],ym 10 59 (rng 0 15)] (rng 45 15))
(.seq (.reg [xm 60 10,xo 61 (.len 1 (.t 60)),xo 62 (.bin .gtr 0 (.t 61) (ki 0)),xm 63 62,xt 64 63 (.mov (.t 5)),xt 65 63 (.faddr 1 (.t 9)),xt 66 63 (.load false 1 (.t 65)),xt 67 63 (.iaddr 1 (.t 64) (.t 66)),xt 68 63 (.load false 1 (.t 67)),xo 69 (.pick (.t 63) (.t 68) kf)] (rng 60 9))
(.cond (.t 69) [69] (.reg [xm 70 10,xm 71 7,xo 72 (.faddr 2 (.t 9)),xo 73 (.load false 1 (.t 72)),xo 74 (.iaddr 1 (.t 71) (.t 73)),xo 75 (.load false 1 (.t 74)),xo 76 (.call 33 [(true, (.t 70)),(true, (.t 75))]),xm 10 76] (rng 70 7)) .skip))) (.seq (.reg [xo 78 (.bin .eql 0 (.t 35) (ki 4)),xm 77 78] [78])
(.cond (.t 77) [77] (.dreg [xm 79 7,xo 80 (.faddr 1 (.t 9)),yo 81 (.load false 1 (.t 80)) [1],yo 82 (.iaddr 1 (.t 79) (.t 81)) [0, 1, 2],yo 83 (.load false 1 (.t 82)) [0, 1, 2, 3],xm 84 7,xo 85 (.faddr 2 (.t 9)),yo 86 (.load false 1 (.t 85)) [6],yo 87 (.iaddr 1 (.t 84) (.t 86)) [5, 6, 7],yo 88 (.load false 1 (.t 87)) [5, 6, 7, 8],yo 89 (.call 33 [(true, (.t 83)),(true, (.t 88))]) [0, 1, 2, 3, 4, 5, 6, 7, 8, 9],ym 10 89 (rng 0 11)] (rng 79 11)) (.seq (.reg [xo 91 (.bin .eql 0 (.t 35) (ki 5)),xm 90 91] [91])
(.cond (.t 90) [90] (.dreg [xm 92 7,xo 93 (.faddr 1 (.t 9)),yo 94 (.load false 1 (.t 93)) [1],yo 95 (.iaddr 1 (.t 92) (.t 94)) [0, 1, 2],yo 96 (.load false 1 (.t 95)) [0, 1, 2, 3],xm 97 0,xm 98 6,xm 99 8,yo 100 (.iaddr 1 (.t 98) (.t 99)) [6, 7],yo 101 (.load false 1 (.t 100)) [6, 7, 8],xm 102 8,yo 103 (.call 100032 [(true, (.t 97)),(true, (.t 101)),(true, (.t 102))]) [5, 6, 7, 8, 9, 10],yo 104 (.call 31 [(true, (.t 96)),(true, (.t 103))]) [0, 1, 2, 3, 4, 5, 6, 7, 8, 9, 10, 11],ym 10 104 (rng 0 13)] (rng 92 13)) .skip))))))))))
(.seq (.seq (.reg [xm 105 10,xo 106 (.len 1 (.t 105)),xo 107 (.bin .eql 0 (.t 106) (ki 0))] [105,106])
(.cond (.t 107) [107] (.seq (.reg [xo 4 (.anil 39 5)] [])
.ret) .skip))
(.reg [xm 108 7,xm 109 10,xo 110 (.mkl 23 1 [(.list 5 [])] 1 [(0, (.t 109))] false),xo 111 (.app 23 1 24 (.t 108) (.t 110)),xm 7 111] (rng 108 4)))))))
(.reg [xm 27 8,xo 28 (.bin .add 0 (.t 27) (ki 1)),xm 8 28] [27,28]))))))
(.seq (.reg [xm 112 7,xm 113 0,xo 114 (.len 1 (.t 113)),xo 115 (.bin .sub 0 (.t 114) (ki 1)),xo 116 (.iaddr 1 (.t 112) (.t 115)),xo 117 (.load false 1 (.t 116)),xm 4 117] (rng 112 6))
.ret))))))
/-- caesura/caesuraref18.By -/
def fn1142 : AFn := ⟨2, 118, c1142, [(.t 4)], 0⟩
theorem fn1142_body : fn1142.body = c1142 := rfl
theorem fn1142_res : fn1142.res = [(.t 4)] := rfl
theorem fn1142_keep : fn1142.keep = 0 := rfl
def c1143 : ACode :=
(.seq (.reg [xo 4 (.anil 39 5),xo 5 (.mov kf)] [])
(.seq (.seq (.reg [xm 9 0,xo 10 (.call 25 [(true, (.t 9))]),xo 11 (.un .not (.t 10))] [9,10])
(.cond (.t 11) [11] (.seq (.reg [xo 4 (.anil 39 5),xo 5 (.mov kf)] [])
.ret) .skip))
(.seq (.reg [xo 6 (.mov kt)] [])
(.seq (.seq (.reg [xm 12 1,xo 13 (.len 1 (.t 12)),xo 14 (.mov (ki 0))] [])
(.block 0 (.loop false (.seq (.reg [xo 15 (.bin .lss 0 (.t 14) (.t 13))] [])
(.seq (.cond (.t 15) [15] .skip (.exit 0))
(.seq (.block 1 (.seq (.reg [xo 16 (.iaddr 1 (.t 12) (.t 14)),xo 17 (.load false 1 (.t 16)),xm 8 17] [16,17])
(.seq (.reg [xm 19 0,xm 20 8,xo 21 (.call 10 [(true, (.t 19)),(true, (.t 20))]),xm 18 21,xo 22 (.ext (.t 18) 0),xo 23 (.ext (.t 18) 1),xm 0 22,xm 6 23] (rng 18 6))
(.seq (.reg [xm 24 6,xo 25 (.un .not (.t 24))] [24])
(.cond (.t 25) [25] (.seq (.reg [xo 4 (.anil 39 5),xo 5 (.mov kf)] [])
.ret) .skip)))))
(.reg [xo 26 (.bin .add 0 (.t 14) (ki 1)),xm 14 26] [26])))))))
(.seq (.reg [xm 27 0,xm 4 27,xo 5 (.mov kt)] [27])
.ret)))))
/-- caesura/derive.All -/
def fn1143 : AFn := ⟨2, 28, c1143, [(.t 4),(.t 5)], 0⟩
theorem fn1143_body : fn1143.body = c1143 := rfl
theorem fn1143_res : fn1143.res = [(.t 4), (.t 5)] := rfl
theorem fn1143_keep : fn1143.keep = 0 := rfl
def c1144 : ACode :=
(.seq (.reg [xo 4 (.anil 39 5)] [])
(.seq (.seq (.reg [xm 6 0,xo 7 (.call 17 [(true, (.t 6))]),xo 8 (.un .not (.t 7))] [6,7])
(.cond (.t 8) [8] (.seq (.reg [xo 4 (.anil 39 5)] [])
.ret) .skip))
(.seq (.seq (.reg [xo 5 (.mov (ki 0))] [])
(.block 0 (.loop false (.seq (.seq (.reg [xm 9 5,xm 10 1,xo 11 (.len 1 (.t 10)),xo 12 (.bin .lss 0 (.t 9) (.t 11)),xm 13 12,xt 14 13 (.mov (.t 0)),xt 15 13 (.len 1 (.t 14)),xt 16 13 (.bin .gtr 0 (.t 15) (ki 0)),xo 17 (.pick (.t 13) (.t 16) kf)] (rng 9 8))
(.cond (.t 17) [17] .skip (.exit 0)))
(.seq (.block 1 (.reg [xm 20 0,xm 21 1,xm 22 5,xo 23 (.iaddr 1 (.t 21) (.t 22)),xo 24 (.load false 1 (.t 23)),xo 25 (.call 11 [(true, (.t 20)),(true, (.t 24))]),xm 0 25] (rng 20 6)))
(.reg [xm 18 5,xo 19 (.bin .add 0 (.t 18) (ki 1)),xm 5 19] [18,19]))))))
(.seq (.reg [xm 26 0,xm 4 26] [26])
.ret))))
/-- caesura/caesuraref18.All -/
def fn1144 : AFn := ⟨2, 27, c1144, [(.t 4)], 0⟩
theorem fn1144_body : fn1144.body = c1144 := rfl
theorem fn1144_res : fn1144.res = [(.t 4)] := rfl
theorem fn1144_keep : fn1144.keep = 0 := rfl
def c28 : ACode :=
(.seq (.reg [xo 4 (.mov kf)] [])
(.seq (.seq (.reg [xm 8 0,xo 9 (.len 1 (.t 8)),xm 10 1,xo 11 (.len 1 (.t 10)),xo 12 (.bin .neq 0 (.t 9) (.t 11))] (rng 8 4))
(.cond (.t 12) [12] (.seq (.reg [xo 4 (.mov kf)] [])
.ret) .skip))
(.seq (.seq (.reg [xo 5 (.mov (ki 0))] [])
(.block 0 (.loop false (.seq (.seq (.reg [xm 13 5,xm 14 0,xo 15 (.len 1 (.t 14)),xo 16 (.bin .lss 0 (.t 13) (.t 15))] [13,14,15])
(.cond (.t 16) [16] .skip (.exit 0)))
(.seq (.block 1 (.seq (.dreg [xm 19 0,xm 20 5,yo 21 (.iaddr 5 (.t 19) (.t 20)) [0, 1],yo 22 (.load true 5 (.t 21)) [0, 1, 2],xm 23 1,xm 24 5,yo 25 (.iaddr 5 (.t 23) (.t 24)) [4, 5],yo 26 (.load true 5 (.t 25)) [4, 5, 6],⟨(some 6), none, .new [(.int .i64 0),(.int .i64 0),(.int .i64 0),(.list 2 []),(.str ⟨#[]⟩)], []⟩,⟨(some 7), none, .new [(.int .i64 0),(.int .i64 0),(.int .i64 0),(.list 2 []),(.str ⟨#[]⟩)], []⟩,⟨none, none, .store false 5 (.t 6) (.t 22), [0, 1, 2, 3, 8, 9]⟩,⟨none, none, .store false 5 (.t 7) (.t 26), [0, 1, 2, 3, 4, 5, 6, 7, 8, 9, 10]⟩] (rng 19 8))
(.seq (.reg [xo 27 (.faddr 0 (.t 6)),xo 28 (.load false 1 (.t 27)),xo 29 (.faddr 0 (.t 7)),xo 30 (.load false 1 (.t 29)),xo 31 (.bin .neq 0 (.t 28) (.t 30)),xm 32 31,xf 33 32 (.faddr 1 (.t 6)),xf 34 32 (.load false 1 (.t 33)),xf 35 32 (.faddr 1 (.t 7)),xf 36 32 (.load false 1 (.t 35)),xf 37 32 (.bin .neq 0 (.t 34) (.t 36)),xo 38 (.pick (.t 32) kt (.t 37)),xm 39 38,xf 40 39 (.faddr 2 (.t 6)),xf 41 39 (.load false 1 (.t 40)),xf 42 39 (.faddr 2 (.t 7)),xf 43 39 (.load false 1 (.t 42)),xf 44 39 (.bin .neq 0 (.t 41) (.t 43)),xo 45 (.pick (.t 39) kt (.t 44)),xm 46 45,xf 47 46 (.faddr 4 (.t 6)),xf 48 46 (.load false 1 (.t 47)),xf 49 46 (.faddr 4 (.t 7)),xf 50 46 (.load false 1 (.t 49)),xf 51 46 (.bin .neq 0 (.t 48) (.t 50)),xo 52 (.pick (.t 46) kt (.t 51)),xm 53 52,xf 54 53 (.faddr 3 (.t 6)),xf 55 53 (.load false 1 (.t 54)),xf 56 53 (.faddr 3 (.t 7)),xf 57 53 (.load false 1 (.t 56)),xf 58 53 (.call 34 [(true, (.t 55)),(true, (.t 57))]),xf 59 53 (.un .not (.t 58)),xo 60 (.pick (.t 53) kt (.t 59))] (rng 27 33))
(.cond (.t 60) [60] (.seq (.reg [xo 4 (.mov kf)] [])
.ret) .skip))))
(.reg [xm 17 5,xo 18 (.bin .add 0 (.t 17) (ki 1)),xm 5 18] [17,18]))))))
(.seq (.reg [xo 4 (.mov kt)] [])
.ret))))
/-- caesura/caesurakeep.Tree -/
def fn28 : AFn := ⟨2, 61, c28, [(.t 4)], 0⟩
theorem fn28_body : fn28.body = c28 := rfl
theorem fn28_res : fn28.res = [(.t 4)] := rfl
theorem fn28_keep : fn28.keep = 0 := rfl
def c1145 : ACode :=
(.seq (.reg [xo 2 (.mov kf)] [])
(.seq (.reg [xm 3 0,xo 4 (.call 25 [(true, (.t 3))]),xm 5 4,xt 6 5 (.mov (.t 0)),xt 7 5 (.call 35 [(true, (.t 6))]),xt 8 5 (.mov (.t 0)),xt 9 5 (.len 1 (.t 8)),xt 10 5 (.bin .sub 0 (.t 9) (ki 1)),xt 11 5 (.iaddr 1 (.t 7) (.t 10)),xt 12 5 (.load false 1 (.t 11)),xo 13 (.pick (.t 5) (.t 12) kf),xm 2 13] (rng 3 11))
.ret))
/-- caesura/derive.Null -/
def fn1145 : AFn := ⟨1, 14, c1145, [(.t 2)], 0⟩
theorem fn1145_body : fn1145.body = c1145 := rfl
theorem fn1145_res : fn1145.res = [(.t 2)] := rfl
theorem fn1145_keep : fn1145.keep = 0 := rfl
def c1146 : ACode :=
(.seq (.reg [xo 2 (.mov kf)] [])
(.seq (.reg [xm 3 0,xo 4 (.call 17 [(true, (.t 3))]),xm 5 4,xt 6 5 (.mov (.t 0)),xt 7 5 (.call 28 [(true, (.t 6))]),xt 8 5 (.mov (.t 0)),xt 9 5 (.len 1 (.t 8)),xt 10 5 (.bin .sub 0 (.t 9) (ki 1)),xt 11 5 (.iaddr 1 (.t 7) (.t 10)),xt 12 5 (.load false 1 (.t 11)),xo 13 (.pick (.t 5) (.t 12) kf),xm 2 13] (rng 3 11))
.ret))
/-- caesura/caesuraref18.Null -/
def fn1146 : AFn := ⟨1, 14, c1146, [(.t 2)], 0⟩
theorem fn1146_body : fn1146.body = c1146 := rfl
theorem fn1146_res : fn1146.res = [(.t 2)] := rfl
theorem fn1146_keep : fn1146.keep = 0 := rfl
def c30 : ACode :=
(.seq (.reg [xo 2 (.mov kf)] [])
(.seq (.seq (.reg [xm 4 0,xo 5 (.len 1 (.t 4)),xo 6 (.bin .lss 0 (.t 5) (ki 1)),xm 7 6,xf 8 7 (.mov (.t 0)),xf 9 7 (.len 1 (.t 8)),xf 10 7 (.bin .gtr 0 (.t 9) (ki 40000)),xo 11 (.pick (.t 7) kt (.t 10))] (rng 4 7))
(.cond (.t 11) [11] (.seq (.reg [xo 2 (.mov kf)] [])
.ret) .skip))
(.seq (.reg [xm 12 0,xo 13 (.call 29 [(true, (.t 12))]),xm 3 13] [12,13])
(.seq (.reg [xm 14 3,xo 15 (.len 1 (.t 14)),xm 16 0,xo 17 (.len 1 (.t 16)),xo 18 (.bin .eql 0 (.t 15) (.t 17)),xm 19 18,xt 20 19 (.mov (.t 3)),xt 21 19 (.mov (.t 0)),xt 22 19 (.len 1 (.t 21)),xt 23 19 (.bin .sub 0 (.t 22) (ki 1)),xt 24 19 (.iaddr 1 (.t 20) (.t 23)),xt 25 19 (.load false 1 (.t 24)),xt 26 19 (.bin .eql 0 (.t 25) (ki 0)),xo 27 (.pick (.t 19) (.t 26) kf),xm 2 27] (rng 14 14))
.ret))))
/-- caesura/caesuraref11.Good -/
def fn30 : AFn := ⟨1, 28, c30, [(.t 2)], 0⟩
theorem fn30_body : fn30.body = c30 := rfl
theorem fn30_res : fn30.res = [(.t 2)] := rfl
theorem fn30_keep : fn30.keep = 0 := rfl
def c66 : ACode :=
(.seq (.reg [xo 2 (.mov kf)] [])
(.seq (.reg [xm 3 0,xo 4 (.bin .geq 0 (.t 3) (ki 0)),xm 5 4,xt 6 5 (.mov (.t 0)),xt 7 5 (.bin .lss 0 (.t 6) (ki 55296)),xo 8 (.pick (.t 5) (.t 7) kf),xm 9 8,xf 10 9 (.mov (.t 0)),xf 11 9 (.bin .geq 0 (.t 10) (ki 57344)),xf 12 9 (.mov (.t 11)),xt 13 12 (.mov (.t 0)),xt 14 12 (.bin .leq 0 (.t 13) (ki 1114111)),xf 15 9 (.pick (.t 12) (.t 14) kf),xo 16 (.pick (.t 9) kt (.t 15)),xm 2 16] (rng 3 14))
.ret))
/-- caesura/caesuraref01.Is -/
def fn66 : AFn := ⟨1, 17, c66, [(.t 2)], 0⟩
theorem fn66_body : fn66.body = c66 := rfl
theorem fn66_res : fn66.res = [(.t 2)] := rfl
theorem fn66_keep : fn66.keep = 0 := rfl
def c59 : ACode :=
(.seq (.reg [xo 4 (.mov kf)] [])
(.seq (.seq (.reg [xo 5 (.mov (ki 0))] [])
(.block 0 (.loop false (.seq (.seq (.reg [xm 6 5,xm 7 0,xo 8 (.len 1 (.t 7)),xo 9 (.bin .lss 0 (.t 6) (.t 8))] [6,7,8])
(.cond (.t 9) [9] .skip (.exit 0)))
(.seq (.block 1 (.seq (.reg [xm 12 0,xm 13 5,xo 14 (.iaddr 2 (.t 12) (.t 13)),xo 15 (.faddr 0 (.t 14)),xo 16 (.load false 1 (.t 15)),xm 17 1,xo 18 (.bin .leq 0 (.t 16) (.t 17)),xm 19 18,xt 20 19 (.mov (.t 1)),xt 21 19 (.mov (.t 0)),xt 22 19 (.mov (.t 5)),xt 23 19 (.iaddr 2 (.t 21) (.t 22)),xt 24 19 (.faddr 1 (.t 23)),xt 25 19 (.load false 1 (.t 24)),xt 26 19 (.bin .leq 0 (.t 20) (.t 25)),xo 27 (.pick (.t 19) (.t 26) kf)] (rng 12 15))
(.cond (.t 27) [27] (.seq (.reg [xm 28 1,xo 29 (.call 18 [(true, (.t 28))]),xm 30 29,xt 31 30 (.mov (.t 0)),xt 32 30 (.call 36 [(true, (.t 31))]),xo 33 (.pick (.t 30) (.t 32) kf),xm 4 33] (rng 28 6))
.ret) .skip)))
(.reg [xm 10 5,xo 11 (.bin .add 0 (.t 10) (ki 1)),xm 5 11] [10,11]))))))
(.seq (.reg [xo 4 (.mov kf)] [])
.ret)))
/-- caesura/caesuraref03.Has -/
def fn59 : AFn := ⟨2, 34, c59, [(.t 4)], 0⟩
theorem fn59_body : fn59.body = c59 := rfl
theorem fn59_res : fn59.res = [(.t 4)] := rfl
theorem fn59_keep : fn59.keep = 0 := rfl
def c31 : ACode :=
(.seq (.reg [xo 4 (.mov kf)] [])
(.seq (.seq (.reg [xm 6 0,xo 7 (.call 25 [(true, (.t 6))]),xo 8 (.un .not (.t 7))] [6,7])
(.cond (.t 8) [8] (.seq (.reg [xo 4 (.mov kf)] [])
.ret) .skip))
(.seq (.reg [xm 9 0,xm 10 1,xo 11 .mkm,xo 12 (.agg [(.list 5 []),(.list 1 []), .nilm] [(0, 1, (.t 9)),(1, 1, (.t 10)),(2, 1, (.t 11))]),xo 13 (.box (.t 12)),xm 5 13] (rng 9 5))
(.seq (.reg [xm 14 5,xm 15 0,xo 16 (.len 1 (.t 15)),xo 17 (.bin .sub 0 (.t 16) (ki 1)),xm 18 1,xo 19 (.len 1 (.t 18)),xo 20 (.call 37 [(false, (.t 14)),(true, (.t 17)),(true, (ki 0)),(true, (.t 19))]),xm 4 20] (rng 14 7))
.ret))))
/-- caesura/tree.Takes -/
def fn31 : AFn := ⟨2, 21, c31, [(.t 4)], 0⟩
theorem fn31_body : fn31.body = c31 := rfl
theorem fn31_res : fn31.res = [(.t 4)] := rfl
theorem fn31_keep : fn31.keep = 0 := rfl
def c25 : ACode :=
(.seq (.reg [xo 6 (.anil 39 5)] [])
(.seq (.seq (.reg [xm 10 1,xo 11 (.call 17 [(true, (.t 10))]),xo 12 (.un .not (.t 11)),xm 13 12,xf 14 13 (.mov (.t 2)),xf 15 13 (.call 17 [(true, (.t 14))]),xf 16 13 (.un .not (.t 15)),xo 17 (.pick (.t 13) kt (.t 16)),xm 18 17,xf 19 18 (.mov (.t 1)),xf 20 18 (.len 1 (.t 19)),xf 21 18 (.mov (.t 2)),xf 22 18 (.len 1 (.t 21)),xf 23 18 (.bin .add 0 (.t 20) (.t 22)),xf 24 18 (.bin .add 0 (.t 23) (ki 1)),xf 25 18 (.bin .gtr 0 (.t 24) (ki 40000)),xo 26 (.pick (.t 18) kt (.t 25))] (rng 10 16))
(.cond (.t 26) [26] (.seq (.reg [xo 6 (.anil 39 5)] [])
.ret) .skip))
(.seq (.reg [xm 27 1,xm 28 1,xo 29 (.len 1 (.t 28)),xo 30 (.bin .sub 0 (.t 29) (ki 1)),xo 31 (.call 32 [(true, (.t 27)),(true, (ki 0)),(true, (.t 30))]),xm 7 31] (rng 27 5))
(.seq (.seq (.reg [xo 8 (.mov (ki 0))] [])
(.block 0 (.loop false (.seq (.seq (.reg [xm 32 8,xm 33 2,xo 34 (.len 1 (.t 33)),xo 35 (.bin .lss 0 (.t 32) (.t 34))] [32,33,34])
(.cond (.t 35) [35] .skip (.exit 0)))
(.seq (.block 1 (.seq (.reg [xm 38 2,xm 39 8,xo 40 (.iaddr 5 (.t 38) (.t 39)),xo 41 (.load true 5 (.t 40)),⟨(some 9), none, .new [(.int .i64 0),(.int .i64 0),(.int .i64 0),(.list 2 []),(.str ⟨#[]⟩)], []⟩,xn (.store false 5 (.t 9) (.t 41))] (rng 38 4))
(.seq (.seq (.reg [xo 42 (.faddr 0 (.t 9)),xo 43 (.load false 1 (.t 42))] [42])
(.block 2 (.seq (.reg [xo 45 (.bin .eql 0 (.t 43) (ki 5)),xm 44 45] [45])
(.cond (.t 44) [44] (.reg [xo 46 (.faddr 1 (.t 9)),xo 47 (.load false 1 (.t 46)),xm 48 1,xo 49 (.len 1 (.t 48)),xo 50 (.bin .add 0 (.t 47) (.t 49)),xo 51 (.faddr 1 (.t 9)),xn (.store false 1 (.t 51) (.t 50))] (rng 46 6)) (.seq (.seq (.reg [xo 53 (.bin .eql 0 (.t 43) (ki 3)),xm 52 53] [53])
(.cond (.t 52) [] .skip (.reg [xo 54 (.bin .eql 0 (.t 43) (ki 4)),xm 52 54] [54])))
(.cond (.t 52) [] (.seq (.reg [xo 55 (.faddr 1 (.t 9)),xo 56 (.load false 1 (.t 55)),xm 57 1,xo 58 (.len 1 (.t 57)),xo 59 (.bin .add 0 (.t 56) (.t 58)),xo 60 (.faddr 1 (.t 9)),xn (.store false 1 (.t 60) (.t 59))] (rng 55 6))
(.reg [xo 61 (.faddr 2 (.t 9)),xo 62 (.load false 1 (.t 61)),xm 63 1,xo 64 (.len 1 (.t 63)),xo 65 (.bin .add 0 (.t 62) (.t 64)),xo 66 (.faddr 2 (.t 9)),xn (.store false 1 (.t 66) (.t 65))] (rng 61 6))) .skip))))))
(.seq (.reg [xo 67 (.mkl 60 2 [(.int .i64 0),(.int .i64 0)] 0 [] false),xo 68 (.faddr 3 (.t 9)),xo 69 (.load false 1 (.t 68)),xo 70 (.app 60 2 16 (.t 67) (.t 69)),xo 71 (.faddr 3 (.t 9)),xn (.store false 1 (.t 71) (.t 70))] (rng 67 5))
(.reg [xm 72 7,xo 73 (.load true 5 (.t 9)),⟨(some 74), none, .mkl 39 5 [(.int .i64 0),(.int .i64 0),(.int .i64 0),(.list 2 []),(.str ⟨#[]⟩)] 1 [(0, (.t 73))] false, []⟩,xo 75 (.app 39 5 64 (.t 72) (.t 74)),xm 7 75] (rng 72 4))))))
(.reg [xm 36 8,xo 37 (.bin .add 0 (.t 36) (ki 1)),xm 8 37] [36,37]))))))
(.seq (.reg [xm 76 7,xm 77 0,xm 78 1,xo 79 (.len 1 (.t 78)),xo 80 (.bin .sub 0 (.t 79) (ki 1)),xm 81 1,xo 82 (.len 1 (.t 81)),xm 83 2,xo 84 (.len 1 (.t 83)),xo 85 (.bin .add 0 (.t 82) (.t 84)),xo 86 (.bin .sub 0 (.t 85) (ki 1)),⟨(some 87), none, .agg [(.int .i64 0),(.int .i64 0),(.int .i64 0),(.list 2 []),(.str ⟨#[]⟩)] [(0, 1, (.t 77)),(1, 1, (.t 80)),(2, 1, (.t 86))], []⟩,⟨(some 88), none, .mkl 39 5 [(.int .i64 0),(.int .i64 0),(.int .i64 0),(.list 2 []),(.str ⟨#[]⟩)] 1 [(0, (.t 87))] false, []⟩,xo 89 (.app 39 5 64 (.t 76) (.t 88)),xm 6 89] (rng 76 14))
.ret)))))
/-- caesura/caesuraref11.Join -/
def fn25 : AFn := ⟨3, 90, c25, [(.t 6)], 0⟩
theorem fn25_body : fn25.body = c25 := rfl
theorem fn25_res : fn25.res = [(.t 6)] := rfl
theorem fn25_keep : fn25.keep = 0 := rfl
def c26 : ACode :=
(.seq (.reg [xo 2 (.anil 39 5)] [])
(.seq (.seq (.reg [xm 3 0,xo 4 (.call 17 [(true, (.t 3))]),xo 5 (.un .not (.t 4)),xm 6 5,xf 7 6 (.mov (.t 0)),xf 8 6 (.len 1 (.t 7)),xf 9 6 (.bin .geq 0 (.t 8) (ki 40000)),xo 10 (.pick (.t 6) kt (.t 9))] (rng 3 7))
(.cond (.t 10) [10] (.seq (.reg [xo 2 (.anil 39 5)] [])
.ret) .skip))
(.seq (.reg [xm 11 0,xm 12 0,xo 13 (.len 1 (.t 12)),xo 14 (.bin .sub 0 (.t 13) (ki 1)),xo 15 (.call 32 [(true, (.t 11)),(true, (ki 0)),(true, (.t 14))]),xm 16 0,xo 17 (.len 1 (.t 16)),xo 18 (.bin .sub 0 (.t 17) (ki 1)),⟨(some 19), none, .agg [(.int .i64 0),(.int .i64 0),(.int .i64 0),(.list 2 []),(.str ⟨#[]⟩)] [(0, 1, (ki 5)),(1, 1, (.t 18))], []⟩,⟨(some 20), none, .mkl 39 5 [(.int .i64 0),(.int .i64 0),(.int .i64 0),(.list 2 []),(.str ⟨#[]⟩)] 1 [(0, (.t 19))] false, []⟩,xo 21 (.app 39 5 64 (.t 15) (.t 20)),xm 2 21] (rng 11 11))
.ret)))
/-- caesura/caesuraref11.Star -/
def fn26 : AFn := ⟨1, 22, c26, [(.t 2)], 0⟩
theorem fn26_body : fn26.body = c26 := rfl
theorem fn26_res : fn26.res = [(.t 2)] := rfl
theorem fn26_keep : fn26.keep = 0 := rfl
def c16 : ACode :=
(.seq (.reg [xo 2 (.mov kf)] [])
(.seq (.reg [xo 3 (.mov (ki 0))] [])
(.seq (.seq (.reg [xo 4 (.mov (ki 0))] [])
(.block 0 (.loop false (.seq (.seq (.reg [xm 5 4,xm 6 0,xo 7 (.len 1 (.t 6)),xo 8 (.bin .lss 0 (.t 5) (.t 7)),xm 9 8,xt 10 9 (.mov (.t 3)),xt 11 9 (.bin .leq 0 (.t 10) (ki 600)),xo 12 (.pick (.t 9) (.t 11) kf)] (rng 5 7))
(.cond (.t 12) [12] .skip (.exit 0)))
(.seq (.block 1 (.dreg [xm 15 3,xm 16 0,xm 17 4,yo 18 (.iaddr 5 (.t 16) (.t 17)) [1, 2],yo 19 (.faddr 3 (.t 18)) [1, 2, 3],yo 20 (.load false 1 (.t 19)) [1, 2, 3, 4],yo 21 (.len 1 (.t 20)) [1, 2, 3, 4, 5],yo 22 (.mm false [(.t 21),(ki 600)]) [1, 2, 3, 4, 5, 6],yo 23 (.bin .add 0 (ki 1) (.t 22)) [1, 2, 3, 4, 5, 6, 7],xm 24 0,xm 25 4,yo 26 (.iaddr 5 (.t 24) (.t 25)) [9, 10],yo 27 (.faddr 4 (.t 26)) [9, 10, 11],yo 28 (.load false 1 (.t 27)) [9, 10, 11, 12],yo 29 (.len 0 (.t 28)) [9, 10, 11, 12, 13],yo 30 (.bin .quo 0 (.t 29) (ki 8)) [9, 10, 11, 12, 13, 14],yo 31 (.mm false [(.t 30),(ki 600)]) [9, 10, 11, 12, 13, 14, 15],yo 32 (.bin .add 0 (.t 23) (.t 31)) [1, 2, 3, 4, 5, 6, 7, 8, 9, 10, 11, 12, 13, 14, 15, 16],yo 33 (.bin .add 0 (.t 15) (.t 32)) [0, 1, 2, 3, 4, 5, 6, 7, 8, 9, 10, 11, 12, 13, 14, 15, 16, 17],ym 3 33 (rng 0 19)] (rng 15 19)))
(.reg [xm 13 4,xo 14 (.bin .add 0 (.t 13) (ki 1)),xm 4 14] [13,14]))))))
(.seq (.reg [xm 34 3,xo 35 (.bin .gtr 0 (.t 34) (ki 600)),xm 2 35] [34,35])
.ret))))
/-- caesura/caesurakeep.LargeTree -/
def fn16 : AFn := ⟨1, 36, c16, [(.t 2)], 0⟩
theorem fn16_body : fn16.body = c16 := rfl
theorem fn16_res : fn16.res = [(.t 2)] := rfl
theorem fn16_keep : fn16.keep = 0 := rfl
def c1147 : ACode :=
(.seq (.reg [xo 2 (.anil 39 5),xo 3 (.new [(.int .i64 0),(.int .i64 0)])] [])
(.seq (.reg [xo 4 (.new [(.list 5 [])])] [])
(.seq (.reg [xm 6 0,xo 7 (.mkf 39 [(.t 4)]),xo 8 (.call 38 [(true, (.t 6)),(false, (.t 7))]),xo 5 (.new [(.int .i64 0),(.int .i64 0)]),xn (.store false 2 (.t 5) (.t 8))] [6,7,8])
(.seq (.dreg [xo 9 (.load false 1 (.t 4)),xo 10 (.load true 2 (.t 5)),ym 2 9 [0],⟨none, none, .store false 2 (.t 3) (.t 10), [0, 1, 2]⟩] [9,10])
.ret))))
/-- caesura/parse.Tree -/
def fn1147 : AFn := ⟨1, 11, c1147, [(.t 2),(.c 3 true 2)], 0⟩
theorem fn1147_body : fn1147.body = c1147 := rfl
theorem fn1147_res : fn1147.res = [(.t 2), (.c 3 true 2)] := rfl
theorem fn1147_keep : fn1147.keep = 0 := rfl
def c29 : ACode :=
(.seq (.reg [xo 2 (.mov kf)] [])
(.seq (.seq (.reg [xm 5 0,xo 6 (.len 1 (.t 5)),xo 7 (.bin .lss 0 (.t 6) (ki 1)),xm 8 7,xf 9 8 (.mov (.t 0)),xf 10 8 (.len 1 (.t 9)),xf 11 8 (.bin .gtr 0 (.t 10) (ki 40000)),xo 12 (.pick (.t 8) kt (.t 11))] (rng 5 7))
(.cond (.t 12) [12] (.seq (.reg [xo 2 (.mov kf)] [])
.ret) .skip))
(.seq (.reg [xm 14 0,xo 15 (.call 42 [(true, (.t 14))]),xm 13 15,xo 16 (.ext (.t 13) 0),xo 17 (.ext (.t 13) 1),xm 3 16,xm 4 17] (rng 13 5))
(.seq (.reg [xm 18 4,xm 19 18,xt 20 19 (.mov (.t 3)),xt 21 19 (.mov (.t 0)),xt 22 19 (.len 1 (.t 21)),xt 23 19 (.bin .sub 0 (.t 22) (ki 1)),xt 24 19 (.iaddr 1 (.t 20) (.t 23)),xt 25 19 (.load false 1 (.t 24)),xt 26 19 (.bin .eql 0 (.t 25) (ki 0)),xo 27 (.pick (.t 19) (.t 26) kf),xm 2 27] (rng 18 10))
.ret))))
/-- caesura/tree.Good -/
def fn29 : AFn := ⟨1, 28, c29, [(.t 2)], 0⟩
theorem fn29_body : fn29.body = c29 := rfl
theorem fn29_res : fn29.res = [(.t 2)] := rfl
theorem fn29_keep : fn29.keep = 0 := rfl
def c97 : ACode :=
(.seq (.reg [xo 2 (.mov kf)] [])
(.seq (.reg [xm 6 0,xo 7 (.call 43 [(true, (.t 6))]),xm 5 7,xo 8 (.ext (.t 5) 0),xo 9 (.ext (.t 5) 1),xm 3 8,xm 4 9] [3,5,6,7,8,9])
(.seq (.reg [xm 10 4,xm 2 10] [10])
.ret)))
/-- caesura/scalar.Is -/
def fn97 : AFn := ⟨1, 11, c97, [(.t 2)], 0⟩
theorem fn97_body : fn97.body = c97 := rfl
theorem fn97_res : fn97.res = [(.t 2)] := rfl
theorem fn97_keep : fn97.keep = 0 := rfl
def c1148 : ACode :=
(.seq (.reg [xo 4 (.anil 39 5),xo 5 (.mov kf)] [])
(.seq (.reg [xm 12 0,xm 13 0,xo 14 (.len 1 (.t 13)),xo 15 (.bin .sub 0 (.t 14) (ki 1)),xo 16 (.iaddr 5 (.t 12) (.t 15)),xo 17 (.load true 5 (.t 16)),⟨(some 6), none, .new [(.int .i64 0),(.int .i64 0),(.int .i64 0),(.list 2 []),(.str ⟨#[]⟩)], []⟩,xn (.store false 5 (.t 6) (.t 17))] (rng 12 6))
(.seq (.seq (.reg [xo 18 (.faddr 0 (.t 6)),xo 19 (.load false 1 (.t 18)),xo 20 (.bin .eql 0 (.t 19) (ki 2))] [18,19])
(.cond (.t 20) [20] (.seq (.reg [xo 21 (.faddr 3 (.t 6)),xo 22 (.load false 1 (.t 21)),xm 23 1,xo 24 (.call 44 [(true, (.t 22)),(true, (.t 23))]),xm 4 24,xo 5 (.mov kt)] (rng 21 4))
.ret) .skip))
(.seq (.reg [xm 26 0,xo 27 (.call 45 [(true, (.t 26))]),xm 25 27,xo 28 (.ext (.t 25) 0),xo 29 (.ext (.t 25) 1),xo 30 (.ext (.t 25) 2),xm 7 28,xm 8 29,xm 9 30] (rng 25 6))
(.seq (.seq (.reg [xm 31 9,xo 32 (.un .not (.t 31))] [31])
(.cond (.t 32) [32] (.seq (.reg [xo 33 (.call 46 [(true, (ki 0))]),xm 4 33,xo 5 (.mov kt)] [33])
.ret) .skip))
(.seq (.reg [xm 35 7,xm 36 1,xo 37 (.call 27 [(true, (.t 35)),(true, (.t 36))]),xm 34 37,xo 38 (.ext (.t 34) 0),xo 39 (.ext (.t 34) 1),xm 10 38,xm 9 39] (rng 34 6))
(.seq (.seq (.reg [xm 40 9,xo 41 (.un .not (.t 40))] [40])
(.cond (.t 41) [41] (.seq (.reg [xo 4 (.anil 39 5),xo 5 (.mov kf)] [])
.ret) .skip))
(.seq (.seq (.reg [xo 42 (.faddr 0 (.t 6)),xo 43 (.load false 1 (.t 42)),xo 44 (.bin .eql 0 (.t 43) (ki 5))] [42,43])
(.cond (.t 44) [44] (.seq (.reg [xm 45 10,xm 46 0,xo 47 (.call 47 [(true, (.t 45)),(true, (.t 46))]),xo 48 (.ext (.t 47) 0),xo 49 (.ext (.t 47) 1),xm 4 48,xm 5 49] (rng 45 5))
.ret) .skip))
(.seq (.seq (.reg [xo 50 (.faddr 0 (.t 6)),xo 51 (.load false 1 (.t 50)),xo 52 (.bin .eql 0 (.t 51) (ki 3)),xm 53 52,xt 54 53 (.mov (.t 7)),xt 55 53 (.call 15 [(true, (.t 54))]),xt 56 53 (.un .not (.t 55)),xo 57 (.pick (.t 53) (.t 56) kf)] (rng 50 7))
(.cond (.t 57) [57] (.seq (.reg [xm 58 10,xm 59 8,xo 60 (.call 47 [(true, (.t 58)),(true, (.t 59))]),xo 61 (.ext (.t 60) 0),xo 62 (.ext (.t 60) 1),xm 4 61,xm 5 62] (rng 58 5))
.ret) .skip))
(.seq (.reg [xm 64 8,xm 65 1,xo 66 (.call 27 [(true, (.t 64)),(true, (.t 65))]),xm 63 66,xo 67 (.ext (.t 63) 0),xo 68 (.ext (.t 63) 1),xm 11 67,xm 9 68] (rng 63 6))
(.seq (.seq (.reg [xm 69 9,xo 70 (.un .not (.t 69))] [69])
(.cond (.t 70) [70] (.seq (.reg [xo 4 (.anil 39 5),xo 5 (.mov kf)] [])
.ret) .skip))
(.seq (.seq (.reg [xo 71 (.faddr 0 (.t 6)),xo 72 (.load false 1 (.t 71)),xo 73 (.bin .eql 0 (.t 72) (ki 3))] [71,72])
(.cond (.t 73) [73] (.seq (.reg [xm 74 7,xm 75 8,xm 76 10,xm 77 11,xo 78 (.call 48 [(true, (.t 74)),(true, (.t 75)),(true, (.t 76)),(true, (.t 77))]),xo 79 (.ext (.t 78) 0),xo 80 (.ext (.t 78) 1),xm 4 79,xm 5 80] (rng 74 7))
.ret) .skip))
(.seq (.reg [xm 81 10,xm 82 11,xo 83 (.call 49 [(true, (.t 81)),(true, (.t 82))]),xo 84 (.ext (.t 83) 0),xo 85 (.ext (.t 83) 1),xm 4 84,xm 5 85] (rng 81 5))
.ret)))))))))))))
/-- caesura/derive.by -/
def fn1148 : AFn := ⟨2, 86, c1148, [(.t 4),(.t 5)], 0⟩
theorem fn1148_body : fn1148.body = c1148 := rfl
theorem fn1148_res : fn1148.res = [(.t 4), (.t 5)] := rfl
theorem fn1148_keep : fn1148.keep = 0 := rfl
def c1149 : ACode :=
(.seq (.reg [xo 2 (.anil 4 1)] [])
(.seq (.reg [xo 3 (.anil 4 1)] [])
(.seq (.seq (.reg [xo 4 (.mov (ki 0))] [])
(.block 0 (.loop false (.seq (.seq (.reg [xm 7 4,xm 8 0,xo 9 (.len 1 (.t 8)),xo 10 (.bin .lss 0 (.t 7) (.t 9))] [7,8,9])
(.cond (.t 10) [10] .skip (.exit 0)))
(.seq (.block 1 (.seq (.reg [xm 13 0,xm 14 4,xo 15 (.iaddr 5 (.t 13) (.t 14)),xo 16 (.load true 5 (.t 15)),⟨(some 5), none, .new [(.int .i64 0),(.int .i64 0),(.int .i64 0),(.list 2 []),(.str ⟨#[]⟩)], []⟩,xn (.store false 5 (.t 5) (.t 16))] (rng 13 4))
(.seq (.reg [xo 17 (.faddr 0 (.t 5)),xo 18 (.load false 1 (.t 17)),xo 19 (.bin .eql 0 (.t 18) (ki 1)),xm 20 19,xf 21 20 (.faddr 0 (.t 5)),xf 22 20 (.load false 1 (.t 21)),xf 23 20 (.bin .eql 0 (.t 22) (ki 5)),xo 24 (.pick (.t 20) kt (.t 23)),xm 6 24] (rng 17 8))
(.seq (.seq (.reg [xo 25 (.faddr 0 (.t 5)),xo 26 (.load false 1 (.t 25)),xo 27 (.bin .eql 0 (.t 26) (ki 3))] [25,26])
(.cond (.t 27) [27] (.reg [xm 28 3,xo 29 (.faddr 1 (.t 5)),xo 30 (.load false 1 (.t 29)),xo 31 (.iaddr 1 (.t 28) (.t 30)),xo 32 (.load false 1 (.t 31)),xm 33 32,xt 34 33 (.mov (.t 3)),xt 35 33 (.faddr 2 (.t 5)),xt 36 33 (.load false 1 (.t 35)),xt 37 33 (.iaddr 1 (.t 34) (.t 36)),xt 38 33 (.load false 1 (.t 37)),xo 39 (.pick (.t 33) (.t 38) kf),xm 6 39] (rng 28 12)) .skip))
(.seq (.seq (.reg [xo 40 (.faddr 0 (.t 5)),xo 41 (.load false 1 (.t 40)),xo 42 (.bin .eql 0 (.t 41) (ki 4))] [40,41])
(.cond (.t 42) [42] (.reg [xm 43 3,xo 44 (.faddr 1 (.t 5)),xo 45 (.load false 1 (.t 44)),xo 46 (.iaddr 1 (.t 43) (.t 45)),xo 47 (.load false 1 (.t 46)),xm 48 47,xf 49 48 (.mov (.t 3)),xf 50 48 (.faddr 2 (.t 5)),xf 51 48 (.load false 1 (.t 50)),xf 52 48 (.iaddr 1 (.t 49) (.t 51)),xf 53 48 (.load false 1 (.t 52)),xo 54 (.pick (.t 48) kt (.t 53)),xm 6 54] (rng 43 12)) .skip))
(.reg [xm 55 3,xm 56 6,xo 57 (.mkl 4 1 [(.bool false)] 1 [(0, (.t 56))] false),xo 58 (.app 4 1 1 (.t 55) (.t 57)),xm 3 58] (rng 55 4)))))))
(.reg [xm 11 4,xo 12 (.bin .add 0 (.t 11) (ki 1)),xm 4 12] [11,12]))))))
(.seq (.reg [xm 59 3,xm 2 59] [59])
.ret))))
/-- caesura/caesuraref18.nulls -/
def fn1149 : AFn := ⟨1, 60, c1149, [(.t 2)], 0⟩
theorem fn1149_body : fn1149.body = c1149 := rfl
theorem fn1149_res : fn1149.res = [(.t 2)] := rfl
theorem fn1149_keep : fn1149.keep = 0 := rfl
def c36 : ACode :=
(.seq (.reg [xo 2 (.anil 3 1)] [])
(.seq (.reg [xo 3 (.anil 3 1)] [])
(.seq (.seq (.reg [xo 4 (.mov (ki 0))] [])
(.block 0 (.loop false (.seq (.seq (.reg [xm 6 4,xm 7 0,xo 8 (.len 1 (.t 7)),xo 9 (.bin .lss 0 (.t 6) (.t 8))] [6,7,8])
(.cond (.t 9) [9] .skip (.exit 0)))
(.seq (.block 1 (.seq (.reg [xm 12 0,xm 13 4,xo 14 (.iaddr 5 (.t 12) (.t 13)),xo 15 (.load true 5 (.t 14)),⟨(some 5), none, .new [(.int .i64 0),(.int .i64 0),(.int .i64 0),(.list 2 []),(.str ⟨#[]⟩)], []⟩,xn (.store false 5 (.t 5) (.t 15))] (rng 12 4))
(.seq (.seq (.reg [xo 16 (.faddr 0 (.t 5)),xo 17 (.load false 1 (.t 16)),xo 18 (.bin .neq 0 (.t 17) (ki 2)),xm 19 18,xt 20 19 (.faddr 3 (.t 5)),xt 21 19 (.load false 1 (.t 20)),xt 22 19 (.len 1 (.t 21)),xt 23 19 (.bin .gtr 0 (.t 22) (ki 0)),xt 24 19 (.mov (.t 23)),xf 25 24 (.faddr 4 (.t 5)),xf 26 24 (.load false 1 (.t 25)),⟨(some 27),(some (24, false)), .bin .neq 0 (.t 26) (.k (.str ⟨#[]⟩)), []⟩,xt 28 19 (.pick (.t 24) kt (.t 27)),xo 29 (.pick (.t 19) (.t 28) kf)] (rng 16 13))
(.cond (.t 29) [29] (.seq (.reg [xo 2 (.anil 3 1)] [])
.ret) .skip))
(.seq (.reg [xo 30 (.faddr 0 (.t 5)),xo 31 (.load false 1 (.t 30))] [30])
(.block 2 (.seq (.seq (.reg [xo 33 (.bin .eql 0 (.t 31) (ki 0)),xm 32 33] [33])
(.cond (.t 32) [] .skip (.seq (.reg [xo 34 (.bin .eql 0 (.t 31) (ki 1)),xm 32 34] [34])
(.cond (.t 32) [] .skip (.reg [xo 35 (.bin .eql 0 (.t 31) (ki 2)),xm 32 35] [35])))))
(.cond (.t 32) [] (.seq (.seq (.reg [xo 36 (.faddr 1 (.t 5)),xo 37 (.load false 1 (.t 36)),xo 38 (.bin .neq 0 (.t 37) (ki 0)),xm 39 38,xf 40 39 (.faddr 2 (.t 5)),xf 41 39 (.load false 1 (.t 40)),xf 42 39 (.bin .neq 0 (.t 41) (ki 0)),xo 43 (.pick (.t 39) kt (.t 42)),xm 44 43,xf 45 44 (.faddr 0 (.t 5)),xf 46 44 (.load false 1 (.t 45)),xf 47 44 (.bin .eql 0 (.t 46) (ki 2)),xf 48 44 (.mov (.t 47)),xt 49 48 (.faddr 3 (.t 5)),xt 50 48 (.load false 1 (.t 49)),xt 51 48 (.len 1 (.t 50)),xt 52 48 (.bin .eql 0 (.t 51) (ki 0)),xt 53 48 (.mov (.t 52)),xf 54 53 (.faddr 3 (.t 5)),xf 55 53 (.load false 1 (.t 54)),xf 56 53 (.call 36 [(true, (.t 55))]),xf 57 53 (.un .not (.t 56)),xt 58 48 (.pick (.t 53) kt (.t 57)),xf 59 44 (.pick (.t 48) (.t 58) kf),xo 60 (.pick (.t 44) kt (.t 59))] (rng 36 24))
(.cond (.t 60) [60] (.seq (.reg [xo 2 (.anil 3 1)] [])
.ret) .skip))
(.reg [xm 61 3,xm 62 4,xo 63 (.mkl 3 1 [(.int .i64 0)] 1 [(0, (.t 62))] false),xo 64 (.app 3 1 8 (.t 61) (.t 63)),xm 3 64] (rng 61 4))) (.seq (.reg [xo 66 (.bin .eql 0 (.t 31) (ki 5)),xm 65 66] [66])
(.cond (.t 65) [65] (.seq (.seq (.reg [xm 67 4,xo 68 (.bin .eql 0 (.t 67) (ki 0)),xm 69 68,xf 70 69 (.faddr 1 (.t 5)),xf 71 69 (.load false 1 (.t 70)),xf 72 69 (.mov (.t 4)),xf 73 69 (.bin .sub 0 (.t 72) (ki 1)),xf 74 69 (.bin .neq 0 (.t 71) (.t 73)),xo 75 (.pick (.t 69) kt (.t 74)),xm 76 75,xf 77 76 (.faddr 2 (.t 5)),xf 78 76 (.load false 1 (.t 77)),xf 79 76 (.bin .neq 0 (.t 78) (ki 0)),xo 80 (.pick (.t 76) kt (.t 79))] (rng 67 13))
(.cond (.t 80) [80] (.seq (.reg [xo 2 (.anil 3 1)] [])
.ret) .skip))
(.reg [xm 81 3,xm 82 3,xm 83 4,xo 84 (.bin .sub 0 (.t 83) (ki 1)),xo 85 (.iaddr 1 (.t 82) (.t 84)),xo 86 (.load false 1 (.t 85)),xo 87 (.mkl 3 1 [(.int .i64 0)] 1 [(0, (.t 86))] false),xo 88 (.app 3 1 8 (.t 81) (.t 87)),xm 3 88] (rng 81 8))) (.seq (.seq (.reg [xo 90 (.bin .eql 0 (.t 31) (ki 3)),xm 89 90] [90])
(.cond (.t 89) [] .skip (.reg [xo 91 (.bin .eql 0 (.t 31) (ki 4)),xm 89 91] [91])))
(.cond (.t 89) [] (.seq (.seq (.dreg [xm 92 4,yo 93 (.bin .lss 0 (.t 92) (ki 2)) [0],ym 94 93 [0, 1],yf 95 94 (.faddr 2 (.t 5)) [0, 1, 2],yf 96 94 (.load false 1 (.t 95)) [0, 1, 2, 3],yf 97 94 (.mov (.t 4)) [0, 1, 2],yf 98 94 (.bin .sub 0 (.t 97) (ki 1)) [0, 1, 2, 5],yf 99 94 (.bin .neq 0 (.t 96) (.t 98)) [0, 1, 2, 3, 4, 5, 6],yo 100 (.pick (.t 94) kt (.t 99)) [0, 1, 2, 3, 4, 5, 6, 7],ym 101 100 [0, 1, 2, 3, 4, 5, 6, 7, 8],yf 102 101 (.mov (.t 3)) [0, 1, 2, 3, 4, 5, 6, 7, 8, 9],yf 103 101 (.mov (.t 4)) [0, 1, 2, 3, 4, 5, 6, 7, 8, 9],yf 104 101 (.bin .sub 0 (.t 103) (ki 1)) [0, 1, 2, 3, 4, 5, 6, 7, 8, 9, 11],yf 105 101 (.iaddr 1 (.t 102) (.t 104)) [0, 1, 2, 3, 4, 5, 6, 7, 8, 9, 10, 11, 12],yf 106 101 (.load false 1 (.t 105)) [0, 1, 2, 3, 4, 5, 6, 7, 8, 9, 10, 11, 12, 13],yf 107 101 (.bin .lss 0 (.t 106) (ki 1)) [0, 1, 2, 3, 4, 5, 6, 7, 8, 9, 10, 11, 12, 13, 14],yo 108 (.pick (.t 101) kt (.t 107)) [0, 1, 2, 3, 4, 5, 6, 7, 8, 9, 10, 11, 12, 13, 14, 15],ym 109 108 [0, 1, 2, 3, 4, 5, 6, 7, 8, 9, 10, 11, 12, 13, 14, 15, 16],yf 110 109 (.faddr 1 (.t 5)) [0, 1, 2, 3, 4, 5, 6, 7, 8, 9, 10, 11, 12, 13, 14, 15, 16, 17],yf 111 109 (.load false 1 (.t 110)) [0, 1, 2, 3, 4, 5, 6, 7, 8, 9, 10, 11, 12, 13, 14, 15, 16, 17, 18],yf 112 109 (.mov (.t 3)) [0, 1, 2, 3, 4, 5, 6, 7, 8, 9, 10, 11, 12, 13, 14, 15, 16, 17],yf 113 109 (.mov (.t 4)) [0, 1, 2, 3, 4, 5, 6, 7, 8, 9, 10, 11, 12, 13, 14, 15, 16, 17],yf 114 109 (.bin .sub 0 (.t 113) (ki 1)) [0, 1, 2, 3, 4, 5, 6, 7, 8, 9, 10, 11, 12, 13, 14, 15, 16, 17, 21],yf 115 109 (.iaddr 1 (.t 112) (.t 114)) [0, 1, 2, 3, 4, 5, 6, 7, 8, 9, 10, 11, 12, 13, 14, 15, 16, 17, 20, 21, 22],yf 116 109 (.load false 1 (.t 115)) [0, 1, 2, 3, 4, 5, 6, 7, 8, 9, 10, 11, 12, 13, 14, 15, 16, 17, 20, 21, 22, 23],yf 117 109 (.bin .sub 0 (.t 116) (ki 1)) [0, 1, 2, 3, 4, 5, 6, 7, 8, 9, 10, 11, 12, 13, 14, 15, 16, 17, 20, 21, 22, 23, 24],yf 118 109 (.bin .neq 0 (.t 111) (.t 117)) [0, 1, 2, 3, 4, 5, 6, 7, 8, 9, 10, 11, 12, 13, 14, 15, 16, 17, 18, 19, 20, 21, 22, 23, 24, 25],yo 119 (.pick (.t 109) kt (.t 118)) (rng 0 27)] (rng 92 27))
(.cond (.t 119) [119] (.seq (.reg [xo 2 (.anil 3 1)] [])
.ret) .skip))
(.reg [xm 120 3,xm 121 3,xo 122 (.faddr 1 (.t 5)),xo 123 (.load false 1 (.t 122)),xo 124 (.iaddr 1 (.t 121) (.t 123)),xo 125 (.load false 1 (.t 124)),xo 126 (.mkl 3 1 [(.int .i64 0)] 1 [(0, (.t 125))] false),xo 127 (.app 3 1 8 (.t 120) (.t 126)),xm 3 127] (rng 120 8))) (.seq (.reg [xo 2 (.anil 3 1)] [])
.ret))))))))))))
(.reg [xm 10 4,xo 11 (.bin .add 0 (.t 10) (ki 1)),xm 4 11] [10,11]))))))
(.seq (.reg [xm 128 3,xm 2 128] [128])
.ret))))
/-- caesura/caesuraref11.Begin -/
def fn36 : AFn := ⟨1, 129, c36, [(.t 2)], 0⟩
theorem fn36_body : fn36.body = c36 := rfl
theorem fn36_res : fn36.res = [(.t 2)] := rfl
theorem fn36_keep : fn36.keep = 0 := rfl
def c35 : ACode :=
(.seq (.reg [xo 2 (.anil 39 5)] [])
(.seq (.seq (.reg [xm 3 0,xo 4 (.bin .eql 0 (.t 3) (ki 1))] [3])
(.cond (.t 4) [4] (.seq (.reg [⟨(some 5), none, .agg [(.int .i64 0),(.int .i64 0),(.int .i64 0),(.list 2 []),(.str ⟨#[]⟩)] [(0, 1, (ki 1))], []⟩,⟨(some 6), none, .mkl 39 5 [(.int .i64 0),(.int .i64 0),(.int .i64 0),(.list 2 []),(.str ⟨#[]⟩)] 1 [(0, (.t 5))] false, []⟩,xm 2 6] [5,6])
.ret) .skip))
(.seq (.reg [⟨(some 7), none, .agg [(.int .i64 0),(.int .i64 0),(.int .i64 0),(.list 2 []),(.str ⟨#[]⟩)] [(0, 1, (ki 0))], []⟩,⟨(some 8), none, .mkl 39 5 [(.int .i64 0),(.int .i64 0),(.int .i64 0),(.list 2 []),(.str ⟨#[]⟩)] 1 [(0, (.t 7))] false, []⟩,xm 2 8] [7,8])
.ret)))
/-- caesura/caesuraref11.Leaf -/
def fn35 : AFn := ⟨1, 9, c35, [(.t 2)], 0⟩
theorem fn35_body : fn35.body = c35 := rfl
theorem fn35_res : fn35.res = [(.t 2)] := rfl
theorem fn35_keep : fn35.keep = 0 := rfl
def c42 : ACode :=
(.seq (.reg [xo 4 (.anil 39 5)] [])
(.seq (.seq (.reg [xm 7 0,xo 8 (.call 17 [(true, (.t 7))]),xo 9 (.un .not (.t 8)),xm 10 9,xf 11 10 (.mov (.t 1)),xf 12 10 (.call 17 [(true, (.t 11))]),xf 13 10 (.un .not (.t 12)),xo 14 (.pick (.t 10) kt (.t 13))] (rng 7 7))
(.cond (.t 14) [14] (.seq (.reg [xo 4 (.anil 39 5)] [])
.ret) .skip))
(.seq (.block 0 (.seq (.reg [xm 16 0,xo 17 (.call 50 [(true, (.t 16))]),xo 18 (.bin .eql 0 (.t 17) (ki 0)),xm 19 18,xf 20 19 (.mov (.t 1)),xf 21 19 (.call 50 [(true, (.t 20))]),xf 22 19 (.bin .eql 0 (.t 21) (ki 0)),xo 23 (.pick (.t 19) kt (.t 22)),xm 15 23] (rng 16 8))
(.cond (.t 15) [15] (.seq (.reg [xo 24 (.call 30 [(true, (ki 0))]),xm 4 24] [24])
.ret) (.seq (.reg [xm 26 0,xo 27 (.call 50 [(true, (.t 26))]),xo 28 (.bin .eql 0 (.t 27) (ki 1)),xm 25 28] [26,27,28])
(.cond (.t 25) [25] (.seq (.reg [xm 29 1,xm 4 29] [29])
.ret) (.seq (.reg [xm 31 1,xo 32 (.call 50 [(true, (.t 31))]),xo 33 (.bin .eql 0 (.t 32) (ki 1)),xm 30 33] [31,32,33])
(.cond (.t 30) [30] (.seq (.reg [xm 34 0,xm 4 34] [34])
.ret) (.seq (.reg [xm 36 1,xo 37 (.call 50 [(true, (.t 36))]),xo 38 (.bin .eql 0 (.t 37) (ki 3)),xm 35 38] [36,37,38])
(.cond (.t 35) [35] (.seq (.reg [xm 39 1,xo 40 (.call 51 [(true, (.t 39))]),xo 5 (.new [(.list 5 []),(.list 5 []),(.bool false)]),xn (.store false 3 (.t 5) (.t 40))] [39,40])
(.seq (.reg [xm 41 0,xo 42 (.faddr 0 (.t 5)),xo 43 (.load false 1 (.t 42)),xo 44 (.call 31 [(true, (.t 41)),(true, (.t 43))]),xm 6 44] (rng 41 4))
(.seq (.seq (.reg [xm 45 6,xo 46 (.len 1 (.t 45)),xo 47 (.bin .eql 0 (.t 46) (ki 0))] [45,46])
(.cond (.t 47) [47] (.seq (.reg [xo 4 (.anil 39 5)] [])
.ret) .skip))
(.seq (.reg [xm 48 6,xo 49 (.faddr 1 (.t 5)),xo 50 (.load false 1 (.t 49)),xo 51 (.call 31 [(true, (.t 48)),(true, (.t 50))]),xm 4 51] (rng 48 4))
.ret)))) .skip)))))))))
(.seq (.reg [xm 52 0,xm 53 1,xo 54 (.call 21 [(true, (ki 3)),(true, (.t 52)),(true, (.t 53))]),xm 4 54] [52,53,54])
.ret))))
/-- caesura/caesuraref12.Cat -/
def fn42 : AFn := ⟨2, 55, c42, [(.t 4)], 0⟩
theorem fn42_body : fn42.body = c42 := rfl
theorem fn42_res : fn42.res = [(.t 4)] := rfl
theorem fn42_keep : fn42.keep = 0 := rfl
def c70 : ACode :=
(.seq (.reg [xo 6 (.anil 39 5)] [])
(.seq (.reg [xo 7 (.anil 39 5)] [])
(.seq (.seq (.reg [xm 10 1,xm 8 10] [10])
(.block 0 (.loop false (.seq (.seq (.reg [xm 11 8,xm 12 2,xo 13 (.bin .leq 0 (.t 11) (.t 12))] [11,12])
(.cond (.t 13) [13] .skip (.exit 0)))
(.seq (.block 1 (.seq (.reg [xm 16 0,xm 17 8,xo 18 (.iaddr 5 (.t 16) (.t 17)),xo 19 (.load true 5 (.t 18)),⟨(some 9), none, .new [(.int .i64 0),(.int .i64 0),(.int .i64 0),(.list 2 []),(.str ⟨#[]⟩)], []⟩,xn (.store false 5 (.t 9) (.t 19))] (rng 16 4))
(.seq (.seq (.reg [xo 20 (.faddr 0 (.t 9)),xo 21 (.load false 1 (.t 20))] [20])
(.block 2 (.seq (.reg [xo 23 (.bin .eql 0 (.t 21) (ki 5)),xm 22 23] [23])
(.cond (.t 22) [22] (.reg [xo 24 (.faddr 1 (.t 9)),xo 25 (.load false 1 (.t 24)),xm 26 1,xo 27 (.bin .sub 0 (.t 25) (.t 26)),xo 28 (.faddr 1 (.t 9)),xn (.store false 1 (.t 28) (.t 27))] (rng 24 5)) (.seq (.seq (.reg [xo 30 (.bin .eql 0 (.t 21) (ki 3)),xm 29 30] [30])
(.cond (.t 29) [] .skip (.reg [xo 31 (.bin .eql 0 (.t 21) (ki 4)),xm 29 31] [31])))
(.cond (.t 29) [] (.seq (.reg [xo 32 (.faddr 1 (.t 9)),xo 33 (.load false 1 (.t 32)),xm 34 1,xo 35 (.bin .sub 0 (.t 33) (.t 34)),xo 36 (.faddr 1 (.t 9)),xn (.store false 1 (.t 36) (.t 35))] (rng 32 5))
(.reg [xo 37 (.faddr 2 (.t 9)),xo 38 (.load false 1 (.t 37)),xm 39 1,xo 40 (.bin .sub 0 (.t 38) (.t 39)),xo 41 (.faddr 2 (.t 9)),xn (.store false 1 (.t 41) (.t 40))] (rng 37 5))) .skip))))))
(.seq (.reg [xo 42 (.mkl 60 2 [(.int .i64 0),(.int .i64 0)] 0 [] false),xo 43 (.faddr 3 (.t 9)),xo 44 (.load false 1 (.t 43)),xo 45 (.app 60 2 16 (.t 42) (.t 44)),xo 46 (.faddr 3 (.t 9)),xn (.store false 1 (.t 46) (.t 45))] (rng 42 5))
(.reg [xm 47 7,xo 48 (.load true 5 (.t 9)),⟨(some 49), none, .mkl 39 5 [(.int .i64 0),(.int .i64 0),(.int .i64 0),(.list 2 []),(.str ⟨#[]⟩)] 1 [(0, (.t 48))] false, []⟩,xo 50 (.app 39 5 64 (.t 47) (.t 49)),xm 7 50] (rng 47 4))))))
(.reg [xm 14 8,xo 15 (.bin .add 0 (.t 14) (ki 1)),xm 8 15] [14,15]))))))
(.seq (.reg [xm 51 7,xm 6 51] [51])
.ret))))
/-- caesura/caesuraref11.Beneath -/
def fn70 : AFn := ⟨3, 52, c70, [(.t 6)], 1⟩
theorem fn70_body : fn70.body = c70 := rfl
theorem fn70_res : fn70.res = [(.t 6)] := rfl
theorem fn70_keep : fn70.keep = 1 := rfl
def c43 : ACode :=
(.seq (.reg [xo 4 (.anil 39 5)] [])
(.seq (.seq (.reg [xm 5 0,xo 6 (.call 17 [(true, (.t 5))]),xo 7 (.un .not (.t 6)),xm 8 7,xf 9 8 (.mov (.t 1)),xf 10 8 (.call 17 [(true, (.t 9))]),xf 11 8 (.un .not (.t 10)),xo 12 (.pick (.t 8) kt (.t 11))] (rng 5 7))
(.cond (.t 12) [12] (.seq (.reg [xo 4 (.anil 39 5)] [])
.ret) .skip))
(.seq (.seq (.reg [xm 13 0,xo 14 (.call 50 [(true, (.t 13))]),xo 15 (.bin .eql 0 (.t 14) (ki 0))] [13,14])
(.cond (.t 15) [15] (.seq (.reg [xm 16 1,xm 4 16] [16])
.ret) .skip))
(.seq (.seq (.reg [xm 17 1,xo 18 (.call 50 [(true, (.t 17))]),xo 19 (.bin .eql 0 (.t 18) (ki 0))] [17,18])
(.cond (.t 19) [19] (.seq (.reg [xm 20 0,xm 4 20] [20])
.ret) .skip))
(.seq (.reg [xm 21 0,xo 22 (.call 53 [(true, (.t 21))]),xm 23 1,xo 24 (.call 53 [(true, (.t 23))]),xo 25 (.app 23 1 24 (.t 22) (.t 24)),xo 26 (.call 52 [(true, (.t 25))]),xm 4 26] (rng 21 6))
.ret)))))
/-- caesura/caesuraref12.Alt -/
def fn43 : AFn := ⟨2, 27, c43, [(.t 4)], 0⟩
theorem fn43_body : fn43.body = c43 := rfl
theorem fn43_res : fn43.res = [(.t 4)] := rfl
theorem fn43_keep : fn43.keep = 0 := rfl
def c63 : ACode :=
(.seq (.reg [xo 4 (.mov kf)] [])
(.seq (.seq (.reg [xm 6 0,xo 7 (.len 1 (.t 6)),xm 8 1,xo 9 (.len 1 (.t 8)),xo 10 (.bin .neq 0 (.t 7) (.t 9))] (rng 6 4))
(.cond (.t 10) [10] (.seq (.reg [xo 4 (.mov kf)] [])
.ret) .skip))
(.seq (.seq (.reg [xo 5 (.mov (ki 0))] [])
(.block 0 (.loop false (.seq (.seq (.reg [xm 11 5,xm 12 0,xo 13 (.len 1 (.t 12)),xo 14 (.bin .lss 0 (.t 11) (.t 13))] [11,12,13])
(.cond (.t 14) [14] .skip (.exit 0)))
(.seq (.block 1 (.seq (.dreg [xm 17 0,xm 18 5,yo 19 (.iaddr 2 (.t 17) (.t 18)) [0, 1],yo 20 (.load true 2 (.t 19)) [0, 1, 2],xm 21 1,xm 22 5,yo 23 (.iaddr 2 (.t 21) (.t 22)) [4, 5],yo 24 (.load true 2 (.t 23)) [4, 5, 6],yo 25 (.bins .neq [0,0] (.t 20) (.t 24)) (rng 0 8)] (rng 17 8))
(.cond (.t 25) [25] (.seq (.reg [xo 4 (.mov kf)] [])
.ret) .skip)))
(.reg [xm 15 5,xo 16 (.bin .add 0 (.t 15) (ki 1)),xm 5 16] [15,16]))))))
(.seq (.reg [xo 4 (.mov kt)] [])
.ret))))
/-- caesura/caesurakeep.Set -/
def fn63 : AFn := ⟨2, 26, c63, [(.t 4)], 0⟩
theorem fn63_body : fn63.body = c63 := rfl
theorem fn63_res : fn63.res = [(.t 4)] := rfl
theorem fn63_keep : fn63.keep = 0 := rfl
def c1150 : ACode :=
(.seq (.reg [xo 2 (.anil 4 1)] [])
(.seq (.reg [xm 6 0,xo 7 (.len 1 (.t 6)),xo 8 (.mks 4 1 1 [(.bool false)] (.t 7)),xm 3 8] [6,7,8])
(.seq (.seq (.reg [xm 9 0,xo 10 (.len 1 (.t 9)),xo 11 (.mov (ki 0))] [])
(.block 0 (.loop false (.seq (.reg [xo 12 (.bin .lss 0 (.t 11) (.t 10))] [])
(.seq (.cond (.t 12) [12] .skip (.exit 0))
(.seq (.block 1 (.seq (.reg [xm 13 11,xo 14 (.iaddr 5 (.t 9) (.t 11)),xo 15 (.load true 5 (.t 14)),⟨(some 5), none, .new [(.int .i64 0),(.int .i64 0),(.int .i64 0),(.list 2 []),(.str ⟨#[]⟩)], []⟩,xm 4 13,xn (.store false 5 (.t 5) (.t 15))] [13,14,15])
(.seq (.reg [xo 16 (.faddr 0 (.t 5)),xo 17 (.load false 1 (.t 16))] [16])
(.block 2 (.seq (.seq (.reg [xo 19 (.bin .eql 0 (.t 17) (ki 1)),xm 18 19] [19])
(.cond (.t 18) [] .skip (.reg [xo 20 (.bin .eql 0 (.t 17) (ki 5)),xm 18 20] [20])))
(.cond (.t 18) [] (.reg [xm 21 3,xm 22 4,xo 23 (.iaddr 1 (.t 21) (.t 22)),xn (.store false 1 (.t 23) kt)] [21,22,23]) (.seq (.reg [xo 25 (.bin .eql 0 (.t 17) (ki 3)),xm 24 25] [25])
(.cond (.t 24) [24] (.reg [xm 26 3,xm 27 4,xm 28 3,xo 29 (.faddr 1 (.t 5)),xo 30 (.load false 1 (.t 29)),xo 31 (.iaddr 1 (.t 28) (.t 30)),xo 32 (.load false 1 (.t 31)),xm 33 32,xt 34 33 (.mov (.t 3)),xt 35 33 (.faddr 2 (.t 5)),xt 36 33 (.load false 1 (.t 35)),xt 37 33 (.iaddr 1 (.t 34) (.t 36)),xt 38 33 (.load false 1 (.t 37)),xo 39 (.pick (.t 33) (.t 38) kf),xo 40 (.iaddr 1 (.t 26) (.t 27)),xn (.store false 1 (.t 40) (.t 39))] (rng 26 15)) (.seq (.reg [xo 42 (.bin .eql 0 (.t 17) (ki 4)),xm 41 42] [42])
(.cond (.t 41) [41] (.reg [xm 43 3,xm 44 4,xm 45 3,xo 46 (.faddr 1 (.t 5)),xo 47 (.load false 1 (.t 46)),xo 48 (.iaddr 1 (.t 45) (.t 47)),xo 49 (.load false 1 (.t 48)),xm 50 49,xf 51 50 (.mov (.t 3)),xf 52 50 (.faddr 2 (.t 5)),xf 53 50 (.load false 1 (.t 52)),xf 54 50 (.iaddr 1 (.t 51) (.t 53)),xf 55 50 (.load false 1 (.t 54)),xo 56 (.pick (.t 50) kt (.t 55)),xo 57 (.iaddr 1 (.t 43) (.t 44)),xn (.store false 1 (.t 57) (.t 56))] (rng 43 15)) .skip))))))))))
(.reg [xo 58 (.bin .add 0 (.t 11) (ki 1)),xm 11 58] [58])))))))
(.seq (.reg [xm 59 3,xm 2 59] [59])
.ret))))
/-- caesura/derive.nulls -/
def fn1150 : AFn := ⟨1, 60, c1150, [(.t 2)], 0⟩
theorem fn1150_body : fn1150.body = c1150 := rfl
theorem fn1150_res : fn1150.res = [(.t 2)] := rfl
theorem fn1150_keep : fn1150.keep = 0 := rfl
def c57 : ACode :=
(.seq (.reg [xo 2 (.mov kf)] [])
(.seq (.seq (.reg [xo 3 (.mov (ki 0))] [])
(.block 0 (.loop false (.seq (.seq (.reg [xm 5 3,xm 6 0,xo 7 (.len 1 (.t 6)),xo 8 (.bin .lss 0 (.t 5) (.t 7))] [5,6,7])
(.cond (.t 8) [8] .skip (.exit 0)))
(.seq (.block 1 (.seq (.seq (.dreg [xm 11 0,xm 12 3,yo 13 (.iaddr 2 (.t 11) (.t 12)) [0, 1],yo 14 (.faddr 0 (.t 13)) [0, 1, 2],yo 15 (.load false 1 (.t 14)) [0, 1, 2, 3],yo 16 (.call 18 [(true, (.t 15))]) [0, 1, 2, 3, 4],yo 17 (.un .not (.t 16)) [0, 1, 2, 3, 4, 5],ym 18 17 [0, 1, 2, 3, 4, 5, 6],yf 19 18 (.mov (.t 0)) [0, 1, 2, 3, 4, 5, 6, 7],yf 20 18 (.mov (.t 3)) [0, 1, 2, 3, 4, 5, 6, 7],yf 21 18 (.iaddr 2 (.t 19) (.t 20)) [0, 1, 2, 3, 4, 5, 6, 7, 8, 9],yf 22 18 (.faddr 1 (.t 21)) [0, 1, 2, 3, 4, 5, 6, 7, 8, 9, 10],yf 23 18 (.load false 1 (.t 22)) [0, 1, 2, 3, 4, 5, 6, 7, 8, 9, 10, 11],yf 24 18 (.call 18 [(true, (.t 23))]) [0, 1, 2, 3, 4, 5, 6, 7, 8, 9, 10, 11, 12],yf 25 18 (.un .not (.t 24)) [0, 1, 2, 3, 4, 5, 6, 7, 8, 9, 10, 11, 12, 13],yo 26 (.pick (.t 18) kt (.t 25)) [0, 1, 2, 3, 4, 5, 6, 7, 8, 9, 10, 11, 12, 13, 14],ym 27 26 [0, 1, 2, 3, 4, 5, 6, 7, 8, 9, 10, 11, 12, 13, 14, 15],yf 28 27 (.mov (.t 0)) [0, 1, 2, 3, 4, 5, 6, 7, 8, 9, 10, 11, 12, 13, 14, 15, 16],yf 29 27 (.mov (.t 3)) [0, 1, 2, 3, 4, 5, 6, 7, 8, 9, 10, 11, 12, 13, 14, 15, 16],yf 30 27 (.iaddr 2 (.t 28) (.t 29)) [0, 1, 2, 3, 4, 5, 6, 7, 8, 9, 10, 11, 12, 13, 14, 15, 16, 17, 18],yf 31 27 (.faddr 1 (.t 30)) [0, 1, 2, 3, 4, 5, 6, 7, 8, 9, 10, 11, 12, 13, 14, 15, 16, 17, 18, 19],yf 32 27 (.load false 1 (.t 31)) [0, 1, 2, 3, 4, 5, 6, 7, 8, 9, 10, 11, 12, 13, 14, 15, 16, 17, 18, 19, 20],yf 33 27 (.mov (.t 0)) [0, 1, 2, 3, 4, 5, 6, 7, 8, 9, 10, 11, 12, 13, 14, 15, 16],yf 34 27 (.mov (.t 3)) [0, 1, 2, 3, 4, 5, 6, 7, 8, 9, 10, 11, 12, 13, 14, 15, 16],yf 35 27 (.iaddr 2 (.t 33) (.t 34)) [0, 1, 2, 3, 4, 5, 6, 7, 8, 9, 10, 11, 12, 13, 14, 15, 16, 22, 23],yf 36 27 (.faddr 0 (.t 35)) [0, 1, 2, 3, 4, 5, 6, 7, 8, 9, 10, 11, 12, 13, 14, 15, 16, 22, 23, 24],yf 37 27 (.load false 1 (.t 36)) [0, 1, 2, 3, 4, 5, 6, 7, 8, 9, 10, 11, 12, 13, 14, 15, 16, 22, 23, 24, 25],yf 38 27 (.bin .lss 0 (.t 32) (.t 37)) [0, 1, 2, 3, 4, 5, 6, 7, 8, 9, 10, 11, 12, 13, 14, 15, 16, 17, 18, 19, 20, 21, 22, 23, 24, 25, 26],yo 39 (.pick (.t 27) kt (.t 38)) (rng 0 28)] (rng 11 28))
(.cond (.t 39) [39] (.seq (.reg [xo 2 (.mov kf)] [])
.ret) .skip))
(.seq (.reg [xm 40 3,xo 41 (.bin .gtr 0 (.t 40) (ki 0))] [40])
(.cond (.t 41) [41] (.seq (.reg [xm 42 0,xm 43 3,xo 44 (.bin .sub 0 (.t 43) (ki 1)),xo 45 (.iaddr 2 (.t 42) (.t 44)),xo 46 (.faddr 1 (.t 45)),xo 47 (.load false 1 (.t 46)),xo 48 (.call 54 [(true, (.t 47))]),xo 4 (.new [(.int .i64 0),(.bool false)]),xn (.store false 2 (.t 4) (.t 48))] (rng 42 7))
(.seq (.dreg [xo 49 (.faddr 1 (.t 4)),yo 50 (.load false 1 (.t 49)) [0],yo 51 (.un .not (.t 50)) [0, 1],ym 52 51 [0, 1, 2],yf 53 52 (.mov (.t 0)) [0, 1, 2, 3],yf 54 52 (.mov (.t 3)) [0, 1, 2, 3],yf 55 52 (.iaddr 2 (.t 53) (.t 54)) [0, 1, 2, 3, 4, 5],yf 56 52 (.faddr 0 (.t 55)) [0, 1, 2, 3, 4, 5, 6],yf 57 52 (.load false 1 (.t 56)) [0, 1, 2, 3, 4, 5, 6, 7],yf 58 52 (.faddr 0 (.t 4)) [0, 1, 2, 3],yf 59 52 (.load false 1 (.t 58)) [0, 1, 2, 3, 9],yf 60 52 (.bin .leq 0 (.t 57) (.t 59)) [0, 1, 2, 3, 4, 5, 6, 7, 8, 9, 10],yo 61 (.pick (.t 52) kt (.t 60)) (rng 0 12)] (rng 49 12))
(.cond (.t 61) [61] (.seq (.reg [xo 2 (.mov kf)] [])
.ret) .skip))) .skip))))
(.reg [xm 9 3,xo 10 (.bin .add 0 (.t 9) (ki 1)),xm 3 10] [9,10]))))))
(.seq (.reg [xo 2 (.mov kt)] [])
.ret)))
/-- caesura/caesuraref03.Good -/
def fn57 : AFn := ⟨1, 62, c57, [(.t 2)], 0⟩
theorem fn57_body : fn57.body = c57 := rfl
theorem fn57_res : fn57.res = [(.t 2)] := rfl
theorem fn57_keep : fn57.keep = 0 := rfl
def c72 : ACode :=
(.seq (.reg [xo 8 (.mov kf)] [])
(.seq (.reg [xm 13 1,xm 14 2,xm 15 3,xo 16 (.agg [(.int .i64 0),(.int .i64 0),(.int .i64 0)] [(0, 1, (.t 13)),(1, 1, (.t 14)),(2, 1, (.t 15))]),xo 9 (.new [(.int .i64 0),(.int .i64 0),(.int .i64 0)]),xn (.store false 3 (.t 9) (.t 16))] (rng 13 4))
(.seq (.seq (.dreg [xm 18 0,yo 19 (.nilck (.t 18)) [0],yo 20 (.faddr 2 (.t 19)) [0, 1],yo 21 (.load false 1 (.t 20)) [0, 1, 2],xo 22 (.load true 3 (.t 9)),yo 23 (.look 3 [0,0,0] (.int .i64 0) true (.t 21) (.t 22)) [0, 1, 2, 3, 4],ym 17 23 [0, 1, 2, 3, 4, 5],yo 24 (.ext (.t 17) 0) [0, 1, 2, 3, 4, 5, 6],yo 25 (.ext (.t 17) 1) [0, 1, 2, 3, 4, 5, 6],ym 10 24 [0, 1, 2, 3, 4, 5, 6, 7],ym 11 25 (rng 0 10)] (rng 17 9))
(.seq (.reg [xm 26 11] [])
(.cond (.t 26) [26] (.seq (.reg [xm 27 10,xo 28 (.bin .eql 0 (.t 27) (ki 1)),xm 8 28] [27,28])
.ret) .skip)))
(.seq (.reg [xm 29 0,xm 30 0,xo 31 (.nilck (.t 30)),xo 32 (.faddr 0 (.t 31)),xo 33 (.load false 1 (.t 32)),xm 34 1,xo 35 (.iaddr 5 (.t 33) (.t 34)),xo 36 (.load true 5 (.t 35)),xm 37 1,xm 38 2,xm 39 3,xo 40 (.call 55 [(false, (.t 29)),(true, (.t 36)),(true, (.t 37)),(true, (.t 38)),(true, (.t 39))]),xm 12 40] (rng 29 12))
(.seq (.dreg [xm 41 0,yo 42 (.nilck (.t 41)) [0],yo 43 (.faddr 2 (.t 42)) [0, 1],yo 44 (.load false 1 (.t 43)) [0, 1, 2],xo 45 (.load true 3 (.t 9)),⟨none, none, .mset 3 [0,0,0] (.t 44) (.t 45) (ki 0), [0, 1, 2, 3, 4]⟩] (rng 41 5))
(.seq (.seq (.reg [xm 46 12] [])
(.cond (.t 46) [46] (.dreg [xm 47 0,yo 48 (.nilck (.t 47)) [0],yo 49 (.faddr 2 (.t 48)) [0, 1],yo 50 (.load false 1 (.t 49)) [0, 1, 2],xo 51 (.load true 3 (.t 9)),⟨none, none, .mset 3 [0,0,0] (.t 50) (.t 51) (ki 1), [0, 1, 2, 3, 4]⟩] (rng 47 5)) .skip))
(.seq (.reg [xm 52 12,xm 8 52] [52])
.ret)))))))
/-- (*caesura/tree.taker).takes -/
def fn72 : AFn := ⟨4, 53, c72, [(.t 8)], 0⟩
theorem fn72_body : fn72.body = c72 := rfl
theorem fn72_res : fn72.res = [(.t 8)] := rfl
theorem fn72_keep : fn72.keep = 0 := rfl
def c1151 : ACode :=
(.seq (.reg [xo 4 (.new [(.int .i64 0),(.int .i64 0)])] [])
(.seq (.reg [xm 7 0,xo 8 (.call 56 [(true, (.t 7))]),xm 6 8,xo 9 (.ext (.t 6) 0),xo 10 (.ext (.t 6) 1),xm 5 9,xn (.store false 2 (.t 4) (.t 10))] (rng 6 5))
(.seq (.seq (.reg [xo 11 (.faddr 0 (.t 4)),xo 12 (.load false 1 (.t 11)),xo 13 (.bin .neq 0 (.t 12) (ki 0))] [11,12])
(.cond (.t 13) [13] (.seq (.reg [xo 14 (.load true 2 (.t 4)),xn (.store false 2 (.t 4) (.t 14))] [14])
.ret) .skip))
(.seq (.reg [xo 15 (.mkf 57 [(.t 4)])] [15])
(.seq (.reg [xm 16 1,xm 17 5,xm 18 0,xo 19 (.len 0 (.t 18)),xo 20 .mkm,xo 21 (.agg [(.list 3 []),(.int .i64 0), .nilm, (.int .i64 0),(.int .i64 0)] [(0, 1, (.t 17)),(1, 1, (.t 19)),(2, 1, (.t 20))]),xo 22 (.box (.t 21)),xo 23 (.callv (.t 16) [(false, (.t 22))])] (rng 16 8))
(.seq (.reg [xo 24 (.agg [(.int .i64 0),(.int .i64 0)] []),xn (.store false 2 (.t 4) (.t 24))] [24])
.ret))))))
/-- caesura/parse.read -/
def fn1151 : AFn := ⟨2, 25, c1151, [(.c 4 true 2)], 0⟩
theorem fn1151_body : fn1151.body = c1151 := rfl
theorem fn1151_res : fn1151.res = [(.c 4 true 2)] := rfl
theorem fn1151_keep : fn1151.keep = 0 := rfl
def c1152 : ACode :=
(.seq (.reg [xm 4 0,xo 5 (.call 40 [(false, (.t 4))]),xm 3 5] [4,5])
(.seq (.reg [xm 6 0,xo 7 (.call 41 [(false, (.t 6))])] [6,7])
(.reg [xm 8 3,xn (.store false 1 (.t 1) (.t 8))] [8])))
/-- caesura/parse.Tree$1 -/
def fn1152 : AFn := ⟨2, 9, c1152, [], 0⟩
theorem fn1152_body : fn1152.body = c1152 := rfl
theorem fn1152_res : fn1152.res = [] := rfl
theorem fn1152_keep : fn1152.keep = 0 := rfl
def c1153 : ACode :=
(.seq (.reg [xo 2 (.anil 39 5)] [])
(.seq (.reg [xm 4 0,xo 5 (.call 58 [(false, (.t 4))]),xm 3 5] [4,5])
(.seq (.block 0 (.loop false (.seq (.seq (.reg [xm 6 0,⟨(some 7), none, .mkl 9 1 [(.str ⟨#[]⟩)] 1 [(0, (.k (.str ⟨#[124]⟩)))] false, []⟩,xo 8 (.call 59 [(false, (.t 6)),(true, (ki 3)),(true, (.t 7))])] [6,7])
(.cond (.t 8) [8] .skip (.exit 0)))
(.block 1 (.seq (.reg [xm 9 0,xo 10 (.call 60 [(false, (.t 9)),(true, (ki 3)),(true, (.k (.list 1 [])))])] [9,10])
(.reg [xm 11 0,xm 12 3,xm 13 0,xo 14 (.call 58 [(false, (.t 13))]),xo 15 (.call 62 [(true, (.t 12)),(true, (.t 14))]),xo 16 (.ext (.t 15) 0),xo 17 (.ext (.t 15) 1),xo 18 (.call 61 [(false, (.t 11)),(true, (.t 16)),(true, (.t 17))]),xm 3 18] (rng 11 8)))))))
(.seq (.reg [xm 19 3,xm 2 19] [19])
.ret))))
/-- (*caesura/parse.reader).expression -/
def fn1153 : AFn := ⟨1, 20, c1153, [(.t 2)], 0⟩
theorem fn1153_body : fn1153.body = c1153 := rfl
theorem fn1153_res : fn1153.res = [(.t 2)] := rfl
theorem fn1153_keep : fn1153.keep = 0 := rfl
def c1154 : ACode :=
(.seq (.reg [xm 2 0,xo 3 (.nilck (.t 2)),xo 4 (.faddr 0 (.t 3)),xo 5 (.load false 1 (.t 4)),xo 6 (.len 1 (.t 5)),xo 7 (.bin .gtr 0 (.t 6) (ki 0))] (rng 2 5))
(.cond (.t 7) [7] (.reg [xm 8 0,xo 9 (.call 64 [(false, (.t 8))]),xo 10 (.call 63 [(true, (ki 11)),(true, (.t 9))])] [8,9,10]) .skip))
/-- (*caesura/parse.reader).over -/
def fn1154 : AFn := ⟨1, 11, c1154, [], 0⟩
theorem fn1154_body : fn1154.body = c1154 := rfl
theorem fn1154_res : fn1154.res = [] := rfl
theorem fn1154_keep : fn1154.keep = 0 := rfl
def c71 : ACode :=
(.seq (.reg [xo 2 (.anil 3 1),xo 3 (.mov kf)] [])
(.seq (.reg [xm 7 0,xo 8 (.len 1 (.t 7)),xo 9 (.mks 3 1 8 [(.int .i64 0)] (.t 8)),xm 4 9] [7,8,9])
(.seq (.seq (.reg [xm 10 0,xo 11 (.len 1 (.t 10)),xo 12 (.mov (ki 0))] [])
(.block 0 (.loop false (.seq (.reg [xo 13 (.bin .lss 0 (.t 12) (.t 11))] [])
(.seq (.cond (.t 13) [13] .skip (.exit 0))
(.seq (.block 1 (.seq (.reg [xm 14 12,xo 15 (.iaddr 5 (.t 10) (.t 12)),xo 16 (.load true 5 (.t 15)),⟨(some 6), none, .new [(.int .i64 0),(.int .i64 0),(.int .i64 0),(.list 2 []),(.str ⟨#[]⟩)], []⟩,xm 5 14,xn (.store false 5 (.t 6) (.t 16))] [14,15,16])
(.seq (.reg [xo 17 (.faddr 0 (.t 6)),xo 18 (.load false 1 (.t 17))] [17])
(.block 2 (.seq (.seq (.reg [xo 27 (.bin .eql 0 (.t 18) (ki 3)),xm 26 27] [27])
(.cond (.t 26) [] .skip (.reg [xo 28 (.bin .eql 0 (.t 18) (ki 4)),xm 26 28] [28])))
(.cond (.t 26) [] (.seq (.seq (.dreg [xm 29 5,yo 30 (.bin .lss 0 (.t 29) (ki 2)) [0],ym 31 30 [0, 1],yf 32 31 (.faddr 2 (.t 6)) [0, 1, 2],yf 33 31 (.load false 1 (.t 32)) [0, 1, 2, 3],yf 34 31 (.mov (.t 5)) [0, 1, 2],yf 35 31 (.bin .sub 0 (.t 34) (ki 1)) [0, 1, 2, 5],yf 36 31 (.bin .neq 0 (.t 33) (.t 35)) [0, 1, 2, 3, 4, 5, 6],yo 37 (.pick (.t 31) kt (.t 36)) [0, 1, 2, 3, 4, 5, 6, 7],ym 38 37 [0, 1, 2, 3, 4, 5, 6, 7, 8],yf 39 38 (.faddr 1 (.t 6)) [0, 1, 2, 3, 4, 5, 6, 7, 8, 9],yf 40 38 (.load false 1 (.t 39)) [0, 1, 2, 3, 4, 5, 6, 7, 8, 9, 10],yf 41 38 (.mov (.t 4)) [0, 1, 2, 3, 4, 5, 6, 7, 8, 9],yf 42 38 (.faddr 2 (.t 6)) [0, 1, 2, 3, 4, 5, 6, 7, 8, 9],yf 43 38 (.load false 1 (.t 42)) [0, 1, 2, 3, 4, 5, 6, 7, 8, 9, 13],yf 44 38 (.iaddr 1 (.t 41) (.t 43)) [0, 1, 2, 3, 4, 5, 6, 7, 8, 9, 12, 13, 14],yf 45 38 (.load false 1 (.t 44)) [0, 1, 2, 3, 4, 5, 6, 7, 8, 9, 12, 13, 14, 15],yf 46 38 (.bin .sub 0 (.t 45) (ki 1)) [0, 1, 2, 3, 4, 5, 6, 7, 8, 9, 12, 13, 14, 15, 16],yf 47 38 (.bin .neq 0 (.t 40) (.t 46)) [0, 1, 2, 3, 4, 5, 6, 7, 8, 9, 10, 11, 12, 13, 14, 15, 16, 17],yo 48 (.pick (.t 38) kt (.t 47)) [0, 1, 2, 3, 4, 5, 6, 7, 8, 9, 10, 11, 12, 13, 14, 15, 16, 17, 18],ym 49 48 [0, 1, 2, 3, 4, 5, 6, 7, 8, 9, 10, 11, 12, 13, 14, 15, 16, 17, 18, 19],yf 50 49 (.faddr 1 (.t 6)) [0, 1, 2, 3, 4, 5, 6, 7, 8, 9, 10, 11, 12, 13, 14, 15, 16, 17, 18, 19, 20],yf 51 49 (.load false 1 (.t 50)) [0, 1, 2, 3, 4, 5, 6, 7, 8, 9, 10, 11, 12, 13, 14, 15, 16, 17, 18, 19, 20, 21],yf 52 49 (.bin .lss 0 (.t 51) (ki 0)) [0, 1, 2, 3, 4, 5, 6, 7, 8, 9, 10, 11, 12, 13, 14, 15, 16, 17, 18, 19, 20, 21, 22],yo 53 (.pick (.t 49) kt (.t 52)) [0, 1, 2, 3, 4, 5, 6, 7, 8, 9, 10, 11, 12, 13, 14, 15, 16, 17, 18, 19, 20, 21, 22, 23],ym 54 53 [0, 1, 2, 3, 4, 5, 6, 7, 8, 9, 10, 11, 12, 13, 14, 15, 16, 17, 18, 19, 20, 21, 22, 23, 24],yf 55 54 (.load true 5 (.t 6)) [0, 1, 2, 3, 4, 5, 6, 7, 8, 9, 10, 11, 12, 13, 14, 15, 16, 17, 18, 19, 20, 21, 22, 23, 24, 25],yf 56 54 (.call 65 [(true, (.t 55))]) [0, 1, 2, 3, 4, 5, 6, 7, 8, 9, 10, 11, 12, 13, 14, 15, 16, 17, 18, 19, 20, 21, 22, 23, 24, 25, 26],yf 57 54 (.un .not (.t 56)) [0, 1, 2, 3, 4, 5, 6, 7, 8, 9, 10, 11, 12, 13, 14, 15, 16, 17, 18, 19, 20, 21, 22, 23, 24, 25, 26, 27],yo 58 (.pick (.t 54) kt (.t 57)) (rng 0 29)] (rng 29 29))
(.cond (.t 58) [58] (.seq (.reg [xo 2 (.anil 3 1),xo 3 (.mov kf)] [])
.ret) .skip))
(.reg [xm 59 4,xm 60 5,xm 61 4,xo 62 (.faddr 1 (.t 6)),xo 63 (.load false 1 (.t 62)),xo 64 (.iaddr 1 (.t 61) (.t 63)),xo 65 (.load false 1 (.t 64)),xo 66 (.iaddr 1 (.t 59) (.t 60)),xn (.store false 1 (.t 66) (.t 65))] (rng 59 8))) (.seq (.reg [xo 68 (.bin .eql 0 (.t 18) (ki 5)),xm 67 68] [68])
(.cond (.t 67) [67] (.seq (.seq (.reg [xm 69 5,xo 70 (.bin .lss 0 (.t 69) (ki 1)),xm 71 70,xf 72 71 (.faddr 1 (.t 6)),xf 73 71 (.load false 1 (.t 72)),xf 74 71 (.mov (.t 5)),xf 75 71 (.bin .sub 0 (.t 74) (ki 1)),xf 76 71 (.bin .neq 0 (.t 73) (.t 75)),xo 77 (.pick (.t 71) kt (.t 76)),xm 78 77,xf 79 78 (.faddr 2 (.t 6)),xf 80 78 (.load false 1 (.t 79)),xf 81 78 (.bin .neq 0 (.t 80) (ki 0)),xo 82 (.pick (.t 78) kt (.t 81)),xm 83 82,xf 84 83 (.load true 5 (.t 6)),xf 85 83 (.call 65 [(true, (.t 84))]),xf 86 83 (.un .not (.t 85)),xo 87 (.pick (.t 83) kt (.t 86))] (rng 69 18))
(.cond (.t 87) [87] (.seq (.reg [xo 2 (.anil 3 1),xo 3 (.mov kf)] [])
.ret) .skip))
(.reg [xm 88 4,xm 89 5,xm 90 4,xo 91 (.faddr 1 (.t 6)),xo 92 (.load false 1 (.t 91)),xo 93 (.iaddr 1 (.t 90) (.t 92)),xo 94 (.load false 1 (.t 93)),xo 95 (.iaddr 1 (.t 88) (.t 89)),xn (.store false 1 (.t 95) (.t 94))] (rng 88 8))) (.seq (.seq (.reg [xo 19 (.load true 5 (.t 6)),xo 20 (.call 66 [(true, (.t 19))]),xo 21 (.un .not (.t 20))] [19,20])
(.cond (.t 21) [21] (.seq (.reg [xo 2 (.anil 3 1),xo 3 (.mov kf)] [])
.ret) .skip))
(.reg [xm 22 4,xm 23 5,xm 24 5,xo 25 (.iaddr 1 (.t 22) (.t 23)),xn (.store false 1 (.t 25) (.t 24))] (rng 22 4)))))))))))
(.reg [xo 96 (.bin .add 0 (.t 12) (ki 1)),xm 12 96] [96])))))))
(.seq (.reg [xm 97 4,xm 2 97,xo 3 (.mov kt)] [97])
.ret))))
/-- caesura/tree.begins -/
def fn71 : AFn := ⟨1, 98, c71, [(.t 2),(.t 3)], 0⟩
theorem fn71_body : fn71.body = c71 := rfl
theorem fn71_res : fn71.res = [(.t 2), (.t 3)] := rfl
theorem fn71_keep : fn71.keep = 0 := rfl
def c122 : ACode :=
(.seq (.reg [xo 2 (.mov (.k (.int .i32 0))),xo 3 (.mov kf)] [])
(.seq (.seq (.reg [xm 5 0,xo 6 (.bin .lss 0 (.t 5) (ki 0)),xm 7 6,xf 8 7 (.mov (.t 0)),xf 9 7 (.bin .gtr 0 (.t 8) (ki 1114111)),xo 10 (.pick (.t 7) kt (.t 9))] (rng 5 5))
(.cond (.t 10) [10] (.seq (.reg [xo 2 (.mov (.k (.int .i32 0))),xo 3 (.mov kf)] [])
.ret) .skip))
(.seq (.reg [xm 11 0,xo 12 (.conv .i32 (.t 11)),xm 4 12] [11,12])
(.seq (.reg [xm 13 4,xm 14 4,xo 15 (.bin .leq 0 (.t 14) (.k (.int .i32 55295))),xm 16 15,xf 17 16 (.mov (.t 4)),xf 18 16 (.bin .geq 0 (.t 17) (.k (.int .i32 57344))),xo 19 (.pick (.t 16) kt (.t 18)),xm 2 13,xm 3 19] (rng 13 7))
.ret))))
/-- caesura/scalar.sign -/
def fn122 : AFn := ⟨1, 20, c122, [(.t 2),(.t 3)], 0⟩
theorem fn122_body : fn122.body = c122 := rfl
theorem fn122_res : fn122.res = [(.t 2), (.t 3)] := rfl
theorem fn122_keep : fn122.keep = 0 := rfl
def c1155 : ACode :=
(.seq (.reg [xo 4 (.anil 39 5)] [])
(.seq (.seq (.reg [xm 5 0,xm 6 1,xo 7 (.call 67 [(true, (.t 5)),(true, (.t 6))])] [5,6])
(.cond (.t 7) [7] (.seq (.reg [xo 8 (.call 46 [(true, (ki 1))]),xm 4 8] [8])
.ret) .skip))
(.seq (.reg [xo 9 (.call 46 [(true, (ki 0))]),xm 4 9] [9])
.ret)))
/-- caesura/derive.one -/
def fn1155 : AFn := ⟨2, 10, c1155, [(.t 4)], 0⟩
theorem fn1155_body : fn1155.body = c1155 := rfl
theorem fn1155_res : fn1155.res = [(.t 4)] := rfl
theorem fn1155_keep : fn1155.keep = 0 := rfl
def c23 : ACode :=
(.seq (.reg [xo 2 (.anil 39 5),xo 3 (.anil 39 5),xo 4 (.mov kf)] [])
(.seq (.seq (.reg [xm 6 0,xo 7 (.call 25 [(true, (.t 6))]),xo 8 (.un .not (.t 7))] [6,7])
(.cond (.t 8) [8] (.seq (.reg [xo 2 (.anil 39 5),xo 3 (.anil 39 5),xo 4 (.mov kf)] [])
.ret) .skip))
(.seq (.seq (.reg [xm 9 0,xm 10 0,xo 11 (.len 1 (.t 10)),xo 12 (.bin .sub 0 (.t 11) (ki 1)),xo 13 (.iaddr 5 (.t 9) (.t 12)),xo 14 (.load true 5 (.t 13)),⟨(some 5), none, .new [(.int .i64 0),(.int .i64 0),(.int .i64 0),(.list 2 []),(.str ⟨#[]⟩)], []⟩,xn (.store false 5 (.t 5) (.t 14))] (rng 9 6))
(.seq (.reg [xo 15 (.faddr 0 (.t 5)),xo 16 (.load false 1 (.t 15))] [15])
(.block 0 (.seq (.seq (.reg [xo 18 (.bin .eql 0 (.t 16) (ki 3)),xm 17 18] [18])
(.cond (.t 17) [] .skip (.reg [xo 19 (.bin .eql 0 (.t 16) (ki 4)),xm 17 19] [19])))
(.cond (.t 17) [] (.seq (.dreg [xm 20 0,xo 21 (.faddr 1 (.t 5)),yo 22 (.load false 1 (.t 21)) [1],yo 23 (.bin .add 0 (.t 22) (ki 1)) [1, 2],yo 24 (.slc 5 (.t 20) none (some (.t 23)) none) [0, 1, 2, 3],yo 25 (.call 100068 [(true, (.t 24)),(true, (ki 0))]) [0, 1, 2, 3, 4],xm 26 0,xo 27 (.faddr 1 (.t 5)),yo 28 (.load false 1 (.t 27)) [7],yo 29 (.bin .add 0 (.t 28) (ki 1)) [7, 8],xo 30 (.faddr 2 (.t 5)),yo 31 (.load false 1 (.t 30)) [10],yo 32 (.bin .add 0 (.t 31) (ki 1)) [10, 11],yo 33 (.slc 5 (.t 26) (some (.t 29)) (some (.t 32)) none) [6, 7, 8, 9, 10, 11, 12],xo 34 (.faddr 1 (.t 5)),yo 35 (.load false 1 (.t 34)) [14],yo 36 (.un .neg (.t 35)) [14, 15],yo 37 (.bin .sub 0 (.t 36) (ki 1)) [14, 15, 16],yo 38 (.call 100068 [(true, (.t 33)),(true, (.t 37))]) [0, 1, 2, 3, 4, 5, 6, 7, 8, 9, 10, 11, 12, 13, 14, 15, 16, 17],ym 2 25 [0, 1, 2, 3, 4, 5, 6, 7, 8, 9, 10, 11, 12, 13, 14, 15, 16, 17, 18],ym 3 38 [0, 1, 2, 3, 4, 5, 6, 7, 8, 9, 10, 11, 12, 13, 14, 15, 16, 17, 18, 19],yo 4 (.mov kt) (rng 0 21)] (rng 20 19))
.ret) (.seq (.reg [xo 40 (.bin .eql 0 (.t 16) (ki 5)),xm 39 40] [40])
(.cond (.t 39) [39] (.seq (.reg [xm 41 0,xo 42 (.faddr 1 (.t 5)),xo 43 (.load false 1 (.t 42)),xo 44 (.bin .add 0 (.t 43) (ki 1)),xo 45 (.slc 5 (.t 41) none (some (.t 44)) none),xo 46 (.call 100068 [(true, (.t 45)),(true, (ki 0))]),xm 2 46,xo 3 (.anil 39 5),xo 4 (.mov kt)] (rng 41 6))
.ret) .skip)))))))
(.seq (.reg [xo 2 (.anil 39 5),xo 3 (.anil 39 5),xo 4 (.mov kf)] [])
.ret))))
/-- caesura/tree.Parts -/
def fn23 : AFn := ⟨1, 47, c23, [(.t 2),(.t 3),(.t 4)], 0⟩
theorem fn23_body : fn23.body = c23 := rfl
theorem fn23_res : fn23.res = [(.t 2), (.t 3), (.t 4)] := rfl
theorem fn23_keep : fn23.keep = 0 := rfl
def c34 : ACode :=
(.seq (.reg [xo 2 (.anil 39 5)] [])
(.seq (.seq (.reg [xm 3 0,xo 4 (.bin .neq 0 (.t 3) (ki 1))] [3])
(.cond (.t 4) [4] (.reg [xo 0 (.mov (ki 0))] []) .skip))
(.seq (.reg [xm 5 0,⟨(some 6), none, .agg [(.int .i64 0),(.int .i64 0),(.int .i64 0),(.list 2 []),(.str ⟨#[]⟩)] [(0, 1, (.t 5))], []⟩,⟨(some 7), none, .mkl 39 5 [(.int .i64 0),(.int .i64 0),(.int .i64 0),(.list 2 []),(.str ⟨#[]⟩)] 1 [(0, (.t 6))] false, []⟩,xm 2 7] [5,6,7])
.ret)))
/-- caesura/tree.Leaf -/
def fn34 : AFn := ⟨1, 8, c34, [(.t 2)], 0⟩
theorem fn34_body : fn34.body = c34 := rfl
theorem fn34_res : fn34.res = [(.t 2)] := rfl
theorem fn34_keep : fn34.keep = 0 := rfl
def c38 : ACode :=
(.seq (.reg [xo 4 (.anil 39 5),xo 5 (.mov kf)] [])
(.seq (.block 0 (.seq (.reg [xm 12 0,xo 13 (.call 25 [(true, (.t 12))]),xo 14 (.un .not (.t 13)),xm 15 14,xf 16 15 (.mov (.t 1)),xf 17 15 (.call 25 [(true, (.t 16))]),xf 18 15 (.un .not (.t 17)),xo 19 (.pick (.t 15) kt (.t 18)),xm 11 19] (rng 12 8))
(.cond (.t 11) [11] (.seq (.reg [xo 4 (.anil 39 5),xo 5 (.mov kf)] [])
.ret) (.seq (.reg [xm 21 0,xo 22 (.call 69 [(true, (.t 21)),(true, (ki 0))]),xm 23 22,xf 24 23 (.mov (.t 1)),xf 25 23 (.call 69 [(true, (.t 24)),(true, (ki 0))]),xo 26 (.pick (.t 23) kt (.t 25)),xm 20 26] (rng 21 6))
(.cond (.t 20) [20] (.seq (.reg [xo 27 (.call 46 [(true, (ki 0))]),xm 4 27,xo 5 (.mov kt)] [27])
.ret) (.seq (.reg [xm 29 0,xo 30 (.call 69 [(true, (.t 29)),(true, (ki 1))]),xm 28 30] [29,30])
(.cond (.t 28) [28] (.seq (.reg [xm 31 1,xo 32 (.call 70 [(true, (.t 31))]),xm 4 32,xo 5 (.mov kt)] [31,32])
.ret) (.seq (.reg [xm 34 1,xo 35 (.call 69 [(true, (.t 34)),(true, (ki 1))]),xm 33 35] [34,35])
(.cond (.t 33) [33] (.seq (.reg [xm 36 0,xo 37 (.call 70 [(true, (.t 36))]),xm 4 37,xo 5 (.mov kt)] [36,37])
.ret) (.seq (.reg [xm 39 1,xo 40 (.call 69 [(true, (.t 39)),(true, (ki 3))]),xo 41 (.un .not (.t 40)),xm 38 41] [39,40,41])
(.cond (.t 38) [38] (.seq (.reg [xm 42 0,xm 43 1,xo 44 (.call 71 [(true, (.t 42)),(true, (.t 43))]),xo 45 (.ext (.t 44) 0),xo 46 (.ext (.t 44) 1),xm 4 45,xm 5 46] (rng 42 5))
.ret) .skip)))))))))))
(.seq (.reg [xm 48 1,xo 49 (.call 45 [(true, (.t 48))]),xm 47 49,xo 50 (.ext (.t 47) 0),xo 51 (.ext (.t 47) 1),xo 52 (.ext (.t 47) 2),xm 6 50,xm 7 51,xm 8 52] [8,47,48,49,50,51,52])
(.seq (.reg [xm 54 0,xm 55 6,xo 56 (.call 47 [(true, (.t 54)),(true, (.t 55))]),xm 53 56,xo 57 (.ext (.t 53) 0),xo 58 (.ext (.t 53) 1),xm 9 57,xm 10 58] (rng 53 6))
(.seq (.seq (.reg [xm 59 10,xo 60 (.un .not (.t 59))] [59])
(.cond (.t 60) [60] (.seq (.reg [xo 4 (.anil 39 5),xo 5 (.mov kf)] [])
.ret) .skip))
(.seq (.reg [xm 61 9,xm 62 7,xo 63 (.call 47 [(true, (.t 61)),(true, (.t 62))]),xo 64 (.ext (.t 63) 0),xo 65 (.ext (.t 63) 1),xm 4 64,xm 5 65] (rng 61 5))
.ret))))))
/-- caesura/smart.Cat -/
def fn38 : AFn := ⟨2, 66, c38, [(.t 4),(.t 5)], 0⟩
theorem fn38_body : fn38.body = c38 := rfl
theorem fn38_res : fn38.res = [(.t 4), (.t 5)] := rfl
theorem fn38_keep : fn38.keep = 0 := rfl
def c1156 : ACode :=
(.seq (.reg [xo 8 (.anil 39 5),xo 9 (.mov kf)] [])
(.seq (.reg [xm 13 2,xm 14 1,xo 15 (.call 47 [(true, (.t 13)),(true, (.t 14))]),xm 12 15,xo 16 (.ext (.t 12) 0),xo 17 (.ext (.t 12) 1),xm 10 16,xm 11 17] (rng 12 6))
(.seq (.seq (.reg [xm 18 11,xo 19 (.un .not (.t 18)),xm 20 19,xf 21 20 (.mov (.t 0)),xf 22 20 (.call 15 [(true, (.t 21))]),xf 23 20 (.un .not (.t 22)),xo 24 (.pick (.t 20) kt (.t 23))] (rng 18 6))
(.cond (.t 24) [24] (.seq (.reg [xm 25 10,xm 26 11,xm 8 25,xm 9 26] [25,26])
.ret) .skip))
(.seq (.reg [xm 27 10,xm 28 3,xo 29 (.call 49 [(true, (.t 27)),(true, (.t 28))]),xo 30 (.ext (.t 29) 0),xo 31 (.ext (.t 29) 1),xm 8 30,xm 9 31] (rng 27 5))
.ret))))
/-- caesura/derive.cat -/
def fn1156 : AFn := ⟨4, 32, c1156, [(.t 8),(.t 9)], 0⟩
theorem fn1156_body : fn1156.body = c1156 := rfl
theorem fn1156_res : fn1156.res = [(.t 8), (.t 9)] := rfl
theorem fn1156_keep : fn1156.keep = 0 := rfl
def c39 : ACode :=
(.seq (.reg [xo 4 (.anil 39 5),xo 5 (.mov kf)] [])
(.seq (.block 0 (.seq (.reg [xm 12 0,xo 13 (.call 25 [(true, (.t 12))]),xo 14 (.un .not (.t 13)),xm 15 14,xf 16 15 (.mov (.t 1)),xf 17 15 (.call 25 [(true, (.t 16))]),xf 18 15 (.un .not (.t 17)),xo 19 (.pick (.t 15) kt (.t 18)),xm 11 19] (rng 12 8))
(.cond (.t 11) [11] (.seq (.reg [xo 4 (.anil 39 5),xo 5 (.mov kf)] [])
.ret) (.seq (.reg [xm 21 0,xo 22 (.call 69 [(true, (.t 21)),(true, (ki 0))]),xm 20 22] [21,22])
(.cond (.t 20) [20] (.seq (.reg [xm 23 1,xo 24 (.call 70 [(true, (.t 23))]),xm 4 24,xo 5 (.mov kt)] [23,24])
.ret) (.seq (.reg [xm 26 1,xo 27 (.call 69 [(true, (.t 26)),(true, (ki 0))]),xm 25 27] [26,27])
(.cond (.t 25) [25] (.seq (.reg [xm 28 0,xo 29 (.call 70 [(true, (.t 28))]),xm 4 29,xo 5 (.mov kt)] [28,29])
.ret) .skip)))))))
(.seq (.reg [xm 30 0,xo 31 (.call 73 [(true, (.t 30))]),xm 32 1,xo 33 (.call 73 [(true, (.t 32))]),xo 34 (.app 23 1 24 (.t 31) (.t 33)),xo 35 (.call 72 [(true, (.t 34))]),xm 6 35] (rng 30 6))
(.seq (.reg [xm 36 6,xo 37 (.iaddr 1 (.t 36) (ki 0)),xo 38 (.load false 1 (.t 37)),xm 7 38,xo 8 (.mov kt)] [36,37,38])
(.seq (.seq (.reg [xm 39 6,xo 40 (.slc 1 (.t 39) (some (ki 1)) none none),xo 41 (.len 1 (.t 40)),xo 42 (.mov (ki 0))] [39])
(.block 1 (.loop false (.seq (.reg [xo 43 (.bin .lss 0 (.t 42) (.t 41))] [])
(.seq (.cond (.t 43) [43] .skip (.exit 1))
(.seq (.block 2 (.seq (.reg [xo 44 (.iaddr 1 (.t 40) (.t 42)),xo 45 (.load false 1 (.t 44)),xm 10 45] [44,45])
(.seq (.reg [xm 47 7,xm 48 10,xo 49 (.call 62 [(true, (.t 47)),(true, (.t 48))]),xm 46 49,xo 50 (.ext (.t 46) 0),xo 51 (.ext (.t 46) 1),xm 7 50,xm 8 51] (rng 46 6))
(.seq (.reg [xm 52 8,xo 53 (.un .not (.t 52))] [52])
(.cond (.t 53) [53] (.seq (.reg [xo 4 (.anil 39 5),xo 5 (.mov kf)] [])
.ret) .skip)))))
(.reg [xo 54 (.bin .add 0 (.t 42) (ki 1)),xm 42 54] [54])))))))
(.seq (.reg [xm 55 7,xm 4 55,xo 5 (.mov kt)] [55])
.ret))))))
/-- caesura/smart.Alt -/
def fn39 : AFn := ⟨2, 56, c39, [(.t 4),(.t 5)], 0⟩
theorem fn39_body : fn39.body = c39 := rfl
theorem fn39_res : fn39.res = [(.t 4), (.t 5)] := rfl
theorem fn39_keep : fn39.keep = 0 := rfl
def c81 : ACode :=
(.seq (.reg [xo 2 (.mov (ki 0))] [])
(.seq (.reg [xm 3 0,xm 4 0,xo 5 (.len 1 (.t 4)),xo 6 (.bin .sub 0 (.t 5) (ki 1)),xo 7 (.iaddr 5 (.t 3) (.t 6)),xo 8 (.faddr 0 (.t 7)),xo 9 (.load false 1 (.t 8)),xm 2 9] (rng 3 7))
.ret))
/-- caesura/caesuraref12.kind -/
def fn81 : AFn := ⟨1, 10, c81, [(.t 2)], 0⟩
theorem fn81_body : fn81.body = c81 := rfl
theorem fn81_res : fn81.res = [(.t 2)] := rfl
theorem fn81_keep : fn81.keep = 0 := rfl
def c24 : ACode :=
(.seq (.reg [xo 2 (.new [(.list 5 []),(.list 5 []),(.bool false)])] [])
(.seq (.seq (.reg [xm 5 0,xo 6 (.call 17 [(true, (.t 5))]),xo 7 (.un .not (.t 6))] [5,6])
(.cond (.t 7) [7] (.seq (.reg [xo 8 (.agg [(.list 5 []),(.list 5 []),(.bool false)] []),xn (.store false 3 (.t 2) (.t 8))] [8])
.ret) .skip))
(.seq (.reg [xm 9 0,xo 10 (.len 1 (.t 9)),xo 11 (.bin .sub 0 (.t 10) (ki 1)),xm 3 11] [9,10,11])
(.seq (.reg [xm 12 0,xm 13 3,xo 14 (.iaddr 5 (.t 12) (.t 13)),xo 15 (.load true 5 (.t 14)),⟨(some 4), none, .new [(.int .i64 0),(.int .i64 0),(.int .i64 0),(.list 2 []),(.str ⟨#[]⟩)], []⟩,xn (.store false 5 (.t 4) (.t 15))] (rng 12 4))
(.seq (.seq (.reg [xo 16 (.faddr 0 (.t 4)),xo 17 (.load false 1 (.t 16))] [16])
(.block 0 (.seq (.reg [xo 19 (.bin .eql 0 (.t 17) (ki 5)),xm 18 19] [19])
(.cond (.t 18) [18] (.seq (.reg [xm 20 0,xo 21 (.faddr 1 (.t 4)),xo 22 (.load false 1 (.t 21)),xo 23 (.call 32 [(true, (.t 20)),(true, (ki 0)),(true, (.t 22))]),xo 24 (.agg [(.list 5 []),(.list 5 []),(.bool false)] [(0, 1, (.t 23)),(2, 1, kt)]),xn (.store false 3 (.t 2) (.t 24))] (rng 20 5))
.ret) (.seq (.seq (.reg [xo 26 (.bin .eql 0 (.t 17) (ki 3)),xm 25 26] [26])
(.cond (.t 25) [] .skip (.reg [xo 27 (.bin .eql 0 (.t 17) (ki 4)),xm 25 27] [27])))
(.cond (.t 25) [] (.seq (.dreg [xm 28 0,xo 29 (.faddr 1 (.t 4)),yo 30 (.load false 1 (.t 29)) [1],yo 31 (.call 32 [(true, (.t 28)),(true, (ki 0)),(true, (.t 30))]) [0, 1, 2],xm 32 0,xo 33 (.faddr 1 (.t 4)),yo 34 (.load false 1 (.t 33)) [5],yo 35 (.bin .add 0 (.t 34) (ki 1)) [5, 6],xo 36 (.faddr 2 (.t 4)),yo 37 (.load false 1 (.t 36)) [8],yo 38 (.call 32 [(true, (.t 32)),(true, (.t 35)),(true, (.t 37))]) [0, 1, 2, 3, 4, 5, 6, 7, 8, 9],yo 39 (.agg [(.list 5 []),(.list 5 []),(.bool false)] [(0, 1, (.t 31)),(1, 1, (.t 38)),(2, 1, kt)]) [0, 1, 2, 3, 4, 5, 6, 7, 8, 9, 10],⟨none, none, .store false 3 (.t 2) (.t 39), [0, 1, 2, 3, 4, 5, 6, 7, 8, 9, 10, 11]⟩] (rng 28 12))
.ret) .skip))))))
(.seq (.reg [xo 40 (.agg [(.list 5 []),(.list 5 []),(.bool false)] []),xn (.store false 3 (.t 2) (.t 40))] [40])
.ret))))))
/-- caesura/caesuraref11.Parts -/
def fn24 : AFn := ⟨1, 41, c24, [(.c 2 true 3)], 0⟩
theorem fn24_body : fn24.body = c24 := rfl
theorem fn24_res : fn24.res = [(.c 2 true 3)] := rfl
theorem fn24_keep : fn24.keep = 0 := rfl
def c82 : ACode :=
(.seq (.reg [xo 2 (.anil 39 5)] [])
(.seq (.reg [xo 3 (.anil 23 1)] [])
(.seq (.reg [xo 4 (.mov kf)] [])
(.seq (.seq (.reg [xo 5 (.mov (ki 0))] [])
(.block 0 (.loop false (.seq (.seq (.reg [xm 11 5,xm 12 0,xo 13 (.len 1 (.t 12)),xo 14 (.bin .lss 0 (.t 11) (.t 13))] [11,12,13])
(.cond (.t 14) [14] .skip (.exit 0)))
(.seq (.block 1 (.reg [xm 17 4,xm 18 17,xf 19 18 (.mov (.t 0)),xf 20 18 (.mov (.t 5)),xf 21 18 (.iaddr 1 (.t 19) (.t 20)),xf 22 18 (.load false 1 (.t 21)),xf 23 18 (.call 50 [(true, (.t 22))]),xf 24 18 (.bin .eql 0 (.t 23) (ki 5)),xo 25 (.pick (.t 18) kt (.t 24)),xm 4 25] (rng 17 9)))
(.reg [xm 15 5,xo 16 (.bin .add 0 (.t 15) (ki 1)),xm 5 16] [15,16]))))))
(.seq (.seq (.reg [xo 6 (.mov (ki 0))] [])
(.block 2 (.loop false (.seq (.seq (.reg [xm 26 6,xm 27 0,xo 28 (.len 1 (.t 27)),xo 29 (.bin .lss 0 (.t 26) (.t 28))] [26,27,28])
(.cond (.t 29) [29] .skip (.exit 2)))
(.seq (.block 3 (.seq (.reg [xo 7 (.mov kf)] [])
(.seq (.seq (.reg [xo 8 (.mov (ki 0))] [])
(.block 4 (.loop false (.seq (.seq (.reg [xm 32 8,xm 33 3,xo 34 (.len 1 (.t 33)),xo 35 (.bin .lss 0 (.t 32) (.t 34))] [32,33,34])
(.cond (.t 35) [35] .skip (.exit 4)))
(.seq (.block 5 (.dreg [xm 38 7,ym 39 38 [0],yf 40 39 (.mov (.t 3)) [0, 1],yf 41 39 (.mov (.t 8)) [0, 1],yf 42 39 (.iaddr 1 (.t 40) (.t 41)) [0, 1, 2, 3],yf 43 39 (.load false 1 (.t 42)) [0, 1, 2, 3, 4],yf 44 39 (.mov (.t 0)) [0, 1],yf 45 39 (.mov (.t 6)) [0, 1],yf 46 39 (.iaddr 1 (.t 44) (.t 45)) [0, 1, 6, 7],yf 47 39 (.load false 1 (.t 46)) [0, 1, 6, 7, 8],yf 48 39 (.call 74 [(true, (.t 43)),(true, (.t 47))]) [0, 1, 2, 3, 4, 5, 6, 7, 8, 9],yo 49 (.pick (.t 39) kt (.t 48)) [0, 1, 2, 3, 4, 5, 6, 7, 8, 9, 10],ym 7 49 (rng 0 12)] (rng 38 12)))
(.reg [xm 36 8,xo 37 (.bin .add 0 (.t 36) (ki 1)),xm 8 37] [36,37]))))))
(.seq (.reg [xm 50 7,xo 51 (.un .not (.t 50)),xm 52 51,xt 53 52 (.mov (.t 4)),xt 54 52 (.un .not (.t 53)),xt 55 52 (.mov (.t 54)),xf 56 55 (.mov (.t 0)),xf 57 55 (.mov (.t 6)),xf 58 55 (.iaddr 1 (.t 56) (.t 57)),xf 59 55 (.load false 1 (.t 58)),xf 60 55 (.call 50 [(true, (.t 59))]),xf 61 55 (.bin .neq 0 (.t 60) (ki 1)),xt 62 52 (.pick (.t 55) kt (.t 61)),xo 63 (.pick (.t 52) (.t 62) kf)] (rng 50 13))
(.cond (.t 63) [63] (.reg [xm 64 3,xm 65 0,xm 66 6,xo 67 (.iaddr 1 (.t 65) (.t 66)),xo 68 (.load false 1 (.t 67)),xo 69 (.mkl 23 1 [(.list 5 [])] 1 [(0, (.t 68))] false),xo 70 (.app 23 1 24 (.t 64) (.t 69)),xm 3 70] (rng 64 7)) .skip)))))
(.reg [xm 30 6,xo 31 (.bin .add 0 (.t 30) (ki 1)),xm 6 31] [30,31]))))))
(.seq (.reg [xm 71 3,xo 72 (.iaddr 1 (.t 71) (ki 0)),xo 73 (.load false 1 (.t 72)),xm 9 73] [71,72,73])
(.seq (.seq (.reg [xo 10 (.mov (ki 1))] [])
(.block 6 (.loop false (.seq (.seq (.reg [xm 74 10,xm 75 3,xo 76 (.len 1 (.t 75)),xo 77 (.bin .lss 0 (.t 74) (.t 76)),xm 78 77,xt 79 78 (.mov (.t 9)),xt 80 78 (.len 1 (.t 79)),xt 81 78 (.bin .gtr 0 (.t 80) (ki 0)),xo 82 (.pick (.t 78) (.t 81) kf)] (rng 74 8))
(.cond (.t 82) [82] .skip (.exit 6)))
(.seq (.block 7 (.reg [xm 85 9,xm 86 3,xm 87 10,xo 88 (.iaddr 1 (.t 86) (.t 87)),xo 89 (.load false 1 (.t 88)),xo 90 (.call 21 [(true, (ki 4)),(true, (.t 85)),(true, (.t 89))]),xm 9 90] (rng 85 6)))
(.reg [xm 83 10,xo 84 (.bin .add 0 (.t 83) (ki 1)),xm 10 84] [83,84]))))))
(.seq (.reg [xm 91 9,xm 2 91] [91])
.ret))))))))
/-- caesura/caesuraref12.chain -/
def fn82 : AFn := ⟨1, 92, c82, [(.t 2)], 0⟩
theorem fn82_body : fn82.body = c82 := rfl
theorem fn82_res : fn82.res = [(.t 2)] := rfl
theorem fn82_keep : fn82.keep = 0 := rfl
def c83 : ACode :=
(.seq (.reg [xo 2 (.anil 23 1)] [])
(.seq (.reg [xo 3 (.anil 23 1)] [])
(.seq (.reg [xm 7 0,xo 8 (.mkl 23 1 [(.list 5 [])] 1 [(0, (.t 7))] false),xm 4 8] [7,8])
(.seq (.block 0 (.loop false (.seq (.seq (.reg [xm 9 4,xo 10 (.len 1 (.t 9)),xo 11 (.bin .gtr 0 (.t 10) (ki 0))] [9,10])
(.cond (.t 11) [11] .skip (.exit 0)))
(.block 1 (.seq (.reg [xm 12 4,xo 13 (.iaddr 1 (.t 12) (ki 0)),xo 14 (.load false 1 (.t 13)),xm 5 14] [12,13,14])
(.seq (.reg [xm 15 4,xo 16 (.slc 1 (.t 15) (some (ki 1)) none none),xm 4 16] [15,16])
(.seq (.seq (.reg [xm 17 5,xo 18 (.call 50 [(true, (.t 17))]),xo 19 (.bin .eql 0 (.t 18) (ki 4))] [17,18])
(.cond (.t 19) [19] (.seq (.reg [xm 20 5,xo 21 (.call 51 [(true, (.t 20))]),xo 6 (.new [(.list 5 []),(.list 5 []),(.bool false)]),xn (.store false 3 (.t 6) (.t 21))] [20,21])
(.seq (.reg [xo 22 (.faddr 0 (.t 6)),xo 23 (.load false 1 (.t 22)),xo 24 (.faddr 1 (.t 6)),xo 25 (.load false 1 (.t 24)),xo 26 (.mkl 23 1 [(.list 5 [])] 2 [(0, (.t 23)),(1, (.t 25))] false),xm 27 4,xo 28 (.app 23 1 24 (.t 26) (.t 27)),xm 4 28] (rng 22 7))
(.exit 1))) .skip))
(.reg [xm 29 3,xm 30 5,xo 31 (.mkl 23 1 [(.list 5 [])] 1 [(0, (.t 30))] false),xo 32 (.app 23 1 24 (.t 29) (.t 31)),xm 3 32] (rng 29 4)))))))))
(.seq (.reg [xm 33 3,xm 2 33] [33])
.ret)))))
/-- caesura/caesuraref12.Members -/
def fn83 : AFn := ⟨1, 34, c83, [(.t 2)], 0⟩
theorem fn83_body : fn83.body = c83 := rfl
theorem fn83_res : fn83.res = [(.t 2)] := rfl
theorem fn83_keep : fn83.keep = 0 := rfl
def c96 : ACode :=
(.seq (.reg [xo 2 (.new [(.int .i64 0),(.bool false)])] [])
(.seq (.block 0 (.seq (.reg [xm 4 0,xo 5 (.bin .geq 0 (.t 4) (ki 1114111)),xm 3 5] [4,5])
(.cond (.t 3) [3] (.seq (.reg [xo 6 (.agg [(.int .i64 0),(.bool false)] []),xn (.store false 2 (.t 2) (.t 6))] [6])
.ret) (.seq (.reg [xm 8 0,xo 9 (.bin .lss 0 (.t 8) (ki 0)),xm 7 9] [8,9])
(.cond (.t 7) [7] (.seq (.reg [xo 10 (.agg [(.int .i64 0),(.bool false)] [(0, 1, (ki 0)),(1, 1, kt)]),xn (.store false 2 (.t 2) (.t 10))] [10])
.ret) (.seq (.reg [xm 12 0,xo 13 (.bin .geq 0 (.t 12) (ki 55295)),xm 14 13,xt 15 14 (.mov (.t 0)),xt 16 14 (.bin .lss 0 (.t 15) (ki 57344)),xo 17 (.pick (.t 14) (.t 16) kf),xm 11 17] (rng 12 6))
(.cond (.t 11) [11] (.seq (.reg [xo 18 (.agg [(.int .i64 0),(.bool false)] [(0, 1, (ki 57344)),(1, 1, kt)]),xn (.store false 2 (.t 2) (.t 18))] [18])
.ret) .skip)))))))
(.seq (.reg [xm 19 0,xo 20 (.bin .add 0 (.t 19) (ki 1)),xo 21 (.agg [(.int .i64 0),(.bool false)] [(0, 1, (.t 20)),(1, 1, kt)]),xn (.store false 2 (.t 2) (.t 21))] [19,20,21])
.ret)))
/-- caesura/caesuraref01.Next -/
def fn96 : AFn := ⟨1, 22, c96, [(.c 2 true 2)], 0⟩
theorem fn96_body : fn96.body = c96 := rfl
theorem fn96_res : fn96.res = [(.c 2 true 2)] := rfl
theorem fn96_keep : fn96.keep = 0 := rfl
def c105 : ACode :=
(.seq (.reg [xo 6 (.box (.t 1)),xo 10 (.mov kf)] [])
(.seq (.seq (.reg [xo 11 (.faddr 0 (.t 6)),xo 12 (.load false 1 (.t 11))] [11])
(.block 0 (.seq (.reg [xo 14 (.bin .eql 0 (.t 12) (ki 1)),xm 13 14] [14])
(.cond (.t 13) [13] (.seq (.reg [xm 15 3,xm 16 4,xo 17 (.bin .eql 0 (.t 15) (.t 16)),xm 10 17] [15,16,17])
.ret) (.seq (.reg [xo 19 (.bin .eql 0 (.t 12) (ki 2)),xm 18 19] [19])
(.cond (.t 18) [18] (.seq (.dreg [xm 20 4,xm 21 3,yo 22 (.bin .add 0 (.t 21) (ki 1)) [1],yo 23 (.bin .eql 0 (.t 20) (.t 22)) [0, 1, 2],ym 24 23 [0, 1, 2, 3],yt 25 24 (.faddr 3 (.t 6)) [0, 1, 2, 3, 4],yt 26 24 (.load false 1 (.t 25)) [0, 1, 2, 3, 4, 5],yt 27 24 (.mov (.t 0)) [0, 1, 2, 3, 4],yt 28 24 (.nilck (.t 27)) [0, 1, 2, 3, 4, 7],yt 29 24 (.faddr 1 (.t 28)) [0, 1, 2, 3, 4, 7, 8],yt 30 24 (.load false 1 (.t 29)) [0, 1, 2, 3, 4, 7, 8, 9],yt 31 24 (.mov (.t 3)) [0, 1, 2, 3, 4],yt 32 24 (.iaddr 1 (.t 30) (.t 31)) [0, 1, 2, 3, 4, 7, 8, 9, 10, 11],yt 33 24 (.load false 1 (.t 32)) [0, 1, 2, 3, 4, 7, 8, 9, 10, 11, 12],yt 34 24 (.call 75 [(true, (.t 26)),(true, (.t 33))]) [0, 1, 2, 3, 4, 5, 6, 7, 8, 9, 10, 11, 12, 13],yo 35 (.pick (.t 24) (.t 34) kf) [0, 1, 2, 3, 4, 5, 6, 7, 8, 9, 10, 11, 12, 13, 14],ym 10 35 (rng 0 16)] (rng 20 16))
.ret) (.seq (.reg [xo 37 (.bin .eql 0 (.t 12) (ki 4)),xm 36 37] [37])
(.cond (.t 36) [36] (.seq (.reg [xm 38 0,xo 39 (.faddr 1 (.t 6)),xo 40 (.load false 1 (.t 39)),xm 41 3,xm 42 4,xo 43 (.call 37 [(false, (.t 38)),(true, (.t 40)),(true, (.t 41)),(true, (.t 42))]),xm 44 43,xf 45 44 (.mov (.t 0)),xf 46 44 (.faddr 2 (.t 6)),xf 47 44 (.load false 1 (.t 46)),xf 48 44 (.mov (.t 3)),xf 49 44 (.mov (.t 4)),xf 50 44 (.call 37 [(false, (.t 45)),(true, (.t 47)),(true, (.t 48)),(true, (.t 49))]),xo 51 (.pick (.t 44) kt (.t 50)),xm 10 51] (rng 38 14))
.ret) (.seq (.reg [xo 53 (.bin .eql 0 (.t 12) (ki 3)),xm 52 53] [53])
(.cond (.t 52) [52] (.seq (.reg [xm 54 0,xo 55 (.faddr 1 (.t 6)),xo 56 (.load false 1 (.t 55)),xo 57 (.faddr 2 (.t 6)),xo 58 (.load false 1 (.t 57)),xm 59 3,xm 60 3,xm 61 4,xo 62 (.call 76 [(false, (.t 54)),(true, (.t 56)),(true, (.t 58)),(true, (.t 59)),(true, (.t 60)),(true, (.t 61))]),xm 10 62] (rng 54 9))
.ret) (.seq (.reg [xo 64 (.bin .eql 0 (.t 12) (ki 5)),xm 63 64] [64])
(.cond (.t 63) [63] (.seq (.reg [xm 65 3,xm 66 4,xo 67 (.bin .eql 0 (.t 65) (.t 66)),xm 68 67,xf 69 68 (.mov (.t 0)),xf 70 68 (.faddr 1 (.t 6)),xf 71 68 (.load false 1 (.t 70)),xf 72 68 (.mov (.t 2)),xf 73 68 (.mov (.t 3)),xf 74 68 (.bin .add 0 (.t 73) (ki 1)),xf 75 68 (.mov (.t 3)),xf 76 68 (.mov (.t 4)),xf 77 68 (.call 76 [(false, (.t 69)),(true, (.t 71)),(true, (.t 72)),(true, (.t 74)),(true, (.t 75)),(true, (.t 76))]),xo 78 (.pick (.t 68) kt (.t 77)),xm 10 78] (rng 65 14))
.ret) .skip))))))))))))
(.seq (.reg [xo 10 (.mov kf)] [])
.ret)))
/-- (*caesura/tree.taker).asks -/
def fn105 : AFn := ⟨5, 79, c105, [(.t 10)], 0⟩
theorem fn105_body : fn105.body = c105 := rfl
theorem fn105_res : fn105.res = [(.t 10)] := rfl
theorem fn105_keep : fn105.keep = 0 := rfl
def c1157 : ACode :=
(.seq (.reg [xo 2 (.anil 101 3),xo 3 (.new [(.int .i64 0),(.int .i64 0)])] [])
(.seq (.seq (.reg [xm 9 0,xo 10 (.len 0 (.t 9)),xo 11 (.bin .gtr 0 (.t 10) (ki 400000))] [9,10])
(.cond (.t 11) [11] (.seq (.reg [xo 12 (.agg [(.int .i64 0),(.int .i64 0)] [(0, 1, (ki 14))]),xo 2 (.anil 101 3),xn (.store false 2 (.t 3) (.t 12))] [12])
.ret) .skip))
(.seq (.reg [xo 4 (.anil 101 3)] [])
(.seq (.seq (.reg [xm 13 0,xo 14 (.call 77 [(true, (.t 13))]),xm 5 14] [13,14])
(.block 0 (.loop false (.seq (.seq (.reg [xm 15 5,xm 16 0,xo 17 (.len 0 (.t 16)),xo 18 (.bin .lss 0 (.t 15) (.t 17))] [15,16,17])
(.cond (.t 18) [18] .skip (.exit 0)))
(.seq (.block 1 (.seq (.reg [xm 26 0,xm 27 5,xo 28 (.sslc (.t 26) (some (.t 27)) none),xo 29 (.call 78 [(true, (.t 28))]),xm 25 29,xo 30 (.ext (.t 25) 0),xo 31 (.ext (.t 25) 1),xo 32 (.ext (.t 25) 2),⟨(some 6), none, .new [(.int .i64 0),(.str ⟨#[]⟩),(.int .i64 0)], []⟩,xn (.store false 3 (.t 6) (.t 30)),xm 7 31,xm 8 32] (rng 25 8))
(.seq (.seq (.reg [xm 33 8,xo 34 (.un .not (.t 33))] [33])
(.cond (.t 34) [34] (.seq (.reg [xm 35 5,xo 36 (.agg [(.int .i64 0),(.int .i64 0)] [(0, 1, (ki 11)),(1, 1, (.t 35))]),xo 2 (.anil 101 3),xn (.store false 2 (.t 3) (.t 36))] [35,36])
.ret) .skip))
(.seq (.reg [xm 37 5,xo 38 (.faddr 2 (.t 6)),xn (.store false 1 (.t 38) (.t 37))] [37,38])
(.seq (.reg [xm 39 4,xo 40 (.load true 3 (.t 6)),⟨(some 41), none, .mkl 101 3 [(.int .i64 0),(.str ⟨#[]⟩),(.int .i64 0)] 1 [(0, (.t 40))] false, []⟩,xo 42 (.app 101 3 32 (.t 39) (.t 41)),xm 4 42] (rng 39 4))
(.reg [xm 43 5,xm 44 7,xo 45 (.bin .add 0 (.t 43) (.t 44)),xm 5 45] [43,44,45]))))))
(.reg [xm 19 5,xm 20 0,xm 21 5,xo 22 (.sslc (.t 20) (some (.t 21)) none),xo 23 (.call 77 [(true, (.t 22))]),xo 24 (.bin .add 0 (.t 19) (.t 23)),xm 5 24] (rng 19 6)))))))
(.seq (.reg [xm 46 4,xo 47 (.agg [(.int .i64 0),(.int .i64 0)] []),xm 2 46,xn (.store false 2 (.t 3) (.t 47))] [46,47])
.ret)))))
/-- caesura/lex.Tokens -/
def fn1157 : AFn := ⟨1, 48, c1157, [(.t 2),(.c 3 true 2)], 0⟩
theorem fn1157_body : fn1157.body = c1157 := rfl
theorem fn1157_res : fn1157.res = [(.t 2), (.c 3 true 2)] := rfl
theorem fn1157_keep : fn1157.keep = 0 := rfl
def c1159 : ACode :=
(.seq (.reg [xo 2 (.anil 39 5)] [])
(.seq (.reg [xm 4 0,xo 5 (.call 79 [(false, (.t 4))]),xm 3 5] [4,5])
(.seq (.block 0 (.loop false (.seq (.seq (.reg [xm 6 0,xo 7 (.call 80 [(false, (.t 6))])] [6])
(.cond (.t 7) [7] .skip (.exit 0)))
(.block 1 (.reg [xm 8 0,xm 9 3,xm 10 0,xo 11 (.call 79 [(false, (.t 10))]),xo 12 (.call 71 [(true, (.t 9)),(true, (.t 11))]),xo 13 (.ext (.t 12) 0),xo 14 (.ext (.t 12) 1),xo 15 (.call 61 [(false, (.t 8)),(true, (.t 13)),(true, (.t 14))]),xm 3 15] (rng 8 8))))))
(.seq (.reg [xm 16 3,xm 2 16] [16])
.ret))))
/-- (*caesura/parse.reader).member -/
def fn1159 : AFn := ⟨1, 17, c1159, [(.t 2)], 0⟩
theorem fn1159_body : fn1159.body = c1159 := rfl
theorem fn1159_res : fn1159.res = [(.t 2)] := rfl
theorem fn1159_keep : fn1159.keep = 0 := rfl
def c1160 : ACode :=
(.seq (.reg [xo 6 (.mov kf)] [])
(.seq (.seq (.reg [xm 9 0,xo 10 (.nilck (.t 9)),xo 11 (.faddr 0 (.t 10)),xo 12 (.load false 1 (.t 11)),xo 13 (.len 1 (.t 12)),xo 14 (.bin .eql 0 (.t 13) (ki 0)),xm 15 14,xf 16 15 (.mov (.t 0)),xf 17 15 (.nilck (.t 16)),xf 18 15 (.faddr 0 (.t 17)),xf 19 15 (.load false 1 (.t 18)),xf 20 15 (.iaddr 3 (.t 19) (ki 0)),xf 21 15 (.faddr 0 (.t 20)),xf 22 15 (.load false 1 (.t 21)),xf 23 15 (.mov (.t 1)),xf 24 15 (.bin .neq 0 (.t 22) (.t 23)),xo 25 (.pick (.t 15) kt (.t 24))] (rng 9 16))
(.cond (.t 25) [25] (.seq (.reg [xo 6 (.mov kf)] [])
.ret) .skip))
(.seq (.seq (.reg [xm 26 2,xo 27 (.len 1 (.t 26)),xo 28 (.mov (ki 0))] [])
(.block 0 (.loop false (.seq (.reg [xo 29 (.bin .lss 0 (.t 28) (.t 27))] [])
(.seq (.cond (.t 29) [29] .skip (.exit 0))
(.seq (.block 1 (.seq (.reg [xo 30 (.iaddr 1 (.t 26) (.t 28)),xo 31 (.load false 1 (.t 30)),xm 8 31] [30,31])
(.seq (.reg [xm 32 0,xo 33 (.nilck (.t 32)),xo 34 (.faddr 0 (.t 33)),xo 35 (.load false 1 (.t 34)),xo 36 (.iaddr 3 (.t 35) (ki 0)),xo 37 (.faddr 1 (.t 36)),xo 38 (.load false 1 (.t 37)),xm 39 8,xo 40 (.bin .eql 0 (.t 38) (.t 39))] (rng 32 8))
(.cond (.t 40) [40] (.seq (.reg [xo 6 (.mov kt)] [])
.ret) .skip))))
(.reg [xo 41 (.bin .add 0 (.t 28) (ki 1)),xm 28 41] [41])))))))
(.seq (.reg [xm 42 2,xo 43 (.len 1 (.t 42)),xo 44 (.bin .eql 0 (.t 43) (ki 0)),xm 6 44] [42,43,44])
.ret))))
/-- (*caesura/parse.reader).is -/
def fn1160 : AFn := ⟨3, 45, c1160, [(.t 6)], 0⟩
theorem fn1160_body : fn1160.body = c1160 := rfl
theorem fn1160_res : fn1160.res = [(.t 6)] := rfl
theorem fn1160_keep : fn1160.keep = 0 := rfl
def c1161 : ACode :=
(.seq (.reg [⟨(some 6), none, .new [(.int .i64 0),(.str ⟨#[]⟩),(.int .i64 0)], []⟩] [])
(.seq (.seq (.reg [xm 8 0,xm 9 1,xm 10 2,xo 11 (.call 59 [(false, (.t 8)),(true, (.t 9)),(true, (.t 10))]),xo 12 (.un .not (.t 11))] (rng 8 4))
(.cond (.t 12) [12] (.reg [xm 13 0,xo 14 (.call 64 [(false, (.t 13))]),xo 15 (.call 63 [(true, (ki 11)),(true, (.t 14))])] [13,14,15]) .skip))
(.seq (.reg [xm 16 0,xo 17 (.nilck (.t 16)),xo 18 (.faddr 0 (.t 17)),xo 19 (.load false 1 (.t 18)),xo 20 (.iaddr 3 (.t 19) (ki 0)),xo 21 (.load true 3 (.t 20)),⟨(some 7), none, .new [(.int .i64 0),(.str ⟨#[]⟩),(.int .i64 0)], []⟩,xn (.store false 3 (.t 7) (.t 21))] (rng 16 6))
(.seq (.reg [xm 22 0,xm 23 0,xo 24 (.nilck (.t 23)),xo 25 (.faddr 0 (.t 24)),xo 26 (.load false 1 (.t 25)),xo 27 (.slc 3 (.t 26) (some (ki 1)) none none),xo 28 (.nilck (.t 22)),xo 29 (.faddr 0 (.t 28)),xn (.store false 1 (.t 29) (.t 27))] (rng 22 8))
(.seq (.reg [xo 30 (.load true 3 (.t 7)),xn (.store false 3 (.t 6) (.t 30))] [30])
.ret)))))
/-- (*caesura/parse.reader).next -/
def fn1161 : AFn := ⟨3, 31, c1161, [(.c 6 true 3)], 0⟩
theorem fn1161_body : fn1161.body = c1161 := rfl
theorem fn1161_res : fn1161.res = [(.c 6 true 3)] := rfl
theorem fn1161_keep : fn1161.keep = 0 := rfl
def c1162 : ACode :=
(.seq (.reg [xo 6 (.anil 39 5)] [])
(.seq (.seq (.reg [xm 7 2,xo 8 (.un .not (.t 7))] [7])
(.cond (.t 8) [8] (.reg [xm 9 0,xo 10 (.nilck (.t 9)),xo 11 (.faddr 4 (.t 10)),xo 12 (.load false 1 (.t 11)),xo 13 (.call 63 [(true, (ki 14)),(true, (.t 12))])] (rng 9 5)) .skip))
(.seq (.reg [xm 14 1,xm 6 14] [14])
.ret)))
/-- (*caesura/parse.reader).made -/
def fn1162 : AFn := ⟨3, 15, c1162, [(.t 6)], 0⟩
theorem fn1162_body : fn1162.body = c1162 := rfl
theorem fn1162_res : fn1162.res = [(.t 6)] := rfl
theorem fn1162_keep : fn1162.keep = 0 := rfl
def c20 : ACode :=
(.seq (.reg [xo 4 (.anil 39 5),xo 5 (.mov kf)] [])
(.seq (.reg [xm 6 0,xm 7 1,xo 8 (.call 81 [(true, (ki 4)),(true, (.t 6)),(true, (.t 7))]),xo 9 (.ext (.t 8) 0),xo 10 (.ext (.t 8) 1),xm 4 9,xm 5 10] (rng 6 5))
.ret))
/-- caesura/tree.Alt -/
def fn20 : AFn := ⟨2, 11, c20, [(.t 4),(.t 5)], 0⟩
theorem fn20_body : fn20.body = c20 := rfl
theorem fn20_res : fn20.res = [(.t 4), (.t 5)] := rfl
theorem fn20_keep : fn20.keep = 0 := rfl
def c1163 : ACode :=
.stuck
/-- caesura/parse.fails -/
def fn1163 : AFn := ⟨2, 8, c1163, [], 0⟩
theorem fn1163_body : fn1163.body = c1163 := rfl
theorem fn1163_res : fn1163.res = [] := rfl
theorem fn1163_keep : fn1163.keep = 0 := rfl
def c1164 : ACode :=
(.seq (.reg [xo 2 (.mov (ki 0))] [])
(.seq (.seq (.reg [xm 3 0,xo 4 (.nilck (.t 3)),xo 5 (.faddr 0 (.t 4)),xo 6 (.load false 1 (.t 5)),xo 7 (.len 1 (.t 6)),xo 8 (.bin .eql 0 (.t 7) (ki 0))] (rng 3 5))
(.cond (.t 8) [8] (.seq (.reg [xm 9 0,xo 10 (.nilck (.t 9)),xo 11 (.faddr 1 (.t 10)),xo 12 (.load false 1 (.t 11)),xm 2 12] (rng 9 4))
.ret) .skip))
(.seq (.reg [xm 13 0,xo 14 (.nilck (.t 13)),xo 15 (.faddr 0 (.t 14)),xo 16 (.load false 1 (.t 15)),xo 17 (.iaddr 3 (.t 16) (ki 0)),xo 18 (.faddr 2 (.t 17)),xo 19 (.load false 1 (.t 18)),xm 2 19] (rng 13 7))
.ret)))
/-- (*caesura/parse.reader).at -/
def fn1164 : AFn := ⟨1, 20, c1164, [(.t 2)], 0⟩
theorem fn1164_body : fn1164.body = c1164 := rfl
theorem fn1164_res : fn1164.res = [(.t 2)] := rfl
theorem fn1164_keep : fn1164.keep = 0 := rfl
def c103 : ACode :=
(.seq (.reg [xo 1 (.box (.t 0)),xo 2 (.mov kf)] [])
(.seq (.reg [xo 3 (.faddr 3 (.t 1)),xo 4 (.load false 1 (.t 3)),xo 5 (.len 1 (.t 4)),xo 6 (.bin .eql 0 (.t 5) (ki 0)),xm 7 6,xt 8 7 (.faddr 4 (.t 1)),xt 9 7 (.load false 1 (.t 8)),⟨(some 10),(some (7, true)), .bin .eql 0 (.t 9) (.k (.str ⟨#[]⟩)), []⟩,xo 11 (.pick (.t 7) (.t 10) kf),xm 2 11] (rng 3 9))
.ret))
/-- caesura/tree.bare -/
def fn103 : AFn := ⟨1, 12, c103, [(.t 2)], 0⟩
theorem fn103_body : fn103.body = c103 := rfl
theorem fn103_res : fn103.res = [(.t 2)] := rfl
theorem fn103_keep : fn103.keep = 0 := rfl
def c104 : ACode :=
(.seq (.reg [xo 1 (.box (.t 0)),xo 2 (.mov kf)] [])
(.seq (.seq (.reg [xo 3 (.faddr 1 (.t 1)),xo 4 (.load false 1 (.t 3)),xo 5 (.bin .neq 0 (.t 4) (ki 0)),xm 6 5,xf 7 6 (.faddr 2 (.t 1)),xf 8 6 (.load false 1 (.t 7)),xf 9 6 (.bin .neq 0 (.t 8) (ki 0)),xo 10 (.pick (.t 6) kt (.t 9))] (rng 3 7))
(.cond (.t 10) [10] (.seq (.reg [xo 2 (.mov kf)] [])
.ret) .skip))
(.seq (.seq (.reg [xo 11 (.faddr 0 (.t 1)),xo 12 (.load false 1 (.t 11)),xo 13 (.bin .eql 0 (.t 12) (ki 2))] [11,12])
(.cond (.t 13) [13] (.seq (.reg [xo 14 (.faddr 3 (.t 1)),xo 15 (.load false 1 (.t 14)),xo 16 (.len 1 (.t 15)),xo 17 (.bin .gtr 0 (.t 16) (ki 0)),xm 18 17,xt 19 18 (.faddr 3 (.t 1)),xt 20 18 (.load false 1 (.t 19)),xt 21 18 (.call 82 [(true, (.t 20))]),xo 22 (.pick (.t 18) (.t 21) kf),xm 2 22] (rng 14 9))
.ret) .skip))
(.seq (.reg [xo 23 (.faddr 0 (.t 1)),xo 24 (.load false 1 (.t 23)),xo 25 (.bin .eql 0 (.t 24) (ki 0)),xm 26 25,xf 27 26 (.faddr 0 (.t 1)),xf 28 26 (.load false 1 (.t 27)),xf 29 26 (.bin .eql 0 (.t 28) (ki 1)),xo 30 (.pick (.t 26) kt (.t 29)),xm 31 30,xt 32 31 (.load true 5 (.t 1)),xt 33 31 (.call 65 [(true, (.t 32))]),xo 34 (.pick (.t 31) (.t 33) kf),xm 2 34] (rng 23 12))
.ret))))
/-- caesura/tree.leaf -/
def fn104 : AFn := ⟨1, 35, c104, [(.t 2)], 0⟩
theorem fn104_body : fn104.body = c104 := rfl
theorem fn104_res : fn104.res = [(.t 2)] := rfl
theorem fn104_keep : fn104.keep = 0 := rfl
def c1165 : ACode :=
(.seq (.reg [xo 4 (.mov kf)] [])
(.seq (.seq (.reg [xm 7 0,xo 8 (.len 1 (.t 7)),xo 9 (.mov (ki 0))] [])
(.block 0 (.loop false (.seq (.reg [xo 10 (.bin .lss 0 (.t 9) (.t 8))] [])
(.seq (.cond (.t 10) [10] .skip (.exit 0))
(.seq (.block 1 (.seq (.reg [xo 11 (.iaddr 2 (.t 7) (.t 9)),xo 12 (.load true 2 (.t 11)),xo 6 (.new [(.int .i64 0),(.int .i64 0)]),xn (.store false 2 (.t 6) (.t 12))] [11,12])
(.seq (.reg [xo 13 (.faddr 0 (.t 6)),xo 14 (.load false 1 (.t 13)),xo 15 (.conv .i32 (.t 14)),xm 16 1,xo 17 (.bin .leq 0 (.t 15) (.t 16)),xm 18 17,xt 19 18 (.mov (.t 1)),xt 20 18 (.faddr 1 (.t 6)),xt 21 18 (.load false 1 (.t 20)),xt 22 18 (.conv .i32 (.t 21)),xt 23 18 (.bin .leq 0 (.t 19) (.t 22)),xo 24 (.pick (.t 18) (.t 23) kf)] (rng 13 11))
(.cond (.t 24) [24] (.seq (.reg [xo 4 (.mov kt)] [])
.ret) .skip))))
(.reg [xo 25 (.bin .add 0 (.t 9) (ki 1)),xm 9 25] [25])))))))
(.seq (.reg [xo 4 (.mov kf)] [])
.ret)))
/-- caesura/derive.has -/
def fn1165 : AFn := ⟨2, 26, c1165, [(.t 4)], 0⟩
theorem fn1165_body : fn1165.body = c1165 := rfl
theorem fn1165_res : fn1165.res = [(.t 4)] := rfl
theorem fn1165_keep : fn1165.keep = 0 := rfl
def c68 : ACode :=
(.seq (.reg [xo 4 (.anil 39 5)] [])
(.seq (.reg [xm 8 0,xo 9 (.call 70 [(true, (.t 8))]),xm 5 9] [8,9])
(.seq (.seq (.reg [xm 10 5,xo 11 (.len 1 (.t 10)),xo 12 (.mov (ki 0))] [10])
(.block 0 (.loop false (.seq (.reg [xo 13 (.bin .lss 0 (.t 12) (.t 11))] [])
(.seq (.cond (.t 13) [13] .skip (.exit 0))
(.seq (.block 1 (.seq (.reg [xm 14 12,xm 6 14] [14])
(.seq (.reg [xm 15 5,xm 16 6,xo 17 (.iaddr 5 (.t 15) (.t 16)),xm 7 17] [15,16,17])
(.seq (.reg [xm 18 7,xm 19 7,xo 20 (.nilck (.t 19)),xo 21 (.faddr 3 (.t 20)),xo 22 (.load false 1 (.t 21)),xo 23 (.call 83 [(true, (.t 22))]),xo 24 (.nilck (.t 18)),xo 25 (.faddr 3 (.t 24)),xn (.store false 1 (.t 25) (.t 23))] (rng 18 8))
(.seq (.reg [xm 26 7,xo 27 (.nilck (.t 26)),xo 28 (.faddr 0 (.t 27)),xo 29 (.load false 1 (.t 28))] [26,27,28])
(.block 2 (.seq (.seq (.reg [xo 31 (.bin .eql 0 (.t 29) (ki 3)),xm 30 31] [31])
(.cond (.t 30) [] .skip (.reg [xo 32 (.bin .eql 0 (.t 29) (ki 4)),xm 30 32] [32])))
(.cond (.t 30) [] (.seq (.reg [xm 33 7,xo 34 (.nilck (.t 33)),xo 35 (.faddr 1 (.t 34)),xo 36 (.load false 1 (.t 35)),xm 37 1,xo 38 (.bin .add 0 (.t 36) (.t 37)),xo 39 (.nilck (.t 33)),xo 40 (.faddr 1 (.t 39)),xn (.store false 1 (.t 40) (.t 38))] (rng 33 8))
(.reg [xm 41 7,xo 42 (.nilck (.t 41)),xo 43 (.faddr 2 (.t 42)),xo 44 (.load false 1 (.t 43)),xm 45 1,xo 46 (.bin .add 0 (.t 44) (.t 45)),xo 47 (.nilck (.t 41)),xo 48 (.faddr 2 (.t 47)),xn (.store false 1 (.t 48) (.t 46))] (rng 41 8))) (.seq (.reg [xo 50 (.bin .eql 0 (.t 29) (ki 5)),xm 49 50] [50])
(.cond (.t 49) [49] (.reg [xm 51 7,xo 52 (.nilck (.t 51)),xo 53 (.faddr 1 (.t 52)),xo 54 (.load false 1 (.t 53)),xm 55 1,xo 56 (.bin .add 0 (.t 54) (.t 55)),xo 57 (.nilck (.t 51)),xo 58 (.faddr 1 (.t 57)),xn (.store false 1 (.t 58) (.t 56))] (rng 51 8)) .skip))))))))))
(.reg [xo 59 (.bin .add 0 (.t 12) (ki 1)),xm 12 59] [59])))))))
(.seq (.reg [xm 60 5,xm 4 60] [60])
.ret))))
/-- caesura/tree.moved -/
def fn68 : AFn := ⟨2, 61, c68, [(.t 4)], 1⟩
theorem fn68_body : fn68.body = c68 := rfl
theorem fn68_res : fn68.res = [(.t 4)] := rfl
theorem fn68_keep : fn68.keep = 1 := rfl
def c76 : ACode :=
(.seq (.reg [xo 4 (.mov kf)] [])
(.seq (.reg [xm 5 0,xo 6 (.call 84 [(true, (.t 5))]),xo 7 (.fld false 0 1 (.t 6)),xm 8 1,xo 9 (.bin .eql 0 (.t 7) (.t 8)),xm 4 9] (rng 5 5))
.ret))
/-- caesura/smart.is -/
def fn76 : AFn := ⟨2, 10, c76, [(.t 4)], 0⟩
theorem fn76_body : fn76.body = c76 := rfl
theorem fn76_res : fn76.res = [(.t 4)] := rfl
theorem fn76_keep : fn76.keep = 0 := rfl
def c77 : ACode :=
(.seq (.reg [xo 2 (.anil 39 5)] [])
(.seq (.seq (.reg [xm 3 0,xo 4 (.isnil false (.t 3))] [3])
(.cond (.t 4) [4] (.seq (.reg [xo 2 (.anil 39 5)] [])
.ret) .skip))
(.seq (.reg [⟨(some 5), none, .mkl 39 5 [(.int .i64 0),(.int .i64 0),(.int .i64 0),(.list 2 []),(.str ⟨#[]⟩)] 0 [] false, []⟩,xm 6 0,xo 7 (.app 39 5 64 (.t 5) (.t 6)),xm 2 7] [5,6,7])
.ret)))
/-- slices.Clone[caesura/api.Tree,caesura/api.Node] -/
def fn77 : AFn := ⟨1, 8, c77, [(.t 2)], 1⟩
theorem fn77_body : fn77.body = c77 := rfl
theorem fn77_res : fn77.res = [(.t 2)] := rfl
theorem fn77_keep : fn77.keep = 1 := rfl
def c19 : ACode :=
(.seq (.reg [xo 4 (.anil 39 5),xo 5 (.mov kf)] [])
(.seq (.reg [xm 6 0,xm 7 1,xo 8 (.call 81 [(true, (ki 3)),(true, (.t 6)),(true, (.t 7))]),xo 9 (.ext (.t 8) 0),xo 10 (.ext (.t 8) 1),xm 4 9,xm 5 10] (rng 6 5))
.ret))
/-- caesura/tree.Cat -/
def fn19 : AFn := ⟨2, 11, c19, [(.t 4),(.t 5)], 0⟩
theorem fn19_body : fn19.body = c19 := rfl
theorem fn19_res : fn19.res = [(.t 4), (.t 5)] := rfl
theorem fn19_keep : fn19.keep = 0 := rfl
def c78 : ACode :=
(.seq (.reg [xo 2 (.anil 23 1)] [])
(.seq (.reg [xo 3 (.anil 23 1)] [])
(.seq (.seq (.reg [xm 6 0,xo 7 (.len 1 (.t 6)),xo 8 (.mov (ki 0))] [])
(.block 0 (.loop false (.seq (.reg [xo 9 (.bin .lss 0 (.t 8) (.t 7))] [])
(.seq (.cond (.t 9) [9] .skip (.exit 0))
(.seq (.block 1 (.seq (.reg [xo 10 (.iaddr 1 (.t 6) (.t 8)),xo 11 (.load false 1 (.t 10)),xo 5 (.new [(.list 5 [])]),xn (.store false 1 (.t 5) (.t 11))] [10,11])
(.seq (.reg [xm 12 3,xo 13 (.mkf 86 [(.t 5)]),xo 14 (.call 85 [(false, (.t 12)),(false, (.t 13))]),xo 15 (.un .not (.t 14))] [12,13,14])
(.cond (.t 15) [15] (.reg [xm 16 3,xo 17 (.load false 1 (.t 5)),xo 18 (.mkl 23 1 [(.list 5 [])] 1 [(0, (.t 17))] false),xo 19 (.app 23 1 24 (.t 16) (.t 18)),xm 3 19] (rng 16 4)) .skip))))
(.reg [xo 20 (.bin .add 0 (.t 8) (ki 1)),xm 8 20] [20])))))))
(.seq (.seq (.reg [xm 21 3,xo 22 (.call 85 [(false, (.t 21)),(false, (.k (.func 88 [])))])] [21])
(.cond (.t 22) [22] (.reg [xm 23 3,xo 24 (.call 89 [(false, (.t 23)),(true, (ki 1))]),xm 3 24] [23,24]) .skip))
(.seq (.reg [xm 25 3,xm 2 25] [25])
.ret)))))
/-- caesura/smart.once -/
def fn78 : AFn := ⟨1, 26, c78, [(.t 2)], 0⟩
theorem fn78_body : fn78.body = c78 := rfl
theorem fn78_res : fn78.res = [(.t 2)] := rfl
theorem fn78_keep : fn78.keep = 0 := rfl
def c79 : ACode :=
(.seq (.reg [xo 2 (.anil 23 1)] [])
(.seq (.seq (.reg [xm 6 0,xo 7 (.call 69 [(true, (.t 6)),(true, (ki 4))]),xo 8 (.un .not (.t 7))] [6,7])
(.cond (.t 8) [8] (.seq (.reg [xm 9 0,xo 10 (.mkl 23 1 [(.list 5 [])] 1 [(0, (.t 9))] false),xm 2 10] [9,10])
.ret) .skip))
(.seq (.reg [xm 12 0,xo 13 (.call 45 [(true, (.t 12))]),xm 11 13,xo 14 (.ext (.t 11) 0),xo 15 (.ext (.t 11) 1),xo 16 (.ext (.t 11) 2),xm 3 14,xm 4 15,xm 5 16] [5,11,12,13,14,15,16])
(.seq (.reg [xm 17 3,xo 18 (.call 73 [(true, (.t 17))]),xm 19 4,xo 20 (.call 73 [(true, (.t 19))]),xo 21 (.app 23 1 24 (.t 18) (.t 20)),xm 2 21] (rng 17 5))
.ret))))
/-- caesura/smart.members -/
def fn79 : AFn := ⟨1, 22, c79, [(.t 2)], 1⟩
theorem fn79_body : fn79.body = c79 := rfl
theorem fn79_res : fn79.res = [(.t 2)] := rfl
theorem fn79_keep : fn79.keep = 1 := rfl
def c112 : ACode :=
(.seq (.reg [xo 4 (.mov kf)] [])
(.seq (.seq (.reg [xm 9 0,xo 10 (.len 1 (.t 9)),xm 11 1,xo 12 (.len 1 (.t 11)),xo 13 (.bin .neq 0 (.t 10) (.t 12))] (rng 9 4))
(.cond (.t 13) [13] (.seq (.reg [xo 4 (.mov kf)] [])
.ret) .skip))
(.seq (.seq (.reg [xo 5 (.mov (ki 0))] [])
(.block 0 (.loop false (.seq (.seq (.reg [xm 14 5,xm 15 0,xo 16 (.len 1 (.t 15)),xo 17 (.bin .lss 0 (.t 14) (.t 16))] [14,15,16])
(.cond (.t 17) [17] .skip (.exit 0)))
(.seq (.block 1 (.seq (.dreg [xm 20 0,xm 21 5,yo 22 (.iaddr 5 (.t 20) (.t 21)) [0, 1],yo 23 (.load true 5 (.t 22)) [0, 1, 2],xm 24 1,xm 25 5,yo 26 (.iaddr 5 (.t 24) (.t 25)) [4, 5],yo 27 (.load true 5 (.t 26)) [4, 5, 6],⟨(some 6), none, .new [(.int .i64 0),(.int .i64 0),(.int .i64 0),(.list 2 []),(.str ⟨#[]⟩)], []⟩,⟨(some 7), none, .new [(.int .i64 0),(.int .i64 0),(.int .i64 0),(.list 2 []),(.str ⟨#[]⟩)], []⟩,⟨none, none, .store false 5 (.t 6) (.t 23), [0, 1, 2, 3, 8, 9]⟩,⟨none, none, .store false 5 (.t 7) (.t 27), [0, 1, 2, 3, 4, 5, 6, 7, 8, 9, 10]⟩] (rng 20 8))
(.seq (.seq (.reg [xo 28 (.faddr 0 (.t 6)),xo 29 (.load false 1 (.t 28)),xo 30 (.faddr 0 (.t 7)),xo 31 (.load false 1 (.t 30)),xo 32 (.bin .neq 0 (.t 29) (.t 31)),xm 33 32,xf 34 33 (.faddr 1 (.t 6)),xf 35 33 (.load false 1 (.t 34)),xf 36 33 (.faddr 1 (.t 7)),xf 37 33 (.load false 1 (.t 36)),xf 38 33 (.bin .neq 0 (.t 35) (.t 37)),xo 39 (.pick (.t 33) kt (.t 38)),xm 40 39,xf 41 40 (.faddr 2 (.t 6)),xf 42 40 (.load false 1 (.t 41)),xf 43 40 (.faddr 2 (.t 7)),xf 44 40 (.load false 1 (.t 43)),xf 45 40 (.bin .neq 0 (.t 42) (.t 44)),xo 46 (.pick (.t 40) kt (.t 45)),xm 47 46,xf 48 47 (.faddr 4 (.t 6)),xf 49 47 (.load false 1 (.t 48)),xf 50 47 (.faddr 4 (.t 7)),xf 51 47 (.load false 1 (.t 50)),xf 52 47 (.bin .neq 0 (.t 49) (.t 51)),xo 53 (.pick (.t 47) kt (.t 52)),xm 54 53,xf 55 54 (.faddr 3 (.t 6)),xf 56 54 (.load false 1 (.t 55)),xf 57 54 (.len 1 (.t 56)),xf 58 54 (.faddr 3 (.t 7)),xf 59 54 (.load false 1 (.t 58)),xf 60 54 (.len 1 (.t 59)),xf 61 54 (.bin .neq 0 (.t 57) (.t 60)),xo 62 (.pick (.t 54) kt (.t 61))] (rng 28 34))
(.cond (.t 62) [62] (.seq (.reg [xo 4 (.mov kf)] [])
.ret) .skip))
(.seq (.reg [xo 8 (.mov (ki 0))] [])
(.block 2 (.loop false (.seq (.seq (.reg [xm 63 8,xo 64 (.faddr 3 (.t 6)),xo 65 (.load false 1 (.t 64)),xo 66 (.len 1 (.t 65)),xo 67 (.bin .lss 0 (.t 63) (.t 66))] (rng 63 4))
(.cond (.t 67) [67] .skip (.exit 2)))
(.seq (.block 3 (.seq (.dreg [xo 70 (.faddr 3 (.t 6)),yo 71 (.load false 1 (.t 70)) [0],xm 72 8,yo 73 (.iaddr 2 (.t 71) (.t 72)) [0, 1, 2],yo 74 (.load true 2 (.t 73)) [0, 1, 2, 3],xo 75 (.faddr 3 (.t 7)),yo 76 (.load false 1 (.t 75)) [5],xm 77 8,yo 78 (.iaddr 2 (.t 76) (.t 77)) [5, 6, 7],yo 79 (.load true 2 (.t 78)) [5, 6, 7, 8],yo 80 (.bins .neq [0,0] (.t 74) (.t 79)) (rng 0 10)] (rng 70 10))
(.cond (.t 80) [80] (.seq (.reg [xo 4 (.mov kf)] [])
.ret) .skip)))
(.reg [xm 68 8,xo 69 (.bin .add 0 (.t 68) (ki 1)),xm 8 69] [68,69])))))))))
(.reg [xm 18 5,xo 19 (.bin .add 0 (.t 18) (ki 1)),xm 5 19] [18,19]))))))
(.seq (.reg [xo 4 (.mov kt)] [])
.ret))))
/-- caesura/caesuraref12.Same -/
def fn112 : AFn := ⟨2, 81, c112, [(.t 4)], 0⟩
theorem fn112_body : fn112.body = c112 := rfl
theorem fn112_res : fn112.res = [(.t 4)] := rfl
theorem fn112_keep : fn112.keep = 0 := rfl
def c58 : ACode :=
(.seq (.reg [xo 3 (.box (.t 1)),xo 4 (.mov kf)] [])
(.seq (.reg [xm 5 0,xo 6 (.call 82 [(true, (.t 5))]),xm 7 6,xt 8 7 (.load false 1 (.t 3)),xt 9 7 (.call 26 [(true, (.t 8))]),xo 10 (.pick (.t 7) (.t 9) kf),xm 11 10,xt 12 11 (.mov (.t 0)),xt 13 11 (.mkf 91 [(.t 3)]),xt 14 11 (.call 90 [(true, (.t 12)),(false, (.t 13))]),xo 15 (.pick (.t 11) (.t 14) kf),xm 4 15] (rng 5 11))
.ret))
/-- caesura/sets.Has -/
def fn58 : AFn := ⟨2, 16, c58, [(.t 4)], 0⟩
theorem fn58_body : fn58.body = c58 := rfl
theorem fn58_res : fn58.res = [(.t 4)] := rfl
theorem fn58_keep : fn58.keep = 0 := rfl
def c126 : ACode :=
(.seq (.reg [xo 12 (.mov kf)] [])
(.seq (.seq (.reg [xm 14 3,xm 13 14] [14])
(.block 0 (.loop false (.seq (.seq (.reg [xm 15 13,xm 16 5,xo 17 (.bin .leq 0 (.t 15) (.t 16))] [15,16])
(.cond (.t 17) [17] .skip (.exit 0)))
(.seq (.block 1 (.seq (.reg [xm 20 0,xm 21 1,xm 22 4,xm 23 13,xo 24 (.call 37 [(false, (.t 20)),(true, (.t 21)),(true, (.t 22)),(true, (.t 23))]),xm 25 24,xt 26 25 (.mov (.t 0)),xt 27 25 (.mov (.t 2)),xt 28 25 (.mov (.t 13)),xt 29 25 (.mov (.t 5)),xt 30 25 (.call 37 [(false, (.t 26)),(true, (.t 27)),(true, (.t 28)),(true, (.t 29))]),xo 31 (.pick (.t 25) (.t 30) kf)] (rng 20 11))
(.cond (.t 31) [31] (.seq (.reg [xo 12 (.mov kt)] [])
.ret) .skip)))
(.reg [xm 18 13,xo 19 (.bin .add 0 (.t 18) (ki 1)),xm 13 19] [18,19]))))))
(.seq (.reg [xo 12 (.mov kf)] [])
.ret)))
/-- (*caesura/tree.taker).splits -/
def fn126 : AFn := ⟨6, 32, c126, [(.t 12)], 0⟩
theorem fn126_body : fn126.body = c126 := rfl
theorem fn126_res : fn126.res = [(.t 12)] := rfl
theorem fn126_keep : fn126.keep = 0 := rfl
def c1166 : ACode :=
(.seq (.reg [xo 2 (.mov (ki 0))] [])
(.seq (.reg [xo 3 (.mov (ki 0))] [])
(.seq (.block 0 (.loop false (.seq (.seq (.reg [xm 4 3,xm 5 0,xo 6 (.len 0 (.t 5)),xo 7 (.bin .lss 0 (.t 4) (.t 6))] [4,5,6])
(.cond (.t 7) [7] .skip (.exit 0)))
(.block 1 (.seq (.reg [xm 8 0,xm 9 3,xo 10 (.sidx (.t 8) (.t 9))] [8,9])
(.block 2 (.seq (.seq (.reg [xo 13 (.bin .eql 0 (.t 10) (.k (.int .u8 32))),xm 12 13] [13])
(.cond (.t 12) [] .skip (.seq (.reg [xo 14 (.bin .eql 0 (.t 10) (.k (.int .u8 9))),xm 12 14] [14])
(.cond (.t 12) [] .skip (.reg [xo 15 (.bin .eql 0 (.t 10) (.k (.int .u8 10))),xm 12 15] [15])))))
(.cond (.t 12) [] (.reg [xm 16 3,xo 17 (.bin .add 0 (.t 16) (ki 1)),xm 3 17] [16,17]) (.seq (.reg [xo 19 (.bin .eql 0 (.t 10) (.k (.int .u8 35))),xm 18 19] [19])
(.cond (.t 18) [18] (.reg [xm 20 3,xm 21 0,xm 22 3,xo 23 (.sslc (.t 21) (some (.t 22)) none),xo 24 (.call 92 [(true, (.t 23)),(false, (.k (.func 93 [])))]),xo 25 (.bin .add 0 (.t 20) (.t 24)),xm 3 25] (rng 20 6)) (.seq (.reg [xm 11 3,xm 2 11] [11])
.ret)))))))))))
(.seq (.reg [xm 26 3,xm 2 26] [26])
.ret))))
/-- caesura/lex.skipped -/
def fn1166 : AFn := ⟨1, 27, c1166, [(.t 2)], 0⟩
theorem fn1166_body : fn1166.body = c1166 := rfl
theorem fn1166_res : fn1166.res = [(.t 2)] := rfl
theorem fn1166_keep : fn1166.keep = 0 := rfl
def c1167 : ACode :=
(.seq (.reg [⟨(some 2), none, .new [(.int .i64 0),(.str ⟨#[]⟩),(.int .i64 0)], []⟩,xo 3 (.mov (ki 0)),xo 4 (.mov kf)] [])
(.seq (.seq (.reg [xm 13 0,⟨(some 14), none, .call 94 [(true, (.t 13)),(true, (.k (.str ⟨#[117, 43]⟩)))], []⟩,xm 12 14,xo 15 (.ext (.t 12) 0),xo 16 (.ext (.t 12) 1),xm 5 15,xm 6 16] (rng 12 5))
(.seq (.reg [xm 17 6] [])
(.cond (.t 17) [17] (.seq (.reg [xm 19 5,xo 20 (.call 95 [(true, (.t 19))]),xm 18 20,xo 21 (.ext (.t 18) 0),xo 22 (.ext (.t 18) 1),xm 7 21,xm 8 22] (rng 18 5))
(.seq (.reg [xm 23 7,⟨(some 24), none, .agg [(.int .i64 0),(.str ⟨#[]⟩),(.int .i64 0)] [(0, 1, (ki 2)),(1, 1, (.t 23))], []⟩,xm 25 7,xo 26 (.len 0 (.t 25)),xo 27 (.bin .add 0 (.t 26) (ki 2)),xm 28 8,xn (.store false 3 (.t 2) (.t 24)),xm 3 27,xm 4 28] (rng 23 6))
.ret)) .skip)))
(.seq (.seq (.reg [xm 29 0,xo 30 (.sidx (.t 29) (ki 0)),xo 31 (.call 96 [(true, (.t 30))])] [29,30])
(.cond (.t 31) [31] (.seq (.reg [xm 32 0,xo 33 (.call 92 [(true, (.t 32)),(false, (.k (.func 97 [])))]),xm 9 33] [32,33])
(.seq (.dreg [xm 34 0,xm 35 9,yo 36 (.sslc (.t 34) none (some (.t 35))) [0, 1],⟨(some 37), none, .agg [(.int .i64 0),(.str ⟨#[]⟩),(.int .i64 0)] [(0, 1, (ki 1)),(1, 1, (.t 36))], [0, 1, 2]⟩,xm 38 9,xm 39 0,xm 40 9,yo 41 (.sslc (.t 39) none (some (.t 40))) [5, 6],yo 42 (.call 98 [(true, (.t 41))]) [5, 6, 7],⟨none, none, .storew 3 (.t 2) (.t 37), [0, 1, 2, 3, 5, 6, 7, 8]⟩,ym 3 38 [0, 1, 2, 3, 4, 5, 6, 7, 8, 9],ym 4 42 (rng 0 11)] (rng 34 9))
.ret)) .skip))
(.seq (.seq (.reg [⟨(some 43), none, .load true 26 (.k (.rp [(.str ⟨#[61]⟩),(.int .i64 3),(.str ⟨#[59]⟩),(.int .i64 3),(.str ⟨#[40]⟩),(.int .i64 3),(.str ⟨#[41]⟩),(.int .i64 3),(.str ⟨#[91]⟩),(.int .i64 3),(.str ⟨#[93]⟩),(.int .i64 3),(.str ⟨#[124]⟩),(.int .i64 3),(.str ⟨#[42]⟩),(.int .i64 3),(.str ⟨#[43]⟩),(.int .i64 3),(.str ⟨#[63]⟩),(.int .i64 3),(.str ⟨#[45]⟩),(.int .i64 3),(.str ⟨#[195, 183]⟩),(.int .i64 4),(.str ⟨#[195, 151]⟩),(.int .i64 5)])), []⟩,xo 44 (.mov (ki 0))] [])
(.block 0 (.loop false (.seq (.reg [xo 45 (.bin .lss 0 (.t 44) (ki 13))] [])
(.seq (.cond (.t 45) [45] .skip (.exit 0))
(.seq (.block 1 (.seq (.reg [xo 46 (.aidx true 2 13 (.t 43) (.t 44)),⟨(some 11), none, .new [(.str ⟨#[]⟩),(.int .i64 0)], []⟩,xn (.store false 2 (.t 11) (.t 46))] [46])
(.seq (.reg [xm 47 0,xo 48 (.faddr 0 (.t 11)),xo 49 (.load false 1 (.t 48)),xo 50 (.call 99 [(true, (.t 47)),(true, (.t 49))])] [47,48,49])
(.cond (.t 50) [50] (.seq (.dreg [xo 51 (.faddr 1 (.t 11)),yo 52 (.load false 1 (.t 51)) [0],xo 53 (.faddr 0 (.t 11)),yo 54 (.load false 1 (.t 53)) [2],⟨(some 55), none, .agg [(.int .i64 0),(.str ⟨#[]⟩),(.int .i64 0)] [(0, 1, (.t 52)),(1, 1, (.t 54))], [0, 1, 2, 3]⟩,xo 56 (.faddr 0 (.t 11)),yo 57 (.load false 1 (.t 56)) [5],yo 58 (.len 0 (.t 57)) [5, 6],⟨none, none, .storew 3 (.t 2) (.t 55), [0, 1, 2, 3, 4]⟩,ym 3 58 [0, 1, 2, 3, 4, 5, 6, 7, 8],yo 4 (.mov kt) (rng 0 10)] (rng 51 8))
.ret) .skip))))
(.reg [xo 59 (.bin .add 0 (.t 44) (ki 1)),xm 44 59] [59])))))))
(.seq (.reg [⟨(some 60), none, .agg [(.int .i64 0),(.str ⟨#[]⟩),(.int .i64 0)] [], []⟩,xn (.store false 3 (.t 2) (.t 60)),xo 3 (.mov (ki 0)),xo 4 (.mov kf)] [60])
.ret)))))
/-- caesura/lex.token -/
def fn1167 : AFn := ⟨1, 61, c1167, [(.c 2 true 3),(.t 3),(.t 4)], 0⟩
theorem fn1167_body : fn1167.body = c1167 := rfl
theorem fn1167_res : fn1167.res = [(.c 2 true 3), (.t 3), (.t 4)] := rfl
theorem fn1167_keep : fn1167.keep = 0 := rfl
def c1168 : ACode :=
(.seq (.reg [xo 2 (.anil 39 5)] [])
(.seq (.reg [xm 4 0,xo 5 (.call 100 [(false, (.t 4))]),xm 3 5] [4,5])
(.seq (.block 0 (.loop false (.seq (.seq (.reg [xm 6 0,⟨(some 7), none, .mkl 9 1 [(.str ⟨#[]⟩)] 3 [(0, (.k (.str ⟨#[42]⟩))),(1, (.k (.str ⟨#[43]⟩))),(2, (.k (.str ⟨#[63]⟩)))] false, []⟩,xo 8 (.call 59 [(false, (.t 6)),(true, (ki 3)),(true, (.t 7))])] [6,7])
(.cond (.t 8) [8] .skip (.exit 0)))
(.block 1 (.seq (.reg [xm 9 0,xo 10 (.call 60 [(false, (.t 9)),(true, (ki 3)),(true, (.k (.list 1 [])))]),xo 11 (.fld false 1 1 (.t 10))] [9,10])
(.block 2 (.seq (.reg [⟨(some 20), none, .bin .eql 0 (.t 11) (.k (.str ⟨#[42]⟩)), []⟩,xm 19 20] [20])
(.cond (.t 19) [19] (.reg [xm 21 0,xm 22 3,xo 23 (.call 101 [(true, (.t 22))]),xo 24 (.ext (.t 23) 0),xo 25 (.ext (.t 23) 1),xo 26 (.call 61 [(false, (.t 21)),(true, (.t 24)),(true, (.t 25))]),xm 3 26] (rng 21 6)) (.seq (.reg [⟨(some 28), none, .bin .eql 0 (.t 11) (.k (.str ⟨#[43]⟩)), []⟩,xm 27 28] [28])
(.cond (.t 27) [27] (.reg [xm 29 0,xm 30 3,xm 31 0,xm 32 3,xo 33 (.call 101 [(true, (.t 32))]),xo 34 (.ext (.t 33) 0),xo 35 (.ext (.t 33) 1),xo 36 (.call 61 [(false, (.t 31)),(true, (.t 34)),(true, (.t 35))]),xo 37 (.call 71 [(true, (.t 30)),(true, (.t 36))]),xo 38 (.ext (.t 37) 0),xo 39 (.ext (.t 37) 1),xo 40 (.call 61 [(false, (.t 29)),(true, (.t 38)),(true, (.t 39))]),xm 3 40] (rng 29 12)) (.reg [xm 12 0,xm 13 3,xo 14 (.call 46 [(true, (ki 1))]),xo 15 (.call 62 [(true, (.t 13)),(true, (.t 14))]),xo 16 (.ext (.t 15) 0),xo 17 (.ext (.t 15) 1),xo 18 (.call 61 [(false, (.t 12)),(true, (.t 16)),(true, (.t 17))]),xm 3 18] (rng 12 7))))))))))))
(.seq (.reg [xm 41 3,xm 2 41] [41])
.ret))))
/-- (*caesura/parse.reader).piece -/
def fn1168 : AFn := ⟨1, 42, c1168, [(.t 2)], 0⟩
theorem fn1168_body : fn1168.body = c1168 := rfl
theorem fn1168_res : fn1168.res = [(.t 2)] := rfl
theorem fn1168_keep : fn1168.keep = 0 := rfl
def c1169 : ACode :=
(.seq (.reg [xo 2 (.mov kf)] [])
(.seq (.reg [xm 3 0,xo 4 (.call 59 [(false, (.t 3)),(true, (ki 1)),(true, (.k (.list 1 [])))]),xm 5 4,xt 6 5 (.mov (.t 0)),⟨(some 7),(some (5, true)), .mkl 9 1 [(.str ⟨#[]⟩)] 2 [(0, (.k (.str ⟨#[99, 108, 97, 115, 115]⟩))),(1, (.k (.str ⟨#[101, 108, 115, 101]⟩)))] false, []⟩,xt 8 5 (.call 59 [(false, (.t 6)),(true, (ki 1)),(true, (.t 7))]),xt 9 5 (.un .not (.t 8)),xo 10 (.pick (.t 5) (.t 9) kf),xm 11 10,xf 12 11 (.mov (.t 0)),⟨(some 13),(some (11, false)), .mkl 9 1 [(.str ⟨#[]⟩)] 2 [(0, (.k (.str ⟨#[91]⟩))),(1, (.k (.str ⟨#[40]⟩)))] false, []⟩,xf 14 11 (.call 59 [(false, (.t 12)),(true, (ki 3)),(true, (.t 13))]),xo 15 (.pick (.t 11) kt (.t 14)),xm 2 15] (rng 3 13))
.ret))
/-- (*caesura/parse.reader).begins -/
def fn1169 : AFn := ⟨1, 16, c1169, [(.t 2)], 0⟩
theorem fn1169_body : fn1169.body = c1169 := rfl
theorem fn1169_res : fn1169.res = [(.t 2)] := rfl
theorem fn1169_keep : fn1169.keep = 0 := rfl
def c67 : ACode :=
(.seq (.reg [xo 6 (.anil 39 5),xo 7 (.mov kf)] [])
(.seq (.seq (.reg [xm 9 1,xo 10 (.call 25 [(true, (.t 9))]),xo 11 (.un .not (.t 10)),xm 12 11,xf 13 12 (.mov (.t 2)),xf 14 12 (.call 25 [(true, (.t 13))]),xf 15 12 (.un .not (.t 14)),xo 16 (.pick (.t 12) kt (.t 15)),xm 17 16,xf 18 17 (.mov (.t 1)),xf 19 17 (.len 1 (.t 18)),xf 20 17 (.mov (.t 2)),xf 21 17 (.len 1 (.t 20)),xf 22 17 (.bin .add 0 (.t 19) (.t 21)),xf 23 17 (.bin .add 0 (.t 22) (ki 1)),xf 24 17 (.bin .gtr 0 (.t 23) (ki 40000)),xo 25 (.pick (.t 17) kt (.t 24))] (rng 9 16))
(.cond (.t 25) [25] (.seq (.reg [xo 6 (.anil 39 5),xo 7 (.mov kf)] [])
.ret) .skip))
(.seq (.reg [xm 26 1,xo 27 (.call 68 [(true, (.t 26)),(true, (ki 0))]),xm 28 2,xm 29 1,xo 30 (.len 1 (.t 29)),xo 31 (.call 68 [(true, (.t 28)),(true, (.t 30))]),xo 32 (.app 39 5 64 (.t 27) (.t 31)),xm 8 32] (rng 26 7))
(.seq (.reg [xm 33 8,xm 34 0,xm 35 1,xo 36 (.len 1 (.t 35)),xo 37 (.bin .sub 0 (.t 36) (ki 1)),xm 38 8,xo 39 (.len 1 (.t 38)),xo 40 (.bin .sub 0 (.t 39) (ki 1)),⟨(some 41), none, .agg [(.int .i64 0),(.int .i64 0),(.int .i64 0),(.list 2 []),(.str ⟨#[]⟩)] [(0, 1, (.t 34)),(1, 1, (.t 37)),(2, 1, (.t 40))], []⟩,⟨(some 42), none, .mkl 39 5 [(.int .i64 0),(.int .i64 0),(.int .i64 0),(.list 2 []),(.str ⟨#[]⟩)] 1 [(0, (.t 41))] false, []⟩,xo 43 (.app 39 5 64 (.t 33) (.t 42)),xm 6 43,xo 7 (.mov kt)] (rng 33 11))
.ret))))
/-- caesura/tree.pair -/
def fn67 : AFn := ⟨3, 44, c67, [(.t 6),(.t 7)], 0⟩
theorem fn67_body : fn67.body = c67 := rfl
theorem fn67_res : fn67.res = [(.t 6), (.t 7)] := rfl
theorem fn67_keep : fn67.keep = 0 := rfl
def c56 : ACode :=
(.seq (.reg [xo 2 (.mov kf)] [])
(.seq (.seq (.reg [xm 5 0,xo 6 (.len 1 (.t 5)),xo 7 (.mov (ki 0))] [])
(.block 0 (.loop false (.seq (.reg [xo 8 (.bin .lss 0 (.t 7) (.t 6))] [])
(.seq (.cond (.t 8) [8] .skip (.exit 0))
(.seq (.block 1 (.seq (.reg [xm 9 7,xo 10 (.iaddr 2 (.t 5) (.t 7)),xo 11 (.load true 2 (.t 10)),xo 4 (.new [(.int .i64 0),(.int .i64 0)]),xm 3 9,xn (.store false 2 (.t 4) (.t 11))] [9,10,11])
(.seq (.dreg [xo 12 (.load true 2 (.t 4)),yo 13 (.call 102 [(true, (.t 12))]) [0],yo 14 (.un .not (.t 13)) [0, 1],ym 15 14 [0, 1, 2],yf 16 15 (.mov (.t 3)) [0, 1, 2, 3],yf 17 15 (.bin .gtr 0 (.t 16) (ki 0)) [0, 1, 2, 3, 4],yf 18 15 (.mov (.t 17)) [0, 1, 2, 3, 4, 5],yt 19 18 (.mov (.t 0)) [0, 1, 2, 3, 4, 5, 6],yt 20 18 (.mov (.t 3)) [0, 1, 2, 3, 4, 5, 6],yt 21 18 (.bin .sub 0 (.t 20) (ki 1)) [0, 1, 2, 3, 4, 5, 6, 8],yt 22 18 (.iaddr 2 (.t 19) (.t 21)) [0, 1, 2, 3, 4, 5, 6, 7, 8, 9],yt 23 18 (.load true 2 (.t 22)) [0, 1, 2, 3, 4, 5, 6, 7, 8, 9, 10],yt 24 18 (.load true 2 (.t 4)) [0, 1, 2, 3, 4, 5, 6],yt 25 18 (.call 103 [(true, (.t 23)),(true, (.t 24))]) [0, 1, 2, 3, 4, 5, 6, 7, 8, 9, 10, 11, 12],yt 26 18 (.un .not (.t 25)) [0, 1, 2, 3, 4, 5, 6, 7, 8, 9, 10, 11, 12, 13],yf 27 15 (.pick (.t 18) (.t 26) kf) [0, 1, 2, 3, 4, 5, 6, 7, 8, 9, 10, 11, 12, 13, 14],yo 28 (.pick (.t 15) kt (.t 27)) (rng 0 16)] (rng 12 16))
(.cond (.t 28) [28] (.seq (.reg [xo 2 (.mov kf)] [])
.ret) .skip))))
(.reg [xo 29 (.bin .add 0 (.t 7) (ki 1)),xm 7 29] [29])))))))
(.seq (.reg [xo 2 (.mov kt)] [])
.ret)))
/-- caesura/sets.Good -/
def fn56 : AFn := ⟨1, 30, c56, [(.t 2)], 0⟩
theorem fn56_body : fn56.body = c56 := rfl
theorem fn56_res : fn56.res = [(.t 2)] := rfl
theorem fn56_keep : fn56.keep = 0 := rfl
def c69 : ACode :=
(.seq (.reg [xo 2 (.anil 60 2)] [])
(.seq (.seq (.reg [xm 3 0,xo 4 (.isnil false (.t 3))] [3])
(.cond (.t 4) [4] (.seq (.reg [xo 2 (.anil 60 2)] [])
.ret) .skip))
(.seq (.reg [xo 5 (.mkl 60 2 [(.int .i64 0),(.int .i64 0)] 0 [] false),xm 6 0,xo 7 (.app 60 2 16 (.t 5) (.t 6)),xm 2 7] [5,6,7])
.ret)))
/-- slices.Clone[caesura/api.Set,caesura/api.Range] -/
def fn69 : AFn := ⟨1, 8, c69, [(.t 2)], 1⟩
theorem fn69_body : fn69.body = c69 := rfl
theorem fn69_res : fn69.res = [(.t 2)] := rfl
theorem fn69_keep : fn69.keep = 1 := rfl
def c106 : ACode :=
(.seq (.reg [⟨(some 2), none, .new [(.int .i64 0),(.int .i64 0),(.int .i64 0),(.str ⟨#[]⟩)], []⟩] [])
(.seq (.reg [xm 4 0,xm 5 0,xo 6 (.len 1 (.t 5)),xo 7 (.bin .sub 0 (.t 6) (ki 1)),xo 8 (.iaddr 5 (.t 4) (.t 7)),xo 9 (.load true 5 (.t 8)),⟨(some 3), none, .new [(.int .i64 0),(.int .i64 0),(.int .i64 0),(.list 2 []),(.str ⟨#[]⟩)], []⟩,xn (.store false 5 (.t 3) (.t 9))] (rng 4 6))
(.seq (.reg [xo 10 (.faddr 0 (.t 3)),xo 11 (.load false 1 (.t 10)),xo 12 (.faddr 1 (.t 3)),xo 13 (.load false 1 (.t 12)),xo 14 (.faddr 2 (.t 3)),xo 15 (.load false 1 (.t 14)),xo 16 (.faddr 4 (.t 3)),xo 17 (.load false 1 (.t 16)),⟨(some 18), none, .agg [(.int .i64 0),(.int .i64 0),(.int .i64 0),(.str ⟨#[]⟩)] [(0, 1, (.t 11)),(1, 1, (.t 13)),(2, 1, (.t 15)),(3, 1, (.t 17))], []⟩,xn (.store false 4 (.t 2) (.t 18))] (rng 10 9))
.ret)))
/-- caesura/smart.faced -/
def fn106 : AFn := ⟨1, 19, c106, [(.c 2 true 4)], 0⟩
theorem fn106_body : fn106.body = c106 := rfl
theorem fn106_res : fn106.res = [(.c 2 true 4)] := rfl
theorem fn106_keep : fn106.keep = 0 := rfl
def c107 : ACode :=
(.seq (.reg [xo 4 (.mov kf)] [])
(.seq (.reg [xm 5 0,xm 6 1,xo 7 (.call 104 [(false, (.t 5)),(false, (.t 6))]),xo 8 (.bin .geq 0 (.t 7) (ki 0)),xm 4 8] (rng 5 4))
.ret))
/-- slices.ContainsFunc[[]caesura/api.Tree,caesura/api.Tree] -/
def fn107 : AFn := ⟨2, 9, c107, [(.t 4)], 0⟩
theorem fn107_body : fn107.body = c107 := rfl
theorem fn107_res : fn107.res = [(.t 4)] := rfl
theorem fn107_keep : fn107.keep = 0 := rfl
def c108 : ACode :=
(.seq (.reg [xo 3 (.mov kf)] [])
(.seq (.reg [xm 4 0,xo 5 (.load false 1 (.t 1)),xo 6 (.call 87 [(true, (.t 4)),(true, (.t 5))]),xm 3 6] [4,5,6])
.ret))
/-- caesura/smart.once$1 -/
def fn108 : AFn := ⟨2, 7, c108, [(.t 3)], 0⟩
theorem fn108_body : fn108.body = c108 := rfl
theorem fn108_res : fn108.res = [(.t 3)] := rfl
theorem fn108_keep : fn108.keep = 0 := rfl
def c109 : ACode :=
(.seq (.reg [xo 4 (.mov kf)] [])
(.seq (.reg [xm 5 0,xo 6 (.call 84 [(true, (.t 5))]),xm 7 1,xo 8 (.call 84 [(true, (.t 7))]),xo 9 (.bins .eql [0,0,0,2] (.t 6) (.t 8)),xm 10 9,xt 11 10 (.mov (.t 0)),xt 12 10 (.mov (.t 1)),xt 13 10 (.call 105 [(true, (.t 11)),(true, (.t 12))]),xo 14 (.pick (.t 10) (.t 13) kf),xm 4 14] (rng 5 10))
.ret))
/-- caesura/smart.alike -/
def fn109 : AFn := ⟨2, 15, c109, [(.t 4)], 0⟩
theorem fn109_body : fn109.body = c109 := rfl
theorem fn109_res : fn109.res = [(.t 4)] := rfl
theorem fn109_keep : fn109.keep = 0 := rfl
def c110 : ACode :=
(.seq (.reg [xo 2 (.mov kf)] [])
(.seq (.reg [xm 3 0,xo 4 (.call 69 [(true, (.t 3)),(true, (ki 5))]),xm 2 4] [3,4])
.ret))
/-- caesura/smart.once$2 -/
def fn110 : AFn := ⟨1, 5, c110, [(.t 2)], 0⟩
theorem fn110_body : fn110.body = c110 := rfl
theorem fn110_res : fn110.res = [(.t 2)] := rfl
theorem fn110_keep : fn110.keep = 0 := rfl
def c111 : ACode :=
(.seq (.reg [xo 3 (.box (.t 1)),xo 4 (.anil 23 1)] [])
(.seq (.reg [xm 5 0,xo 6 (.mkf 107 [(.t 3)]),xo 7 (.call 106 [(false, (.t 5)),(false, (.t 6))]),xm 4 7] [5,6,7])
.ret))
/-- caesura/smart.without -/
def fn111 : AFn := ⟨2, 8, c111, [(.t 4)], 0⟩
theorem fn111_body : fn111.body = c111 := rfl
theorem fn111_res : fn111.res = [(.t 4)] := rfl
theorem fn111_keep : fn111.keep = 0 := rfl
def c98 : ACode :=
(.seq (.reg [xo 4 (.mov kf)] [])
(.seq (.reg [xm 5 0,xm 6 1,xo 7 (.call 108 [(true, (.t 5)),(false, (.t 6))]),xo 8 (.bin .geq 0 (.t 7) (ki 0)),xm 4 8] (rng 5 4))
.ret))
/-- slices.ContainsFunc[caesura/api.Set,caesura/api.Range] -/
def fn98 : AFn := ⟨2, 9, c98, [(.t 4)], 0⟩
theorem fn98_body : fn98.body = c98 := rfl
theorem fn98_res : fn98.res = [(.t 4)] := rfl
theorem fn98_keep : fn98.keep = 0 := rfl
def c99 : ACode :=
(.seq (.reg [xo 2 (.box (.t 0)),xo 3 (.mov kf)] [])
(.seq (.reg [xo 4 (.faddr 0 (.t 2)),xo 5 (.load false 1 (.t 4)),xo 6 (.load false 1 (.t 1)),xo 7 (.bin .leq 0 (.t 5) (.t 6)),xm 8 7,xt 9 8 (.load false 1 (.t 1)),xt 10 8 (.faddr 1 (.t 2)),xt 11 8 (.load false 1 (.t 10)),xt 12 8 (.bin .leq 0 (.t 9) (.t 11)),xo 13 (.pick (.t 8) (.t 12) kf),xm 3 13] (rng 4 10))
.ret))
/-- caesura/sets.Has$1 -/
def fn99 : AFn := ⟨2, 14, c99, [(.t 3)], 0⟩
theorem fn99_body : fn99.body = c99 := rfl
theorem fn99_res : fn99.res = [(.t 3)] := rfl
theorem fn99_keep : fn99.keep = 0 := rfl
def c1170 : ACode :=
(.seq (.reg [xo 4 (.mov (ki 0))] [])
(.seq (.reg [xo 5 (.mov (ki 0))] [])
(.seq (.block 0 (.loop false (.seq (.seq (.reg [xm 6 5,xm 7 0,xo 8 (.len 0 (.t 7)),xo 9 (.bin .lss 0 (.t 6) (.t 8)),xm 10 9,xt 11 10 (.mov (.t 1)),xt 12 10 (.mov (.t 0)),xt 13 10 (.mov (.t 5)),xt 14 10 (.sidx (.t 12) (.t 13)),xt 15 10 (.callv (.t 11) [(true, (.t 14))]),xo 16 (.pick (.t 10) (.t 15) kf)] (rng 6 10))
(.cond (.t 16) [16] .skip (.exit 0)))
(.block 1 (.reg [xm 17 5,xo 18 (.bin .add 0 (.t 17) (ki 1)),xm 5 18] [17,18])))))
(.seq (.reg [xm 19 5,xm 4 19] [19])
.ret))))
/-- caesura/lex.run -/
def fn1170 : AFn := ⟨2, 20, c1170, [(.t 4)], 0⟩
theorem fn1170_body : fn1170.body = c1170 := rfl
theorem fn1170_res : fn1170.res = [(.t 4)] := rfl
theorem fn1170_keep : fn1170.keep = 0 := rfl
def c1171 : ACode :=
(.seq (.reg [xo 2 (.mov kf)] [])
(.seq (.reg [xm 3 0,xo 4 (.bin .neq 0 (.t 3) (.k (.int .u8 10))),xm 2 4] [3,4])
.ret))
/-- caesura/lex.skipped$1 -/
def fn1171 : AFn := ⟨1, 5, c1171, [(.t 2)], 0⟩
theorem fn1171_body : fn1171.body = c1171 := rfl
theorem fn1171_res : fn1171.res = [(.t 2)] := rfl
theorem fn1171_keep : fn1171.keep = 0 := rfl
def c1172 : ACode :=
(.seq (.reg [⟨(some 4), none, .mov (.k (.str ⟨#[]⟩)), []⟩,xo 5 (.mov kf)] [])
(.seq (.reg [xm 6 0,xm 7 1,xo 8 (.call 109 [(true, (.t 6)),(true, (.t 7))]),xo 9 (.ext (.t 8) 0),xo 10 (.ext (.t 8) 1),xm 4 9,xm 5 10] (rng 6 5))
.ret))
/-- strings.CutPrefix -/
def fn1172 : AFn := ⟨2, 11, c1172, [(.t 4),(.t 5)], 0⟩
theorem fn1172_body : fn1172.body = c1172 := rfl
theorem fn1172_res : fn1172.res = [(.t 4), (.t 5)] := rfl
theorem fn1172_keep : fn1172.keep = 0 := rfl
def c1173 : ACode :=
(.seq (.reg [⟨(some 2), none, .mov (.k (.str ⟨#[]⟩)), []⟩,xo 3 (.mov kf)] [])
(.seq (.reg [xm 7 0,xm 8 0,xo 9 (.call 92 [(true, (.t 8)),(false, (.k (.func 110 [])))]),xo 10 (.sslc (.t 7) none (some (.t 9))),xm 4 10] (rng 7 4))
(.seq (.reg [xm 12 4,xo 13 (.call 111 [(true, (.t 12)),(true, (ki 16)),(true, (ki 32))]),xm 11 13,xo 14 (.ext (.t 11) 0),xo 15 (.ext (.t 11) 1),xm 5 14,xm 6 15] (rng 11 5))
(.seq (.reg [xm 16 4,xm 17 6,xo 18 (.bin .eql 2 (.t 17) (.k .nili)),xm 19 18,xt 20 19 (.mov (.t 4)),xt 21 19 (.len 0 (.t 20)),xt 22 19 (.bin .leq 0 (.t 21) (ki 6)),xo 23 (.pick (.t 19) (.t 22) kf),xm 24 23,xt 25 24 (.mov (.t 5)),xt 26 24 (.bin .leq 0 (.t 25) (.k (.int .u64 1114111))),xo 27 (.pick (.t 24) (.t 26) kf),xm 2 16,xm 3 27] (rng 16 12))
.ret))))
/-- caesura/lex.number -/
def fn1173 : AFn := ⟨1, 28, c1173, [(.t 2),(.t 3)], 0⟩
theorem fn1173_body : fn1173.body = c1173 := rfl
theorem fn1173_res : fn1173.res = [(.t 2), (.t 3)] := rfl
theorem fn1173_keep : fn1173.keep = 0 := rfl
def c1174 : ACode :=
(.seq (.reg [xo 2 (.mov kf)] [])
(.seq (.reg [xm 4 0,xo 5 (.conv .i32 (.t 4)),xm 3 5] [4,5])
(.seq (.reg [xm 6 3,xo 7 (.bin .geq 0 (.t 6) (.k (.int .i32 97))),xm 8 7,xt 9 8 (.mov (.t 3)),xt 10 8 (.bin .leq 0 (.t 9) (.k (.int .i32 122))),xo 11 (.pick (.t 8) (.t 10) kf),xm 2 11] (rng 6 6))
.ret)))
/-- caesura/lex.small -/
def fn1174 : AFn := ⟨1, 12, c1174, [(.t 2)], 0⟩
theorem fn1174_body : fn1174.body = c1174 := rfl
theorem fn1174_res : fn1174.res = [(.t 2)] := rfl
theorem fn1174_keep : fn1174.keep = 0 := rfl
def c1175 : ACode :=
(.seq (.reg [xo 2 (.mov kf)] [])
(.seq (.reg [xm 3 0,xo 4 (.call 96 [(true, (.t 3))]),xm 5 4,xf 6 5 (.mov (.t 0)),xf 7 5 (.bin .geq 0 (.t 6) (.k (.int .u8 48))),xf 8 5 (.mov (.t 7)),xt 9 8 (.mov (.t 0)),xt 10 8 (.bin .leq 0 (.t 9) (.k (.int .u8 57))),xf 11 5 (.pick (.t 8) (.t 10) kf),xo 12 (.pick (.t 5) kt (.t 11)),xm 13 12,xf 14 13 (.mov (.t 0)),xf 15 13 (.bin .eql 0 (.t 14) (.k (.int .u8 95))),xo 16 (.pick (.t 13) kt (.t 15)),xm 2 16] (rng 3 14))
.ret))
/-- caesura/lex.inner -/
def fn1175 : AFn := ⟨1, 17, c1175, [(.t 2)], 0⟩
theorem fn1175_body : fn1175.body = c1175 := rfl
theorem fn1175_res : fn1175.res = [(.t 2)] := rfl
theorem fn1175_keep : fn1175.keep = 0 := rfl
def c1176 : ACode :=
(.seq (.reg [xo 2 (.mov kf)] [])
(.seq (.reg [xm 3 0,xo 4 (.len 0 (.t 3)),xo 5 (.bin .geq 0 (.t 4) (ki 1)),xm 6 5,xt 7 6 (.mov (.t 0)),xt 8 6 (.len 0 (.t 7)),xt 9 6 (.bin .leq 0 (.t 8) (ki 12)),xo 10 (.pick (.t 6) (.t 9) kf),xm 11 10,xt 12 11 (.mov (.t 0)),xt 13 11 (.sidx (.t 12) (ki 0)),xt 14 11 (.call 96 [(true, (.t 13))]),xo 15 (.pick (.t 11) (.t 14) kf),xm 16 15,xt 17 16 (.mov (.t 0)),xt 18 16 (.call 92 [(true, (.t 17)),(false, (.k (.func 97 [])))]),xt 19 16 (.mov (.t 0)),xt 20 16 (.len 0 (.t 19)),xt 21 16 (.bin .eql 0 (.t 18) (.t 20)),xo 22 (.pick (.t 16) (.t 21) kf),xm 2 22] (rng 3 20))
.ret))
/-- caesura/lex.word -/
def fn1176 : AFn := ⟨1, 23, c1176, [(.t 2)], 0⟩
theorem fn1176_body : fn1176.body = c1176 := rfl
theorem fn1176_res : fn1176.res = [(.t 2)] := rfl
theorem fn1176_keep : fn1176.keep = 0 := rfl
def c1177 : ACode :=
(.seq (.reg [xo 4 (.mov kf)] [])
(.seq (.reg [xm 5 0,xm 6 1,xo 7 (.call 112 [(true, (.t 5)),(true, (.t 6))]),xm 4 7] [5,6,7])
.ret))
/-- strings.HasPrefix -/
def fn1177 : AFn := ⟨2, 8, c1177, [(.t 4)], 0⟩
theorem fn1177_body : fn1177.body = c1177 := rfl
theorem fn1177_res : fn1177.res = [(.t 4)] := rfl
theorem fn1177_keep : fn1177.keep = 0 := rfl
def c1178 : ACode :=
(.seq (.reg [xo 2 (.anil 39 5)] [])
(.seq (.block 0 (.seq (.reg [xm 6 0,⟨(some 7), none, .mkl 9 1 [(.str ⟨#[]⟩)] 1 [(0, (.k (.str ⟨#[91]⟩)))] false, []⟩,xo 8 (.call 59 [(false, (.t 6)),(true, (ki 3)),(true, (.t 7))]),xm 5 8] [6,7,8])
(.cond (.t 5) [5] (.seq (.reg [xm 9 0,xm 10 0,xo 11 (.call 114 [(false, (.t 10))]),⟨(some 12), none, .call 113 [(false, (.t 9)),(true, (.t 11)),(true, (.k (.str ⟨#[]⟩)))], []⟩,xm 2 12] (rng 9 4))
.ret) (.seq (.reg [xm 14 0,xo 15 (.call 59 [(false, (.t 14)),(true, (ki 1)),(true, (.k (.list 1 [])))]),xm 13 15] [14,15])
(.cond (.t 13) [13] (.seq (.reg [xm 16 0,xo 17 (.call 115 [(false, (.t 16))]),xm 2 17] [16,17])
.ret) .skip)))))
(.seq (.reg [xm 18 0,⟨(some 19), none, .mkl 9 1 [(.str ⟨#[]⟩)] 1 [(0, (.k (.str ⟨#[40]⟩)))] false, []⟩,xo 20 (.call 60 [(false, (.t 18)),(true, (ki 3)),(true, (.t 19))]),⟨(some 3), none, .new [(.int .i64 0),(.str ⟨#[]⟩),(.int .i64 0)], []⟩,xn (.store false 3 (.t 3) (.t 20))] [18,19,20])
(.seq (.seq (.reg [xm 21 0,xo 22 (.nilck (.t 21)),xo 23 (.faddr 3 (.t 22)),xo 24 (.load false 1 (.t 23)),xo 25 (.bin .add 0 (.t 24) (ki 1)),xo 26 (.nilck (.t 21)),xo 27 (.faddr 3 (.t 26)),xn (.store false 1 (.t 27) (.t 25))] (rng 21 7))
(.seq (.reg [xm 28 0,xo 29 (.nilck (.t 28)),xo 30 (.faddr 3 (.t 29)),xo 31 (.load false 1 (.t 30)),xo 32 (.bin .gtr 0 (.t 31) (ki 200))] (rng 28 4))
(.cond (.t 32) [32] (.reg [xo 33 (.faddr 2 (.t 3)),xo 34 (.load false 1 (.t 33)),xo 35 (.call 63 [(true, (ki 14)),(true, (.t 34))])] [33,34,35]) .skip)))
(.seq (.reg [xm 36 0,xo 37 (.call 40 [(false, (.t 36))]),xm 4 37] [36,37])
(.seq (.reg [xm 38 0,⟨(some 39), none, .mkl 9 1 [(.str ⟨#[]⟩)] 1 [(0, (.k (.str ⟨#[41]⟩)))] false, []⟩,xo 40 (.call 60 [(false, (.t 38)),(true, (ki 3)),(true, (.t 39))])] [38,39,40])
(.seq (.reg [xm 41 0,xo 42 (.nilck (.t 41)),xo 43 (.faddr 3 (.t 42)),xo 44 (.load false 1 (.t 43)),xo 45 (.bin .sub 0 (.t 44) (ki 1)),xo 46 (.nilck (.t 41)),xo 47 (.faddr 3 (.t 46)),xn (.store false 1 (.t 47) (.t 45))] (rng 41 7))
(.seq (.reg [xm 48 4,xm 2 48] [48])
.ret))))))))
/-- (*caesura/parse.reader).atom -/
def fn1178 : AFn := ⟨1, 49, c1178, [(.t 2)], 0⟩
theorem fn1178_body : fn1178.body = c1178 := rfl
theorem fn1178_res : fn1178.res = [(.t 2)] := rfl
theorem fn1178_keep : fn1178.keep = 0 := rfl
def c21 : ACode :=
(.seq (.reg [xo 2 (.anil 39 5),xo 3 (.mov kf)] [])
(.seq (.seq (.reg [xm 4 0,xo 5 (.call 25 [(true, (.t 4))]),xo 6 (.un .not (.t 5)),xm 7 6,xf 8 7 (.mov (.t 0)),xf 9 7 (.len 1 (.t 8)),xf 10 7 (.bin .add 0 (.t 9) (ki 1)),xf 11 7 (.bin .gtr 0 (.t 10) (ki 40000)),xo 12 (.pick (.t 7) kt (.t 11))] (rng 4 8))
(.cond (.t 12) [12] (.seq (.reg [xo 2 (.anil 39 5),xo 3 (.mov kf)] [])
.ret) .skip))
(.seq (.reg [xm 13 0,xo 14 (.call 68 [(true, (.t 13)),(true, (ki 0))]),xm 15 0,xo 16 (.len 1 (.t 15)),xo 17 (.bin .sub 0 (.t 16) (ki 1)),⟨(some 18), none, .agg [(.int .i64 0),(.int .i64 0),(.int .i64 0),(.list 2 []),(.str ⟨#[]⟩)] [(0, 1, (ki 5)),(1, 1, (.t 17))], []⟩,⟨(some 19), none, .mkl 39 5 [(.int .i64 0),(.int .i64 0),(.int .i64 0),(.list 2 []),(.str ⟨#[]⟩)] 1 [(0, (.t 18))] false, []⟩,xo 20 (.app 39 5 64 (.t 14) (.t 19)),xm 2 20,xo 3 (.mov kt)] (rng 13 8))
.ret)))
/-- caesura/tree.Star -/
def fn21 : AFn := ⟨1, 21, c21, [(.t 2),(.t 3)], 0⟩
theorem fn21_body : fn21.body = c21 := rfl
theorem fn21_res : fn21.res = [(.t 2), (.t 3)] := rfl
theorem fn21_keep : fn21.keep = 0 := rfl
def c88 : ACode :=
(.seq (.reg [xo 1 (.box (.t 0)),xo 2 (.mov kf)] [])
(.seq (.reg [xo 3 (.faddr 0 (.t 1)),xo 4 (.load false 1 (.t 3)),xo 5 (.call 26 [(true, (.t 4))]),xm 6 5,xt 7 6 (.faddr 1 (.t 1)),xt 8 6 (.load false 1 (.t 7)),xt 9 6 (.call 26 [(true, (.t 8))]),xo 10 (.pick (.t 6) (.t 9) kf),xm 11 10,xt 12 11 (.faddr 0 (.t 1)),xt 13 11 (.load false 1 (.t 12)),xt 14 11 (.faddr 1 (.t 1)),xt 15 11 (.load false 1 (.t 14)),xt 16 11 (.bin .leq 0 (.t 13) (.t 15)),xo 17 (.pick (.t 11) (.t 16) kf),xm 2 17] (rng 3 15))
.ret))
/-- caesura/sets.whole -/
def fn88 : AFn := ⟨1, 18, c88, [(.t 2)], 0⟩
theorem fn88_body : fn88.body = c88 := rfl
theorem fn88_res : fn88.res = [(.t 2)] := rfl
theorem fn88_keep : fn88.keep = 0 := rfl
def c89 : ACode :=
(.seq (.reg [xo 2 (.box (.t 0)),xo 3 (.box (.t 1)),xo 4 (.mov kf)] [])
(.seq (.reg [xo 8 (.faddr 1 (.t 2)),xo 9 (.load false 1 (.t 8)),xo 10 (.call 116 [(true, (.t 9))]),xm 7 10,xo 11 (.ext (.t 7) 0),xo 12 (.ext (.t 7) 1),xm 5 11,xm 6 12] (rng 7 6))
(.seq (.reg [xm 13 6,xm 14 13,xt 15 14 (.faddr 0 (.t 3)),xt 16 14 (.load false 1 (.t 15)),xt 17 14 (.mov (.t 5)),xt 18 14 (.bin .gtr 0 (.t 16) (.t 17)),xo 19 (.pick (.t 14) (.t 18) kf),xm 4 19] (rng 13 7))
.ret)))
/-- caesura/sets.apart -/
def fn89 : AFn := ⟨2, 20, c89, [(.t 4)], 0⟩
theorem fn89_body : fn89.body = c89 := rfl
theorem fn89_res : fn89.res = [(.t 4)] := rfl
theorem fn89_keep : fn89.keep = 0 := rfl
def c127 : ACode :=
(.seq (.reg [xo 4 (.mov (ki 0))] [])
(.seq (.seq (.reg [xm 6 0,xo 7 (.len 1 (.t 6)),xo 8 (.mov (ki 0))] [6])
(.block 0 (.loop false (.seq (.reg [xo 9 (.bin .lss 0 (.t 8) (.t 7))] [])
(.seq (.cond (.t 9) [9] .skip (.exit 0))
(.seq (.block 1 (.seq (.reg [xm 10 8,xm 5 10] [10])
(.seq (.reg [xm 11 1,xm 12 0,xm 13 5,xo 14 (.iaddr 1 (.t 12) (.t 13)),xo 15 (.load false 1 (.t 14)),xo 16 (.callv (.t 11) [(true, (.t 15))])] (rng 11 5))
(.cond (.t 16) [16] (.seq (.reg [xm 17 5,xm 4 17] [17])
.ret) .skip))))
(.reg [xo 18 (.bin .add 0 (.t 8) (ki 1)),xm 8 18] [18])))))))
(.seq (.reg [xo 4 (.mov (.k (.int .i64 (-1))))] [])
.ret)))
/-- slices.IndexFunc[[]caesura/api.Tree,caesura/api.Tree] -/
def fn127 : AFn := ⟨2, 19, c127, [(.t 4)], 0⟩
theorem fn127_body : fn127.body = c127 := rfl
theorem fn127_res : fn127.res = [(.t 4)] := rfl
theorem fn127_keep : fn127.keep = 0 := rfl
def c33 : ACode :=
(.seq (.reg [xo 4 (.mov kf)] [])
(.seq (.reg [xm 5 0,xm 6 1,xo 7 (.call 117 [(true, (.t 5)),(true, (.t 6)),(false, (.k (.func 118 [])))]),xm 4 7] [5,6,7])
.ret))
/-- caesura/tree.Same -/
def fn33 : AFn := ⟨2, 8, c33, [(.t 4)], 0⟩
theorem fn33_body : fn33.body = c33 := rfl
theorem fn33_res : fn33.res = [(.t 4)] := rfl
theorem fn33_keep : fn33.keep = 0 := rfl
def c128 : ACode :=
(.seq (.reg [xo 4 (.anil 23 1)] [])
(.seq (.reg [xm 8 0,xm 9 1,xo 10 (.call 104 [(false, (.t 8)),(false, (.t 9))]),xm 5 10] [8,9,10])
(.seq (.seq (.reg [xm 11 5,xo 12 (.bin .eql 0 (.t 11) (.k (.int .i64 (-1))))] [11])
(.cond (.t 12) [12] (.seq (.reg [xm 13 0,xm 4 13] [13])
.ret) .skip))
(.seq (.seq (.reg [xm 14 5,xo 15 (.bin .add 0 (.t 14) (ki 1)),xm 6 15] [14,15])
(.block 0 (.loop false (.seq (.seq (.reg [xm 16 6,xm 17 0,xo 18 (.len 1 (.t 17)),xo 19 (.bin .lss 0 (.t 16) (.t 18))] [16,17,18])
(.cond (.t 19) [19] .skip (.exit 0)))
(.seq (.block 1 (.seq (.reg [xm 22 0,xm 23 6,xo 24 (.iaddr 1 (.t 22) (.t 23)),xo 25 (.load false 1 (.t 24)),xm 7 25] (rng 22 4))
(.seq (.reg [xm 26 1,xm 27 7,xo 28 (.callv (.t 26) [(true, (.t 27))]),xo 29 (.un .not (.t 28))] [26,27,28])
(.cond (.t 29) [29] (.seq (.reg [xm 30 0,xm 31 5,xm 32 7,xo 33 (.iaddr 1 (.t 30) (.t 31)),xn (.store false 1 (.t 33) (.t 32))] (rng 30 4))
(.reg [xm 34 5,xo 35 (.bin .add 0 (.t 34) (ki 1)),xm 5 35] [34,35])) .skip))))
(.reg [xm 20 6,xo 21 (.bin .add 0 (.t 20) (ki 1)),xm 6 21] [20,21]))))))
(.seq (.reg [xm 36 0,xm 37 5,xo 38 (.tlz 1 (.t 36) (.t 37)),xn (.clr 23 1 [(.list 5 [])] (.t 38))] [36,37,38])
(.seq (.reg [xm 39 0,xm 40 5,xo 41 (.slc 1 (.t 39) none (some (.t 40)) none),xm 4 41] [39,40,41])
.ret))))))
/-- slices.DeleteFunc[[]caesura/api.Tree,caesura/api.Tree] -/
def fn128 : AFn := ⟨2, 42, c128, [(.t 4)], 0⟩
theorem fn128_body : fn128.body = c128 := rfl
theorem fn128_res : fn128.res = [(.t 4)] := rfl
theorem fn128_keep : fn128.keep = 0 := rfl
def c129 : ACode :=
(.seq (.reg [xo 3 (.mov kf)] [])
(.seq (.reg [xm 4 0,xo 5 (.load false 1 (.t 1)),xo 6 (.call 69 [(true, (.t 4)),(true, (.t 5))]),xm 3 6] [4,5,6])
.ret))
/-- caesura/smart.without$1 -/
def fn129 : AFn := ⟨2, 7, c129, [(.t 3)], 0⟩
theorem fn129_body : fn129.body = c129 := rfl
theorem fn129_res : fn129.res = [(.t 3)] := rfl
theorem fn129_keep : fn129.keep = 0 := rfl
def c123 : ACode :=
(.seq (.reg [xo 4 (.mov (ki 0))] [])
(.seq (.seq (.reg [xm 6 0,xo 7 (.len 1 (.t 6)),xo 8 (.mov (ki 0))] [6])
(.block 0 (.loop false (.seq (.reg [xo 9 (.bin .lss 0 (.t 8) (.t 7))] [])
(.seq (.cond (.t 9) [9] .skip (.exit 0))
(.seq (.block 1 (.seq (.reg [xm 10 8,xm 5 10] [10])
(.seq (.reg [xm 11 1,xm 12 0,xm 13 5,xo 14 (.iaddr 2 (.t 12) (.t 13)),xo 15 (.load true 2 (.t 14)),xo 16 (.callv (.t 11) [(true, (.t 15))])] (rng 11 5))
(.cond (.t 16) [16] (.seq (.reg [xm 17 5,xm 4 17] [17])
.ret) .skip))))
(.reg [xo 18 (.bin .add 0 (.t 8) (ki 1)),xm 8 18] [18])))))))
(.seq (.reg [xo 4 (.mov (.k (.int .i64 (-1))))] [])
.ret)))
/-- slices.IndexFunc[caesura/api.Set,caesura/api.Range] -/
def fn123 : AFn := ⟨2, 19, c123, [(.t 4)], 0⟩
theorem fn123_body : fn123.body = c123 := rfl
theorem fn123_res : fn123.res = [(.t 4)] := rfl
theorem fn123_keep : fn123.keep = 0 := rfl
def c1179 : ACode :=
(.seq (.reg [⟨(some 4), none, .mov (.k (.str ⟨#[]⟩)), []⟩,xo 5 (.mov kf)] [])
(.seq (.seq (.reg [xm 6 0,xm 7 1,xo 8 (.call 112 [(true, (.t 6)),(true, (.t 7))]),xo 9 (.un .not (.t 8))] [6,7,8])
(.cond (.t 9) [9] (.seq (.reg [xm 10 0,xm 4 10,xo 5 (.mov kf)] [10])
.ret) .skip))
(.seq (.reg [xm 11 0,xm 12 1,xo 13 (.len 0 (.t 12)),xo 14 (.sslc (.t 11) (some (.t 13)) none),xm 4 14,xo 5 (.mov kt)] (rng 11 4))
.ret)))
/-- internal/stringslite.CutPrefix -/
def fn1179 : AFn := ⟨2, 15, c1179, [(.t 4),(.t 5)], 0⟩
theorem fn1179_body : fn1179.body = c1179 := rfl
theorem fn1179_res : fn1179.res = [(.t 4), (.t 5)] := rfl
theorem fn1179_keep : fn1179.keep = 0 := rfl
def c1180 : ACode :=
(.seq (.reg [xo 2 (.mov kf)] [])
(.seq (.reg [xm 3 0,xo 4 (.bin .geq 0 (.t 3) (.k (.int .u8 48))),xm 5 4,xt 6 5 (.mov (.t 0)),xt 7 5 (.bin .leq 0 (.t 6) (.k (.int .u8 57))),xo 8 (.pick (.t 5) (.t 7) kf),xm 9 8,xf 10 9 (.mov (.t 0)),xf 11 9 (.bin .geq 0 (.t 10) (.k (.int .u8 97))),xf 12 9 (.mov (.t 11)),xt 13 12 (.mov (.t 0)),xt 14 12 (.bin .leq 0 (.t 13) (.k (.int .u8 102))),xf 15 9 (.pick (.t 12) (.t 14) kf),xo 16 (.pick (.t 9) kt (.t 15)),xm 2 16] (rng 3 14))
.ret))
/-- caesura/lex.digit -/
def fn1180 : AFn := ⟨1, 17, c1180, [(.t 2)], 0⟩
theorem fn1180_body : fn1180.body = c1180 := rfl
theorem fn1180_res : fn1180.res = [(.t 2)] := rfl
theorem fn1180_keep : fn1180.keep = 0 := rfl
def c1181 : ACode :=
(.seq (.reg [xo 6 (.mov (.k (.int .u64 0))),xo 7 (.mov (.k .nili))] [])
(.seq (.reg [xm 11 0,xm 12 1,xm 13 2,xo 14 (.call 120 [(true, (.t 11)),(true, (.t 12)),(true, (.t 13))]),xm 10 14,xo 15 (.ext (.t 10) 0),xo 16 (.ext (.t 10) 1),xm 8 15,xm 9 16] (rng 10 7))
(.seq (.seq (.reg [xm 17 9,xo 18 (.bin .neq 2 (.t 17) (.k .nili))] [17])
(.cond (.t 18) [18] (.seq (.reg [xm 19 8,xm 20 0,xm 21 1,xm 22 2,xm 23 9,⟨(some 24), none, .call 121 [(true, (.k (.str ⟨#[80, 97, 114, 115, 101, 85, 105, 110, 116]⟩))),(true, (.t 20)),(true, (.t 21)),(true, (.t 22)),(true, (.t 23))], []⟩,xm 6 19,xm 7 24] (rng 19 6))
.ret) .skip))
(.seq (.reg [xm 25 8,xm 6 25,xo 7 (.mov (.k .nili))] [25])
.ret))))
/-- strconv.ParseUint -/
def fn1181 : AFn := ⟨3, 26, c1181, [(.t 6),(.t 7)], 0⟩
theorem fn1181_body : fn1181.body = c1181 := rfl
theorem fn1181_res : fn1181.res = [(.t 6), (.t 7)] := rfl
theorem fn1181_keep : fn1181.keep = 0 := rfl
def c1182 : ACode :=
(.seq (.reg [xo 4 (.mov kf)] [])
(.seq (.reg [xm 5 0,xo 6 (.len 0 (.t 5)),xm 7 1,xo 8 (.len 0 (.t 7)),xo 9 (.bin .geq 0 (.t 6) (.t 8)),xm 10 9,xt 11 10 (.mov (.t 0)),xt 12 10 (.mov (.t 1)),xt 13 10 (.len 0 (.t 12)),xt 14 10 (.sslc (.t 11) none (some (.t 13))),xt 15 10 (.mov (.t 1)),xt 16 10 (.bin .eql 0 (.t 14) (.t 15)),xo 17 (.pick (.t 10) (.t 16) kf),xm 4 17] (rng 5 13))
.ret))
/-- internal/stringslite.HasPrefix -/
def fn1182 : AFn := ⟨2, 18, c1182, [(.t 4)], 0⟩
theorem fn1182_body : fn1182.body = c1182 := rfl
theorem fn1182_res : fn1182.res = [(.t 4)] := rfl
theorem fn1182_keep : fn1182.keep = 0 := rfl
def c1183 : ACode :=
(.seq (.reg [xo 6 (.anil 39 5)] [])
(.seq (.reg [xm 7 0,xm 8 1,xm 9 2,xo 10 (.call 122 [(true, (.t 8)),(true, (.t 9))]),xo 11 (.ext (.t 10) 0),xo 12 (.ext (.t 10) 1),xo 13 (.call 61 [(false, (.t 7)),(true, (.t 11)),(true, (.t 12))]),xm 6 13] (rng 7 7))
.ret))
/-- (*caesura/parse.reader).one -/
def fn1183 : AFn := ⟨3, 14, c1183, [(.t 6)], 0⟩
theorem fn1183_body : fn1183.body = c1183 := rfl
theorem fn1183_res : fn1183.res = [(.t 6)] := rfl
theorem fn1183_keep : fn1183.keep = 0 := rfl
def c1184 : ACode :=
(.seq (.reg [xo 2 (.anil 60 2)] [])
(.seq (.reg [xm 10 0,⟨(some 11), none, .mkl 9 1 [(.str ⟨#[]⟩)] 1 [(0, (.k (.str ⟨#[91]⟩)))] false, []⟩,xo 12 (.call 60 [(false, (.t 10)),(true, (ki 3)),(true, (.t 11))])] [10,11,12])
(.seq (.reg [xo 3 (.anil 60 2)] [])
(.seq (.block 0 (.loop false (.seq (.seq (.reg [xm 13 3,xo 14 (.len 1 (.t 13)),xo 15 (.bin .eql 0 (.t 14) (ki 0)),xm 16 15,xf 17 16 (.mov (.t 0)),⟨(some 18),(some (16, false)), .mkl 9 1 [(.str ⟨#[]⟩)] 1 [(0, (.k (.str ⟨#[93]⟩)))] false, []⟩,xf 19 16 (.call 59 [(false, (.t 17)),(true, (ki 3)),(true, (.t 18))]),xf 20 16 (.un .not (.t 19)),xo 21 (.pick (.t 16) kt (.t 20))] (rng 13 8))
(.cond (.t 21) [21] .skip (.exit 0)))
(.block 1 (.seq (.reg [xm 22 0,xo 23 (.call 60 [(false, (.t 22)),(true, (ki 2)),(true, (.k (.list 1 [])))]),⟨(some 4), none, .new [(.int .i64 0),(.str ⟨#[]⟩),(.int .i64 0)], []⟩,xn (.store false 3 (.t 4) (.t 23))] [22,23])
(.seq (.dreg [xo 24 (.load true 3 (.t 4)),yo 25 (.pcall 123 [(.t 24)]) [0],xo 26 (.load true 3 (.t 4)),yo 27 (.pcall 123 [(.t 26)]) [0, 1, 2],yo 28 (.agg [(.int .i64 0),(.int .i64 0)] [(0, 1, (.t 25)),(1, 1, (.t 27))]) [0, 1, 2, 3],xo 5 (.new [(.int .i64 0),(.int .i64 0)]),⟨none, none, .store false 2 (.t 5) (.t 28), [0, 1, 2, 3, 4, 5]⟩] (rng 24 5))
(.seq (.seq (.reg [xm 29 0,⟨(some 30), none, .mkl 9 1 [(.str ⟨#[]⟩)] 1 [(0, (.k (.str ⟨#[45]⟩)))] false, []⟩,xo 31 (.call 59 [(false, (.t 29)),(true, (ki 3)),(true, (.t 30))])] [29,30])
(.cond (.t 31) [31] (.seq (.reg [xm 32 0,⟨(some 33), none, .mkl 9 1 [(.str ⟨#[]⟩)] 1 [(0, (.k (.str ⟨#[45]⟩)))] false, []⟩,xo 34 (.call 60 [(false, (.t 32)),(true, (ki 3)),(true, (.t 33))])] [32,33,34])
(.reg [xm 35 0,xo 36 (.call 60 [(false, (.t 35)),(true, (ki 2)),(true, (.k (.list 1 [])))]),xo 37 (.call 123 [(true, (.t 36))]),xo 38 (.faddr 1 (.t 5)),xn (.store false 1 (.t 38) (.t 37))] (rng 35 4))) .skip))
(.seq (.seq (.reg [xo 40 (.load true 2 (.t 5)),xo 41 (.mkl 60 2 [(.int .i64 0),(.int .i64 0)] 1 [(0, (.t 40))] false),xo 42 (.call 124 [(true, (.t 41))]),xm 39 42,xo 43 (.ext (.t 39) 0),xo 44 (.ext (.t 39) 1),xm 6 43,xm 7 44] [6,39,40,41,42,43,44])
(.seq (.reg [xm 45 7,xo 46 (.un .not (.t 45))] [45])
(.cond (.t 46) [46] (.reg [xo 47 (.faddr 2 (.t 4)),xo 48 (.load false 1 (.t 47)),xo 49 (.call 63 [(true, (ki 11)),(true, (.t 48))])] [47,48,49]) .skip)))
(.reg [xm 50 3,xo 51 (.load true 2 (.t 5)),xo 52 (.mkl 60 2 [(.int .i64 0),(.int .i64 0)] 1 [(0, (.t 51))] false),xo 53 (.app 60 2 16 (.t 50) (.t 52)),xm 3 53] (rng 50 4))))))))))
(.seq (.reg [xm 54 0,⟨(some 55), none, .mkl 9 1 [(.str ⟨#[]⟩)] 1 [(0, (.k (.str ⟨#[93]⟩)))] false, []⟩,xo 56 (.call 60 [(false, (.t 54)),(true, (ki 3)),(true, (.t 55))])] [54,55,56])
(.seq (.reg [xm 58 3,xo 59 (.call 124 [(true, (.t 58))]),xm 57 59,xo 60 (.ext (.t 57) 0),xo 61 (.ext (.t 57) 1),xm 8 60,xm 9 61] [9,57,58,59,60,61])
(.seq (.reg [xm 62 8,xm 2 62] [62])
.ret)))))))
/-- (*caesura/parse.reader).set -/
def fn1184 : AFn := ⟨1, 63, c1184, [(.t 2)], 0⟩
theorem fn1184_body : fn1184.body = c1184 := rfl
theorem fn1184_res : fn1184.res = [(.t 2)] := rfl
theorem fn1184_keep : fn1184.keep = 0 := rfl
def c1185 : ACode :=
(.seq (.reg [xo 2 (.anil 39 5)] [])
(.seq (.seq (.reg [xm 6 0,⟨(some 7), none, .mkl 9 1 [(.str ⟨#[]⟩)] 2 [(0, (.k (.str ⟨#[99, 108, 97, 115, 115]⟩))),(1, (.k (.str ⟨#[101, 108, 115, 101]⟩)))] false, []⟩,xo 8 (.call 59 [(false, (.t 6)),(true, (ki 1)),(true, (.t 7))])] [6,7])
(.cond (.t 8) [8] (.reg [xm 9 0,xo 10 (.call 64 [(false, (.t 9))]),xo 11 (.call 63 [(true, (ki 11)),(true, (.t 10))])] [9,10,11]) .skip))
(.seq (.reg [xm 12 0,xo 13 (.call 60 [(false, (.t 12)),(true, (ki 1)),(true, (.k (.list 1 [])))]),⟨(some 3), none, .new [(.int .i64 0),(.str ⟨#[]⟩),(.int .i64 0)], []⟩,xn (.store false 3 (.t 3) (.t 13))] [12,13])
(.seq (.reg [xo 14 (.faddr 1 (.t 3)),xo 15 (.load false 1 (.t 14))] [14])
(.block 0 (.seq (.reg [⟨(some 37), none, .bin .eql 0 (.t 15) (.k (.str ⟨#[97, 110, 121]⟩)), []⟩,xm 36 37] [37])
(.cond (.t 36) [36] (.seq (.reg [xm 38 0,xo 39 (.agg [(.int .i64 0),(.int .i64 0)] [(0, 1, (ki 0)),(1, 1, (ki 1114111))]),xo 40 (.mkl 60 2 [(.int .i64 0),(.int .i64 0)] 1 [(0, (.t 39))] false),⟨(some 41), none, .call 113 [(false, (.t 38)),(true, (.t 40)),(true, (.k (.str ⟨#[]⟩)))], []⟩,xm 2 41] (rng 38 4))
.ret) (.seq (.reg [⟨(some 43), none, .bin .eql 0 (.t 15) (.k (.str ⟨#[101, 109, 112, 116, 121]⟩)), []⟩,xm 42 43] [43])
(.cond (.t 42) [42] (.seq (.reg [xo 44 (.call 46 [(true, (ki 1))]),xm 2 44] [44])
.ret) (.seq (.reg [⟨(some 46), none, .bin .eql 0 (.t 15) (.k (.str ⟨#[110, 101, 118, 101, 114]⟩)), []⟩,xm 45 46] [46])
(.cond (.t 45) [45] (.seq (.reg [xo 47 (.call 46 [(true, (ki 0))]),xm 2 47] [47])
.ret) (.seq (.dreg [xm 17 0,yo 18 (.nilck (.t 17)) [0],yo 19 (.faddr 2 (.t 18)) [0, 1],yo 20 (.load false 1 (.t 19)) [0, 1, 2],xo 21 (.faddr 1 (.t 3)),yo 22 (.load false 1 (.t 21)) [4],yo 23 (.look 2 [] (.list 2 []) true (.t 20) (.t 22)) [0, 1, 2, 3, 4, 5],ym 16 23 [0, 1, 2, 3, 4, 5, 6],yo 24 (.ext (.t 16) 0) [0, 1, 2, 3, 4, 5, 6, 7],yo 25 (.ext (.t 16) 1) [0, 1, 2, 3, 4, 5, 6, 7],ym 4 24 [0, 1, 2, 3, 4, 5, 6, 7, 8],ym 5 25 (rng 0 11)] (rng 16 10))
(.seq (.seq (.reg [xm 26 5,xo 27 (.un .not (.t 26))] [26])
(.cond (.t 27) [27] (.reg [xo 28 (.faddr 2 (.t 3)),xo 29 (.load false 1 (.t 28)),xo 30 (.call 63 [(true, (ki 12)),(true, (.t 29))])] [28,29,30]) .skip))
(.seq (.reg [xm 31 0,xm 32 4,xo 33 (.faddr 1 (.t 3)),xo 34 (.load false 1 (.t 33)),xo 35 (.call 113 [(false, (.t 31)),(true, (.t 32)),(true, (.t 34))]),xm 2 35] (rng 31 5))
.ret))))))))))))))
/-- (*caesura/parse.reader).word -/
def fn1185 : AFn := ⟨1, 48, c1185, [(.t 2)], 0⟩
theorem fn1185_body : fn1185.body = c1185 := rfl
theorem fn1185_res : fn1185.res = [(.t 2)] := rfl
theorem fn1185_keep : fn1185.keep = 0 := rfl
def c92 : ACode :=
(.seq (.reg [xo 2 (.mov (ki 0)),xo 3 (.mov kf)] [])
(.seq (.block 0 (.seq (.reg [xm 5 0,xo 6 (.bin .lss 0 (.t 5) (ki 0)),xm 4 6] [5,6])
(.cond (.t 4) [4] (.seq (.reg [xo 2 (.mov (ki 0)),xo 3 (.mov kt)] [])
.ret) (.seq (.reg [xm 8 0,xo 9 (.bin .geq 0 (.t 8) (ki 1114111)),xm 7 9] [8,9])
(.cond (.t 7) [7] (.seq (.reg [xo 2 (.mov (ki 0)),xo 3 (.mov kf)] [])
.ret) (.seq (.reg [xm 11 0,xo 12 (.bin .geq 0 (.t 11) (ki 55295)),xm 13 12,xt 14 13 (.mov (.t 0)),xt 15 13 (.bin .lss 0 (.t 14) (ki 57344)),xo 16 (.pick (.t 13) (.t 15) kf),xm 10 16] (rng 11 6))
(.cond (.t 10) [10] (.seq (.reg [xo 2 (.mov (ki 57344)),xo 3 (.mov kt)] [])
.ret) .skip)))))))
(.seq (.reg [xm 17 0,xo 18 (.bin .add 0 (.t 17) (ki 1)),xm 2 18,xo 3 (.mov kt)] [17,18])
.ret)))
/-- caesura/scalar.Next -/
def fn92 : AFn := ⟨1, 19, c92, [(.t 2),(.t 3)], 0⟩
theorem fn92_body : fn92.body = c92 := rfl
theorem fn92_res : fn92.res = [(.t 2), (.t 3)] := rfl
theorem fn92_keep : fn92.keep = 0 := rfl
def c74 : ACode :=
(.seq (.reg [xo 6 (.mov kf)] [])
(.seq (.seq (.reg [xm 10 0,xo 11 (.len 1 (.t 10)),xm 12 1,xo 13 (.len 1 (.t 12)),xo 14 (.bin .neq 0 (.t 11) (.t 13))] (rng 10 4))
(.cond (.t 14) [14] (.seq (.reg [xo 6 (.mov kf)] [])
.ret) .skip))
(.seq (.seq (.reg [xm 15 0,xo 16 (.len 1 (.t 15)),xo 17 (.mov (ki 0))] [])
(.block 0 (.loop false (.seq (.reg [xo 18 (.bin .lss 0 (.t 17) (.t 16))] [])
(.seq (.cond (.t 18) [18] .skip (.exit 0))
(.seq (.block 1 (.seq (.reg [xm 19 17,xo 20 (.iaddr 5 (.t 15) (.t 17)),xo 21 (.load true 5 (.t 20)),⟨(some 8), none, .new [(.int .i64 0),(.int .i64 0),(.int .i64 0),(.list 2 []),(.str ⟨#[]⟩)], []⟩,xm 7 19,xn (.store false 5 (.t 8) (.t 21))] [19,20,21])
(.seq (.reg [xm 22 1,xm 23 7,xo 24 (.iaddr 5 (.t 22) (.t 23)),xo 25 (.load true 5 (.t 24)),⟨(some 9), none, .new [(.int .i64 0),(.int .i64 0),(.int .i64 0),(.list 2 []),(.str ⟨#[]⟩)], []⟩,xn (.store false 5 (.t 9) (.t 25))] (rng 22 4))
(.seq (.reg [xm 26 2,xo 27 (.load true 5 (.t 8)),xo 28 (.load true 5 (.t 9)),xo 29 (.callv (.t 26) [(true, (.t 27)),(true, (.t 28))]),xo 30 (.un .not (.t 29))] (rng 26 4))
(.cond (.t 30) [30] (.seq (.reg [xo 6 (.mov kf)] [])
.ret) .skip)))))
(.reg [xo 31 (.bin .add 0 (.t 17) (ki 1)),xm 17 31] [31])))))))
(.seq (.reg [xo 6 (.mov kt)] [])
.ret))))
/-- slices.EqualFunc[caesura/api.Tree,caesura/api.Tree,caesura/api.Node,caesura/api.Node] -/
def fn74 : AFn := ⟨3, 32, c74, [(.t 6)], 0⟩
theorem fn74_body : fn74.body = c74 := rfl
theorem fn74_res : fn74.res = [(.t 6)] := rfl
theorem fn74_keep : fn74.keep = 0 := rfl
def c75 : ACode :=
(.seq (.reg [xo 2 (.box (.t 0)),xo 3 (.box (.t 1)),xo 4 (.mov kf)] [])
(.seq (.reg [xo 5 (.faddr 0 (.t 2)),xo 6 (.load false 1 (.t 5)),xo 7 (.faddr 0 (.t 3)),xo 8 (.load false 1 (.t 7)),xo 9 (.bin .eql 0 (.t 6) (.t 8)),xm 10 9,xt 11 10 (.faddr 1 (.t 2)),xt 12 10 (.load false 1 (.t 11)),xt 13 10 (.faddr 1 (.t 3)),xt 14 10 (.load false 1 (.t 13)),xt 15 10 (.bin .eql 0 (.t 12) (.t 14)),xo 16 (.pick (.t 10) (.t 15) kf),xm 17 16,xt 18 17 (.faddr 2 (.t 2)),xt 19 17 (.load false 1 (.t 18)),xt 20 17 (.faddr 2 (.t 3)),xt 21 17 (.load false 1 (.t 20)),xt 22 17 (.bin .eql 0 (.t 19) (.t 21)),xo 23 (.pick (.t 17) (.t 22) kf),xm 24 23,xt 25 24 (.faddr 4 (.t 2)),xt 26 24 (.load false 1 (.t 25)),xt 27 24 (.faddr 4 (.t 3)),xt 28 24 (.load false 1 (.t 27)),xt 29 24 (.bin .eql 0 (.t 26) (.t 28)),xo 30 (.pick (.t 24) (.t 29) kf),xm 31 30,xt 32 31 (.faddr 3 (.t 2)),xt 33 31 (.load false 1 (.t 32)),xt 34 31 (.faddr 3 (.t 3)),xt 35 31 (.load false 1 (.t 34)),xt 36 31 (.call 119 [(true, (.t 33)),(true, (.t 35))]),xo 37 (.pick (.t 31) (.t 36) kf),xm 4 37] (rng 5 33))
.ret))
/-- caesura/tree.Same$1 -/
def fn75 : AFn := ⟨2, 38, c75, [(.t 4)], 0⟩
theorem fn75_body : fn75.body = c75 := rfl
theorem fn75_res : fn75.res = [(.t 4)] := rfl
theorem fn75_keep : fn75.keep = 0 := rfl
def c62 : ACode :=
(.seq (.reg [xo 4 (.mov kf)] [])
(.seq (.seq (.reg [xm 7 0,xo 8 (.len 1 (.t 7)),xm 9 1,xo 10 (.len 1 (.t 9)),xo 11 (.bin .neq 0 (.t 8) (.t 10))] (rng 7 4))
(.cond (.t 11) [11] (.seq (.reg [xo 4 (.mov kf)] [])
.ret) .skip))
(.seq (.seq (.reg [xm 12 0,xo 13 (.len 1 (.t 12)),xo 14 (.mov (ki 0))] [])
(.block 0 (.loop false (.seq (.reg [xo 15 (.bin .lss 0 (.t 14) (.t 13))] [])
(.seq (.cond (.t 15) [15] .skip (.exit 0))
(.seq (.block 1 (.seq (.reg [xm 16 14,xo 17 (.iaddr 2 (.t 12) (.t 14)),xo 18 (.load true 2 (.t 17)),xo 6 (.new [(.int .i64 0),(.int .i64 0)]),xm 5 16,xn (.store false 2 (.t 6) (.t 18))] [16,17,18])
(.seq (.dreg [xo 19 (.load true 2 (.t 6)),xm 20 1,xm 21 5,yo 22 (.iaddr 2 (.t 20) (.t 21)) [1, 2],yo 23 (.load true 2 (.t 22)) [1, 2, 3],yo 24 (.bins .neq [0,0] (.t 19) (.t 23)) (rng 0 5)] (rng 19 5))
(.cond (.t 24) [24] (.seq (.reg [xo 4 (.mov kf)] [])
.ret) .skip))))
(.reg [xo 25 (.bin .add 0 (.t 14) (ki 1)),xm 14 25] [25])))))))
(.seq (.reg [xo 4 (.mov kt)] [])
.ret))))
/-- caesura/sets.Same -/
def fn62 : AFn := ⟨2, 26, c62, [(.t 4)], 0⟩
theorem fn62_body : fn62.body = c62 := rfl
theorem fn62_res : fn62.res = [(.t 4)] := rfl
theorem fn62_keep : fn62.keep = 0 := rfl
def c1186 : ACode :=
(.seq (.reg [xo 6 (.mov (.k (.int .u64 0))),xo 7 (.mov (.k .nili))] [])
(.seq (.seq (.reg [xm 18 0,⟨(some 19), none, .bin .eql 0 (.t 18) (.k (.str ⟨#[]⟩)), []⟩] [18])
(.cond (.t 19) [19] (.seq .stuck
.ret) .skip))
(.seq (.reg [xm 21 1,xo 22 (.bin .eql 0 (.t 21) (ki 0)),xm 8 22] [21,22])
(.seq (.reg [xm 23 0,xm 9 23] [23])
(.seq (.block 0 (.seq (.reg [xm 26 1,xo 27 (.bin .leq 0 (ki 2) (.t 26)),xm 28 27,xt 29 28 (.mov (.t 1)),xt 30 28 (.bin .leq 0 (.t 29) (ki 36)),xo 31 (.pick (.t 28) (.t 30) kf),xm 25 31] (rng 26 6))
(.cond (.t 25) [25] .skip (.seq (.reg [xm 33 1,xo 34 (.bin .eql 0 (.t 33) (ki 0)),xm 32 34] [33,34])
(.cond (.t 32) [32] (.seq (.reg [xo 1 (.mov (ki 10))] [])
(.seq (.reg [xm 35 0,xo 36 (.sidx (.t 35) (ki 0)),xo 37 (.bin .eql 0 (.t 36) (.k (.int .u8 48)))] [35,36])
(.cond (.t 37) [37] (.block 1 (.seq (.reg [xm 41 0,xo 42 (.len 0 (.t 41)),xo 43 (.bin .geq 0 (.t 42) (ki 3)),xm 44 43,xt 45 44 (.mov (.t 0)),xt 46 44 (.sidx (.t 45) (ki 1)),xt 47 44 (.call 125 [(true, (.t 46))]),xt 48 44 (.bin .eql 0 (.t 47) (.k (.int .u8 98))),xo 49 (.pick (.t 44) (.t 48) kf),xm 40 49] (rng 41 9))
(.cond (.t 40) [40] (.seq (.reg [xo 1 (.mov (ki 2))] [])
(.reg [xm 50 0,xo 51 (.sslc (.t 50) (some (ki 2)) none),xm 0 51] [50,51])) (.seq (.reg [xm 53 0,xo 54 (.len 0 (.t 53)),xo 55 (.bin .geq 0 (.t 54) (ki 3)),xm 56 55,xt 57 56 (.mov (.t 0)),xt 58 56 (.sidx (.t 57) (ki 1)),xt 59 56 (.call 125 [(true, (.t 58))]),xt 60 56 (.bin .eql 0 (.t 59) (.k (.int .u8 111))),xo 61 (.pick (.t 56) (.t 60) kf),xm 52 61] (rng 53 9))
(.cond (.t 52) [52] (.seq (.reg [xo 1 (.mov (ki 8))] [])
(.reg [xm 62 0,xo 63 (.sslc (.t 62) (some (ki 2)) none),xm 0 63] [62,63])) (.seq (.reg [xm 65 0,xo 66 (.len 0 (.t 65)),xo 67 (.bin .geq 0 (.t 66) (ki 3)),xm 68 67,xt 69 68 (.mov (.t 0)),xt 70 68 (.sidx (.t 69) (ki 1)),xt 71 68 (.call 125 [(true, (.t 70))]),xt 72 68 (.bin .eql 0 (.t 71) (.k (.int .u8 120))),xo 73 (.pick (.t 68) (.t 72) kf),xm 64 73] (rng 65 9))
(.cond (.t 64) [64] (.seq (.reg [xo 1 (.mov (ki 16))] [])
(.reg [xm 74 0,xo 75 (.sslc (.t 74) (some (ki 2)) none),xm 0 75] [74,75])) (.seq (.reg [xo 1 (.mov (ki 8))] [])
(.reg [xm 38 0,xo 39 (.sslc (.t 38) (some (ki 1)) none),xm 0 39] [38,39]))))))))) .skip))) (.seq .stuck
.ret))))))
(.seq (.seq (.reg [xm 76 2,xo 77 (.bin .eql 0 (.t 76) (ki 0))] [76])
(.cond (.t 77) [77] (.reg [xo 2 (.mov (ki 64))] []) (.seq (.reg [xm 78 2,xo 79 (.bin .lss 0 (.t 78) (ki 0)),xm 80 79,xf 81 80 (.mov (.t 2)),xf 82 80 (.bin .gtr 0 (.t 81) (ki 64)),xo 83 (.pick (.t 80) kt (.t 82))] (rng 78 5))
(.cond (.t 83) [83] (.seq .stuck
.ret) .skip))))
(.seq (.reg [xo 10 (.mov (.k (.int .u64 0)))] [])
(.seq (.seq (.reg [xm 85 1] [])
(.block 2 (.seq (.reg [xo 91 (.bin .eql 0 (.t 85) (ki 10)),xm 90 91] [91])
(.cond (.t 90) [90] (.reg [xo 10 (.mov (.k (.int .u64 1844674407370955162)))] []) (.seq (.reg [xo 93 (.bin .eql 0 (.t 85) (ki 16)),xm 92 93] [93])
(.cond (.t 92) [92] (.reg [xo 10 (.mov (.k (.int .u64 1152921504606846976)))] []) (.reg [xm 86 1,xo 87 (.conv .u64 (.t 86)),xo 88 (.bin .quo 0 (.k (.int .u64 18446744073709551615)) (.t 87)),xo 89 (.bin .add 0 (.t 88) (.k (.int .u64 1))),xm 10 89] (rng 86 4))))))))
(.seq (.reg [xm 94 2,xo 95 (.conv .u64 (.t 94)),xo 96 (.bin .shl 0 (.k (.int .u64 1)) (.t 95)),xo 97 (.bin .sub 0 (.t 96) (.k (.int .u64 1))),xm 11 97] (rng 94 4))
(.seq (.reg [xo 12 (.mov kf)] [])
(.seq (.reg [xo 13 (.mov (.k (.int .u64 0)))] [])
(.seq (.seq (.reg [xm 98 0,xo 99 (.s2b (.t 98)),xo 100 (.len 1 (.t 99)),xo 101 (.mov (ki 0))] [98])
(.block 3 (.loop false (.seq (.reg [xo 102 (.bin .lss 0 (.t 101) (.t 100))] [])
(.seq (.cond (.t 102) [102] .skip (.exit 3))
(.seq (.block 4 (.seq (.reg [xo 103 (.iaddr 1 (.t 99) (.t 101)),xo 104 (.load false 1 (.t 103)),xm 15 104] [103,104])
(.seq (.reg [xo 16 (.mov (.k (.int .u8 0)))] [])
(.seq (.block 5 (.seq (.reg [xm 107 15,xo 108 (.bin .eql 0 (.t 107) (.k (.int .u8 95))),xm 109 108,xt 110 109 (.mov (.t 8)),xo 111 (.pick (.t 109) (.t 110) kf),xm 106 111] (rng 107 5))
(.cond (.t 106) [106] (.seq (.reg [xo 12 (.mov kt)] [])
(.exit 4)) (.seq (.reg [xm 113 15,xo 114 (.bin .leq 0 (.k (.int .u8 48)) (.t 113)),xm 115 114,xt 116 115 (.mov (.t 15)),xt 117 115 (.bin .leq 0 (.t 116) (.k (.int .u8 57))),xo 118 (.pick (.t 115) (.t 117) kf),xm 112 118] (rng 113 6))
(.cond (.t 112) [112] (.reg [xm 119 15,xo 120 (.bin .sub 0 (.t 119) (.k (.int .u8 48))),xm 16 120] [119,120]) (.seq (.reg [xm 122 15,xo 123 (.call 125 [(true, (.t 122))]),xo 124 (.bin .leq 0 (.k (.int .u8 97)) (.t 123)),xm 125 124,xt 126 125 (.mov (.t 15)),xt 127 125 (.call 125 [(true, (.t 126))]),xt 128 125 (.bin .leq 0 (.t 127) (.k (.int .u8 122))),xo 129 (.pick (.t 125) (.t 128) kf),xm 121 129] (rng 122 8))
(.cond (.t 121) [121] (.reg [xm 130 15,xo 131 (.call 125 [(true, (.t 130))]),xo 132 (.bin .sub 0 (.t 131) (.k (.int .u8 97))),xo 133 (.bin .add 0 (.t 132) (.k (.int .u8 10))),xm 16 133] (rng 130 4)) (.seq .stuck
.ret))))))))
(.seq (.seq (.reg [xm 134 16,xm 135 1,xo 136 (.conv .u8 (.t 135)),xo 137 (.bin .geq 0 (.t 134) (.t 136))] [134,135,136])
(.cond (.t 137) [137] (.seq .stuck
.ret) .skip))
(.seq (.seq (.reg [xm 139 13,xm 140 10,xo 141 (.bin .geq 0 (.t 139) (.t 140))] [139,140])
(.cond (.t 141) [141] (.seq .stuck
.ret) .skip))
(.seq (.reg [xm 144 13,xm 145 1,xo 146 (.conv .u64 (.t 145)),xo 147 (.bin .mul 0 (.t 144) (.t 146)),xm 13 147] (rng 144 4))
(.seq (.reg [xm 148 13,xm 149 16,xo 150 (.conv .u64 (.t 149)),xo 151 (.bin .add 0 (.t 148) (.t 150)),xm 17 151] (rng 148 4))
(.seq (.seq (.reg [xm 152 17,xm 153 13,xo 154 (.bin .lss 0 (.t 152) (.t 153)),xm 155 154,xf 156 155 (.mov (.t 17)),xf 157 155 (.mov (.t 11)),xf 158 155 (.bin .gtr 0 (.t 156) (.t 157)),xo 159 (.pick (.t 155) kt (.t 158))] (rng 152 7))
(.cond (.t 159) [159] (.seq .stuck
.ret) .skip))
(.reg [xm 162 17,xm 13 162] [162]))))))))))
(.reg [xo 163 (.bin .add 0 (.t 101) (ki 1)),xm 101 163] [163])))))))
(.seq (.seq (.reg [xm 164 12,xm 165 164,xt 166 165 (.mov (.t 9)),xt 167 165 (.call 126 [(true, (.t 166))]),xt 168 165 (.un .not (.t 167)),xo 169 (.pick (.t 165) (.t 168) kf)] (rng 164 5))
(.cond (.t 169) [169] (.seq .stuck
.ret) .skip))
(.seq (.reg [xm 171 13,xm 6 171,xo 7 (.mov (.k .nili))] [171])
.ret))))))))))))))
/-- internal/strconv.ParseUint -/
def fn1186 : AFn := ⟨3, 172, c1186, [(.t 6),(.t 7)], 0⟩
theorem fn1186_body : fn1186.body = c1186 := rfl
theorem fn1186_res : fn1186.res = [(.t 6), (.t 7)] := rfl
theorem fn1186_keep : fn1186.keep = 0 := rfl
def c1187 : ACode :=
(.seq (.reg [xo 10 (.mov (.k .nili))] [])
(.seq (.seq (.reg [xm 11 4] [])
(.block 0 (.seq .stuck
(.cond (.t 12) [12] (.seq .stuck
.ret) (.seq .stuck
(.cond (.t 19) [19] (.seq .stuck
.ret) (.seq .stuck
(.cond (.t 26) [26] (.seq .stuck
.ret) (.seq .stuck
(.cond (.t 34) [34] (.seq .stuck
.ret) .skip))))))))))
(.seq (.reg [xm 42 4,xm 10 42] [42])
.ret)))
/-- strconv.toError -/
def fn1187 : AFn := ⟨5, 43, c1187, [(.t 10)], 0⟩
theorem fn1187_body : fn1187.body = c1187 := rfl
theorem fn1187_res : fn1187.res = [(.t 10)] := rfl
theorem fn1187_keep : fn1187.keep = 0 := rfl
def c22 : ACode :=
(.seq (.reg [xo 4 (.anil 39 5),xo 5 (.mov kf)] [])
(.seq (.seq (.reg [xm 6 0,xo 7 (.len 1 (.t 6)),xo 8 (.bin .eql 0 (.t 7) (ki 0)),xm 9 8,xf 10 9 (.mov (.t 0)),xf 11 9 (.call 82 [(true, (.t 10))]),xf 12 9 (.un .not (.t 11)),xo 13 (.pick (.t 9) kt (.t 12))] (rng 6 7))
(.cond (.t 13) [13] (.seq (.reg [xo 4 (.anil 39 5),xo 5 (.mov kf)] [])
.ret) .skip))
(.seq (.reg [xm 14 0,xo 15 (.call 83 [(true, (.t 14))]),xm 16 1,⟨(some 17), none, .agg [(.int .i64 0),(.int .i64 0),(.int .i64 0),(.list 2 []),(.str ⟨#[]⟩)] [(0, 1, (ki 2)),(3, 1, (.t 15)),(4, 1, (.t 16))], []⟩,⟨(some 18), none, .mkl 39 5 [(.int .i64 0),(.int .i64 0),(.int .i64 0),(.list 2 []),(.str ⟨#[]⟩)] 1 [(0, (.t 17))] false, []⟩,xm 4 18,xo 5 (.mov kt)] (rng 14 5))
.ret)))
/-- caesura/tree.One -/
def fn22 : AFn := ⟨2, 19, c22, [(.t 4),(.t 5)], 0⟩
theorem fn22_body : fn22.body = c22 := rfl
theorem fn22_res : fn22.res = [(.t 4), (.t 5)] := rfl
theorem fn22_keep : fn22.keep = 0 := rfl
def c1188 : ACode :=
(.seq (.reg [xo 1 (.box (.t 0)),xo 2 (.mov (ki 0))] [])
(.seq (.reg [xo 6 (.faddr 1 (.t 1)),xo 7 (.load false 1 (.t 6)),xo 8 (.call 111 [(true, (.t 7)),(true, (ki 16)),(true, (ki 32))]),xm 5 8,xo 9 (.ext (.t 5) 0),xo 10 (.ext (.t 5) 1),xm 3 9,xm 4 10] (rng 4 7))
(.seq (.reg [xm 11 3,xo 12 (.conv .i64 (.t 11)),xm 2 12] [11,12])
.ret)))
/-- caesura/parse.number -/
def fn1188 : AFn := ⟨1, 13, c1188, [(.t 2)], 0⟩
theorem fn1188_body : fn1188.body = c1188 := rfl
theorem fn1188_res : fn1188.res = [(.t 2)] := rfl
theorem fn1188_keep : fn1188.keep = 0 := rfl
def c48 : ACode :=
(.seq (.reg [xo 2 (.anil 60 2),xo 3 (.mov kf)] [])
(.seq (.reg [xo 4 (.anil 60 2)] [])
(.seq (.seq (.reg [xm 8 0,xo 9 (.call 132 [(true, (.t 8))]),xo 10 (.call 131 [(false, (.t 9)),(false, (.k (.func 133 [])))]),xo 11 (.len 1 (.t 10)),xo 12 (.mov (ki 0))] [8,9])
(.block 0 (.loop false (.seq (.reg [xo 13 (.bin .lss 0 (.t 12) (.t 11))] [])
(.seq (.cond (.t 13) [13] .skip (.exit 0))
(.seq (.block 1 (.seq (.reg [xo 14 (.iaddr 2 (.t 10) (.t 12)),xo 15 (.load true 2 (.t 14)),xo 6 (.new [(.int .i64 0),(.int .i64 0)]),xn (.store false 2 (.t 6) (.t 15))] [14,15])
(.seq (.reg [xm 16 4,xo 17 (.len 1 (.t 16)),xm 7 17] [16,17])
(.block 2 (.seq (.reg [xo 33 (.load true 2 (.t 6)),xo 34 (.call 102 [(true, (.t 33))]),xo 35 (.un .not (.t 34)),xm 32 35] [33,34,35])
(.cond (.t 32) [32] (.seq (.reg [xo 2 (.anil 60 2),xo 3 (.mov kf)] [])
.ret) (.seq (.dreg [xm 37 7,yo 38 (.bin .eql 0 (.t 37) (ki 0)) [0],ym 39 38 [0, 1],yf 40 39 (.mov (.t 4)) [0, 1, 2],yf 41 39 (.mov (.t 7)) [0, 1, 2],yf 42 39 (.bin .sub 0 (.t 41) (ki 1)) [0, 1, 2, 4],yf 43 39 (.iaddr 2 (.t 40) (.t 42)) [0, 1, 2, 3, 4, 5],yf 44 39 (.load true 2 (.t 43)) [0, 1, 2, 3, 4, 5, 6],yf 45 39 (.load true 2 (.t 6)) [0, 1, 2],yf 46 39 (.call 103 [(true, (.t 44)),(true, (.t 45))]) [0, 1, 2, 3, 4, 5, 6, 7, 8],yo 47 (.pick (.t 39) kt (.t 46)) [0, 1, 2, 3, 4, 5, 6, 7, 8, 9],ym 36 47 (rng 0 11)] (rng 37 11))
(.cond (.t 36) [36] (.reg [xm 48 4,xo 49 (.load true 2 (.t 6)),xo 50 (.mkl 60 2 [(.int .i64 0),(.int .i64 0)] 1 [(0, (.t 49))] false),xo 51 (.app 60 2 16 (.t 48) (.t 50)),xm 4 51] (rng 48 4)) (.dreg [xm 18 4,xm 19 7,yo 20 (.bin .sub 0 (.t 19) (ki 1)) [1],xm 21 4,xm 22 7,yo 23 (.bin .sub 0 (.t 22) (ki 1)) [4],yo 24 (.iaddr 2 (.t 21) (.t 23)) [3, 4, 5],yo 25 (.faddr 1 (.t 24)) [3, 4, 5, 6],yo 26 (.load false 1 (.t 25)) [3, 4, 5, 6, 7],xo 27 (.faddr 1 (.t 6)),yo 28 (.load false 1 (.t 27)) [9],yo 29 (.mm true [(.t 26),(.t 28)]) [3, 4, 5, 6, 7, 8, 9, 10],yo 30 (.iaddr 2 (.t 18) (.t 20)) [0, 1, 2, 3, 4, 5, 6, 7, 8, 9, 10, 11],yo 31 (.faddr 1 (.t 30)) [0, 1, 2, 3, 4, 5, 6, 7, 8, 9, 10, 11, 12],⟨none, none, .store false 1 (.t 31) (.t 29), [0, 1, 2, 3, 4, 5, 6, 7, 8, 9, 10, 11, 12, 13]⟩] (rng 18 14))))))))))
(.reg [xo 52 (.bin .add 0 (.t 12) (ki 1)),xm 12 52] [52])))))))
(.seq (.reg [xm 53 4,xm 2 53,xo 3 (.mov kt)] [53])
.ret))))
/-- caesura/sets.Of -/
def fn48 : AFn := ⟨1, 54, c48, [(.t 2),(.t 3)], 0⟩
theorem fn48_body : fn48.body = c48 := rfl
theorem fn48_res : fn48.res = [(.t 2), (.t 3)] := rfl
theorem fn48_keep : fn48.keep = 0 := rfl
def c1189 : ACode :=
(.seq (.reg [xo 2 (.mov (.k (.int .u8 0)))] [])
(.seq (.reg [xm 3 0,xo 4 (.bin .or 0 (.t 3) (.k (.int .u8 32))),xm 2 4] [3,4])
.ret))
/-- internal/strconv.lower -/
def fn1189 : AFn := ⟨1, 5, c1189, [(.t 2)], 0⟩
theorem fn1189_body : fn1189.body = c1189 := rfl
theorem fn1189_res : fn1189.res = [(.t 2)] := rfl
theorem fn1189_keep : fn1189.keep = 0 := rfl
def c1190 : ACode :=
(.seq (.reg [xo 2 (.mov kf)] [])
(.seq (.reg [xo 3 (.mov (.k (.int .i32 94)))] [])
(.seq (.reg [xo 4 (.mov (ki 0))] [])
(.seq (.seq (.reg [xm 6 0,xo 7 (.len 0 (.t 6)),xo 8 (.bin .geq 0 (.t 7) (ki 1)),xm 9 8,xt 10 9 (.mov (.t 0)),xt 11 9 (.sidx (.t 10) (ki 0)),xt 12 9 (.bin .eql 0 (.t 11) (.k (.int .u8 45))),xt 13 9 (.mov (.t 12)),xf 14 13 (.mov (.t 0)),xf 15 13 (.sidx (.t 14) (ki 0)),xf 16 13 (.bin .eql 0 (.t 15) (.k (.int .u8 43))),xt 17 9 (.pick (.t 13) kt (.t 16)),xo 18 (.pick (.t 9) (.t 17) kf)] (rng 6 12))
(.cond (.t 18) [18] (.reg [xm 19 0,xo 20 (.sslc (.t 19) (some (ki 1)) none),xm 0 20] [19,20]) .skip))
(.seq (.reg [xo 5 (.mov kf)] [])
(.seq (.seq (.reg [xm 21 0,xo 22 (.len 0 (.t 21)),xo 23 (.bin .geq 0 (.t 22) (ki 2)),xm 24 23,xt 25 24 (.mov (.t 0)),xt 26 24 (.sidx (.t 25) (ki 0)),xt 27 24 (.bin .eql 0 (.t 26) (.k (.int .u8 48))),xo 28 (.pick (.t 24) (.t 27) kf),xm 29 28,xt 30 29 (.mov (.t 0)),xt 31 29 (.sidx (.t 30) (ki 1)),xt 32 29 (.call 125 [(true, (.t 31))]),xt 33 29 (.bin .eql 0 (.t 32) (.k (.int .u8 98))),xt 34 29 (.mov (.t 33)),xf 35 34 (.mov (.t 0)),xf 36 34 (.sidx (.t 35) (ki 1)),xf 37 34 (.call 125 [(true, (.t 36))]),xf 38 34 (.bin .eql 0 (.t 37) (.k (.int .u8 111))),xt 39 29 (.pick (.t 34) kt (.t 38)),xt 40 29 (.mov (.t 39)),xf 41 40 (.mov (.t 0)),xf 42 40 (.sidx (.t 41) (ki 1)),xf 43 40 (.call 125 [(true, (.t 42))]),xf 44 40 (.bin .eql 0 (.t 43) (.k (.int .u8 120))),xt 45 29 (.pick (.t 40) kt (.t 44)),xo 46 (.pick (.t 29) (.t 45) kf)] (rng 21 25))
(.cond (.t 46) [46] (.seq (.reg [xo 4 (.mov (ki 2))] [])
(.seq (.reg [xo 3 (.mov (.k (.int .i32 48)))] [])
(.reg [xm 47 0,xo 48 (.sidx (.t 47) (ki 1)),xo 49 (.call 125 [(true, (.t 48))]),xo 50 (.bin .eql 0 (.t 49) (.k (.int .u8 120))),xm 5 50] (rng 47 4)))) .skip))
(.seq (.block 0 (.loop false (.seq (.seq (.reg [xm 51 4,xm 52 0,xo 53 (.len 0 (.t 52)),xo 54 (.bin .lss 0 (.t 51) (.t 53))] [51,52,53])
(.cond (.t 54) [54] .skip (.exit 0)))
(.seq (.block 1 (.seq (.seq (.reg [xm 57 0,xm 58 4,xo 59 (.sidx (.t 57) (.t 58)),xo 60 (.bin .leq 0 (.k (.int .u8 48)) (.t 59)),xm 61 60,xt 62 61 (.mov (.t 0)),xt 63 61 (.mov (.t 4)),xt 64 61 (.sidx (.t 62) (.t 63)),xt 65 61 (.bin .leq 0 (.t 64) (.k (.int .u8 57))),xo 66 (.pick (.t 61) (.t 65) kf),xm 67 66,xf 68 67 (.mov (.t 5)),xf 69 67 (.mov (.t 68)),xt 70 69 (.mov (.t 0)),xt 71 69 (.mov (.t 4)),xt 72 69 (.sidx (.t 70) (.t 71)),xt 73 69 (.call 125 [(true, (.t 72))]),xt 74 69 (.bin .leq 0 (.k (.int .u8 97)) (.t 73)),xf 75 67 (.pick (.t 69) (.t 74) kf),xf 76 67 (.mov (.t 75)),xt 77 76 (.mov (.t 0)),xt 78 76 (.mov (.t 4)),xt 79 76 (.sidx (.t 77) (.t 78)),xt 80 76 (.call 125 [(true, (.t 79))]),xt 81 76 (.bin .leq 0 (.t 80) (.k (.int .u8 102))),xf 82 67 (.pick (.t 76) (.t 81) kf),xo 83 (.pick (.t 67) kt (.t 82))] (rng 57 26))
(.cond (.t 83) [83] (.seq (.reg [xo 3 (.mov (.k (.int .i32 48)))] [])
(.exit 1)) .skip))
(.seq (.seq (.reg [xm 84 0,xm 85 4,xo 86 (.sidx (.t 84) (.t 85)),xo 87 (.bin .eql 0 (.t 86) (.k (.int .u8 95)))] [84,85,86])
(.cond (.t 87) [87] (.seq (.seq (.reg [xm 88 3,xo 89 (.bin .neq 0 (.t 88) (.k (.int .i32 48)))] [88])
(.cond (.t 89) [89] (.seq (.reg [xo 2 (.mov kf)] [])
.ret) .skip))
(.seq (.reg [xo 3 (.mov (.k (.int .i32 95)))] [])
(.exit 1))) .skip))
(.seq (.seq (.reg [xm 90 3,xo 91 (.bin .eql 0 (.t 90) (.k (.int .i32 95)))] [90])
(.cond (.t 91) [91] (.seq (.reg [xo 2 (.mov kf)] [])
.ret) .skip))
(.reg [xo 3 (.mov (.k (.int .i32 33)))] [])))))
(.reg [xm 55 4,xo 56 (.bin .add 0 (.t 55) (ki 1)),xm 4 56] [55,56])))))
(.seq (.reg [xm 92 3,xo 93 (.bin .neq 0 (.t 92) (.k (.int .i32 95))),xm 2 93] [92,93])
.ret))))))))
/-- internal/strconv.underscoreOK -/
def fn1190 : AFn := ⟨1, 94, c1190, [(.t 2)], 0⟩
theorem fn1190_body : fn1190.body = c1190 := rfl
theorem fn1190_res : fn1190.res = [(.t 2)] := rfl
theorem fn1190_keep : fn1190.keep = 0 := rfl
def c86 : ACode :=
(.seq (.reg [xo 1 (.box (.t 0)),xo 2 (.mov (.k .nilf))] [])
(.seq (.reg [xo 3 (.mkf 139 [(.t 1)]),xm 2 3] [3])
.ret))
/-- slices.Values[[]caesura/api.Range,caesura/api.Range] -/
def fn86 : AFn := ⟨1, 4, c86, [(.t 2)], 2⟩
theorem fn86_body : fn86.body = c86 := rfl
theorem fn86_res : fn86.res = [(.t 2)] := rfl
theorem fn86_keep : fn86.keep = 2 := rfl
end Go.Proofs.Abs
