/- The program's functions as codes of the abstract interpreter, and that each is the program's own. Printed by wip/abs/absgen.py and codetext.py. -/
import Derived.Test.YthknebhggdhhfaaGreatDoorAbsGd
import Derived.Test.YthknebhggdhhfaaGreatDoorProg
import Derived.KernelRfl
set_option maxRecDepth 100000
set_option linter.all false
set_option linter.unusedVariables false
set_option linter.unusedSimpArgs false
set_option linter.constructorNameAsVariable false
set_option linter.defProp false
namespace Go.Proofs.Abs
open ACode AIns AX
def c1221 : ACode :=
(.seq (.reg [xo 3 (.box (.t 0)),xo 6 (.mov kf)] [])
(.seq (.seq (.reg [xo 17 (.load true 3 (.t 3)),xm 18 1,xo 19 (.call 11 [(true, (.t 17)),(true, (.t 18))]),xo 20 (.un .not (.t 19))] [17,18,19])
(.cond (.t 20) [20] (.seq (.reg [xo 21 (.call 12 []),xm 6 21] [21])
.ret) .skip))
(.seq (.reg [xo 22 (.load true 3 (.t 3)),xo 23 (.call 13 [(true, (.t 22))]),xo 24 (.mkl 3 1 [(.int .i64 0)] 0 [] false),xm 25 1,xo 26 (.app 3 1 8 (.t 24) (.t 25)),xo 7 (.new [(.list 2 []),(.list 3 []),(.bool false)]),xn (.store false 3 (.t 7) (.t 23)),xm 8 26] (rng 22 5))
(.seq (.reg [xo 28 (.load true 3 (.t 7)),xm 29 8,xo 30 (.call 14 [(true, (.t 28)),(true, (.t 29))]),xm 27 30,xo 31 (.ext (.t 27) 0),xo 32 (.ext (.t 27) 1),xm 9 31,xm 10 32] (rng 27 6))
(.seq (.reg [xo 34 (.load true 3 (.t 3)),xm 35 1,xo 36 (.call 15 [(true, (.t 34)),(true, (.t 35))]),xm 33 36,xo 37 (.ext (.t 33) 0),xo 38 (.ext (.t 33) 1),xm 11 37,xm 12 38] (rng 33 6))
(.seq (.reg [xo 40 (.load true 3 (.t 7)),xm 41 8,xm 42 2,xo 43 (.call 16 [(true, (.t 40)),(true, (.t 41)),(true, (.t 42))]),xm 39 43,xo 44 (.ext (.t 39) 0),xo 45 (.ext (.t 39) 1),xm 13 44,xm 14 45] (rng 39 7))
(.seq (.reg [xo 46 (.load true 3 (.t 3)),xm 47 1,xm 48 2,xo 49 (.call 17 [(true, (.t 46)),(true, (.t 47)),(true, (.t 48))]),xo 15 (.new [(.bool false),(.bool false)]),xn (.store false 2 (.t 15) (.t 49))] (rng 46 4))
(.seq (.seq (.reg [xm 50 9,xm 51 11,xo 52 (.call 18 [(true, (.t 50)),(true, (.t 51))]),xo 53 (.un .not (.t 52)),xm 54 53,xf 55 54 (.mov (.t 10)),xf 56 54 (.mov (.t 12)),xf 57 54 (.bin .neq 1 (.t 55) (.t 56)),xo 58 (.pick (.t 54) kt (.t 57)),xm 59 58,xf 60 59 (.mov (.t 13)),xf 61 59 (.faddr 0 (.t 15)),xf 62 59 (.load false 1 (.t 61)),xf 63 59 (.bin .neq 1 (.t 60) (.t 62)),xo 64 (.pick (.t 59) kt (.t 63)),xm 65 64,xf 66 65 (.mov (.t 14)),xf 67 65 (.faddr 1 (.t 15)),xf 68 65 (.load false 1 (.t 67)),xf 69 65 (.bin .neq 1 (.t 66) (.t 68)),xo 70 (.pick (.t 65) kt (.t 69))] (rng 50 20))
(.cond (.t 70) [70] (.seq (.reg [xo 6 (.mov kf)] [])
.ret) .skip))
(.seq (.seq (.reg [xo 16 (.mov (ki 0))] [])
(.block 0 (.loop false (.seq (.seq (.reg [xm 71 16,xo 72 (.faddr 1 (.t 3)),xo 73 (.load false 1 (.t 72)),xo 74 (.len 1 (.t 73)),xo 75 (.bin .lss 0 (.t 71) (.t 74))] (rng 71 4))
(.cond (.t 75) [75] .skip (.exit 0)))
(.seq (.block 1 (.seq (.dreg [xo 78 (.faddr 1 (.t 7)),yo 79 (.load false 1 (.t 78)) [0],xm 80 16,yo 81 (.iaddr 3 (.t 79) (.t 80)) [0, 1, 2],yo 82 (.load true 3 (.t 81)) [0, 1, 2, 3],xm 83 8,xm 84 2,yo 85 (.call 19 [(true, (.t 82)),(true, (.t 83)),(true, (.t 84))]) [0, 1, 2, 3, 4, 5, 6],xo 86 (.faddr 1 (.t 3)),yo 87 (.load false 1 (.t 86)) [8],xm 88 16,yo 89 (.iaddr 3 (.t 87) (.t 88)) [8, 9, 10],yo 90 (.load true 3 (.t 89)) [8, 9, 10, 11],xm 91 1,xm 92 2,yo 93 (.call 20 [(true, (.t 90)),(true, (.t 91)),(true, (.t 92))]) [0, 1, 2, 3, 4, 5, 6, 7, 8, 9, 10, 11, 12, 13, 14],yo 94 (.bin .neq 1 (.t 85) (.t 93)) (rng 0 16)] (rng 78 16))
(.cond (.t 94) [94] (.seq (.reg [xo 6 (.mov kf)] [])
.ret) .skip)))
(.reg [xm 76 16,xo 77 (.bin .add 0 (.t 76) (ki 1)),xm 16 77] [76,77]))))))
(.seq (.reg [xo 95 (.load true 3 (.t 7)),xo 96 (.load true 3 (.t 3)),xo 97 (.call 21 [(true, (.t 95)),(true, (.t 96))]),xm 98 97,xt 99 98 (.mov (.t 8)),xt 100 98 (.mov (.t 1)),xt 101 98 (.call 18 [(true, (.t 99)),(true, (.t 100))]),xo 102 (.pick (.t 98) (.t 101) kf),xm 103 102,xt 104 103 (.call 12 []),xo 105 (.pick (.t 103) (.t 104) kf),xm 6 105] (rng 95 11))
.ret))))))))))
/-- caesura/caesuralaw17.MeansTell -/
def fn1221 : AFn := ⟨3, 106, c1221, [(.t 6)], 0⟩
theorem fn1221_body : fn1221.body = c1221 := rfl
theorem fn1221_res : fn1221.res = [(.t 6)] := rfl
theorem fn1221_keep : fn1221.keep = 0 := rfl
def c1222 : ACode :=
(.seq (.reg [xo 3 (.box (.t 0)),xo 6 (.mov kf)] [])
(.seq (.seq (.reg [xo 18 (.load true 3 (.t 3)),xm 19 1,xo 20 (.call 11 [(true, (.t 18)),(true, (.t 19))]),xo 21 (.un .not (.t 20)),xm 22 21,xf 23 22 (.mov (.t 2)),xf 24 22 (.len 1 (.t 23)),xf 25 22 (.bin .gtr 0 (.t 24) (ki 8)),xo 26 (.pick (.t 22) kt (.t 25)),xm 27 26,xf 28 27 (.load true 3 (.t 3)),xf 29 27 (.call 22 [(true, (.t 28))]),xf 30 27 (.un .not (.t 29)),xo 31 (.pick (.t 27) kt (.t 30))] (rng 18 13))
(.cond (.t 31) [31] (.seq (.reg [xo 32 (.call 12 []),xm 6 32] [32])
.ret) .skip))
(.seq (.seq (.reg [xo 7 (.mov (ki 0))] [])
(.block 0 (.loop false (.seq (.seq (.reg [xm 33 7,xm 34 1,xo 35 (.len 1 (.t 34)),xo 36 (.bin .lss 0 (.t 33) (.t 35))] [33,34,35])
(.cond (.t 36) [36] .skip (.exit 0)))
(.seq (.block 1 (.seq (.reg [xm 39 1,xm 40 7,xo 41 (.iaddr 1 (.t 39) (.t 40)),xo 42 (.load false 1 (.t 41)),xo 43 (.call 23 [(true, (.t 42))]),xo 44 (.un .not (.t 43))] (rng 39 5))
(.cond (.t 44) [44] (.seq (.reg [xo 45 (.call 12 []),xm 6 45] [45])
.ret) .skip)))
(.reg [xm 37 7,xo 38 (.bin .add 0 (.t 37) (ki 1)),xm 7 38] [37,38]))))))
(.seq (.reg [xo 46 (.faddr 2 (.t 3)),xo 47 (.load false 1 (.t 46)),xm 8 47] [46,47])
(.seq (.seq (.reg [xo 48 (.faddr 1 (.t 3)),xo 49 (.load false 1 (.t 48)),xo 50 (.len 1 (.t 49)),xo 51 (.bin .sub 0 (.t 50) (ki 1)),xm 9 51] (rng 48 4))
(.block 2 (.loop false (.seq (.seq (.reg [xm 52 9,xo 53 (.bin .geq 0 (.t 52) (ki 0))] [52])
(.cond (.t 53) [53] .skip (.exit 2)))
(.seq (.block 3 (.seq (.reg [xo 10 (.mov kf)] [])
(.seq (.seq (.reg [xo 11 (.mov (ki 0))] [])
(.block 4 (.loop false (.seq (.seq (.reg [xm 56 11,xm 57 1,xo 58 (.len 1 (.t 57)),xo 59 (.bin .leq 0 (.t 56) (.t 58))] [56,57,58])
(.cond (.t 59) [59] .skip (.exit 4)))
(.seq (.block 5 (.dreg [xm 62 10,ym 63 62 [0],yf 64 63 (.faddr 1 (.t 3)) [0, 1],yf 65 63 (.load false 1 (.t 64)) [0, 1, 2],yf 66 63 (.mov (.t 9)) [0, 1],yf 67 63 (.iaddr 3 (.t 65) (.t 66)) [0, 1, 2, 3, 4],yf 68 63 (.faddr 0 (.t 67)) [0, 1, 2, 3, 4, 5],yf 69 63 (.load false 1 (.t 68)) [0, 1, 2, 3, 4, 5, 6],yf 70 63 (.mov (.t 1)) [0, 1],yf 71 63 (.mov (.t 11)) [0, 1],yf 72 63 (.slc 1 (.t 70) none (some (.t 71)) none) [0, 1, 8, 9],yf 73 63 (.call 24 [(true, (.t 69)),(true, (.t 72))]) [0, 1, 2, 3, 4, 5, 6, 7, 8, 9, 10],yf 74 63 (.mov (.t 73)) [0, 1, 2, 3, 4, 5, 6, 7, 8, 9, 10, 11],yt 75 74 (.faddr 1 (.t 3)) [0, 1, 2, 3, 4, 5, 6, 7, 8, 9, 10, 11, 12],yt 76 74 (.load false 1 (.t 75)) [0, 1, 2, 3, 4, 5, 6, 7, 8, 9, 10, 11, 12, 13],yt 77 74 (.mov (.t 9)) [0, 1, 2, 3, 4, 5, 6, 7, 8, 9, 10, 11, 12],yt 78 74 (.iaddr 3 (.t 76) (.t 77)) [0, 1, 2, 3, 4, 5, 6, 7, 8, 9, 10, 11, 12, 13, 14, 15],yt 79 74 (.faddr 1 (.t 78)) [0, 1, 2, 3, 4, 5, 6, 7, 8, 9, 10, 11, 12, 13, 14, 15, 16],yt 80 74 (.load false 1 (.t 79)) [0, 1, 2, 3, 4, 5, 6, 7, 8, 9, 10, 11, 12, 13, 14, 15, 16, 17],yt 81 74 (.mov (.t 1)) [0, 1, 2, 3, 4, 5, 6, 7, 8, 9, 10, 11, 12],yt 82 74 (.mov (.t 11)) [0, 1, 2, 3, 4, 5, 6, 7, 8, 9, 10, 11, 12],yt 83 74 (.slc 1 (.t 81) (some (.t 82)) none none) [0, 1, 2, 3, 4, 5, 6, 7, 8, 9, 10, 11, 12, 19, 20],yt 84 74 (.call 24 [(true, (.t 80)),(true, (.t 83))]) [0, 1, 2, 3, 4, 5, 6, 7, 8, 9, 10, 11, 12, 13, 14, 15, 16, 17, 18, 19, 20, 21],yf 85 63 (.pick (.t 74) (.t 84) kf) [0, 1, 2, 3, 4, 5, 6, 7, 8, 9, 10, 11, 12, 13, 14, 15, 16, 17, 18, 19, 20, 21, 22],yo 86 (.pick (.t 63) kt (.t 85)) [0, 1, 2, 3, 4, 5, 6, 7, 8, 9, 10, 11, 12, 13, 14, 15, 16, 17, 18, 19, 20, 21, 22, 23],ym 10 86 (rng 0 25)] (rng 62 25)))
(.reg [xm 60 11,xo 61 (.bin .add 0 (.t 60) (ki 1)),xm 11 61] [60,61]))))))
(.seq (.seq (.reg [xo 87 (.faddr 1 (.t 3)),xo 88 (.load false 1 (.t 87)),xm 89 9,xo 90 (.iaddr 3 (.t 88) (.t 89)),xo 91 (.load true 3 (.t 90)),xm 92 1,xm 93 1,xo 94 (.len 1 (.t 93)),xo 95 (.call 19 [(true, (.t 91)),(true, (.t 92)),(true, (.t 94))]),xm 96 10,xo 97 (.bin .neq 1 (.t 95) (.t 96))] (rng 87 10))
(.cond (.t 97) [97] (.seq (.reg [xo 6 (.mov kf)] [])
.ret) .skip))
(.seq (.reg [xm 98 10] [])
(.cond (.t 98) [98] (.reg [xo 99 (.faddr 1 (.t 3)),xo 100 (.load false 1 (.t 99)),xm 101 9,xo 102 (.iaddr 3 (.t 100) (.t 101)),xo 103 (.faddr 2 (.t 102)),xo 104 (.load false 1 (.t 103)),xm 8 104] (rng 99 6)) .skip))))))
(.reg [xm 54 9,xo 55 (.bin .sub 0 (.t 54) (ki 1)),xm 9 55] [54,55]))))))
(.seq (.reg [xo 106 (.load true 3 (.t 3)),xm 107 1,xm 108 1,xo 109 (.len 1 (.t 108)),xo 110 (.call 16 [(true, (.t 106)),(true, (.t 107)),(true, (.t 109))]),xm 105 110,xo 111 (.ext (.t 105) 0),xo 112 (.ext (.t 105) 1),xm 12 111,xm 13 112] (rng 105 8))
(.seq (.seq (.reg [xm 113 13,xo 114 (.un .not (.t 113)),xm 115 114,xf 116 115 (.mov (.t 12)),xf 117 115 (.mov (.t 8)),xf 118 115 (.bin .neq 1 (.t 116) (.t 117)),xo 119 (.pick (.t 115) kt (.t 118))] (rng 113 6))
(.cond (.t 119) [119] (.seq (.reg [xo 6 (.mov kf)] [])
.ret) .skip))
(.seq (.dreg [xo 121 (.load true 3 (.t 3)),xo 122 (.mkl 3 1 [(.int .i64 0)] 0 [] false),xm 123 1,yo 124 (.app 3 1 8 (.t 122) (.t 123)) [1, 2],xm 125 2,yo 126 (.app 3 1 8 (.t 124) (.t 125)) [1, 2, 3, 4],xm 127 1,yo 128 (.len 1 (.t 127)) [6],yo 129 (.call 16 [(true, (.t 121)),(true, (.t 126)),(true, (.t 128))]) [0, 1, 2, 3, 4, 5, 6, 7],ym 120 129 [0, 1, 2, 3, 4, 5, 6, 7, 8],yo 130 (.ext (.t 120) 0) [0, 1, 2, 3, 4, 5, 6, 7, 8, 9],yo 131 (.ext (.t 120) 1) [0, 1, 2, 3, 4, 5, 6, 7, 8, 9],ym 14 130 [0, 1, 2, 3, 4, 5, 6, 7, 8, 9, 10],ym 15 131 (rng 0 13)] (rng 120 12))
(.seq (.reg [xo 16 (.mov kt)] [])
(.seq (.seq (.reg [xo 17 (.mov (ki 0))] [])
(.block 6 (.loop false (.seq (.seq (.reg [xm 132 17,xm 133 2,xo 134 (.len 1 (.t 133)),xo 135 (.bin .lss 0 (.t 132) (.t 134))] [132,133,134])
(.cond (.t 135) [135] .skip (.exit 6)))
(.seq (.block 7 (.reg [xm 138 16,xm 139 138,xt 140 139 (.mov (.t 2)),xt 141 139 (.mov (.t 17)),xt 142 139 (.iaddr 1 (.t 140) (.t 141)),xt 143 139 (.load false 1 (.t 142)),xt 144 139 (.call 23 [(true, (.t 143))]),xo 145 (.pick (.t 139) (.t 144) kf),xm 16 145] (rng 138 8)))
(.reg [xm 136 17,xo 137 (.bin .add 0 (.t 136) (ki 1)),xm 17 137] [136,137]))))))
(.seq (.reg [xm 146 15,xm 147 16,xo 148 (.bin .eql 1 (.t 146) (.t 147)),xm 149 148,xt 150 149 (.mov (.t 15)),xt 151 149 (.un .not (.t 150)),xt 152 149 (.mov (.t 151)),xf 153 152 (.mov (.t 14)),xf 154 152 (.mov (.t 12)),xf 155 152 (.bin .eql 1 (.t 153) (.t 154)),xt 156 149 (.pick (.t 152) kt (.t 155)),xo 157 (.pick (.t 149) (.t 156) kf),xm 158 157,xt 159 158 (.call 12 []),xo 160 (.pick (.t 158) (.t 159) kf),xm 6 160] (rng 146 15))
.ret)))))))))))
/-- caesura/caesuralaw17.MeansFirst -/
def fn1222 : AFn := ⟨3, 161, c1222, [(.t 6)], 0⟩
theorem fn1222_body : fn1222.body = c1222 := rfl
theorem fn1222_res : fn1222.res = [(.t 6)] := rfl
theorem fn1222_keep : fn1222.keep = 0 := rfl
def c1223 : ACode :=
(.seq (.reg [xo 3 (.box (.t 0)),xo 6 (.mov kf)] [])
(.seq (.seq (.reg [xo 22 (.load true 3 (.t 3)),xm 23 1,xo 24 (.call 11 [(true, (.t 22)),(true, (.t 23))]),xo 25 (.un .not (.t 24)),xm 26 25,xf 27 26 (.load true 3 (.t 3)),xf 28 26 (.call 22 [(true, (.t 27))]),xf 29 26 (.un .not (.t 28)),xo 30 (.pick (.t 26) kt (.t 29)),xm 31 30,xf 32 31 (.faddr 1 (.t 3)),xf 33 31 (.load false 1 (.t 32)),xf 34 31 (.len 1 (.t 33)),xf 35 31 (.bin .geq 0 (.t 34) (ki 40)),xo 36 (.pick (.t 31) kt (.t 35))] (rng 22 14))
(.cond (.t 36) [36] (.seq (.reg [xo 37 (.call 12 []),xm 6 37] [37])
.ret) .skip))
(.seq (.reg [xo 39 (.load true 3 (.t 3)),xm 40 1,xo 41 (.call 14 [(true, (.t 39)),(true, (.t 40))]),xm 38 41,xo 42 (.ext (.t 38) 0),xo 43 (.ext (.t 38) 1),xm 7 42,xm 8 43] (rng 38 6))
(.seq (.reg [xm 44 2,xo 45 (.conv .i64 (.t 44)),xo 46 (.faddr 1 (.t 3)),xo 47 (.load false 1 (.t 46)),xo 48 (.len 1 (.t 47)),xo 49 (.bin .add 0 (.t 48) (ki 1)),xo 50 (.bin .rem 0 (.t 45) (.t 49)),xm 9 50] (rng 44 7))
(.seq (.reg [xo 52 (.agg [(.int .i64 0),(.int .i64 0)] [(0, 1, (ki 0)),(1, 1, (ki 1114111))]),xo 53 (.mkl 52 2 [(.int .i64 0),(.int .i64 0)] 1 [(0, (.t 52))] false),⟨(some 54), none, .call 25 [(true, (.t 53)),(true, (.k (.str ⟨#[]⟩)))], []⟩,xm 51 54,xo 55 (.ext (.t 51) 0),xo 56 (.ext (.t 51) 1),xm 10 55,xm 11 56] (rng 51 6))
(.seq (.reg [xm 58 10,xo 59 (.call 26 [(true, (.t 58))]),xm 57 59,xo 60 (.ext (.t 57) 0),xo 61 (.ext (.t 57) 1),xm 12 60,xm 13 61] (rng 57 5))
(.seq (.seq (.reg [xm 62 11,xo 63 (.un .not (.t 62)),xm 64 63,xf 65 64 (.mov (.t 13)),xf 66 64 (.un .not (.t 65)),xo 67 (.pick (.t 64) kt (.t 66))] (rng 62 5))
(.cond (.t 67) [67] (.seq (.reg [xo 6 (.mov kf)] [])
.ret) .skip))
(.seq (.reg [xo 68 (.load true 3 (.t 3)),xo 69 (.call 13 [(true, (.t 68))]),xo 14 (.new [(.list 2 []),(.list 3 []),(.bool false)]),xn (.store false 3 (.t 14) (.t 69))] [68,69])
(.seq (.dreg [xo 70 (.mkl 42 3 [(.list 5 []),(.list 5 []),(.bool false)] 0 [] false),xo 71 (.faddr 1 (.t 3)),yo 72 (.load false 1 (.t 71)) [1],xm 73 9,yo 74 (.slc 3 (.t 72) none (some (.t 73)) none) [1, 2, 3],yo 75 (.app 42 3 56 (.t 70) (.t 74)) [0, 1, 2, 3, 4],xm 76 12,yo 77 (.call 27 [(true, (ki 0))]) [0, 1, 2, 3, 4, 5],xo 78 (.faddr 2 (.t 3)),yo 79 (.load false 1 (.t 78)) [8],yo 80 (.un .not (.t 79)) [8, 9],yo 81 (.agg [(.list 5 []),(.list 5 []),(.bool false)] [(0, 1, (.t 76)),(1, 1, (.t 77)),(2, 1, (.t 80))]) [0, 1, 2, 3, 4, 5, 6, 7, 8, 9, 10],yo 82 (.mkl 42 3 [(.list 5 []),(.list 5 []),(.bool false)] 1 [(0, (.t 81))] false) [0, 1, 2, 3, 4, 5, 6, 7, 8, 9, 10, 11],yo 83 (.app 42 3 56 (.t 75) (.t 82)) [0, 1, 2, 3, 4, 5, 6, 7, 8, 9, 10, 11, 12],xo 84 (.faddr 1 (.t 3)),yo 85 (.load false 1 (.t 84)) [14],xm 86 9,yo 87 (.slc 3 (.t 85) (some (.t 86)) none none) [14, 15, 16],yo 88 (.app 42 3 56 (.t 83) (.t 87)) [0, 1, 2, 3, 4, 5, 6, 7, 8, 9, 10, 11, 12, 13, 14, 15, 16, 17],yo 89 (.faddr 1 (.t 14)) [0, 1, 2, 3, 4, 5, 6, 7, 8, 9, 10, 11, 12, 13, 14, 15, 16, 17, 18],⟨none, none, .store false 1 (.t 89) (.t 88), [0, 1, 2, 3, 4, 5, 6, 7, 8, 9, 10, 11, 12, 13, 14, 15, 16, 17, 18, 19]⟩] (rng 70 20))
(.seq (.reg [xo 91 (.load true 3 (.t 14)),xm 92 1,xo 93 (.call 14 [(true, (.t 91)),(true, (.t 92))]),xm 90 93,xo 94 (.ext (.t 90) 0),xo 95 (.ext (.t 90) 1),xm 15 94,xm 16 95] (rng 90 6))
(.seq (.reg [xo 96 (.load true 3 (.t 3)),xo 97 (.call 13 [(true, (.t 96))]),xo 17 (.new [(.list 2 []),(.list 3 []),(.bool false)]),xn (.store false 3 (.t 17) (.t 97))] [96,97])
(.seq (.reg [xo 98 (.mkl 42 3 [(.list 5 []),(.list 5 []),(.bool false)] 0 [] false),xo 99 (.faddr 1 (.t 3)),xo 100 (.load false 1 (.t 99)),xm 101 9,xo 102 (.slc 3 (.t 100) none (some (.t 101)) none),xo 103 (.app 42 3 56 (.t 98) (.t 102)),xm 104 12,xo 105 (.call 27 [(true, (ki 1))]),xo 106 (.agg [(.list 5 []),(.list 5 []),(.bool false)] [(0, 1, (.t 104)),(1, 1, (.t 105)),(2, 1, kt)]),xo 107 (.mkl 42 3 [(.list 5 []),(.list 5 []),(.bool false)] 1 [(0, (.t 106))] false),xo 108 (.app 42 3 56 (.t 103) (.t 107)),xo 109 (.faddr 1 (.t 17)),xn (.store false 1 (.t 109) (.t 108))] (rng 98 12))
(.seq (.reg [xo 111 (.load true 3 (.t 17)),xm 112 1,xo 113 (.call 14 [(true, (.t 111)),(true, (.t 112))]),xm 110 113,xo 114 (.ext (.t 110) 0),xo 115 (.ext (.t 110) 1),xm 18 114,xm 19 115] (rng 110 6))
(.seq (.dreg [xo 116 (.faddr 1 (.t 17)),yo 117 (.load false 1 (.t 116)) [0],xo 118 (.faddr 1 (.t 3)),yo 119 (.load false 1 (.t 118)) [2],xm 120 9,yo 121 (.slc 3 (.t 119) (some (.t 120)) none none) [2, 3, 4],yo 122 (.app 42 3 56 (.t 117) (.t 121)) [0, 1, 2, 3, 4, 5],yo 123 (.faddr 1 (.t 17)) [0, 1, 2, 3, 4, 5, 6],⟨none, none, .store false 1 (.t 123) (.t 122), [0, 1, 2, 3, 4, 5, 6, 7]⟩] (rng 116 8))
(.seq (.reg [xo 124 (.faddr 2 (.t 17)),xo 125 (.load false 1 (.t 124)),xo 126 (.un .not (.t 125)),xo 127 (.faddr 2 (.t 17)),xn (.store false 1 (.t 127) (.t 126))] (rng 124 4))
(.seq (.reg [xo 129 (.load true 3 (.t 17)),xm 130 1,xo 131 (.call 14 [(true, (.t 129)),(true, (.t 130))]),xm 128 131,xo 132 (.ext (.t 128) 0),xo 133 (.ext (.t 128) 1),xm 20 132,xm 21 133] (rng 128 6))
(.seq (.reg [xm 134 8,xm 135 16,xo 136 (.bin .eql 1 (.t 134) (.t 135)),xm 137 136,xt 138 137 (.mov (.t 7)),xt 139 137 (.mov (.t 15)),xt 140 137 (.call 18 [(true, (.t 138)),(true, (.t 139))]),xo 141 (.pick (.t 137) (.t 140) kf),xm 142 141,xt 143 142 (.mov (.t 19)),xt 144 142 (.mov (.t 21)),xt 145 142 (.bin .eql 1 (.t 143) (.t 144)),xo 146 (.pick (.t 142) (.t 145) kf),xm 147 146,xt 148 147 (.mov (.t 18)),xt 149 147 (.mov (.t 20)),xt 150 147 (.call 18 [(true, (.t 148)),(true, (.t 149))]),xo 151 (.pick (.t 147) (.t 150) kf),xm 152 151,xt 153 152 (.call 12 []),xo 154 (.pick (.t 152) (.t 153) kf),xm 6 154] (rng 134 21))
.ret)))))))))))))))))
/-- caesura/caesuralaw17.MeansMore -/
def fn1223 : AFn := ⟨3, 155, c1223, [(.t 6)], 0⟩
theorem fn1223_body : fn1223.body = c1223 := rfl
theorem fn1223_res : fn1223.res = [(.t 6)] := rfl
theorem fn1223_keep : fn1223.keep = 0 := rfl
def c1224 : ACode :=
(.seq (.reg [xo 3 (.box (.t 0)),xo 6 (.mov kf)] [])
(.seq (.seq (.reg [xo 22 (.load true 3 (.t 3)),xm 23 1,xo 24 (.call 11 [(true, (.t 22)),(true, (.t 23))]),xo 25 (.un .not (.t 24)),xm 26 25,xf 27 26 (.load true 3 (.t 3)),xf 28 26 (.call 22 [(true, (.t 27))]),xf 29 26 (.un .not (.t 28)),xo 30 (.pick (.t 26) kt (.t 29))] (rng 22 8))
(.cond (.t 30) [30] (.seq (.reg [xo 31 (.call 12 []),xm 6 31] [31])
.ret) .skip))
(.seq (.reg [xo 33 (.load true 3 (.t 3)),xm 34 1,xo 35 (.call 14 [(true, (.t 33)),(true, (.t 34))]),xm 32 35,xo 36 (.ext (.t 32) 0),xo 37 (.ext (.t 32) 1),xm 7 36,xm 8 37] (rng 32 6))
(.seq (.reg [xo 38 (.load true 3 (.t 3)),xo 39 (.call 300013 [(true, (.t 38))]),xo 9 (.new [(.list 2 []),(.list 3 []),(.bool false)]),xn (.store false 3 (.t 9) (.t 39))] [38,39])
(.seq (.reg [xo 40 (.faddr 2 (.t 9)),xo 41 (.load false 1 (.t 40)),xo 42 (.un .not (.t 41)),xo 43 (.faddr 2 (.t 9)),xn (.store false 1 (.t 43) (.t 42))] (rng 40 4))
(.seq (.seq (.reg [xo 10 (.mov (ki 0))] [])
(.block 0 (.loop false (.seq (.seq (.reg [xm 44 10,xo 45 (.faddr 1 (.t 9)),xo 46 (.load false 1 (.t 45)),xo 47 (.len 1 (.t 46)),xo 48 (.bin .lss 0 (.t 44) (.t 47))] (rng 44 4))
(.cond (.t 48) [48] .skip (.exit 0)))
(.seq (.block 1 (.dreg [xo 51 (.faddr 1 (.t 9)),yo 52 (.load false 1 (.t 51)) [0],xm 53 10,xo 54 (.faddr 1 (.t 9)),yo 55 (.load false 1 (.t 54)) [3],xm 56 10,yo 57 (.iaddr 3 (.t 55) (.t 56)) [3, 4, 5],yo 58 (.faddr 2 (.t 57)) [3, 4, 5, 6],yo 59 (.load false 1 (.t 58)) [3, 4, 5, 6, 7],yo 60 (.un .not (.t 59)) [3, 4, 5, 6, 7, 8],yo 61 (.iaddr 3 (.t 52) (.t 53)) [0, 1, 2, 3, 4, 5, 6, 7, 8, 9],yo 62 (.faddr 2 (.t 61)) [0, 1, 2, 3, 4, 5, 6, 7, 8, 9, 10],⟨none, none, .store false 1 (.t 62) (.t 60), [0, 1, 2, 3, 4, 5, 6, 7, 8, 9, 10, 11]⟩] (rng 51 12)))
(.reg [xm 49 10,xo 50 (.bin .add 0 (.t 49) (ki 1)),xm 10 50] [49,50]))))))
(.seq (.reg [xo 64 (.load true 3 (.t 9)),xm 65 1,xo 66 (.call 14 [(true, (.t 64)),(true, (.t 65))]),xm 63 66,xo 67 (.ext (.t 63) 0),xo 68 (.ext (.t 63) 1),xm 11 67,xm 12 68] (rng 63 6))
(.seq (.seq (.reg [xm 69 8,xm 70 12,xo 71 (.bin .neq 1 (.t 69) (.t 70))] [69,70])
(.cond (.t 71) [71] (.seq (.reg [xo 6 (.mov kf)] [])
.ret) .skip))
(.seq (.seq (.reg [xm 72 8,xo 73 (.un .not (.t 72))] [72])
(.cond (.t 73) [73] (.seq (.reg [xm 74 7,xo 75 (.len 1 (.t 74)),xo 76 (.bin .eql 0 (.t 75) (ki 0)),xm 77 76,xt 78 77 (.mov (.t 11)),xt 79 77 (.len 1 (.t 78)),xt 80 77 (.bin .eql 0 (.t 79) (ki 0)),xo 81 (.pick (.t 77) (.t 80) kf),xm 82 81,xt 83 82 (.call 12 []),xo 84 (.pick (.t 82) (.t 83) kf),xm 6 84] (rng 74 11))
.ret) .skip))
(.seq (.reg [xo 13 (.mov (ki 0)),xo 14 (.mov (ki 0))] [])
(.seq (.seq (.reg [xo 15 (.mov (ki 0))] [])
(.block 2 (.loop false (.seq (.seq (.reg [xm 85 15,xm 86 1,xo 87 (.len 1 (.t 86)),xo 88 (.bin .leq 0 (.t 85) (.t 87))] [85,86,87])
(.cond (.t 88) [88] .skip (.exit 2)))
(.seq (.block 3 (.seq (.reg [xm 91 13,xm 92 7,xo 93 (.len 1 (.t 92)),xo 94 (.bin .lss 0 (.t 91) (.t 93)),xm 95 94,xt 96 95 (.mov (.t 7)),xt 97 95 (.mov (.t 13)),xt 98 95 (.iaddr 1 (.t 96) (.t 97)),xt 99 95 (.load false 1 (.t 98)),xt 100 95 (.mov (.t 15)),xt 101 95 (.bin .eql 0 (.t 99) (.t 100)),xo 102 (.pick (.t 95) (.t 101) kf),xm 16 102] (rng 91 12))
(.seq (.reg [xm 103 14,xm 104 11,xo 105 (.len 1 (.t 104)),xo 106 (.bin .lss 0 (.t 103) (.t 105)),xm 107 106,xt 108 107 (.mov (.t 11)),xt 109 107 (.mov (.t 14)),xt 110 107 (.iaddr 1 (.t 108) (.t 109)),xt 111 107 (.load false 1 (.t 110)),xt 112 107 (.mov (.t 15)),xt 113 107 (.bin .eql 0 (.t 111) (.t 112)),xo 114 (.pick (.t 107) (.t 113) kf),xm 17 114] (rng 103 12))
(.seq (.seq (.reg [xm 115 16,xm 116 17,xo 117 (.bin .eql 1 (.t 115) (.t 116))] [115,116])
(.cond (.t 117) [117] (.seq (.reg [xo 6 (.mov kf)] [])
.ret) .skip))
(.seq (.reg [xm 118 16] [])
(.cond (.t 118) [118] (.reg [xm 119 13,xo 120 (.bin .add 0 (.t 119) (ki 1)),xm 13 120] [119,120]) (.reg [xm 121 14,xo 122 (.bin .add 0 (.t 121) (ki 1)),xm 14 122] [121,122])))))))
(.reg [xm 89 15,xo 90 (.bin .add 0 (.t 89) (ki 1)),xm 15 90] [89,90]))))))
(.seq (.seq (.reg [xo 123 (.faddr 1 (.t 3)),xo 124 (.load false 1 (.t 123)),xo 125 (.len 1 (.t 124)),xo 126 (.bin .lss 0 (.t 125) (ki 2))] [123,124,125])
(.cond (.t 126) [126] (.seq (.reg [xo 127 (.call 12 []),xm 6 127] [127])
.ret) .skip))
(.seq (.reg [xm 128 2,xo 129 (.conv .i64 (.t 128)),xo 130 (.faddr 1 (.t 3)),xo 131 (.load false 1 (.t 130)),xo 132 (.len 1 (.t 131)),xo 133 (.bin .sub 0 (.t 132) (ki 1)),xo 134 (.bin .rem 0 (.t 129) (.t 133)),xm 18 134] (rng 128 7))
(.seq (.seq (.dreg [xo 135 (.faddr 1 (.t 3)),yo 136 (.load false 1 (.t 135)) [0],xm 137 18,yo 138 (.iaddr 3 (.t 136) (.t 137)) [0, 1, 2],yo 139 (.faddr 2 (.t 138)) [0, 1, 2, 3],yo 140 (.load false 1 (.t 139)) [0, 1, 2, 3, 4],xo 141 (.faddr 1 (.t 3)),yo 142 (.load false 1 (.t 141)) [6],xm 143 18,yo 144 (.bin .add 0 (.t 143) (ki 1)) [8],yo 145 (.iaddr 3 (.t 142) (.t 144)) [6, 7, 8, 9],yo 146 (.faddr 2 (.t 145)) [6, 7, 8, 9, 10],yo 147 (.load false 1 (.t 146)) [6, 7, 8, 9, 10, 11],yo 148 (.bin .neq 1 (.t 140) (.t 147)) (rng 0 13)] (rng 135 13))
(.cond (.t 148) [148] (.seq (.reg [xo 149 (.call 12 []),xm 6 149] [149])
.ret) .skip))
(.seq (.reg [xo 150 (.load true 3 (.t 3)),xo 151 (.call 300013 [(true, (.t 150))]),xo 19 (.new [(.list 2 []),(.list 3 []),(.bool false)]),xn (.store false 3 (.t 19) (.t 151))] [150,151])
(.seq (.dreg [xo 152 (.faddr 1 (.t 19)),yo 153 (.load false 1 (.t 152)) [0],xm 154 18,xo 155 (.faddr 1 (.t 19)),yo 156 (.load false 1 (.t 155)) [3],xm 157 18,yo 158 (.bin .add 0 (.t 157) (ki 1)) [5],xo 159 (.faddr 1 (.t 19)),yo 160 (.load false 1 (.t 159)) [7],xm 161 18,yo 162 (.bin .add 0 (.t 161) (ki 1)) [9],yo 163 (.iaddr 3 (.t 160) (.t 162)) [7, 8, 9, 10],yo 164 (.load true 3 (.t 163)) [7, 8, 9, 10, 11],xo 165 (.faddr 1 (.t 19)),yo 166 (.load false 1 (.t 165)) [13],xm 167 18,yo 168 (.iaddr 3 (.t 166) (.t 167)) [13, 14, 15],yo 169 (.load true 3 (.t 168)) [13, 14, 15, 16],yo 170 (.iaddr 3 (.t 153) (.t 154)) [0, 1, 2, 7, 8, 9, 10, 11, 12, 13, 14, 15, 16, 17],⟨none, none, .store false 3 (.t 170) (.t 164), [0, 1, 2, 7, 8, 9, 10, 11, 12, 13, 14, 15, 16, 17, 18]⟩,yo 171 (.iaddr 3 (.t 156) (.t 158)) [0, 1, 2, 3, 4, 5, 6, 7, 8, 9, 10, 11, 12, 13, 14, 15, 16, 17, 18, 19],⟨none, none, .store false 3 (.t 171) (.t 169), [0, 1, 2, 3, 4, 5, 6, 7, 8, 9, 10, 11, 12, 13, 14, 15, 16, 17, 18, 19, 20]⟩] (rng 152 20))
(.seq (.reg [xo 173 (.load true 3 (.t 19)),xm 174 1,xo 175 (.call 14 [(true, (.t 173)),(true, (.t 174))]),xm 172 175,xo 176 (.ext (.t 172) 0),xo 177 (.ext (.t 172) 1),xm 20 176,xm 21 177] (rng 172 6))
(.seq (.reg [xm 178 21,xm 179 178,xt 180 179 (.mov (.t 7)),xt 181 179 (.mov (.t 20)),xt 182 179 (.call 18 [(true, (.t 180)),(true, (.t 181))]),xo 183 (.pick (.t 179) (.t 182) kf),xm 184 183,xt 185 184 (.call 12 []),xo 186 (.pick (.t 184) (.t 185) kf),xm 6 186] (rng 178 9))
.ret))))))))))))))))))
/-- caesura/caesuralaw17.MeansSwap -/
def fn1224 : AFn := ⟨3, 187, c1224, [(.t 6)], 0⟩
theorem fn1224_body : fn1224.body = c1224 := rfl
theorem fn1224_res : fn1224.res = [(.t 6)] := rfl
theorem fn1224_keep : fn1224.keep = 0 := rfl
def c1225 : ACode :=
(.seq (.reg [xo 2 (.box (.t 0)),xo 4 (.mov kf)] [])
(.seq (.seq (.reg [xo 16 (.load true 3 (.t 2)),xm 17 1,xo 18 (.call 11 [(true, (.t 16)),(true, (.t 17))]),xo 19 (.un .not (.t 18))] [16,17,18])
(.cond (.t 19) [19] (.seq (.reg [xo 20 (.call 12 []),xm 4 20] [20])
.ret) .skip))
(.seq (.reg [xo 22 (.load true 3 (.t 2)),xm 23 1,xo 24 (.call 14 [(true, (.t 22)),(true, (.t 23))]),xm 21 24,xo 25 (.ext (.t 21) 0),xo 26 (.ext (.t 21) 1),xm 5 25,xm 6 26] (rng 21 6))
(.seq (.reg [xo 7 (.mov (ki 0))] [])
(.seq (.seq (.reg [xo 8 (.mov (ki 0))] [])
(.block 0 (.loop false (.seq (.seq (.reg [xm 27 8,xm 28 1,xo 29 (.len 1 (.t 28)),xo 30 (.bin .leq 0 (.t 27) (.t 29))] [27,28,29])
(.cond (.t 30) [30] .skip (.exit 0)))
(.seq (.block 1 (.seq (.reg [xo 34 (.load true 3 (.t 2)),xm 35 1,xm 36 8,xo 37 (.call 16 [(true, (.t 34)),(true, (.t 35)),(true, (.t 36))]),xm 33 37,xo 38 (.ext (.t 33) 0),xo 39 (.ext (.t 33) 1),xm 9 38,xm 10 39] (rng 33 7))
(.seq (.seq (.reg [xm 40 10,xm 41 6,xo 42 (.bin .neq 1 (.t 40) (.t 41))] [40,41])
(.cond (.t 42) [42] (.seq (.reg [xo 4 (.mov kf)] [])
.ret) .skip))
(.seq (.reg [xm 43 9] [])
(.cond (.t 43) [43] (.seq (.seq (.reg [xm 44 7,xm 45 5,xo 46 (.len 1 (.t 45)),xo 47 (.bin .geq 0 (.t 44) (.t 46)),xm 48 47,xf 49 48 (.mov (.t 5)),xf 50 48 (.mov (.t 7)),xf 51 48 (.iaddr 1 (.t 49) (.t 50)),xf 52 48 (.load false 1 (.t 51)),xf 53 48 (.mov (.t 8)),xf 54 48 (.bin .neq 0 (.t 52) (.t 53)),xo 55 (.pick (.t 48) kt (.t 54))] (rng 44 11))
(.cond (.t 55) [55] (.seq (.reg [xo 4 (.mov kf)] [])
.ret) .skip))
(.reg [xm 56 7,xo 57 (.bin .add 0 (.t 56) (ki 1)),xm 7 57] [56,57])) .skip)))))
(.reg [xm 31 8,xo 32 (.bin .add 0 (.t 31) (ki 1)),xm 8 32] [31,32]))))))
(.seq (.reg [xo 59 (.faddr 2 (.t 2)),xo 60 (.load false 1 (.t 59)),xo 61 (.agg [(.list 2 []),(.list 3 []),(.bool false)] [(2, 1, (.t 60))]),xm 62 1,xo 63 (.call 14 [(true, (.t 61)),(true, (.t 62))]),xm 58 63,xo 64 (.ext (.t 58) 0),xo 65 (.ext (.t 58) 1),xm 11 64,xm 12 65] (rng 58 8))
(.seq (.reg [xo 13 (.mov kt)] [])
(.seq (.seq (.reg [xo 14 (.mov (ki 0))] [])
(.block 2 (.loop false (.seq (.seq (.reg [xm 66 14,xm 67 1,xo 68 (.len 1 (.t 67)),xo 69 (.bin .lss 0 (.t 66) (.t 68))] [66,67,68])
(.cond (.t 69) [69] .skip (.exit 2)))
(.seq (.block 3 (.reg [xm 72 13,xm 73 72,xt 74 73 (.mov (.t 1)),xt 75 73 (.mov (.t 14)),xt 76 73 (.iaddr 1 (.t 74) (.t 75)),xt 77 73 (.load false 1 (.t 76)),xt 78 73 (.call 23 [(true, (.t 77))]),xo 79 (.pick (.t 73) (.t 78) kf),xm 13 79] (rng 72 8)))
(.reg [xm 70 14,xo 71 (.bin .add 0 (.t 70) (ki 1)),xm 14 71] [70,71]))))))
(.seq (.reg [xo 15 (.mov (ki 0))] [])
(.seq (.seq (.reg [xo 80 (.faddr 2 (.t 2)),xo 81 (.load false 1 (.t 80)),xm 82 81,xt 83 82 (.mov (.t 13)),xo 84 (.pick (.t 82) (.t 83) kf)] (rng 80 4))
(.cond (.t 84) [84] (.reg [xm 85 1,xo 86 (.len 1 (.t 85)),xo 87 (.bin .add 0 (.t 86) (ki 1)),xm 15 87] [85,86,87]) .skip))
(.seq (.reg [xm 88 7,xm 89 5,xo 90 (.len 1 (.t 89)),xo 91 (.bin .eql 0 (.t 88) (.t 90)),xm 92 91,xt 93 92 (.mov (.t 12)),xt 94 92 (.mov (.t 13)),xt 95 92 (.bin .eql 1 (.t 93) (.t 94)),xo 96 (.pick (.t 92) (.t 95) kf),xm 97 96,xt 98 97 (.mov (.t 11)),xt 99 97 (.len 1 (.t 98)),xt 100 97 (.mov (.t 15)),xt 101 97 (.bin .eql 0 (.t 99) (.t 100)),xo 102 (.pick (.t 97) (.t 101) kf),xm 103 102,xt 104 103 (.call 12 []),xo 105 (.pick (.t 103) (.t 104) kf),xm 4 105] (rng 88 18))
.ret)))))))))))
/-- caesura/caesuralaw17.MeansPlaces -/
def fn1225 : AFn := ⟨2, 106, c1225, [(.t 4)], 0⟩
theorem fn1225_body : fn1225.body = c1225 := rfl
theorem fn1225_res : fn1225.res = [(.t 4)] := rfl
theorem fn1225_keep : fn1225.keep = 0 := rfl
def c1229 : ACode :=
(.seq (.reg [xo 2 (.box (.t 0)),xo 4 (.mov kf)] [])
(.seq (.reg [xo 5 (.load true 3 (.t 2)),xo 6 (.call 28 [(true, (.t 5))]),xo 7 (.un .not (.t 6)),xm 8 7,xt 9 8 (.mov (.t 1)),xt 10 8 (.len 1 (.t 9)),xt 11 8 (.bin .leq 0 (.t 10) (ki 8)),xo 12 (.pick (.t 8) (.t 11) kf),xm 13 12,xt 14 13 (.load true 3 (.t 2)),xt 15 13 (.call 30 [(true, (.t 14))]),xt 16 13 (.bin .leq 0 (.t 15) (ki 400)),xo 17 (.pick (.t 13) (.t 16) kf),xm 4 17] (rng 5 13))
.ret))
/-- caesura/caesuralaw17.Light -/
def fn1229 : AFn := ⟨2, 18, c1229, [(.t 4)], 0⟩
theorem fn1229_body : fn1229.body = c1229 := rfl
theorem fn1229_res : fn1229.res = [(.t 4)] := rfl
theorem fn1229_keep : fn1229.keep = 0 := rfl
def c1230 : ACode :=
(.seq (.reg [xo 0 (.mov kf)] [])
(.seq (.reg [⟨(some 10), none, .call 43 [(true, (.k (.str ⟨#[97, 110, 121, 42, 32, 91, 117, 43, 54, 49, 93, 32, 195, 151, 32, 91, 117, 43, 54, 50, 93, 59, 32, 97, 110, 121, 42, 32, 195, 183, 32, 91, 117, 43, 54, 50, 93, 59, 32, 101, 108, 115, 101, 32, 195, 151, 59]⟩)))], []⟩,xm 9 10,xo 11 (.ext (.t 9) 0),xo 12 (.ext (.t 9) 1),xo 1 (.new [(.list 2 []),(.list 3 []),(.bool false)]),xo 2 (.new [(.int .i64 0),(.int .i64 0)]),xn (.store false 3 (.t 1) (.t 11)),xn (.store false 2 (.t 2) (.t 12))] (rng 9 4))
(.seq (.reg [xo 14 (.load true 3 (.t 1)),xo 15 (.mkl 3 1 [(.int .i64 0)] 4 [(0, (ki 97)),(1, (ki 98)),(2, (ki 98)),(3, (ki 97))] false),xo 16 (.call 14 [(true, (.t 14)),(true, (.t 15))]),xm 13 16,xo 17 (.ext (.t 13) 0),xo 18 (.ext (.t 13) 1),xm 3 17,xm 4 18] (rng 13 6))
(.seq (.reg [xo 20 (.load true 3 (.t 1)),xo 21 (.mkl 3 1 [(.int .i64 0)] 1 [(0, (ki 98))] false),xo 22 (.call 16 [(true, (.t 20)),(true, (.t 21)),(true, (ki 1))]),xm 19 22,xo 23 (.ext (.t 19) 0),xo 24 (.ext (.t 19) 1),xm 5 23,xm 6 24] (rng 19 6))
(.seq (.reg [xo 26 (.load true 3 (.t 1)),xo 27 (.mkl 3 1 [(.int .i64 0)] 1 [(0, (ki 98))] false),xo 28 (.call 16 [(true, (.t 26)),(true, (.t 27)),(true, (ki 2))]),xm 25 28,xo 29 (.ext (.t 25) 0),xo 30 (.ext (.t 25) 1),xm 7 29,xm 8 30] [7,25,26,27,28,29,30])
(.seq (.reg [xo 31 (.faddr 0 (.t 2)),xo 32 (.load false 1 (.t 31)),xo 33 (.bin .eql 0 (.t 32) (ki 0)),xm 34 33,xt 35 34 (.mov (.t 4)),xo 36 (.pick (.t 34) (.t 35) kf),xm 37 36,xt 38 37 (.mov (.t 3)),xt 39 37 (.mkl 3 1 [(.int .i64 0)] 1 [(0, (ki 3))] false),xt 40 37 (.call 18 [(true, (.t 38)),(true, (.t 39))]),xo 41 (.pick (.t 37) (.t 40) kf),xm 42 41,xt 43 42 (.mov (.t 5)),xo 44 (.pick (.t 42) (.t 43) kf),xm 45 44,xt 46 45 (.mov (.t 6)),xo 47 (.pick (.t 45) (.t 46) kf),xm 48 47,xt 49 48 (.mov (.t 8)),xt 50 48 (.un .not (.t 49)),xo 51 (.pick (.t 48) (.t 50) kf),xm 52 51,xt 53 52 (.faddr 1 (.t 1)),xt 54 52 (.load false 1 (.t 53)),xt 55 52 (.len 1 (.t 54)),xt 56 52 (.bin .eql 0 (.t 55) (ki 2)),xo 57 (.pick (.t 52) (.t 56) kf),xm 58 57,xt 59 58 (.faddr 1 (.t 1)),xt 60 58 (.load false 1 (.t 59)),xt 61 58 (.iaddr 3 (.t 60) (ki 0)),xt 62 58 (.load true 3 (.t 61)),xt 63 58 (.mkl 3 1 [(.int .i64 0)] 2 [(0, (ki 97)),(1, (ki 98))] false),xt 64 58 (.call 19 [(true, (.t 62)),(true, (.t 63)),(true, (ki 2))]),xo 65 (.pick (.t 58) (.t 64) kf),xm 0 65] (rng 31 35))
.ret))))))
/-- caesura/caesuralaw17.wakes -/
def fn1230 : AFn := ⟨0, 66, c1230, [(.t 0)], 0⟩
theorem fn1230_body : fn1230.body = c1230 := rfl
theorem fn1230_res : fn1230.res = [(.t 0)] := rfl
theorem fn1230_keep : fn1230.keep = 0 := rfl
def c1231 : ACode :=
(.seq (.reg [xo 1 (.box (.t 0)),xo 2 (.new [.nils, .nils, (.bool false)])] [])
(.seq (.dreg [xo 5 (.faddr 0 (.t 1)),yo 6 (.load false 1 (.t 5)) [0],yo 7 (.pcall 44 [(.t 6)]) [0, 1],xo 8 (.faddr 2 (.t 1)),yo 9 (.load false 1 (.t 8)) [3],yo 10 (.agg [.nils, .nils, (.bool false)] [(0, 1, (.t 7)),(2, 1, (.t 9))]) [0, 1, 2, 3, 4],xo 3 (.new [.nils, .nils, (.bool false)]),⟨none, none, .store true 3 (.t 3) (.t 10), [0, 1, 2, 3, 4, 5, 6]⟩] (rng 5 6))
(.seq (.seq (.reg [xo 4 (.mov (ki 0))] [])
(.block 0 (.loop true (.seq (.seq (.reg [xm 11 4,xo 12 (.faddr 1 (.t 1)),xo 13 (.load false 1 (.t 12)),xo 14 (.len 1 (.t 13)),xo 15 (.bin .lss 0 (.t 11) (.t 14))] (rng 11 4))
(.cond (.t 15) [15] .skip (.exit 0)))
(.seq (.block 1 (.dreg [xo 18 (.faddr 1 (.t 3)),yo 19 (.load false 1 (.t 18)) [0],xo 20 (.faddr 1 (.t 1)),yo 21 (.load false 1 (.t 20)) [2],xm 22 4,yo 23 (.iaddr 3 (.t 21) (.t 22)) [2, 3, 4],yo 24 (.faddr 0 (.t 23)) [2, 3, 4, 5],yo 25 (.load false 1 (.t 24)) [2, 3, 4, 5, 6],yo 26 (.pcall 45 [(.t 25)]) [2, 3, 4, 5, 6, 7],xo 27 (.faddr 1 (.t 1)),yo 28 (.load false 1 (.t 27)) [9],xm 29 4,yo 30 (.iaddr 3 (.t 28) (.t 29)) [9, 10, 11],yo 31 (.faddr 1 (.t 30)) [9, 10, 11, 12],yo 32 (.load false 1 (.t 31)) [9, 10, 11, 12, 13],yo 33 (.pcall 45 [(.t 32)]) [2, 3, 4, 5, 6, 7, 8, 9, 10, 11, 12, 13, 14],xo 34 (.faddr 1 (.t 1)),yo 35 (.load false 1 (.t 34)) [16],xm 36 4,yo 37 (.iaddr 3 (.t 35) (.t 36)) [16, 17, 18],yo 38 (.faddr 2 (.t 37)) [16, 17, 18, 19],yo 39 (.load false 1 (.t 38)) [16, 17, 18, 19, 20],yo 40 (.agg [.nils, .nils, (.bool false)] [(0, 1, (.t 26)),(1, 1, (.t 33)),(2, 1, (.t 39))]) [2, 3, 4, 5, 6, 7, 8, 9, 10, 11, 12, 13, 14, 15, 16, 17, 18, 19, 20, 21],yo 41 (.mkl 42 3 [(.list 5 []),(.list 5 []),(.bool false)] 1 [(0, (.t 40))] false) [2, 3, 4, 5, 6, 7, 8, 9, 10, 11, 12, 13, 14, 15, 16, 17, 18, 19, 20, 21, 22],yo 42 (.app 42 3 56 (.t 19) (.t 41)) [0, 1, 2, 3, 4, 5, 6, 7, 8, 9, 10, 11, 12, 13, 14, 15, 16, 17, 18, 19, 20, 21, 22, 23],yo 43 (.faddr 1 (.t 3)) [0, 1, 2, 3, 4, 5, 6, 7, 8, 9, 10, 11, 12, 13, 14, 15, 16, 17, 18, 19, 20, 21, 22, 23, 24],⟨none, none, .store true 1 (.t 43) (.t 42), [0, 1, 2, 3, 4, 5, 6, 7, 8, 9, 10, 11, 12, 13, 14, 15, 16, 17, 18, 19, 20, 21, 22, 23, 24, 25]⟩] (rng 18 26)))
(.reg [xm 16 4,xo 17 (.bin .add 0 (.t 16) (ki 1)),xm 4 17] [16,17]))))))
(.seq (.reg [xo 44 (.load true 3 (.t 3)),xn (.store true 3 (.t 2) (.t 44))] [44])
.ret))))
/-- caesura/caesurakeep.OwnRules -/
def fn1231 : AFn := ⟨1, 45, c1231, [(.cz 2 3 [2,3,0])], 0⟩
theorem fn1231_body : fn1231.body = c1231 := rfl
theorem fn1231_res : fn1231.res = [(.cz 2 3 [2, 3, 0])] := rfl
theorem fn1231_keep : fn1231.keep = 0 := rfl
def c1232 : ACode :=
(.seq (.reg [xo 2 (.box (.t 0)),xo 4 (.anil 3 1),xo 5 (.mov kf)] [])
(.seq (.reg [xo 11 (.load true 3 (.t 2)),xm 12 1,xo 13 (.call 46 [(true, (.t 11)),(true, (.t 12))]),xm 10 13,xo 14 (.ext (.t 10) 0),xo 15 (.ext (.t 10) 1),xm 6 14,xm 7 15] (rng 10 6))
(.seq (.seq (.reg [xm 16 7,xo 17 (.un .not (.t 16))] [16])
(.cond (.t 17) [17] (.seq (.reg [xo 4 (.anil 3 1),xo 5 (.mov kf)] [])
.ret) .skip))
(.seq (.reg [xo 8 (.anil 3 1)] [])
(.seq (.seq (.reg [xm 18 1,xo 19 (.len 1 (.t 18)),xo 20 (.bin .add 0 (.t 19) (ki 1)),xo 21 (.mov (ki 0))] [18,19])
(.block 0 (.loop false (.seq (.reg [xo 22 (.bin .lss 0 (.t 21) (.t 20))] [])
(.seq (.cond (.t 22) [22] .skip (.exit 0))
(.seq (.block 1 (.seq (.reg [xm 23 21,xm 9 23] [23])
(.seq (.reg [xm 24 6,xm 25 9,xo 26 (.call 47 [(false, (.t 24)),(true, (.t 25))])] [24,25])
(.cond (.t 26) [26] (.reg [xm 27 8,xm 28 9,xo 29 (.mkl 3 1 [(.int .i64 0)] 1 [(0, (.t 28))] false),xo 30 (.app 3 1 8 (.t 27) (.t 29)),xm 8 30] (rng 27 4)) .skip))))
(.reg [xo 31 (.bin .add 0 (.t 21) (ki 1)),xm 21 31] [31])))))))
(.seq (.reg [xm 32 8,xm 4 32,xo 5 (.mov kt)] [32])
.ret))))))
/-- caesura/means.Breaks -/
def fn1232 : AFn := ⟨2, 33, c1232, [(.t 4),(.t 5)], 0⟩
theorem fn1232_body : fn1232.body = c1232 := rfl
theorem fn1232_res : fn1232.res = [(.t 4), (.t 5)] := rfl
theorem fn1232_keep : fn1232.keep = 0 := rfl
def c1233 : ACode :=
(.seq (.reg [xo 2 (.box (.t 0)),xo 4 (.anil 3 1),xo 5 (.mov kf)] [])
(.seq (.reg [xo 6 (.anil 3 1)] [])
(.seq (.seq (.reg [xo 7 (.mov (ki 0))] [])
(.block 0 (.loop false (.seq (.seq (.reg [xm 9 7,xm 10 1,xo 11 (.len 1 (.t 10)),xo 12 (.bin .leq 0 (.t 9) (.t 11))] [9,10,11])
(.cond (.t 12) [12] .skip (.exit 0)))
(.seq (.block 1 (.seq (.reg [xo 15 (.load true 3 (.t 2)),xm 16 1,xm 17 7,xo 18 (.call 17 [(true, (.t 15)),(true, (.t 16)),(true, (.t 17))]),xo 8 (.new [(.bool false),(.bool false)]),xn (.store false 2 (.t 8) (.t 18))] (rng 15 4))
(.seq (.seq (.reg [xo 19 (.faddr 1 (.t 8)),xo 20 (.load false 1 (.t 19)),xo 21 (.un .not (.t 20))] [19,20])
(.cond (.t 21) [21] (.seq (.reg [xo 4 (.anil 3 1),xo 5 (.mov kf)] [])
.ret) .skip))
(.seq (.reg [xo 22 (.faddr 0 (.t 8)),xo 23 (.load false 1 (.t 22))] [22])
(.cond (.t 23) [23] (.reg [xm 24 6,xm 25 7,xo 26 (.mkl 3 1 [(.int .i64 0)] 1 [(0, (.t 25))] false),xo 27 (.app 3 1 8 (.t 24) (.t 26)),xm 6 27] (rng 24 4)) .skip)))))
(.reg [xm 13 7,xo 14 (.bin .add 0 (.t 13) (ki 1)),xm 7 14] [13,14]))))))
(.seq (.reg [xm 28 6,xm 4 28,xo 5 (.mov kt)] [28])
.ret))))
/-- caesura/caesuraref17.Breaks -/
def fn1233 : AFn := ⟨2, 29, c1233, [(.t 4),(.t 5)], 0⟩
theorem fn1233_body : fn1233.body = c1233 := rfl
theorem fn1233_res : fn1233.res = [(.t 4), (.t 5)] := rfl
theorem fn1233_keep : fn1233.keep = 0 := rfl
def c1234 : ACode :=
(.seq (.reg [xo 3 (.box (.t 0)),xo 6 (.mov kf),xo 7 (.mov kf)] [])
(.seq (.reg [xo 11 (.load true 3 (.t 3)),xm 12 1,xo 13 (.call 46 [(true, (.t 11)),(true, (.t 12))]),xm 10 13,xo 14 (.ext (.t 10) 0),xo 15 (.ext (.t 10) 1),xm 8 14,xm 9 15] (rng 10 6))
(.seq (.seq (.reg [xm 16 9,xo 17 (.un .not (.t 16)),xm 18 17,xf 19 18 (.mov (.t 2)),xf 20 18 (.bin .lss 0 (.t 19) (ki 0)),xo 21 (.pick (.t 18) kt (.t 20)),xm 22 21,xf 23 22 (.mov (.t 2)),xf 24 22 (.mov (.t 1)),xf 25 22 (.len 1 (.t 24)),xf 26 22 (.bin .gtr 0 (.t 23) (.t 25)),xo 27 (.pick (.t 22) kt (.t 26))] (rng 16 11))
(.cond (.t 27) [27] (.seq (.reg [xo 6 (.mov kf),xo 7 (.mov kf)] [])
.ret) .skip))
(.seq (.reg [xm 28 8,xm 29 2,xo 30 (.call 47 [(false, (.t 28)),(true, (.t 29))]),xm 6 30,xo 7 (.mov kt)] [28,29,30])
.ret))))
/-- caesura/means.At -/
def fn1234 : AFn := ⟨3, 31, c1234, [(.t 6),(.t 7)], 0⟩
theorem fn1234_body : fn1234.body = c1234 := rfl
theorem fn1234_res : fn1234.res = [(.t 6), (.t 7)] := rfl
theorem fn1234_keep : fn1234.keep = 0 := rfl
def c1235 : ACode :=
(.seq (.reg [xo 3 (.box (.t 0)),xo 6 (.new [(.bool false),(.bool false)])] [])
(.seq (.seq (.reg [xo 9 (.load true 3 (.t 3)),xo 10 (.call 22 [(true, (.t 9))]),xo 11 (.un .not (.t 10)),xm 12 11,xf 13 12 (.mov (.t 2)),xf 14 12 (.bin .lss 0 (.t 13) (ki 0)),xo 15 (.pick (.t 12) kt (.t 14)),xm 16 15,xf 17 16 (.mov (.t 2)),xf 18 16 (.mov (.t 1)),xf 19 16 (.len 1 (.t 18)),xf 20 16 (.bin .gtr 0 (.t 17) (.t 19)),xo 21 (.pick (.t 16) kt (.t 20))] (rng 9 12))
(.cond (.t 21) [21] (.seq (.reg [xo 22 (.agg [(.bool false),(.bool false)] []),xn (.store false 2 (.t 6) (.t 22))] [22])
.ret) .skip))
(.seq (.seq (.reg [xo 7 (.mov (ki 0))] [])
(.block 0 (.loop false (.seq (.seq (.reg [xm 23 7,xm 24 1,xo 25 (.len 1 (.t 24)),xo 26 (.bin .lss 0 (.t 23) (.t 25))] [23,24,25])
(.cond (.t 26) [26] .skip (.exit 0)))
(.seq (.block 1 (.seq (.reg [xm 29 1,xm 30 7,xo 31 (.iaddr 1 (.t 29) (.t 30)),xo 32 (.load false 1 (.t 31)),xo 33 (.call 23 [(true, (.t 32))]),xo 34 (.un .not (.t 33))] (rng 29 5))
(.cond (.t 34) [34] (.seq (.reg [xo 35 (.agg [(.bool false),(.bool false)] []),xn (.store false 2 (.t 6) (.t 35))] [35])
.ret) .skip)))
(.reg [xm 27 7,xo 28 (.bin .add 0 (.t 27) (ki 1)),xm 7 28] [27,28]))))))
(.seq (.seq (.reg [xo 8 (.mov (ki 0))] [])
(.block 2 (.loop false (.seq (.seq (.reg [xm 36 8,xo 37 (.faddr 1 (.t 3)),xo 38 (.load false 1 (.t 37)),xo 39 (.len 1 (.t 38)),xo 40 (.bin .lss 0 (.t 36) (.t 39))] (rng 36 4))
(.cond (.t 40) [40] .skip (.exit 2)))
(.seq (.block 3 (.seq (.reg [xo 43 (.faddr 1 (.t 3)),xo 44 (.load false 1 (.t 43)),xm 45 8,xo 46 (.iaddr 3 (.t 44) (.t 45)),xo 47 (.load true 3 (.t 46)),xm 48 1,xm 49 2,xo 50 (.call 20 [(true, (.t 47)),(true, (.t 48)),(true, (.t 49))])] (rng 43 7))
(.cond (.t 50) [50] (.seq (.reg [xo 51 (.faddr 1 (.t 3)),xo 52 (.load false 1 (.t 51)),xm 53 8,xo 54 (.iaddr 3 (.t 52) (.t 53)),xo 55 (.faddr 2 (.t 54)),xo 56 (.load false 1 (.t 55)),xo 57 (.agg [(.bool false),(.bool false)] [(0, 1, (.t 56)),(1, 1, kt)]),xn (.store false 2 (.t 6) (.t 57))] (rng 51 7))
.ret) .skip)))
(.reg [xm 41 8,xo 42 (.bin .add 0 (.t 41) (ki 1)),xm 8 42] [41,42]))))))
(.seq (.reg [xo 58 (.faddr 2 (.t 3)),xo 59 (.load false 1 (.t 58)),xo 60 (.agg [(.bool false),(.bool false)] [(0, 1, (.t 59)),(1, 1, kt)]),xn (.store false 2 (.t 6) (.t 60))] [58,59,60])
.ret)))))
/-- caesura/caesuraref17.At -/
def fn1235 : AFn := ⟨3, 61, c1235, [(.c 6 true 2)], 0⟩
theorem fn1235_body : fn1235.body = c1235 := rfl
theorem fn1235_res : fn1235.res = [(.c 6 true 2)] := rfl
theorem fn1235_keep : fn1235.keep = 0 := rfl
def c1023 : ACode :=
(.seq (.reg [xo 4 (.mov kf)] [])
(.seq (.seq (.reg [xm 6 0,xo 7 (.len 1 (.t 6)),xm 8 1,xo 9 (.len 1 (.t 8)),xo 10 (.bin .neq 0 (.t 7) (.t 9))] (rng 6 4))
(.cond (.t 10) [10] (.seq (.reg [xo 4 (.mov kf)] [])
.ret) .skip))
(.seq (.seq (.reg [xo 5 (.mov (ki 0))] [])
(.block 0 (.loop false (.seq (.seq (.reg [xm 11 5,xm 12 0,xo 13 (.len 1 (.t 12)),xo 14 (.bin .lss 0 (.t 11) (.t 13))] [11,12,13])
(.cond (.t 14) [14] .skip (.exit 0)))
(.seq (.block 1 (.seq (.dreg [xm 17 0,xm 18 5,yo 19 (.iaddr 1 (.t 17) (.t 18)) [0, 1],yo 20 (.load false 1 (.t 19)) [0, 1, 2],xm 21 1,xm 22 5,yo 23 (.iaddr 1 (.t 21) (.t 22)) [4, 5],yo 24 (.load false 1 (.t 23)) [4, 5, 6],yo 25 (.bin .neq 0 (.t 20) (.t 24)) (rng 0 8)] (rng 17 8))
(.cond (.t 25) [25] (.seq (.reg [xo 4 (.mov kf)] [])
.ret) .skip)))
(.reg [xm 15 5,xo 16 (.bin .add 0 (.t 15) (ki 1)),xm 5 16] [15,16]))))))
(.seq (.reg [xo 4 (.mov kt)] [])
.ret))))
/-- caesura/caesurakeep.Ints -/
def fn1023 : AFn := ⟨2, 26, c1023, [(.t 4)], 0⟩
theorem fn1023_body : fn1023.body = c1023 := rfl
theorem fn1023_res : fn1023.res = [(.t 4)] := rfl
theorem fn1023_keep : fn1023.keep = 0 := rfl
def c1236 : ACode :=
(.seq (.reg [xo 3 (.box (.t 0)),xo 6 (.mov kf)] [])
(.seq (.seq (.reg [xm 8 2,xo 9 (.bin .lss 0 (.t 8) (ki 0)),xm 10 9,xf 11 10 (.mov (.t 2)),xf 12 10 (.mov (.t 1)),xf 13 10 (.len 1 (.t 12)),xf 14 10 (.bin .gtr 0 (.t 11) (.t 13)),xo 15 (.pick (.t 10) kt (.t 14))] (rng 8 7))
(.cond (.t 15) [15] (.seq (.reg [xo 6 (.mov kf)] [])
.ret) .skip))
(.seq (.seq (.reg [xm 16 2,xo 17 (.bin .add 0 (.t 16) (ki 1)),xo 18 (.mov (ki 0))] [16])
(.block 0 (.loop false (.seq (.reg [xo 19 (.bin .lss 0 (.t 18) (.t 17))] [])
(.seq (.cond (.t 19) [19] .skip (.exit 0))
(.seq (.block 1 (.seq (.reg [xm 20 18,xm 7 20] [20])
(.seq (.dreg [xo 21 (.faddr 0 (.t 3)),yo 22 (.load false 1 (.t 21)) [0],xm 23 1,xm 24 7,yo 25 (.slc 1 (.t 23) none (some (.t 24)) none) [2, 3],yo 26 (.call 24 [(true, (.t 22)),(true, (.t 25))]) [0, 1, 2, 3, 4],ym 27 26 [0, 1, 2, 3, 4, 5],yt 28 27 (.faddr 1 (.t 3)) [0, 1, 2, 3, 4, 5, 6],yt 29 27 (.load false 1 (.t 28)) [0, 1, 2, 3, 4, 5, 6, 7],yt 30 27 (.mov (.t 1)) [0, 1, 2, 3, 4, 5, 6],yt 31 27 (.mov (.t 7)) [0, 1, 2, 3, 4, 5, 6],yt 32 27 (.mov (.t 2)) [0, 1, 2, 3, 4, 5, 6],yt 33 27 (.slc 1 (.t 30) (some (.t 31)) (some (.t 32)) none) [0, 1, 2, 3, 4, 5, 6, 9, 10, 11],yt 34 27 (.call 24 [(true, (.t 29)),(true, (.t 33))]) [0, 1, 2, 3, 4, 5, 6, 7, 8, 9, 10, 11, 12],yo 35 (.pick (.t 27) (.t 34) kf) (rng 0 14)] (rng 21 14))
(.cond (.t 35) [35] (.seq (.reg [xo 6 (.mov kt)] [])
.ret) .skip))))
(.reg [xo 36 (.bin .add 0 (.t 18) (ki 1)),xm 18 36] [36])))))))
(.seq (.reg [xo 6 (.mov kf)] [])
.ret))))
/-- caesura/means.Tells -/
def fn1236 : AFn := ⟨3, 37, c1236, [(.t 6)], 0⟩
theorem fn1236_body : fn1236.body = c1236 := rfl
theorem fn1236_res : fn1236.res = [(.t 6)] := rfl
theorem fn1236_keep : fn1236.keep = 0 := rfl
def c1237 : ACode :=
(.seq (.reg [xo 3 (.box (.t 0)),xo 6 (.mov kf)] [])
(.seq (.seq (.reg [xm 10 2,xo 11 (.bin .lss 0 (.t 10) (ki 0)),xm 12 11,xf 13 12 (.mov (.t 2)),xf 14 12 (.mov (.t 1)),xf 15 12 (.len 1 (.t 14)),xf 16 12 (.bin .gtr 0 (.t 13) (.t 15)),xo 17 (.pick (.t 12) kt (.t 16)),xm 18 17,xf 19 18 (.faddr 0 (.t 3)),xf 20 18 (.load false 1 (.t 19)),xf 21 18 (.call 48 [(true, (.t 20))]),xf 22 18 (.un .not (.t 21)),xo 23 (.pick (.t 18) kt (.t 22)),xm 24 23,xf 25 24 (.faddr 1 (.t 3)),xf 26 24 (.load false 1 (.t 25)),xf 27 24 (.call 48 [(true, (.t 26))]),xf 28 24 (.un .not (.t 27)),xo 29 (.pick (.t 24) kt (.t 28))] (rng 10 19))
(.cond (.t 29) [29] (.seq (.reg [xo 6 (.mov kf)] [])
.ret) .skip))
(.seq (.dreg [xo 30 (.faddr 0 (.t 3)),yo 31 (.load false 1 (.t 30)) [0],xm 32 1,xm 33 2,yo 34 (.slc 1 (.t 32) none (some (.t 33)) none) [2, 3],yo 35 (.call 49 [(true, (.t 31)),(true, (.t 34))]) [0, 1, 2, 3, 4],xo 36 (.faddr 0 (.t 3)),yo 37 (.load false 1 (.t 36)) [6],yo 38 (.len 1 (.t 37)) [6, 7],yo 39 (.bin .sub 0 (.t 38) (ki 1)) [6, 7, 8],yo 40 (.iaddr 1 (.t 35) (.t 39)) [0, 1, 2, 3, 4, 5, 6, 7, 8, 9],yo 41 (.load false 1 (.t 40)) [0, 1, 2, 3, 4, 5, 6, 7, 8, 9, 10],yo 42 (.iaddr 1 (.t 41) (ki 0)) [0, 1, 2, 3, 4, 5, 6, 7, 8, 9, 10, 11],yo 43 (.load false 1 (.t 42)) [0, 1, 2, 3, 4, 5, 6, 7, 8, 9, 10, 11, 12],ym 7 43 (rng 0 14)] (rng 30 14))
(.seq (.dreg [xo 44 (.faddr 1 (.t 3)),yo 45 (.load false 1 (.t 44)) [0],xm 46 1,xm 47 2,yo 48 (.slc 1 (.t 46) none (some (.t 47)) none) [2, 3],yo 49 (.call 49 [(true, (.t 45)),(true, (.t 48))]) [0, 1, 2, 3, 4],xo 50 (.faddr 1 (.t 3)),yo 51 (.load false 1 (.t 50)) [6],yo 52 (.len 1 (.t 51)) [6, 7],yo 53 (.bin .sub 0 (.t 52) (ki 1)) [6, 7, 8],yo 54 (.iaddr 1 (.t 49) (.t 53)) [0, 1, 2, 3, 4, 5, 6, 7, 8, 9],yo 55 (.load false 1 (.t 54)) [0, 1, 2, 3, 4, 5, 6, 7, 8, 9, 10],ym 8 55 (rng 0 12)] (rng 44 12))
(.seq (.seq (.reg [xo 9 (.mov (ki 0))] [])
(.block 0 (.loop false (.seq (.seq (.reg [xm 56 9,xm 57 2,xo 58 (.bin .leq 0 (.t 56) (.t 57))] [56,57])
(.cond (.t 58) [58] .skip (.exit 0)))
(.seq (.block 1 (.seq (.reg [xm 61 7,xm 62 9,xo 63 (.iaddr 1 (.t 61) (.t 62)),xo 64 (.load false 1 (.t 63)),xm 65 64,xt 66 65 (.mov (.t 8)),xt 67 65 (.mov (.t 9)),xt 68 65 (.iaddr 1 (.t 66) (.t 67)),xt 69 65 (.load false 1 (.t 68)),xt 70 65 (.mov (.t 2)),xt 71 65 (.iaddr 1 (.t 69) (.t 70)),xt 72 65 (.load false 1 (.t 71)),xo 73 (.pick (.t 65) (.t 72) kf)] (rng 61 12))
(.cond (.t 73) [73] (.seq (.reg [xo 6 (.mov kt)] [])
.ret) .skip)))
(.reg [xm 59 9,xo 60 (.bin .add 0 (.t 59) (ki 1)),xm 9 60] [59,60]))))))
(.seq (.reg [xo 6 (.mov kf)] [])
.ret))))))
/-- caesura/caesuraref17.Tells -/
def fn1237 : AFn := ⟨3, 74, c1237, [(.t 6)], 0⟩
theorem fn1237_body : fn1237.body = c1237 := rfl
theorem fn1237_res : fn1237.res = [(.t 6)] := rfl
theorem fn1237_keep : fn1237.keep = 0 := rfl
def c1238 : ACode :=
(.seq (.reg [xo 2 (.box (.t 0)),xo 3 (.box (.t 1)),xo 4 (.mov kf)] [])
(.seq (.seq (.reg [xo 8 (.faddr 0 (.t 2)),xo 9 (.load false 1 (.t 8)),xo 10 (.faddr 0 (.t 3)),xo 11 (.load false 1 (.t 10)),xo 12 (.call 50 [(true, (.t 9)),(true, (.t 11))]),xo 13 (.un .not (.t 12)),xm 14 13,xf 15 14 (.faddr 2 (.t 2)),xf 16 14 (.load false 1 (.t 15)),xf 17 14 (.faddr 2 (.t 3)),xf 18 14 (.load false 1 (.t 17)),xf 19 14 (.bin .neq 1 (.t 16) (.t 18)),xo 20 (.pick (.t 14) kt (.t 19)),xm 21 20,xf 22 21 (.faddr 1 (.t 2)),xf 23 21 (.load false 1 (.t 22)),xf 24 21 (.len 1 (.t 23)),xf 25 21 (.faddr 1 (.t 3)),xf 26 21 (.load false 1 (.t 25)),xf 27 21 (.len 1 (.t 26)),xf 28 21 (.bin .neq 0 (.t 24) (.t 27)),xo 29 (.pick (.t 21) kt (.t 28))] (rng 8 21))
(.cond (.t 29) [29] (.seq (.reg [xo 4 (.mov kf)] [])
.ret) .skip))
(.seq (.seq (.reg [xo 5 (.mov (ki 0))] [])
(.block 0 (.loop false (.seq (.seq (.reg [xm 30 5,xo 31 (.faddr 1 (.t 2)),xo 32 (.load false 1 (.t 31)),xo 33 (.len 1 (.t 32)),xo 34 (.bin .lss 0 (.t 30) (.t 33))] (rng 30 4))
(.cond (.t 34) [34] .skip (.exit 0)))
(.seq (.block 1 (.seq (.dreg [xo 37 (.faddr 1 (.t 2)),yo 38 (.load false 1 (.t 37)) [0],xm 39 5,yo 40 (.iaddr 3 (.t 38) (.t 39)) [0, 1, 2],yo 41 (.load true 3 (.t 40)) [0, 1, 2, 3],xo 42 (.faddr 1 (.t 3)),yo 43 (.load false 1 (.t 42)) [5],xm 44 5,yo 45 (.iaddr 3 (.t 43) (.t 44)) [5, 6, 7],yo 46 (.load true 3 (.t 45)) [5, 6, 7, 8],xo 6 (.new [(.list 5 []),(.list 5 []),(.bool false)]),xo 7 (.new [(.list 5 []),(.list 5 []),(.bool false)]),⟨none, none, .storew 3 (.t 6) (.t 41), [0, 1, 2, 3, 4, 10, 11]⟩,⟨none, none, .storew 3 (.t 7) (.t 46), [0, 1, 2, 3, 4, 5, 6, 7, 8, 9, 10, 11, 12]⟩] (rng 37 10))
(.seq (.reg [xo 47 (.faddr 2 (.t 6)),xo 48 (.load false 1 (.t 47)),xo 49 (.faddr 2 (.t 7)),xo 50 (.load false 1 (.t 49)),xo 51 (.bin .neq 1 (.t 48) (.t 50)),xm 52 51,xf 53 52 (.faddr 0 (.t 6)),xf 54 52 (.load false 1 (.t 53)),xf 55 52 (.faddr 0 (.t 7)),xf 56 52 (.load false 1 (.t 55)),xf 57 52 (.call 51 [(true, (.t 54)),(true, (.t 56))]),xf 58 52 (.un .not (.t 57)),xo 59 (.pick (.t 52) kt (.t 58)),xm 60 59,xf 61 60 (.faddr 1 (.t 6)),xf 62 60 (.load false 1 (.t 61)),xf 63 60 (.faddr 1 (.t 7)),xf 64 60 (.load false 1 (.t 63)),xf 65 60 (.call 51 [(true, (.t 62)),(true, (.t 64))]),xf 66 60 (.un .not (.t 65)),xo 67 (.pick (.t 60) kt (.t 66))] (rng 47 20))
(.cond (.t 67) [67] (.seq (.reg [xo 4 (.mov kf)] [])
.ret) .skip))))
(.reg [xm 35 5,xo 36 (.bin .add 0 (.t 35) (ki 1)),xm 5 36] [35,36]))))))
(.seq (.reg [xo 4 (.mov kt)] [])
.ret))))
/-- caesura/caesurakeep.Rules -/
def fn1238 : AFn := ⟨2, 68, c1238, [(.t 4)], 0⟩
theorem fn1238_body : fn1238.body = c1238 := rfl
theorem fn1238_res : fn1238.res = [(.t 4)] := rfl
theorem fn1238_keep : fn1238.keep = 0 := rfl
def c1239 : ACode :=
(.seq (.reg [xo 1 (.box (.t 0)),xo 2 (.mov kf)] [])
(.seq (.seq (.reg [xo 3 (.mov (ki 0))] [])
(.block 0 (.loop false (.seq (.seq (.reg [xm 7 3,xo 8 (.faddr 0 (.t 1)),xo 9 (.load false 1 (.t 8)),xo 10 (.len 1 (.t 9)),xo 11 (.bin .lss 0 (.t 7) (.t 10))] (rng 7 4))
(.cond (.t 11) [11] .skip (.exit 0)))
(.seq (.block 1 (.seq (.reg [xo 14 (.faddr 0 (.t 1)),xo 15 (.load false 1 (.t 14)),xm 16 3,xo 17 (.iaddr 2 (.t 15) (.t 16)),xo 18 (.load true 2 (.t 17)),⟨(some 4), none, .new [(.str ⟨#[]⟩),(.list 2 [])], []⟩,xn (.store false 2 (.t 4) (.t 18))] (rng 14 5))
(.seq (.seq (.reg [xo 19 (.faddr 0 (.t 4)),xo 20 (.load false 1 (.t 19)),xo 21 (.call 52 [(true, (.t 20))]),xo 22 (.un .not (.t 21)),xm 23 22,xf 24 23 (.faddr 1 (.t 4)),xf 25 23 (.load false 1 (.t 24)),xf 26 23 (.len 1 (.t 25)),xf 27 23 (.bin .eql 0 (.t 26) (ki 0)),xo 28 (.pick (.t 23) kt (.t 27)),xm 29 28,xf 30 29 (.faddr 1 (.t 4)),xf 31 29 (.load false 1 (.t 30)),xf 32 29 (.call 53 [(true, (.t 31))]),xf 33 29 (.un .not (.t 32)),xo 34 (.pick (.t 29) kt (.t 33))] (rng 19 15))
(.cond (.t 34) [34] (.seq (.reg [xo 2 (.mov kf)] [])
.ret) .skip))
(.seq (.reg [xo 5 (.mov (ki 0))] [])
(.block 2 (.loop false (.seq (.seq (.reg [xm 35 5,xm 36 3,xo 37 (.bin .lss 0 (.t 35) (.t 36))] [35,36])
(.cond (.t 37) [37] .skip (.exit 2)))
(.seq (.block 3 (.seq (.dreg [xo 40 (.faddr 0 (.t 1)),yo 41 (.load false 1 (.t 40)) [0],xm 42 5,yo 43 (.iaddr 2 (.t 41) (.t 42)) [0, 1, 2],yo 44 (.faddr 0 (.t 43)) [0, 1, 2, 3],yo 45 (.load false 1 (.t 44)) [0, 1, 2, 3, 4],xo 46 (.faddr 0 (.t 4)),yo 47 (.load false 1 (.t 46)) [6],yo 48 (.bin .eql 0 (.t 45) (.t 47)) (rng 0 8)] (rng 40 8))
(.cond (.t 48) [48] (.seq (.reg [xo 2 (.mov kf)] [])
.ret) .skip)))
(.reg [xm 38 5,xo 39 (.bin .add 0 (.t 38) (ki 1)),xm 5 39] [38,39])))))))))
(.reg [xm 12 3,xo 13 (.bin .add 0 (.t 12) (ki 1)),xm 3 13] [12,13]))))))
(.seq (.seq (.reg [xo 6 (.mov (ki 0))] [])
(.block 4 (.loop false (.seq (.seq (.reg [xm 49 6,xo 50 (.faddr 1 (.t 1)),xo 51 (.load false 1 (.t 50)),xo 52 (.len 1 (.t 51)),xo 53 (.bin .lss 0 (.t 49) (.t 52))] (rng 49 4))
(.cond (.t 53) [53] .skip (.exit 4)))
(.seq (.block 5 (.seq (.dreg [xo 56 (.faddr 1 (.t 1)),yo 57 (.load false 1 (.t 56)) [0],xm 58 6,yo 59 (.iaddr 3 (.t 57) (.t 58)) [0, 1, 2],yo 60 (.faddr 0 (.t 59)) [0, 1, 2, 3],yo 61 (.load false 1 (.t 60)) [0, 1, 2, 3, 4],xo 62 (.faddr 0 (.t 1)),yo 63 (.load false 1 (.t 62)) [6],yo 64 (.call 54 [(true, (.t 61)),(true, (.t 63))]) [0, 1, 2, 3, 4, 5, 6, 7],yo 65 (.un .not (.t 64)) [0, 1, 2, 3, 4, 5, 6, 7, 8],ym 66 65 [0, 1, 2, 3, 4, 5, 6, 7, 8, 9],yf 67 66 (.faddr 1 (.t 1)) [0, 1, 2, 3, 4, 5, 6, 7, 8, 9, 10],yf 68 66 (.load false 1 (.t 67)) [0, 1, 2, 3, 4, 5, 6, 7, 8, 9, 10, 11],yf 69 66 (.mov (.t 6)) [0, 1, 2, 3, 4, 5, 6, 7, 8, 9, 10],yf 70 66 (.iaddr 3 (.t 68) (.t 69)) [0, 1, 2, 3, 4, 5, 6, 7, 8, 9, 10, 11, 12, 13],yf 71 66 (.faddr 1 (.t 70)) [0, 1, 2, 3, 4, 5, 6, 7, 8, 9, 10, 11, 12, 13, 14],yf 72 66 (.load false 1 (.t 71)) [0, 1, 2, 3, 4, 5, 6, 7, 8, 9, 10, 11, 12, 13, 14, 15],yf 73 66 (.faddr 0 (.t 1)) [0, 1, 2, 3, 4, 5, 6, 7, 8, 9, 10],yf 74 66 (.load false 1 (.t 73)) [0, 1, 2, 3, 4, 5, 6, 7, 8, 9, 10, 17],yf 75 66 (.call 54 [(true, (.t 72)),(true, (.t 74))]) [0, 1, 2, 3, 4, 5, 6, 7, 8, 9, 10, 11, 12, 13, 14, 15, 16, 17, 18],yf 76 66 (.un .not (.t 75)) [0, 1, 2, 3, 4, 5, 6, 7, 8, 9, 10, 11, 12, 13, 14, 15, 16, 17, 18, 19],yo 77 (.pick (.t 66) kt (.t 76)) (rng 0 21)] (rng 56 21))
(.cond (.t 77) [77] (.seq (.reg [xo 2 (.mov kf)] [])
.ret) .skip)))
(.reg [xm 54 6,xo 55 (.bin .add 0 (.t 54) (ki 1)),xm 6 55] [54,55]))))))
(.seq (.reg [xo 78 (.faddr 1 (.t 1)),xo 79 (.load false 1 (.t 78)),xo 80 (.len 1 (.t 79)),xo 81 (.bin .leq 0 (.t 80) (ki 40)),xm 2 81] (rng 78 4))
.ret))))
/-- caesura/caesuraref16.Good -/
def fn1239 : AFn := ⟨1, 82, c1239, [(.t 2)], 0⟩
theorem fn1239_body : fn1239.body = c1239 := rfl
theorem fn1239_res : fn1239.res = [(.t 2)] := rfl
theorem fn1239_keep : fn1239.keep = 0 := rfl
def c66 : ACode :=
(.seq (.reg [xo 2 (.mov kf)] [])
(.seq (.reg [xm 3 0,xo 4 (.bin .geq 0 (.t 3) (ki 0)),xm 5 4,xt 6 5 (.mov (.t 0)),xt 7 5 (.bin .lss 0 (.t 6) (ki 55296)),xo 8 (.pick (.t 5) (.t 7) kf),xm 9 8,xf 10 9 (.mov (.t 0)),xf 11 9 (.bin .geq 0 (.t 10) (ki 57344)),xf 12 9 (.mov (.t 11)),xt 13 12 (.mov (.t 0)),xt 14 12 (.bin .leq 0 (.t 13) (ki 1114111)),xf 15 9 (.pick (.t 12) (.t 14) kf),xo 16 (.pick (.t 9) kt (.t 15)),xm 2 16] (rng 3 14))
.ret))
/-- caesura/caesuraref01.Is -/
def fn66 : AFn := ⟨1, 17, c66, [(.t 2)], 0⟩
theorem fn66_body : fn66.body = c66 := rfl
theorem fn66_res : fn66.res = [(.t 2)] := rfl
theorem fn66_keep : fn66.keep = 0 := rfl
def c31 : ACode :=
(.seq (.reg [xo 4 (.mov kf)] [])
(.seq (.seq (.reg [xm 6 0,xo 7 (.call 55 [(true, (.t 6))]),xo 8 (.un .not (.t 7))] [6,7])
(.cond (.t 8) [8] (.seq (.reg [xo 4 (.mov kf)] [])
.ret) .skip))
(.seq (.reg [xm 9 0,xm 10 1,xo 11 .mkm,xo 12 (.agg [(.list 5 []),(.list 1 []), .nilm] [(0, 1, (.t 9)),(1, 1, (.t 10)),(2, 1, (.t 11))]),xo 13 (.box (.t 12)),xm 5 13] (rng 9 5))
(.seq (.reg [xm 14 5,xm 15 0,xo 16 (.len 1 (.t 15)),xo 17 (.bin .sub 0 (.t 16) (ki 1)),xm 18 1,xo 19 (.len 1 (.t 18)),xo 20 (.call 56 [(false, (.t 14)),(true, (.t 17)),(true, (ki 0)),(true, (.t 19))]),xm 4 20] (rng 14 7))
.ret))))
/-- caesura/tree.Takes -/
def fn31 : AFn := ⟨2, 21, c31, [(.t 4)], 0⟩
theorem fn31_body : fn31.body = c31 := rfl
theorem fn31_res : fn31.res = [(.t 4)] := rfl
theorem fn31_keep : fn31.keep = 0 := rfl
def c22 : ACode :=
(.seq (.reg [xo 4 (.anil 78 5),xo 5 (.mov kf)] [])
(.seq (.seq (.reg [xm 6 0,xo 7 (.len 1 (.t 6)),xo 8 (.bin .eql 0 (.t 7) (ki 0)),xm 9 8,xf 10 9 (.mov (.t 0)),xf 11 9 (.call 57 [(true, (.t 10))]),xf 12 9 (.un .not (.t 11)),xo 13 (.pick (.t 9) kt (.t 12))] (rng 6 7))
(.cond (.t 13) [13] (.seq (.reg [xo 4 (.anil 78 5),xo 5 (.mov kf)] [])
.ret) .skip))
(.seq (.reg [xm 14 0,xo 15 (.call 58 [(true, (.t 14))]),xm 16 1,⟨(some 17), none, .agg [(.int .i64 0),(.int .i64 0),(.int .i64 0),(.list 2 []),(.str ⟨#[]⟩)] [(0, 1, (ki 2)),(3, 1, (.t 15)),(4, 1, (.t 16))], []⟩,⟨(some 18), none, .mkl 78 5 [(.int .i64 0),(.int .i64 0),(.int .i64 0),(.list 2 []),(.str ⟨#[]⟩)] 1 [(0, (.t 17))] false, []⟩,xm 4 18,xo 5 (.mov kt)] (rng 14 5))
.ret)))
/-- caesura/tree.One -/
def fn22 : AFn := ⟨2, 19, c22, [(.t 4),(.t 5)], 0⟩
theorem fn22_body : fn22.body = c22 := rfl
theorem fn22_res : fn22.res = [(.t 4), (.t 5)] := rfl
theorem fn22_keep : fn22.keep = 0 := rfl
def c21 : ACode :=
(.seq (.reg [xo 2 (.anil 78 5),xo 3 (.mov kf)] [])
(.seq (.seq (.reg [xm 4 0,xo 5 (.call 55 [(true, (.t 4))]),xo 6 (.un .not (.t 5)),xm 7 6,xf 8 7 (.mov (.t 0)),xf 9 7 (.len 1 (.t 8)),xf 10 7 (.bin .add 0 (.t 9) (ki 1)),xf 11 7 (.bin .gtr 0 (.t 10) (ki 40000)),xo 12 (.pick (.t 7) kt (.t 11))] (rng 4 8))
(.cond (.t 12) [12] (.seq (.reg [xo 2 (.anil 78 5),xo 3 (.mov kf)] [])
.ret) .skip))
(.seq (.reg [xm 13 0,xo 14 (.call 59 [(true, (.t 13)),(true, (ki 0))]),xm 15 0,xo 16 (.len 1 (.t 15)),xo 17 (.bin .sub 0 (.t 16) (ki 1)),⟨(some 18), none, .agg [(.int .i64 0),(.int .i64 0),(.int .i64 0),(.list 2 []),(.str ⟨#[]⟩)] [(0, 1, (ki 5)),(1, 1, (.t 17))], []⟩,⟨(some 19), none, .mkl 78 5 [(.int .i64 0),(.int .i64 0),(.int .i64 0),(.list 2 []),(.str ⟨#[]⟩)] 1 [(0, (.t 18))] false, []⟩,xo 20 (.app 78 5 64 (.t 14) (.t 19)),xm 2 20,xo 3 (.mov kt)] (rng 13 8))
.ret)))
/-- caesura/tree.Star -/
def fn21 : AFn := ⟨1, 21, c21, [(.t 2),(.t 3)], 0⟩
theorem fn21_body : fn21.body = c21 := rfl
theorem fn21_res : fn21.res = [(.t 2), (.t 3)] := rfl
theorem fn21_keep : fn21.keep = 0 := rfl
def c34 : ACode :=
(.seq (.reg [xo 2 (.anil 78 5)] [])
(.seq (.seq (.reg [xm 3 0,xo 4 (.bin .neq 0 (.t 3) (ki 1))] [3])
(.cond (.t 4) [4] (.reg [xo 0 (.mov (ki 0))] []) .skip))
(.seq (.reg [xm 5 0,⟨(some 6), none, .agg [(.int .i64 0),(.int .i64 0),(.int .i64 0),(.list 2 []),(.str ⟨#[]⟩)] [(0, 1, (.t 5))], []⟩,⟨(some 7), none, .mkl 78 5 [(.int .i64 0),(.int .i64 0),(.int .i64 0),(.list 2 []),(.str ⟨#[]⟩)] 1 [(0, (.t 6))] false, []⟩,xm 2 7] [5,6,7])
.ret)))
/-- caesura/tree.Leaf -/
def fn34 : AFn := ⟨1, 8, c34, [(.t 2)], 0⟩
theorem fn34_body : fn34.body = c34 := rfl
theorem fn34_res : fn34.res = [(.t 2)] := rfl
theorem fn34_keep : fn34.keep = 0 := rfl
def c1240 : ACode :=
(.seq (.reg [xo 1 (.box (.t 0)),xo 2 (.mov kf)] [])
(.seq (.seq (.reg [xo 5 (.faddr 0 (.t 1)),xo 6 (.load false 1 (.t 5)),xo 7 (.call 60 [(true, (.t 6))]),xm 8 7,xf 9 8 (.faddr 1 (.t 1)),xf 10 8 (.load false 1 (.t 9)),xf 11 8 (.len 1 (.t 10)),xf 12 8 (.bin .gtr 0 (.t 11) (ki 60)),xo 13 (.pick (.t 8) kt (.t 12))] (rng 5 8))
(.cond (.t 13) [13] (.seq (.reg [xo 2 (.mov kt)] [])
.ret) .skip))
(.seq (.reg [xo 3 (.mov (ki 0))] [])
(.seq (.seq (.reg [xo 4 (.mov (ki 0))] [])
(.block 0 (.loop false (.seq (.seq (.reg [xm 14 4,xo 15 (.faddr 1 (.t 1)),xo 16 (.load false 1 (.t 15)),xo 17 (.len 1 (.t 16)),xo 18 (.bin .lss 0 (.t 14) (.t 17))] (rng 14 4))
(.cond (.t 18) [18] .skip (.exit 0)))
(.seq (.block 1 (.seq (.seq (.reg [xo 21 (.faddr 1 (.t 1)),xo 22 (.load false 1 (.t 21)),xm 23 4,xo 24 (.iaddr 3 (.t 22) (.t 23)),xo 25 (.faddr 0 (.t 24)),xo 26 (.load false 1 (.t 25)),xo 27 (.call 61 [(true, (.t 26))]),xm 28 27,xf 29 28 (.faddr 1 (.t 1)),xf 30 28 (.load false 1 (.t 29)),xf 31 28 (.mov (.t 4)),xf 32 28 (.iaddr 3 (.t 30) (.t 31)),xf 33 28 (.faddr 1 (.t 32)),xf 34 28 (.load false 1 (.t 33)),xf 35 28 (.call 61 [(true, (.t 34))]),xo 36 (.pick (.t 28) kt (.t 35))] (rng 21 15))
(.cond (.t 36) [36] (.seq (.reg [xo 2 (.mov kt)] [])
.ret) .skip))
(.dreg [xm 37 3,xo 38 (.faddr 1 (.t 1)),yo 39 (.load false 1 (.t 38)) [1],xm 40 4,yo 41 (.iaddr 3 (.t 39) (.t 40)) [1, 2, 3],yo 42 (.faddr 0 (.t 41)) [1, 2, 3, 4],yo 43 (.load false 1 (.t 42)) [1, 2, 3, 4, 5],yo 44 (.len 1 (.t 43)) [1, 2, 3, 4, 5, 6],xo 45 (.faddr 1 (.t 1)),yo 46 (.load false 1 (.t 45)) [8],xm 47 4,yo 48 (.iaddr 3 (.t 46) (.t 47)) [8, 9, 10],yo 49 (.faddr 1 (.t 48)) [8, 9, 10, 11],yo 50 (.load false 1 (.t 49)) [8, 9, 10, 11, 12],yo 51 (.len 1 (.t 50)) [8, 9, 10, 11, 12, 13],yo 52 (.bin .add 0 (.t 44) (.t 51)) [1, 2, 3, 4, 5, 6, 7, 8, 9, 10, 11, 12, 13, 14],yo 53 (.bin .add 0 (.t 37) (.t 52)) [0, 1, 2, 3, 4, 5, 6, 7, 8, 9, 10, 11, 12, 13, 14, 15],ym 3 53 (rng 0 17)] (rng 37 17))))
(.reg [xm 19 4,xo 20 (.bin .add 0 (.t 19) (ki 1)),xm 4 20] [19,20]))))))
(.seq (.reg [xm 54 3,xo 55 (.bin .gtr 0 (.t 54) (ki 1500)),xm 2 55] [54,55])
.ret)))))
/-- caesura/caesurakeep.LargeRules -/
def fn1240 : AFn := ⟨1, 56, c1240, [(.t 2)], 0⟩
theorem fn1240_body : fn1240.body = c1240 := rfl
theorem fn1240_res : fn1240.res = [(.t 2)] := rfl
theorem fn1240_keep : fn1240.keep = 0 := rfl
def c1241 : ACode :=
(.seq (.reg [xo 1 (.box (.t 0)),xo 2 (.mov (ki 0))] [])
(.seq (.reg [xo 3 (.mov (ki 0))] [])
(.seq (.seq (.reg [xo 4 (.mov (ki 0))] [])
(.block 0 (.loop false (.seq (.seq (.reg [xm 5 4,xo 6 (.faddr 1 (.t 1)),xo 7 (.load false 1 (.t 6)),xo 8 (.len 1 (.t 7)),xo 9 (.bin .lss 0 (.t 5) (.t 8))] (rng 5 4))
(.cond (.t 9) [9] .skip (.exit 0)))
(.seq (.block 1 (.dreg [xm 12 3,xo 13 (.faddr 1 (.t 1)),yo 14 (.load false 1 (.t 13)) [1],xm 15 4,yo 16 (.iaddr 3 (.t 14) (.t 15)) [1, 2, 3],yo 17 (.faddr 0 (.t 16)) [1, 2, 3, 4],yo 18 (.load false 1 (.t 17)) [1, 2, 3, 4, 5],yo 19 (.len 1 (.t 18)) [1, 2, 3, 4, 5, 6],xo 20 (.faddr 1 (.t 1)),yo 21 (.load false 1 (.t 20)) [8],xm 22 4,yo 23 (.iaddr 3 (.t 21) (.t 22)) [8, 9, 10],yo 24 (.faddr 1 (.t 23)) [8, 9, 10, 11],yo 25 (.load false 1 (.t 24)) [8, 9, 10, 11, 12],yo 26 (.len 1 (.t 25)) [8, 9, 10, 11, 12, 13],yo 27 (.bin .add 0 (.t 19) (.t 26)) [1, 2, 3, 4, 5, 6, 7, 8, 9, 10, 11, 12, 13, 14],yo 28 (.bin .add 0 (.t 12) (.t 27)) [0, 1, 2, 3, 4, 5, 6, 7, 8, 9, 10, 11, 12, 13, 14, 15],ym 3 28 (rng 0 17)] (rng 12 17)))
(.reg [xm 10 4,xo 11 (.bin .add 0 (.t 10) (ki 1)),xm 4 11] [10,11]))))))
(.seq (.reg [xm 29 3,xm 2 29] [29])
.ret))))
/-- caesura/caesuraref16.Nodes -/
def fn1241 : AFn := ⟨1, 30, c1241, [(.t 2)], 0⟩
theorem fn1241_body : fn1241.body = c1241 := rfl
theorem fn1241_res : fn1241.res = [(.t 2)] := rfl
theorem fn1241_keep : fn1241.keep = 0 := rfl
def c59 : ACode :=
(.seq (.reg [xo 4 (.mov kf)] [])
(.seq (.seq (.reg [xo 5 (.mov (ki 0))] [])
(.block 0 (.loop false (.seq (.seq (.reg [xm 6 5,xm 7 0,xo 8 (.len 1 (.t 7)),xo 9 (.bin .lss 0 (.t 6) (.t 8))] [6,7,8])
(.cond (.t 9) [9] .skip (.exit 0)))
(.seq (.block 1 (.seq (.reg [xm 12 0,xm 13 5,xo 14 (.iaddr 2 (.t 12) (.t 13)),xo 15 (.faddr 0 (.t 14)),xo 16 (.load false 1 (.t 15)),xm 17 1,xo 18 (.bin .leq 0 (.t 16) (.t 17)),xm 19 18,xt 20 19 (.mov (.t 1)),xt 21 19 (.mov (.t 0)),xt 22 19 (.mov (.t 5)),xt 23 19 (.iaddr 2 (.t 21) (.t 22)),xt 24 19 (.faddr 1 (.t 23)),xt 25 19 (.load false 1 (.t 24)),xt 26 19 (.bin .leq 0 (.t 20) (.t 25)),xo 27 (.pick (.t 19) (.t 26) kf)] (rng 12 15))
(.cond (.t 27) [27] (.seq (.reg [xm 28 1,xo 29 (.call 23 [(true, (.t 28))]),xm 30 29,xt 31 30 (.mov (.t 0)),xt 32 30 (.call 53 [(true, (.t 31))]),xo 33 (.pick (.t 30) (.t 32) kf),xm 4 33] (rng 28 6))
.ret) .skip)))
(.reg [xm 10 5,xo 11 (.bin .add 0 (.t 10) (ki 1)),xm 5 11] [10,11]))))))
(.seq (.reg [xo 4 (.mov kf)] [])
.ret)))
/-- caesura/caesuraref03.Has -/
def fn59 : AFn := ⟨2, 34, c59, [(.t 4)], 0⟩
theorem fn59_body : fn59.body = c59 := rfl
theorem fn59_res : fn59.res = [(.t 4)] := rfl
theorem fn59_keep : fn59.keep = 0 := rfl
def c1251 : ACode :=
(.seq (.reg [xo 2 (.new [(.list 2 []),(.list 3 []),(.bool false)]),xo 3 (.new [(.int .i64 0),(.int .i64 0)])] [])
(.seq (.reg [xo 4 (.new [(.list 2 []),(.list 3 []),(.bool false)])] [])
(.seq (.reg [xm 6 0,xo 7 (.mkf 76 [(.t 4)]),xo 8 (.call 75 [(true, (.t 6)),(false, (.t 7))]),xo 5 (.new [(.int .i64 0),(.int .i64 0)]),xn (.store false 2 (.t 5) (.t 8))] [6,7,8])
(.seq (.dreg [xo 9 (.load true 3 (.t 4)),xo 10 (.load true 2 (.t 5)),⟨none, none, .store false 3 (.t 2) (.t 9), [0]⟩,⟨none, none, .store false 2 (.t 3) (.t 10), [0, 1, 2]⟩] [9,10])
.ret))))
/-- caesura/parse.Rules -/
def fn1251 : AFn := ⟨1, 11, c1251, [(.c 2 true 3),(.c 3 true 2)], 0⟩
theorem fn1251_body : fn1251.body = c1251 := rfl
theorem fn1251_res : fn1251.res = [(.c 2 true 3), (.c 3 true 2)] := rfl
theorem fn1251_keep : fn1251.keep = 0 := rfl
def c1252 : ACode :=
(.seq (.reg [xo 2 (.anil 96 2)] [])
(.seq (.reg [xo 3 (.anil 96 2)] [])
(.seq (.seq (.reg [xo 4 (.mov (ki 0))] [])
(.block 0 (.loop false (.seq (.seq (.reg [xm 5 4,xm 6 0,xo 7 (.len 1 (.t 6)),xo 8 (.bin .lss 0 (.t 5) (.t 7))] [5,6,7])
(.cond (.t 8) [8] .skip (.exit 0)))
(.seq (.block 1 (.dreg [xm 11 3,xm 12 0,xm 13 4,yo 14 (.iaddr 2 (.t 12) (.t 13)) [1, 2],yo 15 (.faddr 0 (.t 14)) [1, 2, 3],yo 16 (.load false 1 (.t 15)) [1, 2, 3, 4],xo 17 (.mkl 52 2 [(.int .i64 0),(.int .i64 0)] 0 [] false),xm 18 0,xm 19 4,yo 20 (.iaddr 2 (.t 18) (.t 19)) [7, 8],yo 21 (.faddr 1 (.t 20)) [7, 8, 9],yo 22 (.load false 1 (.t 21)) [7, 8, 9, 10],yo 23 (.app 52 2 16 (.t 17) (.t 22)) [6, 7, 8, 9, 10, 11],⟨(some 24), none, .agg [(.str ⟨#[]⟩),(.list 2 [])] [(0, 1, (.t 16)),(1, 1, (.t 23))], [1, 2, 3, 4, 5, 6, 7, 8, 9, 10, 11, 12]⟩,⟨(some 25), none, .mkl 96 2 [(.str ⟨#[]⟩),(.list 2 [])] 1 [(0, (.t 24))] false, [1, 2, 3, 4, 5, 6, 7, 8, 9, 10, 11, 12, 13]⟩,yo 26 (.app 96 2 40 (.t 11) (.t 25)) [0, 1, 2, 3, 4, 5, 6, 7, 8, 9, 10, 11, 12, 13, 14],ym 3 26 (rng 0 16)] (rng 11 16)))
(.reg [xm 9 4,xo 10 (.bin .add 0 (.t 9) (ki 1)),xm 4 10] [9,10]))))))
(.seq (.reg [xm 27 3,xm 2 27] [27])
.ret))))
/-- caesura/caesurakeep.OwnNamed -/
def fn1252 : AFn := ⟨1, 28, c1252, [(.t 2)], 0⟩
theorem fn1252_body : fn1252.body = c1252 := rfl
theorem fn1252_res : fn1252.res = [(.t 2)] := rfl
theorem fn1252_keep : fn1252.keep = 0 := rfl
def c18 : ACode :=
(.seq (.reg [xo 2 (.anil 78 5)] [])
(.seq (.reg [xo 3 (.anil 78 5)] [])
(.seq (.seq (.reg [xo 4 (.mov (ki 0))] [])
(.block 0 (.loop false (.seq (.seq (.reg [xm 6 4,xm 7 0,xo 8 (.len 1 (.t 7)),xo 9 (.bin .lss 0 (.t 6) (.t 8))] [6,7,8])
(.cond (.t 9) [9] .skip (.exit 0)))
(.seq (.block 1 (.seq (.reg [xm 12 0,xm 13 4,xo 14 (.iaddr 5 (.t 12) (.t 13)),xo 15 (.load true 5 (.t 14)),⟨(some 5), none, .new [(.int .i64 0),(.int .i64 0),(.int .i64 0),(.list 2 []),(.str ⟨#[]⟩)], []⟩,xn (.store false 5 (.t 5) (.t 15))] (rng 12 4))
(.seq (.reg [xo 16 (.mkl 52 2 [(.int .i64 0),(.int .i64 0)] 0 [] false),xo 17 (.faddr 3 (.t 5)),xo 18 (.load false 1 (.t 17)),xo 19 (.app 52 2 16 (.t 16) (.t 18)),xo 20 (.faddr 3 (.t 5)),xn (.store false 1 (.t 20) (.t 19))] (rng 16 5))
(.reg [xm 21 3,xo 22 (.load true 5 (.t 5)),⟨(some 23), none, .mkl 78 5 [(.int .i64 0),(.int .i64 0),(.int .i64 0),(.list 2 []),(.str ⟨#[]⟩)] 1 [(0, (.t 22))] false, []⟩,xo 24 (.app 78 5 64 (.t 21) (.t 23)),xm 3 24] (rng 21 4)))))
(.reg [xm 10 4,xo 11 (.bin .add 0 (.t 10) (ki 1)),xm 4 11] [10,11]))))))
(.seq (.reg [xm 25 3,xm 2 25] [25])
.ret))))
/-- caesura/caesurakeep.OwnTree -/
def fn18 : AFn := ⟨1, 26, c18, [(.t 2)], 0⟩
theorem fn18_body : fn18.body = c18 := rfl
theorem fn18_res : fn18.res = [(.t 2)] := rfl
theorem fn18_keep : fn18.keep = 0 := rfl
def c1253 : ACode :=
(.seq (.reg [xo 2 (.box (.t 0)),xo 4 (.mov (.k .nilp)),xo 5 (.mov kf)] [])
(.seq (.reg [xo 7 (.load true 3 (.t 2)),xo 8 (.call 62 [(true, (.t 7))]),xm 9 8,xt 10 9 (.mov (.t 1)),xt 11 9 (.call 78 [(true, (.t 10)),(false, (.k (.func 79 [])))]),xt 12 9 (.un .not (.t 11)),xo 13 (.pick (.t 9) (.t 12) kf),xm 6 13] (rng 7 7))
(.seq (.reg [xo 14 (.load true 3 (.t 2)),xm 15 1,xo 16 .mkm,xo 17 (.agg [(.list 2 []),(.list 3 []),(.bool false),(.list 1 []), .nilm] [(0, 3, (.t 14)),(3, 1, (.t 15)),(4, 1, (.t 16))]),xo 18 (.box (.t 17)),xm 19 6,xm 4 18,xm 5 19] (rng 14 6))
.ret)))
/-- caesura/means.made -/
def fn1253 : AFn := ⟨2, 20, c1253, [(.t 4),(.t 5)], 2⟩
theorem fn1253_body : fn1253.body = c1253 := rfl
theorem fn1253_res : fn1253.res = [(.t 4), (.t 5)] := rfl
theorem fn1253_keep : fn1253.keep = 2 := rfl
def c1254 : ACode :=
(.seq (.reg [xo 4 (.mov kf)] [])
(.seq (.seq (.reg [xm 7 0,xo 8 (.nilck (.t 7)),xo 9 (.faddr 0 (.t 8)),xo 10 (.faddr 1 (.t 9)),xo 11 (.load false 1 (.t 10)),xo 12 (.len 1 (.t 11)),xo 13 (.mov (ki 0))] (rng 7 4))
(.block 0 (.loop false (.seq (.reg [xo 14 (.bin .lss 0 (.t 13) (.t 12))] [])
(.seq (.cond (.t 14) [14] .skip (.exit 0))
(.seq (.block 1 (.seq (.reg [xm 15 13,xo 16 (.iaddr 3 (.t 11) (.t 13)),xo 17 (.load true 3 (.t 16)),xo 6 (.new [(.list 5 []),(.list 5 []),(.bool false)]),xm 5 15,xn (.store false 3 (.t 6) (.t 17))] [15,16,17])
(.seq (.reg [xm 18 0,xm 19 5,xm 20 1,xo 21 (.call 81 [(false, (.t 18)),(true, (.t 19)),(true, (.t 20))])] [18,19,20])
(.cond (.t 21) [21] (.seq (.reg [xo 22 (.faddr 2 (.t 6)),xo 23 (.load false 1 (.t 22)),xm 4 23] [22,23])
.ret) .skip))))
(.reg [xo 24 (.bin .add 0 (.t 13) (ki 1)),xm 13 24] [24])))))))
(.seq (.reg [xm 25 0,xo 26 (.nilck (.t 25)),xo 27 (.faddr 0 (.t 26)),xo 28 (.faddr 2 (.t 27)),xo 29 (.load false 1 (.t 28)),xm 4 29] (rng 25 5))
.ret)))
/-- (*caesura/means.asker).breaks -/
def fn1254 : AFn := ⟨2, 30, c1254, [(.t 4)], 0⟩
theorem fn1254_body : fn1254.body = c1254 := rfl
theorem fn1254_res : fn1254.res = [(.t 4)] := rfl
theorem fn1254_keep : fn1254.keep = 0 := rfl
def c30 : ACode :=
(.seq (.reg [xo 2 (.mov kf)] [])
(.seq (.seq (.reg [xm 4 0,xo 5 (.len 1 (.t 4)),xo 6 (.bin .lss 0 (.t 5) (ki 1)),xm 7 6,xf 8 7 (.mov (.t 0)),xf 9 7 (.len 1 (.t 8)),xf 10 7 (.bin .gtr 0 (.t 9) (ki 40000)),xo 11 (.pick (.t 7) kt (.t 10))] (rng 4 7))
(.cond (.t 11) [11] (.seq (.reg [xo 2 (.mov kf)] [])
.ret) .skip))
(.seq (.reg [xm 12 0,xo 13 (.call 82 [(true, (.t 12))]),xm 3 13] [12,13])
(.seq (.reg [xm 14 3,xo 15 (.len 1 (.t 14)),xm 16 0,xo 17 (.len 1 (.t 16)),xo 18 (.bin .eql 0 (.t 15) (.t 17)),xm 19 18,xt 20 19 (.mov (.t 3)),xt 21 19 (.mov (.t 0)),xt 22 19 (.len 1 (.t 21)),xt 23 19 (.bin .sub 0 (.t 22) (ki 1)),xt 24 19 (.iaddr 1 (.t 20) (.t 23)),xt 25 19 (.load false 1 (.t 24)),xt 26 19 (.bin .eql 0 (.t 25) (ki 0)),xo 27 (.pick (.t 19) (.t 26) kf),xm 2 27] (rng 14 14))
.ret))))
/-- caesura/caesuraref11.Good -/
def fn30 : AFn := ⟨1, 28, c30, [(.t 2)], 0⟩
theorem fn30_body : fn30.body = c30 := rfl
theorem fn30_res : fn30.res = [(.t 2)] := rfl
theorem fn30_keep : fn30.keep = 0 := rfl
def c73 : ACode :=
(.seq (.reg [xo 4 (.anil 90 1)] [])
(.seq (.reg [xm 15 1,xo 16 (.len 1 (.t 15)),xo 17 (.bin .add 0 (.t 16) (ki 1)),xm 5 17] [15,16,17])
(.seq (.reg [xo 6 (.anil 90 1)] [])
(.seq (.seq (.reg [xo 7 (.mov (ki 0))] [])
(.block 0 (.loop true (.seq (.seq (.reg [xm 18 7,xm 19 0,xo 20 (.len 1 (.t 19)),xo 21 (.bin .lss 0 (.t 18) (.t 20))] [18,19,20])
(.cond (.t 21) [21] .skip (.exit 0)))
(.seq (.block 1 (.seq (.reg [xm 24 5,xo 25 (.mks 89 1 24 [(.list 1 [])] (.t 24)),xm 8 25] [24,25])
(.seq (.seq (.reg [xo 9 (.mov (ki 0))] [])
(.block 2 (.loop true (.seq (.seq (.reg [xm 26 9,xm 27 5,xo 28 (.bin .lss 0 (.t 26) (.t 27))] [26,27])
(.cond (.t 28) [28] .skip (.exit 2)))
(.seq (.block 3 (.seq (.reg [xm 31 8,xm 32 9,xm 33 5,xo 34 (.mks 4 1 1 [(.bool false)] (.t 33)),xo 35 (.iaddr 1 (.t 31) (.t 32)),xn (.store true 1 (.t 35) (.t 34))] (rng 31 5))
(.seq (.reg [xm 36 0,xm 37 7,xo 38 (.iaddr 5 (.t 36) (.t 37)),xo 39 (.faddr 0 (.t 38)),xo 40 (.load false 1 (.t 39))] (rng 36 4))
(.block 4 (.seq (.reg [xo 42 (.bin .eql 0 (.t 40) (ki 1)),xm 41 42] [42])
(.cond (.t 41) [41] (.reg [xm 43 8,xm 44 9,xo 45 (.iaddr 1 (.t 43) (.t 44)),xo 46 (.load false 1 (.t 45)),xm 47 9,xo 48 (.iaddr 1 (.t 46) (.t 47)),xn (.store true 1 (.t 48) kt)] (rng 43 6)) (.seq (.reg [xo 50 (.bin .eql 0 (.t 40) (ki 2)),xm 49 50] [50])
(.cond (.t 49) [49] (.seq (.reg [xm 51 9,xm 52 1,xo 53 (.len 1 (.t 52)),xo 54 (.bin .lss 0 (.t 51) (.t 53))] [51,52,53])
(.cond (.t 54) [54] (.dreg [xm 55 8,xm 56 9,yo 57 (.iaddr 1 (.t 55) (.t 56)) [0, 1],yo 58 (.load false 1 (.t 57)) [0, 1, 2],xm 59 9,yo 60 (.bin .add 0 (.t 59) (ki 1)) [4],xm 61 0,xm 62 7,yo 63 (.iaddr 5 (.t 61) (.t 62)) [6, 7],yo 64 (.faddr 3 (.t 63)) [6, 7, 8],yo 65 (.load false 1 (.t 64)) [6, 7, 8, 9],xm 66 1,xm 67 9,yo 68 (.iaddr 1 (.t 66) (.t 67)) [11, 12],yo 69 (.load false 1 (.t 68)) [11, 12, 13],yo 70 (.call 42 [(true, (.t 65)),(true, (.t 69))]) [6, 7, 8, 9, 10, 11, 12, 13, 14],yo 71 (.iaddr 1 (.t 58) (.t 60)) [0, 1, 2, 3, 4, 5, 6, 7, 8, 9, 10, 11, 12, 13, 14, 15],⟨none, none, .store true 1 (.t 71) (.t 70), [0, 1, 2, 3, 4, 5, 6, 7, 8, 9, 10, 11, 12, 13, 14, 15, 16]⟩] (rng 55 17)) .skip)) (.seq (.reg [xo 73 (.bin .eql 0 (.t 40) (ki 3)),xm 72 73] [73])
(.cond (.t 72) [72] (.seq (.reg [xm 74 9,xm 10 74] [74])
(.block 5 (.loop true (.seq (.seq (.reg [xm 75 10,xm 76 5,xo 77 (.bin .lss 0 (.t 75) (.t 76))] [75,76])
(.cond (.t 77) [77] .skip (.exit 5)))
(.seq (.block 6 (.seq (.reg [xm 80 10,xm 11 80] [80])
(.block 7 (.loop true (.seq (.seq (.reg [xm 81 11,xm 82 5,xo 83 (.bin .lss 0 (.t 81) (.t 82)),xm 84 83,xt 85 84 (.mov (.t 6)),xt 86 84 (.mov (.t 0)),xt 87 84 (.mov (.t 7)),xt 88 84 (.iaddr 5 (.t 86) (.t 87)),xt 89 84 (.faddr 1 (.t 88)),xt 90 84 (.load false 1 (.t 89)),xt 91 84 (.iaddr 1 (.t 85) (.t 90)),xt 92 84 (.load false 1 (.t 91)),xt 93 84 (.mov (.t 9)),xt 94 84 (.iaddr 1 (.t 92) (.t 93)),xt 95 84 (.load false 1 (.t 94)),xt 96 84 (.mov (.t 10)),xt 97 84 (.iaddr 1 (.t 95) (.t 96)),xt 98 84 (.load false 1 (.t 97)),xo 99 (.pick (.t 84) (.t 98) kf)] (rng 81 18))
(.cond (.t 99) [99] .skip (.exit 7)))
(.seq (.block 8 (.dreg [xm 102 8,xm 103 9,yo 104 (.iaddr 1 (.t 102) (.t 103)) [0, 1],yo 105 (.load false 1 (.t 104)) [0, 1, 2],xm 106 11,xm 107 8,xm 108 9,yo 109 (.iaddr 1 (.t 107) (.t 108)) [5, 6],yo 110 (.load false 1 (.t 109)) [5, 6, 7],xm 111 11,yo 112 (.iaddr 1 (.t 110) (.t 111)) [5, 6, 7, 8, 9],yo 113 (.load false 1 (.t 112)) [5, 6, 7, 8, 9, 10],ym 114 113 [5, 6, 7, 8, 9, 10, 11],yf 115 114 (.mov (.t 6)) [5, 6, 7, 8, 9, 10, 11, 12],yf 116 114 (.mov (.t 0)) [5, 6, 7, 8, 9, 10, 11, 12],yf 117 114 (.mov (.t 7)) [5, 6, 7, 8, 9, 10, 11, 12],yf 118 114 (.iaddr 5 (.t 116) (.t 117)) [5, 6, 7, 8, 9, 10, 11, 12, 14, 15],yf 119 114 (.faddr 2 (.t 118)) [5, 6, 7, 8, 9, 10, 11, 12, 14, 15, 16],yf 120 114 (.load false 1 (.t 119)) [5, 6, 7, 8, 9, 10, 11, 12, 14, 15, 16, 17],yf 121 114 (.iaddr 1 (.t 115) (.t 120)) [5, 6, 7, 8, 9, 10, 11, 12, 13, 14, 15, 16, 17, 18],yf 122 114 (.load false 1 (.t 121)) [5, 6, 7, 8, 9, 10, 11, 12, 13, 14, 15, 16, 17, 18, 19],yf 123 114 (.mov (.t 10)) [5, 6, 7, 8, 9, 10, 11, 12],yf 124 114 (.iaddr 1 (.t 122) (.t 123)) [5, 6, 7, 8, 9, 10, 11, 12, 13, 14, 15, 16, 17, 18, 19, 20, 21],yf 125 114 (.load false 1 (.t 124)) [5, 6, 7, 8, 9, 10, 11, 12, 13, 14, 15, 16, 17, 18, 19, 20, 21, 22],yf 126 114 (.mov (.t 11)) [5, 6, 7, 8, 9, 10, 11, 12],yf 127 114 (.iaddr 1 (.t 125) (.t 126)) [5, 6, 7, 8, 9, 10, 11, 12, 13, 14, 15, 16, 17, 18, 19, 20, 21, 22, 23, 24],yf 128 114 (.load false 1 (.t 127)) [5, 6, 7, 8, 9, 10, 11, 12, 13, 14, 15, 16, 17, 18, 19, 20, 21, 22, 23, 24, 25],yo 129 (.pick (.t 114) kt (.t 128)) [5, 6, 7, 8, 9, 10, 11, 12, 13, 14, 15, 16, 17, 18, 19, 20, 21, 22, 23, 24, 25, 26],yo 130 (.iaddr 1 (.t 105) (.t 106)) [0, 1, 2, 3, 4, 5, 6, 7, 8, 9, 10, 11, 12, 13, 14, 15, 16, 17, 18, 19, 20, 21, 22, 23, 24, 25, 26, 27],⟨none, none, .store true 1 (.t 130) (.t 129), [0, 1, 2, 3, 4, 5, 6, 7, 8, 9, 10, 11, 12, 13, 14, 15, 16, 17, 18, 19, 20, 21, 22, 23, 24, 25, 26, 27, 28]⟩] (rng 102 29)))
(.reg [xm 100 11,xo 101 (.bin .add 0 (.t 100) (ki 1)),xm 11 101] [100,101])))))))
(.reg [xm 78 10,xo 79 (.bin .add 0 (.t 78) (ki 1)),xm 10 79] [78,79])))))) (.seq (.reg [xo 132 (.bin .eql 0 (.t 40) (ki 4)),xm 131 132] [132])
(.cond (.t 131) [131] (.seq (.reg [xm 133 9,xm 12 133] [133])
(.block 9 (.loop true (.seq (.seq (.reg [xm 134 12,xm 135 5,xo 136 (.bin .lss 0 (.t 134) (.t 135))] [134,135])
(.cond (.t 136) [136] .skip (.exit 9)))
(.seq (.block 10 (.dreg [xm 139 8,xm 140 9,yo 141 (.iaddr 1 (.t 139) (.t 140)) [0, 1],yo 142 (.load false 1 (.t 141)) [0, 1, 2],xm 143 12,xm 144 6,xm 145 0,xm 146 7,yo 147 (.iaddr 5 (.t 145) (.t 146)) [6, 7],yo 148 (.faddr 1 (.t 147)) [6, 7, 8],yo 149 (.load false 1 (.t 148)) [6, 7, 8, 9],yo 150 (.iaddr 1 (.t 144) (.t 149)) [5, 6, 7, 8, 9, 10],yo 151 (.load false 1 (.t 150)) [5, 6, 7, 8, 9, 10, 11],xm 152 9,yo 153 (.iaddr 1 (.t 151) (.t 152)) [5, 6, 7, 8, 9, 10, 11, 12, 13],yo 154 (.load false 1 (.t 153)) [5, 6, 7, 8, 9, 10, 11, 12, 13, 14],xm 155 12,yo 156 (.iaddr 1 (.t 154) (.t 155)) [5, 6, 7, 8, 9, 10, 11, 12, 13, 14, 15, 16],yo 157 (.load false 1 (.t 156)) [5, 6, 7, 8, 9, 10, 11, 12, 13, 14, 15, 16, 17],ym 158 157 [5, 6, 7, 8, 9, 10, 11, 12, 13, 14, 15, 16, 17, 18],yf 159 158 (.mov (.t 6)) [5, 6, 7, 8, 9, 10, 11, 12, 13, 14, 15, 16, 17, 18, 19],yf 160 158 (.mov (.t 0)) [5, 6, 7, 8, 9, 10, 11, 12, 13, 14, 15, 16, 17, 18, 19],yf 161 158 (.mov (.t 7)) [5, 6, 7, 8, 9, 10, 11, 12, 13, 14, 15, 16, 17, 18, 19],yf 162 158 (.iaddr 5 (.t 160) (.t 161)) [5, 6, 7, 8, 9, 10, 11, 12, 13, 14, 15, 16, 17, 18, 19, 21, 22],yf 163 158 (.faddr 2 (.t 162)) [5, 6, 7, 8, 9, 10, 11, 12, 13, 14, 15, 16, 17, 18, 19, 21, 22, 23],yf 164 158 (.load false 1 (.t 163)) [5, 6, 7, 8, 9, 10, 11, 12, 13, 14, 15, 16, 17, 18, 19, 21, 22, 23, 24],yf 165 158 (.iaddr 1 (.t 159) (.t 164)) [5, 6, 7, 8, 9, 10, 11, 12, 13, 14, 15, 16, 17, 18, 19, 20, 21, 22, 23, 24, 25],yf 166 158 (.load false 1 (.t 165)) [5, 6, 7, 8, 9, 10, 11, 12, 13, 14, 15, 16, 17, 18, 19, 20, 21, 22, 23, 24, 25, 26],yf 167 158 (.mov (.t 9)) [5, 6, 7, 8, 9, 10, 11, 12, 13, 14, 15, 16, 17, 18, 19],yf 168 158 (.iaddr 1 (.t 166) (.t 167)) [5, 6, 7, 8, 9, 10, 11, 12, 13, 14, 15, 16, 17, 18, 19, 20, 21, 22, 23, 24, 25, 26, 27, 28],yf 169 158 (.load false 1 (.t 168)) [5, 6, 7, 8, 9, 10, 11, 12, 13, 14, 15, 16, 17, 18, 19, 20, 21, 22, 23, 24, 25, 26, 27, 28, 29],yf 170 158 (.mov (.t 12)) [5, 6, 7, 8, 9, 10, 11, 12, 13, 14, 15, 16, 17, 18, 19],yf 171 158 (.iaddr 1 (.t 169) (.t 170)) [5, 6, 7, 8, 9, 10, 11, 12, 13, 14, 15, 16, 17, 18, 19, 20, 21, 22, 23, 24, 25, 26, 27, 28, 29, 30, 31],yf 172 158 (.load false 1 (.t 171)) [5, 6, 7, 8, 9, 10, 11, 12, 13, 14, 15, 16, 17, 18, 19, 20, 21, 22, 23, 24, 25, 26, 27, 28, 29, 30, 31, 32],yo 173 (.pick (.t 158) kt (.t 172)) [5, 6, 7, 8, 9, 10, 11, 12, 13, 14, 15, 16, 17, 18, 19, 20, 21, 22, 23, 24, 25, 26, 27, 28, 29, 30, 31, 32, 33],yo 174 (.iaddr 1 (.t 142) (.t 143)) [0, 1, 2, 3, 4, 5, 6, 7, 8, 9, 10, 11, 12, 13, 14, 15, 16, 17, 18, 19, 20, 21, 22, 23, 24, 25, 26, 27, 28, 29, 30, 31, 32, 33, 34],⟨none, none, .store true 1 (.t 174) (.t 173), [0, 1, 2, 3, 4, 5, 6, 7, 8, 9, 10, 11, 12, 13, 14, 15, 16, 17, 18, 19, 20, 21, 22, 23, 24, 25, 26, 27, 28, 29, 30, 31, 32, 33, 34, 35]⟩] (rng 139 36)))
(.reg [xm 137 12,xo 138 (.bin .add 0 (.t 137) (ki 1)),xm 12 138] [137,138])))))) (.seq (.reg [xo 176 (.bin .eql 0 (.t 40) (ki 5)),xm 175 176] [176])
(.cond (.t 175) [175] (.seq (.reg [xm 177 8,xm 178 9,xo 179 (.iaddr 1 (.t 177) (.t 178)),xo 180 (.load false 1 (.t 179)),xm 181 9,xo 182 (.iaddr 1 (.t 180) (.t 181)),xn (.store true 1 (.t 182) kt)] (rng 177 6))
(.seq (.reg [xm 183 9,xm 13 183] [183])
(.block 11 (.loop true (.seq (.seq (.reg [xm 184 13,xm 185 5,xo 186 (.bin .lss 0 (.t 184) (.t 185))] [184,185])
(.cond (.t 186) [186] .skip (.exit 11)))
(.seq (.block 12 (.seq (.reg [xm 189 13,xm 14 189] [189])
(.block 13 (.loop true (.seq (.seq (.reg [xm 190 14,xm 191 5,xo 192 (.bin .lss 0 (.t 190) (.t 191)),xm 193 192,xt 194 193 (.mov (.t 8)),xt 195 193 (.mov (.t 9)),xt 196 193 (.iaddr 1 (.t 194) (.t 195)),xt 197 193 (.load false 1 (.t 196)),xt 198 193 (.mov (.t 13)),xt 199 193 (.iaddr 1 (.t 197) (.t 198)),xt 200 193 (.load false 1 (.t 199)),xo 201 (.pick (.t 193) (.t 200) kf)] (rng 190 11))
(.cond (.t 201) [201] .skip (.exit 13)))
(.seq (.block 14 (.dreg [xm 204 8,xm 205 9,yo 206 (.iaddr 1 (.t 204) (.t 205)) [0, 1],yo 207 (.load false 1 (.t 206)) [0, 1, 2],xm 208 14,xm 209 8,xm 210 9,yo 211 (.iaddr 1 (.t 209) (.t 210)) [5, 6],yo 212 (.load false 1 (.t 211)) [5, 6, 7],xm 213 14,yo 214 (.iaddr 1 (.t 212) (.t 213)) [5, 6, 7, 8, 9],yo 215 (.load false 1 (.t 214)) [5, 6, 7, 8, 9, 10],ym 216 215 [5, 6, 7, 8, 9, 10, 11],yf 217 216 (.mov (.t 6)) [5, 6, 7, 8, 9, 10, 11, 12],yf 218 216 (.mov (.t 0)) [5, 6, 7, 8, 9, 10, 11, 12],yf 219 216 (.mov (.t 7)) [5, 6, 7, 8, 9, 10, 11, 12],yf 220 216 (.iaddr 5 (.t 218) (.t 219)) [5, 6, 7, 8, 9, 10, 11, 12, 14, 15],yf 221 216 (.faddr 1 (.t 220)) [5, 6, 7, 8, 9, 10, 11, 12, 14, 15, 16],yf 222 216 (.load false 1 (.t 221)) [5, 6, 7, 8, 9, 10, 11, 12, 14, 15, 16, 17],yf 223 216 (.iaddr 1 (.t 217) (.t 222)) [5, 6, 7, 8, 9, 10, 11, 12, 13, 14, 15, 16, 17, 18],yf 224 216 (.load false 1 (.t 223)) [5, 6, 7, 8, 9, 10, 11, 12, 13, 14, 15, 16, 17, 18, 19],yf 225 216 (.mov (.t 13)) [5, 6, 7, 8, 9, 10, 11, 12],yf 226 216 (.iaddr 1 (.t 224) (.t 225)) [5, 6, 7, 8, 9, 10, 11, 12, 13, 14, 15, 16, 17, 18, 19, 20, 21],yf 227 216 (.load false 1 (.t 226)) [5, 6, 7, 8, 9, 10, 11, 12, 13, 14, 15, 16, 17, 18, 19, 20, 21, 22],yf 228 216 (.mov (.t 14)) [5, 6, 7, 8, 9, 10, 11, 12],yf 229 216 (.iaddr 1 (.t 227) (.t 228)) [5, 6, 7, 8, 9, 10, 11, 12, 13, 14, 15, 16, 17, 18, 19, 20, 21, 22, 23, 24],yf 230 216 (.load false 1 (.t 229)) [5, 6, 7, 8, 9, 10, 11, 12, 13, 14, 15, 16, 17, 18, 19, 20, 21, 22, 23, 24, 25],yo 231 (.pick (.t 216) kt (.t 230)) [5, 6, 7, 8, 9, 10, 11, 12, 13, 14, 15, 16, 17, 18, 19, 20, 21, 22, 23, 24, 25, 26],yo 232 (.iaddr 1 (.t 207) (.t 208)) [0, 1, 2, 3, 4, 5, 6, 7, 8, 9, 10, 11, 12, 13, 14, 15, 16, 17, 18, 19, 20, 21, 22, 23, 24, 25, 26, 27],⟨none, none, .store true 1 (.t 232) (.t 231), [0, 1, 2, 3, 4, 5, 6, 7, 8, 9, 10, 11, 12, 13, 14, 15, 16, 17, 18, 19, 20, 21, 22, 23, 24, 25, 26, 27, 28]⟩] (rng 204 29)))
(.reg [xm 202 14,xo 203 (.bin .add 0 (.t 202) (ki 1)),xm 14 203] [202,203])))))))
(.reg [xm 187 13,xo 188 (.bin .add 0 (.t 187) (ki 1)),xm 13 188] [187,188]))))))) .skip))))))))))))))
(.reg [xm 29 9,xo 30 (.bin .add 0 (.t 29) (ki 1)),xm 9 30] [29,30]))))))
(.reg [xm 233 6,xm 234 8,xo 235 (.mkl 90 1 [(.list 1 [])] 1 [(0, (.t 234))] false),xo 236 (.app 90 1 24 (.t 233) (.t 235)),xm 6 236] (rng 233 4)))))
(.reg [xm 22 7,xo 23 (.bin .add 0 (.t 22) (ki 1)),xm 7 23] [22,23]))))))
(.seq (.reg [xm 237 6,xm 4 237] [237])
.ret)))))
/-- caesura/caesuraref11.Ends -/
def fn73 : AFn := ⟨2, 238, c73, [(.t 4)], 0⟩
theorem fn73_body : fn73.body = c73 := rfl
theorem fn73_res : fn73.res = [(.t 4)] := rfl
theorem fn73_keep : fn73.keep = 0 := rfl
def c1255 : ACode :=
(.seq (.reg [xo 4 (.mov kf)] [])
(.seq (.seq (.reg [xm 6 0,xo 7 (.len 1 (.t 6)),xm 8 1,xo 9 (.len 1 (.t 8)),xo 10 (.bin .neq 0 (.t 7) (.t 9))] (rng 6 4))
(.cond (.t 10) [10] (.seq (.reg [xo 4 (.mov kf)] [])
.ret) .skip))
(.seq (.seq (.reg [xo 5 (.mov (ki 0))] [])
(.block 0 (.loop false (.seq (.seq (.reg [xm 11 5,xm 12 0,xo 13 (.len 1 (.t 12)),xo 14 (.bin .lss 0 (.t 11) (.t 13))] [11,12,13])
(.cond (.t 14) [14] .skip (.exit 0)))
(.seq (.block 1 (.seq (.dreg [xm 17 0,xm 18 5,yo 19 (.iaddr 2 (.t 17) (.t 18)) [0, 1],yo 20 (.faddr 0 (.t 19)) [0, 1, 2],yo 21 (.load false 1 (.t 20)) [0, 1, 2, 3],xm 22 1,xm 23 5,yo 24 (.iaddr 2 (.t 22) (.t 23)) [5, 6],yo 25 (.faddr 0 (.t 24)) [5, 6, 7],yo 26 (.load false 1 (.t 25)) [5, 6, 7, 8],yo 27 (.bin .neq 0 (.t 21) (.t 26)) [0, 1, 2, 3, 4, 5, 6, 7, 8, 9],ym 28 27 [0, 1, 2, 3, 4, 5, 6, 7, 8, 9, 10],yf 29 28 (.mov (.t 0)) [0, 1, 2, 3, 4, 5, 6, 7, 8, 9, 10, 11],yf 30 28 (.mov (.t 5)) [0, 1, 2, 3, 4, 5, 6, 7, 8, 9, 10, 11],yf 31 28 (.iaddr 2 (.t 29) (.t 30)) [0, 1, 2, 3, 4, 5, 6, 7, 8, 9, 10, 11, 12, 13],yf 32 28 (.faddr 1 (.t 31)) [0, 1, 2, 3, 4, 5, 6, 7, 8, 9, 10, 11, 12, 13, 14],yf 33 28 (.load false 1 (.t 32)) [0, 1, 2, 3, 4, 5, 6, 7, 8, 9, 10, 11, 12, 13, 14, 15],yf 34 28 (.mov (.t 1)) [0, 1, 2, 3, 4, 5, 6, 7, 8, 9, 10, 11],yf 35 28 (.mov (.t 5)) [0, 1, 2, 3, 4, 5, 6, 7, 8, 9, 10, 11],yf 36 28 (.iaddr 2 (.t 34) (.t 35)) [0, 1, 2, 3, 4, 5, 6, 7, 8, 9, 10, 11, 17, 18],yf 37 28 (.faddr 1 (.t 36)) [0, 1, 2, 3, 4, 5, 6, 7, 8, 9, 10, 11, 17, 18, 19],yf 38 28 (.load false 1 (.t 37)) [0, 1, 2, 3, 4, 5, 6, 7, 8, 9, 10, 11, 17, 18, 19, 20],yf 39 28 (.call 70 [(true, (.t 33)),(true, (.t 38))]) [0, 1, 2, 3, 4, 5, 6, 7, 8, 9, 10, 11, 12, 13, 14, 15, 16, 17, 18, 19, 20, 21],yf 40 28 (.un .not (.t 39)) [0, 1, 2, 3, 4, 5, 6, 7, 8, 9, 10, 11, 12, 13, 14, 15, 16, 17, 18, 19, 20, 21, 22],yo 41 (.pick (.t 28) kt (.t 40)) (rng 0 24)] (rng 17 24))
(.cond (.t 41) [41] (.seq (.reg [xo 4 (.mov kf)] [])
.ret) .skip)))
(.reg [xm 15 5,xo 16 (.bin .add 0 (.t 15) (ki 1)),xm 5 16] [15,16]))))))
(.seq (.reg [xo 4 (.mov kt)] [])
.ret))))
/-- caesura/caesurakeep.Named -/
def fn1255 : AFn := ⟨2, 42, c1255, [(.t 4)], 0⟩
theorem fn1255_body : fn1255.body = c1255 := rfl
theorem fn1255_res : fn1255.res = [(.t 4)] := rfl
theorem fn1255_keep : fn1255.keep = 0 := rfl
def c28 : ACode :=
(.seq (.reg [xo 4 (.mov kf)] [])
(.seq (.seq (.reg [xm 8 0,xo 9 (.len 1 (.t 8)),xm 10 1,xo 11 (.len 1 (.t 10)),xo 12 (.bin .neq 0 (.t 9) (.t 11))] (rng 8 4))
(.cond (.t 12) [12] (.seq (.reg [xo 4 (.mov kf)] [])
.ret) .skip))
(.seq (.seq (.reg [xo 5 (.mov (ki 0))] [])
(.block 0 (.loop false (.seq (.seq (.reg [xm 13 5,xm 14 0,xo 15 (.len 1 (.t 14)),xo 16 (.bin .lss 0 (.t 13) (.t 15))] [13,14,15])
(.cond (.t 16) [16] .skip (.exit 0)))
(.seq (.block 1 (.seq (.dreg [xm 19 0,xm 20 5,yo 21 (.iaddr 5 (.t 19) (.t 20)) [0, 1],yo 22 (.load true 5 (.t 21)) [0, 1, 2],xm 23 1,xm 24 5,yo 25 (.iaddr 5 (.t 23) (.t 24)) [4, 5],yo 26 (.load true 5 (.t 25)) [4, 5, 6],⟨(some 6), none, .new [(.int .i64 0),(.int .i64 0),(.int .i64 0),(.list 2 []),(.str ⟨#[]⟩)], []⟩,⟨(some 7), none, .new [(.int .i64 0),(.int .i64 0),(.int .i64 0),(.list 2 []),(.str ⟨#[]⟩)], []⟩,⟨none, none, .store false 5 (.t 6) (.t 22), [0, 1, 2, 3, 8, 9]⟩,⟨none, none, .store false 5 (.t 7) (.t 26), [0, 1, 2, 3, 4, 5, 6, 7, 8, 9, 10]⟩] (rng 19 8))
(.seq (.reg [xo 27 (.faddr 0 (.t 6)),xo 28 (.load false 1 (.t 27)),xo 29 (.faddr 0 (.t 7)),xo 30 (.load false 1 (.t 29)),xo 31 (.bin .neq 0 (.t 28) (.t 30)),xm 32 31,xf 33 32 (.faddr 1 (.t 6)),xf 34 32 (.load false 1 (.t 33)),xf 35 32 (.faddr 1 (.t 7)),xf 36 32 (.load false 1 (.t 35)),xf 37 32 (.bin .neq 0 (.t 34) (.t 36)),xo 38 (.pick (.t 32) kt (.t 37)),xm 39 38,xf 40 39 (.faddr 2 (.t 6)),xf 41 39 (.load false 1 (.t 40)),xf 42 39 (.faddr 2 (.t 7)),xf 43 39 (.load false 1 (.t 42)),xf 44 39 (.bin .neq 0 (.t 41) (.t 43)),xo 45 (.pick (.t 39) kt (.t 44)),xm 46 45,xf 47 46 (.faddr 4 (.t 6)),xf 48 46 (.load false 1 (.t 47)),xf 49 46 (.faddr 4 (.t 7)),xf 50 46 (.load false 1 (.t 49)),xf 51 46 (.bin .neq 0 (.t 48) (.t 50)),xo 52 (.pick (.t 46) kt (.t 51)),xm 53 52,xf 54 53 (.faddr 3 (.t 6)),xf 55 53 (.load false 1 (.t 54)),xf 56 53 (.faddr 3 (.t 7)),xf 57 53 (.load false 1 (.t 56)),xf 58 53 (.call 70 [(true, (.t 55)),(true, (.t 57))]),xf 59 53 (.un .not (.t 58)),xo 60 (.pick (.t 53) kt (.t 59))] (rng 27 33))
(.cond (.t 60) [60] (.seq (.reg [xo 4 (.mov kf)] [])
.ret) .skip))))
(.reg [xm 17 5,xo 18 (.bin .add 0 (.t 17) (ki 1)),xm 5 18] [17,18]))))))
(.seq (.reg [xo 4 (.mov kt)] [])
.ret))))
/-- caesura/caesurakeep.Tree -/
def fn28 : AFn := ⟨2, 61, c28, [(.t 4)], 0⟩
theorem fn28_body : fn28.body = c28 := rfl
theorem fn28_res : fn28.res = [(.t 4)] := rfl
theorem fn28_keep : fn28.keep = 0 := rfl
def c1256 : ACode :=
(.seq (.reg [xo 2 (.mov kf)] [])
(.seq (.seq (.reg [xo 3 (.mov (ki 0))] [])
(.block 0 (.loop false (.seq (.seq (.reg [xm 4 3,xm 5 0,xo 6 (.len 0 (.t 5)),xo 7 (.bin .lss 0 (.t 4) (.t 6))] [4,5,6])
(.cond (.t 7) [7] .skip (.exit 0)))
(.seq (.block 1 (.seq (.reg [xm 10 0,xm 11 3,xo 12 (.sidx (.t 10) (.t 11)),xo 13 (.call 83 [(true, (.t 12))]),xo 14 (.un .not (.t 13)),xm 15 14,xt 16 15 (.mov (.t 3)),xt 17 15 (.bin .eql 0 (.t 16) (ki 0)),xt 18 15 (.mov (.t 17)),xf 19 18 (.mov (.t 0)),xf 20 18 (.mov (.t 3)),xf 21 18 (.sidx (.t 19) (.t 20)),xf 22 18 (.call 84 [(true, (.t 21))]),xf 23 18 (.un .not (.t 22)),xf 24 18 (.mov (.t 23)),xt 25 24 (.mov (.t 0)),xt 26 24 (.mov (.t 3)),xt 27 24 (.sidx (.t 25) (.t 26)),xt 28 24 (.bin .neq 0 (.t 27) (.k (.int .u8 95))),xf 29 18 (.pick (.t 24) (.t 28) kf),xt 30 15 (.pick (.t 18) kt (.t 29)),xo 31 (.pick (.t 15) (.t 30) kf)] (rng 10 21))
(.cond (.t 31) [31] (.seq (.reg [xo 2 (.mov kf)] [])
.ret) .skip)))
(.reg [xm 8 3,xo 9 (.bin .add 0 (.t 8) (ki 1)),xm 3 9] [8,9]))))))
(.seq (.reg [xm 32 0,xo 33 (.len 0 (.t 32)),xo 34 (.bin .geq 0 (.t 33) (ki 1)),xm 35 34,xt 36 35 (.mov (.t 0)),xt 37 35 (.len 0 (.t 36)),xt 38 35 (.bin .leq 0 (.t 37) (ki 12)),xo 39 (.pick (.t 35) (.t 38) kf),xm 40 39,xt 41 40 (.mov (.t 0)),⟨(some 42),(some (40, true)), .bin .neq 0 (.t 41) (.k (.str ⟨#[99, 108, 97, 115, 115]⟩)), []⟩,xo 43 (.pick (.t 40) (.t 42) kf),xm 44 43,xt 45 44 (.mov (.t 0)),⟨(some 46),(some (44, true)), .bin .neq 0 (.t 45) (.k (.str ⟨#[101, 108, 115, 101]⟩)), []⟩,xo 47 (.pick (.t 44) (.t 46) kf),xm 48 47,xt 49 48 (.mov (.t 0)),⟨(some 50),(some (48, true)), .bin .neq 0 (.t 49) (.k (.str ⟨#[97, 110, 121]⟩)), []⟩,xo 51 (.pick (.t 48) (.t 50) kf),xm 52 51,xt 53 52 (.mov (.t 0)),⟨(some 54),(some (52, true)), .bin .neq 0 (.t 53) (.k (.str ⟨#[101, 109, 112, 116, 121]⟩)), []⟩,xo 55 (.pick (.t 52) (.t 54) kf),xm 56 55,xt 57 56 (.mov (.t 0)),⟨(some 58),(some (56, true)), .bin .neq 0 (.t 57) (.k (.str ⟨#[110, 101, 118, 101, 114]⟩)), []⟩,xo 59 (.pick (.t 56) (.t 58) kf),xm 2 59] (rng 32 28))
.ret)))
/-- caesura/caesuraref14.IsName -/
def fn1256 : AFn := ⟨1, 60, c1256, [(.t 2)], 0⟩
theorem fn1256_body : fn1256.body = c1256 := rfl
theorem fn1256_res : fn1256.res = [(.t 2)] := rfl
theorem fn1256_keep : fn1256.keep = 0 := rfl
def c57 : ACode :=
(.seq (.reg [xo 2 (.mov kf)] [])
(.seq (.seq (.reg [xo 3 (.mov (ki 0))] [])
(.block 0 (.loop false (.seq (.seq (.reg [xm 5 3,xm 6 0,xo 7 (.len 1 (.t 6)),xo 8 (.bin .lss 0 (.t 5) (.t 7))] [5,6,7])
(.cond (.t 8) [8] .skip (.exit 0)))
(.seq (.block 1 (.seq (.seq (.dreg [xm 11 0,xm 12 3,yo 13 (.iaddr 2 (.t 11) (.t 12)) [0, 1],yo 14 (.faddr 0 (.t 13)) [0, 1, 2],yo 15 (.load false 1 (.t 14)) [0, 1, 2, 3],yo 16 (.call 23 [(true, (.t 15))]) [0, 1, 2, 3, 4],yo 17 (.un .not (.t 16)) [0, 1, 2, 3, 4, 5],ym 18 17 [0, 1, 2, 3, 4, 5, 6],yf 19 18 (.mov (.t 0)) [0, 1, 2, 3, 4, 5, 6, 7],yf 20 18 (.mov (.t 3)) [0, 1, 2, 3, 4, 5, 6, 7],yf 21 18 (.iaddr 2 (.t 19) (.t 20)) [0, 1, 2, 3, 4, 5, 6, 7, 8, 9],yf 22 18 (.faddr 1 (.t 21)) [0, 1, 2, 3, 4, 5, 6, 7, 8, 9, 10],yf 23 18 (.load false 1 (.t 22)) [0, 1, 2, 3, 4, 5, 6, 7, 8, 9, 10, 11],yf 24 18 (.call 23 [(true, (.t 23))]) [0, 1, 2, 3, 4, 5, 6, 7, 8, 9, 10, 11, 12],yf 25 18 (.un .not (.t 24)) [0, 1, 2, 3, 4, 5, 6, 7, 8, 9, 10, 11, 12, 13],yo 26 (.pick (.t 18) kt (.t 25)) [0, 1, 2, 3, 4, 5, 6, 7, 8, 9, 10, 11, 12, 13, 14],ym 27 26 [0, 1, 2, 3, 4, 5, 6, 7, 8, 9, 10, 11, 12, 13, 14, 15],yf 28 27 (.mov (.t 0)) [0, 1, 2, 3, 4, 5, 6, 7, 8, 9, 10, 11, 12, 13, 14, 15, 16],yf 29 27 (.mov (.t 3)) [0, 1, 2, 3, 4, 5, 6, 7, 8, 9, 10, 11, 12, 13, 14, 15, 16],yf 30 27 (.iaddr 2 (.t 28) (.t 29)) [0, 1, 2, 3, 4, 5, 6, 7, 8, 9, 10, 11, 12, 13, 14, 15, 16, 17, 18],yf 31 27 (.faddr 1 (.t 30)) [0, 1, 2, 3, 4, 5, 6, 7, 8, 9, 10, 11, 12, 13, 14, 15, 16, 17, 18, 19],yf 32 27 (.load false 1 (.t 31)) [0, 1, 2, 3, 4, 5, 6, 7, 8, 9, 10, 11, 12, 13, 14, 15, 16, 17, 18, 19, 20],yf 33 27 (.mov (.t 0)) [0, 1, 2, 3, 4, 5, 6, 7, 8, 9, 10, 11, 12, 13, 14, 15, 16],yf 34 27 (.mov (.t 3)) [0, 1, 2, 3, 4, 5, 6, 7, 8, 9, 10, 11, 12, 13, 14, 15, 16],yf 35 27 (.iaddr 2 (.t 33) (.t 34)) [0, 1, 2, 3, 4, 5, 6, 7, 8, 9, 10, 11, 12, 13, 14, 15, 16, 22, 23],yf 36 27 (.faddr 0 (.t 35)) [0, 1, 2, 3, 4, 5, 6, 7, 8, 9, 10, 11, 12, 13, 14, 15, 16, 22, 23, 24],yf 37 27 (.load false 1 (.t 36)) [0, 1, 2, 3, 4, 5, 6, 7, 8, 9, 10, 11, 12, 13, 14, 15, 16, 22, 23, 24, 25],yf 38 27 (.bin .lss 0 (.t 32) (.t 37)) [0, 1, 2, 3, 4, 5, 6, 7, 8, 9, 10, 11, 12, 13, 14, 15, 16, 17, 18, 19, 20, 21, 22, 23, 24, 25, 26],yo 39 (.pick (.t 27) kt (.t 38)) (rng 0 28)] (rng 11 28))
(.cond (.t 39) [39] (.seq (.reg [xo 2 (.mov kf)] [])
.ret) .skip))
(.seq (.reg [xm 40 3,xo 41 (.bin .gtr 0 (.t 40) (ki 0))] [40])
(.cond (.t 41) [41] (.seq (.reg [xm 42 0,xm 43 3,xo 44 (.bin .sub 0 (.t 43) (ki 1)),xo 45 (.iaddr 2 (.t 42) (.t 44)),xo 46 (.faddr 1 (.t 45)),xo 47 (.load false 1 (.t 46)),xo 48 (.call 85 [(true, (.t 47))]),xo 4 (.new [(.int .i64 0),(.bool false)]),xn (.store false 2 (.t 4) (.t 48))] (rng 42 7))
(.seq (.dreg [xo 49 (.faddr 1 (.t 4)),yo 50 (.load false 1 (.t 49)) [0],yo 51 (.un .not (.t 50)) [0, 1],ym 52 51 [0, 1, 2],yf 53 52 (.mov (.t 0)) [0, 1, 2, 3],yf 54 52 (.mov (.t 3)) [0, 1, 2, 3],yf 55 52 (.iaddr 2 (.t 53) (.t 54)) [0, 1, 2, 3, 4, 5],yf 56 52 (.faddr 0 (.t 55)) [0, 1, 2, 3, 4, 5, 6],yf 57 52 (.load false 1 (.t 56)) [0, 1, 2, 3, 4, 5, 6, 7],yf 58 52 (.faddr 0 (.t 4)) [0, 1, 2, 3],yf 59 52 (.load false 1 (.t 58)) [0, 1, 2, 3, 9],yf 60 52 (.bin .leq 0 (.t 57) (.t 59)) [0, 1, 2, 3, 4, 5, 6, 7, 8, 9, 10],yo 61 (.pick (.t 52) kt (.t 60)) (rng 0 12)] (rng 49 12))
(.cond (.t 61) [61] (.seq (.reg [xo 2 (.mov kf)] [])
.ret) .skip))) .skip))))
(.reg [xm 9 3,xo 10 (.bin .add 0 (.t 9) (ki 1)),xm 3 10] [9,10]))))))
(.seq (.reg [xo 2 (.mov kt)] [])
.ret)))
/-- caesura/caesuraref03.Good -/
def fn57 : AFn := ⟨1, 62, c57, [(.t 2)], 0⟩
theorem fn57_body : fn57.body = c57 := rfl
theorem fn57_res : fn57.res = [(.t 2)] := rfl
theorem fn57_keep : fn57.keep = 0 := rfl
def c1257 : ACode :=
(.seq (.reg [xo 4 (.mov kf)] [])
(.seq (.seq (.reg [xm 8 0,xo 9 (.call 48 [(true, (.t 8))]),xo 10 (.un .not (.t 9))] [8,9])
(.cond (.t 10) [10] (.seq (.reg [xo 4 (.mov kf)] [])
.ret) .skip))
(.seq (.seq (.reg [xo 5 (.mov (ki 0))] [])
(.block 0 (.loop false (.seq (.seq (.reg [xm 11 5,xm 12 0,xo 13 (.len 1 (.t 12)),xo 14 (.bin .lss 0 (.t 11) (.t 13))] [11,12,13])
(.cond (.t 14) [14] .skip (.exit 0)))
(.seq (.block 1 (.seq (.reg [xm 17 0,xm 18 5,xo 19 (.iaddr 5 (.t 17) (.t 18)),xo 20 (.faddr 4 (.t 19)),xo 21 (.load false 1 (.t 20)),⟨(some 22), none, .bin .eql 0 (.t 21) (.k (.str ⟨#[]⟩)), []⟩,xm 6 22] (rng 17 6))
(.seq (.seq (.reg [xo 7 (.mov (ki 0))] [])
(.block 2 (.loop false (.seq (.seq (.reg [xm 23 7,xm 24 1,xo 25 (.len 1 (.t 24)),xo 26 (.bin .lss 0 (.t 23) (.t 25)),xm 27 26,xt 28 27 (.mov (.t 6)),xt 29 27 (.un .not (.t 28)),xo 30 (.pick (.t 27) (.t 29) kf)] (rng 23 7))
(.cond (.t 30) [30] .skip (.exit 2)))
(.seq (.block 3 (.dreg [xm 33 1,xm 34 7,yo 35 (.iaddr 2 (.t 33) (.t 34)) [0, 1],yo 36 (.faddr 0 (.t 35)) [0, 1, 2],yo 37 (.load false 1 (.t 36)) [0, 1, 2, 3],xm 38 0,xm 39 5,yo 40 (.iaddr 5 (.t 38) (.t 39)) [5, 6],yo 41 (.faddr 4 (.t 40)) [5, 6, 7],yo 42 (.load false 1 (.t 41)) [5, 6, 7, 8],yo 43 (.bin .eql 0 (.t 37) (.t 42)) [0, 1, 2, 3, 4, 5, 6, 7, 8, 9],ym 44 43 [0, 1, 2, 3, 4, 5, 6, 7, 8, 9, 10],yt 45 44 (.mov (.t 1)) [0, 1, 2, 3, 4, 5, 6, 7, 8, 9, 10, 11],yt 46 44 (.mov (.t 7)) [0, 1, 2, 3, 4, 5, 6, 7, 8, 9, 10, 11],yt 47 44 (.iaddr 2 (.t 45) (.t 46)) [0, 1, 2, 3, 4, 5, 6, 7, 8, 9, 10, 11, 12, 13],yt 48 44 (.faddr 1 (.t 47)) [0, 1, 2, 3, 4, 5, 6, 7, 8, 9, 10, 11, 12, 13, 14],yt 49 44 (.load false 1 (.t 48)) [0, 1, 2, 3, 4, 5, 6, 7, 8, 9, 10, 11, 12, 13, 14, 15],yt 50 44 (.mov (.t 0)) [0, 1, 2, 3, 4, 5, 6, 7, 8, 9, 10, 11],yt 51 44 (.mov (.t 5)) [0, 1, 2, 3, 4, 5, 6, 7, 8, 9, 10, 11],yt 52 44 (.iaddr 5 (.t 50) (.t 51)) [0, 1, 2, 3, 4, 5, 6, 7, 8, 9, 10, 11, 17, 18],yt 53 44 (.faddr 3 (.t 52)) [0, 1, 2, 3, 4, 5, 6, 7, 8, 9, 10, 11, 17, 18, 19],yt 54 44 (.load false 1 (.t 53)) [0, 1, 2, 3, 4, 5, 6, 7, 8, 9, 10, 11, 17, 18, 19, 20],yt 55 44 (.call 86 [(true, (.t 49)),(true, (.t 54))]) [0, 1, 2, 3, 4, 5, 6, 7, 8, 9, 10, 11, 12, 13, 14, 15, 16, 17, 18, 19, 20, 21],yo 56 (.pick (.t 44) (.t 55) kf) [0, 1, 2, 3, 4, 5, 6, 7, 8, 9, 10, 11, 12, 13, 14, 15, 16, 17, 18, 19, 20, 21, 22],ym 6 56 (rng 0 24)] (rng 33 24)))
(.reg [xm 31 7,xo 32 (.bin .add 0 (.t 31) (ki 1)),xm 7 32] [31,32]))))))
(.seq (.reg [xm 57 6,xo 58 (.un .not (.t 57))] [57])
(.cond (.t 58) [58] (.seq (.reg [xo 4 (.mov kf)] [])
.ret) .skip)))))
(.reg [xm 15 5,xo 16 (.bin .add 0 (.t 15) (ki 1)),xm 5 16] [15,16]))))))
(.seq (.reg [xo 4 (.mov kt)] [])
.ret))))
/-- caesura/caesuraref16.named -/
def fn1257 : AFn := ⟨2, 59, c1257, [(.t 4)], 0⟩
theorem fn1257_body : fn1257.body = c1257 := rfl
theorem fn1257_res : fn1257.res = [(.t 4)] := rfl
theorem fn1257_keep : fn1257.keep = 0 := rfl
def c29 : ACode :=
(.seq (.reg [xo 2 (.mov kf)] [])
(.seq (.seq (.reg [xm 5 0,xo 6 (.len 1 (.t 5)),xo 7 (.bin .lss 0 (.t 6) (ki 1)),xm 8 7,xf 9 8 (.mov (.t 0)),xf 10 8 (.len 1 (.t 9)),xf 11 8 (.bin .gtr 0 (.t 10) (ki 40000)),xo 12 (.pick (.t 8) kt (.t 11))] (rng 5 7))
(.cond (.t 12) [12] (.seq (.reg [xo 2 (.mov kf)] [])
.ret) .skip))
(.seq (.reg [xm 14 0,xo 15 (.call 87 [(true, (.t 14))]),xm 13 15,xo 16 (.ext (.t 13) 0),xo 17 (.ext (.t 13) 1),xm 3 16,xm 4 17] (rng 13 5))
(.seq (.reg [xm 18 4,xm 19 18,xt 20 19 (.mov (.t 3)),xt 21 19 (.mov (.t 0)),xt 22 19 (.len 1 (.t 21)),xt 23 19 (.bin .sub 0 (.t 22) (ki 1)),xt 24 19 (.iaddr 1 (.t 20) (.t 23)),xt 25 19 (.load false 1 (.t 24)),xt 26 19 (.bin .eql 0 (.t 25) (ki 0)),xo 27 (.pick (.t 19) (.t 26) kf),xm 2 27] (rng 18 10))
.ret))))
/-- caesura/tree.Good -/
def fn29 : AFn := ⟨1, 28, c29, [(.t 2)], 0⟩
theorem fn29_body : fn29.body = c29 := rfl
theorem fn29_res : fn29.res = [(.t 2)] := rfl
theorem fn29_keep : fn29.keep = 0 := rfl
def c72 : ACode :=
(.seq (.reg [xo 8 (.mov kf)] [])
(.seq (.reg [xm 13 1,xm 14 2,xm 15 3,xo 16 (.agg [(.int .i64 0),(.int .i64 0),(.int .i64 0)] [(0, 1, (.t 13)),(1, 1, (.t 14)),(2, 1, (.t 15))]),xo 9 (.new [(.int .i64 0),(.int .i64 0),(.int .i64 0)]),xn (.store false 3 (.t 9) (.t 16))] (rng 13 4))
(.seq (.seq (.dreg [xm 18 0,yo 19 (.nilck (.t 18)) [0],yo 20 (.faddr 2 (.t 19)) [0, 1],yo 21 (.load false 1 (.t 20)) [0, 1, 2],xo 22 (.load true 3 (.t 9)),yo 23 (.look 3 [0,0,0] (.int .i64 0) true (.t 21) (.t 22)) [0, 1, 2, 3, 4],ym 17 23 [0, 1, 2, 3, 4, 5],yo 24 (.ext (.t 17) 0) [0, 1, 2, 3, 4, 5, 6],yo 25 (.ext (.t 17) 1) [0, 1, 2, 3, 4, 5, 6],ym 10 24 [0, 1, 2, 3, 4, 5, 6, 7],ym 11 25 (rng 0 10)] (rng 17 9))
(.seq (.reg [xm 26 11] [])
(.cond (.t 26) [26] (.seq (.reg [xm 27 10,xo 28 (.bin .eql 0 (.t 27) (ki 1)),xm 8 28] [27,28])
.ret) .skip)))
(.seq (.reg [xm 29 0,xm 30 0,xo 31 (.nilck (.t 30)),xo 32 (.faddr 0 (.t 31)),xo 33 (.load false 1 (.t 32)),xm 34 1,xo 35 (.iaddr 5 (.t 33) (.t 34)),xo 36 (.load true 5 (.t 35)),xm 37 1,xm 38 2,xm 39 3,xo 40 (.call 88 [(false, (.t 29)),(true, (.t 36)),(true, (.t 37)),(true, (.t 38)),(true, (.t 39))]),xm 12 40] (rng 29 12))
(.seq (.dreg [xm 41 0,yo 42 (.nilck (.t 41)) [0],yo 43 (.faddr 2 (.t 42)) [0, 1],yo 44 (.load false 1 (.t 43)) [0, 1, 2],xo 45 (.load true 3 (.t 9)),⟨none, none, .mset 3 [0,0,0] (.t 44) (.t 45) (ki 0), [0, 1, 2, 3, 4]⟩] (rng 41 5))
(.seq (.seq (.reg [xm 46 12] [])
(.cond (.t 46) [46] (.dreg [xm 47 0,yo 48 (.nilck (.t 47)) [0],yo 49 (.faddr 2 (.t 48)) [0, 1],yo 50 (.load false 1 (.t 49)) [0, 1, 2],xo 51 (.load true 3 (.t 9)),⟨none, none, .mset 3 [0,0,0] (.t 50) (.t 51) (ki 1), [0, 1, 2, 3, 4]⟩] (rng 47 5)) .skip))
(.seq (.reg [xm 52 12,xm 8 52] [52])
.ret)))))))
/-- (*caesura/tree.taker).takes -/
def fn72 : AFn := ⟨4, 53, c72, [(.t 8)], 0⟩
theorem fn72_body : fn72.body = c72 := rfl
theorem fn72_res : fn72.res = [(.t 8)] := rfl
theorem fn72_keep : fn72.keep = 0 := rfl
def c56 : ACode :=
(.seq (.reg [xo 2 (.mov kf)] [])
(.seq (.seq (.reg [xm 5 0,xo 6 (.len 1 (.t 5)),xo 7 (.mov (ki 0))] [])
(.block 0 (.loop false (.seq (.reg [xo 8 (.bin .lss 0 (.t 7) (.t 6))] [])
(.seq (.cond (.t 8) [8] .skip (.exit 0))
(.seq (.block 1 (.seq (.reg [xm 9 7,xo 10 (.iaddr 2 (.t 5) (.t 7)),xo 11 (.load true 2 (.t 10)),xo 4 (.new [(.int .i64 0),(.int .i64 0)]),xm 3 9,xn (.store false 2 (.t 4) (.t 11))] [9,10,11])
(.seq (.dreg [xo 12 (.load true 2 (.t 4)),yo 13 (.call 89 [(true, (.t 12))]) [0],yo 14 (.un .not (.t 13)) [0, 1],ym 15 14 [0, 1, 2],yf 16 15 (.mov (.t 3)) [0, 1, 2, 3],yf 17 15 (.bin .gtr 0 (.t 16) (ki 0)) [0, 1, 2, 3, 4],yf 18 15 (.mov (.t 17)) [0, 1, 2, 3, 4, 5],yt 19 18 (.mov (.t 0)) [0, 1, 2, 3, 4, 5, 6],yt 20 18 (.mov (.t 3)) [0, 1, 2, 3, 4, 5, 6],yt 21 18 (.bin .sub 0 (.t 20) (ki 1)) [0, 1, 2, 3, 4, 5, 6, 8],yt 22 18 (.iaddr 2 (.t 19) (.t 21)) [0, 1, 2, 3, 4, 5, 6, 7, 8, 9],yt 23 18 (.load true 2 (.t 22)) [0, 1, 2, 3, 4, 5, 6, 7, 8, 9, 10],yt 24 18 (.load true 2 (.t 4)) [0, 1, 2, 3, 4, 5, 6],yt 25 18 (.call 90 [(true, (.t 23)),(true, (.t 24))]) [0, 1, 2, 3, 4, 5, 6, 7, 8, 9, 10, 11, 12],yt 26 18 (.un .not (.t 25)) [0, 1, 2, 3, 4, 5, 6, 7, 8, 9, 10, 11, 12, 13],yf 27 15 (.pick (.t 18) (.t 26) kf) [0, 1, 2, 3, 4, 5, 6, 7, 8, 9, 10, 11, 12, 13, 14],yo 28 (.pick (.t 15) kt (.t 27)) (rng 0 16)] (rng 12 16))
(.cond (.t 28) [28] (.seq (.reg [xo 2 (.mov kf)] [])
.ret) .skip))))
(.reg [xo 29 (.bin .add 0 (.t 7) (ki 1)),xm 7 29] [29])))))))
(.seq (.reg [xo 2 (.mov kt)] [])
.ret)))
/-- caesura/sets.Good -/
def fn56 : AFn := ⟨1, 30, c56, [(.t 2)], 0⟩
theorem fn56_body : fn56.body = c56 := rfl
theorem fn56_res : fn56.res = [(.t 2)] := rfl
theorem fn56_keep : fn56.keep = 0 := rfl
def c69 : ACode :=
(.seq (.reg [xo 2 (.anil 52 2)] [])
(.seq (.seq (.reg [xm 3 0,xo 4 (.isnil false (.t 3))] [3])
(.cond (.t 4) [4] (.seq (.reg [xo 2 (.anil 52 2)] [])
.ret) .skip))
(.seq (.reg [xo 5 (.mkl 52 2 [(.int .i64 0),(.int .i64 0)] 0 [] false),xm 6 0,xo 7 (.app 52 2 16 (.t 5) (.t 6)),xm 2 7] [5,6,7])
.ret)))
/-- slices.Clone[caesura/api.Set,caesura/api.Range] -/
def fn69 : AFn := ⟨1, 8, c69, [(.t 2)], 1⟩
theorem fn69_body : fn69.body = c69 := rfl
theorem fn69_res : fn69.res = [(.t 2)] := rfl
theorem fn69_keep : fn69.keep = 1 := rfl
def c68 : ACode :=
(.seq (.reg [xo 4 (.anil 78 5)] [])
(.seq (.reg [xm 8 0,xo 9 (.call 91 [(true, (.t 8))]),xm 5 9] [8,9])
(.seq (.seq (.reg [xm 10 5,xo 11 (.len 1 (.t 10)),xo 12 (.mov (ki 0))] [10])
(.block 0 (.loop false (.seq (.reg [xo 13 (.bin .lss 0 (.t 12) (.t 11))] [])
(.seq (.cond (.t 13) [13] .skip (.exit 0))
(.seq (.block 1 (.seq (.reg [xm 14 12,xm 6 14] [14])
(.seq (.reg [xm 15 5,xm 16 6,xo 17 (.iaddr 5 (.t 15) (.t 16)),xm 7 17] [15,16,17])
(.seq (.reg [xm 18 7,xm 19 7,xo 20 (.nilck (.t 19)),xo 21 (.faddr 3 (.t 20)),xo 22 (.load false 1 (.t 21)),xo 23 (.call 58 [(true, (.t 22))]),xo 24 (.nilck (.t 18)),xo 25 (.faddr 3 (.t 24)),xn (.store false 1 (.t 25) (.t 23))] (rng 18 8))
(.seq (.reg [xm 26 7,xo 27 (.nilck (.t 26)),xo 28 (.faddr 0 (.t 27)),xo 29 (.load false 1 (.t 28))] [26,27,28])
(.block 2 (.seq (.seq (.reg [xo 31 (.bin .eql 0 (.t 29) (ki 3)),xm 30 31] [31])
(.cond (.t 30) [] .skip (.reg [xo 32 (.bin .eql 0 (.t 29) (ki 4)),xm 30 32] [32])))
(.cond (.t 30) [] (.seq (.reg [xm 33 7,xo 34 (.nilck (.t 33)),xo 35 (.faddr 1 (.t 34)),xo 36 (.load false 1 (.t 35)),xm 37 1,xo 38 (.bin .add 0 (.t 36) (.t 37)),xo 39 (.nilck (.t 33)),xo 40 (.faddr 1 (.t 39)),xn (.store false 1 (.t 40) (.t 38))] (rng 33 8))
(.reg [xm 41 7,xo 42 (.nilck (.t 41)),xo 43 (.faddr 2 (.t 42)),xo 44 (.load false 1 (.t 43)),xm 45 1,xo 46 (.bin .add 0 (.t 44) (.t 45)),xo 47 (.nilck (.t 41)),xo 48 (.faddr 2 (.t 47)),xn (.store false 1 (.t 48) (.t 46))] (rng 41 8))) (.seq (.reg [xo 50 (.bin .eql 0 (.t 29) (ki 5)),xm 49 50] [50])
(.cond (.t 49) [49] (.reg [xm 51 7,xo 52 (.nilck (.t 51)),xo 53 (.faddr 1 (.t 52)),xo 54 (.load false 1 (.t 53)),xm 55 1,xo 56 (.bin .add 0 (.t 54) (.t 55)),xo 57 (.nilck (.t 51)),xo 58 (.faddr 1 (.t 57)),xn (.store false 1 (.t 58) (.t 56))] (rng 51 8)) .skip))))))))))
(.reg [xo 59 (.bin .add 0 (.t 12) (ki 1)),xm 12 59] [59])))))))
(.seq (.reg [xm 60 5,xm 4 60] [60])
.ret))))
/-- caesura/tree.moved -/
def fn68 : AFn := ⟨2, 61, c68, [(.t 4)], 1⟩
theorem fn68_body : fn68.body = c68 := rfl
theorem fn68_res : fn68.res = [(.t 4)] := rfl
theorem fn68_keep : fn68.keep = 1 := rfl
def c1258 : ACode :=
(.seq (.reg [xo 2 (.mov kf)] [])
(.seq (.reg [xo 3 (.mov (ki 0))] [])
(.seq (.seq (.reg [xo 4 (.mov (ki 0))] [])
(.block 0 (.loop false (.seq (.seq (.reg [xm 5 4,xm 6 0,xo 7 (.len 1 (.t 6)),xo 8 (.bin .lss 0 (.t 5) (.t 7)),xm 9 8,xt 10 9 (.mov (.t 3)),xt 11 9 (.bin .leq 0 (.t 10) (ki 600)),xo 12 (.pick (.t 9) (.t 11) kf)] (rng 5 7))
(.cond (.t 12) [12] .skip (.exit 0)))
(.seq (.block 1 (.dreg [xm 15 3,xm 16 0,xm 17 4,yo 18 (.iaddr 2 (.t 16) (.t 17)) [1, 2],yo 19 (.faddr 1 (.t 18)) [1, 2, 3],yo 20 (.load false 1 (.t 19)) [1, 2, 3, 4],yo 21 (.len 1 (.t 20)) [1, 2, 3, 4, 5],yo 22 (.mm false [(.t 21),(ki 600)]) [1, 2, 3, 4, 5, 6],yo 23 (.bin .add 0 (ki 1) (.t 22)) [1, 2, 3, 4, 5, 6, 7],xm 24 0,xm 25 4,yo 26 (.iaddr 2 (.t 24) (.t 25)) [9, 10],yo 27 (.faddr 0 (.t 26)) [9, 10, 11],yo 28 (.load false 1 (.t 27)) [9, 10, 11, 12],yo 29 (.len 0 (.t 28)) [9, 10, 11, 12, 13],yo 30 (.bin .quo 0 (.t 29) (ki 8)) [9, 10, 11, 12, 13, 14],yo 31 (.mm false [(.t 30),(ki 600)]) [9, 10, 11, 12, 13, 14, 15],yo 32 (.bin .add 0 (.t 23) (.t 31)) [1, 2, 3, 4, 5, 6, 7, 8, 9, 10, 11, 12, 13, 14, 15, 16],yo 33 (.bin .add 0 (.t 15) (.t 32)) [0, 1, 2, 3, 4, 5, 6, 7, 8, 9, 10, 11, 12, 13, 14, 15, 16, 17],ym 3 33 (rng 0 19)] (rng 15 19)))
(.reg [xm 13 4,xo 14 (.bin .add 0 (.t 13) (ki 1)),xm 4 14] [13,14]))))))
(.seq (.reg [xm 34 3,xo 35 (.bin .gtr 0 (.t 34) (ki 600)),xm 2 35] [34,35])
.ret))))
/-- caesura/caesurakeep.LargeNamed -/
def fn1258 : AFn := ⟨1, 36, c1258, [(.t 2)], 0⟩
theorem fn1258_body : fn1258.body = c1258 := rfl
theorem fn1258_res : fn1258.res = [(.t 2)] := rfl
theorem fn1258_keep : fn1258.keep = 0 := rfl
def c16 : ACode :=
(.seq (.reg [xo 2 (.mov kf)] [])
(.seq (.reg [xo 3 (.mov (ki 0))] [])
(.seq (.seq (.reg [xo 4 (.mov (ki 0))] [])
(.block 0 (.loop false (.seq (.seq (.reg [xm 5 4,xm 6 0,xo 7 (.len 1 (.t 6)),xo 8 (.bin .lss 0 (.t 5) (.t 7)),xm 9 8,xt 10 9 (.mov (.t 3)),xt 11 9 (.bin .leq 0 (.t 10) (ki 600)),xo 12 (.pick (.t 9) (.t 11) kf)] (rng 5 7))
(.cond (.t 12) [12] .skip (.exit 0)))
(.seq (.block 1 (.dreg [xm 15 3,xm 16 0,xm 17 4,yo 18 (.iaddr 5 (.t 16) (.t 17)) [1, 2],yo 19 (.faddr 3 (.t 18)) [1, 2, 3],yo 20 (.load false 1 (.t 19)) [1, 2, 3, 4],yo 21 (.len 1 (.t 20)) [1, 2, 3, 4, 5],yo 22 (.mm false [(.t 21),(ki 600)]) [1, 2, 3, 4, 5, 6],yo 23 (.bin .add 0 (ki 1) (.t 22)) [1, 2, 3, 4, 5, 6, 7],xm 24 0,xm 25 4,yo 26 (.iaddr 5 (.t 24) (.t 25)) [9, 10],yo 27 (.faddr 4 (.t 26)) [9, 10, 11],yo 28 (.load false 1 (.t 27)) [9, 10, 11, 12],yo 29 (.len 0 (.t 28)) [9, 10, 11, 12, 13],yo 30 (.bin .quo 0 (.t 29) (ki 8)) [9, 10, 11, 12, 13, 14],yo 31 (.mm false [(.t 30),(ki 600)]) [9, 10, 11, 12, 13, 14, 15],yo 32 (.bin .add 0 (.t 23) (.t 31)) [1, 2, 3, 4, 5, 6, 7, 8, 9, 10, 11, 12, 13, 14, 15, 16],yo 33 (.bin .add 0 (.t 15) (.t 32)) [0, 1, 2, 3, 4, 5, 6, 7, 8, 9, 10, 11, 12, 13, 14, 15, 16, 17],ym 3 33 (rng 0 19)] (rng 15 19)))
(.reg [xm 13 4,xo 14 (.bin .add 0 (.t 13) (ki 1)),xm 4 14] [13,14]))))))
(.seq (.reg [xm 34 3,xo 35 (.bin .gtr 0 (.t 34) (ki 600)),xm 2 35] [34,35])
.ret))))
/-- caesura/caesurakeep.LargeTree -/
def fn16 : AFn := ⟨1, 36, c16, [(.t 2)], 0⟩
theorem fn16_body : fn16.body = c16 := rfl
theorem fn16_res : fn16.res = [(.t 2)] := rfl
theorem fn16_keep : fn16.keep = 0 := rfl
def c1259 : ACode :=
(.seq (.reg [xo 1 (.box (.t 0)),xo 2 (.mov kf)] [])
(.seq (.reg [xo 10 .mkm,xm 3 10] [10])
(.seq (.seq (.reg [xo 11 (.faddr 0 (.t 1)),xo 12 (.load false 1 (.t 11)),xo 13 (.len 1 (.t 12)),xo 14 (.mov (ki 0))] [11])
(.block 0 (.loop false (.seq (.reg [xo 15 (.bin .lss 0 (.t 14) (.t 13))] [])
(.seq (.cond (.t 15) [15] .skip (.exit 0))
(.seq (.block 1 (.seq (.reg [xo 16 (.iaddr 2 (.t 12) (.t 14)),xo 17 (.load true 2 (.t 16)),⟨(some 5), none, .new [(.str ⟨#[]⟩),(.list 2 [])], []⟩,xn (.store false 2 (.t 5) (.t 17))] [16,17])
(.seq (.seq (.reg [xm 19 3,xo 20 (.faddr 0 (.t 5)),xo 21 (.load false 1 (.t 20)),xo 22 (.look 2 [] (.list 2 []) true (.t 19) (.t 21)),xm 18 22,xo 23 (.ext (.t 18) 0),xo 24 (.ext (.t 18) 1),xm 6 23,xm 7 24] [6,18,19,20,21,22,23,24])
(.seq (.reg [xm 25 7,xm 26 25,xf 27 26 (.faddr 0 (.t 5)),xf 28 26 (.load false 1 (.t 27)),xf 29 26 (.call 92 [(true, (.t 28))]),xf 30 26 (.un .not (.t 29)),xo 31 (.pick (.t 26) kt (.t 30)),xm 32 31,xf 33 32 (.faddr 1 (.t 5)),xf 34 32 (.load false 1 (.t 33)),xf 35 32 (.len 1 (.t 34)),xf 36 32 (.bin .eql 0 (.t 35) (ki 0)),xo 37 (.pick (.t 32) kt (.t 36)),xm 38 37,xf 39 38 (.faddr 1 (.t 5)),xf 40 38 (.load false 1 (.t 39)),xf 41 38 (.call 57 [(true, (.t 40))]),xf 42 38 (.un .not (.t 41)),xo 43 (.pick (.t 38) kt (.t 42))] (rng 25 18))
(.cond (.t 43) [43] (.seq (.reg [xo 2 (.mov kf)] [])
.ret) .skip)))
(.reg [xm 44 3,xo 45 (.faddr 0 (.t 5)),xo 46 (.load false 1 (.t 45)),xo 47 (.faddr 1 (.t 5)),xo 48 (.load false 1 (.t 47)),xn (.mset 2 [] (.t 44) (.t 46) (.t 48))] (rng 44 5)))))
(.reg [xo 49 (.bin .add 0 (.t 14) (ki 1)),xm 14 49] [49])))))))
(.seq (.seq (.reg [xo 50 (.faddr 1 (.t 1)),xo 51 (.load false 1 (.t 50)),xo 52 (.len 1 (.t 51)),xo 53 (.mov (ki 0))] [50])
(.block 2 (.loop false (.seq (.reg [xo 54 (.bin .lss 0 (.t 53) (.t 52))] [])
(.seq (.cond (.t 54) [54] .skip (.exit 2))
(.seq (.block 3 (.seq (.reg [xo 55 (.iaddr 3 (.t 51) (.t 53)),xo 56 (.load true 3 (.t 55)),xo 9 (.new [(.list 5 []),(.list 5 []),(.bool false)]),xn (.store false 3 (.t 9) (.t 56))] [55,56])
(.seq (.reg [xo 57 (.faddr 0 (.t 9)),xo 58 (.load false 1 (.t 57)),xm 59 3,xo 60 (.call 93 [(true, (.t 58)),(false, (.t 59))]),xo 61 (.un .not (.t 60)),xm 62 61,xf 63 62 (.faddr 1 (.t 9)),xf 64 62 (.load false 1 (.t 63)),xf 65 62 (.mov (.t 3)),xf 66 62 (.call 93 [(true, (.t 64)),(false, (.t 65))]),xf 67 62 (.un .not (.t 66)),xo 68 (.pick (.t 62) kt (.t 67))] (rng 57 11))
(.cond (.t 68) [68] (.seq (.reg [xo 2 (.mov kf)] [])
.ret) .skip))))
(.reg [xo 69 (.bin .add 0 (.t 53) (ki 1)),xm 53 69] [69])))))))
(.seq (.reg [xo 70 (.faddr 1 (.t 1)),xo 71 (.load false 1 (.t 70)),xo 72 (.len 1 (.t 71)),xo 73 (.bin .leq 0 (.t 72) (ki 40)),xm 2 73] (rng 70 4))
.ret)))))
/-- caesura/write.Good -/
def fn1259 : AFn := ⟨1, 74, c1259, [(.t 2)], 0⟩
theorem fn1259_body : fn1259.body = c1259 := rfl
theorem fn1259_res : fn1259.res = [(.t 2)] := rfl
theorem fn1259_keep : fn1259.keep = 0 := rfl
def c58 : ACode :=
(.seq (.reg [xo 3 (.box (.t 1)),xo 4 (.mov kf)] [])
(.seq (.reg [xm 5 0,xo 6 (.call 57 [(true, (.t 5))]),xm 7 6,xt 8 7 (.load false 1 (.t 3)),xt 9 7 (.call 80 [(true, (.t 8))]),xo 10 (.pick (.t 7) (.t 9) kf),xm 11 10,xt 12 11 (.mov (.t 0)),xt 13 11 (.mkf 106 [(.t 3)]),xt 14 11 (.call 105 [(true, (.t 12)),(false, (.t 13))]),xo 15 (.pick (.t 11) (.t 14) kf),xm 4 15] (rng 5 11))
.ret))
/-- caesura/sets.Has -/
def fn58 : AFn := ⟨2, 16, c58, [(.t 4)], 0⟩
theorem fn58_body : fn58.body = c58 := rfl
theorem fn58_res : fn58.res = [(.t 4)] := rfl
theorem fn58_keep : fn58.keep = 0 := rfl
def c63 : ACode :=
(.seq (.reg [xo 4 (.mov kf)] [])
(.seq (.seq (.reg [xm 6 0,xo 7 (.len 1 (.t 6)),xm 8 1,xo 9 (.len 1 (.t 8)),xo 10 (.bin .neq 0 (.t 7) (.t 9))] (rng 6 4))
(.cond (.t 10) [10] (.seq (.reg [xo 4 (.mov kf)] [])
.ret) .skip))
(.seq (.seq (.reg [xo 5 (.mov (ki 0))] [])
(.block 0 (.loop false (.seq (.seq (.reg [xm 11 5,xm 12 0,xo 13 (.len 1 (.t 12)),xo 14 (.bin .lss 0 (.t 11) (.t 13))] [11,12,13])
(.cond (.t 14) [14] .skip (.exit 0)))
(.seq (.block 1 (.seq (.dreg [xm 17 0,xm 18 5,yo 19 (.iaddr 2 (.t 17) (.t 18)) [0, 1],yo 20 (.load true 2 (.t 19)) [0, 1, 2],xm 21 1,xm 22 5,yo 23 (.iaddr 2 (.t 21) (.t 22)) [4, 5],yo 24 (.load true 2 (.t 23)) [4, 5, 6],yo 25 (.bins .neq [0,0] (.t 20) (.t 24)) (rng 0 8)] (rng 17 8))
(.cond (.t 25) [25] (.seq (.reg [xo 4 (.mov kf)] [])
.ret) .skip)))
(.reg [xm 15 5,xo 16 (.bin .add 0 (.t 15) (ki 1)),xm 5 16] [15,16]))))))
(.seq (.reg [xo 4 (.mov kt)] [])
.ret))))
/-- caesura/caesurakeep.Set -/
def fn63 : AFn := ⟨2, 26, c63, [(.t 4)], 0⟩
theorem fn63_body : fn63.body = c63 := rfl
theorem fn63_res : fn63.res = [(.t 4)] := rfl
theorem fn63_keep : fn63.keep = 0 := rfl
def c1151 : ACode :=
(.seq (.reg [xo 4 (.new [(.int .i64 0),(.int .i64 0)])] [])
(.seq (.reg [xm 7 0,xo 8 (.call 112 [(true, (.t 7))]),xm 6 8,xo 9 (.ext (.t 6) 0),xo 10 (.ext (.t 6) 1),xm 5 9,xn (.store false 2 (.t 4) (.t 10))] (rng 6 5))
(.seq (.seq (.reg [xo 11 (.faddr 0 (.t 4)),xo 12 (.load false 1 (.t 11)),xo 13 (.bin .neq 0 (.t 12) (ki 0))] [11,12])
(.cond (.t 13) [13] (.seq (.reg [xo 14 (.load true 2 (.t 4)),xn (.store false 2 (.t 4) (.t 14))] [14])
.ret) .skip))
(.seq (.reg [xo 15 (.mkf 113 [(.t 4)])] [15])
(.seq (.reg [xm 16 1,xm 17 5,xm 18 0,xo 19 (.len 0 (.t 18)),xo 20 .mkm,xo 21 (.agg [(.list 3 []),(.int .i64 0), .nilm, (.int .i64 0),(.int .i64 0)] [(0, 1, (.t 17)),(1, 1, (.t 19)),(2, 1, (.t 20))]),xo 22 (.box (.t 21)),xo 23 (.callv (.t 16) [(false, (.t 22))])] (rng 16 8))
(.seq (.reg [xo 24 (.agg [(.int .i64 0),(.int .i64 0)] []),xn (.store false 2 (.t 4) (.t 24))] [24])
.ret))))))
/-- caesura/parse.read -/
def fn1151 : AFn := ⟨2, 25, c1151, [(.c 4 true 2)], 0⟩
theorem fn1151_body : fn1151.body = c1151 := rfl
theorem fn1151_res : fn1151.res = [(.c 4 true 2)] := rfl
theorem fn1151_keep : fn1151.keep = 0 := rfl
def c1264 : ACode :=
(.reg [xm 3 0,xo 4 (.call 77 [(false, (.t 3))]),xn (.store false 3 (.t 1) (.t 4))] [3,4])
/-- caesura/parse.Rules$1 -/
def fn1264 : AFn := ⟨2, 5, c1264, [], 0⟩
theorem fn1264_body : fn1264.body = c1264 := rfl
theorem fn1264_res : fn1264.res = [] := rfl
theorem fn1264_keep : fn1264.keep = 0 := rfl
def c1265 : ACode :=
(.seq (.reg [xo 2 (.new [.nils, .nils, (.bool false)])] [])
(.seq (.reg [xo 3 (.new [.nils, .nils, (.bool false)])] [])
(.seq (.block 0 (.loop true (.seq (.seq (.reg [xm 4 0,⟨(some 5), none, .mkl 9 1 [(.str ⟨#[]⟩)] 1 [(0, (.k (.str ⟨#[99, 108, 97, 115, 115]⟩)))] false, []⟩,xo 6 (.call 114 [(false, (.t 4)),(true, (ki 1)),(true, (.t 5))])] [4,5])
(.cond (.t 6) [6] .skip (.exit 0)))
(.block 1 (.dreg [xo 7 (.faddr 0 (.t 3)),yo 8 (.load false 1 (.t 7)) [0],xm 9 0,yo 10 (.call 115 [(false, (.t 9))]) [2],⟨(some 11), none, .mkl 96 2 [(.str ⟨#[]⟩),(.list 2 [])] 1 [(0, (.t 10))] false, [2, 3]⟩,yo 12 (.app 96 2 40 (.t 8) (.t 11)) [0, 1, 2, 3, 4],yo 13 (.faddr 0 (.t 3)) [0, 1, 2, 3, 4, 5],⟨none, none, .store true 1 (.t 13) (.t 12), [0, 1, 2, 3, 4, 5, 6]⟩] (rng 7 7))))))
(.seq (.block 2 (.loop true (.seq (.seq (.reg [xm 14 0,⟨(some 15), none, .mkl 9 1 [(.str ⟨#[]⟩)] 1 [(0, (.k (.str ⟨#[101, 108, 115, 101]⟩)))] false, []⟩,xo 16 (.call 114 [(false, (.t 14)),(true, (ki 1)),(true, (.t 15))]),xo 17 (.un .not (.t 16))] [14,15,16])
(.cond (.t 17) [17] .skip (.exit 2)))
(.block 3 (.seq (.seq (.reg [xo 18 (.faddr 1 (.t 3)),xo 19 (.load false 1 (.t 18)),xo 20 (.len 1 (.t 19)),xo 21 (.bin .eql 0 (.t 20) (ki 40)),xm 22 21,xt 23 22 (.mov (.t 0)),xt 24 22 (.nilck (.t 23)),xt 25 22 (.faddr 0 (.t 24)),xt 26 22 (.load false 1 (.t 25)),xt 27 22 (.len 1 (.t 26)),xt 28 22 (.bin .gtr 0 (.t 27) (ki 0)),xo 29 (.pick (.t 22) (.t 28) kf)] (rng 18 11))
(.cond (.t 29) [29] (.reg [xm 30 0,xo 31 (.call 117 [(false, (.t 30))]),xo 32 (.call 116 [(true, (ki 14)),(true, (.t 31))])] [30,31,32]) .skip))
(.dreg [xo 33 (.faddr 1 (.t 3)),yo 34 (.load false 1 (.t 33)) [0],xm 35 0,yo 36 (.call 118 [(false, (.t 35))]) [2],yo 37 (.mkl 42 3 [(.list 5 []),(.list 5 []),(.bool false)] 1 [(0, (.t 36))] false) [2, 3],yo 38 (.app 42 3 56 (.t 34) (.t 37)) [0, 1, 2, 3, 4],yo 39 (.faddr 1 (.t 3)) [0, 1, 2, 3, 4, 5],⟨none, none, .store true 1 (.t 39) (.t 38), [0, 1, 2, 3, 4, 5, 6]⟩] (rng 33 7)))))))
(.seq (.reg [xm 40 0,⟨(some 41), none, .mkl 9 1 [(.str ⟨#[]⟩)] 1 [(0, (.k (.str ⟨#[101, 108, 115, 101]⟩)))] false, []⟩,xo 42 (.call 119 [(false, (.t 40)),(true, (ki 1)),(true, (.t 41))])] [40,41,42])
(.seq (.reg [xm 43 0,xo 44 (.call 120 [(false, (.t 43))]),xo 45 (.faddr 2 (.t 3)),xn (.store true 1 (.t 45) (.t 44))] [43,44,45])
(.seq (.reg [xm 46 0,⟨(some 47), none, .mkl 9 1 [(.str ⟨#[]⟩)] 1 [(0, (.k (.str ⟨#[59]⟩)))] false, []⟩,xo 48 (.call 119 [(false, (.t 46)),(true, (ki 3)),(true, (.t 47))])] [46,47,48])
(.seq (.reg [xm 49 0,xo 50 (.call 121 [(false, (.t 49))])] [49,50])
(.seq (.reg [xo 51 (.load true 3 (.t 3)),xn (.store true 3 (.t 2) (.t 51))] [51])
.ret)))))))))
/-- (*caesura/parse.reader).rules -/
def fn1265 : AFn := ⟨1, 52, c1265, [(.cz 2 3 [2,3,0])], 0⟩
theorem fn1265_body : fn1265.body = c1265 := rfl
theorem fn1265_res : fn1265.res = [(.cz 2 3 [2, 3, 0])] := rfl
theorem fn1265_keep : fn1265.keep = 0 := rfl
def c1100 : ACode :=
(.seq (.reg [xo 4 (.mov kf)] [])
(.seq (.reg [xm 5 0,xm 6 1,xo 7 (.call 122 [(false, (.t 5)),(false, (.t 6))]),xo 8 (.bin .geq 0 (.t 7) (ki 0)),xm 4 8] (rng 5 4))
.ret))
/-- slices.ContainsFunc[[]int,int] -/
def fn1100 : AFn := ⟨2, 9, c1100, [(.t 4)], 0⟩
theorem fn1100_body : fn1100.body = c1100 := rfl
theorem fn1100_res : fn1100.res = [(.t 4)] := rfl
theorem fn1100_keep : fn1100.keep = 0 := rfl
def c1266 : ACode :=
(.seq (.reg [xo 2 (.mov kf)] [])
(.seq (.reg [xm 3 0,xo 4 (.call 80 [(true, (.t 3))]),xo 5 (.un .not (.t 4)),xm 2 5] [3,4,5])
.ret))
/-- caesura/means.made$1 -/
def fn1266 : AFn := ⟨1, 6, c1266, [(.t 2)], 0⟩
theorem fn1266_body : fn1266.body = c1266 := rfl
theorem fn1266_res : fn1266.res = [(.t 2)] := rfl
theorem fn1266_keep : fn1266.keep = 0 := rfl
def c97 : ACode :=
(.seq (.reg [xo 2 (.mov kf)] [])
(.seq (.reg [xm 6 0,xo 7 (.call 123 [(true, (.t 6))]),xm 5 7,xo 8 (.ext (.t 5) 0),xo 9 (.ext (.t 5) 1),xm 3 8,xm 4 9] [3,5,6,7,8,9])
(.seq (.reg [xm 10 4,xm 2 10] [10])
.ret)))
/-- caesura/scalar.Is -/
def fn97 : AFn := ⟨1, 11, c97, [(.t 2)], 0⟩
theorem fn97_body : fn97.body = c97 := rfl
theorem fn97_res : fn97.res = [(.t 2)] := rfl
theorem fn97_keep : fn97.keep = 0 := rfl
def c1267 : ACode :=
(.seq (.reg [xo 6 (.mov kf)] [])
(.seq (.reg [xm 10 1,xm 11 2,xo 12 (.agg [(.int .i64 0),(.int .i64 0)] [(0, 1, (.t 10)),(1, 1, (.t 11))]),xo 7 (.new [(.int .i64 0),(.int .i64 0)]),xn (.store false 2 (.t 7) (.t 12))] [10,11,12])
(.seq (.dreg [xm 14 0,yo 15 (.nilck (.t 14)) [0],yo 16 (.faddr 4 (.t 15)) [0, 1],yo 17 (.load false 1 (.t 16)) [0, 1, 2],xo 18 (.load true 2 (.t 7)),yo 19 (.look 3 [0,0] (.int .i64 0) true (.t 17) (.t 18)) [0, 1, 2, 3, 4],ym 13 19 [0, 1, 2, 3, 4, 5],yo 20 (.ext (.t 13) 0) [0, 1, 2, 3, 4, 5, 6],yo 21 (.ext (.t 13) 1) [0, 1, 2, 3, 4, 5, 6],ym 8 20 [0, 1, 2, 3, 4, 5, 6, 7],ym 9 21 (rng 0 10)] (rng 13 9))
(.seq (.seq (.reg [xm 22 9,xo 23 (.un .not (.t 22))] [22])
(.cond (.t 23) [23] (.seq (.seq (.dreg [xm 24 0,yo 25 (.nilck (.t 24)) [0],yo 26 (.faddr 0 (.t 25)) [0, 1],yo 27 (.faddr 1 (.t 26)) [0, 1, 2],yo 28 (.load false 1 (.t 27)) [0, 1, 2, 3],xm 29 1,yo 30 (.iaddr 3 (.t 28) (.t 29)) [0, 1, 2, 3, 4, 5],yo 31 (.load true 3 (.t 30)) [0, 1, 2, 3, 4, 5, 6],xm 32 0,yo 33 (.nilck (.t 32)) [8],yo 34 (.faddr 3 (.t 33)) [8, 9],yo 35 (.load false 1 (.t 34)) [8, 9, 10],xm 36 2,yo 37 (.call 19 [(true, (.t 31)),(true, (.t 35)),(true, (.t 36))]) (rng 0 13)] (rng 24 13))
(.cond (.t 37) [37] (.reg [xo 8 (.mov (ki 1))] []) .skip))
(.dreg [xm 38 0,yo 39 (.nilck (.t 38)) [0],yo 40 (.faddr 4 (.t 39)) [0, 1],yo 41 (.load false 1 (.t 40)) [0, 1, 2],xo 42 (.load true 2 (.t 7)),xm 43 8,⟨none, none, .mset 3 [0,0] (.t 41) (.t 42) (.t 43), [0, 1, 2, 3, 4, 5]⟩] (rng 38 6))) .skip))
(.seq (.reg [xm 44 8,xo 45 (.bin .eql 0 (.t 44) (ki 1)),xm 6 45] [44,45])
.ret)))))
/-- (*caesura/means.asker).tells -/
def fn1267 : AFn := ⟨3, 46, c1267, [(.t 6)], 0⟩
theorem fn1267_body : fn1267.body = c1267 := rfl
theorem fn1267_res : fn1267.res = [(.t 6)] := rfl
theorem fn1267_keep : fn1267.keep = 0 := rfl
def c36 : ACode :=
(.seq (.reg [xo 2 (.anil 3 1)] [])
(.seq (.reg [xo 3 (.anil 3 1)] [])
(.seq (.seq (.reg [xo 4 (.mov (ki 0))] [])
(.block 0 (.loop false (.seq (.seq (.reg [xm 6 4,xm 7 0,xo 8 (.len 1 (.t 7)),xo 9 (.bin .lss 0 (.t 6) (.t 8))] [6,7,8])
(.cond (.t 9) [9] .skip (.exit 0)))
(.seq (.block 1 (.seq (.reg [xm 12 0,xm 13 4,xo 14 (.iaddr 5 (.t 12) (.t 13)),xo 15 (.load true 5 (.t 14)),⟨(some 5), none, .new [(.int .i64 0),(.int .i64 0),(.int .i64 0),(.list 2 []),(.str ⟨#[]⟩)], []⟩,xn (.store false 5 (.t 5) (.t 15))] (rng 12 4))
(.seq (.seq (.reg [xo 16 (.faddr 0 (.t 5)),xo 17 (.load false 1 (.t 16)),xo 18 (.bin .neq 0 (.t 17) (ki 2)),xm 19 18,xt 20 19 (.faddr 3 (.t 5)),xt 21 19 (.load false 1 (.t 20)),xt 22 19 (.len 1 (.t 21)),xt 23 19 (.bin .gtr 0 (.t 22) (ki 0)),xt 24 19 (.mov (.t 23)),xf 25 24 (.faddr 4 (.t 5)),xf 26 24 (.load false 1 (.t 25)),⟨(some 27),(some (24, false)), .bin .neq 0 (.t 26) (.k (.str ⟨#[]⟩)), []⟩,xt 28 19 (.pick (.t 24) kt (.t 27)),xo 29 (.pick (.t 19) (.t 28) kf)] (rng 16 13))
(.cond (.t 29) [29] (.seq (.reg [xo 2 (.anil 3 1)] [])
.ret) .skip))
(.seq (.reg [xo 30 (.faddr 0 (.t 5)),xo 31 (.load false 1 (.t 30))] [30])
(.block 2 (.seq (.seq (.reg [xo 33 (.bin .eql 0 (.t 31) (ki 0)),xm 32 33] [33])
(.cond (.t 32) [] .skip (.seq (.reg [xo 34 (.bin .eql 0 (.t 31) (ki 1)),xm 32 34] [34])
(.cond (.t 32) [] .skip (.reg [xo 35 (.bin .eql 0 (.t 31) (ki 2)),xm 32 35] [35])))))
(.cond (.t 32) [] (.seq (.seq (.reg [xo 36 (.faddr 1 (.t 5)),xo 37 (.load false 1 (.t 36)),xo 38 (.bin .neq 0 (.t 37) (ki 0)),xm 39 38,xf 40 39 (.faddr 2 (.t 5)),xf 41 39 (.load false 1 (.t 40)),xf 42 39 (.bin .neq 0 (.t 41) (ki 0)),xo 43 (.pick (.t 39) kt (.t 42)),xm 44 43,xf 45 44 (.faddr 0 (.t 5)),xf 46 44 (.load false 1 (.t 45)),xf 47 44 (.bin .eql 0 (.t 46) (ki 2)),xf 48 44 (.mov (.t 47)),xt 49 48 (.faddr 3 (.t 5)),xt 50 48 (.load false 1 (.t 49)),xt 51 48 (.len 1 (.t 50)),xt 52 48 (.bin .eql 0 (.t 51) (ki 0)),xt 53 48 (.mov (.t 52)),xf 54 53 (.faddr 3 (.t 5)),xf 55 53 (.load false 1 (.t 54)),xf 56 53 (.call 53 [(true, (.t 55))]),xf 57 53 (.un .not (.t 56)),xt 58 48 (.pick (.t 53) kt (.t 57)),xf 59 44 (.pick (.t 48) (.t 58) kf),xo 60 (.pick (.t 44) kt (.t 59))] (rng 36 24))
(.cond (.t 60) [60] (.seq (.reg [xo 2 (.anil 3 1)] [])
.ret) .skip))
(.reg [xm 61 3,xm 62 4,xo 63 (.mkl 3 1 [(.int .i64 0)] 1 [(0, (.t 62))] false),xo 64 (.app 3 1 8 (.t 61) (.t 63)),xm 3 64] (rng 61 4))) (.seq (.reg [xo 66 (.bin .eql 0 (.t 31) (ki 5)),xm 65 66] [66])
(.cond (.t 65) [65] (.seq (.seq (.reg [xm 67 4,xo 68 (.bin .eql 0 (.t 67) (ki 0)),xm 69 68,xf 70 69 (.faddr 1 (.t 5)),xf 71 69 (.load false 1 (.t 70)),xf 72 69 (.mov (.t 4)),xf 73 69 (.bin .sub 0 (.t 72) (ki 1)),xf 74 69 (.bin .neq 0 (.t 71) (.t 73)),xo 75 (.pick (.t 69) kt (.t 74)),xm 76 75,xf 77 76 (.faddr 2 (.t 5)),xf 78 76 (.load false 1 (.t 77)),xf 79 76 (.bin .neq 0 (.t 78) (ki 0)),xo 80 (.pick (.t 76) kt (.t 79))] (rng 67 13))
(.cond (.t 80) [80] (.seq (.reg [xo 2 (.anil 3 1)] [])
.ret) .skip))
(.reg [xm 81 3,xm 82 3,xm 83 4,xo 84 (.bin .sub 0 (.t 83) (ki 1)),xo 85 (.iaddr 1 (.t 82) (.t 84)),xo 86 (.load false 1 (.t 85)),xo 87 (.mkl 3 1 [(.int .i64 0)] 1 [(0, (.t 86))] false),xo 88 (.app 3 1 8 (.t 81) (.t 87)),xm 3 88] (rng 81 8))) (.seq (.seq (.reg [xo 90 (.bin .eql 0 (.t 31) (ki 3)),xm 89 90] [90])
(.cond (.t 89) [] .skip (.reg [xo 91 (.bin .eql 0 (.t 31) (ki 4)),xm 89 91] [91])))
(.cond (.t 89) [] (.seq (.seq (.dreg [xm 92 4,yo 93 (.bin .lss 0 (.t 92) (ki 2)) [0],ym 94 93 [0, 1],yf 95 94 (.faddr 2 (.t 5)) [0, 1, 2],yf 96 94 (.load false 1 (.t 95)) [0, 1, 2, 3],yf 97 94 (.mov (.t 4)) [0, 1, 2],yf 98 94 (.bin .sub 0 (.t 97) (ki 1)) [0, 1, 2, 5],yf 99 94 (.bin .neq 0 (.t 96) (.t 98)) [0, 1, 2, 3, 4, 5, 6],yo 100 (.pick (.t 94) kt (.t 99)) [0, 1, 2, 3, 4, 5, 6, 7],ym 101 100 [0, 1, 2, 3, 4, 5, 6, 7, 8],yf 102 101 (.mov (.t 3)) [0, 1, 2, 3, 4, 5, 6, 7, 8, 9],yf 103 101 (.mov (.t 4)) [0, 1, 2, 3, 4, 5, 6, 7, 8, 9],yf 104 101 (.bin .sub 0 (.t 103) (ki 1)) [0, 1, 2, 3, 4, 5, 6, 7, 8, 9, 11],yf 105 101 (.iaddr 1 (.t 102) (.t 104)) [0, 1, 2, 3, 4, 5, 6, 7, 8, 9, 10, 11, 12],yf 106 101 (.load false 1 (.t 105)) [0, 1, 2, 3, 4, 5, 6, 7, 8, 9, 10, 11, 12, 13],yf 107 101 (.bin .lss 0 (.t 106) (ki 1)) [0, 1, 2, 3, 4, 5, 6, 7, 8, 9, 10, 11, 12, 13, 14],yo 108 (.pick (.t 101) kt (.t 107)) [0, 1, 2, 3, 4, 5, 6, 7, 8, 9, 10, 11, 12, 13, 14, 15],ym 109 108 [0, 1, 2, 3, 4, 5, 6, 7, 8, 9, 10, 11, 12, 13, 14, 15, 16],yf 110 109 (.faddr 1 (.t 5)) [0, 1, 2, 3, 4, 5, 6, 7, 8, 9, 10, 11, 12, 13, 14, 15, 16, 17],yf 111 109 (.load false 1 (.t 110)) [0, 1, 2, 3, 4, 5, 6, 7, 8, 9, 10, 11, 12, 13, 14, 15, 16, 17, 18],yf 112 109 (.mov (.t 3)) [0, 1, 2, 3, 4, 5, 6, 7, 8, 9, 10, 11, 12, 13, 14, 15, 16, 17],yf 113 109 (.mov (.t 4)) [0, 1, 2, 3, 4, 5, 6, 7, 8, 9, 10, 11, 12, 13, 14, 15, 16, 17],yf 114 109 (.bin .sub 0 (.t 113) (ki 1)) [0, 1, 2, 3, 4, 5, 6, 7, 8, 9, 10, 11, 12, 13, 14, 15, 16, 17, 21],yf 115 109 (.iaddr 1 (.t 112) (.t 114)) [0, 1, 2, 3, 4, 5, 6, 7, 8, 9, 10, 11, 12, 13, 14, 15, 16, 17, 20, 21, 22],yf 116 109 (.load false 1 (.t 115)) [0, 1, 2, 3, 4, 5, 6, 7, 8, 9, 10, 11, 12, 13, 14, 15, 16, 17, 20, 21, 22, 23],yf 117 109 (.bin .sub 0 (.t 116) (ki 1)) [0, 1, 2, 3, 4, 5, 6, 7, 8, 9, 10, 11, 12, 13, 14, 15, 16, 17, 20, 21, 22, 23, 24],yf 118 109 (.bin .neq 0 (.t 111) (.t 117)) [0, 1, 2, 3, 4, 5, 6, 7, 8, 9, 10, 11, 12, 13, 14, 15, 16, 17, 18, 19, 20, 21, 22, 23, 24, 25],yo 119 (.pick (.t 109) kt (.t 118)) (rng 0 27)] (rng 92 27))
(.cond (.t 119) [119] (.seq (.reg [xo 2 (.anil 3 1)] [])
.ret) .skip))
(.reg [xm 120 3,xm 121 3,xo 122 (.faddr 1 (.t 5)),xo 123 (.load false 1 (.t 122)),xo 124 (.iaddr 1 (.t 121) (.t 123)),xo 125 (.load false 1 (.t 124)),xo 126 (.mkl 3 1 [(.int .i64 0)] 1 [(0, (.t 125))] false),xo 127 (.app 3 1 8 (.t 120) (.t 126)),xm 3 127] (rng 120 8))) (.seq (.reg [xo 2 (.anil 3 1)] [])
.ret))))))))))))
(.reg [xm 10 4,xo 11 (.bin .add 0 (.t 10) (ki 1)),xm 4 11] [10,11]))))))
(.seq (.reg [xm 128 3,xm 2 128] [128])
.ret))))
/-- caesura/caesuraref11.Begin -/
def fn36 : AFn := ⟨1, 129, c36, [(.t 2)], 0⟩
theorem fn36_body : fn36.body = c36 := rfl
theorem fn36_res : fn36.res = [(.t 2)] := rfl
theorem fn36_keep : fn36.keep = 0 := rfl
def c1268 : ACode :=
(.seq (.reg [xo 2 (.mov kf)] [])
(.seq (.reg [xm 3 0,xo 4 (.bin .geq 0 (.t 3) (.k (.int .u8 97))),xm 5 4,xt 6 5 (.mov (.t 0)),xt 7 5 (.bin .leq 0 (.t 6) (.k (.int .u8 122))),xo 8 (.pick (.t 5) (.t 7) kf),xm 2 8] (rng 3 6))
.ret))
/-- caesura/caesuraref14.small -/
def fn1268 : AFn := ⟨1, 9, c1268, [(.t 2)], 0⟩
theorem fn1268_body : fn1268.body = c1268 := rfl
theorem fn1268_res : fn1268.res = [(.t 2)] := rfl
theorem fn1268_keep : fn1268.keep = 0 := rfl
def c1269 : ACode :=
(.seq (.reg [xo 2 (.mov kf)] [])
(.seq (.reg [xm 3 0,xo 4 (.bin .geq 0 (.t 3) (.k (.int .u8 48))),xm 5 4,xt 6 5 (.mov (.t 0)),xt 7 5 (.bin .leq 0 (.t 6) (.k (.int .u8 57))),xo 8 (.pick (.t 5) (.t 7) kf),xm 2 8] (rng 3 6))
.ret))
/-- caesura/caesuraref14.digit -/
def fn1269 : AFn := ⟨1, 9, c1269, [(.t 2)], 0⟩
theorem fn1269_body : fn1269.body = c1269 := rfl
theorem fn1269_res : fn1269.res = [(.t 2)] := rfl
theorem fn1269_keep : fn1269.keep = 0 := rfl
def c96 : ACode :=
(.seq (.reg [xo 2 (.new [(.int .i64 0),(.bool false)])] [])
(.seq (.block 0 (.seq (.reg [xm 4 0,xo 5 (.bin .geq 0 (.t 4) (ki 1114111)),xm 3 5] [4,5])
(.cond (.t 3) [3] (.seq (.reg [xo 6 (.agg [(.int .i64 0),(.bool false)] []),xn (.store false 2 (.t 2) (.t 6))] [6])
.ret) (.seq (.reg [xm 8 0,xo 9 (.bin .lss 0 (.t 8) (ki 0)),xm 7 9] [8,9])
(.cond (.t 7) [7] (.seq (.reg [xo 10 (.agg [(.int .i64 0),(.bool false)] [(0, 1, (ki 0)),(1, 1, kt)]),xn (.store false 2 (.t 2) (.t 10))] [10])
.ret) (.seq (.reg [xm 12 0,xo 13 (.bin .geq 0 (.t 12) (ki 55295)),xm 14 13,xt 15 14 (.mov (.t 0)),xt 16 14 (.bin .lss 0 (.t 15) (ki 57344)),xo 17 (.pick (.t 14) (.t 16) kf),xm 11 17] (rng 12 6))
(.cond (.t 11) [11] (.seq (.reg [xo 18 (.agg [(.int .i64 0),(.bool false)] [(0, 1, (ki 57344)),(1, 1, kt)]),xn (.store false 2 (.t 2) (.t 18))] [18])
.ret) .skip)))))))
(.seq (.reg [xm 19 0,xo 20 (.bin .add 0 (.t 19) (ki 1)),xo 21 (.agg [(.int .i64 0),(.bool false)] [(0, 1, (.t 20)),(1, 1, kt)]),xn (.store false 2 (.t 2) (.t 21))] [19,20,21])
.ret)))
/-- caesura/caesuraref01.Next -/
def fn96 : AFn := ⟨1, 22, c96, [(.c 2 true 2)], 0⟩
theorem fn96_body : fn96.body = c96 := rfl
theorem fn96_res : fn96.res = [(.c 2 true 2)] := rfl
theorem fn96_keep : fn96.keep = 0 := rfl
def c1270 : ACode :=
(.seq (.reg [xo 4 (.mov kf)] [])
(.seq (.seq (.reg [xm 6 0,xo 7 (.len 1 (.t 6)),xm 8 1,xo 9 (.len 1 (.t 8)),xo 10 (.bin .neq 0 (.t 7) (.t 9))] (rng 6 4))
(.cond (.t 10) [10] (.seq (.reg [xo 4 (.mov kf)] [])
.ret) .skip))
(.seq (.seq (.reg [xo 5 (.mov (ki 0))] [])
(.block 0 (.loop false (.seq (.seq (.reg [xm 11 5,xm 12 0,xo 13 (.len 1 (.t 12)),xo 14 (.bin .lss 0 (.t 11) (.t 13))] [11,12,13])
(.cond (.t 14) [14] .skip (.exit 0)))
(.seq (.block 1 (.seq (.dreg [xm 17 0,xm 18 5,yo 19 (.iaddr 2 (.t 17) (.t 18)) [0, 1],yo 20 (.load true 2 (.t 19)) [0, 1, 2],xm 21 1,xm 22 5,yo 23 (.iaddr 2 (.t 21) (.t 22)) [4, 5],yo 24 (.load true 2 (.t 23)) [4, 5, 6],yo 25 (.bins .neq [0,0] (.t 20) (.t 24)) (rng 0 8)] (rng 17 8))
(.cond (.t 25) [25] (.seq (.reg [xo 4 (.mov kf)] [])
.ret) .skip)))
(.reg [xm 15 5,xo 16 (.bin .add 0 (.t 15) (ki 1)),xm 5 16] [15,16]))))))
(.seq (.reg [xo 4 (.mov kt)] [])
.ret))))
/-- caesura/caesuraref16.same -/
def fn1270 : AFn := ⟨2, 26, c1270, [(.t 4)], 0⟩
theorem fn1270_body : fn1270.body = c1270 := rfl
theorem fn1270_res : fn1270.res = [(.t 4)] := rfl
theorem fn1270_keep : fn1270.keep = 0 := rfl
def c71 : ACode :=
(.seq (.reg [xo 2 (.anil 3 1),xo 3 (.mov kf)] [])
(.seq (.reg [xm 7 0,xo 8 (.len 1 (.t 7)),xo 9 (.mks 3 1 8 [(.int .i64 0)] (.t 8)),xm 4 9] [7,8,9])
(.seq (.seq (.reg [xm 10 0,xo 11 (.len 1 (.t 10)),xo 12 (.mov (ki 0))] [])
(.block 0 (.loop false (.seq (.reg [xo 13 (.bin .lss 0 (.t 12) (.t 11))] [])
(.seq (.cond (.t 13) [13] .skip (.exit 0))
(.seq (.block 1 (.seq (.reg [xm 14 12,xo 15 (.iaddr 5 (.t 10) (.t 12)),xo 16 (.load true 5 (.t 15)),⟨(some 6), none, .new [(.int .i64 0),(.int .i64 0),(.int .i64 0),(.list 2 []),(.str ⟨#[]⟩)], []⟩,xm 5 14,xn (.store false 5 (.t 6) (.t 16))] [14,15,16])
(.seq (.reg [xo 17 (.faddr 0 (.t 6)),xo 18 (.load false 1 (.t 17))] [17])
(.block 2 (.seq (.seq (.reg [xo 27 (.bin .eql 0 (.t 18) (ki 3)),xm 26 27] [27])
(.cond (.t 26) [] .skip (.reg [xo 28 (.bin .eql 0 (.t 18) (ki 4)),xm 26 28] [28])))
(.cond (.t 26) [] (.seq (.seq (.dreg [xm 29 5,yo 30 (.bin .lss 0 (.t 29) (ki 2)) [0],ym 31 30 [0, 1],yf 32 31 (.faddr 2 (.t 6)) [0, 1, 2],yf 33 31 (.load false 1 (.t 32)) [0, 1, 2, 3],yf 34 31 (.mov (.t 5)) [0, 1, 2],yf 35 31 (.bin .sub 0 (.t 34) (ki 1)) [0, 1, 2, 5],yf 36 31 (.bin .neq 0 (.t 33) (.t 35)) [0, 1, 2, 3, 4, 5, 6],yo 37 (.pick (.t 31) kt (.t 36)) [0, 1, 2, 3, 4, 5, 6, 7],ym 38 37 [0, 1, 2, 3, 4, 5, 6, 7, 8],yf 39 38 (.faddr 1 (.t 6)) [0, 1, 2, 3, 4, 5, 6, 7, 8, 9],yf 40 38 (.load false 1 (.t 39)) [0, 1, 2, 3, 4, 5, 6, 7, 8, 9, 10],yf 41 38 (.mov (.t 4)) [0, 1, 2, 3, 4, 5, 6, 7, 8, 9],yf 42 38 (.faddr 2 (.t 6)) [0, 1, 2, 3, 4, 5, 6, 7, 8, 9],yf 43 38 (.load false 1 (.t 42)) [0, 1, 2, 3, 4, 5, 6, 7, 8, 9, 13],yf 44 38 (.iaddr 1 (.t 41) (.t 43)) [0, 1, 2, 3, 4, 5, 6, 7, 8, 9, 12, 13, 14],yf 45 38 (.load false 1 (.t 44)) [0, 1, 2, 3, 4, 5, 6, 7, 8, 9, 12, 13, 14, 15],yf 46 38 (.bin .sub 0 (.t 45) (ki 1)) [0, 1, 2, 3, 4, 5, 6, 7, 8, 9, 12, 13, 14, 15, 16],yf 47 38 (.bin .neq 0 (.t 40) (.t 46)) [0, 1, 2, 3, 4, 5, 6, 7, 8, 9, 10, 11, 12, 13, 14, 15, 16, 17],yo 48 (.pick (.t 38) kt (.t 47)) [0, 1, 2, 3, 4, 5, 6, 7, 8, 9, 10, 11, 12, 13, 14, 15, 16, 17, 18],ym 49 48 [0, 1, 2, 3, 4, 5, 6, 7, 8, 9, 10, 11, 12, 13, 14, 15, 16, 17, 18, 19],yf 50 49 (.faddr 1 (.t 6)) [0, 1, 2, 3, 4, 5, 6, 7, 8, 9, 10, 11, 12, 13, 14, 15, 16, 17, 18, 19, 20],yf 51 49 (.load false 1 (.t 50)) [0, 1, 2, 3, 4, 5, 6, 7, 8, 9, 10, 11, 12, 13, 14, 15, 16, 17, 18, 19, 20, 21],yf 52 49 (.bin .lss 0 (.t 51) (ki 0)) [0, 1, 2, 3, 4, 5, 6, 7, 8, 9, 10, 11, 12, 13, 14, 15, 16, 17, 18, 19, 20, 21, 22],yo 53 (.pick (.t 49) kt (.t 52)) [0, 1, 2, 3, 4, 5, 6, 7, 8, 9, 10, 11, 12, 13, 14, 15, 16, 17, 18, 19, 20, 21, 22, 23],ym 54 53 [0, 1, 2, 3, 4, 5, 6, 7, 8, 9, 10, 11, 12, 13, 14, 15, 16, 17, 18, 19, 20, 21, 22, 23, 24],yf 55 54 (.load true 5 (.t 6)) [0, 1, 2, 3, 4, 5, 6, 7, 8, 9, 10, 11, 12, 13, 14, 15, 16, 17, 18, 19, 20, 21, 22, 23, 24, 25],yf 56 54 (.call 124 [(true, (.t 55))]) [0, 1, 2, 3, 4, 5, 6, 7, 8, 9, 10, 11, 12, 13, 14, 15, 16, 17, 18, 19, 20, 21, 22, 23, 24, 25, 26],yf 57 54 (.un .not (.t 56)) [0, 1, 2, 3, 4, 5, 6, 7, 8, 9, 10, 11, 12, 13, 14, 15, 16, 17, 18, 19, 20, 21, 22, 23, 24, 25, 26, 27],yo 58 (.pick (.t 54) kt (.t 57)) (rng 0 29)] (rng 29 29))
(.cond (.t 58) [58] (.seq (.reg [xo 2 (.anil 3 1),xo 3 (.mov kf)] [])
.ret) .skip))
(.reg [xm 59 4,xm 60 5,xm 61 4,xo 62 (.faddr 1 (.t 6)),xo 63 (.load false 1 (.t 62)),xo 64 (.iaddr 1 (.t 61) (.t 63)),xo 65 (.load false 1 (.t 64)),xo 66 (.iaddr 1 (.t 59) (.t 60)),xn (.store false 1 (.t 66) (.t 65))] (rng 59 8))) (.seq (.reg [xo 68 (.bin .eql 0 (.t 18) (ki 5)),xm 67 68] [68])
(.cond (.t 67) [67] (.seq (.seq (.reg [xm 69 5,xo 70 (.bin .lss 0 (.t 69) (ki 1)),xm 71 70,xf 72 71 (.faddr 1 (.t 6)),xf 73 71 (.load false 1 (.t 72)),xf 74 71 (.mov (.t 5)),xf 75 71 (.bin .sub 0 (.t 74) (ki 1)),xf 76 71 (.bin .neq 0 (.t 73) (.t 75)),xo 77 (.pick (.t 71) kt (.t 76)),xm 78 77,xf 79 78 (.faddr 2 (.t 6)),xf 80 78 (.load false 1 (.t 79)),xf 81 78 (.bin .neq 0 (.t 80) (ki 0)),xo 82 (.pick (.t 78) kt (.t 81)),xm 83 82,xf 84 83 (.load true 5 (.t 6)),xf 85 83 (.call 124 [(true, (.t 84))]),xf 86 83 (.un .not (.t 85)),xo 87 (.pick (.t 83) kt (.t 86))] (rng 69 18))
(.cond (.t 87) [87] (.seq (.reg [xo 2 (.anil 3 1),xo 3 (.mov kf)] [])
.ret) .skip))
(.reg [xm 88 4,xm 89 5,xm 90 4,xo 91 (.faddr 1 (.t 6)),xo 92 (.load false 1 (.t 91)),xo 93 (.iaddr 1 (.t 90) (.t 92)),xo 94 (.load false 1 (.t 93)),xo 95 (.iaddr 1 (.t 88) (.t 89)),xn (.store false 1 (.t 95) (.t 94))] (rng 88 8))) (.seq (.seq (.reg [xo 19 (.load true 5 (.t 6)),xo 20 (.call 125 [(true, (.t 19))]),xo 21 (.un .not (.t 20))] [19,20])
(.cond (.t 21) [21] (.seq (.reg [xo 2 (.anil 3 1),xo 3 (.mov kf)] [])
.ret) .skip))
(.reg [xm 22 4,xm 23 5,xm 24 5,xo 25 (.iaddr 1 (.t 22) (.t 23)),xn (.store false 1 (.t 25) (.t 24))] (rng 22 4)))))))))))
(.reg [xo 96 (.bin .add 0 (.t 12) (ki 1)),xm 12 96] [96])))))))
(.seq (.reg [xm 97 4,xm 2 97,xo 3 (.mov kt)] [97])
.ret))))
/-- caesura/tree.begins -/
def fn71 : AFn := ⟨1, 98, c71, [(.t 2),(.t 3)], 0⟩
theorem fn71_body : fn71.body = c71 := rfl
theorem fn71_res : fn71.res = [(.t 2), (.t 3)] := rfl
theorem fn71_keep : fn71.keep = 0 := rfl
def c105 : ACode :=
(.seq (.reg [xo 6 (.box (.t 1)),xo 10 (.mov kf)] [])
(.seq (.seq (.reg [xo 11 (.faddr 0 (.t 6)),xo 12 (.load false 1 (.t 11))] [11])
(.block 0 (.seq (.reg [xo 14 (.bin .eql 0 (.t 12) (ki 1)),xm 13 14] [14])
(.cond (.t 13) [13] (.seq (.reg [xm 15 3,xm 16 4,xo 17 (.bin .eql 0 (.t 15) (.t 16)),xm 10 17] [15,16,17])
.ret) (.seq (.reg [xo 19 (.bin .eql 0 (.t 12) (ki 2)),xm 18 19] [19])
(.cond (.t 18) [18] (.seq (.dreg [xm 20 4,xm 21 3,yo 22 (.bin .add 0 (.t 21) (ki 1)) [1],yo 23 (.bin .eql 0 (.t 20) (.t 22)) [0, 1, 2],ym 24 23 [0, 1, 2, 3],yt 25 24 (.faddr 3 (.t 6)) [0, 1, 2, 3, 4],yt 26 24 (.load false 1 (.t 25)) [0, 1, 2, 3, 4, 5],yt 27 24 (.mov (.t 0)) [0, 1, 2, 3, 4],yt 28 24 (.nilck (.t 27)) [0, 1, 2, 3, 4, 7],yt 29 24 (.faddr 1 (.t 28)) [0, 1, 2, 3, 4, 7, 8],yt 30 24 (.load false 1 (.t 29)) [0, 1, 2, 3, 4, 7, 8, 9],yt 31 24 (.mov (.t 3)) [0, 1, 2, 3, 4],yt 32 24 (.iaddr 1 (.t 30) (.t 31)) [0, 1, 2, 3, 4, 7, 8, 9, 10, 11],yt 33 24 (.load false 1 (.t 32)) [0, 1, 2, 3, 4, 7, 8, 9, 10, 11, 12],yt 34 24 (.call 69 [(true, (.t 26)),(true, (.t 33))]) [0, 1, 2, 3, 4, 5, 6, 7, 8, 9, 10, 11, 12, 13],yo 35 (.pick (.t 24) (.t 34) kf) [0, 1, 2, 3, 4, 5, 6, 7, 8, 9, 10, 11, 12, 13, 14],ym 10 35 (rng 0 16)] (rng 20 16))
.ret) (.seq (.reg [xo 37 (.bin .eql 0 (.t 12) (ki 4)),xm 36 37] [37])
(.cond (.t 36) [36] (.seq (.reg [xm 38 0,xo 39 (.faddr 1 (.t 6)),xo 40 (.load false 1 (.t 39)),xm 41 3,xm 42 4,xo 43 (.call 56 [(false, (.t 38)),(true, (.t 40)),(true, (.t 41)),(true, (.t 42))]),xm 44 43,xf 45 44 (.mov (.t 0)),xf 46 44 (.faddr 2 (.t 6)),xf 47 44 (.load false 1 (.t 46)),xf 48 44 (.mov (.t 3)),xf 49 44 (.mov (.t 4)),xf 50 44 (.call 56 [(false, (.t 45)),(true, (.t 47)),(true, (.t 48)),(true, (.t 49))]),xo 51 (.pick (.t 44) kt (.t 50)),xm 10 51] (rng 38 14))
.ret) (.seq (.reg [xo 53 (.bin .eql 0 (.t 12) (ki 3)),xm 52 53] [53])
(.cond (.t 52) [52] (.seq (.reg [xm 54 0,xo 55 (.faddr 1 (.t 6)),xo 56 (.load false 1 (.t 55)),xo 57 (.faddr 2 (.t 6)),xo 58 (.load false 1 (.t 57)),xm 59 3,xm 60 3,xm 61 4,xo 62 (.call 126 [(false, (.t 54)),(true, (.t 56)),(true, (.t 58)),(true, (.t 59)),(true, (.t 60)),(true, (.t 61))]),xm 10 62] (rng 54 9))
.ret) (.seq (.reg [xo 64 (.bin .eql 0 (.t 12) (ki 5)),xm 63 64] [64])
(.cond (.t 63) [63] (.seq (.reg [xm 65 3,xm 66 4,xo 67 (.bin .eql 0 (.t 65) (.t 66)),xm 68 67,xf 69 68 (.mov (.t 0)),xf 70 68 (.faddr 1 (.t 6)),xf 71 68 (.load false 1 (.t 70)),xf 72 68 (.mov (.t 2)),xf 73 68 (.mov (.t 3)),xf 74 68 (.bin .add 0 (.t 73) (ki 1)),xf 75 68 (.mov (.t 3)),xf 76 68 (.mov (.t 4)),xf 77 68 (.call 126 [(false, (.t 69)),(true, (.t 71)),(true, (.t 72)),(true, (.t 74)),(true, (.t 75)),(true, (.t 76))]),xo 78 (.pick (.t 68) kt (.t 77)),xm 10 78] (rng 65 14))
.ret) .skip))))))))))))
(.seq (.reg [xo 10 (.mov kf)] [])
.ret)))
/-- (*caesura/tree.taker).asks -/
def fn105 : AFn := ⟨5, 79, c105, [(.t 10)], 0⟩
theorem fn105_body : fn105.body = c105 := rfl
theorem fn105_res : fn105.res = [(.t 10)] := rfl
theorem fn105_keep : fn105.keep = 0 := rfl
def c88 : ACode :=
(.seq (.reg [xo 1 (.box (.t 0)),xo 2 (.mov kf)] [])
(.seq (.reg [xo 3 (.faddr 0 (.t 1)),xo 4 (.load false 1 (.t 3)),xo 5 (.call 80 [(true, (.t 4))]),xm 6 5,xt 7 6 (.faddr 1 (.t 1)),xt 8 6 (.load false 1 (.t 7)),xt 9 6 (.call 80 [(true, (.t 8))]),xo 10 (.pick (.t 6) (.t 9) kf),xm 11 10,xt 12 11 (.faddr 0 (.t 1)),xt 13 11 (.load false 1 (.t 12)),xt 14 11 (.faddr 1 (.t 1)),xt 15 11 (.load false 1 (.t 14)),xt 16 11 (.bin .leq 0 (.t 13) (.t 15)),xo 17 (.pick (.t 11) (.t 16) kf),xm 2 17] (rng 3 15))
.ret))
/-- caesura/sets.whole -/
def fn88 : AFn := ⟨1, 18, c88, [(.t 2)], 0⟩
theorem fn88_body : fn88.body = c88 := rfl
theorem fn88_res : fn88.res = [(.t 2)] := rfl
theorem fn88_keep : fn88.keep = 0 := rfl
def c89 : ACode :=
(.seq (.reg [xo 2 (.box (.t 0)),xo 3 (.box (.t 1)),xo 4 (.mov kf)] [])
(.seq (.reg [xo 8 (.faddr 1 (.t 2)),xo 9 (.load false 1 (.t 8)),xo 10 (.call 127 [(true, (.t 9))]),xm 7 10,xo 11 (.ext (.t 7) 0),xo 12 (.ext (.t 7) 1),xm 5 11,xm 6 12] (rng 7 6))
(.seq (.reg [xm 13 6,xm 14 13,xt 15 14 (.faddr 0 (.t 3)),xt 16 14 (.load false 1 (.t 15)),xt 17 14 (.mov (.t 5)),xt 18 14 (.bin .gtr 0 (.t 16) (.t 17)),xo 19 (.pick (.t 14) (.t 18) kf),xm 4 19] (rng 13 7))
.ret)))
/-- caesura/sets.apart -/
def fn89 : AFn := ⟨2, 20, c89, [(.t 4)], 0⟩
theorem fn89_body : fn89.body = c89 := rfl
theorem fn89_res : fn89.res = [(.t 4)] := rfl
theorem fn89_keep : fn89.keep = 0 := rfl
def c77 : ACode :=
(.seq (.reg [xo 2 (.anil 78 5)] [])
(.seq (.seq (.reg [xm 3 0,xo 4 (.isnil false (.t 3))] [3])
(.cond (.t 4) [4] (.seq (.reg [xo 2 (.anil 78 5)] [])
.ret) .skip))
(.seq (.reg [⟨(some 5), none, .mkl 78 5 [(.int .i64 0),(.int .i64 0),(.int .i64 0),(.list 2 []),(.str ⟨#[]⟩)] 0 [] false, []⟩,xm 6 0,xo 7 (.app 78 5 64 (.t 5) (.t 6)),xm 2 7] [5,6,7])
.ret)))
/-- slices.Clone[caesura/api.Tree,caesura/api.Node] -/
def fn77 : AFn := ⟨1, 8, c77, [(.t 2)], 1⟩
theorem fn77_body : fn77.body = c77 := rfl
theorem fn77_res : fn77.res = [(.t 2)] := rfl
theorem fn77_keep : fn77.keep = 1 := rfl
def c1271 : ACode :=
(.seq (.reg [xo 2 (.mov kf)] [])
(.seq (.reg [xm 3 0,xo 4 (.call 128 [(true, (.t 3))]),xm 5 4,⟨(some 6),(some (5, true)), .gsl 5 (.k (.rp [(.str ⟨#[99, 108, 97, 115, 115]⟩),(.str ⟨#[101, 108, 115, 101]⟩),(.str ⟨#[97, 110, 121]⟩),(.str ⟨#[101, 109, 112, 116, 121]⟩),(.str ⟨#[110, 101, 118, 101, 114]⟩)])), []⟩,xt 7 5 (.mov (.t 0)),xt 8 5 (.call 129 [(true, (.t 6)),(true, (.t 7))]),xt 9 5 (.un .not (.t 8)),xo 10 (.pick (.t 5) (.t 9) kf),xm 2 10] (rng 3 8))
.ret))
/-- caesura/lex.IsName -/
def fn1271 : AFn := ⟨1, 11, c1271, [(.t 2)], 0⟩
theorem fn1271_body : fn1271.body = c1271 := rfl
theorem fn1271_res : fn1271.res = [(.t 2)] := rfl
theorem fn1271_keep : fn1271.keep = 0 := rfl
def c1272 : ACode :=
(.seq (.reg [xo 3 (.box (.t 1)),xo 4 (.mov kf)] [])
(.seq (.reg [xm 5 0,xo 6 (.call 55 [(true, (.t 5))]),xm 7 6,xt 8 7 (.mov (.t 0)),xt 9 7 (.mkf 131 [(.t 3)]),xt 10 7 (.call 130 [(true, (.t 8)),(false, (.t 9))]),xt 11 7 (.un .not (.t 10)),xo 12 (.pick (.t 7) (.t 11) kf),xm 4 12] (rng 5 8))
.ret))
/-- caesura/write.named -/
def fn1272 : AFn := ⟨2, 13, c1272, [(.t 4)], 0⟩
theorem fn1272_body : fn1272.body = c1272 := rfl
theorem fn1272_res : fn1272.res = [(.t 4)] := rfl
theorem fn1272_keep : fn1272.keep = 0 := rfl
def c48 : ACode :=
(.seq (.reg [xo 2 (.anil 52 2),xo 3 (.mov kf)] [])
(.seq (.reg [xo 4 (.anil 52 2)] [])
(.seq (.seq (.reg [xm 8 0,xo 9 (.call 138 [(true, (.t 8))]),xo 10 (.call 137 [(false, (.t 9)),(false, (.k (.func 139 [])))]),xo 11 (.len 1 (.t 10)),xo 12 (.mov (ki 0))] [8,9])
(.block 0 (.loop false (.seq (.reg [xo 13 (.bin .lss 0 (.t 12) (.t 11))] [])
(.seq (.cond (.t 13) [13] .skip (.exit 0))
(.seq (.block 1 (.seq (.reg [xo 14 (.iaddr 2 (.t 10) (.t 12)),xo 15 (.load true 2 (.t 14)),xo 6 (.new [(.int .i64 0),(.int .i64 0)]),xn (.store false 2 (.t 6) (.t 15))] [14,15])
(.seq (.reg [xm 16 4,xo 17 (.len 1 (.t 16)),xm 7 17] [16,17])
(.block 2 (.seq (.reg [xo 33 (.load true 2 (.t 6)),xo 34 (.call 89 [(true, (.t 33))]),xo 35 (.un .not (.t 34)),xm 32 35] [33,34,35])
(.cond (.t 32) [32] (.seq (.reg [xo 2 (.anil 52 2),xo 3 (.mov kf)] [])
.ret) (.seq (.dreg [xm 37 7,yo 38 (.bin .eql 0 (.t 37) (ki 0)) [0],ym 39 38 [0, 1],yf 40 39 (.mov (.t 4)) [0, 1, 2],yf 41 39 (.mov (.t 7)) [0, 1, 2],yf 42 39 (.bin .sub 0 (.t 41) (ki 1)) [0, 1, 2, 4],yf 43 39 (.iaddr 2 (.t 40) (.t 42)) [0, 1, 2, 3, 4, 5],yf 44 39 (.load true 2 (.t 43)) [0, 1, 2, 3, 4, 5, 6],yf 45 39 (.load true 2 (.t 6)) [0, 1, 2],yf 46 39 (.call 90 [(true, (.t 44)),(true, (.t 45))]) [0, 1, 2, 3, 4, 5, 6, 7, 8],yo 47 (.pick (.t 39) kt (.t 46)) [0, 1, 2, 3, 4, 5, 6, 7, 8, 9],ym 36 47 (rng 0 11)] (rng 37 11))
(.cond (.t 36) [36] (.reg [xm 48 4,xo 49 (.load true 2 (.t 6)),xo 50 (.mkl 52 2 [(.int .i64 0),(.int .i64 0)] 1 [(0, (.t 49))] false),xo 51 (.app 52 2 16 (.t 48) (.t 50)),xm 4 51] (rng 48 4)) (.dreg [xm 18 4,xm 19 7,yo 20 (.bin .sub 0 (.t 19) (ki 1)) [1],xm 21 4,xm 22 7,yo 23 (.bin .sub 0 (.t 22) (ki 1)) [4],yo 24 (.iaddr 2 (.t 21) (.t 23)) [3, 4, 5],yo 25 (.faddr 1 (.t 24)) [3, 4, 5, 6],yo 26 (.load false 1 (.t 25)) [3, 4, 5, 6, 7],xo 27 (.faddr 1 (.t 6)),yo 28 (.load false 1 (.t 27)) [9],yo 29 (.mm true [(.t 26),(.t 28)]) [3, 4, 5, 6, 7, 8, 9, 10],yo 30 (.iaddr 2 (.t 18) (.t 20)) [0, 1, 2, 3, 4, 5, 6, 7, 8, 9, 10, 11],yo 31 (.faddr 1 (.t 30)) [0, 1, 2, 3, 4, 5, 6, 7, 8, 9, 10, 11, 12],⟨none, none, .store false 1 (.t 31) (.t 29), [0, 1, 2, 3, 4, 5, 6, 7, 8, 9, 10, 11, 12, 13]⟩] (rng 18 14))))))))))
(.reg [xo 52 (.bin .add 0 (.t 12) (ki 1)),xm 12 52] [52])))))))
(.seq (.reg [xm 53 4,xm 2 53,xo 3 (.mov kt)] [53])
.ret))))
/-- caesura/sets.Of -/
def fn48 : AFn := ⟨1, 54, c48, [(.t 2),(.t 3)], 0⟩
theorem fn48_body : fn48.body = c48 := rfl
theorem fn48_res : fn48.res = [(.t 2), (.t 3)] := rfl
theorem fn48_keep : fn48.keep = 0 := rfl
def c62 : ACode :=
(.seq (.reg [xo 4 (.mov kf)] [])
(.seq (.seq (.reg [xm 7 0,xo 8 (.len 1 (.t 7)),xm 9 1,xo 10 (.len 1 (.t 9)),xo 11 (.bin .neq 0 (.t 8) (.t 10))] (rng 7 4))
(.cond (.t 11) [11] (.seq (.reg [xo 4 (.mov kf)] [])
.ret) .skip))
(.seq (.seq (.reg [xm 12 0,xo 13 (.len 1 (.t 12)),xo 14 (.mov (ki 0))] [])
(.block 0 (.loop false (.seq (.reg [xo 15 (.bin .lss 0 (.t 14) (.t 13))] [])
(.seq (.cond (.t 15) [15] .skip (.exit 0))
(.seq (.block 1 (.seq (.reg [xm 16 14,xo 17 (.iaddr 2 (.t 12) (.t 14)),xo 18 (.load true 2 (.t 17)),xo 6 (.new [(.int .i64 0),(.int .i64 0)]),xm 5 16,xn (.store false 2 (.t 6) (.t 18))] [16,17,18])
(.seq (.dreg [xo 19 (.load true 2 (.t 6)),xm 20 1,xm 21 5,yo 22 (.iaddr 2 (.t 20) (.t 21)) [1, 2],yo 23 (.load true 2 (.t 22)) [1, 2, 3],yo 24 (.bins .neq [0,0] (.t 19) (.t 23)) (rng 0 5)] (rng 19 5))
(.cond (.t 24) [24] (.seq (.reg [xo 4 (.mov kf)] [])
.ret) .skip))))
(.reg [xo 25 (.bin .add 0 (.t 14) (ki 1)),xm 14 25] [25])))))))
(.seq (.reg [xo 4 (.mov kt)] [])
.ret))))
/-- caesura/sets.Same -/
def fn62 : AFn := ⟨2, 26, c62, [(.t 4)], 0⟩
theorem fn62_body : fn62.body = c62 := rfl
theorem fn62_res : fn62.res = [(.t 4)] := rfl
theorem fn62_keep : fn62.keep = 0 := rfl
def c98 : ACode :=
(.seq (.reg [xo 4 (.mov kf)] [])
(.seq (.reg [xm 5 0,xm 6 1,xo 7 (.call 143 [(true, (.t 5)),(false, (.t 6))]),xo 8 (.bin .geq 0 (.t 7) (ki 0)),xm 4 8] (rng 5 4))
.ret))
/-- slices.ContainsFunc[caesura/api.Set,caesura/api.Range] -/
def fn98 : AFn := ⟨2, 9, c98, [(.t 4)], 0⟩
theorem fn98_body : fn98.body = c98 := rfl
theorem fn98_res : fn98.res = [(.t 4)] := rfl
theorem fn98_keep : fn98.keep = 0 := rfl
def c99 : ACode :=
(.seq (.reg [xo 2 (.box (.t 0)),xo 3 (.mov kf)] [])
(.seq (.reg [xo 4 (.faddr 0 (.t 2)),xo 5 (.load false 1 (.t 4)),xo 6 (.load false 1 (.t 1)),xo 7 (.bin .leq 0 (.t 5) (.t 6)),xm 8 7,xt 9 8 (.load false 1 (.t 1)),xt 10 8 (.faddr 1 (.t 2)),xt 11 8 (.load false 1 (.t 10)),xt 12 8 (.bin .leq 0 (.t 9) (.t 11)),xo 13 (.pick (.t 8) (.t 12) kf),xm 3 13] (rng 4 10))
.ret))
/-- caesura/sets.Has$1 -/
def fn99 : AFn := ⟨2, 14, c99, [(.t 3)], 0⟩
theorem fn99_body : fn99.body = c99 := rfl
theorem fn99_res : fn99.res = [(.t 3)] := rfl
theorem fn99_keep : fn99.keep = 0 := rfl
def c1157 : ACode :=
(.seq (.reg [xo 2 (.anil 175 3),xo 3 (.new [(.int .i64 0),(.int .i64 0)])] [])
(.seq (.seq (.reg [xm 9 0,xo 10 (.len 0 (.t 9)),xo 11 (.bin .gtr 0 (.t 10) (ki 400000))] [9,10])
(.cond (.t 11) [11] (.seq (.reg [xo 12 (.agg [(.int .i64 0),(.int .i64 0)] [(0, 1, (ki 14))]),xo 2 (.anil 175 3),xn (.store false 2 (.t 3) (.t 12))] [12])
.ret) .skip))
(.seq (.reg [xo 4 (.anil 175 3)] [])
(.seq (.seq (.reg [xm 13 0,xo 14 (.call 144 [(true, (.t 13))]),xm 5 14] [13,14])
(.block 0 (.loop false (.seq (.seq (.reg [xm 15 5,xm 16 0,xo 17 (.len 0 (.t 16)),xo 18 (.bin .lss 0 (.t 15) (.t 17))] [15,16,17])
(.cond (.t 18) [18] .skip (.exit 0)))
(.seq (.block 1 (.seq (.reg [xm 26 0,xm 27 5,xo 28 (.sslc (.t 26) (some (.t 27)) none),xo 29 (.call 145 [(true, (.t 28))]),xm 25 29,xo 30 (.ext (.t 25) 0),xo 31 (.ext (.t 25) 1),xo 32 (.ext (.t 25) 2),⟨(some 6), none, .new [(.int .i64 0),(.str ⟨#[]⟩),(.int .i64 0)], []⟩,xn (.store false 3 (.t 6) (.t 30)),xm 7 31,xm 8 32] (rng 25 8))
(.seq (.seq (.reg [xm 33 8,xo 34 (.un .not (.t 33))] [33])
(.cond (.t 34) [34] (.seq (.reg [xm 35 5,xo 36 (.agg [(.int .i64 0),(.int .i64 0)] [(0, 1, (ki 11)),(1, 1, (.t 35))]),xo 2 (.anil 175 3),xn (.store false 2 (.t 3) (.t 36))] [35,36])
.ret) .skip))
(.seq (.reg [xm 37 5,xo 38 (.faddr 2 (.t 6)),xn (.store false 1 (.t 38) (.t 37))] [37,38])
(.seq (.reg [xm 39 4,xo 40 (.load true 3 (.t 6)),⟨(some 41), none, .mkl 175 3 [(.int .i64 0),(.str ⟨#[]⟩),(.int .i64 0)] 1 [(0, (.t 40))] false, []⟩,xo 42 (.app 175 3 32 (.t 39) (.t 41)),xm 4 42] (rng 39 4))
(.reg [xm 43 5,xm 44 7,xo 45 (.bin .add 0 (.t 43) (.t 44)),xm 5 45] [43,44,45]))))))
(.reg [xm 19 5,xm 20 0,xm 21 5,xo 22 (.sslc (.t 20) (some (.t 21)) none),xo 23 (.call 144 [(true, (.t 22))]),xo 24 (.bin .add 0 (.t 19) (.t 23)),xm 5 24] (rng 19 6)))))))
(.seq (.reg [xm 46 4,xo 47 (.agg [(.int .i64 0),(.int .i64 0)] []),xm 2 46,xn (.store false 2 (.t 3) (.t 47))] [46,47])
.ret)))))
/-- caesura/lex.Tokens -/
def fn1157 : AFn := ⟨1, 48, c1157, [(.t 2),(.c 3 true 2)], 0⟩
theorem fn1157_body : fn1157.body = c1157 := rfl
theorem fn1157_res : fn1157.res = [(.t 2), (.c 3 true 2)] := rfl
theorem fn1157_keep : fn1157.keep = 0 := rfl
def c1160 : ACode :=
(.seq (.reg [xo 6 (.mov kf)] [])
(.seq (.seq (.reg [xm 9 0,xo 10 (.nilck (.t 9)),xo 11 (.faddr 0 (.t 10)),xo 12 (.load false 1 (.t 11)),xo 13 (.len 1 (.t 12)),xo 14 (.bin .eql 0 (.t 13) (ki 0)),xm 15 14,xf 16 15 (.mov (.t 0)),xf 17 15 (.nilck (.t 16)),xf 18 15 (.faddr 0 (.t 17)),xf 19 15 (.load false 1 (.t 18)),xf 20 15 (.iaddr 3 (.t 19) (ki 0)),xf 21 15 (.faddr 0 (.t 20)),xf 22 15 (.load false 1 (.t 21)),xf 23 15 (.mov (.t 1)),xf 24 15 (.bin .neq 0 (.t 22) (.t 23)),xo 25 (.pick (.t 15) kt (.t 24))] (rng 9 16))
(.cond (.t 25) [25] (.seq (.reg [xo 6 (.mov kf)] [])
.ret) .skip))
(.seq (.seq (.reg [xm 26 2,xo 27 (.len 1 (.t 26)),xo 28 (.mov (ki 0))] [])
(.block 0 (.loop false (.seq (.reg [xo 29 (.bin .lss 0 (.t 28) (.t 27))] [])
(.seq (.cond (.t 29) [29] .skip (.exit 0))
(.seq (.block 1 (.seq (.reg [xo 30 (.iaddr 1 (.t 26) (.t 28)),xo 31 (.load false 1 (.t 30)),xm 8 31] [30,31])
(.seq (.reg [xm 32 0,xo 33 (.nilck (.t 32)),xo 34 (.faddr 0 (.t 33)),xo 35 (.load false 1 (.t 34)),xo 36 (.iaddr 3 (.t 35) (ki 0)),xo 37 (.faddr 1 (.t 36)),xo 38 (.load false 1 (.t 37)),xm 39 8,xo 40 (.bin .eql 0 (.t 38) (.t 39))] (rng 32 8))
(.cond (.t 40) [40] (.seq (.reg [xo 6 (.mov kt)] [])
.ret) .skip))))
(.reg [xo 41 (.bin .add 0 (.t 28) (ki 1)),xm 28 41] [41])))))))
(.seq (.reg [xm 42 2,xo 43 (.len 1 (.t 42)),xo 44 (.bin .eql 0 (.t 43) (ki 0)),xm 6 44] [42,43,44])
.ret))))
/-- (*caesura/parse.reader).is -/
def fn1160 : AFn := ⟨3, 45, c1160, [(.t 6)], 0⟩
theorem fn1160_body : fn1160.body = c1160 := rfl
theorem fn1160_res : fn1160.res = [(.t 6)] := rfl
theorem fn1160_keep : fn1160.keep = 0 := rfl
def c1277 : ACode :=
(.seq (.reg [⟨(some 2), none, .new [(.str ⟨#[]⟩),(.list 2 [])], []⟩] [])
(.seq (.reg [xm 7 0,⟨(some 8), none, .mkl 9 1 [(.str ⟨#[]⟩)] 1 [(0, (.k (.str ⟨#[99, 108, 97, 115, 115]⟩)))] false, []⟩,xo 9 (.call 119 [(false, (.t 7)),(true, (ki 1)),(true, (.t 8))])] [7,8,9])
(.seq (.reg [xm 10 0,xo 11 (.call 119 [(false, (.t 10)),(true, (ki 1)),(true, (.k (.list 1 [])))]),⟨(some 3), none, .new [(.int .i64 0),(.str ⟨#[]⟩),(.int .i64 0)], []⟩,xn (.store false 3 (.t 3) (.t 11))] [10,11])
(.seq (.seq (.reg [xo 12 (.faddr 1 (.t 3)),xo 13 (.load false 1 (.t 12)),xo 14 (.call 92 [(true, (.t 13))]),xo 15 (.un .not (.t 14))] [12,13,14])
(.cond (.t 15) [15] (.reg [xo 16 (.faddr 2 (.t 3)),xo 17 (.load false 1 (.t 16)),xo 18 (.call 116 [(true, (ki 11)),(true, (.t 17))])] [16,17,18]) .skip))
(.seq (.seq (.dreg [xm 20 0,yo 21 (.nilck (.t 20)) [0],yo 22 (.faddr 2 (.t 21)) [0, 1],yo 23 (.load false 1 (.t 22)) [0, 1, 2],xo 24 (.faddr 1 (.t 3)),yo 25 (.load false 1 (.t 24)) [4],yo 26 (.look 2 [] (.list 2 []) true (.t 23) (.t 25)) [0, 1, 2, 3, 4, 5],ym 19 26 [0, 1, 2, 3, 4, 5, 6],yo 27 (.ext (.t 19) 0) [0, 1, 2, 3, 4, 5, 6, 7],yo 28 (.ext (.t 19) 1) [0, 1, 2, 3, 4, 5, 6, 7],ym 4 27 [0, 1, 2, 3, 4, 5, 6, 7, 8],ym 5 28 (rng 0 11)] [4,19,20,21,22,23,24,25,26,27,28])
(.seq (.reg [xm 29 5] [])
(.cond (.t 29) [29] (.reg [xo 30 (.faddr 2 (.t 3)),xo 31 (.load false 1 (.t 30)),xo 32 (.call 116 [(true, (ki 13)),(true, (.t 31))])] [30,31,32]) .skip)))
(.seq (.reg [xm 33 0,⟨(some 34), none, .mkl 9 1 [(.str ⟨#[]⟩)] 1 [(0, (.k (.str ⟨#[61]⟩)))] false, []⟩,xo 35 (.call 119 [(false, (.t 33)),(true, (ki 3)),(true, (.t 34))])] [33,34,35])
(.seq (.reg [xm 36 0,xo 37 (.call 146 [(false, (.t 36))]),xm 6 37] [36,37])
(.seq (.reg [xm 38 0,⟨(some 39), none, .mkl 9 1 [(.str ⟨#[]⟩)] 1 [(0, (.k (.str ⟨#[59]⟩)))] false, []⟩,xo 40 (.call 119 [(false, (.t 38)),(true, (ki 3)),(true, (.t 39))])] [38,39,40])
(.seq (.dreg [xm 41 0,yo 42 (.nilck (.t 41)) [0],yo 43 (.faddr 2 (.t 42)) [0, 1],yo 44 (.load false 1 (.t 43)) [0, 1, 2],xo 45 (.faddr 1 (.t 3)),yo 46 (.load false 1 (.t 45)) [4],xm 47 6,⟨none, none, .mset 2 [] (.t 44) (.t 46) (.t 47), [0, 1, 2, 3, 4, 5, 6]⟩] (rng 41 7))
(.seq (.reg [xo 48 (.faddr 1 (.t 3)),xo 49 (.load false 1 (.t 48)),xm 50 6,⟨(some 51), none, .agg [(.str ⟨#[]⟩),(.list 2 [])] [(0, 1, (.t 49)),(1, 1, (.t 50))], []⟩,xn (.store false 2 (.t 2) (.t 51))] (rng 48 4))
.ret))))))))))
/-- (*caesura/parse.reader).definition -/
def fn1277 : AFn := ⟨1, 52, c1277, [(.c 2 true 2)], 0⟩
theorem fn1277_body : fn1277.body = c1277 := rfl
theorem fn1277_res : fn1277.res = [(.c 2 true 2)] := rfl
theorem fn1277_keep : fn1277.keep = 0 := rfl
def c1163 : ACode :=
.stuck
/-- caesura/parse.fails -/
def fn1163 : AFn := ⟨2, 8, c1163, [], 0⟩
theorem fn1163_body : fn1163.body = c1163 := rfl
theorem fn1163_res : fn1163.res = [] := rfl
theorem fn1163_keep : fn1163.keep = 0 := rfl
def c1164 : ACode :=
(.seq (.reg [xo 2 (.mov (ki 0))] [])
(.seq (.seq (.reg [xm 3 0,xo 4 (.nilck (.t 3)),xo 5 (.faddr 0 (.t 4)),xo 6 (.load false 1 (.t 5)),xo 7 (.len 1 (.t 6)),xo 8 (.bin .eql 0 (.t 7) (ki 0))] (rng 3 5))
(.cond (.t 8) [8] (.seq (.reg [xm 9 0,xo 10 (.nilck (.t 9)),xo 11 (.faddr 1 (.t 10)),xo 12 (.load false 1 (.t 11)),xm 2 12] (rng 9 4))
.ret) .skip))
(.seq (.reg [xm 13 0,xo 14 (.nilck (.t 13)),xo 15 (.faddr 0 (.t 14)),xo 16 (.load false 1 (.t 15)),xo 17 (.iaddr 3 (.t 16) (ki 0)),xo 18 (.faddr 2 (.t 17)),xo 19 (.load false 1 (.t 18)),xm 2 19] (rng 13 7))
.ret)))
/-- (*caesura/parse.reader).at -/
def fn1164 : AFn := ⟨1, 20, c1164, [(.t 2)], 0⟩
theorem fn1164_body : fn1164.body = c1164 := rfl
theorem fn1164_res : fn1164.res = [(.t 2)] := rfl
theorem fn1164_keep : fn1164.keep = 0 := rfl
def c1278 : ACode :=
(.seq (.reg [xo 2 (.new [(.list 5 []),(.list 5 []),(.bool false)])] [])
(.seq (.reg [xm 4 0,xm 5 0,xo 6 (.call 117 [(false, (.t 5))]),xo 7 (.nilck (.t 4)),xo 8 (.faddr 4 (.t 7)),xn (.store false 1 (.t 8) (.t 6))] (rng 4 5))
(.seq (.reg [xm 9 0,xo 10 (.call 147 [(false, (.t 9))]),xo 11 (.agg [(.list 5 []),(.list 5 []),(.bool false)] [(0, 1, (.t 10))]),xo 3 (.new [(.list 5 []),(.list 5 []),(.bool false)]),xn (.store false 3 (.t 3) (.t 11))] [9,10,11])
(.seq (.reg [xm 12 0,xo 13 (.call 120 [(false, (.t 12))]),xo 14 (.faddr 2 (.t 3)),xn (.store false 1 (.t 14) (.t 13))] [12,13,14])
(.seq (.reg [xm 15 0,xo 16 (.call 147 [(false, (.t 15))]),xo 17 (.faddr 1 (.t 3)),xn (.store false 1 (.t 17) (.t 16))] [15,16,17])
(.seq (.reg [xm 18 0,⟨(some 19), none, .mkl 9 1 [(.str ⟨#[]⟩)] 1 [(0, (.k (.str ⟨#[59]⟩)))] false, []⟩,xo 20 (.call 119 [(false, (.t 18)),(true, (ki 3)),(true, (.t 19))])] [18,19,20])
(.seq (.reg [xo 21 (.load true 3 (.t 3)),xn (.store false 3 (.t 2) (.t 21))] [21])
.ret)))))))
/-- (*caesura/parse.reader).rule -/
def fn1278 : AFn := ⟨1, 22, c1278, [(.c 2 true 3)], 0⟩
theorem fn1278_body : fn1278.body = c1278 := rfl
theorem fn1278_res : fn1278.res = [(.c 2 true 3)] := rfl
theorem fn1278_keep : fn1278.keep = 0 := rfl
def c1161 : ACode :=
(.seq (.reg [⟨(some 6), none, .new [(.int .i64 0),(.str ⟨#[]⟩),(.int .i64 0)], []⟩] [])
(.seq (.seq (.reg [xm 8 0,xm 9 1,xm 10 2,xo 11 (.call 114 [(false, (.t 8)),(true, (.t 9)),(true, (.t 10))]),xo 12 (.un .not (.t 11))] (rng 8 4))
(.cond (.t 12) [12] (.reg [xm 13 0,xo 14 (.call 117 [(false, (.t 13))]),xo 15 (.call 116 [(true, (ki 11)),(true, (.t 14))])] [13,14,15]) .skip))
(.seq (.reg [xm 16 0,xo 17 (.nilck (.t 16)),xo 18 (.faddr 0 (.t 17)),xo 19 (.load false 1 (.t 18)),xo 20 (.iaddr 3 (.t 19) (ki 0)),xo 21 (.load true 3 (.t 20)),⟨(some 7), none, .new [(.int .i64 0),(.str ⟨#[]⟩),(.int .i64 0)], []⟩,xn (.store false 3 (.t 7) (.t 21))] (rng 16 6))
(.seq (.reg [xm 22 0,xm 23 0,xo 24 (.nilck (.t 23)),xo 25 (.faddr 0 (.t 24)),xo 26 (.load false 1 (.t 25)),xo 27 (.slc 3 (.t 26) (some (ki 1)) none none),xo 28 (.nilck (.t 22)),xo 29 (.faddr 0 (.t 28)),xn (.store false 1 (.t 29) (.t 27))] (rng 22 8))
(.seq (.reg [xo 30 (.load true 3 (.t 7)),xn (.store false 3 (.t 6) (.t 30))] [30])
.ret)))))
/-- (*caesura/parse.reader).next -/
def fn1161 : AFn := ⟨3, 31, c1161, [(.c 6 true 3)], 0⟩
theorem fn1161_body : fn1161.body = c1161 := rfl
theorem fn1161_res : fn1161.res = [(.c 6 true 3)] := rfl
theorem fn1161_keep : fn1161.keep = 0 := rfl
def c1279 : ACode :=
(.seq (.reg [xo 2 (.mov kf)] [])
(.seq (.seq (.reg [xm 3 0,xo 4 (.call 114 [(false, (.t 3)),(true, (ki 5)),(true, (.k (.list 1 [])))])] [3])
(.cond (.t 4) [4] (.seq (.reg [xm 5 0,xo 6 (.call 119 [(false, (.t 5)),(true, (ki 5)),(true, (.k (.list 1 [])))])] [5,6])
(.seq (.reg [xo 2 (.mov kf)] [])
.ret)) .skip))
(.seq (.reg [xm 7 0,xo 8 (.call 119 [(false, (.t 7)),(true, (ki 4)),(true, (.k (.list 1 [])))])] [7,8])
(.seq (.reg [xo 2 (.mov kt)] [])
.ret))))
/-- (*caesura/parse.reader).breaks -/
def fn1279 : AFn := ⟨1, 9, c1279, [(.t 2)], 0⟩
theorem fn1279_body : fn1279.body = c1279 := rfl
theorem fn1279_res : fn1279.res = [(.t 2)] := rfl
theorem fn1279_keep : fn1279.keep = 0 := rfl
def c1154 : ACode :=
(.seq (.reg [xm 2 0,xo 3 (.nilck (.t 2)),xo 4 (.faddr 0 (.t 3)),xo 5 (.load false 1 (.t 4)),xo 6 (.len 1 (.t 5)),xo 7 (.bin .gtr 0 (.t 6) (ki 0))] (rng 2 5))
(.cond (.t 7) [7] (.reg [xm 8 0,xo 9 (.call 117 [(false, (.t 8))]),xo 10 (.call 116 [(true, (ki 11)),(true, (.t 9))])] [8,9,10]) .skip))
/-- (*caesura/parse.reader).over -/
def fn1154 : AFn := ⟨1, 11, c1154, [], 0⟩
theorem fn1154_body : fn1154.body = c1154 := rfl
theorem fn1154_res : fn1154.res = [] := rfl
theorem fn1154_keep : fn1154.keep = 0 := rfl
def c1117 : ACode :=
(.seq (.reg [xo 4 (.mov (ki 0))] [])
(.seq (.seq (.reg [xm 6 0,xo 7 (.len 1 (.t 6)),xo 8 (.mov (ki 0))] [6])
(.block 0 (.loop false (.seq (.reg [xo 9 (.bin .lss 0 (.t 8) (.t 7))] [])
(.seq (.cond (.t 9) [9] .skip (.exit 0))
(.seq (.block 1 (.seq (.reg [xm 10 8,xm 5 10] [10])
(.seq (.reg [xm 11 1,xm 12 0,xm 13 5,xo 14 (.iaddr 1 (.t 12) (.t 13)),xo 15 (.load false 1 (.t 14)),xo 16 (.callv (.t 11) [(true, (.t 15))])] (rng 11 5))
(.cond (.t 16) [16] (.seq (.reg [xm 17 5,xm 4 17] [17])
.ret) .skip))))
(.reg [xo 18 (.bin .add 0 (.t 8) (ki 1)),xm 8 18] [18])))))))
(.seq (.reg [xo 4 (.mov (.k (.int .i64 (-1))))] [])
.ret)))
/-- slices.IndexFunc[[]int,int] -/
def fn1117 : AFn := ⟨2, 19, c1117, [(.t 4)], 0⟩
theorem fn1117_body : fn1117.body = c1117 := rfl
theorem fn1117_res : fn1117.res = [(.t 4)] := rfl
theorem fn1117_keep : fn1117.keep = 0 := rfl
def c122 : ACode :=
(.seq (.reg [xo 2 (.mov (.k (.int .i32 0))),xo 3 (.mov kf)] [])
(.seq (.seq (.reg [xm 5 0,xo 6 (.bin .lss 0 (.t 5) (ki 0)),xm 7 6,xf 8 7 (.mov (.t 0)),xf 9 7 (.bin .gtr 0 (.t 8) (ki 1114111)),xo 10 (.pick (.t 7) kt (.t 9))] (rng 5 5))
(.cond (.t 10) [10] (.seq (.reg [xo 2 (.mov (.k (.int .i32 0))),xo 3 (.mov kf)] [])
.ret) .skip))
(.seq (.reg [xm 11 0,xo 12 (.conv .i32 (.t 11)),xm 4 12] [11,12])
(.seq (.reg [xm 13 4,xm 14 4,xo 15 (.bin .leq 0 (.t 14) (.k (.int .i32 55295))),xm 16 15,xf 17 16 (.mov (.t 4)),xf 18 16 (.bin .geq 0 (.t 17) (.k (.int .i32 57344))),xo 19 (.pick (.t 16) kt (.t 18)),xm 2 13,xm 3 19] (rng 13 7))
.ret))))
/-- caesura/scalar.sign -/
def fn122 : AFn := ⟨1, 20, c122, [(.t 2),(.t 3)], 0⟩
theorem fn122_body : fn122.body = c122 := rfl
theorem fn122_res : fn122.res = [(.t 2), (.t 3)] := rfl
theorem fn122_keep : fn122.keep = 0 := rfl
def c103 : ACode :=
(.seq (.reg [xo 1 (.box (.t 0)),xo 2 (.mov kf)] [])
(.seq (.reg [xo 3 (.faddr 3 (.t 1)),xo 4 (.load false 1 (.t 3)),xo 5 (.len 1 (.t 4)),xo 6 (.bin .eql 0 (.t 5) (ki 0)),xm 7 6,xt 8 7 (.faddr 4 (.t 1)),xt 9 7 (.load false 1 (.t 8)),⟨(some 10),(some (7, true)), .bin .eql 0 (.t 9) (.k (.str ⟨#[]⟩)), []⟩,xo 11 (.pick (.t 7) (.t 10) kf),xm 2 11] (rng 3 9))
.ret))
/-- caesura/tree.bare -/
def fn103 : AFn := ⟨1, 12, c103, [(.t 2)], 0⟩
theorem fn103_body : fn103.body = c103 := rfl
theorem fn103_res : fn103.res = [(.t 2)] := rfl
theorem fn103_keep : fn103.keep = 0 := rfl
def c104 : ACode :=
(.seq (.reg [xo 1 (.box (.t 0)),xo 2 (.mov kf)] [])
(.seq (.seq (.reg [xo 3 (.faddr 1 (.t 1)),xo 4 (.load false 1 (.t 3)),xo 5 (.bin .neq 0 (.t 4) (ki 0)),xm 6 5,xf 7 6 (.faddr 2 (.t 1)),xf 8 6 (.load false 1 (.t 7)),xf 9 6 (.bin .neq 0 (.t 8) (ki 0)),xo 10 (.pick (.t 6) kt (.t 9))] (rng 3 7))
(.cond (.t 10) [10] (.seq (.reg [xo 2 (.mov kf)] [])
.ret) .skip))
(.seq (.seq (.reg [xo 11 (.faddr 0 (.t 1)),xo 12 (.load false 1 (.t 11)),xo 13 (.bin .eql 0 (.t 12) (ki 2))] [11,12])
(.cond (.t 13) [13] (.seq (.reg [xo 14 (.faddr 3 (.t 1)),xo 15 (.load false 1 (.t 14)),xo 16 (.len 1 (.t 15)),xo 17 (.bin .gtr 0 (.t 16) (ki 0)),xm 18 17,xt 19 18 (.faddr 3 (.t 1)),xt 20 18 (.load false 1 (.t 19)),xt 21 18 (.call 57 [(true, (.t 20))]),xo 22 (.pick (.t 18) (.t 21) kf),xm 2 22] (rng 14 9))
.ret) .skip))
(.seq (.reg [xo 23 (.faddr 0 (.t 1)),xo 24 (.load false 1 (.t 23)),xo 25 (.bin .eql 0 (.t 24) (ki 0)),xm 26 25,xf 27 26 (.faddr 0 (.t 1)),xf 28 26 (.load false 1 (.t 27)),xf 29 26 (.bin .eql 0 (.t 28) (ki 1)),xo 30 (.pick (.t 26) kt (.t 29)),xm 31 30,xt 32 31 (.load true 5 (.t 1)),xt 33 31 (.call 124 [(true, (.t 32))]),xo 34 (.pick (.t 31) (.t 33) kf),xm 2 34] (rng 23 12))
.ret))))
/-- caesura/tree.leaf -/
def fn104 : AFn := ⟨1, 35, c104, [(.t 2)], 0⟩
theorem fn104_body : fn104.body = c104 := rfl
theorem fn104_res : fn104.res = [(.t 2)] := rfl
theorem fn104_keep : fn104.keep = 0 := rfl
def c126 : ACode :=
(.seq (.reg [xo 12 (.mov kf)] [])
(.seq (.seq (.reg [xm 14 3,xm 13 14] [14])
(.block 0 (.loop false (.seq (.seq (.reg [xm 15 13,xm 16 5,xo 17 (.bin .leq 0 (.t 15) (.t 16))] [15,16])
(.cond (.t 17) [17] .skip (.exit 0)))
(.seq (.block 1 (.seq (.reg [xm 20 0,xm 21 1,xm 22 4,xm 23 13,xo 24 (.call 56 [(false, (.t 20)),(true, (.t 21)),(true, (.t 22)),(true, (.t 23))]),xm 25 24,xt 26 25 (.mov (.t 0)),xt 27 25 (.mov (.t 2)),xt 28 25 (.mov (.t 13)),xt 29 25 (.mov (.t 5)),xt 30 25 (.call 56 [(false, (.t 26)),(true, (.t 27)),(true, (.t 28)),(true, (.t 29))]),xo 31 (.pick (.t 25) (.t 30) kf)] (rng 20 11))
(.cond (.t 31) [31] (.seq (.reg [xo 12 (.mov kt)] [])
.ret) .skip)))
(.reg [xm 18 13,xo 19 (.bin .add 0 (.t 18) (ki 1)),xm 13 19] [18,19]))))))
(.seq (.reg [xo 12 (.mov kf)] [])
.ret)))
/-- (*caesura/tree.taker).splits -/
def fn126 : AFn := ⟨6, 32, c126, [(.t 12)], 0⟩
theorem fn126_body : fn126.body = c126 := rfl
theorem fn126_res : fn126.res = [(.t 12)] := rfl
theorem fn126_keep : fn126.keep = 0 := rfl
def c92 : ACode :=
(.seq (.reg [xo 2 (.mov (ki 0)),xo 3 (.mov kf)] [])
(.seq (.block 0 (.seq (.reg [xm 5 0,xo 6 (.bin .lss 0 (.t 5) (ki 0)),xm 4 6] [5,6])
(.cond (.t 4) [4] (.seq (.reg [xo 2 (.mov (ki 0)),xo 3 (.mov kt)] [])
.ret) (.seq (.reg [xm 8 0,xo 9 (.bin .geq 0 (.t 8) (ki 1114111)),xm 7 9] [8,9])
(.cond (.t 7) [7] (.seq (.reg [xo 2 (.mov (ki 0)),xo 3 (.mov kf)] [])
.ret) (.seq (.reg [xm 11 0,xo 12 (.bin .geq 0 (.t 11) (ki 55295)),xm 13 12,xt 14 13 (.mov (.t 0)),xt 15 13 (.bin .lss 0 (.t 14) (ki 57344)),xo 16 (.pick (.t 13) (.t 15) kf),xm 10 16] (rng 11 6))
(.cond (.t 10) [10] (.seq (.reg [xo 2 (.mov (ki 57344)),xo 3 (.mov kt)] [])
.ret) .skip)))))))
(.seq (.reg [xm 17 0,xo 18 (.bin .add 0 (.t 17) (ki 1)),xm 2 18,xo 3 (.mov kt)] [17,18])
.ret)))
/-- caesura/scalar.Next -/
def fn92 : AFn := ⟨1, 19, c92, [(.t 2),(.t 3)], 0⟩
theorem fn92_body : fn92.body = c92 := rfl
theorem fn92_res : fn92.res = [(.t 2), (.t 3)] := rfl
theorem fn92_keep : fn92.keep = 0 := rfl
def c1176 : ACode :=
(.seq (.reg [xo 2 (.mov kf)] [])
(.seq (.reg [xm 3 0,xo 4 (.len 0 (.t 3)),xo 5 (.bin .geq 0 (.t 4) (ki 1)),xm 6 5,xt 7 6 (.mov (.t 0)),xt 8 6 (.len 0 (.t 7)),xt 9 6 (.bin .leq 0 (.t 8) (ki 12)),xo 10 (.pick (.t 6) (.t 9) kf),xm 11 10,xt 12 11 (.mov (.t 0)),xt 13 11 (.sidx (.t 12) (ki 0)),xt 14 11 (.call 148 [(true, (.t 13))]),xo 15 (.pick (.t 11) (.t 14) kf),xm 16 15,xt 17 16 (.mov (.t 0)),xt 18 16 (.call 149 [(true, (.t 17)),(false, (.k (.func 150 [])))]),xt 19 16 (.mov (.t 0)),xt 20 16 (.len 0 (.t 19)),xt 21 16 (.bin .eql 0 (.t 18) (.t 20)),xo 22 (.pick (.t 16) (.t 21) kf),xm 2 22] (rng 3 20))
.ret))
/-- caesura/lex.word -/
def fn1176 : AFn := ⟨1, 23, c1176, [(.t 2)], 0⟩
theorem fn1176_body : fn1176.body = c1176 := rfl
theorem fn1176_res : fn1176.res = [(.t 2)] := rfl
theorem fn1176_keep : fn1176.keep = 0 := rfl
def c1280 : ACode :=
(.seq (.reg [xo 4 (.mov kf)] [])
(.seq (.reg [xm 5 0,xm 6 1,xo 7 (.call 151 [(true, (.t 5)),(true, (.t 6))]),xo 8 (.bin .geq 0 (.t 7) (ki 0)),xm 4 8] (rng 5 4))
.ret))
/-- slices.Contains[[]string,string] -/
def fn1280 : AFn := ⟨2, 9, c1280, [(.t 4)], 0⟩
theorem fn1280_body : fn1280.body = c1280 := rfl
theorem fn1280_res : fn1280.res = [(.t 4)] := rfl
theorem fn1280_keep : fn1280.keep = 0 := rfl
def c1281 : ACode :=
(.seq (.reg [xo 4 (.mov kf)] [])
(.seq (.reg [xm 5 0,xm 6 1,xo 7 (.call 152 [(true, (.t 5)),(false, (.t 6))]),xo 8 (.bin .geq 0 (.t 7) (ki 0)),xm 4 8] (rng 5 4))
.ret))
/-- slices.ContainsFunc[caesura/api.Tree,caesura/api.Node] -/
def fn1281 : AFn := ⟨2, 9, c1281, [(.t 4)], 0⟩
theorem fn1281_body : fn1281.body = c1281 := rfl
theorem fn1281_res : fn1281.res = [(.t 4)] := rfl
theorem fn1281_keep : fn1281.keep = 0 := rfl
def c1282 : ACode :=
(.seq (.reg [xo 2 (.box (.t 0)),xo 3 (.mov kf)] [])
(.seq (.reg [xo 7 (.load false 1 (.t 1)),xo 8 (.faddr 4 (.t 2)),xo 9 (.load false 1 (.t 8)),xo 10 (.look 2 [] (.list 2 []) true (.t 7) (.t 9)),xm 6 10,xo 11 (.ext (.t 6) 0),xo 12 (.ext (.t 6) 1),xm 4 11,xm 5 12] (rng 6 7))
(.seq (.reg [xo 13 (.faddr 4 (.t 2)),xo 14 (.load false 1 (.t 13)),⟨(some 15), none, .bin .neq 0 (.t 14) (.k (.str ⟨#[]⟩)), []⟩,xm 16 15,xt 17 16 (.mov (.t 5)),xt 18 16 (.un .not (.t 17)),xt 19 16 (.mov (.t 18)),xf 20 19 (.mov (.t 4)),xf 21 19 (.faddr 3 (.t 2)),xf 22 19 (.load false 1 (.t 21)),xf 23 19 (.call 103 [(true, (.t 20)),(true, (.t 22))]),xf 24 19 (.un .not (.t 23)),xt 25 16 (.pick (.t 19) kt (.t 24)),xo 26 (.pick (.t 16) (.t 25) kf),xm 3 26] (rng 13 14))
.ret)))
/-- caesura/write.named$1 -/
def fn1282 : AFn := ⟨2, 27, c1282, [(.t 3)], 0⟩
theorem fn1282_body : fn1282.body = c1282 := rfl
theorem fn1282_res : fn1282.res = [(.t 3)] := rfl
theorem fn1282_keep : fn1282.keep = 0 := rfl
def c86 : ACode :=
(.seq (.reg [xo 1 (.box (.t 0)),xo 2 (.mov (.k .nilf))] [])
(.seq (.reg [xo 3 (.mkf 160 [(.t 1)]),xm 2 3] [3])
.ret))
/-- slices.Values[[]caesura/api.Range,caesura/api.Range] -/
def fn86 : AFn := ⟨1, 4, c86, [(.t 2)], 2⟩
theorem fn86_body : fn86.body = c86 := rfl
theorem fn86_res : fn86.res = [(.t 2)] := rfl
theorem fn86_keep : fn86.keep = 2 := rfl
def c123 : ACode :=
(.seq (.reg [xo 4 (.mov (ki 0))] [])
(.seq (.seq (.reg [xm 6 0,xo 7 (.len 1 (.t 6)),xo 8 (.mov (ki 0))] [6])
(.block 0 (.loop false (.seq (.reg [xo 9 (.bin .lss 0 (.t 8) (.t 7))] [])
(.seq (.cond (.t 9) [9] .skip (.exit 0))
(.seq (.block 1 (.seq (.reg [xm 10 8,xm 5 10] [10])
(.seq (.reg [xm 11 1,xm 12 0,xm 13 5,xo 14 (.iaddr 2 (.t 12) (.t 13)),xo 15 (.load true 2 (.t 14)),xo 16 (.callv (.t 11) [(true, (.t 15))])] (rng 11 5))
(.cond (.t 16) [16] (.seq (.reg [xm 17 5,xm 4 17] [17])
.ret) .skip))))
(.reg [xo 18 (.bin .add 0 (.t 8) (ki 1)),xm 8 18] [18])))))))
(.seq (.reg [xo 4 (.mov (.k (.int .i64 (-1))))] [])
.ret)))
/-- slices.IndexFunc[caesura/api.Set,caesura/api.Range] -/
def fn123 : AFn := ⟨2, 19, c123, [(.t 4)], 0⟩
theorem fn123_body : fn123.body = c123 := rfl
theorem fn123_res : fn123.res = [(.t 4)] := rfl
theorem fn123_keep : fn123.keep = 0 := rfl
def c1166 : ACode :=
(.seq (.reg [xo 2 (.mov (ki 0))] [])
(.seq (.reg [xo 3 (.mov (ki 0))] [])
(.seq (.block 0 (.loop false (.seq (.seq (.reg [xm 4 3,xm 5 0,xo 6 (.len 0 (.t 5)),xo 7 (.bin .lss 0 (.t 4) (.t 6))] [4,5,6])
(.cond (.t 7) [7] .skip (.exit 0)))
(.block 1 (.seq (.reg [xm 8 0,xm 9 3,xo 10 (.sidx (.t 8) (.t 9))] [8,9])
(.block 2 (.seq (.seq (.reg [xo 13 (.bin .eql 0 (.t 10) (.k (.int .u8 32))),xm 12 13] [13])
(.cond (.t 12) [] .skip (.seq (.reg [xo 14 (.bin .eql 0 (.t 10) (.k (.int .u8 9))),xm 12 14] [14])
(.cond (.t 12) [] .skip (.reg [xo 15 (.bin .eql 0 (.t 10) (.k (.int .u8 10))),xm 12 15] [15])))))
(.cond (.t 12) [] (.reg [xm 16 3,xo 17 (.bin .add 0 (.t 16) (ki 1)),xm 3 17] [16,17]) (.seq (.reg [xo 19 (.bin .eql 0 (.t 10) (.k (.int .u8 35))),xm 18 19] [19])
(.cond (.t 18) [18] (.reg [xm 20 3,xm 21 0,xm 22 3,xo 23 (.sslc (.t 21) (some (.t 22)) none),xo 24 (.call 149 [(true, (.t 23)),(false, (.k (.func 163 [])))]),xo 25 (.bin .add 0 (.t 20) (.t 24)),xm 3 25] (rng 20 6)) (.seq (.reg [xm 11 3,xm 2 11] [11])
.ret)))))))))))
(.seq (.reg [xm 26 3,xm 2 26] [26])
.ret))))
/-- caesura/lex.skipped -/
def fn1166 : AFn := ⟨1, 27, c1166, [(.t 2)], 0⟩
theorem fn1166_body : fn1166.body = c1166 := rfl
theorem fn1166_res : fn1166.res = [(.t 2)] := rfl
theorem fn1166_keep : fn1166.keep = 0 := rfl
def c1167 : ACode :=
(.seq (.reg [⟨(some 2), none, .new [(.int .i64 0),(.str ⟨#[]⟩),(.int .i64 0)], []⟩,xo 3 (.mov (ki 0)),xo 4 (.mov kf)] [])
(.seq (.seq (.reg [xm 13 0,⟨(some 14), none, .call 164 [(true, (.t 13)),(true, (.k (.str ⟨#[117, 43]⟩)))], []⟩,xm 12 14,xo 15 (.ext (.t 12) 0),xo 16 (.ext (.t 12) 1),xm 5 15,xm 6 16] (rng 12 5))
(.seq (.reg [xm 17 6] [])
(.cond (.t 17) [17] (.seq (.reg [xm 19 5,xo 20 (.call 165 [(true, (.t 19))]),xm 18 20,xo 21 (.ext (.t 18) 0),xo 22 (.ext (.t 18) 1),xm 7 21,xm 8 22] (rng 18 5))
(.seq (.reg [xm 23 7,⟨(some 24), none, .agg [(.int .i64 0),(.str ⟨#[]⟩),(.int .i64 0)] [(0, 1, (ki 2)),(1, 1, (.t 23))], []⟩,xm 25 7,xo 26 (.len 0 (.t 25)),xo 27 (.bin .add 0 (.t 26) (ki 2)),xm 28 8,xn (.store false 3 (.t 2) (.t 24)),xm 3 27,xm 4 28] (rng 23 6))
.ret)) .skip)))
(.seq (.seq (.reg [xm 29 0,xo 30 (.sidx (.t 29) (ki 0)),xo 31 (.call 148 [(true, (.t 30))])] [29,30])
(.cond (.t 31) [31] (.seq (.reg [xm 32 0,xo 33 (.call 149 [(true, (.t 32)),(false, (.k (.func 150 [])))]),xm 9 33] [32,33])
(.seq (.dreg [xm 34 0,xm 35 9,yo 36 (.sslc (.t 34) none (some (.t 35))) [0, 1],⟨(some 37), none, .agg [(.int .i64 0),(.str ⟨#[]⟩),(.int .i64 0)] [(0, 1, (ki 1)),(1, 1, (.t 36))], [0, 1, 2]⟩,xm 38 9,xm 39 0,xm 40 9,yo 41 (.sslc (.t 39) none (some (.t 40))) [5, 6],yo 42 (.call 128 [(true, (.t 41))]) [5, 6, 7],⟨none, none, .storew 3 (.t 2) (.t 37), [0, 1, 2, 3, 5, 6, 7, 8]⟩,ym 3 38 [0, 1, 2, 3, 4, 5, 6, 7, 8, 9],ym 4 42 (rng 0 11)] (rng 34 9))
.ret)) .skip))
(.seq (.seq (.reg [⟨(some 43), none, .load true 26 (.k (.rp [(.str ⟨#[61]⟩),(.int .i64 3),(.str ⟨#[59]⟩),(.int .i64 3),(.str ⟨#[40]⟩),(.int .i64 3),(.str ⟨#[41]⟩),(.int .i64 3),(.str ⟨#[91]⟩),(.int .i64 3),(.str ⟨#[93]⟩),(.int .i64 3),(.str ⟨#[124]⟩),(.int .i64 3),(.str ⟨#[42]⟩),(.int .i64 3),(.str ⟨#[43]⟩),(.int .i64 3),(.str ⟨#[63]⟩),(.int .i64 3),(.str ⟨#[45]⟩),(.int .i64 3),(.str ⟨#[195, 183]⟩),(.int .i64 4),(.str ⟨#[195, 151]⟩),(.int .i64 5)])), []⟩,xo 44 (.mov (ki 0))] [])
(.block 0 (.loop false (.seq (.reg [xo 45 (.bin .lss 0 (.t 44) (ki 13))] [])
(.seq (.cond (.t 45) [45] .skip (.exit 0))
(.seq (.block 1 (.seq (.reg [xo 46 (.aidx true 2 13 (.t 43) (.t 44)),⟨(some 11), none, .new [(.str ⟨#[]⟩),(.int .i64 0)], []⟩,xn (.store false 2 (.t 11) (.t 46))] [46])
(.seq (.reg [xm 47 0,xo 48 (.faddr 0 (.t 11)),xo 49 (.load false 1 (.t 48)),xo 50 (.call 166 [(true, (.t 47)),(true, (.t 49))])] [47,48,49])
(.cond (.t 50) [50] (.seq (.dreg [xo 51 (.faddr 1 (.t 11)),yo 52 (.load false 1 (.t 51)) [0],xo 53 (.faddr 0 (.t 11)),yo 54 (.load false 1 (.t 53)) [2],⟨(some 55), none, .agg [(.int .i64 0),(.str ⟨#[]⟩),(.int .i64 0)] [(0, 1, (.t 52)),(1, 1, (.t 54))], [0, 1, 2, 3]⟩,xo 56 (.faddr 0 (.t 11)),yo 57 (.load false 1 (.t 56)) [5],yo 58 (.len 0 (.t 57)) [5, 6],⟨none, none, .storew 3 (.t 2) (.t 55), [0, 1, 2, 3, 4]⟩,ym 3 58 [0, 1, 2, 3, 4, 5, 6, 7, 8],yo 4 (.mov kt) (rng 0 10)] (rng 51 8))
.ret) .skip))))
(.reg [xo 59 (.bin .add 0 (.t 44) (ki 1)),xm 44 59] [59])))))))
(.seq (.reg [⟨(some 60), none, .agg [(.int .i64 0),(.str ⟨#[]⟩),(.int .i64 0)] [], []⟩,xn (.store false 3 (.t 2) (.t 60)),xo 3 (.mov (ki 0)),xo 4 (.mov kf)] [60])
.ret)))))
/-- caesura/lex.token -/
def fn1167 : AFn := ⟨1, 61, c1167, [(.c 2 true 3),(.t 3),(.t 4)], 0⟩
theorem fn1167_body : fn1167.body = c1167 := rfl
theorem fn1167_res : fn1167.res = [(.c 2 true 3), (.t 3), (.t 4)] := rfl
theorem fn1167_keep : fn1167.keep = 0 := rfl
def c1184 : ACode :=
(.seq (.reg [xo 2 (.anil 52 2)] [])
(.seq (.reg [xm 10 0,⟨(some 11), none, .mkl 9 1 [(.str ⟨#[]⟩)] 1 [(0, (.k (.str ⟨#[91]⟩)))] false, []⟩,xo 12 (.call 119 [(false, (.t 10)),(true, (ki 3)),(true, (.t 11))])] [10,11,12])
(.seq (.reg [xo 3 (.anil 52 2)] [])
(.seq (.block 0 (.loop false (.seq (.seq (.reg [xm 13 3,xo 14 (.len 1 (.t 13)),xo 15 (.bin .eql 0 (.t 14) (ki 0)),xm 16 15,xf 17 16 (.mov (.t 0)),⟨(some 18),(some (16, false)), .mkl 9 1 [(.str ⟨#[]⟩)] 1 [(0, (.k (.str ⟨#[93]⟩)))] false, []⟩,xf 19 16 (.call 114 [(false, (.t 17)),(true, (ki 3)),(true, (.t 18))]),xf 20 16 (.un .not (.t 19)),xo 21 (.pick (.t 16) kt (.t 20))] (rng 13 8))
(.cond (.t 21) [21] .skip (.exit 0)))
(.block 1 (.seq (.reg [xm 22 0,xo 23 (.call 119 [(false, (.t 22)),(true, (ki 2)),(true, (.k (.list 1 [])))]),⟨(some 4), none, .new [(.int .i64 0),(.str ⟨#[]⟩),(.int .i64 0)], []⟩,xn (.store false 3 (.t 4) (.t 23))] [22,23])
(.seq (.dreg [xo 24 (.load true 3 (.t 4)),yo 25 (.pcall 167 [(.t 24)]) [0],xo 26 (.load true 3 (.t 4)),yo 27 (.pcall 167 [(.t 26)]) [0, 1, 2],yo 28 (.agg [(.int .i64 0),(.int .i64 0)] [(0, 1, (.t 25)),(1, 1, (.t 27))]) [0, 1, 2, 3],xo 5 (.new [(.int .i64 0),(.int .i64 0)]),⟨none, none, .store false 2 (.t 5) (.t 28), [0, 1, 2, 3, 4, 5]⟩] (rng 24 5))
(.seq (.seq (.reg [xm 29 0,⟨(some 30), none, .mkl 9 1 [(.str ⟨#[]⟩)] 1 [(0, (.k (.str ⟨#[45]⟩)))] false, []⟩,xo 31 (.call 114 [(false, (.t 29)),(true, (ki 3)),(true, (.t 30))])] [29,30])
(.cond (.t 31) [31] (.seq (.reg [xm 32 0,⟨(some 33), none, .mkl 9 1 [(.str ⟨#[]⟩)] 1 [(0, (.k (.str ⟨#[45]⟩)))] false, []⟩,xo 34 (.call 119 [(false, (.t 32)),(true, (ki 3)),(true, (.t 33))])] [32,33,34])
(.reg [xm 35 0,xo 36 (.call 119 [(false, (.t 35)),(true, (ki 2)),(true, (.k (.list 1 [])))]),xo 37 (.call 167 [(true, (.t 36))]),xo 38 (.faddr 1 (.t 5)),xn (.store false 1 (.t 38) (.t 37))] (rng 35 4))) .skip))
(.seq (.seq (.reg [xo 40 (.load true 2 (.t 5)),xo 41 (.mkl 52 2 [(.int .i64 0),(.int .i64 0)] 1 [(0, (.t 40))] false),xo 42 (.call 99 [(true, (.t 41))]),xm 39 42,xo 43 (.ext (.t 39) 0),xo 44 (.ext (.t 39) 1),xm 6 43,xm 7 44] [6,39,40,41,42,43,44])
(.seq (.reg [xm 45 7,xo 46 (.un .not (.t 45))] [45])
(.cond (.t 46) [46] (.reg [xo 47 (.faddr 2 (.t 4)),xo 48 (.load false 1 (.t 47)),xo 49 (.call 116 [(true, (ki 11)),(true, (.t 48))])] [47,48,49]) .skip)))
(.reg [xm 50 3,xo 51 (.load true 2 (.t 5)),xo 52 (.mkl 52 2 [(.int .i64 0),(.int .i64 0)] 1 [(0, (.t 51))] false),xo 53 (.app 52 2 16 (.t 50) (.t 52)),xm 3 53] (rng 50 4))))))))))
(.seq (.reg [xm 54 0,⟨(some 55), none, .mkl 9 1 [(.str ⟨#[]⟩)] 1 [(0, (.k (.str ⟨#[93]⟩)))] false, []⟩,xo 56 (.call 119 [(false, (.t 54)),(true, (ki 3)),(true, (.t 55))])] [54,55,56])
(.seq (.reg [xm 58 3,xo 59 (.call 99 [(true, (.t 58))]),xm 57 59,xo 60 (.ext (.t 57) 0),xo 61 (.ext (.t 57) 1),xm 8 60,xm 9 61] [9,57,58,59,60,61])
(.seq (.reg [xm 62 8,xm 2 62] [62])
.ret)))))))
/-- (*caesura/parse.reader).set -/
def fn1184 : AFn := ⟨1, 63, c1184, [(.t 2)], 0⟩
theorem fn1184_body : fn1184.body = c1184 := rfl
theorem fn1184_res : fn1184.res = [(.t 2)] := rfl
theorem fn1184_keep : fn1184.keep = 0 := rfl
def c1153 : ACode :=
(.seq (.reg [xo 2 (.anil 78 5)] [])
(.seq (.reg [xm 4 0,xo 5 (.call 168 [(false, (.t 4))]),xm 3 5] [4,5])
(.seq (.block 0 (.loop false (.seq (.seq (.reg [xm 6 0,⟨(some 7), none, .mkl 9 1 [(.str ⟨#[]⟩)] 1 [(0, (.k (.str ⟨#[124]⟩)))] false, []⟩,xo 8 (.call 114 [(false, (.t 6)),(true, (ki 3)),(true, (.t 7))])] [6,7])
(.cond (.t 8) [8] .skip (.exit 0)))
(.block 1 (.seq (.reg [xm 9 0,xo 10 (.call 119 [(false, (.t 9)),(true, (ki 3)),(true, (.k (.list 1 [])))])] [9,10])
(.reg [xm 11 0,xm 12 3,xm 13 0,xo 14 (.call 168 [(false, (.t 13))]),xo 15 (.call 170 [(true, (.t 12)),(true, (.t 14))]),xo 16 (.ext (.t 15) 0),xo 17 (.ext (.t 15) 1),xo 18 (.call 169 [(false, (.t 11)),(true, (.t 16)),(true, (.t 17))]),xm 3 18] (rng 11 8)))))))
(.seq (.reg [xm 19 3,xm 2 19] [19])
.ret))))
/-- (*caesura/parse.reader).expression -/
def fn1153 : AFn := ⟨1, 20, c1153, [(.t 2)], 0⟩
theorem fn1153_body : fn1153.body = c1153 := rfl
theorem fn1153_res : fn1153.res = [(.t 2)] := rfl
theorem fn1153_keep : fn1153.keep = 0 := rfl
def c1174 : ACode :=
(.seq (.reg [xo 2 (.mov kf)] [])
(.seq (.reg [xm 4 0,xo 5 (.conv .i32 (.t 4)),xm 3 5] [4,5])
(.seq (.reg [xm 6 3,xo 7 (.bin .geq 0 (.t 6) (.k (.int .i32 97))),xm 8 7,xt 9 8 (.mov (.t 3)),xt 10 8 (.bin .leq 0 (.t 9) (.k (.int .i32 122))),xo 11 (.pick (.t 8) (.t 10) kf),xm 2 11] (rng 6 6))
.ret)))
/-- caesura/lex.small -/
def fn1174 : AFn := ⟨1, 12, c1174, [(.t 2)], 0⟩
theorem fn1174_body : fn1174.body = c1174 := rfl
theorem fn1174_res : fn1174.res = [(.t 2)] := rfl
theorem fn1174_keep : fn1174.keep = 0 := rfl
def c1170 : ACode :=
(.seq (.reg [xo 4 (.mov (ki 0))] [])
(.seq (.reg [xo 5 (.mov (ki 0))] [])
(.seq (.block 0 (.loop false (.seq (.seq (.reg [xm 6 5,xm 7 0,xo 8 (.len 0 (.t 7)),xo 9 (.bin .lss 0 (.t 6) (.t 8)),xm 10 9,xt 11 10 (.mov (.t 1)),xt 12 10 (.mov (.t 0)),xt 13 10 (.mov (.t 5)),xt 14 10 (.sidx (.t 12) (.t 13)),xt 15 10 (.callv (.t 11) [(true, (.t 14))]),xo 16 (.pick (.t 10) (.t 15) kf)] (rng 6 10))
(.cond (.t 16) [16] .skip (.exit 0)))
(.block 1 (.reg [xm 17 5,xo 18 (.bin .add 0 (.t 17) (ki 1)),xm 5 18] [17,18])))))
(.seq (.reg [xm 19 5,xm 4 19] [19])
.ret))))
/-- caesura/lex.run -/
def fn1170 : AFn := ⟨2, 20, c1170, [(.t 4)], 0⟩
theorem fn1170_body : fn1170.body = c1170 := rfl
theorem fn1170_res : fn1170.res = [(.t 4)] := rfl
theorem fn1170_keep : fn1170.keep = 0 := rfl
def c1175 : ACode :=
(.seq (.reg [xo 2 (.mov kf)] [])
(.seq (.reg [xm 3 0,xo 4 (.call 148 [(true, (.t 3))]),xm 5 4,xf 6 5 (.mov (.t 0)),xf 7 5 (.bin .geq 0 (.t 6) (.k (.int .u8 48))),xf 8 5 (.mov (.t 7)),xt 9 8 (.mov (.t 0)),xt 10 8 (.bin .leq 0 (.t 9) (.k (.int .u8 57))),xf 11 5 (.pick (.t 8) (.t 10) kf),xo 12 (.pick (.t 5) kt (.t 11)),xm 13 12,xf 14 13 (.mov (.t 0)),xf 15 13 (.bin .eql 0 (.t 14) (.k (.int .u8 95))),xo 16 (.pick (.t 13) kt (.t 15)),xm 2 16] (rng 3 14))
.ret))
/-- caesura/lex.inner -/
def fn1175 : AFn := ⟨1, 17, c1175, [(.t 2)], 0⟩
theorem fn1175_body : fn1175.body = c1175 := rfl
theorem fn1175_res : fn1175.res = [(.t 2)] := rfl
theorem fn1175_keep : fn1175.keep = 0 := rfl
def c1283 : ACode :=
(.seq (.reg [xo 4 (.mov (ki 0))] [])
(.seq (.seq (.reg [xm 6 0,xo 7 (.len 1 (.t 6)),xo 8 (.mov (ki 0))] [6])
(.block 0 (.loop false (.seq (.reg [xo 9 (.bin .lss 0 (.t 8) (.t 7))] [])
(.seq (.cond (.t 9) [9] .skip (.exit 0))
(.seq (.block 1 (.seq (.reg [xm 10 8,xm 5 10] [10])
(.seq (.reg [xm 11 1,xm 12 0,xm 13 5,xo 14 (.iaddr 1 (.t 12) (.t 13)),xo 15 (.load false 1 (.t 14)),xo 16 (.bin .eql 0 (.t 11) (.t 15))] (rng 11 5))
(.cond (.t 16) [16] (.seq (.reg [xm 17 5,xm 4 17] [17])
.ret) .skip))))
(.reg [xo 18 (.bin .add 0 (.t 8) (ki 1)),xm 8 18] [18])))))))
(.seq (.reg [xo 4 (.mov (.k (.int .i64 (-1))))] [])
.ret)))
/-- slices.Index[[]string,string] -/
def fn1283 : AFn := ⟨2, 19, c1283, [(.t 4)], 0⟩
theorem fn1283_body : fn1283.body = c1283 := rfl
theorem fn1283_res : fn1283.res = [(.t 4)] := rfl
theorem fn1283_keep : fn1283.keep = 0 := rfl
def c1284 : ACode :=
(.seq (.reg [xo 4 (.mov (ki 0))] [])
(.seq (.seq (.reg [xm 6 0,xo 7 (.len 1 (.t 6)),xo 8 (.mov (ki 0))] [6])
(.block 0 (.loop false (.seq (.reg [xo 9 (.bin .lss 0 (.t 8) (.t 7))] [])
(.seq (.cond (.t 9) [9] .skip (.exit 0))
(.seq (.block 1 (.seq (.reg [xm 10 8,xm 5 10] [10])
(.seq (.reg [xm 11 1,xm 12 0,xm 13 5,xo 14 (.iaddr 5 (.t 12) (.t 13)),xo 15 (.load true 5 (.t 14)),xo 16 (.callv (.t 11) [(true, (.t 15))])] (rng 11 5))
(.cond (.t 16) [16] (.seq (.reg [xm 17 5,xm 4 17] [17])
.ret) .skip))))
(.reg [xo 18 (.bin .add 0 (.t 8) (ki 1)),xm 8 18] [18])))))))
(.seq (.reg [xo 4 (.mov (.k (.int .i64 (-1))))] [])
.ret)))
/-- slices.IndexFunc[caesura/api.Tree,caesura/api.Node] -/
def fn1284 : AFn := ⟨2, 19, c1284, [(.t 4)], 0⟩
theorem fn1284_body : fn1284.body = c1284 := rfl
theorem fn1284_res : fn1284.res = [(.t 4)] := rfl
theorem fn1284_keep : fn1284.keep = 0 := rfl
def c1171 : ACode :=
(.seq (.reg [xo 2 (.mov kf)] [])
(.seq (.reg [xm 3 0,xo 4 (.bin .neq 0 (.t 3) (.k (.int .u8 10))),xm 2 4] [3,4])
.ret))
/-- caesura/lex.skipped$1 -/
def fn1171 : AFn := ⟨1, 5, c1171, [(.t 2)], 0⟩
theorem fn1171_body : fn1171.body = c1171 := rfl
theorem fn1171_res : fn1171.res = [(.t 2)] := rfl
theorem fn1171_keep : fn1171.keep = 0 := rfl
def c1172 : ACode :=
(.seq (.reg [⟨(some 4), none, .mov (.k (.str ⟨#[]⟩)), []⟩,xo 5 (.mov kf)] [])
(.seq (.reg [xm 6 0,xm 7 1,xo 8 (.call 185 [(true, (.t 6)),(true, (.t 7))]),xo 9 (.ext (.t 8) 0),xo 10 (.ext (.t 8) 1),xm 4 9,xm 5 10] (rng 6 5))
.ret))
/-- strings.CutPrefix -/
def fn1172 : AFn := ⟨2, 11, c1172, [(.t 4),(.t 5)], 0⟩
theorem fn1172_body : fn1172.body = c1172 := rfl
theorem fn1172_res : fn1172.res = [(.t 4), (.t 5)] := rfl
theorem fn1172_keep : fn1172.keep = 0 := rfl
def c1173 : ACode :=
(.seq (.reg [⟨(some 2), none, .mov (.k (.str ⟨#[]⟩)), []⟩,xo 3 (.mov kf)] [])
(.seq (.reg [xm 7 0,xm 8 0,xo 9 (.call 149 [(true, (.t 8)),(false, (.k (.func 186 [])))]),xo 10 (.sslc (.t 7) none (some (.t 9))),xm 4 10] (rng 7 4))
(.seq (.reg [xm 12 4,xo 13 (.call 187 [(true, (.t 12)),(true, (ki 16)),(true, (ki 32))]),xm 11 13,xo 14 (.ext (.t 11) 0),xo 15 (.ext (.t 11) 1),xm 5 14,xm 6 15] (rng 11 5))
(.seq (.reg [xm 16 4,xm 17 6,xo 18 (.bin .eql 2 (.t 17) (.k .nili)),xm 19 18,xt 20 19 (.mov (.t 4)),xt 21 19 (.len 0 (.t 20)),xt 22 19 (.bin .leq 0 (.t 21) (ki 6)),xo 23 (.pick (.t 19) (.t 22) kf),xm 24 23,xt 25 24 (.mov (.t 5)),xt 26 24 (.bin .leq 0 (.t 25) (.k (.int .u64 1114111))),xo 27 (.pick (.t 24) (.t 26) kf),xm 2 16,xm 3 27] (rng 16 12))
.ret))))
/-- caesura/lex.number -/
def fn1173 : AFn := ⟨1, 28, c1173, [(.t 2),(.t 3)], 0⟩
theorem fn1173_body : fn1173.body = c1173 := rfl
theorem fn1173_res : fn1173.res = [(.t 2), (.t 3)] := rfl
theorem fn1173_keep : fn1173.keep = 0 := rfl
def c1177 : ACode :=
(.seq (.reg [xo 4 (.mov kf)] [])
(.seq (.reg [xm 5 0,xm 6 1,xo 7 (.call 188 [(true, (.t 5)),(true, (.t 6))]),xm 4 7] [5,6,7])
.ret))
/-- strings.HasPrefix -/
def fn1177 : AFn := ⟨2, 8, c1177, [(.t 4)], 0⟩
theorem fn1177_body : fn1177.body = c1177 := rfl
theorem fn1177_res : fn1177.res = [(.t 4)] := rfl
theorem fn1177_keep : fn1177.keep = 0 := rfl
def c1188 : ACode :=
(.seq (.reg [xo 1 (.box (.t 0)),xo 2 (.mov (ki 0))] [])
(.seq (.reg [xo 6 (.faddr 1 (.t 1)),xo 7 (.load false 1 (.t 6)),xo 8 (.call 187 [(true, (.t 7)),(true, (ki 16)),(true, (ki 32))]),xm 5 8,xo 9 (.ext (.t 5) 0),xo 10 (.ext (.t 5) 1),xm 3 9,xm 4 10] (rng 4 7))
(.seq (.reg [xm 11 3,xo 12 (.conv .i64 (.t 11)),xm 2 12] [11,12])
.ret)))
/-- caesura/parse.number -/
def fn1188 : AFn := ⟨1, 13, c1188, [(.t 2)], 0⟩
theorem fn1188_body : fn1188.body = c1188 := rfl
theorem fn1188_res : fn1188.res = [(.t 2)] := rfl
theorem fn1188_keep : fn1188.keep = 0 := rfl
def c1159 : ACode :=
(.seq (.reg [xo 2 (.anil 78 5)] [])
(.seq (.reg [xm 4 0,xo 5 (.call 189 [(false, (.t 4))]),xm 3 5] [4,5])
(.seq (.block 0 (.loop false (.seq (.seq (.reg [xm 6 0,xo 7 (.call 190 [(false, (.t 6))])] [6])
(.cond (.t 7) [7] .skip (.exit 0)))
(.block 1 (.reg [xm 8 0,xm 9 3,xm 10 0,xo 11 (.call 189 [(false, (.t 10))]),xo 12 (.call 191 [(true, (.t 9)),(true, (.t 11))]),xo 13 (.ext (.t 12) 0),xo 14 (.ext (.t 12) 1),xo 15 (.call 169 [(false, (.t 8)),(true, (.t 13)),(true, (.t 14))]),xm 3 15] (rng 8 8))))))
(.seq (.reg [xm 16 3,xm 2 16] [16])
.ret))))
/-- (*caesura/parse.reader).member -/
def fn1159 : AFn := ⟨1, 17, c1159, [(.t 2)], 0⟩
theorem fn1159_body : fn1159.body = c1159 := rfl
theorem fn1159_res : fn1159.res = [(.t 2)] := rfl
theorem fn1159_keep : fn1159.keep = 0 := rfl
def c1162 : ACode :=
(.seq (.reg [xo 6 (.anil 78 5)] [])
(.seq (.seq (.reg [xm 7 2,xo 8 (.un .not (.t 7))] [7])
(.cond (.t 8) [8] (.reg [xm 9 0,xo 10 (.nilck (.t 9)),xo 11 (.faddr 4 (.t 10)),xo 12 (.load false 1 (.t 11)),xo 13 (.call 116 [(true, (ki 14)),(true, (.t 12))])] (rng 9 5)) .skip))
(.seq (.reg [xm 14 1,xm 6 14] [14])
.ret)))
/-- (*caesura/parse.reader).made -/
def fn1162 : AFn := ⟨3, 15, c1162, [(.t 6)], 0⟩
theorem fn1162_body : fn1162.body = c1162 := rfl
theorem fn1162_res : fn1162.res = [(.t 6)] := rfl
theorem fn1162_keep : fn1162.keep = 0 := rfl
def c20 : ACode :=
(.seq (.reg [xo 4 (.anil 78 5),xo 5 (.mov kf)] [])
(.seq (.reg [xm 6 0,xm 7 1,xo 8 (.call 192 [(true, (ki 4)),(true, (.t 6)),(true, (.t 7))]),xo 9 (.ext (.t 8) 0),xo 10 (.ext (.t 8) 1),xm 4 9,xm 5 10] (rng 6 5))
.ret))
/-- caesura/tree.Alt -/
def fn20 : AFn := ⟨2, 11, c20, [(.t 4),(.t 5)], 0⟩
theorem fn20_body : fn20.body = c20 := rfl
theorem fn20_res : fn20.res = [(.t 4), (.t 5)] := rfl
theorem fn20_keep : fn20.keep = 0 := rfl
def c1179 : ACode :=
(.seq (.reg [⟨(some 4), none, .mov (.k (.str ⟨#[]⟩)), []⟩,xo 5 (.mov kf)] [])
(.seq (.seq (.reg [xm 6 0,xm 7 1,xo 8 (.call 188 [(true, (.t 6)),(true, (.t 7))]),xo 9 (.un .not (.t 8))] [6,7,8])
(.cond (.t 9) [9] (.seq (.reg [xm 10 0,xm 4 10,xo 5 (.mov kf)] [10])
.ret) .skip))
(.seq (.reg [xm 11 0,xm 12 1,xo 13 (.len 0 (.t 12)),xo 14 (.sslc (.t 11) (some (.t 13)) none),xm 4 14,xo 5 (.mov kt)] (rng 11 4))
.ret)))
/-- internal/stringslite.CutPrefix -/
def fn1179 : AFn := ⟨2, 15, c1179, [(.t 4),(.t 5)], 0⟩
theorem fn1179_body : fn1179.body = c1179 := rfl
theorem fn1179_res : fn1179.res = [(.t 4), (.t 5)] := rfl
theorem fn1179_keep : fn1179.keep = 0 := rfl
def c1180 : ACode :=
(.seq (.reg [xo 2 (.mov kf)] [])
(.seq (.reg [xm 3 0,xo 4 (.bin .geq 0 (.t 3) (.k (.int .u8 48))),xm 5 4,xt 6 5 (.mov (.t 0)),xt 7 5 (.bin .leq 0 (.t 6) (.k (.int .u8 57))),xo 8 (.pick (.t 5) (.t 7) kf),xm 9 8,xf 10 9 (.mov (.t 0)),xf 11 9 (.bin .geq 0 (.t 10) (.k (.int .u8 97))),xf 12 9 (.mov (.t 11)),xt 13 12 (.mov (.t 0)),xt 14 12 (.bin .leq 0 (.t 13) (.k (.int .u8 102))),xf 15 9 (.pick (.t 12) (.t 14) kf),xo 16 (.pick (.t 9) kt (.t 15)),xm 2 16] (rng 3 14))
.ret))
/-- caesura/lex.digit -/
def fn1180 : AFn := ⟨1, 17, c1180, [(.t 2)], 0⟩
theorem fn1180_body : fn1180.body = c1180 := rfl
theorem fn1180_res : fn1180.res = [(.t 2)] := rfl
theorem fn1180_keep : fn1180.keep = 0 := rfl
def c1181 : ACode :=
(.seq (.reg [xo 6 (.mov (.k (.int .u64 0))),xo 7 (.mov (.k .nili))] [])
(.seq (.reg [xm 11 0,xm 12 1,xm 13 2,xo 14 (.call 206 [(true, (.t 11)),(true, (.t 12)),(true, (.t 13))]),xm 10 14,xo 15 (.ext (.t 10) 0),xo 16 (.ext (.t 10) 1),xm 8 15,xm 9 16] (rng 10 7))
(.seq (.seq (.reg [xm 17 9,xo 18 (.bin .neq 2 (.t 17) (.k .nili))] [17])
(.cond (.t 18) [18] (.seq (.reg [xm 19 8,xm 20 0,xm 21 1,xm 22 2,xm 23 9,⟨(some 24), none, .call 207 [(true, (.k (.str ⟨#[80, 97, 114, 115, 101, 85, 105, 110, 116]⟩))),(true, (.t 20)),(true, (.t 21)),(true, (.t 22)),(true, (.t 23))], []⟩,xm 6 19,xm 7 24] (rng 19 6))
.ret) .skip))
(.seq (.reg [xm 25 8,xm 6 25,xo 7 (.mov (.k .nili))] [25])
.ret))))
/-- strconv.ParseUint -/
def fn1181 : AFn := ⟨3, 26, c1181, [(.t 6),(.t 7)], 0⟩
theorem fn1181_body : fn1181.body = c1181 := rfl
theorem fn1181_res : fn1181.res = [(.t 6), (.t 7)] := rfl
theorem fn1181_keep : fn1181.keep = 0 := rfl
def c1182 : ACode :=
(.seq (.reg [xo 4 (.mov kf)] [])
(.seq (.reg [xm 5 0,xo 6 (.len 0 (.t 5)),xm 7 1,xo 8 (.len 0 (.t 7)),xo 9 (.bin .geq 0 (.t 6) (.t 8)),xm 10 9,xt 11 10 (.mov (.t 0)),xt 12 10 (.mov (.t 1)),xt 13 10 (.len 0 (.t 12)),xt 14 10 (.sslc (.t 11) none (some (.t 13))),xt 15 10 (.mov (.t 1)),xt 16 10 (.bin .eql 0 (.t 14) (.t 15)),xo 17 (.pick (.t 10) (.t 16) kf),xm 4 17] (rng 5 13))
.ret))
/-- internal/stringslite.HasPrefix -/
def fn1182 : AFn := ⟨2, 18, c1182, [(.t 4)], 0⟩
theorem fn1182_body : fn1182.body = c1182 := rfl
theorem fn1182_res : fn1182.res = [(.t 4)] := rfl
theorem fn1182_keep : fn1182.keep = 0 := rfl
def c1168 : ACode :=
(.seq (.reg [xo 2 (.anil 78 5)] [])
(.seq (.reg [xm 4 0,xo 5 (.call 208 [(false, (.t 4))]),xm 3 5] [4,5])
(.seq (.block 0 (.loop false (.seq (.seq (.reg [xm 6 0,⟨(some 7), none, .mkl 9 1 [(.str ⟨#[]⟩)] 3 [(0, (.k (.str ⟨#[42]⟩))),(1, (.k (.str ⟨#[43]⟩))),(2, (.k (.str ⟨#[63]⟩)))] false, []⟩,xo 8 (.call 114 [(false, (.t 6)),(true, (ki 3)),(true, (.t 7))])] [6,7])
(.cond (.t 8) [8] .skip (.exit 0)))
(.block 1 (.seq (.reg [xm 9 0,xo 10 (.call 119 [(false, (.t 9)),(true, (ki 3)),(true, (.k (.list 1 [])))]),xo 11 (.fld false 1 1 (.t 10))] [9,10])
(.block 2 (.seq (.reg [⟨(some 20), none, .bin .eql 0 (.t 11) (.k (.str ⟨#[42]⟩)), []⟩,xm 19 20] [20])
(.cond (.t 19) [19] (.reg [xm 21 0,xm 22 3,xo 23 (.call 26 [(true, (.t 22))]),xo 24 (.ext (.t 23) 0),xo 25 (.ext (.t 23) 1),xo 26 (.call 169 [(false, (.t 21)),(true, (.t 24)),(true, (.t 25))]),xm 3 26] (rng 21 6)) (.seq (.reg [⟨(some 28), none, .bin .eql 0 (.t 11) (.k (.str ⟨#[43]⟩)), []⟩,xm 27 28] [28])
(.cond (.t 27) [27] (.reg [xm 29 0,xm 30 3,xm 31 0,xm 32 3,xo 33 (.call 26 [(true, (.t 32))]),xo 34 (.ext (.t 33) 0),xo 35 (.ext (.t 33) 1),xo 36 (.call 169 [(false, (.t 31)),(true, (.t 34)),(true, (.t 35))]),xo 37 (.call 191 [(true, (.t 30)),(true, (.t 36))]),xo 38 (.ext (.t 37) 0),xo 39 (.ext (.t 37) 1),xo 40 (.call 169 [(false, (.t 29)),(true, (.t 38)),(true, (.t 39))]),xm 3 40] (rng 29 12)) (.reg [xm 12 0,xm 13 3,xo 14 (.call 27 [(true, (ki 1))]),xo 15 (.call 170 [(true, (.t 13)),(true, (.t 14))]),xo 16 (.ext (.t 15) 0),xo 17 (.ext (.t 15) 1),xo 18 (.call 169 [(false, (.t 12)),(true, (.t 16)),(true, (.t 17))]),xm 3 18] (rng 12 7))))))))))))
(.seq (.reg [xm 41 3,xm 2 41] [41])
.ret))))
/-- (*caesura/parse.reader).piece -/
def fn1168 : AFn := ⟨1, 42, c1168, [(.t 2)], 0⟩
theorem fn1168_body : fn1168.body = c1168 := rfl
theorem fn1168_res : fn1168.res = [(.t 2)] := rfl
theorem fn1168_keep : fn1168.keep = 0 := rfl
def c1169 : ACode :=
(.seq (.reg [xo 2 (.mov kf)] [])
(.seq (.reg [xm 3 0,xo 4 (.call 114 [(false, (.t 3)),(true, (ki 1)),(true, (.k (.list 1 [])))]),xm 5 4,xt 6 5 (.mov (.t 0)),⟨(some 7),(some (5, true)), .mkl 9 1 [(.str ⟨#[]⟩)] 2 [(0, (.k (.str ⟨#[99, 108, 97, 115, 115]⟩))),(1, (.k (.str ⟨#[101, 108, 115, 101]⟩)))] false, []⟩,xt 8 5 (.call 114 [(false, (.t 6)),(true, (ki 1)),(true, (.t 7))]),xt 9 5 (.un .not (.t 8)),xo 10 (.pick (.t 5) (.t 9) kf),xm 11 10,xf 12 11 (.mov (.t 0)),⟨(some 13),(some (11, false)), .mkl 9 1 [(.str ⟨#[]⟩)] 2 [(0, (.k (.str ⟨#[91]⟩))),(1, (.k (.str ⟨#[40]⟩)))] false, []⟩,xf 14 11 (.call 114 [(false, (.t 12)),(true, (ki 3)),(true, (.t 13))]),xo 15 (.pick (.t 11) kt (.t 14)),xm 2 15] (rng 3 13))
.ret))
/-- (*caesura/parse.reader).begins -/
def fn1169 : AFn := ⟨1, 16, c1169, [(.t 2)], 0⟩
theorem fn1169_body : fn1169.body = c1169 := rfl
theorem fn1169_res : fn1169.res = [(.t 2)] := rfl
theorem fn1169_keep : fn1169.keep = 0 := rfl
def c19 : ACode :=
(.seq (.reg [xo 4 (.anil 78 5),xo 5 (.mov kf)] [])
(.seq (.reg [xm 6 0,xm 7 1,xo 8 (.call 192 [(true, (ki 3)),(true, (.t 6)),(true, (.t 7))]),xo 9 (.ext (.t 8) 0),xo 10 (.ext (.t 8) 1),xm 4 9,xm 5 10] (rng 6 5))
.ret))
/-- caesura/tree.Cat -/
def fn19 : AFn := ⟨2, 11, c19, [(.t 4),(.t 5)], 0⟩
theorem fn19_body : fn19.body = c19 := rfl
theorem fn19_res : fn19.res = [(.t 4), (.t 5)] := rfl
theorem fn19_keep : fn19.keep = 0 := rfl
def c67 : ACode :=
(.seq (.reg [xo 6 (.anil 78 5),xo 7 (.mov kf)] [])
(.seq (.seq (.reg [xm 9 1,xo 10 (.call 55 [(true, (.t 9))]),xo 11 (.un .not (.t 10)),xm 12 11,xf 13 12 (.mov (.t 2)),xf 14 12 (.call 55 [(true, (.t 13))]),xf 15 12 (.un .not (.t 14)),xo 16 (.pick (.t 12) kt (.t 15)),xm 17 16,xf 18 17 (.mov (.t 1)),xf 19 17 (.len 1 (.t 18)),xf 20 17 (.mov (.t 2)),xf 21 17 (.len 1 (.t 20)),xf 22 17 (.bin .add 0 (.t 19) (.t 21)),xf 23 17 (.bin .add 0 (.t 22) (ki 1)),xf 24 17 (.bin .gtr 0 (.t 23) (ki 40000)),xo 25 (.pick (.t 17) kt (.t 24))] (rng 9 16))
(.cond (.t 25) [25] (.seq (.reg [xo 6 (.anil 78 5),xo 7 (.mov kf)] [])
.ret) .skip))
(.seq (.reg [xm 26 1,xo 27 (.call 59 [(true, (.t 26)),(true, (ki 0))]),xm 28 2,xm 29 1,xo 30 (.len 1 (.t 29)),xo 31 (.call 59 [(true, (.t 28)),(true, (.t 30))]),xo 32 (.app 78 5 64 (.t 27) (.t 31)),xm 8 32] (rng 26 7))
(.seq (.reg [xm 33 8,xm 34 0,xm 35 1,xo 36 (.len 1 (.t 35)),xo 37 (.bin .sub 0 (.t 36) (ki 1)),xm 38 8,xo 39 (.len 1 (.t 38)),xo 40 (.bin .sub 0 (.t 39) (ki 1)),⟨(some 41), none, .agg [(.int .i64 0),(.int .i64 0),(.int .i64 0),(.list 2 []),(.str ⟨#[]⟩)] [(0, 1, (.t 34)),(1, 1, (.t 37)),(2, 1, (.t 40))], []⟩,⟨(some 42), none, .mkl 78 5 [(.int .i64 0),(.int .i64 0),(.int .i64 0),(.list 2 []),(.str ⟨#[]⟩)] 1 [(0, (.t 41))] false, []⟩,xo 43 (.app 78 5 64 (.t 33) (.t 42)),xm 6 43,xo 7 (.mov kt)] (rng 33 11))
.ret))))
/-- caesura/tree.pair -/
def fn67 : AFn := ⟨3, 44, c67, [(.t 6),(.t 7)], 0⟩
theorem fn67_body : fn67.body = c67 := rfl
theorem fn67_res : fn67.res = [(.t 6), (.t 7)] := rfl
theorem fn67_keep : fn67.keep = 0 := rfl
def c1186 : ACode :=
(.seq (.reg [xo 6 (.mov (.k (.int .u64 0))),xo 7 (.mov (.k .nili))] [])
(.seq (.seq (.reg [xm 18 0,⟨(some 19), none, .bin .eql 0 (.t 18) (.k (.str ⟨#[]⟩)), []⟩] [18])
(.cond (.t 19) [19] (.seq .stuck
.ret) .skip))
(.seq (.reg [xm 21 1,xo 22 (.bin .eql 0 (.t 21) (ki 0)),xm 8 22] [21,22])
(.seq (.reg [xm 23 0,xm 9 23] [23])
(.seq (.block 0 (.seq (.reg [xm 26 1,xo 27 (.bin .leq 0 (ki 2) (.t 26)),xm 28 27,xt 29 28 (.mov (.t 1)),xt 30 28 (.bin .leq 0 (.t 29) (ki 36)),xo 31 (.pick (.t 28) (.t 30) kf),xm 25 31] (rng 26 6))
(.cond (.t 25) [25] .skip (.seq (.reg [xm 33 1,xo 34 (.bin .eql 0 (.t 33) (ki 0)),xm 32 34] [33,34])
(.cond (.t 32) [32] (.seq (.reg [xo 1 (.mov (ki 10))] [])
(.seq (.reg [xm 35 0,xo 36 (.sidx (.t 35) (ki 0)),xo 37 (.bin .eql 0 (.t 36) (.k (.int .u8 48)))] [35,36])
(.cond (.t 37) [37] (.block 1 (.seq (.reg [xm 41 0,xo 42 (.len 0 (.t 41)),xo 43 (.bin .geq 0 (.t 42) (ki 3)),xm 44 43,xt 45 44 (.mov (.t 0)),xt 46 44 (.sidx (.t 45) (ki 1)),xt 47 44 (.call 213 [(true, (.t 46))]),xt 48 44 (.bin .eql 0 (.t 47) (.k (.int .u8 98))),xo 49 (.pick (.t 44) (.t 48) kf),xm 40 49] (rng 41 9))
(.cond (.t 40) [40] (.seq (.reg [xo 1 (.mov (ki 2))] [])
(.reg [xm 50 0,xo 51 (.sslc (.t 50) (some (ki 2)) none),xm 0 51] [50,51])) (.seq (.reg [xm 53 0,xo 54 (.len 0 (.t 53)),xo 55 (.bin .geq 0 (.t 54) (ki 3)),xm 56 55,xt 57 56 (.mov (.t 0)),xt 58 56 (.sidx (.t 57) (ki 1)),xt 59 56 (.call 213 [(true, (.t 58))]),xt 60 56 (.bin .eql 0 (.t 59) (.k (.int .u8 111))),xo 61 (.pick (.t 56) (.t 60) kf),xm 52 61] (rng 53 9))
(.cond (.t 52) [52] (.seq (.reg [xo 1 (.mov (ki 8))] [])
(.reg [xm 62 0,xo 63 (.sslc (.t 62) (some (ki 2)) none),xm 0 63] [62,63])) (.seq (.reg [xm 65 0,xo 66 (.len 0 (.t 65)),xo 67 (.bin .geq 0 (.t 66) (ki 3)),xm 68 67,xt 69 68 (.mov (.t 0)),xt 70 68 (.sidx (.t 69) (ki 1)),xt 71 68 (.call 213 [(true, (.t 70))]),xt 72 68 (.bin .eql 0 (.t 71) (.k (.int .u8 120))),xo 73 (.pick (.t 68) (.t 72) kf),xm 64 73] (rng 65 9))
(.cond (.t 64) [64] (.seq (.reg [xo 1 (.mov (ki 16))] [])
(.reg [xm 74 0,xo 75 (.sslc (.t 74) (some (ki 2)) none),xm 0 75] [74,75])) (.seq (.reg [xo 1 (.mov (ki 8))] [])
(.reg [xm 38 0,xo 39 (.sslc (.t 38) (some (ki 1)) none),xm 0 39] [38,39]))))))))) .skip))) (.seq .stuck
.ret))))))
(.seq (.seq (.reg [xm 76 2,xo 77 (.bin .eql 0 (.t 76) (ki 0))] [76])
(.cond (.t 77) [77] (.reg [xo 2 (.mov (ki 64))] []) (.seq (.reg [xm 78 2,xo 79 (.bin .lss 0 (.t 78) (ki 0)),xm 80 79,xf 81 80 (.mov (.t 2)),xf 82 80 (.bin .gtr 0 (.t 81) (ki 64)),xo 83 (.pick (.t 80) kt (.t 82))] (rng 78 5))
(.cond (.t 83) [83] (.seq .stuck
.ret) .skip))))
(.seq (.reg [xo 10 (.mov (.k (.int .u64 0)))] [])
(.seq (.seq (.reg [xm 85 1] [])
(.block 2 (.seq (.reg [xo 91 (.bin .eql 0 (.t 85) (ki 10)),xm 90 91] [91])
(.cond (.t 90) [90] (.reg [xo 10 (.mov (.k (.int .u64 1844674407370955162)))] []) (.seq (.reg [xo 93 (.bin .eql 0 (.t 85) (ki 16)),xm 92 93] [93])
(.cond (.t 92) [92] (.reg [xo 10 (.mov (.k (.int .u64 1152921504606846976)))] []) (.reg [xm 86 1,xo 87 (.conv .u64 (.t 86)),xo 88 (.bin .quo 0 (.k (.int .u64 18446744073709551615)) (.t 87)),xo 89 (.bin .add 0 (.t 88) (.k (.int .u64 1))),xm 10 89] (rng 86 4))))))))
(.seq (.reg [xm 94 2,xo 95 (.conv .u64 (.t 94)),xo 96 (.bin .shl 0 (.k (.int .u64 1)) (.t 95)),xo 97 (.bin .sub 0 (.t 96) (.k (.int .u64 1))),xm 11 97] (rng 94 4))
(.seq (.reg [xo 12 (.mov kf)] [])
(.seq (.reg [xo 13 (.mov (.k (.int .u64 0)))] [])
(.seq (.seq (.reg [xm 98 0,xo 99 (.s2b (.t 98)),xo 100 (.len 1 (.t 99)),xo 101 (.mov (ki 0))] [98])
(.block 3 (.loop false (.seq (.reg [xo 102 (.bin .lss 0 (.t 101) (.t 100))] [])
(.seq (.cond (.t 102) [102] .skip (.exit 3))
(.seq (.block 4 (.seq (.reg [xo 103 (.iaddr 1 (.t 99) (.t 101)),xo 104 (.load false 1 (.t 103)),xm 15 104] [103,104])
(.seq (.reg [xo 16 (.mov (.k (.int .u8 0)))] [])
(.seq (.block 5 (.seq (.reg [xm 107 15,xo 108 (.bin .eql 0 (.t 107) (.k (.int .u8 95))),xm 109 108,xt 110 109 (.mov (.t 8)),xo 111 (.pick (.t 109) (.t 110) kf),xm 106 111] (rng 107 5))
(.cond (.t 106) [106] (.seq (.reg [xo 12 (.mov kt)] [])
(.exit 4)) (.seq (.reg [xm 113 15,xo 114 (.bin .leq 0 (.k (.int .u8 48)) (.t 113)),xm 115 114,xt 116 115 (.mov (.t 15)),xt 117 115 (.bin .leq 0 (.t 116) (.k (.int .u8 57))),xo 118 (.pick (.t 115) (.t 117) kf),xm 112 118] (rng 113 6))
(.cond (.t 112) [112] (.reg [xm 119 15,xo 120 (.bin .sub 0 (.t 119) (.k (.int .u8 48))),xm 16 120] [119,120]) (.seq (.reg [xm 122 15,xo 123 (.call 213 [(true, (.t 122))]),xo 124 (.bin .leq 0 (.k (.int .u8 97)) (.t 123)),xm 125 124,xt 126 125 (.mov (.t 15)),xt 127 125 (.call 213 [(true, (.t 126))]),xt 128 125 (.bin .leq 0 (.t 127) (.k (.int .u8 122))),xo 129 (.pick (.t 125) (.t 128) kf),xm 121 129] (rng 122 8))
(.cond (.t 121) [121] (.reg [xm 130 15,xo 131 (.call 213 [(true, (.t 130))]),xo 132 (.bin .sub 0 (.t 131) (.k (.int .u8 97))),xo 133 (.bin .add 0 (.t 132) (.k (.int .u8 10))),xm 16 133] (rng 130 4)) (.seq .stuck
.ret))))))))
(.seq (.seq (.reg [xm 134 16,xm 135 1,xo 136 (.conv .u8 (.t 135)),xo 137 (.bin .geq 0 (.t 134) (.t 136))] [134,135,136])
(.cond (.t 137) [137] (.seq .stuck
.ret) .skip))
(.seq (.seq (.reg [xm 139 13,xm 140 10,xo 141 (.bin .geq 0 (.t 139) (.t 140))] [139,140])
(.cond (.t 141) [141] (.seq .stuck
.ret) .skip))
(.seq (.reg [xm 144 13,xm 145 1,xo 146 (.conv .u64 (.t 145)),xo 147 (.bin .mul 0 (.t 144) (.t 146)),xm 13 147] (rng 144 4))
(.seq (.reg [xm 148 13,xm 149 16,xo 150 (.conv .u64 (.t 149)),xo 151 (.bin .add 0 (.t 148) (.t 150)),xm 17 151] (rng 148 4))
(.seq (.seq (.reg [xm 152 17,xm 153 13,xo 154 (.bin .lss 0 (.t 152) (.t 153)),xm 155 154,xf 156 155 (.mov (.t 17)),xf 157 155 (.mov (.t 11)),xf 158 155 (.bin .gtr 0 (.t 156) (.t 157)),xo 159 (.pick (.t 155) kt (.t 158))] (rng 152 7))
(.cond (.t 159) [159] (.seq .stuck
.ret) .skip))
(.reg [xm 162 17,xm 13 162] [162]))))))))))
(.reg [xo 163 (.bin .add 0 (.t 101) (ki 1)),xm 101 163] [163])))))))
(.seq (.seq (.reg [xm 164 12,xm 165 164,xt 166 165 (.mov (.t 9)),xt 167 165 (.call 214 [(true, (.t 166))]),xt 168 165 (.un .not (.t 167)),xo 169 (.pick (.t 165) (.t 168) kf)] (rng 164 5))
(.cond (.t 169) [169] (.seq .stuck
.ret) .skip))
(.seq (.reg [xm 171 13,xm 6 171,xo 7 (.mov (.k .nili))] [171])
.ret))))))))))))))
/-- internal/strconv.ParseUint -/
def fn1186 : AFn := ⟨3, 172, c1186, [(.t 6),(.t 7)], 0⟩
theorem fn1186_body : fn1186.body = c1186 := rfl
theorem fn1186_res : fn1186.res = [(.t 6), (.t 7)] := rfl
theorem fn1186_keep : fn1186.keep = 0 := rfl
def c1187 : ACode :=
(.seq (.reg [xo 10 (.mov (.k .nili))] [])
(.seq (.seq (.reg [xm 11 4] [])
(.block 0 (.seq .stuck
(.cond (.t 12) [12] (.seq .stuck
.ret) (.seq .stuck
(.cond (.t 19) [19] (.seq .stuck
.ret) (.seq .stuck
(.cond (.t 26) [26] (.seq .stuck
.ret) (.seq .stuck
(.cond (.t 34) [34] (.seq .stuck
.ret) .skip))))))))))
(.seq (.reg [xm 42 4,xm 10 42] [42])
.ret)))
/-- strconv.toError -/
def fn1187 : AFn := ⟨5, 43, c1187, [(.t 10)], 0⟩
theorem fn1187_body : fn1187.body = c1187 := rfl
theorem fn1187_res : fn1187.res = [(.t 10)] := rfl
theorem fn1187_keep : fn1187.keep = 0 := rfl
def c1178 : ACode :=
(.seq (.reg [xo 2 (.anil 78 5)] [])
(.seq (.block 0 (.seq (.reg [xm 6 0,⟨(some 7), none, .mkl 9 1 [(.str ⟨#[]⟩)] 1 [(0, (.k (.str ⟨#[91]⟩)))] false, []⟩,xo 8 (.call 114 [(false, (.t 6)),(true, (ki 3)),(true, (.t 7))]),xm 5 8] [6,7,8])
(.cond (.t 5) [5] (.seq (.reg [xm 9 0,xm 10 0,xo 11 (.call 146 [(false, (.t 10))]),⟨(some 12), none, .call 219 [(false, (.t 9)),(true, (.t 11)),(true, (.k (.str ⟨#[]⟩)))], []⟩,xm 2 12] (rng 9 4))
.ret) (.seq (.reg [xm 14 0,xo 15 (.call 114 [(false, (.t 14)),(true, (ki 1)),(true, (.k (.list 1 [])))]),xm 13 15] [14,15])
(.cond (.t 13) [13] (.seq (.reg [xm 16 0,xo 17 (.call 220 [(false, (.t 16))]),xm 2 17] [16,17])
.ret) .skip)))))
(.seq (.reg [xm 18 0,⟨(some 19), none, .mkl 9 1 [(.str ⟨#[]⟩)] 1 [(0, (.k (.str ⟨#[40]⟩)))] false, []⟩,xo 20 (.call 119 [(false, (.t 18)),(true, (ki 3)),(true, (.t 19))]),⟨(some 3), none, .new [(.int .i64 0),(.str ⟨#[]⟩),(.int .i64 0)], []⟩,xn (.store false 3 (.t 3) (.t 20))] [18,19,20])
(.seq (.seq (.reg [xm 21 0,xo 22 (.nilck (.t 21)),xo 23 (.faddr 3 (.t 22)),xo 24 (.load false 1 (.t 23)),xo 25 (.bin .add 0 (.t 24) (ki 1)),xo 26 (.nilck (.t 21)),xo 27 (.faddr 3 (.t 26)),xn (.store false 1 (.t 27) (.t 25))] (rng 21 7))
(.seq (.reg [xm 28 0,xo 29 (.nilck (.t 28)),xo 30 (.faddr 3 (.t 29)),xo 31 (.load false 1 (.t 30)),xo 32 (.bin .gtr 0 (.t 31) (ki 200))] (rng 28 4))
(.cond (.t 32) [32] (.reg [xo 33 (.faddr 2 (.t 3)),xo 34 (.load false 1 (.t 33)),xo 35 (.call 116 [(true, (ki 14)),(true, (.t 34))])] [33,34,35]) .skip)))
(.seq (.reg [xm 36 0,xo 37 (.call 147 [(false, (.t 36))]),xm 4 37] [36,37])
(.seq (.reg [xm 38 0,⟨(some 39), none, .mkl 9 1 [(.str ⟨#[]⟩)] 1 [(0, (.k (.str ⟨#[41]⟩)))] false, []⟩,xo 40 (.call 119 [(false, (.t 38)),(true, (ki 3)),(true, (.t 39))])] [38,39,40])
(.seq (.reg [xm 41 0,xo 42 (.nilck (.t 41)),xo 43 (.faddr 3 (.t 42)),xo 44 (.load false 1 (.t 43)),xo 45 (.bin .sub 0 (.t 44) (ki 1)),xo 46 (.nilck (.t 41)),xo 47 (.faddr 3 (.t 46)),xn (.store false 1 (.t 47) (.t 45))] (rng 41 7))
(.seq (.reg [xm 48 4,xm 2 48] [48])
.ret))))))))
/-- (*caesura/parse.reader).atom -/
def fn1178 : AFn := ⟨1, 49, c1178, [(.t 2)], 0⟩
theorem fn1178_body : fn1178.body = c1178 := rfl
theorem fn1178_res : fn1178.res = [(.t 2)] := rfl
theorem fn1178_keep : fn1178.keep = 0 := rfl
def c1189 : ACode :=
(.seq (.reg [xo 2 (.mov (.k (.int .u8 0)))] [])
(.seq (.reg [xm 3 0,xo 4 (.bin .or 0 (.t 3) (.k (.int .u8 32))),xm 2 4] [3,4])
.ret))
/-- internal/strconv.lower -/
def fn1189 : AFn := ⟨1, 5, c1189, [(.t 2)], 0⟩
theorem fn1189_body : fn1189.body = c1189 := rfl
theorem fn1189_res : fn1189.res = [(.t 2)] := rfl
theorem fn1189_keep : fn1189.keep = 0 := rfl
def c1190 : ACode :=
(.seq (.reg [xo 2 (.mov kf)] [])
(.seq (.reg [xo 3 (.mov (.k (.int .i32 94)))] [])
(.seq (.reg [xo 4 (.mov (ki 0))] [])
(.seq (.seq (.reg [xm 6 0,xo 7 (.len 0 (.t 6)),xo 8 (.bin .geq 0 (.t 7) (ki 1)),xm 9 8,xt 10 9 (.mov (.t 0)),xt 11 9 (.sidx (.t 10) (ki 0)),xt 12 9 (.bin .eql 0 (.t 11) (.k (.int .u8 45))),xt 13 9 (.mov (.t 12)),xf 14 13 (.mov (.t 0)),xf 15 13 (.sidx (.t 14) (ki 0)),xf 16 13 (.bin .eql 0 (.t 15) (.k (.int .u8 43))),xt 17 9 (.pick (.t 13) kt (.t 16)),xo 18 (.pick (.t 9) (.t 17) kf)] (rng 6 12))
(.cond (.t 18) [18] (.reg [xm 19 0,xo 20 (.sslc (.t 19) (some (ki 1)) none),xm 0 20] [19,20]) .skip))
(.seq (.reg [xo 5 (.mov kf)] [])
(.seq (.seq (.reg [xm 21 0,xo 22 (.len 0 (.t 21)),xo 23 (.bin .geq 0 (.t 22) (ki 2)),xm 24 23,xt 25 24 (.mov (.t 0)),xt 26 24 (.sidx (.t 25) (ki 0)),xt 27 24 (.bin .eql 0 (.t 26) (.k (.int .u8 48))),xo 28 (.pick (.t 24) (.t 27) kf),xm 29 28,xt 30 29 (.mov (.t 0)),xt 31 29 (.sidx (.t 30) (ki 1)),xt 32 29 (.call 213 [(true, (.t 31))]),xt 33 29 (.bin .eql 0 (.t 32) (.k (.int .u8 98))),xt 34 29 (.mov (.t 33)),xf 35 34 (.mov (.t 0)),xf 36 34 (.sidx (.t 35) (ki 1)),xf 37 34 (.call 213 [(true, (.t 36))]),xf 38 34 (.bin .eql 0 (.t 37) (.k (.int .u8 111))),xt 39 29 (.pick (.t 34) kt (.t 38)),xt 40 29 (.mov (.t 39)),xf 41 40 (.mov (.t 0)),xf 42 40 (.sidx (.t 41) (ki 1)),xf 43 40 (.call 213 [(true, (.t 42))]),xf 44 40 (.bin .eql 0 (.t 43) (.k (.int .u8 120))),xt 45 29 (.pick (.t 40) kt (.t 44)),xo 46 (.pick (.t 29) (.t 45) kf)] (rng 21 25))
(.cond (.t 46) [46] (.seq (.reg [xo 4 (.mov (ki 2))] [])
(.seq (.reg [xo 3 (.mov (.k (.int .i32 48)))] [])
(.reg [xm 47 0,xo 48 (.sidx (.t 47) (ki 1)),xo 49 (.call 213 [(true, (.t 48))]),xo 50 (.bin .eql 0 (.t 49) (.k (.int .u8 120))),xm 5 50] (rng 47 4)))) .skip))
(.seq (.block 0 (.loop false (.seq (.seq (.reg [xm 51 4,xm 52 0,xo 53 (.len 0 (.t 52)),xo 54 (.bin .lss 0 (.t 51) (.t 53))] [51,52,53])
(.cond (.t 54) [54] .skip (.exit 0)))
(.seq (.block 1 (.seq (.seq (.reg [xm 57 0,xm 58 4,xo 59 (.sidx (.t 57) (.t 58)),xo 60 (.bin .leq 0 (.k (.int .u8 48)) (.t 59)),xm 61 60,xt 62 61 (.mov (.t 0)),xt 63 61 (.mov (.t 4)),xt 64 61 (.sidx (.t 62) (.t 63)),xt 65 61 (.bin .leq 0 (.t 64) (.k (.int .u8 57))),xo 66 (.pick (.t 61) (.t 65) kf),xm 67 66,xf 68 67 (.mov (.t 5)),xf 69 67 (.mov (.t 68)),xt 70 69 (.mov (.t 0)),xt 71 69 (.mov (.t 4)),xt 72 69 (.sidx (.t 70) (.t 71)),xt 73 69 (.call 213 [(true, (.t 72))]),xt 74 69 (.bin .leq 0 (.k (.int .u8 97)) (.t 73)),xf 75 67 (.pick (.t 69) (.t 74) kf),xf 76 67 (.mov (.t 75)),xt 77 76 (.mov (.t 0)),xt 78 76 (.mov (.t 4)),xt 79 76 (.sidx (.t 77) (.t 78)),xt 80 76 (.call 213 [(true, (.t 79))]),xt 81 76 (.bin .leq 0 (.t 80) (.k (.int .u8 102))),xf 82 67 (.pick (.t 76) (.t 81) kf),xo 83 (.pick (.t 67) kt (.t 82))] (rng 57 26))
(.cond (.t 83) [83] (.seq (.reg [xo 3 (.mov (.k (.int .i32 48)))] [])
(.exit 1)) .skip))
(.seq (.seq (.reg [xm 84 0,xm 85 4,xo 86 (.sidx (.t 84) (.t 85)),xo 87 (.bin .eql 0 (.t 86) (.k (.int .u8 95)))] [84,85,86])
(.cond (.t 87) [87] (.seq (.seq (.reg [xm 88 3,xo 89 (.bin .neq 0 (.t 88) (.k (.int .i32 48)))] [88])
(.cond (.t 89) [89] (.seq (.reg [xo 2 (.mov kf)] [])
.ret) .skip))
(.seq (.reg [xo 3 (.mov (.k (.int .i32 95)))] [])
(.exit 1))) .skip))
(.seq (.seq (.reg [xm 90 3,xo 91 (.bin .eql 0 (.t 90) (.k (.int .i32 95)))] [90])
(.cond (.t 91) [91] (.seq (.reg [xo 2 (.mov kf)] [])
.ret) .skip))
(.reg [xo 3 (.mov (.k (.int .i32 33)))] [])))))
(.reg [xm 55 4,xo 56 (.bin .add 0 (.t 55) (ki 1)),xm 4 56] [55,56])))))
(.seq (.reg [xm 92 3,xo 93 (.bin .neq 0 (.t 92) (.k (.int .i32 95))),xm 2 93] [92,93])
.ret))))))))
/-- internal/strconv.underscoreOK -/
def fn1190 : AFn := ⟨1, 94, c1190, [(.t 2)], 0⟩
theorem fn1190_body : fn1190.body = c1190 := rfl
theorem fn1190_res : fn1190.res = [(.t 2)] := rfl
theorem fn1190_keep : fn1190.keep = 0 := rfl
def c1183 : ACode :=
(.seq (.reg [xo 6 (.anil 78 5)] [])
(.seq (.reg [xm 7 0,xm 8 1,xm 9 2,xo 10 (.call 25 [(true, (.t 8)),(true, (.t 9))]),xo 11 (.ext (.t 10) 0),xo 12 (.ext (.t 10) 1),xo 13 (.call 169 [(false, (.t 7)),(true, (.t 11)),(true, (.t 12))]),xm 6 13] (rng 7 7))
.ret))
/-- (*caesura/parse.reader).one -/
def fn1183 : AFn := ⟨3, 14, c1183, [(.t 6)], 0⟩
theorem fn1183_body : fn1183.body = c1183 := rfl
theorem fn1183_res : fn1183.res = [(.t 6)] := rfl
theorem fn1183_keep : fn1183.keep = 0 := rfl
def c1185 : ACode :=
(.seq (.reg [xo 2 (.anil 78 5)] [])
(.seq (.seq (.reg [xm 6 0,⟨(some 7), none, .mkl 9 1 [(.str ⟨#[]⟩)] 2 [(0, (.k (.str ⟨#[99, 108, 97, 115, 115]⟩))),(1, (.k (.str ⟨#[101, 108, 115, 101]⟩)))] false, []⟩,xo 8 (.call 114 [(false, (.t 6)),(true, (ki 1)),(true, (.t 7))])] [6,7])
(.cond (.t 8) [8] (.reg [xm 9 0,xo 10 (.call 117 [(false, (.t 9))]),xo 11 (.call 116 [(true, (ki 11)),(true, (.t 10))])] [9,10,11]) .skip))
(.seq (.reg [xm 12 0,xo 13 (.call 119 [(false, (.t 12)),(true, (ki 1)),(true, (.k (.list 1 [])))]),⟨(some 3), none, .new [(.int .i64 0),(.str ⟨#[]⟩),(.int .i64 0)], []⟩,xn (.store false 3 (.t 3) (.t 13))] [12,13])
(.seq (.reg [xo 14 (.faddr 1 (.t 3)),xo 15 (.load false 1 (.t 14))] [14])
(.block 0 (.seq (.reg [⟨(some 37), none, .bin .eql 0 (.t 15) (.k (.str ⟨#[97, 110, 121]⟩)), []⟩,xm 36 37] [37])
(.cond (.t 36) [36] (.seq (.reg [xm 38 0,xo 39 (.agg [(.int .i64 0),(.int .i64 0)] [(0, 1, (ki 0)),(1, 1, (ki 1114111))]),xo 40 (.mkl 52 2 [(.int .i64 0),(.int .i64 0)] 1 [(0, (.t 39))] false),⟨(some 41), none, .call 219 [(false, (.t 38)),(true, (.t 40)),(true, (.k (.str ⟨#[]⟩)))], []⟩,xm 2 41] (rng 38 4))
.ret) (.seq (.reg [⟨(some 43), none, .bin .eql 0 (.t 15) (.k (.str ⟨#[101, 109, 112, 116, 121]⟩)), []⟩,xm 42 43] [43])
(.cond (.t 42) [42] (.seq (.reg [xo 44 (.call 27 [(true, (ki 1))]),xm 2 44] [44])
.ret) (.seq (.reg [⟨(some 46), none, .bin .eql 0 (.t 15) (.k (.str ⟨#[110, 101, 118, 101, 114]⟩)), []⟩,xm 45 46] [46])
(.cond (.t 45) [45] (.seq (.reg [xo 47 (.call 27 [(true, (ki 0))]),xm 2 47] [47])
.ret) (.seq (.dreg [xm 17 0,yo 18 (.nilck (.t 17)) [0],yo 19 (.faddr 2 (.t 18)) [0, 1],yo 20 (.load false 1 (.t 19)) [0, 1, 2],xo 21 (.faddr 1 (.t 3)),yo 22 (.load false 1 (.t 21)) [4],yo 23 (.look 2 [] (.list 2 []) true (.t 20) (.t 22)) [0, 1, 2, 3, 4, 5],ym 16 23 [0, 1, 2, 3, 4, 5, 6],yo 24 (.ext (.t 16) 0) [0, 1, 2, 3, 4, 5, 6, 7],yo 25 (.ext (.t 16) 1) [0, 1, 2, 3, 4, 5, 6, 7],ym 4 24 [0, 1, 2, 3, 4, 5, 6, 7, 8],ym 5 25 (rng 0 11)] (rng 16 10))
(.seq (.seq (.reg [xm 26 5,xo 27 (.un .not (.t 26))] [26])
(.cond (.t 27) [27] (.reg [xo 28 (.faddr 2 (.t 3)),xo 29 (.load false 1 (.t 28)),xo 30 (.call 116 [(true, (ki 12)),(true, (.t 29))])] [28,29,30]) .skip))
(.seq (.reg [xm 31 0,xm 32 4,xo 33 (.faddr 1 (.t 3)),xo 34 (.load false 1 (.t 33)),xo 35 (.call 219 [(false, (.t 31)),(true, (.t 32)),(true, (.t 34))]),xm 2 35] (rng 31 5))
.ret))))))))))))))
/-- (*caesura/parse.reader).word -/
def fn1185 : AFn := ⟨1, 48, c1185, [(.t 2)], 0⟩
theorem fn1185_body : fn1185.body = c1185 := rfl
theorem fn1185_res : fn1185.res = [(.t 2)] := rfl
theorem fn1185_keep : fn1185.keep = 0 := rfl
end Go.Proofs.Abs
